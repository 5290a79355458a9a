/-
  THE WALK of IsoWrites.
-/
import Derived.Test.YthckgkghmlkcnaaDoorIsW6
import Derived.Test.YthckgkghmlkcnaaDoorIsQ
namespace Go.Proofs.YthckgkghmlkcnaaDoor
open Go.RowKit

theorem boxB (w : World) (c b : Obj) : (((w.alloc c).alloc b).drew).heap[w.heap.size + 1]? = some b := by
  show ((w.alloc c).alloc b).heap[w.heap.size + 1]? = some b
  have := heap_new (w.alloc c) b
  simpa using this
theorem boxC (w : World) (c b : Obj) : (((w.alloc b).alloc c).drew).heap[w.heap.size]? = some b := heap_old _ (heap_new w b)
theorem ownsB (w : World) (b : Obj) : (((w.alloc (.cells #[] 41)).alloc b).drew).ownsRow w.heap.size 41 FldR.k (.slice (some ⟨w.heap.size, 0, none⟩) 0 0) 0 (FldR.flat []) :=
  ownsRow_fr (World.ownsRow_made w #[] 0 (Nat.le_refl _) (Nat.zero_le _) rfl) (((Fr.refl noBlock (w.alloc (.cells #[] 41))).alloc b).drew) (fun _ _ x => x)
theorem ownsC (w : World) (b : Obj) : (((w.alloc b).alloc (.cells #[] 41)).drew).ownsRow (w.heap.size + 1) 41 FldR.k (.slice (some ⟨w.heap.size + 1, 0, none⟩) 0 0) 0 (FldR.flat []) := by
  rw [show w.heap.size + 1 = (w.alloc b).heap.size by simp]
  exact ownsRow_fr (World.ownsRow_made (w.alloc b) #[] 0 (Nat.le_refl _) (Nat.zero_le _) rfl) ((Fr.refl noBlock _).drew) (fun _ _ x => x)
theorem far_box {W w2 : World} {bx : Nat} {x y : Value} {T : TypeId} {v : Value} (hb : W.heap[bx]? = some (.cells #[x, y] T (0, 0))) (g2 : W.grownBy w2 v.ownBlock) (hne : some bx ≠ v.ownBlock) : w2.heap[bx]? = some (.cells #[x, y] T (0, 0)) ∧ w2.cell? ⟨bx, 0, none⟩ = some x ∧ w2.cell? ⟨bx, 1, none⟩ = some y ∧ w2.frozen? ⟨bx, 0, none⟩ = false ∧ w2.frozen? ⟨bx, 1, none⟩ = false := by
  have h := (g2.block bx (heap_lt hb) hne).trans hb
  exact ⟨h, by rw [cell_of h]; rfl, by rw [cell_of h]; rfl, free_of h 0, free_of h 1⟩
def InBox (w1 : World) (t : ByteArray) (l : List Fld) (bx : Nat) (ao2 : Option Addr) (cap2 : Nat) (X : World) : Prop :=
  X.heap[bx]? = some (.cells #[.string t, .slice ao2 l.length cap2] 27 (0, 0)) ∧ RowAt 41 FldR X (.slice ao2 l.length cap2) l ∧ Fr noBlock w1 X
theorem finA {w1 W w2 : World} {row base cap2 : Nat} {ao2 : Option Addr} {l : List Fld} (t : ByteArray) (f : Fr noBlock w1 W) (hrow : w1.heap.size ≤ row) (o2 : w2.ownsRow base 41 FldR.k (.slice ao2 l.length cap2) l.length (FldR.flat l)) (g2 : W.grownBy w2 (Value.slice (some ⟨row, 0, none⟩) 0 0).ownBlock) :
    InBox w1 t l w2.heap.size ao2 cap2 (w2.alloc (.cells #[.string t, .slice ao2 l.length cap2] 27)) := by
  have f2 : Fr noBlock w1 w2 := f.grown g2 (fun k hk => .inr (by
    have e : row = k := by simpa [Value.ownBlock] using hk
    omega))
  exact ⟨heap_new w2 _, (RowAt.of_own o2 rfl).fr0 ((Fr.refl noBlock w2).alloc _), f2.alloc _⟩
theorem finB {w1 W w2 : World} {row base cap2 bx : Nat} {ao2 : Option Addr} {l : List Fld} {x y : Value} (t : ByteArray) (f : Fr noBlock w1 W) (hrow : w1.heap.size ≤ row) (hb : w1.heap.size ≤ bx) (hlt : bx < W.heap.size) (hne : row ≠ bx) (o2 : w2.ownsRow base 41 FldR.k (.slice ao2 l.length cap2) l.length (FldR.flat l)) (g2 : W.grownBy w2 (Value.slice (some ⟨row, 0, none⟩) 0 0).ownBlock)
    (a2 : (Value.slice ao2 l.length cap2).ownBlock = (Value.slice (some ⟨row, 0, none⟩) 0 0).ownBlock ∨ (Value.slice ao2 l.length cap2).ownBlock = some W.heap.size) (hbx : w2.heap[bx]? = some (.cells #[x, y] 27 (0, 0))) :
    InBox w1 t l bx ao2 cap2 ((w2.setCell ⟨bx, 0, none⟩ (.string t)).setCell ⟨bx, 1, none⟩ (.slice ao2 l.length cap2)) := by
  have f2 : Fr noBlock w1 w2 := f.grown g2 (fun k hk => .inr (by
    have e : row = k := by simpa [Value.ownBlock] using hk
    omega))
  have hs := ((Fr.refl (fun k => k = bx) w2).setCell (p := ⟨bx, 0, none⟩) (.inl rfl) (.string t)).setCell (p := ⟨bx, 1, none⟩) (.inl rfl) (.slice ao2 l.length cap2)
  have h1 := heap_set_eq (i := 0) (u := .string t) hbx
  have h2 := heap_set_eq (i := 1) (u := .slice ao2 l.length cap2) h1
  refine ⟨by simpa using h2, (RowAt.of_own o2 rfl).fr hs (fun k hk e => ?_), f2.trans hs (fun k hk => .inr (by have e : k = bx := hk; omega))⟩
  have e' : k = bx := e
  subst e'
  rcases a2 with a | a
  · rw [a] at hk
    have : row = k := by simpa [Value.ownBlock] using hk
    omega
  · rw [a] at hk
    cases hk
    omega
set_option maxRecDepth 100000 in
set_option maxHeartbeats 6400000 in
theorem writes_walk {t : ByteArray} {ao : Option Addr} {cap : Nat} {l : List Fld} {w : World} (n : Int) (s : ByteArray) (h : ArgM w t ao cap l) : Calls Tryd.prog 7 #[.agg #[.string t, .slice ao l.length cap], .int .i64 n, .string s] w (LawP w) := by
  have HA := Lib.hid h
  have hn24 := h.n
  have HB0 := Lib.hid (heap_new w (.cells #[.string t, .slice ao l.length cap] 27))
  have HF0 := Lib.hid ((Fr.refl noBlock w).alloc (.cells #[.string t, .slice ao l.length cap] 27))
  clear h
  go_enter Tryd.func7, Tryd.ntmps7
  go_wp2_with fail
  refine (small_any _).mono ?_
  rintro e w1 ⟨rfl, f1⟩
  have HB1 := Lib.hid (f1.obj HB0.out (fun x => x))
  have HF1 := Lib.hid (HF0.out.trans' f1)
  clear f1 HB0 HF0
  have x0 := cell_of HB1.out 0
  have x1 := cell_of HB1.out 1
  simp at x0 x1
  have hb1 : w.heap.size < w1.heap.size := heap_lt HB1.out
  have hlm : l.length ≤ maxLen := by unfold maxLen; omega
  go_upto_region 2 with fail
  go_cut [8] from 28 to 34 (fun s8 wx => ∃ (bx : Nat) (ao2 : Option Addr) (cap2 : Nat), s8 = .pointer (some ⟨bx, 0, none⟩) ∧ Hid (InBox w1 t l bx ao2 cap2 wx))
  case first =>
    go_region_law (first
      | (refine step_app (by rfl) _ _ (by rfl) el_fld (v := .slice (some ⟨w1.heap.size, 0, none⟩) 0 0) [] l l rfl (w1.heap.size) 0 l.length rfl (by rfl) (ownsRow_fr (World.ownsRow_made w1 #[] 0 (Nat.le_refl _) (Nat.zero_le _) rfl) ((Fr.refl noBlock (w1.alloc (.cells #[] 41))).drew) (fun _ _ x => x)) (by rfl) (HA.out.rd.fr0 (HF1.out.trans' (((Fr.refl noBlock w1).alloc _).drew))) rfl (by unfold maxLen; omega) (by omega) (by simp <;> omega) ?_; intro ao2 cap2 w2 o2 g2 a2; obtain ⟨-, v0, v1, -, -⟩ := far_box ((((Fr.refl noBlock w1).alloc _).drew).obj HB1.out (fun x => x)) g2 (by simp [Value.ownBlock] <;> omega); have hw2 : w.heap.size < w2.heap.size := World.block_lt_of_cell? _ _ v0; have vA := fun o => (World.cell?_alloc_lt w2 o ⟨w.heap.size, 0, none⟩ hw2).trans v0; have HFin := Lib.hid (finA t (((Fr.refl noBlock w1).alloc _).drew) (Nat.le_refl _) o2 g2))
      | (refine step_app (by rfl) _ _ (by rfl) el_fld (v := .slice (some ⟨w1.heap.size, 0, none⟩) 0 0) [] l l rfl (w1.heap.size) 0 l.length rfl (by rfl) (ownsB w1 _) (by rfl) (HA.out.rd.fr0 (HF1.out.trans' ((((Fr.refl noBlock w1).alloc _).alloc _).drew))) rfl (by unfold maxLen; omega) (by omega) (by simp <;> omega) ?_; intro ao2 cap2 w2 o2 g2 a2; obtain ⟨-, v0, v1, -, -⟩ := far_box (((((Fr.refl noBlock w1).alloc _).alloc _).drew).obj HB1.out (fun x => x)) g2 (by simp [Value.ownBlock] <;> omega); obtain ⟨hbx, u0, u1, uz0, uz1⟩ := far_box (boxB w1 _ _) g2 (by simp [Value.ownBlock]); have HFin := Lib.hid (finB t ((((Fr.refl noBlock w1).alloc _).alloc _).drew) (Nat.le_refl _) (Nat.le_succ _) (by simp) (Nat.ne_of_lt (Nat.lt_succ_self _)) o2 g2 a2 hbx))
      | (refine step_app (by rfl) _ _ (by rfl) el_fld (v := .slice (some ⟨w1.heap.size + 1, 0, none⟩) 0 0) [] l l rfl (w1.heap.size + 1) 0 l.length rfl (by rfl) (ownsC w1 _) (by rfl) (HA.out.rd.fr0 (HF1.out.trans' ((((Fr.refl noBlock w1).alloc _).alloc _).drew))) rfl (by unfold maxLen; omega) (by omega) (by simp <;> omega) ?_; intro ao2 cap2 w2 o2 g2 a2; obtain ⟨-, v0, v1, -, -⟩ := far_box (((((Fr.refl noBlock w1).alloc _).alloc _).drew).obj HB1.out (fun x => x)) g2 (by simp [Value.ownBlock] <;> omega); obtain ⟨hbx, u0, u1, uz0, uz1⟩ := far_box (boxC w1 _ _) g2 (by simp [Value.ownBlock]); have HFin := Lib.hid (finB t ((((Fr.refl noBlock w1).alloc _).alloc _).drew) (Nat.le_succ _) (Nat.le_refl _) (by simp <;> omega) (Nat.ne_of_gt (Nat.lt_succ_self _)) o2 g2 a2 hbx)))
    all_goals
      clear o2 g2 a2
      go_wp2_with fail
      go_meet
      exact ⟨_, ao2, cap2, rfl, HFin⟩
  obtain ⟨bx, ao2, cap2, rfl, HIn⟩ := hcut
  generalize wc = w2 at *
  have HF2 := Lib.hid (HF1.out.trans' HIn.out.2.2)
  have HK := Lib.hid (show ∀ W, Fr noBlock w2 W → (W.cell? ⟨w.heap.size, 0, none⟩ = some (.string t) ∧ W.cell? ⟨w.heap.size, 1, none⟩ = some (.slice ao l.length cap) ∧ W.cell? ⟨bx, 0, none⟩ = some (.string t) ∧ W.cell? ⟨bx, 1, none⟩ = some (.slice ao2 l.length cap2)) ∧ RowRd FldR W ao l ∧ RowRd FldR W ao2 l ∧ Fr noBlock w W from fun W hf => by
    have hm := hf.obj (HIn.out.2.2.obj HB1.out (fun x => x)) (fun x => x)
    have hi := hf.obj HIn.out.1 (fun x => x)
    have c0 := cell_of hm 0
    have c1 := cell_of hm 1
    have d0 := cell_of hi 0
    have d1 := cell_of hi 1
    simp at c0 c1 d0 d1
    exact ⟨⟨c0, c1, d0, d1⟩, HA.out.rd.fr0 (HF2.out.trans' hf), (RowAt.rd HIn.out.2.1).fr0 hf, HF2.out.trans' hf⟩)
  have HNo := Lib.hid (show ao2 = none → cap2 = 0 from fun e => by
    obtain ⟨a, c, ev, -, -, -, h⟩ := HIn.out.2.1.shape
    simp only [Value.slice.injEq] at ev
    obtain ⟨rfl, -, rfl⟩ := ev
    exact (h e).2)
  obtain ⟨⟨x0, x1, i0, i1⟩, r0, r1, -⟩ := HK.out _ (Fr.refl _ _)
  have HBy := Lib.hid (bytes_any t r1 cap2 HA.out.small)
  unfold ReadP at HBy
  clear r0 r1 HB1 HF1 hb1 HIn
  go_wp2_with fail
  refine HBy.out.mono ?_
  rintro e w3 ⟨⟨sa, sn, sc⟩, rfl, h1, h2, h3, h4⟩
  unfold SV.val at h2 ⊢
  dsimp only at h1 h2 ⊢
  have HF3 := Lib.hid h3
  have HR3 := Lib.hid (And.intro h1 (RowAt.rd h2))
  clear h1 h2 h3 h4 HBy x0 x1 i0 i1
  obtain ⟨⟨x0, x1, i0, i1⟩, r0, r1, -⟩ := HK.out _ HF3.out
  have HBy := Lib.hid (rbytes_any t r0 cap HA.out.small)
  unfold ReadP at HBy
  clear r0 r1
  go_wp2_with fail
  refine HBy.out.mono ?_
  rintro e w4 ⟨⟨ta, tn, tc⟩, rfl, h1, h2, h3, h4⟩
  unfold SV.val at h2 ⊢
  dsimp only at h1 h2 ⊢
  have HF4 := Lib.hid (HF3.out.trans' h3)
  have HR4 := Lib.hid (And.intro HR3.out.1 (And.intro (HR3.out.2.fr0 h3) (And.intro h1 (RowAt.rd h2))))
  clear h1 h2 h3 h4 HBy x0 x1 i0 i1 HF3 HR3
  obtain ⟨⟨x0, x1, i0, i1⟩, r0, r1, -⟩ := HK.out _ HF4.out
  have HP := Lib.hid (put_any t n s r1 HNo.out hn24)
  unfold PutP at HP
  clear r0 r1
  go_wp2_with fail
  refine HP.out.mono ?_
  rintro e w5 ⟨⟨pa, pn, pc⟩, rfl, h1, h2, h3, h4⟩
  unfold SV.val at h2 h4 ⊢
  dsimp only at h1 h2 h4 ⊢
  subst h1
  have hpl := putL_len l n s
  have HB6 := Lib.hid (heap_new w5 (.cells #[.string t, .slice pa (putL l n s).length pc] 27))
  have f6 := h3.alloc (.cells #[.string t, .slice pa (putL l n s).length pc] 27)
  have HF6 := Lib.hid (HF4.out.trans' f6)
  have HR6 := Lib.hid (And.intro HR4.out.1 (And.intro (HR4.out.2.1.fr0 f6) (And.intro HR4.out.2.2.1 (HR4.out.2.2.2.fr0 f6))))
  have HX6 := Lib.hid (And.intro (h2.fr0 ((Fr.refl noBlock w5).alloc (.cells #[.string t, .slice pa (putL l n s).length pc] 27))) (show ∀ k, (Value.slice pa (putL l n s).length pc).ownBlock = some k → w4.heap.size ≤ k ∧ k < w5.heap.size from fun k hk => ⟨h4 k hk, h2.lt k hk⟩))
  clear h2 h3 h4 f6 HP HR4 x0 x1 i0 i1
  obtain ⟨⟨x0, x1, i0, i1⟩, r0, r1, -⟩ := HK.out _ HF6.out
  have HV := Lib.hid (value_of t r1 cap2 hlm n)
  unfold ValueP at HV
  clear r0 r1
  go_wp2_with fail
  refine HV.out.mono ?_
  rintro e w7 ⟨rfl, f7⟩
  have HF7 := Lib.hid (HF6.out.trans' f7)
  have HR7 := Lib.hid (And.intro HR6.out.1 (And.intro (HR6.out.2.1.fr0 f7) (And.intro HR6.out.2.2.1 (HR6.out.2.2.2.fr0 f7))))
  have HX7 := Lib.hid (And.intro (HX6.out.1.fr0 f7) HX6.out.2)
  have HB7 := Lib.hid (f7.obj HB6.out (fun x => x))
  clear f7 HF6 HR6 HX6 HB6 HV x0 x1 i0 i1
  obtain ⟨⟨x0, x1, i0, i1⟩, r0, r1, -⟩ := HK.out _ HF7.out
  have HV := Lib.hid (rvalue_of t r0 cap hlm n)
  unfold ValueP at HV
  clear r0 r1
  go_wp2_with fail
  refine HV.out.mono ?_
  rintro e w8 ⟨rfl, f8⟩
  have HF8 := Lib.hid (HF7.out.trans' f8)
  have HR8 := Lib.hid (And.intro HR7.out.1 (And.intro (HR7.out.2.1.fr0 f8) (And.intro HR7.out.2.2.1 (HR7.out.2.2.2.fr0 f8))))
  have HX8 := Lib.hid (And.intro (HX7.out.1.fr0 f8) HX7.out.2)
  have HB8 := Lib.hid (f8.obj HB7.out (fun x => x))
  clear f8 HF7 HR7 HX7 HB7 HV x0 x1 i0 i1
  obtain ⟨u, hu⟩ : ∃ u, strB (bytesR t l) = u := ⟨_, rfl⟩
  have hs1 : sn = (bytesR t l).length := HR8.out.1
  have ht1 : tn = (bytesR t l).length := HR8.out.2.2.1
  obtain ⟨N, hN⟩ : ∃ N, (bytesR t l).length = N := ⟨_, rfl⟩
  rw [hN] at hs1 ht1
  subst hs1 ht1
  have HKx := Lib.hid (show ∀ W, Fr noBlock w8 W → (W.cell? ⟨w.heap.size, 0, none⟩ = some (.string t) ∧ W.cell? ⟨w.heap.size, 1, none⟩ = some (.slice ao l.length cap) ∧ W.cell? ⟨w5.heap.size, 0, none⟩ = some (.string t) ∧ W.cell? ⟨w5.heap.size, 1, none⟩ = some (.slice pa (putL l n s).length pc)) ∧
      Sem.run Tryd.prog (convert 22 9 (.slice sa tn sc)) W = .ok (.string u) W ∧ Sem.run Tryd.prog (convert 22 9 (.slice ta tn tc)) W = .ok (.string u) W from fun W hf => by
    obtain ⟨⟨c0, c1, -, -⟩, -⟩ := HK.out _ (HF8.out.trans' hf)
    have hb := hf.obj HB8.out (fun x => x)
    have d0 := cell_of hb 0
    have d1 := cell_of hb 1
    simp at d0 d1
    have e1 := conv_rd (HR8.out.2.1.fr0 hf) sc
    have e2 := conv_rd (HR8.out.2.2.2.fr0 hf) tc
    rw [hN, hu] at e1 e2
    exact ⟨⟨c0, c1, d0, d1⟩, e1, e2⟩)
  have HRp := Lib.hid (show ∀ (W : World), Fr noBlock w8 W → Calls Tryd.prog 22 #[.agg #[.string t, .slice ao l.length cap], .int .i64 n, .string s] W (fun e w' => ∃ (qa : Option Addr) (qc : Nat), e = .returned (.agg #[.string t, .slice qa (putL l n s).length qc]) ∧ RowAt 41 FldR w' (.slice qa (putL l n s).length qc) (putL l n s) ∧ Fr noBlock W w') from fun W hf =>
    (rput_any t cap n s (HK.out _ (HF8.out.trans' hf)).2.1 hn24).mono (by
      rintro e w' ⟨⟨qa, qn, qc⟩, h1, h2, h3, h4, -⟩
      unfold SV.val at h1 h3
      dsimp only at h1 h2 h3
      subst h2
      exact ⟨qa, qc, h1, h3, h4⟩))
  have HSm := Lib.hid (show ∀ (W W2 : World), Fr noBlock w8 W → Fr noBlock W W2 → ∀ (qa : Option Addr) (qc : Nat), RowAt 41 FldR W (.slice qa (putL l n s).length qc) (putL l n s) → Calls Tryd.prog 15 #[.agg #[.string t, .slice pa (putL l n s).length pc], .agg #[.string t, .slice qa (putL l n s).length qc]] W2 (SameP W2) from fun W W2 hf hf2 qa qc hr => by
    exact same_yes t (RowAt.rd (HX8.out.1.fr0 (hf.trans' hf2))) ((RowAt.rd hr).fr0 hf2) pc qc (show (putL l n s).length ≤ maxLen by unfold maxLen; omega))
  unfold SameP at HSm
  go_upto_region 8 with fail
  have HKy := Lib.hid (fun (W : World) (hf : Fr noBlock w8 W) => (show W.cell? ⟨w.heap.size, 0, none⟩ = some (.string t) ∧ W.cell? ⟨w.heap.size, 1, none⟩ = some (.slice ao l.length cap) ∧ W.cell? ⟨w5.heap.size, 0, none⟩ = some (.string t) ∧ W.cell? ⟨w5.heap.size, 1, none⟩ = some (.slice pa (putL l n s).length pc) ∧ Sem.run Tryd.prog (convert 22 9 (.slice sa tn sc)) W = .ok (.string u) W ∧ Sem.run Tryd.prog (convert 22 9 (.slice ta tn tc)) W = .ok (.string u) W from
    ⟨(HKx.out W hf).1.1, (HKx.out W hf).1.2.1, (HKx.out W hf).1.2.2.1, (HKx.out W hf).1.2.2.2, (HKx.out W hf).2.1, (HKx.out W hf).2.2⟩))
  obtain ⟨k0, k1, k2, k3, k4, k5⟩ := HKy.out _ (Fr.refl _ _)
  go_region_held3 (fun W => W.cell? ⟨w.heap.size, 0, none⟩ = some (.string t) ∧ W.cell? ⟨w.heap.size, 1, none⟩ = some (.slice ao l.length cap) ∧ W.cell? ⟨w5.heap.size, 0, none⟩ = some (.string t) ∧ W.cell? ⟨w5.heap.size, 1, none⟩ = some (.slice pa (putL l n s).length pc) ∧ Sem.run Tryd.prog (convert 22 9 (.slice sa tn sc)) W = .ok (.string u) W ∧ Sem.run Tryd.prog (convert 22 9 (.slice ta tn tc)) W = .ok (.string u) W)
    (first | exact HKy.out _ (Fr.refl _ _) | exact HKy.out _ ((Fr.refl _ _).drew) | exact HKy.out _ (((Fr.refl _ _).drew).trans' f9) | exact HKy.out _ ((((Fr.refl _ _).drew).trans' f9).trans' f10))
    (first
      | (go_at_call 22; (with_reducible refine (HRp.out _ ((Fr.refl _ _).drew)).mono ?_); rintro e w9 ⟨qa, qc, rfl, q2, f9⟩)
      | (go_at_call 15; (with_reducible refine (HSm.out _ _ (((Fr.refl _ _).drew).trans' f9) (Fr.refl _ _) _ _ q2).mono ?_); rintro e w10 ⟨rfl, f10⟩)
      | fail "noarm")
  have HF9 := Lib.hid (HF8.out.trans' (((((Fr.refl noBlock w8).drew).trans' f9).trans' f10)))
  have HX9 := Lib.hid (And.intro (HX8.out.1.fr0 ((((Fr.refl noBlock w8).drew).trans' f9).trans' f10)) HX8.out.2)
  have HB9 := Lib.hid (((((Fr.refl noBlock w8).drew).trans' f9).trans' f10).obj HB8.out (fun x => x))
  clear q2 f9 f10 k0 k1 k2 k3 k4 k5 HRp HSm HKx HKy HF8 HX8 HB8 HR8
  obtain ⟨⟨x0, x1, i0, i1⟩, r0, r1, -⟩ := HK.out _ HF9.out
  have HRa := Lib.hid (fun (W : World) (hf : Fr noBlock w10 W) => right_any t (HK.out _ (HF9.out.trans' hf)).2.2.1 cap2 HA.out.small)
  have HRb := Lib.hid (fun (W : World) (hf : Fr noBlock w10 W) => rright_any t (HK.out _ (HF9.out.trans' hf)).2.1 cap HA.out.small)
  unfold RightP at HRa HRb
  have HKz := Lib.hid (fun (W : World) (hf : Fr noBlock w10 W) => (HK.out W (HF9.out.trans' hf)).1)
  go_upto_region 9 with fail
  go_region_held3 (fun W => W.cell? ⟨w.heap.size, 0, none⟩ = some (.string t) ∧ W.cell? ⟨w.heap.size, 1, none⟩ = some (.slice ao l.length cap) ∧ W.cell? ⟨bx, 0, none⟩ = some (.string t) ∧ W.cell? ⟨bx, 1, none⟩ = some (.slice ao2 l.length cap2))
    (first | exact HKz.out _ (Fr.refl _ _) | exact HKz.out _ ((Fr.refl _ _).drew) | exact HKz.out _ (((Fr.refl _ _).drew).trans' f11) | exact HKz.out _ ((((Fr.refl _ _).drew).trans' f11).trans' f12))
    (first
      | (go_at_call 17; (with_reducible refine (HRa.out _ ((Fr.refl _ _).drew)).mono ?_); rintro e w11 ⟨rfl, f11⟩)
      | (go_at_call 23; (with_reducible refine (HRb.out _ (((Fr.refl _ _).drew).trans' f11)).mono ?_); rintro e w12 ⟨rfl, f12⟩)
      | fail "noarm")
  have HF12 := Lib.hid (((HF9.out.trans' ((Fr.refl noBlock w10).drew)).trans' f11).trans' f12)
  have hfx : Fr noBlock w10 w12 := (((Fr.refl noBlock w10).drew).trans' f11).trans' f12
  have HX12 := Lib.hid (And.intro (HX9.out.1.fr0 hfx) HX9.out.2)
  have HB12 := Lib.hid (hfx.obj HB9.out (fun x => x))
  clear hfx f11 f12 HX9 HB9 HRa HRb HKz
  have d0 := cell_of HB12.out 0
  have d1 := cell_of HB12.out 1
  simp at d0 d1
  have HO := Lib.hid (over_any t HX12.out.1 (by omega))
  unfold OverP at HO
  go_wp2_with fail
  refine HO.out.mono ?_
  rintro e w13 ⟨rfl, f13⟩
  have HF13 := Lib.hid (HF12.out.trans f13 (fun k hk => .inr (by
    have h1 := (HX12.out.2 k hk).1
    have h2 := HF4.out.size
    omega)))
  clear f13 HO d0 d1 x0 x1 i0 i1 HX12 HB12
  obtain ⟨⟨x0, x1, i0, i1⟩, r0, r1, -⟩ := HK.out _ HF13.out
  have HS := Lib.hid (same_yes t r1 r0 cap2 cap hlm)
  unfold SameP at HS
  clear r0 r1
  go_wp2_with fail
  refine HS.out.mono ?_
  rintro e w14 ⟨rfl, f14⟩
  have HF14 := Lib.hid (HF13.out.trans' f14)
  clear f14 HS x0 x1 i0 i1 HF13 HF12
  have HM := Lib.hid (fun (W : World) => format_any n W)
  have HM2 := Lib.hid (fun (W : World) => rformat_any n W)
  unfold FmtP at HM HM2
  go_wp2_with fail
  refine (HM.out _).mono ?_
  rintro e w15 ⟨rfl, rfl⟩
  go_wp2_with fail
  refine (HM2.out _).mono ?_
  rintro e w16 ⟨rfl, rfl⟩
  go_wp2_with fail
  go_ret
  exact LawP.mk' (HF2.out.trans' HF14.out)
end Go.Proofs.YthckgkghmlkcnaaDoor
