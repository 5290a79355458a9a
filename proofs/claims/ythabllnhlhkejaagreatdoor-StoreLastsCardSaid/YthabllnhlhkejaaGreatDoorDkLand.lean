/-
  THE WALK of disk.land.
-/
import Derived.Deep.RegionHeld3
import Derived.Deep.RegionLaw
import Derived.Test.YthabllnhlhkejaaGreatDoorCopy
import Derived.Test.YthabllnhlhkejaaGreatDoorDkWalk
namespace Go.Proofs.YthabllnhlhkejaaGreatDoor
open Go.RowKit

theorem odd_t (p : Int) : (p.tmod 2 != 0) = decide (p % 2 ≠ 0) := by
  have h1 := Int.lt_tmod_of_pos p (show (0 : Int) < 2 by omega)
  have h2 := Int.tmod_lt_of_pos p (show (0 : Int) < 2 by omega)
  have h3 := Int.tmod_add_mul_tdiv p 2
  rw [Bool.eq_iff_iff]
  simp only [bne_iff_ne, decide_eq_true_eq]
  omega

theorem rise_len {l : Dirt} {N : Nat} : ∀ {a : Nat}, Rise l → (∀ p ∈ l, a ≤ p.1 ∧ p.1 < N) → l.length ≤ N - a := by
  induction l with
  | nil => intro a _ _; exact Nat.zero_le _
  | cons p l ih =>
    intro a h hN
    have hp := List.pairwise_cons.1 h
    have h1 := hN p (by simp)
    have := ih (a := p.1 + 1) hp.2 (fun q hq => ⟨hp.1 q hq, (hN q (by simp [hq])).2⟩)
    rw [List.length_cons]
    omega
theorem dirt_len {d : DK} (h : d.Good) : d.dirty.length ≤ 4096 := Nat.le_trans (rise_len (a := 0) h.rise (fun p hp => ⟨Nat.zero_le _, (h.there p hp).1⟩)) h.n1

def WriteP (l : Nat) (d' : DK) (x : Int) (F : Nat → Prop) (w : World) (e : Ending) (w' : World) : Prop := ∃ F', e = .returned (.int .i64 x) ∧ DiskAt l d' w' F' ∧ Step F F' w w'
set_option maxRecDepth 100000 in
set_option maxHeartbeats 800000 in
theorem write_any0 {l : Nat} {d : DK} {w : World} {F : Nat → Prop} (h : DiskAt l d w F) (n : Int) {ao : Option Addr} {b : Bs} (hb : RowRd ByteR w ao b) (hap : 0 < b.length → ∀ a, ao = some a → ¬ F a.block) (cap : Nat) (hbn : b.length ≤ 9223372036854775807) :
    Calls Tryz.prog 70 #[.pointer (some ⟨l, 0, none⟩), .int .i64 n, .slice ao b.length cap] w (WriteP l (d.write n b) (d.writeE n b.length) F w) := by
  have H := Lib.hid h
  have Hcut := Lib.hid (cut_any h)
  have His := Lib.hid (is_any h n _ rfl)
  have HB := Lib.hid hb
  have HAP := Lib.hid hap
  have hgood := h.good
  obtain ⟨acts, part, sv, ss, bm, g, hin⟩ := h
  obtain ⟨c0, c1, c2, c3, c4, c5, c6⟩ := hin.cells
  have Harm := Lib.hid hin.arm
  have C3 := Lib.hid c3
  have hs0 := hgood.s0
  have hs1 := hgood.s1
  have Hgood := Lib.hid hgood
  have Hin := Lib.hid hin
  clear hin c1 c2 c3 c5 c6 hb hgood hap
  cases hoff : d.off with
  | true =>
    rw [hoff] at c0
    have Hd := Lib.hid (show d.write n b = d ∧ d.writeE n b.length = 30 by simp [DK.write, DK.writeE, hoff])
    clear hoff
    go_enter Tryz.func70, Tryz.ntmps70
    go_wp2_with fail
    go_ret
    exact ⟨F, ret_int Hd.out.2.symm, by rw [Hd.out.1]; exact H.out, Step.refl _ _⟩
  | false =>
    rw [hoff] at c0
    cases his : d.isS n with
    | false =>
      have Hd := Lib.hid (show d.write n b = d ∧ d.writeE n b.length = 31 by simp [DK.write, DK.writeE, hoff, his])
      rw [his] at His
      clear hoff
      go_enter Tryz.func70, Tryz.ntmps70
      go_wp2_with fail
      refine His.out.mono ?_
      rintro e w1 ⟨rfl, rfl⟩
      go_wp2_with fail
      go_ret
      exact ⟨F, ret_int Hd.out.2.symm, by rw [Hd.out.1]; exact H.out, Step.refl _ _⟩
    | true =>
      rw [his] at His
      by_cases hlen : b.length = d.size
      · have hlb : ((b.length : Int) != (d.size : Int)) = false := by simp [hlen]
        have hbz : b.length ≤ 4096 := by omega
        have hdE : d.writeE n b.length = if d.gone then 30 else 0 := by simp [DK.writeE, hoff, his, hlen]
        have hdW : d.write n b = if d.gone && !d.oddP then d.cut else { d.cut with dirty := putD d.dirty n.toNat b } := by simp [DK.write, hoff, his, hlen]
        have Hd := Lib.hid (And.intro hdE hdW)
        have Hlen := Lib.hid hlen
        have Hiss := Lib.hid his
        have hn4 : 0 ≤ n ∧ n ≤ 4096 := by have := DK.isS_iff.1 his; have := Hgood.out.n1; omega
        obtain ⟨hn0, hn1⟩ := hn4
        -- the store
        have Hput := Lib.hid (show ∀ w1, DiskAt l d.cut w1 F → Step F F w w1 → ∃ bm', w1.cell? ⟨l, 6, none⟩ = some (.map (some bm')) ∧ ∀ w2 (s : SV), Fr noBlock w1 w2 → RowAt 5 ByteR w2 s.val b → (∀ k, s.val.ownBlock = some k → w1.heap.size ≤ k) →
            ∃ w3, (Instr.mapUpdate 44 (.map (some bm')) (.int .i64 n) s.val).run Tryz.prog w2 = .ok () w3 ∧ w3.cell? ⟨l, 6, none⟩ = some (.map (some bm')) ∧ ∃ F', DiskAt l { d.cut with dirty := putD d.dirty n.toNat b } w3 F' ∧ Step F F' w w3 by
          intro w1 h1 s1
          obtain ⟨acts, part, sv, ss, bm, g, hin⟩ := h1
          obtain ⟨e1, e2, e3⟩ := d.cut_same
          refine ⟨bm, hin.cells.2.2.2.2.2.2, fun w2 s f2 r2 n2 => ?_⟩
          have hm2 := hin.map.fr f2 (fun x => x)
          obtain ⟨w3, hrun, hm3, ht3⟩ := hm2.store (mt := 44) Tryz.underlying44 (by have := hin.good.n1; unfold maxLen; rw [e3]; have := dirt_len Hgood.out; omega) (kI_ok hn0 hn1) s.val
          obtain ⟨F', h3, s3⟩ := hin.put f2 (n := n) (b := b) (by unfold DK.isS; rw [e2]; exact Hiss.out) (by rw [e1]; exact Hlen.out) r2 n2 (N := _) rfl (by simpa using hm3) ht3
          refine ⟨w3, hrun, h3.cells.2.2.2.2.2.2, F', ?_, s1.trans s3⟩
          rw [e3] at h3
          exact ⟨_, _, _, _, _, _, h3⟩)
        clear hdE hdW hoff his hlen
        go_enter Tryz.func70, Tryz.ntmps70
        go_wp2_with fail
        refine His.out.mono ?_
        rintro e w1 ⟨rfl, rfl⟩
        go_wp2_with fail
        refine Hcut.out.mono ?_
        rintro e w1 ⟨rfl, h1, s1, k1⟩
        obtain ⟨bm', x6, hst⟩ := Hput.out w1 h1 s1
        have x3 := (k1 3 (by omega)).trans C3.out
        have Hst := Lib.hid hst
        have H1 := Lib.hid (And.intro h1 s1)
        have Hb1 := Lib.hid (HB.out.fr s1.fr (fun b off e => HAP.out (by have := Hlen.out; omega) _ e))
        have Hl1 := Lib.hid (show l < w1.heap.size by have := heap_lt Hin.out.box; have := s1.size; omega)
        clear hst h1 s1 k1
        cases hg : d.gone with
        | false =>
          rw [hg] at Hd
          clear x3
          go_wp2_with fail
          go_region_held3 (fun W => W.cell? ⟨l, 6, none⟩ = some (.map (some bm'))) (first | exact x6 | exact x7 | exact x8)
            ((go_at_call 52; (with_reducible refine (clone_any (bs := b) (Hb1.out.fr0 (by first | exact Fr.refl _ _ | exact (Fr.refl _ _).drew | exact (Fr.refl _ _).drewN _)) cap (by omega)).mono ?_); rintro e w2 ⟨s, rfl, hsn, hr2, f2, n2⟩; have f2' := ((Fr.refl noBlock w1).drew).trans' f2; obtain ⟨w3, hrun, x8, F', h3, s3⟩ := Hst.out w2 s f2' hr2 n2; have x7 := (f2.cell (p := ⟨l, 6, none⟩) Hl1.out (fun x => x)).trans x6))
          go_wp2_with fail
          go_ret
          exact ⟨F', ret_int (by rw [Hd.out.1]; rfl), by rw [Hd.out.2]; exact h3, s3⟩
        | true =>
          rw [hg] at Hd
          have hod : (part.tmod 2 != 0) = d.oddP := by
            rw [odd_t]
            unfold DK.gone at hg
            unfold DK.oddP
            split at hg
            · rename_i p hp
              rw [hp]
              obtain ⟨_, e⟩ := Harm.out _ _ hp
              simp [e]
            · cases hg
          cases ho : d.oddP with
          | false =>
            rw [ho] at hod Hd
            clear hg ho
            go_wp2_with fail
            go_ret
            exact ⟨F, ret_int (by rw [Hd.out.1]; rfl), by rw [Hd.out.2]; exact H1.out.1, H1.out.2⟩
          | true =>
            rw [ho] at hod Hd
            clear hg ho
            go_wp2_with fail
            go_region_held3 (fun W => W.cell? ⟨l, 6, none⟩ = some (.map (some bm'))) (first | exact x6 | exact x7 | exact x8)
              ((go_at_call 52; (with_reducible refine (clone_any (bs := b) (Hb1.out.fr0 (by first | exact Fr.refl _ _ | exact (Fr.refl _ _).drew | exact (Fr.refl _ _).drewN _)) cap (by omega)).mono ?_); rintro e w2 ⟨s, rfl, hsn, hr2, f2, n2⟩; have f2' := ((Fr.refl noBlock w1).drew).trans' f2; obtain ⟨w3, hrun, x8, F', h3, s3⟩ := Hst.out w2 s f2' hr2 n2; have x7 := (f2.cell (p := ⟨l, 6, none⟩) Hl1.out (fun x => x)).trans x6))
            go_wp2_with fail
            go_ret
            exact ⟨F', ret_int (by rw [Hd.out.1]; rfl), by rw [Hd.out.2]; exact h3, s3⟩
      · have hlb : ((b.length : Int) != (d.size : Int)) = true := by rw [bne_iff_ne]; omega
        have Hd := Lib.hid (show d.write n b = d ∧ d.writeE n b.length = 1 by simp [DK.write, DK.writeE, hoff, his, hlen])
        clear hoff his hlen
        go_enter Tryz.func70, Tryz.ntmps70
        go_wp2_with fail
        refine His.out.mono ?_
        rintro e w1 ⟨rfl, rfl⟩
        go_wp2_with fail
        go_ret
        exact ⟨F, ret_int Hd.out.2.symm, by rw [Hd.out.1]; exact H.out, Step.refl _ _⟩
theorem write_any {l : Nat} {d : DK} {w : World} {F : Nat → Prop} (h : DiskAt l d w F) (n : Int) {ao : Option Addr} {b : Bs} (hb : RowRd ByteR w ao b) (hap : ∀ a, ao = some a → ¬ F a.block) (cap : Nat) (hbn : b.length ≤ 9223372036854775807) :
    Calls Tryz.prog 70 #[.pointer (some ⟨l, 0, none⟩), .int .i64 n, .slice ao b.length cap] w (WriteP l (d.write n b) (d.writeE n b.length) F w) := write_any0 h n hb (fun _ => hap) cap hbn
end Go.Proofs.YthabllnhlhkejaaGreatDoor
namespace Go.Proofs.YthabllnhlhkejaaGreatDoor
open Go.RowKit

/-- a row of bytes that is not empty, as a slice value -/
theorem sv_form {w : World} {s : SV} {b : Bs} (h : RowAt 5 ByteR w s.val b) (h0 : 0 < b.length) : ∃ g cap, s = ⟨some ⟨g, 0, none⟩, b.length, cap⟩ ∧ b.length ≤ cap ∧ s.val.ownBlock = some g := by
  obtain ⟨ao, n, c⟩ := s
  obtain ⟨g, cap, e, h1, h2⟩ := h.block' h0
  simp only [SV.val, Value.slice.injEq] at e
  obtain ⟨rfl, rfl, rfl⟩ := e
  exact ⟨g, _, rfl, h1, h2⟩
theorem rows_form {w : World} {sv : SV} {ss : List SV} (h : RowAt 28 SliceR w sv.val ss) (h0 : 0 < ss.length) : ∃ g cap, sv = ⟨some ⟨g, 0, none⟩, ss.length, cap⟩ ∧ ss.length ≤ cap ∧ ∀ i, (hi : i < ss.length) → w.cell? ⟨g, i, none⟩ = some ss[i].val ∧ w.frozen? ⟨g, i, none⟩ = false := by
  obtain ⟨ao, n, c⟩ := sv
  obtain ⟨g, cap, e, h1, h2⟩ := h.block' h0
  simp only [SV.val, Value.slice.injEq] at e
  obtain ⟨rfl, rfl, rfl⟩ := e
  refine ⟨g, _, rfl, h1, fun i hi => ?_⟩
  obtain ⟨g', e', _, _, _, h3, h4⟩ := RowAt.elem h hi
  cases e'
  have hk : SliceR.k = 1 := rfl
  have := h3 0 ss[i].val rfl
  exact ⟨by simpa [hk] using this, h4 _⟩

def LandP (l : Nat) (d' : DK) (F : Nat → Prop) (w : World) (e : Ending) (w' : World) : Prop := ∃ F', e = .returned (.tuple #[]) ∧ DiskAt l d' w' F' ∧ Step F F' w w'
set_option maxRecDepth 100000 in
set_option maxHeartbeats 800000 in
theorem land_any {l : Nat} {d : DK} {w : World} {F : Nat → Prop} (h : DiskAt l d w F) {n : Nat} {b : Bs} {rest : Dirt} (hd : d.dirty = (n, b) :: rest) (k : Nat) (hk : k ≤ d.size) :
    Calls Tryz.prog 29 #[.pointer (some ⟨l, 0, none⟩), .int .i64 n, .int .i64 k] w (LandP l { d with safe := d.safe.set n (b.take k ++ (d.safe.getD n []).drop k), dirty := rest } F w) := by
  obtain ⟨acts, part, sv, ss, bm, g, hin⟩ := h
  have hgood := hin.good
  obtain ⟨hnl, hbl⟩ := hgood.there (n, b) (by rw [hd]; simp)
  simp only at hnl hbl
  have hns : n < ss.length := by rw [hin.len]; exact hnl
  have hs0 := hgood.s0
  have hs1 := hgood.s1
  have hn1 := hgood.n1
  obtain ⟨a0, ha0⟩ : ∃ a0, d.safe.getD n [] = a0 := ⟨_, rfl⟩
  have hsafe : d.safe[n]? = some a0 := by rw [← ha0]; simp [List.getD, List.getElem?_eq_getElem hnl]
  have hal : a0.length = d.size := hgood.sizes _ (List.mem_of_getElem? hsafe)
  rw [ha0]
  obtain ⟨c0, c1, c2, c3, c4, c5, c6⟩ := hin.cells
  have hsn : ss[n]? = some ss[n] := List.getElem?_eq_getElem hns
  have hbuf := hin.bufs n ss[n] a0 hsn hsafe
  obtain ⟨gs, cs, es, hcs, hown⟩ := sv_form hbuf (by omega)
  obtain ⟨gr, cr, er, hcr, hel⟩ := rows_form hin.rows (by omega)
  obtain ⟨x0, _⟩ := hel n hns
  have hlk : lookD d.dirty n = some b := by rw [hd, lookD_cons, if_pos rfl]
  have hgs : (g n).isSome = true := by rw [hin.dirt n, hlk]; rfl
  obtain ⟨t, ht⟩ := Option.isSome_iff_exists.1 hgs
  have htb := hin.dbufs n t b ht hlk
  obtain ⟨gt, ct, et, hct, htown⟩ := sv_form htb (by omega)
  have hne : gt ≠ gs := fun e => hin.dapart n t ss[n] gs ht (List.getElem_mem hns) (by rw [htown, e]) hown
  have hlook := fun (W : World) (hW : Fr noBlock w W) => (hin.map.fr hW (fun x => x)).look1 (mt := 44) Tryz.underlying44 (zero_bytes W) (kI_ok (by omega) (by omega) : kI.ok (n : Int))
  simp only [ht, Option.map_some, Option.getD_some] at hlook
  -- the rest of it: what is stored, then struck
  have hrest := fun (w1 : World) (hr : RowAt 5 ByteR w1 (.slice (some ⟨gs, 0, none⟩) d.size cs) (a0.take 0 ++ b.take k ++ a0.drop (0 + k))) (hf : Fr (fun q => q = gs) w w1) =>
    (show w1.cell? ⟨l, 6, none⟩ = some (.map (some bm)) ∧ ∃ w2, (∀ ty, (Builtin.delete_ #[44, 3] ty #[.map (some bm), .int .i64 n]).run Tryz.prog w1 = .ok (.tuple #[]) w2) ∧ ∃ F', DiskAt l { d with safe := d.safe.set n (b.take k ++ a0.drop k), dirty := rest } w2 F' ∧ Step F F' w w2 by
      have hgl : l ≠ gs := fun e => hin.buf_l hbuf (by rw [hown, e])
      have hgm : bm ≠ gs := fun e => hin.buf_bm hbuf (by rw [hown, e])
      have hm1 := hin.map.fr hf hgm
      obtain ⟨w2, hdel, hm2, ht2⟩ := hm1.drop (mt := 44) Tryz.underlying44 (kI_ok (by omega) (by omega) : kI.ok (n : Int))
      simp only [ht, Option.map_some, Option.isSome_some, if_true] at hm2
      have hr' : RowAt 5 ByteR w1 ss[n].val (b.take k ++ a0.drop k) := by rw [es]; simpa [SV.val, hal] using hr
      obtain ⟨F', h2, s2⟩ := hin.land hd hsn hown (nb := b.take k ++ a0.drop k) (by simp; omega) hf hr' (by rw [hd] at hm2; simpa using hm2) ht2
      exact ⟨(hf.cell (p := ⟨l, 6, none⟩) (heap_lt hin.box) hgl).trans c6, w2, hdel, F', ⟨_, _, _, _, _, _, h2⟩, s2⟩)
  have Hrest := Lib.hid hrest
  have HL := Lib.hid hlook
  rw [er] at c5
  rw [es] at x0
  rw [et] at HL
  unfold SV.val at c5 x0 HL
  simp only at c5 x0 HL
  have Hbuf := Lib.hid (show RowAt 5 ByteR w (.slice (some ⟨gs, 0, none⟩) d.size cs) a0 by rw [es] at hbuf; simpa [SV.val, hal] using hbuf)
  have Htb := Lib.hid (show RowRd ByteR w (some ⟨gt, 0, none⟩) b by rw [et] at htb; exact RowAt.rd htb)
  have i1 : (0 : Int) ≤ (n : Int) := by omega
  have i2 : (n : Int) < (ss.length : Int) := by omega
  have i3 : (0 : Int) ≤ (k : Int) := by omega
  have i4 : (k : Int) ≤ (ct : Int) := by omega
  have hkb : k ≤ b.length := by omega
  have hka : k ≤ a0.length := by omega
  have hl1 : (Instr.lookup 44 (.map (some bm)) (.int .i64 n) false).run Tryz.prog w.drew = .ok (.slice (some ⟨gt, 0, none⟩) b.length ct) w.drew := HL.out w.drew ((Fr.refl _ _).drew)
  clear hal hbl
  clear c0 c1 c2 c3 c4 hrest hlook hin hgood hsafe ha0 hgs ht htb hbuf hel hlk hsn er es et
  clear hd hown htown
  go_enter Tryz.func29, Tryz.ntmps29
  go_wp2_with fail
  go_region_law ((refine step_cp (by rfl) _ _ (by rfl) a0 (b.take k) (Hbuf.out.fr0 ((Fr.refl _ _).drew)) 0 k (by rfl) (by rfl) ((Htb.out.fr0 ((Fr.refl _ _).drew)).takeN k) (by simp; omega) (by omega) (fun _ => rfl) (by omega) ?_; intro w1 r1 f1))
  all_goals
    rw [List.take_take, Nat.min_self] at r1
    obtain ⟨y6, w2, hdel, F', h2, s2⟩ := Hrest.out w1 r1 (((Fr.refl (fun q => q = gs) w).drew).trans' f1)
    clear r1 f1
    go_wp2_with fail
    go_end0
    exact ⟨F', rfl, h2, s2⟩
end Go.Proofs.YthabllnhlhkejaaGreatDoor
