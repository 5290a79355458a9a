/-
  JournalPlays: the walk. After each act both sides are in the same state.
-/
import Derived.Lib.SlBytesConst
import Derived.Test.YtmcckppmciflmaaRjAct
namespace Go.Proofs.Ytmcckppmciflmaa
open Go.RowKit

def jA : Bs := fillB [97] 64
def jB : Bs := fillB [98] 64
def m0 : DK := DK.new 12 64
def m1 : DK := (commitR m0 0 [(0, jA), (2, jB)]).1
def m2 : DK := m1.armed 4 1
def m3 : DK := (commitR m2 0 [(1, jA)]).1
def m4 : DK := m3.boot [1]
def m5 : DK := (openR m4).1
theorem mE : openR m0 = (m0, 0) ∧ (commitR m0 0 [(0, jA), (2, jB)]).2 = (0, 0) ∧ jreadE m1 2 = 0 ∧ (commitR m2 0 [(1, jA)]).2.2 = 30 ∧ (openR m4).2 = 0 ∧ jreadE m5 1 = 0 := by
  refine ⟨?_, ?_, ?_, ?_, ?_, ?_⟩ <;> kernel_rfl
theorem mL : (jreadB m1 2).length = 64 ∧ (jreadB m1 2)[0]? = some 98 ∧ (jreadB m5 1).length = 64 ∧ jA.length = 64 ∧ jB.length = 64 ∧ secs m5 = 3 := by
  refine ⟨?_, ?_, ?_, ?_, ?_, ?_⟩ <;> kernel_rfl

/-- writes in a new block of their own -/
theorem JWrs.lit {w : World} {H : Nat → Prop} {b : Nat} {cs : Array Value} {t : TypeId} {f : Nat × Nat} {ws : List (Int × SV)} {l : List JW} (hb : w.heap[b]? = some (.cells cs t f)) (hcs : cs.toList = DirtR.flat ws) (hH : ¬ H b) (hlen : ws.length = l.length) (hm : ws.length ≤ maxLen)
    (he : ∀ (i : Nat) (p : Int × SV) (q : JW), ws[i]? = some p → l[i]? = some q → p.1 = q.1 ∧ p.2.n = q.2.length ∧ Bes ByteR p.2.ao q.2 w H) : JWrs w H (some ⟨b, 0, none⟩) ws l :=
  ⟨⟨RowRd.of_flat hb hcs hm, fun _ a e => by cases e; exact ⟨hH, heap_lt hb⟩⟩, hlen, he⟩
theorem JOpenP.ok {L : Nat} {d d' : DK} {F : Nat → Prop} {w : World} {e : Ending} {w' : World} (h : JOpenP L d F w e w') (ho : openR d = (d', 0)) : ∃ j H', e = .returned (.tuple #[.pointer (some ⟨j, 0, none⟩), .int .i64 0]) ∧ JAt j L d' 0 w' H' ∧ Step F H' w w' := by
  rcases h with ⟨_, j, H', h1, h2, h3⟩ | ⟨h1, _⟩
  · rw [ho] at h2
    exact ⟨j, H', h1, h2, h3⟩
  · rw [ho] at h1
    exact absurd rfl h1
theorem JAt.power {j L : Nat} {d : DK} {bad : Int} {w : World} {H : Nat → Prop} (h : JAt j L d bad w H) : ∃ G, DiskAt L d w G ∧ (∀ k, G k → H k) ∧ ∀ (d' : DK) (w' : World) (G' : Nat → Prop), DiskAt L d' w' G' → Step G G' w w' → ∃ H', JAt j L d' bad w' H' ∧ Step H H' w w' := h.disk
/-- an older journal of the same disk -/
theorem JAt.old {j j2 L : Nat} {d : DK} {bad b2 : Int} {w : World} {H : Nat → Prop} (h : Two (JAt j2 L d b2) (BoxT j (Jobj L bad)) w H) : ∃ G, JAt j L d bad w G := by
  obtain ⟨F, G, ⟨F1, F2, h1, _, _, h4⟩, hb, hd, _⟩ := h
  exact ⟨fun k => F1 k ∨ G k, F1, G, h1, hb, fun k hk => hd k ((h4 k).2 (.inl hk)), fun _ => Iff.rfl⟩
set_option maxRecDepth 100000 in
set_option maxHeartbeats 1600000 in
theorem jsmall_any (w : World) : Calls Try.prog 26 #[] w fun e w' => e = .returned (.bool true) ∧ Fr noBlock w w' := by
  obtain ⟨e1, e2, e3, e4, e5, e6⟩ := mE
  obtain ⟨l1, l2, l3, l4, l5, l6⟩ := mL
  have HE := Lib.hid (And.intro e1 (And.intro e2 (And.intro e3 (And.intro e4 (And.intro e5 e6)))))
  have HLn := Lib.hid (And.intro l1 (And.intro l2 (And.intro l3 (And.intro l4 (And.intro l5 l6)))))
  clear e1 e2 e3 e4 e5 e6 l1 l2 l3 l4 l5 l6
  have kc := fun (W : World) (C : Array Value) (n c : Nat) => Lib.run_convert_bytes_const (P := Try.prog) W 23 5 C n c Try.underlying23 Try.underlying5
  go_enter Try.func26, Try.ntmps26
  go_wp2_with fail
  refine (new_mine (Below.refl _ _) 12 64 (by kernel_rfl) (show _ = m0 from rfl)).mono ?_
  rintro e w1 ⟨L, F1, rfl, hm1⟩
  have M1 := Lib.hid hm1
  clear hm1
  go_wp2_with fail
  refine (jopen_any M1.out.it).mono ?_
  rintro e w2 hO
  obtain ⟨j, H2, rfl, h2, s2⟩ := hO.ok HE.out.1
  have M2 := Lib.hid (M1.out.step (A' := JAt j L m0 0) h2 s2)
  clear h2 s2 hO
  go_wp2_with fail
  refine (fill_lit w2 97 _ rfl).mono ?_
  rintro e w3 ⟨⟨sa, sn, sc⟩, rfl, hl3, hr3, hf3, hn3⟩
  simp only at hl3
  subst hl3
  have M3 := Lib.hid (M2.out.fr JAt.ok hf3)
  have B3 := Lib.hid (show Bes ByteR sa jA w3 H2 from Bes.new (w0 := w2) hr3 hn3 (JAt.ok.lt M2.out.it))
  clear hr3 hn3 hf3
  unfold SV.val
  dsimp only
  go_wp2_with fail
  refine (fill_lit w3 98 _ rfl).mono ?_
  rintro e w4 ⟨⟨sb, sn, scb⟩, rfl, hl4, hr4, hf4, hn4⟩
  simp only at hl4
  subst hl4
  have M4 := Lib.hid (M3.out.fr JAt.ok hf4)
  have B4 := Lib.hid (B3.out.fr hf4)
  have C4 := Lib.hid (show Bes ByteR sb jB w4 H2 from Bes.new (w0 := w3) hr4 hn4 (JAt.ok.lt M3.out.it))
  clear hr4 hn4 hf4
  unfold SV.val
  dsimp only
  go_wp2_with fail
  have f5 := (Fr.refl noBlock w4).alloc (.cells #[.int .i64 0, .slice sa jA.length sc, .int .i64 2, .slice sb jB.length scb] 69)
  have M5 := Lib.hid (M4.out.fr JAt.ok f5)
  have B5 := Lib.hid (B4.out.fr f5)
  have J5 := Lib.hid (show JWrs (w4.alloc (.cells #[.int .i64 0, .slice sa jA.length sc, .int .i64 2, .slice sb jB.length scb] 69)) H2 (some ⟨w4.heap.size, 0, none⟩) [((0 : Int), ⟨sa, jA.length, sc⟩), (2, ⟨sb, jB.length, scb⟩)] [(0, jA), (2, jB)] from
    JWrs.lit (heap_new w4 _) rfl (fun h => Nat.lt_irrefl _ (JAt.ok.lt M4.out.it _ h)) rfl (by unfold maxLen; simp) (fun i p q a b => by
      rcases i with _ | _ | i
      · simp at a b; subst a b; exact ⟨rfl, rfl, B4.out.fr f5⟩
      · simp at a b; subst a b; exact ⟨rfl, rfl, C4.out.fr f5⟩
      · simp at a))
  have hcm := jcommit_any M5.out.it J5.out 2 (by simp) (by simp) (by intro v hv; simp at hv; rcases hv with rfl | rfl <;> simp [HLn.out.2.2.2.1, HLn.out.2.2.2.2.1])
  have Hcm := Lib.hid hcm
  clear f5 hcm
  refine Hcm.out.mono ?_
  rintro e w6 ⟨H6, rfl, h6, s6⟩
  have M6 := Lib.hid (M5.out.step (A' := JAt j L m1 0) (show JAt j L m1 0 w6 H6 from by have := h6; rw [HE.out.2.1] at this; exact this) s6)
  have B6 := Lib.hid (B5.out.step s6)
  rw [HE.out.2.1]
  clear h6 s6
  go_wp2_with fail
  refine (jread_any M6.out.it 2).mono ?_
  rintro e w7 ⟨⟨sr, sn, scr⟩, rfl, hl7, hr7, hf7, hn7⟩
  simp only at hl7
  subst hl7
  rw [HE.out.2.2.1]
  have M7 := Lib.hid (M6.out.fr JAt.ok hf7)
  have B7 := Lib.hid (B6.out.fr hf7)
  have R7 := Lib.hid (show Own ⟨sr, (jreadB m1 2).length, scr⟩ (jreadB m1 2) w7 H6 from Own.new hr7 rfl hn7 (JAt.ok.lt M6.out.it))
  clear hr7 hn7 hf7
  unfold SV.val
  dsimp only
  go_wp2_with fail
  obtain ⟨G8, hG8, hsub8, st8⟩ := M7.out.it.disk
  refine (arm_any hG8 4 1 (by omega) (by omega) (by omega)).mono ?_
  rintro e w8 ⟨rfl, h8, s8⟩
  obtain ⟨H8, hA8, hS8⟩ := st8 m2 _ _ h8 s8
  have M8 := Lib.hid (M7.out.step (A' := JAt j L m2 0) hA8 hS8)
  have B8 := Lib.hid (B7.out.step hS8)
  have R8 := Lib.hid (R7.out.step hS8)
  clear hG8 hsub8 st8 h8 s8 hA8 hS8
  go_wp2_with fail
  have f9 := (Fr.refl noBlock w8).alloc (.cells #[.int .i64 1, .slice sa jA.length sc] 69)
  have M9 := Lib.hid (M8.out.fr JAt.ok f9)
  have R9 := Lib.hid (R8.out.fr f9)
  have J9 := Lib.hid (show JWrs (w8.alloc (.cells #[.int .i64 1, .slice sa jA.length sc] 69)) H8 (some ⟨w8.heap.size, 0, none⟩) [((1 : Int), ⟨sa, jA.length, sc⟩)] [(1, jA)] from
    JWrs.lit (heap_new w8 _) rfl (fun h => Nat.lt_irrefl _ (JAt.ok.lt M8.out.it _ h)) rfl (by unfold maxLen; simp) (fun i p q a b => by
      rcases i with _ | i
      · simp at a b; subst a b; exact ⟨rfl, rfl, B8.out.fr f9⟩
      · simp at a))
  have hcm2 := jcommit_any M9.out.it J9.out 1 (by simp) (by simp) (by intro v hv; simp at hv; subst hv; simp [HLn.out.2.2.2.1])
  have Hcm2 := Lib.hid hcm2
  clear f9 hcm2
  refine Hcm2.out.mono ?_
  rintro e w10 ⟨H10, rfl, h10, s10⟩
  obtain ⟨bd, hbd⟩ : ∃ bd, (commitR m2 0 [(1, jA)]).2.1 = bd := ⟨_, rfl⟩
  rw [hbd] at h10
  have M10 := Lib.hid (M9.out.step (A' := JAt j L m3 bd) h10 s10)
  have R10 := Lib.hid (R9.out.step s10)
  rw [HE.out.2.2.2.1]
  clear h10 s10 hbd
  go_wp2_with fail
  have f11 := (Fr.refl noBlock w10).alloc (.cells #[.int .i64 1] 3)
  have M11 := Lib.hid (M10.out.fr JAt.ok f11)
  have R11 := Lib.hid (R10.out.fr f11)
  have hb11 : Beside (some ⟨w10.heap.size, 0, none⟩) [1] (w10.alloc (.cells #[.int .i64 1] 3)) H10 := ⟨RowRd.one (heap_new w10 (.cells #[.int .i64 1] 3)) 1 rfl, fun _ a e => by
    cases e
    exact ⟨fun hf => Nat.lt_irrefl _ (JAt.ok.lt M10.out.it _ hf), by simp⟩⟩
  obtain ⟨G12, hG12, hsub12, st12⟩ := M11.out.it.disk
  have hbt := boot_any hG12 (⟨hb11.rd, fun h0 a e => ⟨fun hg => (hb11.ap h0 a e).1 (hsub12 _ hg), (hb11.ap h0 a e).2⟩⟩ : Beside (some ⟨w10.heap.size, 0, none⟩) [1] _ G12) 1 (by simp)
  have Hbt := Lib.hid hbt
  clear hbt hb11 f11
  refine Hbt.out.mono ?_
  rintro e w12 ⟨G12', rfl, h12, s12⟩
  obtain ⟨H12, hA12, hS12⟩ := st12 m4 _ _ h12 s12
  have M12 := Lib.hid (M11.out.step (A' := JAt j L m4 bd) hA12 hS12)
  have R12 := Lib.hid (R11.out.step hS12)
  clear hG12 hsub12 st12 h12 s12 hA12 hS12
  go_wp2_with fail
  obtain ⟨G13, hG13, st13⟩ := Two.l BoxT.ok M12.out.it
  refine (jopen_any hG13).mono ?_
  rintro e w13 hO
  obtain ⟨j2, H13', rfl, h13, s13⟩ := hO.ok (d' := m5) (by rw [← HE.out.2.2.2.2.1]; rfl)
  obtain ⟨H13, hA13, hS13⟩ := st13 (JAt j2 L m5 0) _ _ h13 s13
  have M13 := Lib.hid (M12.out.step (A' := Two (JAt j2 L m5 0) (BoxT j (Jobj L bd))) hA13 hS13)
  have R13 := Lib.hid (R12.out.step hS13)
  clear hG13 st13 h13 s13 hA13 hS13 hO
  go_wp2_with fail
  obtain ⟨G14, hG14, -⟩ := Two.l BoxT.ok M13.out.it
  refine (jread_any hG14 1).mono ?_
  rintro e w14 ⟨⟨sq, sn, scq⟩, rfl, hl14, hr14, hf14, hn14⟩
  simp only at hl14
  subst hl14
  rw [HE.out.2.2.2.2.2]
  have M14 := Lib.hid (M13.out.fr (Two.ok JAt.ok BoxT.ok) hf14)
  have R14 := Lib.hid (R13.out.fr hf14)
  clear hr14 hn14 hf14 hG14
  unfold SV.val
  dsimp only
  obtain ⟨gr, er, cr⟩ := R14.out.form (by rw [HLn.out.1]; omega)
  have xr := byte_is cr HLn.out.2.1
  unfold SV.val at er
  simp only [Value.slice.injEq] at er
  obtain ⟨rfl, -, -⟩ := er
  rw [HLn.out.1, HLn.out.2.2.1]
  unfold byteV at xr
  have HB := Lib.hid (Fr.of_below (S := noBlock) M14.out.below)
  obtain ⟨G15, hG15⟩ := JAt.old M14.out.it
  have Hsec := Lib.hid (jsectors_any hG15)
  rw [HLn.out.2.2.2.2.2] at Hsec
  clear cr hG15
  go_wp2_with fail
  refine Hsec.out.mono ?_
  rintro e w15 ⟨rfl, rfl⟩
  go_wp2_with fail
  go_ret
  exact ⟨rfl, HB.out⟩
end Go.Proofs.Ytmcckppmciflmaa
namespace Go.Proofs.Ytmcckppmciflmaa
open Go.RowKit

theorem rnew_no (sectors size : Int) (w : World) (h : newOk sectors size = false) : Calls Try.prog 23 #[.int .i64 sectors, .int .i64 size] w fun e w' => e = .returned (.tuple #[.pointer none, .int .i64 1]) ∧ w = w' := by
  have hcs : sectors < 1 ∨ (1 ≤ sectors ∧ 4096 < sectors) ∨ (1 ≤ sectors ∧ sectors ≤ 4096 ∧ size < 64) ∨ (1 ≤ sectors ∧ sectors ≤ 4096 ∧ 64 ≤ size ∧ 4096 < size) := by
    simp [newOk] at h; omega
  clear h
  rcases hcs with h1 | ⟨h1, h2⟩ | ⟨h1, h2, h3⟩ | ⟨h1, h2, h3, h4⟩
  all_goals
    go_enter Try.func23, Try.ntmps23
    go_wp2
    go_ret2
    exact ⟨rfl, rfl⟩

def RNewP (sectors size : Int) (w : World) (e : Ending) (w' : World) : Prop := ∃ l F, e = .returned (.tuple #[.pointer (some ⟨l, 0, none⟩), .int .i64 0]) ∧ RDiskAt l (DK.new sectors.toNat size.toNat) w' F ∧ Fr noBlock w w' ∧ ∀ k, F k → w.heap.size ≤ k
set_option maxRecDepth 100000 in
set_option maxHeartbeats 1600000 in
theorem rnew_ok (sectors size : Int) (w : World) (h : newOk sectors size = true) : Calls Try.prog 23 #[.int .i64 sectors, .int .i64 size] w (RNewP sectors size w) := by
  simp only [newOk, Bool.and_eq_true, decide_eq_true_eq] at h
  obtain ⟨⟨⟨h1, h2⟩, h3⟩, h4⟩ := h
  obtain ⟨n, rfl⟩ : ∃ n : Nat, sectors = n := ⟨sectors.toNat, by omega⟩
  obtain ⟨m, rfl⟩ : ∃ m : Nat, size = m := ⟨size.toNat, by omega⟩
  have hmk := fun W => run_make_row' (P := Try.prog) 23 5 (.int .u8 0) 1 Try.underlying23 infoB rfl .i64 .i64 m (by omega) (by omega) W
  have hmade := fun W => bytes_made W m (by unfold maxLen; omega)
  obtain ⟨Z, hZ⟩ : ∃ Z, madeCells #[.int .u8 0] m = Z := ⟨_, rfl⟩
  rw [hZ] at hmk hmade
  have Hmade := Lib.hid hmade
  clear hZ hmade
  go_enter Try.func23, Try.ntmps23
  go_wp2_with fail
  have hstart : RDiskIn w.heap.size (DK.new 0 m) (w.alloc (.cells #[.slice none 0 0, .slice none 0 0, .int .i64 m, .bool false, .bool false, .int .i64 0, .int .i64 0] 91)) (fun k => k = w.heap.size) 0 0 ⟨none, 0, 0⟩ ⟨none, 0, 0⟩ [] [] :=
    ⟨heap_new w _, (fun a p h => by cases h), RowAt.nil, rfl, (fun i s b h => by simp at h), RowAt.nil, rfl, (fun i p q h => by simp at h), rfl, (fun k hk => by cases hk), (fun k hk => by cases hk), (fun k hk => by subst hk; simp), DK.Good.new (by omega) (by omega) (by omega)⟩
  have Hstart := Lib.hid (Mine.mk (w0 := w) (A := RDiskAt w.heap.size (DK.new 0 m)) ⟨_, _, _, _, _, _, hstart⟩ (fun k hk => by omega) ((Fr.refl noBlock w).alloc _ |>.below (Nat.le_refl _) (fun _ h => h.elim)))
  clear hstart
  go_loopw [7] (fun s7 wr => ∃ (i : Nat) (G : Nat → Prop), i ≤ n ∧ s7 = .int .i64 i ∧ Mine w (RDiskAt w.heap.size (DK.new i m)) wr G) (fun s7 _ => n - (intOf s7).toNat)
  case atStart => exact ⟨0, _, Nat.zero_le _, rfl, Hstart.out⟩
  case round =>
    obtain ⟨i, G, hi, rfl, hM⟩ := hrel
    clear Hstart
    have HM := Lib.hid hM
    obtain ⟨acts, part, sv, dv, ss, ps, hin⟩ := hM.it
    clear hM
    by_cases hlt : i < n
    · have q1 : (i : Int) < (n : Int) := by omega
      have hsl : ss.length = i := by rw [hin.len]; simp [DK.new]
      obtain ⟨c0, c1, c2, c3, c4, c5, c6⟩ := hin.cells
      have z5 := free_of hin.box 0
      have hlw := heap_lt hin.box
      have hrow := hin.rows
      obtain ⟨sa, sc, da, dc, rfl, rfl, _, _, _, _⟩ := hin.forms
      rw [hsl] at c0 hrow
      unfold SV.val at c0 hrow
      simp only at c0 hrow
      have Hnl := Lib.hid (show (Value.slice sa i sc).ownBlock ≠ some w.heap.size from by have := hin.l_rows; rw [hsl] at this; exact this)
      have Hin := Lib.hid hin
      have Hsl := Lib.hid hsl
      have Hrow := Lib.hid (show wr.ownsRow 0 23 SliceR.k (.slice sa i sc) i (SliceR.flat ss) by have := hrow; unfold RowAt at this; rwa [hsl] at this)
      have Hone := Lib.hid (show RowRd SliceR ((wr.alloc (.cells Z 5)).alloc (.cells #[.slice (some ⟨wr.heap.size, 0, none⟩) m m] 23)) (some ⟨wr.heap.size + 1, 0, none⟩) [(⟨some ⟨wr.heap.size, 0, none⟩, m, m⟩ : SV)] from RowRd.one (by
        have := heap_new (wr.alloc (.cells Z 5)) (.cells #[.slice (some ⟨wr.heap.size, 0, none⟩) m m] 23)
        have e : (wr.alloc (.cells Z 5)).heap.size = wr.heap.size + 1 := by simp
        rw [e] at this
        exact this) _ rfl)
      have hA1 := fun o1 => (World.cell?_alloc_lt wr o1 ⟨w.heap.size, 0, none⟩ hlw).trans c0
      have hA2 := fun o1 o2 => ((((Fr.refl noBlock wr).alloc o1).alloc o2).cell (p := ⟨w.heap.size, 0, none⟩) hlw (fun x => x)).trans c0
      clear hin hrow c1 c2 c3 c4 c5 c6 hlt hsl
      go_wp2_with fail
      go_region_law
        ((refine step_app (by rfl) _ _ (by rfl) el_rows (v := .slice sa i sc) ss [(⟨some ⟨wr.heap.size, 0, none⟩, m, m⟩ : SV)] (ss ++ [(⟨some ⟨wr.heap.size, 0, none⟩, m, m⟩ : SV)]) rfl 0 i (i + 1) (by simp [Hsl.out]) (by rfl) (((Hrow.out.alloc _).alloc _).drew) (by rfl) (Hone.out.fr0 ((Fr.refl _ _).drew)) rfl (by unfold maxLen; omega) (by omega) (Nat.zero_le _) ?_; intro ao2 cap2 w2 o2 g2 a2; have hfa : Fr noBlock wr (((wr.alloc (.cells Z 5)).alloc (.cells #[.slice (some ⟨wr.heap.size, 0, none⟩) m m] 23)).drew) := (((Fr.refl noBlock wr).alloc _).alloc _).drew; have hl5 := hfa.size; have hc5 := (g2.cell_far ⟨w.heap.size, 0, none⟩ (by simp; omega) (fun e => Hnl.out e.symm)).trans ((hfa.cell (p := ⟨w.heap.size, 0, none⟩) hlw (fun x => x)).trans c0); have hz5 := (g2.frozen_far ⟨w.heap.size, 0, none⟩ (by simp; omega) (fun e => Hnl.out e.symm)).trans ((hfa.frozen (p := ⟨w.heap.size, 0, none⟩) hlw (fun x => x)).trans z5)))
      all_goals
        have HG := Lib.hid (Hin.out.grow (b := List.replicate m 0) (s' := ⟨some ⟨wr.heap.size, 0, none⟩, m, m⟩) (w1 := ((wr.alloc (.cells Z 5)).alloc (.cells #[.slice (some ⟨wr.heap.size, 0, none⟩) m m] 23)).drew) (w2 := w2) (sv' := ⟨ao2, i + 1, cap2⟩) (((Fr.refl noBlock wr).alloc _).alloc _).drew (by simp [DK.new]) ((Hmade.out wr).fr0 (((Fr.refl noBlock _).alloc _).drew)) (fun q hq => by cases hq; exact Nat.le_refl _) (RowAt.of_own o2 (by simp [Hsl.out])) (by rw [Hsl.out]; exact g2) (by rw [Hsl.out]; exact a2.imp (fun e => e) (fun e => e)) (by simp [DK.new]; omega))
        clear o2 g2 a2 hA1 hA2
        go_wp2_with fail
        go_roundw
        case rel =>
          obtain ⟨hD, hS⟩ := HG.out
          have e : ({ DK.new i m with safe := (DK.new i m).safe ++ [List.replicate m 0] } : DK) = DK.new (i + 1) m := by simp [DK.new, List.replicate_succ']
          exact ⟨i + 1, _, by omega, by go_num, HM.out.step (A' := RDiskAt w.heap.size (DK.new (i + 1) m)) ⟨_, _, _, _, _, _, e ▸ hD⟩ hS⟩
        case measure => simp [intOf]; omega
    · have q1 : (n : Int) ≤ (i : Int) := by omega
      have e : i = n := by omega
      clear hin hlt
      subst e
      go_wp2_with fail
      go_ret2
      exact ⟨_, G, rfl, HM.out.it, Fr.of_below HM.out.below, HM.out.base⟩
end Go.Proofs.Ytmcckppmciflmaa
namespace Go.Proofs.Ytmcckppmciflmaa
open Go.RowKit

theorem Mine.side {w0 w : World} {l l2 : Nat} {d d2 : DK} {H : Nat → Prop} (h : Mine w0 (Two (DiskAt l d) (RDiskAt l2 d2)) w H) : ∃ H', Mine w0 (SideT w.heap.size l l2 d d2 none) (w.alloc (Sobj l l2 none none)) H' :=
  Mine.withBox (Two.ok DiskAt.ok RDiskAt.ok) h (Sobj l l2 none none)
set_option maxRecDepth 100000 in
set_option maxHeartbeats 1600000 in
theorem jplays_walk (sectors size : Int) (ao : Option Addr) (cap : Nat) (xs : List JAct) (w : World) (hx : RowRd JActR w ao xs) (hxs : ∀ y ∈ xs, y.Ok w) :
    Calls Try.prog 10 #[.int .i64 sectors, .int .i64 size, .slice ao xs.length cap] w fun e w' => e = .returned (.bool true) ∧ Below w.heap.size w w' := by
  have hl := hx.len
  unfold maxLen at hl
  have Hxs := Lib.hid hxs
  have HX := Lib.hid hx
  clear hxs hx
  cases hok : newOk sectors size with
  | false =>
    have HO := Lib.hid hok
    clear hok
    go_enter Try.func10, Try.ntmps10
    go_wp2_with fail
    refine (jsmall_any _).mono ?_
    rintro e w0 ⟨rfl, f0⟩
    go_wp2_with fail
    refine (new_no sectors size _ HO.out).mono ?_
    rintro e w1 ⟨rfl, rfl⟩
    go_wp2_with fail
    refine (rnew_no sectors size _ HO.out).mono ?_
    rintro e w2 ⟨rfl, rfl⟩
    have hB := Lib.hid (f0.below (Nat.le_refl _) (fun _ h => h.elim))
    clear f0
    go_wp2_with fail
    go_ret
    exact ⟨rfl, hB.out⟩
  | true =>
    have HO := Lib.hid hok
    clear hok
    go_enter Try.func10, Try.ntmps10
    go_wp2_with fail
    refine (jsmall_any _).mono ?_
    rintro e w0 ⟨rfl, f0⟩
    go_wp2_with fail
    refine (new_mine (f0.below (Nat.le_refl _) (fun _ h => h.elim)) sectors size HO.out rfl).mono ?_
    rintro e w1 ⟨l, F1, rfl, hm1⟩
    have M1 := Lib.hid hm1
    clear hm1 f0
    go_wp2_with fail
    refine (rnew_ok sectors size _ HO.out).mono ?_
    rintro e w2 ⟨l2, F2, rfl, h2, f2, n2⟩
    have M2 := Lib.hid (M1.out.join DiskAt.ok f2 h2 n2)
    clear f2 h2 n2 M1
    go_wp2_with fail
    obtain ⟨H3, hm3⟩ := M2.out.side
    refine (sopen_any hm3.it).mono ?_
    rintro e w4 ⟨m4, H4, rfl, t4, s4⟩
    have M4 := Lib.hid (hm3.step t4 s4)
    clear hm3 t4 s4 M2
    go_wp2_with fail
    go_loopw [13, 14] (fun s13 s14 wr => ∃ (i : Nat) (d : DK) (m : JSt) (H : Nat → Prop), i ≤ xs.length ∧ s14 = .int .i64 i ∧ s13 = .bool true ∧ Mine w (SideT w2.heap.size l l2 d d m) wr H) (fun _ s14 _ => xs.length - (intOf s14).toNat)
    case atStart => exact ⟨0, _, _, _, Nat.zero_le _, rfl, rfl, M4.out⟩
    case round =>
      obtain ⟨i, d, m, H, hi, rfl, rfl, hm⟩ := hrel
      have M := Lib.hid hm
      clear hm M4
      by_cases hlt : i < xs.length ∧ i < 60
      · obtain ⟨hlt, h2⟩ := hlt
        have q1 : (i : Int) < (xs.length : Int) := by omega
        have q2 : (i : Int) < 60 := by omega
        obtain ⟨ba, off, rfl, hbb, c0, c1, c2, c3, c4, c5⟩ := jact_cells HX.out hlt
        have Ha := Lib.hid (Hxs.out _ (List.getElem_mem hlt))
        have hi' : i + 1 ≤ xs.length := by omega
        generalize xs[i] = a at *
        have y0 := (M.out.below.cell (p := ⟨ba, off + i * 6, none⟩) hbb).trans c0
        have y1 := (M.out.below.cell (p := ⟨ba, off + i * 6 + 1, none⟩) hbb).trans c1
        have y2 := (M.out.below.cell (p := ⟨ba, off + i * 6 + 2, none⟩) hbb).trans c2
        have y3 := (M.out.below.cell (p := ⟨ba, off + i * 6 + 3, none⟩) hbb).trans c3
        have y4 := (M.out.below.cell (p := ⟨ba, off + i * 6 + 4, none⟩) hbb).trans c4
        have y5 := (M.out.below.cell (p := ⟨ba, off + i * 6 + 5, none⟩) hbb).trans c5
        clear c0 c1 c2 c3 c4 c5 hlt hbb
        obtain ⟨us, hus⟩ := Ha.out.ws
        have Hus := Lib.hid hus
        clear hus
        go_wp2_with fail
        refine (jact_any M.out.it a (Hus.out.jwrs M.out) Hus.out.bytes Hus.out.max (Bes.arg Ha.out.keep M.out) (Bes.arg Ha.out.row M.out) Ha.out.n Ha.out.m Ha.out.kl Ha.out.bl).mono ?_
        rintro e w3 ⟨d', m', H', rfl, t3, s3⟩
        have M3 := Lib.hid (M.out.step (A' := SideT w2.heap.size l l2 d' d' m') t3 s3)
        clear t3 s3 y0 y1 y2 y3 y4 y5
        obtain ⟨e0, e1, -⟩ := SM.cells M3.out.it
        go_wp2_with fail
        obtain ⟨F5, hD, -, -⟩ := M3.out.it.left
        obtain ⟨G5, hR, -, -⟩ := M3.out.it.right
        have HS0 := Lib.hid (And.intro e0 e1)
        clear e0 e1
        go_region_held3 (fun W => W.cell? ⟨w2.heap.size, 0, none⟩ = some (.pointer (some ⟨l, 0, none⟩)) ∧ W.cell? ⟨w2.heap.size, 1, none⟩ = some (.pointer (some ⟨l2, 0, none⟩)))
          (first | exact HS0.out | exact hS1)
          ((go_at_call 25; (with_reducible refine (tells_any (DiskAt.ok.fr0 hD ((Fr.refl _ _).drew)) (RDiskAt.ok.fr0 hR ((Fr.refl _ _).drew))).mono ?_); rintro e w4' ⟨rfl, f4⟩; have hm4 := (M3.out.fr SideT.ok ((Fr.refl _ _).drew)).fr SideT.ok f4; have hS1 := And.intro (SM.cells hm4.it).1 (SM.cells hm4.it).2.1))
        have M5 := Lib.hid hm4
        clear f4 hD hR hm4 hS1
        go_wp2_with fail
        go_roundw
        case rel => exact ⟨i + 1, d', m', H', hi', by go_num, rfl, M5.out⟩
        case measure => simp [intOf]; omega
      · have hcs : ((xs.length : Int) ≤ (i : Int)) ∨ ((i : Int) < (xs.length : Int) ∧ (60 : Int) ≤ (i : Int)) := by omega
        clear hlt
        rcases hcs with hc | ⟨hc, hc2⟩
        all_goals
          go_wp2_with fail
          go_ret
          exact ⟨rfl, M.out.below⟩
end Go.Proofs.Ytmcckppmciflmaa
