/-
  THE WALK of the journal laws' small case.
-/
import Derived.Test.YtmcckppmciflmaaJnCommit
import Derived.Test.YtmcckppmciflmaaDkSmall
import Derived.Lib.SlBytesConst
namespace Go.Proofs.Ytmcckppmciflmaa
open Go.RowKit

def jA : Bs := fillB [97] 64
def jB : Bs := fillB [98] 64
def m0 : DK := DK.new 12 64
def m1 : DK := (commitR m0 0 [(0, jA), (2, jB)]).1
def m2 : DK := m1.armed 4 1
def m3 : DK := (commitR m2 0 [(1, jA)]).1
def m4 : DK := m3.boot [1]
def m5 : DK := (openR m4).1
theorem mE : openR m0 = (m0, 0) ∧ (commitR m0 0 [(0, jA), (2, jB)]).2 = (0, 0) ∧ jreadE m1 2 = 0 ∧ (commitR m2 0 [(1, jA)]).2.2 = 30 ∧ (openR m4).2 = 0 ∧ jreadE m5 1 = 0 := by
  refine ⟨?_, ?_, ?_, ?_, ?_, ?_⟩ <;> kernel_rfl
theorem mL : (jreadB m1 2).length = 64 ∧ (jreadB m1 2)[0]? = some 98 ∧ (jreadB m5 1).length = 64 ∧ jA.length = 64 ∧ jB.length = 64 ∧ secs m5 = 3 := by
  refine ⟨?_, ?_, ?_, ?_, ?_, ?_⟩ <;> kernel_rfl

/-- writes in a new block of their own -/
theorem JWrs.lit {w : World} {H : Nat → Prop} {b : Nat} {cs : Array Value} {t : TypeId} {f : Nat × Nat} {ws : List (Int × SV)} {l : List JW} (hb : w.heap[b]? = some (.cells cs t f)) (hcs : cs.toList = DirtR.flat ws) (hH : ¬ H b) (hlen : ws.length = l.length) (hm : ws.length ≤ maxLen)
    (he : ∀ (i : Nat) (p : Int × SV) (q : JW), ws[i]? = some p → l[i]? = some q → p.1 = q.1 ∧ p.2.n = q.2.length ∧ Bes ByteR p.2.ao q.2 w H) : JWrs w H (some ⟨b, 0, none⟩) ws l :=
  ⟨⟨RowRd.of_flat hb hcs hm, fun _ a e => by cases e; exact ⟨hH, heap_lt hb⟩⟩, hlen, he⟩
theorem JOpenP.ok {L : Nat} {d d' : DK} {F : Nat → Prop} {w : World} {e : Ending} {w' : World} (h : JOpenP L d F w e w') (ho : openR d = (d', 0)) : ∃ j H', e = .returned (.tuple #[.pointer (some ⟨j, 0, none⟩), .int .i64 0]) ∧ JAt j L d' 0 w' H' ∧ Step F H' w w' := by
  rcases h with ⟨_, j, H', h1, h2, h3⟩ | ⟨h1, _⟩
  · rw [ho] at h2
    exact ⟨j, H', h1, h2, h3⟩
  · rw [ho] at h1
    exact absurd rfl h1
theorem JAt.power {j L : Nat} {d : DK} {bad : Int} {w : World} {H : Nat → Prop} (h : JAt j L d bad w H) : ∃ G, DiskAt L d w G ∧ (∀ k, G k → H k) ∧ ∀ (d' : DK) (w' : World) (G' : Nat → Prop), DiskAt L d' w' G' → Step G G' w w' → ∃ H', JAt j L d' bad w' H' ∧ Step H H' w w' := h.disk
/-- an older journal of the same disk -/
theorem JAt.old {j j2 L : Nat} {d : DK} {bad b2 : Int} {w : World} {H : Nat → Prop} (h : Two (JAt j2 L d b2) (BoxT j (Jobj L bad)) w H) : ∃ G, JAt j L d bad w G := by
  obtain ⟨F, G, ⟨F1, F2, h1, _, _, h4⟩, hb, hd, _⟩ := h
  exact ⟨fun k => F1 k ∨ G k, F1, G, h1, hb, fun k hk => hd k ((h4 k).2 (.inl hk)), fun _ => Iff.rfl⟩
set_option maxRecDepth 100000 in
set_option maxHeartbeats 1600000 in
theorem jsmall_any (w : World) : Calls Try.prog 26 #[] w fun e w' => e = .returned (.bool true) ∧ Fr noBlock w w' := by
  obtain ⟨e1, e2, e3, e4, e5, e6⟩ := mE
  obtain ⟨l1, l2, l3, l4, l5, l6⟩ := mL
  have HE := Lib.hid (And.intro e1 (And.intro e2 (And.intro e3 (And.intro e4 (And.intro e5 e6)))))
  have HLn := Lib.hid (And.intro l1 (And.intro l2 (And.intro l3 (And.intro l4 (And.intro l5 l6)))))
  clear e1 e2 e3 e4 e5 e6 l1 l2 l3 l4 l5 l6
  have kc := fun (W : World) (C : Array Value) (n c : Nat) => Lib.run_convert_bytes_const (P := Try.prog) W 23 5 C n c Try.underlying23 Try.underlying5
  go_enter Try.func26, Try.ntmps26
  go_wp2_with fail
  refine (new_mine (Below.refl _ _) 12 64 (by kernel_rfl) (show _ = m0 from rfl)).mono ?_
  rintro e w1 ⟨L, F1, rfl, hm1⟩
  have M1 := Lib.hid hm1
  clear hm1
  go_wp2_with fail
  refine (jopen_any M1.out.it).mono ?_
  rintro e w2 hO
  obtain ⟨j, H2, rfl, h2, s2⟩ := hO.ok HE.out.1
  have M2 := Lib.hid (M1.out.step (A' := JAt j L m0 0) h2 s2)
  clear h2 s2 hO
  go_wp2_with fail
  refine (fill_lit w2 97 _ rfl).mono ?_
  rintro e w3 ⟨⟨sa, sn, sc⟩, rfl, hl3, hr3, hf3, hn3⟩
  simp only at hl3
  subst hl3
  have M3 := Lib.hid (M2.out.fr JAt.ok hf3)
  have B3 := Lib.hid (show Bes ByteR sa jA w3 H2 from Bes.new (w0 := w2) hr3 hn3 (JAt.ok.lt M2.out.it))
  clear hr3 hn3 hf3
  unfold SV.val
  dsimp only
  go_wp2_with fail
  refine (fill_lit w3 98 _ rfl).mono ?_
  rintro e w4 ⟨⟨sb, sn, scb⟩, rfl, hl4, hr4, hf4, hn4⟩
  simp only at hl4
  subst hl4
  have M4 := Lib.hid (M3.out.fr JAt.ok hf4)
  have B4 := Lib.hid (B3.out.fr hf4)
  have C4 := Lib.hid (show Bes ByteR sb jB w4 H2 from Bes.new (w0 := w3) hr4 hn4 (JAt.ok.lt M3.out.it))
  clear hr4 hn4 hf4
  unfold SV.val
  dsimp only
  go_wp2_with fail
  have f5 := (Fr.refl noBlock w4).alloc (.cells #[.int .i64 0, .slice sa jA.length sc, .int .i64 2, .slice sb jB.length scb] 69)
  have M5 := Lib.hid (M4.out.fr JAt.ok f5)
  have B5 := Lib.hid (B4.out.fr f5)
  have J5 := Lib.hid (show JWrs (w4.alloc (.cells #[.int .i64 0, .slice sa jA.length sc, .int .i64 2, .slice sb jB.length scb] 69)) H2 (some ⟨w4.heap.size, 0, none⟩) [((0 : Int), ⟨sa, jA.length, sc⟩), (2, ⟨sb, jB.length, scb⟩)] [(0, jA), (2, jB)] from
    JWrs.lit (heap_new w4 _) rfl (fun h => Nat.lt_irrefl _ (JAt.ok.lt M4.out.it _ h)) rfl (by unfold maxLen; simp) (fun i p q a b => by
      rcases i with _ | _ | i
      · simp at a b; subst a b; exact ⟨rfl, rfl, B4.out.fr f5⟩
      · simp at a b; subst a b; exact ⟨rfl, rfl, C4.out.fr f5⟩
      · simp at a))
  have hcm := jcommit_any M5.out.it J5.out 2 (by simp) (by simp) (by intro v hv; simp at hv; rcases hv with rfl | rfl <;> simp [HLn.out.2.2.2.1, HLn.out.2.2.2.2.1])
  have Hcm := Lib.hid hcm
  clear f5 hcm
  refine Hcm.out.mono ?_
  rintro e w6 ⟨H6, rfl, h6, s6⟩
  have M6 := Lib.hid (M5.out.step (A' := JAt j L m1 0) (show JAt j L m1 0 w6 H6 from by have := h6; rw [HE.out.2.1] at this; exact this) s6)
  have B6 := Lib.hid (B5.out.step s6)
  rw [HE.out.2.1]
  clear h6 s6
  go_wp2_with fail
  refine (jread_any M6.out.it 2).mono ?_
  rintro e w7 ⟨⟨sr, sn, scr⟩, rfl, hl7, hr7, hf7, hn7⟩
  simp only at hl7
  subst hl7
  rw [HE.out.2.2.1]
  have M7 := Lib.hid (M6.out.fr JAt.ok hf7)
  have B7 := Lib.hid (B6.out.fr hf7)
  have R7 := Lib.hid (show Own ⟨sr, (jreadB m1 2).length, scr⟩ (jreadB m1 2) w7 H6 from Own.new hr7 rfl hn7 (JAt.ok.lt M6.out.it))
  clear hr7 hn7 hf7
  unfold SV.val
  dsimp only
  go_wp2_with fail
  obtain ⟨G8, hG8, hsub8, st8⟩ := M7.out.it.disk
  refine (arm_any hG8 4 1 (by omega) (by omega) (by omega)).mono ?_
  rintro e w8 ⟨rfl, h8, s8⟩
  obtain ⟨H8, hA8, hS8⟩ := st8 m2 _ _ h8 s8
  have M8 := Lib.hid (M7.out.step (A' := JAt j L m2 0) hA8 hS8)
  have B8 := Lib.hid (B7.out.step hS8)
  have R8 := Lib.hid (R7.out.step hS8)
  clear hG8 hsub8 st8 h8 s8 hA8 hS8
  go_wp2_with fail
  have f9 := (Fr.refl noBlock w8).alloc (.cells #[.int .i64 1, .slice sa jA.length sc] 69)
  have M9 := Lib.hid (M8.out.fr JAt.ok f9)
  have R9 := Lib.hid (R8.out.fr f9)
  have J9 := Lib.hid (show JWrs (w8.alloc (.cells #[.int .i64 1, .slice sa jA.length sc] 69)) H8 (some ⟨w8.heap.size, 0, none⟩) [((1 : Int), ⟨sa, jA.length, sc⟩)] [(1, jA)] from
    JWrs.lit (heap_new w8 _) rfl (fun h => Nat.lt_irrefl _ (JAt.ok.lt M8.out.it _ h)) rfl (by unfold maxLen; simp) (fun i p q a b => by
      rcases i with _ | i
      · simp at a b; subst a b; exact ⟨rfl, rfl, B8.out.fr f9⟩
      · simp at a))
  have hcm2 := jcommit_any M9.out.it J9.out 1 (by simp) (by simp) (by intro v hv; simp at hv; subst hv; simp [HLn.out.2.2.2.1])
  have Hcm2 := Lib.hid hcm2
  clear f9 hcm2
  refine Hcm2.out.mono ?_
  rintro e w10 ⟨H10, rfl, h10, s10⟩
  obtain ⟨bd, hbd⟩ : ∃ bd, (commitR m2 0 [(1, jA)]).2.1 = bd := ⟨_, rfl⟩
  rw [hbd] at h10
  have M10 := Lib.hid (M9.out.step (A' := JAt j L m3 bd) h10 s10)
  have R10 := Lib.hid (R9.out.step s10)
  rw [HE.out.2.2.2.1]
  clear h10 s10 hbd
  go_wp2_with fail
  have f11 := (Fr.refl noBlock w10).alloc (.cells #[.int .i64 1] 3)
  have M11 := Lib.hid (M10.out.fr JAt.ok f11)
  have R11 := Lib.hid (R10.out.fr f11)
  have hb11 : Beside (some ⟨w10.heap.size, 0, none⟩) [1] (w10.alloc (.cells #[.int .i64 1] 3)) H10 := ⟨RowRd.one (heap_new w10 (.cells #[.int .i64 1] 3)) 1 rfl, fun _ a e => by
    cases e
    exact ⟨fun hf => Nat.lt_irrefl _ (JAt.ok.lt M10.out.it _ hf), by simp⟩⟩
  obtain ⟨G12, hG12, hsub12, st12⟩ := M11.out.it.disk
  have hbt := boot_any hG12 (⟨hb11.rd, fun h0 a e => ⟨fun hg => (hb11.ap h0 a e).1 (hsub12 _ hg), (hb11.ap h0 a e).2⟩⟩ : Beside (some ⟨w10.heap.size, 0, none⟩) [1] _ G12) 1 (by simp)
  have Hbt := Lib.hid hbt
  clear hbt hb11 f11
  refine Hbt.out.mono ?_
  rintro e w12 ⟨G12', rfl, h12, s12⟩
  obtain ⟨H12, hA12, hS12⟩ := st12 m4 _ _ h12 s12
  have M12 := Lib.hid (M11.out.step (A' := JAt j L m4 bd) hA12 hS12)
  have R12 := Lib.hid (R11.out.step hS12)
  clear hG12 hsub12 st12 h12 s12 hA12 hS12
  go_wp2_with fail
  obtain ⟨G13, hG13, st13⟩ := Two.l BoxT.ok M12.out.it
  refine (jopen_any hG13).mono ?_
  rintro e w13 hO
  obtain ⟨j2, H13', rfl, h13, s13⟩ := hO.ok (d' := m5) (by rw [← HE.out.2.2.2.2.1]; rfl)
  obtain ⟨H13, hA13, hS13⟩ := st13 (JAt j2 L m5 0) _ _ h13 s13
  have M13 := Lib.hid (M12.out.step (A' := Two (JAt j2 L m5 0) (BoxT j (Jobj L bd))) hA13 hS13)
  have R13 := Lib.hid (R12.out.step hS13)
  clear hG13 st13 h13 s13 hA13 hS13 hO
  go_wp2_with fail
  obtain ⟨G14, hG14, -⟩ := Two.l BoxT.ok M13.out.it
  refine (jread_any hG14 1).mono ?_
  rintro e w14 ⟨⟨sq, sn, scq⟩, rfl, hl14, hr14, hf14, hn14⟩
  simp only at hl14
  subst hl14
  rw [HE.out.2.2.2.2.2]
  have M14 := Lib.hid (M13.out.fr (Two.ok JAt.ok BoxT.ok) hf14)
  have R14 := Lib.hid (R13.out.fr hf14)
  clear hr14 hn14 hf14 hG14
  unfold SV.val
  dsimp only
  obtain ⟨gr, er, cr⟩ := R14.out.form (by rw [HLn.out.1]; omega)
  have xr := byte_is cr HLn.out.2.1
  unfold SV.val at er
  simp only [Value.slice.injEq] at er
  obtain ⟨rfl, -, -⟩ := er
  rw [HLn.out.1, HLn.out.2.2.1]
  unfold byteV at xr
  have HB := Lib.hid (Fr.of_below (S := noBlock) M14.out.below)
  obtain ⟨G15, hG15⟩ := JAt.old M14.out.it
  have Hsec := Lib.hid (jsectors_any hG15)
  rw [HLn.out.2.2.2.2.2] at Hsec
  clear cr hG15
  go_wp2_with fail
  refine Hsec.out.mono ?_
  rintro e w15 ⟨rfl, rfl⟩
  go_wp2_with fail
  go_ret
  exact ⟨rfl, HB.out⟩
end Go.Proofs.Ytmcckppmciflmaa
