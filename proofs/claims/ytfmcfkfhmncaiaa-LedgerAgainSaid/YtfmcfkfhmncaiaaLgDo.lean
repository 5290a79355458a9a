/-
  THE WALK of the law's own 'do': an act on a ledger.
-/
import Derived.Test.YtfmcfkfhmncaiaaLgActs
import Derived.Test.YtfmcfkfhmncaiaaLgSumsPlain
namespace Go.Proofs.Ytfmcfkfhmncaiaa
open Go.RowKit

def Act.post (a : Act) : Post := ⟨a.key, a.amount, 1, a.answer⟩
def doL (ps : List Post) (a : Act) : List Post := if a.op = 0 then addL ps a.post else if a.op = 1 then revL ps a.key else if a.op = 3 then [] else ps
def doN (ps : List Post) (a : Act) : Int := if a.op = 0 then 0 else if a.op = 1 then revN ps a.key else if a.op = 3 then sumA ps else 0
def doE (ps : List Post) (a : Act) : Int := if a.op = 0 then addE ps a.post else if a.op = 1 then revE ps a.key else 0

set_option maxHeartbeats 400000 in
theorem do_at {w : World} {l : Nat} {ps : List Post} {F : Nat → Prop} (h : LedAt w l ps F) (a : Act) (hs : a.key.size ≤ maxLen) :
    Calls Try.prog 15 #[.pointer (some ⟨l, 0, none⟩), a.val] w fun e w' => ∃ F', LedAt w' l (doL ps a) F' ∧ e = .returned (.tuple #[.int .i64 (doN ps a), .int .i64 (doE ps a)]) ∧ Step F F' w w' := by
  obtain ⟨op, akey, aans, amt⟩ := a
  have hb := h.fr ((Fr.refl noBlock w).alloc (.cells #[.int .i64 op, .string akey, .string aans, .int .i64 amt] 27)) (fun _ _ x => x)
  have hstep : ∀ (F' : Nat → Prop) (w' : World), Step F F' (w.alloc (.cells #[.int .i64 op, .string akey, .string aans, .int .i64 amt] 27)) w' → Step F F' w w' := fun _ _ hs =>
    ⟨((Fr.refl F w).alloc _).trans' hs.fr, fun k hk => (hs.foot k hk).imp (fun x => x) (fun x => by simp at x; omega)⟩
  have Hst := Lib.hid hstep
  clear hstep
  simp only at hs
  unfold Act.val
  by_cases o0 : (op == 0) = true
  · have e0 : op = 0 := by simpa using o0
    have hc := approve_at hb akey amt aans hs (n := doE ps ⟨op, akey, aans, amt⟩) (qs := doL ps ⟨op, akey, aans, amt⟩) (by simp [doE, e0, Act.post]) (by simp [doL, e0, Act.post])
    have hN : doN ps ⟨op, akey, aans, amt⟩ = 0 := by simp [doN, e0]
    have Hc := Lib.hid hc
    have HN := Lib.hid hN
    clear hc hN e0 h hb
    go_enter Try.func15, Try.ntmps15
    go_wp2_with (go_at_call 10; refine Hc.out.mono ?_; rintro e w' ⟨F', g1, rfl, g2⟩)
    go_ret2
    exact ⟨F', g1, by rw [HN.out]; rfl, Hst.out _ _ g2⟩
  · have o0' : (op == 0) = false := by simpa using o0
    clear o0
    by_cases o1 : (op == 1) = true
    · have e1 : op = 1 := by simpa using o1
      have hc := reverse_at hb akey hs (a := doN ps ⟨op, akey, aans, amt⟩) (n := doE ps ⟨op, akey, aans, amt⟩) (qs := doL ps ⟨op, akey, aans, amt⟩) (by simp [doN, e1]) (by simp [doE, e1]) (by simp [doL, e1])
      have Hc := Lib.hid hc
      clear hc e1 h hb
      go_enter Try.func15, Try.ntmps15
      go_wp2_with (go_at_call 11; refine Hc.out.mono ?_; rintro e w' ⟨F', g1, rfl, g2⟩)
      go_ret2
      exact ⟨F', g1, rfl, Hst.out _ _ g2⟩
    · have o1' : (op == 1) = false := by simpa using o1
      clear o1
      by_cases o3 : (op == 3) = true
      · have e3 : op = 3 := by simpa using o3
        have hc := close_at hb (n := doN ps ⟨op, akey, aans, amt⟩) (by simp [doN, e3])
        have hE : doE ps ⟨op, akey, aans, amt⟩ = 0 := by simp [doE, e3]
        have hL : [] = doL ps ⟨op, akey, aans, amt⟩ := by simp [doL, e3]
        rw [hL] at hc
        have Hc := Lib.hid hc
        have HE := Lib.hid hE
        clear hc hE hL e3 h hb
        go_enter Try.func15, Try.ntmps15
        go_wp2_with (go_at_call 12; refine Hc.out.mono ?_; rintro e w' ⟨F', g1, rfl, g2⟩)
        go_ret2
        exact ⟨F', g1, by rw [HE.out]; rfl, Hst.out _ _ g2⟩
      · have o3' : (op == 3) = false := by simpa using o3
        have hx : doN ps ⟨op, akey, aans, amt⟩ = 0 ∧ doE ps ⟨op, akey, aans, amt⟩ = 0 ∧ doL ps ⟨op, akey, aans, amt⟩ = ps := by
          have e0 : op ≠ 0 := by simpa using o0'
          have e1 : op ≠ 1 := by simpa using o1'
          have e3 : op ≠ 3 := by simpa using o3'
          simp [doN, doE, doL, e0, e1, e3]
        have Hx := Lib.hid hx
        clear o3 hx h
        go_enter Try.func15, Try.ntmps15
        go_wp2_with fail
        go_ret2
        exact ⟨F, by rw [Hx.out.2.2]; exact hb, by rw [Hx.out.1, Hx.out.2.1]; rfl, ⟨(Fr.refl _ _).alloc _, fun k hk => .inl hk⟩⟩

theorem Mine.act {w0 w : World} {l : Nat} {ps : List Post} {F : Nat → Prop} (h : Mine w0 w l ps F) (a : Act) (hs : a.key.size ≤ maxLen) :
    Calls Try.prog 15 #[.pointer (some ⟨l, 0, none⟩), a.val] w fun e w' => ∃ F', e = .returned (.tuple #[.int .i64 (doN ps a), .int .i64 (doE ps a)]) ∧ Mine w0 w' l (doL ps a) F' ∧ Step F F' w w' :=
  (do_at h.led a hs).mono fun _ _ ⟨F', g1, g2, g3⟩ => ⟨F', g2, h.step g1 g3, g3⟩
end Go.Proofs.Ytfmcfkfhmncaiaa
