/-
  THE ISO LAWS' ARGUMENTS OPENED, with their sizes: a message, bytes.
-/
import Derived.Test.YthckgkghmlkcnaaDoorOpenZ
import Derived.Test.YthckgkghmlkcnaaDoorIsR
import Derived.Test.YthckgkghmlkcnaaDoorBytes
namespace Go.Proofs.YthckgkghmlkcnaaDoor
open Go.RowKit
open Go.ChangeShapes Go.WideShapes Go.Deep

/-- an int64 -/
def i64B (n : Int) : Prop := -9223372036854775808 ≤ n ∧ n ≤ 9223372036854775807
theorem i64_wf {n : Int} (h : (Lit.int .i64 n).wf = true) : i64B n := by
  simp [Lit.wf, IntKind.min, IntKind.max, IntKind.signed, IntKind.bits] at h
  unfold i64B; omega
instance : Inhabited Fld := ⟨⟨0, ⟨#[]⟩⟩⟩
def fieldOk (f : Fld) : Prop := i64B f.n ∧ f.v.size ≤ 140737488351232
/-- a slice that came in -/
structure ArgS (ao : Option Addr) (n cap : Nat) : Prop where
  le : n ≤ cap
  max : cap ≤ 9223372036854775807
  none : ao = none → cap = 0
/-- a message that came in -/
structure ArgM (w : World) (t : ByteArray) (ao : Option Addr) (cap : Nat) (l : List Fld) : Prop where
  rd : RowRd FldR w ao l
  t : t.size ≤ 140737488351232
  each : ∀ f ∈ l, fieldOk f
  n : l.length * 24 ≤ 140737488351232
  s : ArgS ao l.length cap
theorem ArgM.small {w : World} {t : ByteArray} {ao : Option Addr} {cap : Nat} {l : List Fld} (h : ArgM w t ao cap l) : SmallM t l := by
  have h1 := h.t
  have h2 := h.n
  exact ⟨by unfold maxLen; omega, fun f hf => by have := (h.each f hf).2; unfold maxLen; omega, by unfold maxLen; omega⟩
theorem size_fld : Tryd.prog.bytesOf 41 = 24 := by kernel_rfl
theorem size_u8 : Tryd.prog.bytesOf 5 = 1 := by kernel_rfl
section
variable {H : Type} {enc : TypeId × Value → H} {w : World} {base : Nat} {spare : Nat → Bool} {held : Bool}
theorem slice_caps {P : Program} {t e : TypeId} {fuel : Nat} {ao : Option Addr} {n cap : Nat} {x : DataW H × List MemPlace} (ht : P.underlying t = some (.slice e)) (h : DataW.trod enc P w base spare held fuel t [.slice ao n cap] = some x) : ArgS ao n cap := by
  rcases open_slice ht h with ⟨h0, _⟩ | ⟨a, len, cap', m, k, D, Pl, hcs, hb, hl, hm, hmm, hx, hi⟩
  · simp only [List.cons.injEq, Value.slice.injEq, and_true] at h0
    obtain ⟨rfl, rfl, rfl⟩ := h0
    exact ⟨Nat.le_refl _, by omega, fun _ => rfl⟩
  · simp only [List.cons.injEq, Value.slice.injEq, and_true] at hcs
    obtain ⟨rfl, rfl, rfl⟩ := hcs
    unfold maxLen at hm
    exact ⟨hl, by omega, fun e => by cases e⟩
theorem mk_byte {n : Nat} {cs : List Value} {y : DataW H × List MemPlace} (_ : cs.length = 1) (h : DataW.trod enc Tryd.prog w base spare held n 5 cs = some y) : ∃ c : UInt8, ByteR.cells c = cs ∧ True := by
  obtain ⟨n0, e0, _, hw⟩ := DataW.trod_int Tryd.underlying5 h
  have h0 : 0 ≤ n0 ∧ n0 ≤ 255 := by simp [Lit.wf, IntKind.min, IntKind.max, IntKind.signed, IntKind.bits] at hw; omega
  refine ⟨UInt8.ofNat n0.toNat, ?_, trivial⟩
  show [Value.int .u8 _] = _
  rw [e0, UInt8.toNat_ofNat']
  congr 2
  omega
theorem rows_bytesZ {n : Nat} {cs : List Value} {x : DataW H × List MemPlace} (h : DataW.trod enc Tryd.prog w base spare held n 22 cs = some x) (hz : Sz Tryd.prog 22 x.1) : ∃ ao cap, ∃ b : List UInt8, cs = [.slice ao b.length cap] ∧ RowRd ByteR w ao b ∧ b.length ≤ 140737488351232 ∧ ArgS ao b.length cap := by
  obtain ⟨ao, cap, xs, hcs, hr, _, hl⟩ := open_rowsZ ByteR (fun _ => True) Tryd.underlying22 (by kernel_rfl) (by show 0 < 1; omega) (fun n cs y hl ht _ => mk_byte hl ht) h hz
  rw [size_u8] at hl
  have e : reachBytes = 140737488351232 := rfl
  subst hcs
  exact ⟨ao, cap, xs, rfl, hr, by omega, slice_caps Tryd.underlying22 h⟩
theorem mk_fld {n : Nat} {cs : List Value} {y : DataW H × List MemPlace} (hl : cs.length = 2) (h : DataW.trod enc Tryd.prog w base spare held n 41 cs = some y) (hz : Sz Tryd.prog 41 y.1) : ∃ f : Fld, FldR.cells f = cs ∧ fieldOk f := by
  obtain ⟨m, hf⟩ := field_ofZ Tryd.underlying41 h hz
  obtain ⟨y0, t0, _⟩ := hf 0 0 3 1 rfl (by kernel_rfl)
  obtain ⟨y1, t1, z1⟩ := hf 1 1 9 1 rfl (by kernel_rfl)
  obtain ⟨n0, e0, _, h0⟩ := DataW.trod_int Tryd.underlying3 t0
  obtain ⟨s1, e1, d1, _⟩ := DataW.trod_string Tryd.underlying9 t1
  have hs := Sz.str (P := Tryd.prog) (t := 9) (bytes := s1.data.toList) (by rw [d1] at z1; exact z1)
  have e : reachBytes = 140737488351232 := rfl
  rcases cs with _ | ⟨c0, _ | ⟨c1, _ | ⟨c2, cs⟩⟩⟩ <;> simp at hl
  simp at e0 e1
  exact ⟨⟨n0, s1⟩, by rw [e0, e1]; rfl, i64_wf h0, by simpa [e] using hs⟩
theorem rows_fldsZ {n : Nat} {cs : List Value} {x : DataW H × List MemPlace} (h : DataW.trod enc Tryd.prog w base spare held n 25 cs = some x) (hz : Sz Tryd.prog 25 x.1) : ∃ ao cap, ∃ l : List Fld, cs = [.slice ao l.length cap] ∧ RowRd FldR w ao l ∧ (∀ f ∈ l, fieldOk f) ∧ l.length * 24 ≤ 140737488351232 ∧ ArgS ao l.length cap := by
  obtain ⟨ao, cap, xs, hcs, hr, hok, hl⟩ := open_rowsZ FldR fieldOk Tryd.underlying25 (by kernel_rfl) (by show 0 < 2; omega) (fun n cs y hl ht hz => mk_fld hl ht hz) h hz
  rw [size_fld] at hl
  have e : reachBytes = 140737488351232 := rfl
  subst hcs
  exact ⟨ao, cap, xs, rfl, hr, hok, by omega, slice_caps Tryd.underlying25 h⟩
theorem mk_msg {n : Nat} {cs : List Value} {y : DataW H × List MemPlace} (hl : cs.length = 2) (h : DataW.trod enc Tryd.prog w base spare held n 27 cs = some y) (hz : Sz Tryd.prog 27 y.1) : ∃ t ao cap l, cs = [.string t, .slice ao l.length cap] ∧ ArgM w t ao cap l := by
  obtain ⟨m, hf⟩ := field_ofZ Tryd.underlying27 h hz
  obtain ⟨y0, t0, z0⟩ := hf 0 0 9 1 rfl (by kernel_rfl)
  obtain ⟨y1, t1, z1⟩ := hf 1 1 25 1 rfl (by kernel_rfl)
  obtain ⟨s0, e0, d0, _⟩ := DataW.trod_string Tryd.underlying9 t0
  have hs := Sz.str (P := Tryd.prog) (t := 9) (bytes := s0.data.toList) (by rw [d0] at z0; exact z0)
  obtain ⟨ao, cap, l, e1, hr, hok, hl24, hsl⟩ := rows_fldsZ t1 z1
  have e : reachBytes = 140737488351232 := rfl
  rcases cs with _ | ⟨c0, _ | ⟨c1, _ | ⟨c2, cs⟩⟩⟩ <;> simp at hl
  simp at e0 e1
  exact ⟨s0, ao, cap, l, by rw [e0, e1], hr, by simpa [e] using hs, hok, hl24, hsl⟩
end
set_option maxRecDepth 100000 in
theorem open_bytes {H : Type} {enc : TypeId × Value → H} {W : World} {base : Nat} {r : Reach} {v : Value} {d : DataW H} {p : List MemPlace} (hv : Value.okWide Tryd.prog W r base 22 v) (h : DataW.Trod enc Tryd.prog W 0 (fun _ => true) true 22 v d p) (hz : Sz Tryd.prog 22 d) :
    ∃ (ao : Option Addr) (cap : Nat) (b : Bs), v = .slice ao b.length cap ∧ RowRd ByteR W ao b ∧ b.length ≤ 140737488351232 ∧ ArgS ao b.length cap := by
  obtain ⟨a0, len0, cap0, rfl⟩ := okWide_slice Tryd.underlying22 hv
  obtain ⟨fuel, hf⟩ := h
  obtain ⟨ao, cap, b, e, hr⟩ := rows_bytesZ hf hz
  simp [Value.cells] at e
  obtain ⟨rfl, rfl, rfl⟩ := e
  exact ⟨_, _, b, rfl, hr⟩
set_option maxRecDepth 100000 in
theorem open_msg {H : Type} {enc : TypeId × Value → H} {W : World} {base : Nat} {r : Reach} {v : Value} {d : DataW H} {p : List MemPlace} (hv : Value.okWide Tryd.prog W r base 27 v) (h : DataW.Trod enc Tryd.prog W 0 (fun _ => true) true 27 v d p) (hz : Sz Tryd.prog 27 d) :
    ∃ (t : ByteArray) (ao : Option Addr) (cap : Nat) (l : List Fld), v = .agg #[.string t, .slice ao l.length cap] ∧ ArgM W t ao cap l := by
  obtain ⟨cs, rfl, hs⟩ := okWide_struct Tryd.underlying27 hv
  obtain ⟨fuel, hf⟩ := h
  rw [show Tryd.prog.cellsOf 27 = 2 by kernel_rfl] at hs
  obtain ⟨t, ao, cap, l, e, hr⟩ := mk_msg (by simpa [Value.cells] using hs) hf hz
  have : cs = #[.string t, .slice ao l.length cap] := by
    apply Array.toList_inj.1
    simpa [Value.cells] using e
  exact ⟨t, ao, cap, l, by rw [this], hr⟩
end Go.Proofs.YthckgkghmlkcnaaDoor
