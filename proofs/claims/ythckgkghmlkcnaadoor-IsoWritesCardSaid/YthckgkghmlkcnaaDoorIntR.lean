/-
  ROWS OF INTS.
-/
import Derived.Test.YthckgkghmlkcnaaDoorBytes
namespace Go.Proofs.YthckgkghmlkcnaaDoor
open Go.RowKit

def IntR : Rec Int := ⟨1, fun n => [.int .i64 n], fun _ => rfl, fun s u hu => by simp at hu; subst hu; rfl⟩
theorem flat_ints (xs : List Int) : IntR.flat xs = xs.map (Value.int .i64) := by
  induction xs with
  | nil => rfl
  | cons b bs ih => show IntR.cells b ++ IntR.flat bs = _; rw [ih]; rfl
theorem infoI : (Tryd.prog.info? 3).map (fun i => (i.zero, i.size, i.bytes)) = some (some (.int .i64 0), 1, 8) := by kernel_rfl
theorem el_ints : Elem Tryd.prog 56 3 IntR.k 8 := Elem.mk' Tryd.underlying56 infoI (by decide) rfl
theorem int_rd {w : World} {b off : Nat} {xs : List Int} (h : RowRd IntR w (some ⟨b, off, none⟩) xs) {i : Nat} (hi : i < xs.length) : w.cell? ⟨b, off + i, none⟩ = some (.int .i64 xs[i]) := by
  obtain ⟨b', off', e, _, h3⟩ := h.at' i hi
  cases e
  have := h3 0 (.int .i64 xs[i]) rfl
  have hk : IntR.k = 1 := rfl
  simpa [hk] using this
end Go.Proofs.YthckgkghmlkcnaaDoor
