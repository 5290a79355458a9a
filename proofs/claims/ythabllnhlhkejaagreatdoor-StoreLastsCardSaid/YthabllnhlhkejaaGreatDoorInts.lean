/-
  ROWS OF INTS; the library's sort of them.
-/
import Derived.Sort.OwnSortedInts
import Derived.Test.YthabllnhlhkejaaGreatDoorDkShelf
import Derived.Test.YthabllnhlhkejaaGreatDoorBytes
namespace Go.Proofs.YthabllnhlhkejaaGreatDoor
open Go.RowKit

def IntR : Rec Int := ⟨1, fun n => [.int .i64 n], fun _ => rfl, fun s u hu => by simp at hu; subst hu; rfl⟩
theorem flat_ints (xs : List Int) : IntR.flat xs = xs.map (Value.int .i64) := by
  induction xs with
  | nil => rfl
  | cons b bs ih => show IntR.cells b ++ IntR.flat bs = _; rw [ih]; rfl
theorem infoI : (Tryz.prog.info? 3).map (fun i => (i.zero, i.size, i.bytes)) = some (some (.int .i64 0), 1, 8) := by kernel_rfl
theorem el_ints : Elem Tryz.prog 29 3 IntR.k 8 := Elem.mk' Tryz.underlying29 infoI (by decide) rfl
theorem int_rd {w : World} {b off : Nat} {xs : List Int} (h : RowRd IntR w (some ⟨b, off, none⟩) xs) {i : Nat} (hi : i < xs.length) : w.cell? ⟨b, off + i, none⟩ = some (.int .i64 xs[i]) := by
  obtain ⟨b', off', e, _, h3⟩ := h.at' i hi
  cases e
  have := h3 0 (.int .i64 xs[i]) rfl
  have hk : IntR.k = 1 := rfl
  simpa [hk] using this
end Go.Proofs.YthabllnhlhkejaaGreatDoor
namespace Go.Proofs.YthabllnhlhkejaaGreatDoor
open Go.RowKit Go.Sort

abbrev leI : Int → Int → Bool := fun x y => decide (x ≤ y)
theorem sortI_any {w : World} {v : Value} {xs : List Int} {base : Nat} (h : w.ownsRow base 3 IntR.k v xs.length (IntR.flat xs)) (hm : xs.length < 4611686018427387904) :
    Calls Tryz.prog 53 #[v] w fun e w' => e = .returned (.tuple #[]) ∧ w'.ownsRow base 3 IntR.k v xs.length (IntR.flat (xs.mergeSort leI)) ∧ w.grownBy w' v.ownBlock := by
  have hk : IntR.k = 1 := rfl
  rw [flat_ints, hk] at h
  rw [flat_ints, hk]
  rcases h.2 with ⟨rfl, hn⟩ | ⟨g, cap, cur, rfl, hbase, hb, h1, h2, h3, h4⟩
  · refine (Tryz.slices_Sort_int_none none 0 w).mono ?_
    rintro e w' ⟨rfl, rfl⟩
    have : xs = [] := List.eq_nil_of_length_eq_zero hn
    subst this
    exact ⟨rfl, by simpa using h, ⟨rfl, rfl, rfl, Nat.le_refl _, fun _ _ _ => rfl⟩⟩
  · refine (Tryz.slices_Sort_int g 0 cap xs w (holds_of_blockI hb (by simpa using h4)) (heap_lt hb) hm).mono ?_
    rintro e w' ⟨rfl, nn, os, rfl⟩
    exact ⟨rfl, ownsRow_sortedI (by simp) hbase hb h1 h2 h3, grownBy_sortedI _⟩
end Go.Proofs.YthabllnhlhkejaaGreatDoor
