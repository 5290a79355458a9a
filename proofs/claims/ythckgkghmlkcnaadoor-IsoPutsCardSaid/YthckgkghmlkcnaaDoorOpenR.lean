/-
  ARGUMENTS OPENED: a row of records that came in (whatever record: 'mk' says what one element's cells are).
-/
import Derived.Test.YthckgkghmlkcnaaDoorRow
import Derived.Deep.Slices
import Derived.Deep.Fields
import Derived.ChangeSame
import Derived.ProofKit
import Derived.OpenShut
import Derived.ShutString
import Derived.ChangeOld
import Derived.SizedLaws
namespace Go.Proofs.YthckgkghmlkcnaaDoor
open Go.RowKit
open Go.ChangeShapes Go.WideShapes Go.Deep

theorem cell_spot {w : World} {a : Addr} {v : Value} (h : w.cell? a = some v) : a.spot = none := by
  unfold World.cell? at h
  split at h
  · split at h
    · cases h
    · rename_i hs; simpa using hs
  · cases h

section
variable {H : Type} {enc : TypeId × Value → H} {P : Program} {w : World} {base : Nat} {spare : Nat → Bool} {held : Bool}
/-- one field of an element's cells -/
theorem field_of {e : TypeId} {fs : Array Field} {fuel : Nat} {cs : List Value} {x : DataW H × List MemPlace} (he : P.underlying e = some (.struct fs)) (h : DataW.trod enc P w base spare held fuel e cs = some x) :
    ∃ n, ∀ (i o : Nat) (t : TypeId) (sz : Nat), (fs[i]?).map (fun f => (f.offset, f.type)) = some (o, t) → P.cellsOf t = sz → ∃ y, DataW.trod enc P w base spare held n t ((cs.drop o).take sz) = some y := by
  obtain ⟨ys, n, _, _, _, hl, hf⟩ := DataW.trod_struct he h
  refine ⟨n, fun i o t sz hi hs => ?_⟩
  rw [Option.map_eq_some_iff] at hi
  obtain ⟨f, hi, he⟩ := hi
  simp only [Prod.mk.injEq] at he
  obtain ⟨rfl, rfl⟩ := he
  subst hs
  have hlt : i < fs.size := (Array.getElem?_eq_some_iff.1 hi).1
  exact ⟨_, (hf i f hi).trans (List.getElem?_eq_getElem (by omega))⟩

theorem open_rows {α : Type} [Inhabited α] (R : Rec α) (ok : α → Prop) {t e : TypeId} {fuel : Nat} {cs : List Value} {x : DataW H × List MemPlace} (ht : P.underlying t = some (.slice e)) (hC : P.cellsOf e = R.k) (hk : 0 < R.k)
    (mk : ∀ (n : Nat) (cs : List Value) (y : DataW H × List MemPlace), cs.length = R.k → DataW.trod enc P w base spare held n e cs = some y → ∃ a : α, R.cells a = cs ∧ ok a)
    (h : DataW.trod enc P w base spare held fuel t cs = some x) :
    (cs = [.slice none 0 0] ∧ x = (.nil, [])) ∨
    ∃ (a : Addr) (cap : Nat) (xs : List α), cs = [.slice (some a) xs.length cap] ∧ xs.length ≤ cap ∧ cap ≤ maxLen ∧ RowRd R w (some a) xs ∧ (∀ y ∈ xs, ok y) ∧ ∃ elems spare, x.1 = .slice elems spare ∧ elems.length = xs.length := by
  rcases open_slice ht h with h0 | ⟨a, len, cap, m, n, D, Pl, hcs, hb, hl, hm, hmm, hx, hi⟩
  · exact .inl h0
  · right
    have hlm : len ≤ m := by rw [hmm]; split <;> omega
    have each : ∀ i, i < len → ∃ y : α, ok y ∧ ∀ j u, (R.cells y)[j]? = some u → w.cell? (a.add (i * R.k + j)) = some u := by
      intro i hil
      obtain ⟨cs', hc, ht'⟩ := hi i (by omega)
      rw [hC] at hc
      obtain ⟨_, hcl, hat⟩ := World.cells?_some hc
      obtain ⟨y, hy, hok⟩ := mk n cs' _ hcl ht'
      refine ⟨y, hok, fun j u hu => ?_⟩
      rw [hy] at hu
      have hj : j < R.k := by rw [← hcl]; exact (List.getElem?_eq_some_iff.1 hu).1
      rw [← Go.Deep.add_add, hat j hj, hu]
    obtain ⟨f, hf'⟩ := choose_lt' each
    refine ⟨a, cap, (List.range len).map f, by simp [hcs], by simpa using hl, hm, ⟨by simp; omega, fun i hi' => ?_⟩, ?_, ?_⟩
    · have hil : i < len := by simpa using hi'
      obtain ⟨_, hc⟩ := hf' i hil
      obtain ⟨_, hc0⟩ := hf' 0 (by omega)
      obtain ⟨u, hu⟩ : ∃ u, (R.cells (f 0))[0]? = some u := ⟨_, List.getElem?_eq_getElem (by rw [R.len]; exact hk)⟩
      have h0 := hc0 0 u hu
      have hsp : a.spot = none := by
        have := cell_spot h0
        simpa [Addr.add] using this
      obtain ⟨b, off, sp⟩ := a
      simp only at hsp
      subst hsp
      refine ⟨b, off, rfl, World.block_lt_of_cell? w _ h0 |> fun hh => by simpa [Addr.add] using hh, fun j u hu => ?_⟩
      have := hc j u (by simpa using hu)
      rwa [Addr.add_lit, ← Nat.add_assoc] at this
    · intro y hy
      simp only [List.mem_map, List.mem_range] at hy
      obtain ⟨i, hi, rfl⟩ := hy
      exact (hf' i hi).1
    · exact ⟨_, _, (congrArg Prod.fst hx), by simp⟩
end
end Go.Proofs.YthckgkghmlkcnaaDoor
