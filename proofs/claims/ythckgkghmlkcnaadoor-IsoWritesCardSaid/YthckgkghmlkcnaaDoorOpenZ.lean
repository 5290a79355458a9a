/-
  ARGUMENTS OPENED, WITH THEIR SIZES: what is handed in takes at most the reach's bytes, in each slice and string of it.
-/
import Derived.Deep.Slices
import Derived.Deep.Fields
import Derived.ChangeSame
import Derived.ProofKit
import Derived.OpenShut
import Derived.ShutString
import Derived.ChangeOld
import Derived.SizedLaws
import Derived.Test.YthckgkghmlkcnaaDoorRow
namespace Go.Proofs.YthckgkghmlkcnaaDoor
open Go.RowKit
open Go.ChangeShapes Go.WideShapes Go.Deep

theorem cell_spot {w : World} {a : Addr} {v : Value} (h : w.cell? a = some v) : a.spot = none := by
  unfold World.cell? at h
  split at h
  · split at h
    · cases h
    · rename_i hs; simpa using hs
  · cases h

section
variable {H : Type} {enc : TypeId × Value → H} {P : Program} {w : World} {base : Nat} {spare : Nat → Bool} {held : Bool}
/-- one field of an element's cells -/
theorem field_of {e : TypeId} {fs : Array Field} {fuel : Nat} {cs : List Value} {x : DataW H × List MemPlace} (he : P.underlying e = some (.struct fs)) (h : DataW.trod enc P w base spare held fuel e cs = some x) :
    ∃ n, ∀ (i o : Nat) (t : TypeId) (sz : Nat), (fs[i]?).map (fun f => (f.offset, f.type)) = some (o, t) → P.cellsOf t = sz → ∃ y, DataW.trod enc P w base spare held n t ((cs.drop o).take sz) = some y := by
  obtain ⟨ys, n, _, _, _, hl, hf⟩ := DataW.trod_struct he h
  refine ⟨n, fun i o t sz hi hs => ?_⟩
  rw [Option.map_eq_some_iff] at hi
  obtain ⟨f, hi, he⟩ := hi
  simp only [Prod.mk.injEq] at he
  obtain ⟨rfl, rfl⟩ := he
  subst hs
  have hlt : i < fs.size := (Array.getElem?_eq_some_iff.1 hi).1
  exact ⟨_, (hf i f hi).trans (List.getElem?_eq_getElem (by omega))⟩

theorem open_rows {α : Type} [Inhabited α] (R : Rec α) (ok : α → Prop) {t e : TypeId} {fuel : Nat} {cs : List Value} {x : DataW H × List MemPlace} (ht : P.underlying t = some (.slice e)) (hC : P.cellsOf e = R.k) (hk : 0 < R.k)
    (mk : ∀ (n : Nat) (cs : List Value) (y : DataW H × List MemPlace), cs.length = R.k → DataW.trod enc P w base spare held n e cs = some y → ∃ a : α, R.cells a = cs ∧ ok a)
    (h : DataW.trod enc P w base spare held fuel t cs = some x) :
    (cs = [.slice none 0 0] ∧ x = (.nil, [])) ∨
    ∃ (a : Addr) (cap : Nat) (xs : List α), cs = [.slice (some a) xs.length cap] ∧ xs.length ≤ cap ∧ cap ≤ maxLen ∧ RowRd R w (some a) xs ∧ (∀ y ∈ xs, ok y) ∧ ∃ elems spare, x.1 = .slice elems spare ∧ elems.length = xs.length := by
  rcases open_slice ht h with h0 | ⟨a, len, cap, m, n, D, Pl, hcs, hb, hl, hm, hmm, hx, hi⟩
  · exact .inl h0
  · right
    have hlm : len ≤ m := by rw [hmm]; split <;> omega
    have each : ∀ i, i < len → ∃ y : α, ok y ∧ ∀ j u, (R.cells y)[j]? = some u → w.cell? (a.add (i * R.k + j)) = some u := by
      intro i hil
      obtain ⟨cs', hc, ht'⟩ := hi i (by omega)
      rw [hC] at hc
      obtain ⟨_, hcl, hat⟩ := World.cells?_some hc
      obtain ⟨y, hy, hok⟩ := mk n cs' _ hcl ht'
      refine ⟨y, hok, fun j u hu => ?_⟩
      rw [hy] at hu
      have hj : j < R.k := by rw [← hcl]; exact (List.getElem?_eq_some_iff.1 hu).1
      rw [← Go.Deep.add_add, hat j hj, hu]
    obtain ⟨f, hf'⟩ := choose_lt' each
    refine ⟨a, cap, (List.range len).map f, by simp [hcs], by simpa using hl, hm, ⟨by simp; omega, fun i hi' => ?_⟩, ?_, ?_⟩
    · have hil : i < len := by simpa using hi'
      obtain ⟨_, hc⟩ := hf' i hil
      obtain ⟨_, hc0⟩ := hf' 0 (by omega)
      obtain ⟨u, hu⟩ : ∃ u, (R.cells (f 0))[0]? = some u := ⟨_, List.getElem?_eq_getElem (by rw [R.len]; exact hk)⟩
      have h0 := hc0 0 u hu
      have hsp : a.spot = none := by
        have := cell_spot h0
        simpa [Addr.add] using this
      obtain ⟨b, off, sp⟩ := a
      simp only at hsp
      subst hsp
      refine ⟨b, off, rfl, World.block_lt_of_cell? w _ h0 |> fun hh => by simpa [Addr.add] using hh, fun j u hu => ?_⟩
      have := hc j u (by simpa using hu)
      rwa [Addr.add_lit, ← Nat.add_assoc] at this
    · intro y hy
      simp only [List.mem_map, List.mem_range] at hy
      obtain ⟨i, hi, rfl⟩ := hy
      exact (hf' i hi).1
    · exact ⟨_, _, (congrArg Prod.fst hx), by simp⟩
end
end Go.Proofs.YthckgkghmlkcnaaDoor
namespace Go.Proofs.YthckgkghmlkcnaaDoor
open Go.RowKit
open Go.ChangeShapes Go.WideShapes Go.Deep

/-- each slice, string and map in it takes at most the reach's bytes -/
def Sz {H : Type} (P : Program) (t : TypeId) (d : DataW H) : Prop := ∀ m ∈ d.weights P t, m ≤ reachBytes
section
variable {H : Type} {enc : TypeId × Value → H} {P : Program} {w : World} {base : Nat} {spare : Nat → Bool} {held : Bool}
theorem Sz.of {ts : List TypeId} {ds : List (DataW H)} (h : (DataW.weightsEach P ts ds).all (· ≤ reachBytes) = true) {j : Nat} {t : TypeId} {d : DataW H} (ht : ts[j]? = some t) (hd : ds[j]? = some d) : Sz P t d :=
  fun m hm => by simpa using List.all_eq_true.1 h m (DataW.weights_mem_each ht hd m hm)
theorem Sz.field {e : TypeId} {fs : Array Field} {parts : List (DataW H)} (he : P.underlying e = some (.struct fs)) (h : Sz P e (.agg parts)) {i : Nat} {f : Field} {d : DataW H} (hi : fs[i]? = some f) (hd : parts[i]? = some d) : Sz P f.type d := by
  intro m hm
  refine h m ?_
  simp only [DataW.weights, he]
  refine DataW.weights_mem_each (j := i) (t := f.type) ?_ hd m hm
  simp [hi]
theorem mem_all {e : TypeId} : ∀ {l : List (DataW H)} {d : DataW H}, d ∈ l → ∀ m ∈ d.weights P e, m ∈ DataW.weightsAll P e l
  | x :: l, d, hd, m, hm => by
    simp only [DataW.weightsAll, List.mem_append]
    rcases List.mem_cons.1 hd with rfl | h
    · exact Or.inl hm
    · exact Or.inr (mem_all h m hm)
theorem Sz.elem {t e : TypeId} {elems sp : List (DataW H)} (ht : P.underlying t = some (.slice e)) (h : Sz P t (.slice elems sp)) {d : DataW H} (hd : d ∈ elems) : Sz P e d := by
  intro m hm
  refine h m ?_
  simp only [DataW.weights, ht, List.mem_cons, List.mem_append]
  exact Or.inr (Or.inl (mem_all hd m hm))
theorem Sz.len {t e : TypeId} {elems sp : List (DataW H)} (ht : P.underlying t = some (.slice e)) (h : Sz P t (.slice elems sp)) : elems.length * P.bytesOf e ≤ reachBytes := by
  have := h ((elems.length + sp.length) * P.bytesOf e) (by simp [DataW.weights, ht])
  rw [Nat.add_mul] at this
  omega
theorem Sz.str {t : TypeId} {bytes : List UInt8} (h : Sz (H := H) P t (.lit (.string bytes))) : bytes.length ≤ reachBytes := h _ (by simp [DataW.weights])

theorem field_ofZ {e : TypeId} {fs : Array Field} {fuel : Nat} {cs : List Value} {x : DataW H × List MemPlace} (he : P.underlying e = some (.struct fs)) (h : DataW.trod enc P w base spare held fuel e cs = some x) (hz : Sz P e x.1) :
    ∃ n, ∀ (i o : Nat) (t : TypeId) (sz : Nat), (fs[i]?).map (fun f => (f.offset, f.type)) = some (o, t) → P.cellsOf t = sz → ∃ y, DataW.trod enc P w base spare held n t ((cs.drop o).take sz) = some y ∧ Sz P t y.1 := by
  obtain ⟨ys, n, _, hx, _, hl, hf⟩ := DataW.trod_struct he h
  refine ⟨n, fun i o t sz hi hs => ?_⟩
  rw [Option.map_eq_some_iff] at hi
  obtain ⟨f, hi, he'⟩ := hi
  simp only [Prod.mk.injEq] at he'
  obtain ⟨rfl, rfl⟩ := he'
  subst hs
  have hlt : i < fs.size := (Array.getElem?_eq_some_iff.1 hi).1
  refine ⟨_, (hf i f hi).trans (List.getElem?_eq_getElem (by omega)), ?_⟩
  rw [hx] at hz
  exact Sz.field he hz hi (by rw [List.getElem?_map, List.getElem?_eq_getElem (by omega)]; rfl)

theorem open_rowsZ {α : Type} [Inhabited α] (R : Rec α) (ok : α → Prop) {t e : TypeId} {fuel : Nat} {cs : List Value} {x : DataW H × List MemPlace} (ht : P.underlying t = some (.slice e)) (hC : P.cellsOf e = R.k) (hk : 0 < R.k)
    (mk : ∀ (n : Nat) (cs : List Value) (y : DataW H × List MemPlace), cs.length = R.k → DataW.trod enc P w base spare held n e cs = some y → Sz P e y.1 → ∃ a : α, R.cells a = cs ∧ ok a)
    (h : DataW.trod enc P w base spare held fuel t cs = some x) (hz : Sz P t x.1) :
    ∃ (ao : Option Addr) (cap : Nat) (xs : List α), cs = [.slice ao xs.length cap] ∧ RowRd R w ao xs ∧ (∀ y ∈ xs, ok y) ∧ xs.length * P.bytesOf e ≤ reachBytes := by
  rcases open_slice ht h with ⟨h0, _⟩ | ⟨a, len, cap, m, n, D, Pl, hcs, hb, hl, hm, hmm, hx, hi⟩
  · exact ⟨none, 0, [], h0, RowRd.nil, by simp, by simp⟩
  · have hlm : len ≤ m := by rw [hmm]; split <;> omega
    rw [hx] at hz
    have each : ∀ i, i < len → ∃ y : α, ok y ∧ ∀ j u, (R.cells y)[j]? = some u → w.cell? (a.add (i * R.k + j)) = some u := by
      intro i hil
      obtain ⟨cs', hc, ht'⟩ := hi i (by omega)
      rw [hC] at hc
      obtain ⟨_, hcl, hat⟩ := World.cells?_some hc
      obtain ⟨y, hy, hok⟩ := mk n cs' _ hcl ht' (Sz.elem ht hz (List.mem_map.2 ⟨i, List.mem_range.2 hil, rfl⟩))
      refine ⟨y, hok, fun j u hu => ?_⟩
      rw [hy] at hu
      have hj : j < R.k := by rw [← hcl]; exact (List.getElem?_eq_some_iff.1 hu).1
      rw [← Go.Deep.add_add, hat j hj, hu]
    obtain ⟨f, hf'⟩ := choose_lt' each
    refine ⟨some a, cap, (List.range len).map f, by simp [hcs], ⟨by simp; omega, fun i hi' => ?_⟩, ?_, ?_⟩
    · have hil : i < len := by simpa using hi'
      obtain ⟨_, hc⟩ := hf' i hil
      obtain ⟨_, hc0⟩ := hf' 0 (by omega)
      obtain ⟨u, hu⟩ : ∃ u, (R.cells (f 0))[0]? = some u := ⟨_, List.getElem?_eq_getElem (by rw [R.len]; exact hk)⟩
      have h0 := hc0 0 u hu
      have hsp : a.spot = none := by
        have := cell_spot h0
        simpa [Addr.add] using this
      obtain ⟨b, off, sp⟩ := a
      simp only at hsp
      subst hsp
      refine ⟨b, off, rfl, World.block_lt_of_cell? w _ h0 |> fun hh => by simpa [Addr.add] using hh, fun j u hu => ?_⟩
      have := hc j u (by simpa using hu)
      rwa [Addr.add_lit, ← Nat.add_assoc] at this
    · intro y hy
      simp only [List.mem_map, List.mem_range] at hy
      obtain ⟨i, hi, rfl⟩ := hy
      exact (hf' i hi).1
    · have := Sz.len ht hz
      simpa using this
end
end Go.Proofs.YthckgkghmlkcnaaDoor
