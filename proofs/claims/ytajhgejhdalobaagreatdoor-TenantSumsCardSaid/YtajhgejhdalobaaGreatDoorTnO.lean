/-
  THE TENANT LAWS' ARGUMENTS OPENED, with their sizes: rows of acts, of messages.
-/
import Derived.Deep.Slices
import Derived.Deep.Fields
import Derived.ChangeSame
import Derived.ProofKit
import Derived.OpenShut
import Derived.ShutString
import Derived.ChangeOld
import Derived.SizedLaws
import Derived.Test.YtajhgejhdalobaaGreatDoorTnR
namespace Go.Proofs.YtajhgejhdalobaaGreatDoor
open Go.RowKit
open Go.ChangeShapes Go.WideShapes Go.Deep

theorem cell_spot {w : World} {a : Addr} {v : Value} (h : w.cell? a = some v) : a.spot = none := by
  unfold World.cell? at h
  split at h
  · split at h
    · cases h
    · rename_i hs; simpa using hs
  · cases h

section
variable {H : Type} {enc : TypeId × Value → H} {P : Program} {w : World} {base : Nat} {spare : Nat → Bool} {held : Bool}
/-- one field of an element's cells -/
theorem field_of {e : TypeId} {fs : Array Field} {fuel : Nat} {cs : List Value} {x : DataW H × List MemPlace} (he : P.underlying e = some (.struct fs)) (h : DataW.trod enc P w base spare held fuel e cs = some x) :
    ∃ n, ∀ (i o : Nat) (t : TypeId) (sz : Nat), (fs[i]?).map (fun f => (f.offset, f.type)) = some (o, t) → P.cellsOf t = sz → ∃ y, DataW.trod enc P w base spare held n t ((cs.drop o).take sz) = some y := by
  obtain ⟨ys, n, _, _, _, hl, hf⟩ := DataW.trod_struct he h
  refine ⟨n, fun i o t sz hi hs => ?_⟩
  rw [Option.map_eq_some_iff] at hi
  obtain ⟨f, hi, he⟩ := hi
  simp only [Prod.mk.injEq] at he
  obtain ⟨rfl, rfl⟩ := he
  subst hs
  have hlt : i < fs.size := (Array.getElem?_eq_some_iff.1 hi).1
  exact ⟨_, (hf i f hi).trans (List.getElem?_eq_getElem (by omega))⟩

theorem open_rows {α : Type} [Inhabited α] (R : Rec α) (ok : α → Prop) {t e : TypeId} {fuel : Nat} {cs : List Value} {x : DataW H × List MemPlace} (ht : P.underlying t = some (.slice e)) (hC : P.cellsOf e = R.k) (hk : 0 < R.k)
    (mk : ∀ (n : Nat) (cs : List Value) (y : DataW H × List MemPlace), cs.length = R.k → DataW.trod enc P w base spare held n e cs = some y → ∃ a : α, R.cells a = cs ∧ ok a)
    (h : DataW.trod enc P w base spare held fuel t cs = some x) :
    (cs = [.slice none 0 0] ∧ x = (.nil, [])) ∨
    ∃ (a : Addr) (cap : Nat) (xs : List α), cs = [.slice (some a) xs.length cap] ∧ xs.length ≤ cap ∧ cap ≤ maxLen ∧ RowRd R w (some a) xs ∧ (∀ y ∈ xs, ok y) ∧ ∃ elems spare, x.1 = .slice elems spare ∧ elems.length = xs.length := by
  rcases open_slice ht h with h0 | ⟨a, len, cap, m, n, D, Pl, hcs, hb, hl, hm, hmm, hx, hi⟩
  · exact .inl h0
  · right
    have hlm : len ≤ m := by rw [hmm]; split <;> omega
    have each : ∀ i, i < len → ∃ y : α, ok y ∧ ∀ j u, (R.cells y)[j]? = some u → w.cell? (a.add (i * R.k + j)) = some u := by
      intro i hil
      obtain ⟨cs', hc, ht'⟩ := hi i (by omega)
      rw [hC] at hc
      obtain ⟨_, hcl, hat⟩ := World.cells?_some hc
      obtain ⟨y, hy, hok⟩ := mk n cs' _ hcl ht'
      refine ⟨y, hok, fun j u hu => ?_⟩
      rw [hy] at hu
      have hj : j < R.k := by rw [← hcl]; exact (List.getElem?_eq_some_iff.1 hu).1
      rw [← Go.Deep.add_add, hat j hj, hu]
    obtain ⟨f, hf'⟩ := choose_lt' each
    refine ⟨a, cap, (List.range len).map f, by simp [hcs], by simpa using hl, hm, ⟨by simp; omega, fun i hi' => ?_⟩, ?_, ?_⟩
    · have hil : i < len := by simpa using hi'
      obtain ⟨_, hc⟩ := hf' i hil
      obtain ⟨_, hc0⟩ := hf' 0 (by omega)
      obtain ⟨u, hu⟩ : ∃ u, (R.cells (f 0))[0]? = some u := ⟨_, List.getElem?_eq_getElem (by rw [R.len]; exact hk)⟩
      have h0 := hc0 0 u hu
      have hsp : a.spot = none := by
        have := cell_spot h0
        simpa [Addr.add] using this
      obtain ⟨b, off, sp⟩ := a
      simp only at hsp
      subst hsp
      refine ⟨b, off, rfl, World.block_lt_of_cell? w _ h0 |> fun hh => by simpa [Addr.add] using hh, fun j u hu => ?_⟩
      have := hc j u (by simpa using hu)
      rwa [Addr.add_lit, ← Nat.add_assoc] at this
    · intro y hy
      simp only [List.mem_map, List.mem_range] at hy
      obtain ⟨i, hi, rfl⟩ := hy
      exact (hf' i hi).1
    · exact ⟨_, _, (congrArg Prod.fst hx), by simp⟩
end
end Go.Proofs.YtajhgejhdalobaaGreatDoor
namespace Go.Proofs.YtajhgejhdalobaaGreatDoor
open Go.RowKit
open Go.ChangeShapes Go.WideShapes Go.Deep

/-- each slice, string and map in it takes at most the reach's bytes -/
def Sz {H : Type} (P : Program) (t : TypeId) (d : DataW H) : Prop := ∀ m ∈ d.weights P t, m ≤ reachBytes
section
variable {H : Type} {enc : TypeId × Value → H} {P : Program} {w : World} {base : Nat} {spare : Nat → Bool} {held : Bool}
theorem Sz.of {ts : List TypeId} {ds : List (DataW H)} (h : (DataW.weightsEach P ts ds).all (· ≤ reachBytes) = true) {j : Nat} {t : TypeId} {d : DataW H} (ht : ts[j]? = some t) (hd : ds[j]? = some d) : Sz P t d :=
  fun m hm => by simpa using List.all_eq_true.1 h m (DataW.weights_mem_each ht hd m hm)
theorem Sz.field {e : TypeId} {fs : Array Field} {parts : List (DataW H)} (he : P.underlying e = some (.struct fs)) (h : Sz P e (.agg parts)) {i : Nat} {f : Field} {d : DataW H} (hi : fs[i]? = some f) (hd : parts[i]? = some d) : Sz P f.type d := by
  intro m hm
  refine h m ?_
  simp only [DataW.weights, he]
  refine DataW.weights_mem_each (j := i) (t := f.type) ?_ hd m hm
  simp [hi]
theorem mem_all {e : TypeId} : ∀ {l : List (DataW H)} {d : DataW H}, d ∈ l → ∀ m ∈ d.weights P e, m ∈ DataW.weightsAll P e l
  | x :: l, d, hd, m, hm => by
    simp only [DataW.weightsAll, List.mem_append]
    rcases List.mem_cons.1 hd with rfl | h
    · exact Or.inl hm
    · exact Or.inr (mem_all h m hm)
theorem Sz.elem {t e : TypeId} {elems sp : List (DataW H)} (ht : P.underlying t = some (.slice e)) (h : Sz P t (.slice elems sp)) {d : DataW H} (hd : d ∈ elems) : Sz P e d := by
  intro m hm
  refine h m ?_
  simp only [DataW.weights, ht, List.mem_cons, List.mem_append]
  exact Or.inr (Or.inl (mem_all hd m hm))
theorem Sz.len {t e : TypeId} {elems sp : List (DataW H)} (ht : P.underlying t = some (.slice e)) (h : Sz P t (.slice elems sp)) : elems.length * P.bytesOf e ≤ reachBytes := by
  have := h ((elems.length + sp.length) * P.bytesOf e) (by simp [DataW.weights, ht])
  rw [Nat.add_mul] at this
  omega
theorem Sz.str {t : TypeId} {bytes : List UInt8} (h : Sz (H := H) P t (.lit (.string bytes))) : bytes.length ≤ reachBytes := h _ (by simp [DataW.weights])

theorem field_ofZ {e : TypeId} {fs : Array Field} {fuel : Nat} {cs : List Value} {x : DataW H × List MemPlace} (he : P.underlying e = some (.struct fs)) (h : DataW.trod enc P w base spare held fuel e cs = some x) (hz : Sz P e x.1) :
    ∃ n, ∀ (i o : Nat) (t : TypeId) (sz : Nat), (fs[i]?).map (fun f => (f.offset, f.type)) = some (o, t) → P.cellsOf t = sz → ∃ y, DataW.trod enc P w base spare held n t ((cs.drop o).take sz) = some y ∧ Sz P t y.1 := by
  obtain ⟨ys, n, _, hx, _, hl, hf⟩ := DataW.trod_struct he h
  refine ⟨n, fun i o t sz hi hs => ?_⟩
  rw [Option.map_eq_some_iff] at hi
  obtain ⟨f, hi, he'⟩ := hi
  simp only [Prod.mk.injEq] at he'
  obtain ⟨rfl, rfl⟩ := he'
  subst hs
  have hlt : i < fs.size := (Array.getElem?_eq_some_iff.1 hi).1
  refine ⟨_, (hf i f hi).trans (List.getElem?_eq_getElem (by omega)), ?_⟩
  rw [hx] at hz
  exact Sz.field he hz hi (by rw [List.getElem?_map, List.getElem?_eq_getElem (by omega)]; rfl)

theorem open_rowsZ {α : Type} [Inhabited α] (R : Rec α) (ok : α → Prop) {t e : TypeId} {fuel : Nat} {cs : List Value} {x : DataW H × List MemPlace} (ht : P.underlying t = some (.slice e)) (hC : P.cellsOf e = R.k) (hk : 0 < R.k)
    (mk : ∀ (n : Nat) (cs : List Value) (y : DataW H × List MemPlace), cs.length = R.k → DataW.trod enc P w base spare held n e cs = some y → Sz P e y.1 → ∃ a : α, R.cells a = cs ∧ ok a)
    (h : DataW.trod enc P w base spare held fuel t cs = some x) (hz : Sz P t x.1) :
    ∃ (ao : Option Addr) (cap : Nat) (xs : List α), cs = [.slice ao xs.length cap] ∧ RowRd R w ao xs ∧ (∀ y ∈ xs, ok y) ∧ xs.length * P.bytesOf e ≤ reachBytes := by
  rcases open_slice ht h with ⟨h0, _⟩ | ⟨a, len, cap, m, n, D, Pl, hcs, hb, hl, hm, hmm, hx, hi⟩
  · exact ⟨none, 0, [], h0, RowRd.nil, by simp, by simp⟩
  · have hlm : len ≤ m := by rw [hmm]; split <;> omega
    rw [hx] at hz
    have each : ∀ i, i < len → ∃ y : α, ok y ∧ ∀ j u, (R.cells y)[j]? = some u → w.cell? (a.add (i * R.k + j)) = some u := by
      intro i hil
      obtain ⟨cs', hc, ht'⟩ := hi i (by omega)
      rw [hC] at hc
      obtain ⟨_, hcl, hat⟩ := World.cells?_some hc
      obtain ⟨y, hy, hok⟩ := mk n cs' _ hcl ht' (Sz.elem ht hz (List.mem_map.2 ⟨i, List.mem_range.2 hil, rfl⟩))
      refine ⟨y, hok, fun j u hu => ?_⟩
      rw [hy] at hu
      have hj : j < R.k := by rw [← hcl]; exact (List.getElem?_eq_some_iff.1 hu).1
      rw [← Go.Deep.add_add, hat j hj, hu]
    obtain ⟨f, hf'⟩ := choose_lt' each
    refine ⟨some a, cap, (List.range len).map f, by simp [hcs], ⟨by simp; omega, fun i hi' => ?_⟩, ?_, ?_⟩
    · have hil : i < len := by simpa using hi'
      obtain ⟨_, hc⟩ := hf' i hil
      obtain ⟨_, hc0⟩ := hf' 0 (by omega)
      obtain ⟨u, hu⟩ : ∃ u, (R.cells (f 0))[0]? = some u := ⟨_, List.getElem?_eq_getElem (by rw [R.len]; exact hk)⟩
      have h0 := hc0 0 u hu
      have hsp : a.spot = none := by
        have := cell_spot h0
        simpa [Addr.add] using this
      obtain ⟨b, off, sp⟩ := a
      simp only at hsp
      subst hsp
      refine ⟨b, off, rfl, World.block_lt_of_cell? w _ h0 |> fun hh => by simpa [Addr.add] using hh, fun j u hu => ?_⟩
      have := hc j u (by simpa using hu)
      rwa [Addr.add_lit, ← Nat.add_assoc] at this
    · intro y hy
      simp only [List.mem_map, List.mem_range] at hy
      obtain ⟨i, hi, rfl⟩ := hy
      exact (hf' i hi).1
    · have := Sz.len ht hz
      simpa using this
end
end Go.Proofs.YtajhgejhdalobaaGreatDoor
namespace Go.Proofs.YtajhgejhdalobaaGreatDoor
open Go.RowKit
open Go.ChangeShapes Go.WideShapes Go.Deep

/-- an int64 -/
def i64B (n : Int) : Prop := -9223372036854775808 ≤ n ∧ n ≤ 9223372036854775807
theorem i64_wf {n : Int} (h : (Lit.int .i64 n).wf = true) : i64B n := by
  simp [Lit.wf, IntKind.min, IntKind.max, IntKind.signed, IntKind.bits] at h
  unfold i64B; omega
instance : Inhabited Fld := ⟨⟨0, ⟨#[]⟩⟩⟩
def fieldOk (f : Fld) : Prop := i64B f.n ∧ f.v.size ≤ 140737488351232
/-- a slice that came in -/
structure ArgS (ao : Option Addr) (n cap : Nat) : Prop where
  le : n ≤ cap
  max : cap ≤ 9223372036854775807
  none : ao = none → cap = 0
/-- a message that came in -/
structure ArgM (w : World) (t : ByteArray) (ao : Option Addr) (cap : Nat) (l : List Fld) : Prop where
  rd : RowRd FldR w ao l
  t : t.size ≤ 140737488351232
  each : ∀ f ∈ l, fieldOk f
  n : l.length * 24 ≤ 140737488351232
  s : ArgS ao l.length cap
theorem ArgM.small {w : World} {t : ByteArray} {ao : Option Addr} {cap : Nat} {l : List Fld} (h : ArgM w t ao cap l) : SmallM t l := by
  have h1 := h.t
  have h2 := h.n
  exact ⟨by unfold maxLen; omega, fun f hf => by have := (h.each f hf).2; unfold maxLen; omega, by unfold maxLen; omega⟩
theorem size_fld : Tryz.prog.bytesOf 31 = 24 := by kernel_rfl
theorem size_u8 : Tryz.prog.bytesOf 5 = 1 := by kernel_rfl
section
variable {H : Type} {enc : TypeId × Value → H} {w : World} {base : Nat} {spare : Nat → Bool} {held : Bool}
theorem slice_caps {P : Program} {t e : TypeId} {fuel : Nat} {ao : Option Addr} {n cap : Nat} {x : DataW H × List MemPlace} (ht : P.underlying t = some (.slice e)) (h : DataW.trod enc P w base spare held fuel t [.slice ao n cap] = some x) : ArgS ao n cap := by
  rcases open_slice ht h with ⟨h0, _⟩ | ⟨a, len, cap', m, k, D, Pl, hcs, hb, hl, hm, hmm, hx, hi⟩
  · simp only [List.cons.injEq, Value.slice.injEq, and_true] at h0
    obtain ⟨rfl, rfl, rfl⟩ := h0
    exact ⟨Nat.le_refl _, by omega, fun _ => rfl⟩
  · simp only [List.cons.injEq, Value.slice.injEq, and_true] at hcs
    obtain ⟨rfl, rfl, rfl⟩ := hcs
    unfold maxLen at hm
    exact ⟨hl, by omega, fun e => by cases e⟩
theorem mk_byte {n : Nat} {cs : List Value} {y : DataW H × List MemPlace} (_ : cs.length = 1) (h : DataW.trod enc Tryz.prog w base spare held n 5 cs = some y) : ∃ c : UInt8, ByteR.cells c = cs ∧ True := by
  obtain ⟨n0, e0, _, hw⟩ := DataW.trod_int Tryz.underlying5 h
  have h0 : 0 ≤ n0 ∧ n0 ≤ 255 := by simp [Lit.wf, IntKind.min, IntKind.max, IntKind.signed, IntKind.bits] at hw; omega
  refine ⟨UInt8.ofNat n0.toNat, ?_, trivial⟩
  show [Value.int .u8 _] = _
  rw [e0, UInt8.toNat_ofNat']
  congr 2
  omega
theorem rows_bytesZ {n : Nat} {cs : List Value} {x : DataW H × List MemPlace} (h : DataW.trod enc Tryz.prog w base spare held n 34 cs = some x) (hz : Sz Tryz.prog 34 x.1) : ∃ ao cap, ∃ b : List UInt8, cs = [.slice ao b.length cap] ∧ RowRd ByteR w ao b ∧ b.length ≤ 140737488351232 ∧ ArgS ao b.length cap := by
  obtain ⟨ao, cap, xs, hcs, hr, _, hl⟩ := open_rowsZ ByteR (fun _ => True) Tryz.underlying34 (by kernel_rfl) (by show 0 < 1; omega) (fun n cs y hl ht _ => mk_byte hl ht) h hz
  rw [size_u8] at hl
  have e : reachBytes = 140737488351232 := rfl
  subst hcs
  exact ⟨ao, cap, xs, rfl, hr, by omega, slice_caps Tryz.underlying34 h⟩
theorem mk_fld {n : Nat} {cs : List Value} {y : DataW H × List MemPlace} (hl : cs.length = 2) (h : DataW.trod enc Tryz.prog w base spare held n 31 cs = some y) (hz : Sz Tryz.prog 31 y.1) : ∃ f : Fld, FldR.cells f = cs ∧ fieldOk f := by
  obtain ⟨m, hf⟩ := field_ofZ Tryz.underlying31 h hz
  obtain ⟨y0, t0, _⟩ := hf 0 0 3 1 rfl (by kernel_rfl)
  obtain ⟨y1, t1, z1⟩ := hf 1 1 9 1 rfl (by kernel_rfl)
  obtain ⟨n0, e0, _, h0⟩ := DataW.trod_int Tryz.underlying3 t0
  obtain ⟨s1, e1, d1, _⟩ := DataW.trod_string Tryz.underlying9 t1
  have hs := Sz.str (P := Tryz.prog) (t := 9) (bytes := s1.data.toList) (by rw [d1] at z1; exact z1)
  have e : reachBytes = 140737488351232 := rfl
  rcases cs with _ | ⟨c0, _ | ⟨c1, _ | ⟨c2, cs⟩⟩⟩ <;> simp at hl
  simp at e0 e1
  exact ⟨⟨n0, s1⟩, by rw [e0, e1]; rfl, i64_wf h0, by simpa [e] using hs⟩
theorem rows_fldsZ {n : Nat} {cs : List Value} {x : DataW H × List MemPlace} (h : DataW.trod enc Tryz.prog w base spare held n 23 cs = some x) (hz : Sz Tryz.prog 23 x.1) : ∃ ao cap, ∃ l : List Fld, cs = [.slice ao l.length cap] ∧ RowRd FldR w ao l ∧ (∀ f ∈ l, fieldOk f) ∧ l.length * 24 ≤ 140737488351232 ∧ ArgS ao l.length cap := by
  obtain ⟨ao, cap, xs, hcs, hr, hok, hl⟩ := open_rowsZ FldR fieldOk Tryz.underlying23 (by kernel_rfl) (by show 0 < 2; omega) (fun n cs y hl ht hz => mk_fld hl ht hz) h hz
  rw [size_fld] at hl
  have e : reachBytes = 140737488351232 := rfl
  subst hcs
  exact ⟨ao, cap, xs, rfl, hr, hok, by omega, slice_caps Tryz.underlying23 h⟩
theorem mk_msg {n : Nat} {cs : List Value} {y : DataW H × List MemPlace} (hl : cs.length = 2) (h : DataW.trod enc Tryz.prog w base spare held n 25 cs = some y) (hz : Sz Tryz.prog 25 y.1) : ∃ t ao cap l, cs = [.string t, .slice ao l.length cap] ∧ ArgM w t ao cap l := by
  obtain ⟨m, hf⟩ := field_ofZ Tryz.underlying25 h hz
  obtain ⟨y0, t0, z0⟩ := hf 0 0 9 1 rfl (by kernel_rfl)
  obtain ⟨y1, t1, z1⟩ := hf 1 1 23 1 rfl (by kernel_rfl)
  obtain ⟨s0, e0, d0, _⟩ := DataW.trod_string Tryz.underlying9 t0
  have hs := Sz.str (P := Tryz.prog) (t := 9) (bytes := s0.data.toList) (by rw [d0] at z0; exact z0)
  obtain ⟨ao, cap, l, e1, hr, hok, hl24, hsl⟩ := rows_fldsZ t1 z1
  have e : reachBytes = 140737488351232 := rfl
  rcases cs with _ | ⟨c0, _ | ⟨c1, _ | ⟨c2, cs⟩⟩⟩ <;> simp at hl
  simp at e0 e1
  exact ⟨s0, ao, cap, l, by rw [e0, e1], hr, by simpa [e] using hs, hok, hl24, hsl⟩
end
set_option maxRecDepth 100000 in
theorem open_bytes {H : Type} {enc : TypeId × Value → H} {W : World} {base : Nat} {r : Reach} {v : Value} {d : DataW H} {p : List MemPlace} (hv : Value.okWide Tryz.prog W r base 34 v) (h : DataW.Trod enc Tryz.prog W 0 (fun _ => true) true 34 v d p) (hz : Sz Tryz.prog 34 d) :
    ∃ (ao : Option Addr) (cap : Nat) (b : Bs), v = .slice ao b.length cap ∧ RowRd ByteR W ao b ∧ b.length ≤ 140737488351232 ∧ ArgS ao b.length cap := by
  obtain ⟨a0, len0, cap0, rfl⟩ := okWide_slice Tryz.underlying34 hv
  obtain ⟨fuel, hf⟩ := h
  obtain ⟨ao, cap, b, e, hr⟩ := rows_bytesZ hf hz
  simp [Value.cells] at e
  obtain ⟨rfl, rfl, rfl⟩ := e
  exact ⟨_, _, b, rfl, hr⟩
set_option maxRecDepth 100000 in
theorem open_msg {H : Type} {enc : TypeId × Value → H} {W : World} {base : Nat} {r : Reach} {v : Value} {d : DataW H} {p : List MemPlace} (hv : Value.okWide Tryz.prog W r base 25 v) (h : DataW.Trod enc Tryz.prog W 0 (fun _ => true) true 25 v d p) (hz : Sz Tryz.prog 25 d) :
    ∃ (t : ByteArray) (ao : Option Addr) (cap : Nat) (l : List Fld), v = .agg #[.string t, .slice ao l.length cap] ∧ ArgM W t ao cap l := by
  obtain ⟨cs, rfl, hs⟩ := okWide_struct Tryz.underlying25 hv
  obtain ⟨fuel, hf⟩ := h
  rw [show Tryz.prog.cellsOf 25 = 2 by kernel_rfl] at hs
  obtain ⟨t, ao, cap, l, e, hr⟩ := mk_msg (by simpa [Value.cells] using hs) hf hz
  have : cs = #[.string t, .slice ao l.length cap] := by
    apply Array.toList_inj.1
    simpa [Value.cells] using e
  exact ⟨t, ao, cap, l, by rw [this], hr⟩
end Go.Proofs.YtajhgejhdalobaaGreatDoor
namespace Go.Proofs.YtajhgejhdalobaaGreatDoor
open Go.RowKit
open Go.ChangeShapes Go.WideShapes Go.Deep

/-- an act in memory -/
structure MAct where
  d : Int
  n : Int
  now : Int
  t : ByteArray
  ao : Option Addr
  cap : Nat
  q : List Fld
  r : Lm.Rule
  s : ByteArray
def MAct.plain (a : MAct) : TAct := ⟨a.d, a.n, a.now, a.t, a.q, a.r, a.s⟩
def MAct.cells (a : MAct) : List Value := [.int .i64 a.d, .int .i64 a.n, .int .i64 a.now, .string a.t, .slice a.ao a.q.length a.cap, .int .i64 a.r.ticks, .int .i64 a.r.times, .int .i64 a.r.sum, .int .i64 a.r.once, .string a.s]
def MAct.val (a : MAct) : Value := .agg #[.int .i64 a.d, .int .i64 a.n, .int .i64 a.now, .string a.t, .slice a.ao a.q.length a.cap, .int .i64 a.r.ticks, .int .i64 a.r.times, .int .i64 a.r.sum, .int .i64 a.r.once, .string a.s]
def MActR : Rec MAct := ⟨10, MAct.cells, fun _ => rfl, fun u v hv => by simp [MAct.cells] at hv; rcases hv with rfl | rfl | rfl | rfl | rfl | rfl | rfl | rfl | rfl | rfl <;> rfl⟩
instance : Inhabited MAct := ⟨⟨0, 0, 0, ⟨#[]⟩, none, 0, [], ⟨0, 0, 0, 0⟩, ⟨#[]⟩⟩⟩
structure MAct.Ok (w : World) (a : MAct) : Prop where
  d : i64B a.d
  n : i64B a.n
  now : i64B a.now
  m : ArgM w a.t a.ao a.cap a.q
  s : a.s.size ≤ 140737488351232
theorem ArgM.fr0 {w w' : World} {t : ByteArray} {ao : Option Addr} {cap : Nat} {l : List Fld} (h : ArgM w t ao cap l) (f : Fr noBlock w w') : ArgM w' t ao cap l := ⟨h.rd.fr0 f, h.t, h.each, h.n, h.s⟩
theorem MAct.Ok.fr0 {w w' : World} {a : MAct} (h : a.Ok w) (f : Fr noBlock w w') : a.Ok w' := ⟨h.d, h.n, h.now, h.m.fr0 f, h.s⟩
/-- a message in memory -/
structure MMsg where
  t : ByteArray
  ao : Option Addr
  cap : Nat
  q : List Fld
def MMsg.cells (a : MMsg) : List Value := [.string a.t, .slice a.ao a.q.length a.cap]
def MMsgR : Rec MMsg := ⟨2, MMsg.cells, fun _ => rfl, fun u v hv => by simp [MMsg.cells] at hv; rcases hv with rfl | rfl <;> rfl⟩
instance : Inhabited MMsg := ⟨⟨⟨#[]⟩, none, 0, []⟩⟩
def MMsg.Ok (w : World) (a : MMsg) : Prop := ArgM w a.t a.ao a.cap a.q
section
variable {H : Type} {enc : TypeId × Value → H} {w : World} {base : Nat} {spare : Nat → Bool} {held : Bool}
theorem mk_trule {n : Nat} {cs : List Value} {y : DataW H × List MemPlace} (hl : cs.length = 4) (h : DataW.trod enc Tryz.prog w base spare held n 47 cs = some y) : ∃ r : Lm.Rule, cs = [.int .i64 r.ticks, .int .i64 r.times, .int .i64 r.sum, .int .i64 r.once] := by
  obtain ⟨m, hf⟩ := field_of Tryz.underlying47 h
  obtain ⟨y0, t0⟩ := hf 0 0 3 1 rfl (by kernel_rfl)
  obtain ⟨y1, t1⟩ := hf 1 1 3 1 rfl (by kernel_rfl)
  obtain ⟨y2, t2⟩ := hf 2 2 3 1 rfl (by kernel_rfl)
  obtain ⟨y3, t3⟩ := hf 3 3 3 1 rfl (by kernel_rfl)
  obtain ⟨n0, e0, _, _⟩ := DataW.trod_int Tryz.underlying3 t0
  obtain ⟨n1, e1, _, _⟩ := DataW.trod_int Tryz.underlying3 t1
  obtain ⟨n2, e2, _, _⟩ := DataW.trod_int Tryz.underlying3 t2
  obtain ⟨n3, e3, _, _⟩ := DataW.trod_int Tryz.underlying3 t3
  rcases cs with _ | ⟨c0, _ | ⟨c1, _ | ⟨c2, _ | ⟨c3, _ | ⟨c4, cs⟩⟩⟩⟩⟩ <;> simp at hl
  simp at e0 e1 e2 e3
  exact ⟨⟨n0, n1, n2, n3⟩, by rw [e0, e1, e2, e3]⟩
theorem mk_mact {n : Nat} {cs : List Value} {y : DataW H × List MemPlace} (hl : cs.length = 10) (h : DataW.trod enc Tryz.prog w base spare held n 49 cs = some y) (hz : Sz Tryz.prog 49 y.1) : ∃ a : MAct, MActR.cells a = cs ∧ a.Ok w := by
  obtain ⟨m, hf⟩ := field_ofZ Tryz.underlying49 h hz
  obtain ⟨y0, t0, _⟩ := hf 0 0 3 1 rfl (by kernel_rfl)
  obtain ⟨y1, t1, _⟩ := hf 1 1 3 1 rfl (by kernel_rfl)
  obtain ⟨y2, t2, _⟩ := hf 2 2 3 1 rfl (by kernel_rfl)
  obtain ⟨y3, t3, z3⟩ := hf 3 3 25 2 rfl (by kernel_rfl)
  obtain ⟨y4, t4, _⟩ := hf 4 5 47 4 rfl (by kernel_rfl)
  obtain ⟨y5, t5, z5⟩ := hf 5 9 9 1 rfl (by kernel_rfl)
  rcases cs with _ | ⟨c0, _ | ⟨c1, _ | ⟨c2, _ | ⟨c3, _ | ⟨c4, _ | ⟨c5, _ | ⟨c6, _ | ⟨c7, _ | ⟨c8, _ | ⟨c9, _ | ⟨c10, cs⟩⟩⟩⟩⟩⟩⟩⟩⟩⟩⟩ <;> simp at hl
  obtain ⟨n0, e0, _, h0⟩ := DataW.trod_int Tryz.underlying3 t0
  obtain ⟨n1, e1, _, h1⟩ := DataW.trod_int Tryz.underlying3 t1
  obtain ⟨n2, e2, _, h2⟩ := DataW.trod_int Tryz.underlying3 t2
  obtain ⟨t, ao, cap, q, e3, hm⟩ := mk_msg (by simp) t3 z3
  obtain ⟨r, e4⟩ := mk_trule (by simp) t4
  obtain ⟨s5, e5, d5, _⟩ := DataW.trod_string Tryz.underlying9 t5
  have hs := Sz.str (P := Tryz.prog) (t := 9) (bytes := s5.data.toList) (by rw [d5] at z5; exact z5)
  have e : reachBytes = 140737488351232 := rfl
  simp at e0 e1 e2 e3 e4 e5
  obtain ⟨e3a, e3b⟩ := e3
  obtain ⟨e4a, e4b, e4c, e4d⟩ := e4
  exact ⟨⟨n0, n1, n2, t, ao, cap, q, r, s5⟩, by rw [e0, e1, e2, e3a, e3b, e4a, e4b, e4c, e4d, e5]; rfl, ⟨i64_wf h0, i64_wf h1, i64_wf h2, hm, by simpa [e] using hs⟩⟩
theorem mk_mmsg {n : Nat} {cs : List Value} {y : DataW H × List MemPlace} (hl : cs.length = 2) (h : DataW.trod enc Tryz.prog w base spare held n 25 cs = some y) (hz : Sz Tryz.prog 25 y.1) : ∃ a : MMsg, MMsgR.cells a = cs ∧ a.Ok w := by
  obtain ⟨t, ao, cap, q, e, hm⟩ := mk_msg hl h hz
  exact ⟨⟨t, ao, cap, q⟩, e.symm, hm⟩
end
set_option maxRecDepth 100000 in
/-- A ROW OF ACTS THAT CAME IN. -/
theorem open_macts {H : Type} {enc : TypeId × Value → H} {W : World} {base : Nat} {r : Reach} {v : Value} {d : DataW H} {p : List MemPlace} (hv : Value.okWide Tryz.prog W r base 22 v) (h : DataW.Trod enc Tryz.prog W 0 (fun _ => true) true 22 v d p) (hz : Sz Tryz.prog 22 d) :
    ∃ (ao : Option Addr) (cap : Nat) (xs : List MAct), v = .slice ao xs.length cap ∧ RowRd MActR W ao xs ∧ ∀ y ∈ xs, y.Ok W := by
  obtain ⟨a0, len0, cap0, rfl⟩ := okWide_slice Tryz.underlying22 hv
  obtain ⟨fuel, hf⟩ := h
  obtain ⟨ao, cap, xs, e, hr, hok, _⟩ := open_rowsZ MActR (fun a => a.Ok W) Tryz.underlying22 (by kernel_rfl) (by show 0 < 10; omega) (fun n cs y hl ht hz => mk_mact hl ht hz) hf hz
  simp [Value.cells] at e
  obtain ⟨rfl, rfl, rfl⟩ := e
  exact ⟨_, _, xs, rfl, hr, hok⟩
set_option maxRecDepth 100000 in
/-- A ROW OF MESSAGES THAT CAME IN. -/
theorem open_mmsgs {H : Type} {enc : TypeId × Value → H} {W : World} {base : Nat} {r : Reach} {v : Value} {d : DataW H} {p : List MemPlace} (hv : Value.okWide Tryz.prog W r base 41 v) (h : DataW.Trod enc Tryz.prog W 0 (fun _ => true) true 41 v d p) (hz : Sz Tryz.prog 41 d) :
    ∃ (ao : Option Addr) (cap : Nat) (xs : List MMsg), v = .slice ao xs.length cap ∧ RowRd MMsgR W ao xs ∧ ∀ y ∈ xs, y.Ok W := by
  obtain ⟨a0, len0, cap0, rfl⟩ := okWide_slice Tryz.underlying41 hv
  obtain ⟨fuel, hf⟩ := h
  obtain ⟨ao, cap, xs, e, hr, hok, _⟩ := open_rowsZ MMsgR (fun a => a.Ok W) Tryz.underlying41 (by kernel_rfl) (by show 0 < 2; omega) (fun n cs y hl ht hz => mk_mmsg hl ht hz) hf hz
  simp [Value.cells] at e
  obtain ⟨rfl, rfl, rfl⟩ := e
  exact ⟨_, _, xs, rfl, hr, hok⟩
theorem mact_cells {w : World} {ao : Option Addr} {xs : List MAct} (h : RowRd MActR w ao xs) {i : Nat} (hi : i < xs.length) :
    ∃ b off, ao = some ⟨b, off, none⟩ ∧ b < w.heap.size ∧ w.cell? ⟨b, off + i * 10, none⟩ = some (.int .i64 xs[i].d) ∧ w.cell? ⟨b, off + i * 10 + 1, none⟩ = some (.int .i64 xs[i].n) ∧ w.cell? ⟨b, off + i * 10 + 2, none⟩ = some (.int .i64 xs[i].now) ∧ w.cell? ⟨b, off + i * 10 + 3, none⟩ = some (.string xs[i].t) ∧ w.cell? ⟨b, off + i * 10 + 4, none⟩ = some (.slice xs[i].ao xs[i].q.length xs[i].cap) ∧ w.cell? ⟨b, off + i * 10 + 5, none⟩ = some (.int .i64 xs[i].r.ticks) ∧ w.cell? ⟨b, off + i * 10 + 6, none⟩ = some (.int .i64 xs[i].r.times) ∧ w.cell? ⟨b, off + i * 10 + 7, none⟩ = some (.int .i64 xs[i].r.sum) ∧ w.cell? ⟨b, off + i * 10 + 8, none⟩ = some (.int .i64 xs[i].r.once) ∧ w.cell? ⟨b, off + i * 10 + 9, none⟩ = some (.string xs[i].s) := by
  obtain ⟨b, off, h1, h2, h3⟩ := h.at' i hi
  exact ⟨b, off, h1, h2, h3 0 _ rfl, h3 1 _ rfl, h3 2 _ rfl, h3 3 _ rfl, h3 4 _ rfl, h3 5 _ rfl, h3 6 _ rfl, h3 7 _ rfl, h3 8 _ rfl, h3 9 _ rfl⟩
end Go.Proofs.YtajhgejhdalobaaGreatDoor
