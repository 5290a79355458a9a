/-
  THE LAWS' ACTS on the program's side alone: THE WALK of only.
-/
import Derived.Deep.Slices
import Derived.Deep.Fields
import Derived.ChangeSame
import Derived.ProofKit
import Derived.OpenShut
import Derived.ShutString
import Derived.ChangeOld
import Derived.SizedLaws
import Derived.Test.YtajhgejhdalobaaGreatDoorTnJ
namespace Go.Proofs.YtajhgejhdalobaaGreatDoor
open Go.RowKit
open Go.ChangeShapes Go.WideShapes Go.Deep

theorem cell_spot {w : World} {a : Addr} {v : Value} (h : w.cell? a = some v) : a.spot = none := by
  unfold World.cell? at h
  split at h
  · split at h
    · cases h
    · rename_i hs; simpa using hs
  · cases h

section
variable {H : Type} {enc : TypeId × Value → H} {P : Program} {w : World} {base : Nat} {spare : Nat → Bool} {held : Bool}
theorem field_of {e : TypeId} {fs : Array Field} {fuel : Nat} {cs : List Value} {x : DataW H × List MemPlace} (he : P.underlying e = some (.struct fs)) (h : DataW.trod enc P w base spare held fuel e cs = some x) :
    ∃ n, ∀ (i o : Nat) (t : TypeId) (sz : Nat), (fs[i]?).map (fun f => (f.offset, f.type)) = some (o, t) → P.cellsOf t = sz → ∃ y, DataW.trod enc P w base spare held n t ((cs.drop o).take sz) = some y := by
  obtain ⟨ys, n, _, _, _, hl, hf⟩ := DataW.trod_struct he h
  refine ⟨n, fun i o t sz hi hs => ?_⟩
  rw [Option.map_eq_some_iff] at hi
  obtain ⟨f, hi, he⟩ := hi
  simp only [Prod.mk.injEq] at he
  obtain ⟨rfl, rfl⟩ := he
  subst hs
  have hlt : i < fs.size := (Array.getElem?_eq_some_iff.1 hi).1
  exact ⟨_, (hf i f hi).trans (List.getElem?_eq_getElem (by omega))⟩

end
end Go.Proofs.YtajhgejhdalobaaGreatDoor
namespace Go.Proofs.YtajhgejhdalobaaGreatDoor
open Go.RowKit
open Go.ChangeShapes Go.WideShapes Go.Deep

def Sz {H : Type} (P : Program) (t : TypeId) (d : DataW H) : Prop := ∀ m ∈ d.weights P t, m ≤ reachBytes
section
variable {H : Type} {enc : TypeId × Value → H} {P : Program} {w : World} {base : Nat} {spare : Nat → Bool} {held : Bool}
theorem Sz.of {ts : List TypeId} {ds : List (DataW H)} (h : (DataW.weightsEach P ts ds).all (· ≤ reachBytes) = true) {j : Nat} {t : TypeId} {d : DataW H} (ht : ts[j]? = some t) (hd : ds[j]? = some d) : Sz P t d :=
  fun m hm => by simpa using List.all_eq_true.1 h m (DataW.weights_mem_each ht hd m hm)
theorem Sz.field {e : TypeId} {fs : Array Field} {parts : List (DataW H)} (he : P.underlying e = some (.struct fs)) (h : Sz P e (.agg parts)) {i : Nat} {f : Field} {d : DataW H} (hi : fs[i]? = some f) (hd : parts[i]? = some d) : Sz P f.type d := by
  intro m hm
  refine h m ?_
  simp only [DataW.weights, he]
  refine DataW.weights_mem_each (j := i) (t := f.type) ?_ hd m hm
  simp [hi]
theorem mem_all {e : TypeId} : ∀ {l : List (DataW H)} {d : DataW H}, d ∈ l → ∀ m ∈ d.weights P e, m ∈ DataW.weightsAll P e l
  | x :: l, d, hd, m, hm => by
    simp only [DataW.weightsAll, List.mem_append]
    rcases List.mem_cons.1 hd with rfl | h
    · exact Or.inl hm
    · exact Or.inr (mem_all h m hm)
theorem Sz.elem {t e : TypeId} {elems sp : List (DataW H)} (ht : P.underlying t = some (.slice e)) (h : Sz P t (.slice elems sp)) {d : DataW H} (hd : d ∈ elems) : Sz P e d := by
  intro m hm
  refine h m ?_
  simp only [DataW.weights, ht, List.mem_cons, List.mem_append]
  exact Or.inr (Or.inl (mem_all hd m hm))
theorem Sz.len {t e : TypeId} {elems sp : List (DataW H)} (ht : P.underlying t = some (.slice e)) (h : Sz P t (.slice elems sp)) : elems.length * P.bytesOf e ≤ reachBytes := by
  have := h ((elems.length + sp.length) * P.bytesOf e) (by simp [DataW.weights, ht])
  rw [Nat.add_mul] at this
  omega
theorem Sz.str {t : TypeId} {bytes : List UInt8} (h : Sz (H := H) P t (.lit (.string bytes))) : bytes.length ≤ reachBytes := h _ (by simp [DataW.weights])

theorem field_ofZ {e : TypeId} {fs : Array Field} {fuel : Nat} {cs : List Value} {x : DataW H × List MemPlace} (he : P.underlying e = some (.struct fs)) (h : DataW.trod enc P w base spare held fuel e cs = some x) (hz : Sz P e x.1) :
    ∃ n, ∀ (i o : Nat) (t : TypeId) (sz : Nat), (fs[i]?).map (fun f => (f.offset, f.type)) = some (o, t) → P.cellsOf t = sz → ∃ y, DataW.trod enc P w base spare held n t ((cs.drop o).take sz) = some y ∧ Sz P t y.1 := by
  obtain ⟨ys, n, _, hx, _, hl, hf⟩ := DataW.trod_struct he h
  refine ⟨n, fun i o t sz hi hs => ?_⟩
  rw [Option.map_eq_some_iff] at hi
  obtain ⟨f, hi, he'⟩ := hi
  simp only [Prod.mk.injEq] at he'
  obtain ⟨rfl, rfl⟩ := he'
  subst hs
  have hlt : i < fs.size := (Array.getElem?_eq_some_iff.1 hi).1
  refine ⟨_, (hf i f hi).trans (List.getElem?_eq_getElem (by omega)), ?_⟩
  rw [hx] at hz
  exact Sz.field he hz hi (by rw [List.getElem?_map, List.getElem?_eq_getElem (by omega)]; rfl)

theorem open_rowsZ {α : Type} [Inhabited α] (R : Rec α) (ok : α → Prop) {t e : TypeId} {fuel : Nat} {cs : List Value} {x : DataW H × List MemPlace} (ht : P.underlying t = some (.slice e)) (hC : P.cellsOf e = R.k) (hk : 0 < R.k)
    (mk : ∀ (n : Nat) (cs : List Value) (y : DataW H × List MemPlace), cs.length = R.k → DataW.trod enc P w base spare held n e cs = some y → Sz P e y.1 → ∃ a : α, R.cells a = cs ∧ ok a)
    (h : DataW.trod enc P w base spare held fuel t cs = some x) (hz : Sz P t x.1) :
    ∃ (ao : Option Addr) (cap : Nat) (xs : List α), cs = [.slice ao xs.length cap] ∧ RowRd R w ao xs ∧ (∀ y ∈ xs, ok y) ∧ xs.length * P.bytesOf e ≤ reachBytes := by
  rcases open_slice ht h with ⟨h0, _⟩ | ⟨a, len, cap, m, n, D, Pl, hcs, hb, hl, hm, hmm, hx, hi⟩
  · exact ⟨none, 0, [], h0, RowRd.nil, by simp, by simp⟩
  · have hlm : len ≤ m := by rw [hmm]; split <;> omega
    rw [hx] at hz
    have each : ∀ i, i < len → ∃ y : α, ok y ∧ ∀ j u, (R.cells y)[j]? = some u → w.cell? (a.add (i * R.k + j)) = some u := by
      intro i hil
      obtain ⟨cs', hc, ht'⟩ := hi i (by omega)
      rw [hC] at hc
      obtain ⟨_, hcl, hat⟩ := World.cells?_some hc
      obtain ⟨y, hy, hok⟩ := mk n cs' _ hcl ht' (Sz.elem ht hz (List.mem_map.2 ⟨i, List.mem_range.2 hil, rfl⟩))
      refine ⟨y, hok, fun j u hu => ?_⟩
      rw [hy] at hu
      have hj : j < R.k := by rw [← hcl]; exact (List.getElem?_eq_some_iff.1 hu).1
      rw [← Go.Deep.add_add, hat j hj, hu]
    obtain ⟨f, hf'⟩ := choose_lt' each
    refine ⟨some a, cap, (List.range len).map f, by simp [hcs], ⟨by simp; omega, fun i hi' => ?_⟩, ?_, ?_⟩
    · have hil : i < len := by simpa using hi'
      obtain ⟨_, hc⟩ := hf' i hil
      obtain ⟨_, hc0⟩ := hf' 0 (by omega)
      obtain ⟨u, hu⟩ : ∃ u, (R.cells (f 0))[0]? = some u := ⟨_, List.getElem?_eq_getElem (by rw [R.len]; exact hk)⟩
      have h0 := hc0 0 u hu
      have hsp : a.spot = none := by
        have := cell_spot h0
        simpa [Addr.add] using this
      obtain ⟨b, off, sp⟩ := a
      simp only at hsp
      subst hsp
      refine ⟨b, off, rfl, World.block_lt_of_cell? w _ h0 |> fun hh => by simpa [Addr.add] using hh, fun j u hu => ?_⟩
      have := hc j u (by simpa using hu)
      rwa [Addr.add_lit, ← Nat.add_assoc] at this
    · intro y hy
      simp only [List.mem_map, List.mem_range] at hy
      obtain ⟨i, hi, rfl⟩ := hy
      exact (hf' i hi).1
    · have := Sz.len ht hz
      simpa using this
end
end Go.Proofs.YtajhgejhdalobaaGreatDoor
namespace Go.Proofs.YtajhgejhdalobaaGreatDoor
open Go.RowKit
open Go.ChangeShapes Go.WideShapes Go.Deep

def i64B (n : Int) : Prop := -9223372036854775808 ≤ n ∧ n ≤ 9223372036854775807
theorem i64_wf {n : Int} (h : (Lit.int .i64 n).wf = true) : i64B n := by
  simp [Lit.wf, IntKind.min, IntKind.max, IntKind.signed, IntKind.bits] at h
  unfold i64B; omega
instance : Inhabited Fld := ⟨⟨0, ⟨#[]⟩⟩⟩
def fieldOk (f : Fld) : Prop := i64B f.n ∧ f.v.size ≤ 140737488351232
structure ArgS (ao : Option Addr) (n cap : Nat) : Prop where
  le : n ≤ cap
  max : cap ≤ 9223372036854775807
  none : ao = none → cap = 0
structure ArgM (w : World) (t : ByteArray) (ao : Option Addr) (cap : Nat) (l : List Fld) : Prop where
  rd : RowRd FldR w ao l
  t : t.size ≤ 140737488351232
  each : ∀ f ∈ l, fieldOk f
  n : l.length * 24 ≤ 140737488351232
  s : ArgS ao l.length cap
theorem ArgM.small {w : World} {t : ByteArray} {ao : Option Addr} {cap : Nat} {l : List Fld} (h : ArgM w t ao cap l) : SmallM t l := by
  have h1 := h.t
  have h2 := h.n
  exact ⟨by unfold maxLen; omega, fun f hf => by have := (h.each f hf).2; unfold maxLen; omega, by unfold maxLen; omega⟩
theorem size_fld : Tryz.prog.bytesOf 31 = 24 := by kernel_rfl
section
variable {H : Type} {enc : TypeId × Value → H} {w : World} {base : Nat} {spare : Nat → Bool} {held : Bool}
theorem slice_caps {P : Program} {t e : TypeId} {fuel : Nat} {ao : Option Addr} {n cap : Nat} {x : DataW H × List MemPlace} (ht : P.underlying t = some (.slice e)) (h : DataW.trod enc P w base spare held fuel t [.slice ao n cap] = some x) : ArgS ao n cap := by
  rcases open_slice ht h with ⟨h0, _⟩ | ⟨a, len, cap', m, k, D, Pl, hcs, hb, hl, hm, hmm, hx, hi⟩
  · simp only [List.cons.injEq, Value.slice.injEq, and_true] at h0
    obtain ⟨rfl, rfl, rfl⟩ := h0
    exact ⟨Nat.le_refl _, by omega, fun _ => rfl⟩
  · simp only [List.cons.injEq, Value.slice.injEq, and_true] at hcs
    obtain ⟨rfl, rfl, rfl⟩ := hcs
    unfold maxLen at hm
    exact ⟨hl, by omega, fun e => by cases e⟩
theorem mk_fld {n : Nat} {cs : List Value} {y : DataW H × List MemPlace} (hl : cs.length = 2) (h : DataW.trod enc Tryz.prog w base spare held n 31 cs = some y) (hz : Sz Tryz.prog 31 y.1) : ∃ f : Fld, FldR.cells f = cs ∧ fieldOk f := by
  obtain ⟨m, hf⟩ := field_ofZ Tryz.underlying31 h hz
  obtain ⟨y0, t0, _⟩ := hf 0 0 3 1 rfl (by kernel_rfl)
  obtain ⟨y1, t1, z1⟩ := hf 1 1 9 1 rfl (by kernel_rfl)
  obtain ⟨n0, e0, _, h0⟩ := DataW.trod_int Tryz.underlying3 t0
  obtain ⟨s1, e1, d1, _⟩ := DataW.trod_string Tryz.underlying9 t1
  have hs := Sz.str (P := Tryz.prog) (t := 9) (bytes := s1.data.toList) (by rw [d1] at z1; exact z1)
  have e : reachBytes = 140737488351232 := rfl
  rcases cs with _ | ⟨c0, _ | ⟨c1, _ | ⟨c2, cs⟩⟩⟩ <;> simp at hl
  simp at e0 e1
  exact ⟨⟨n0, s1⟩, by rw [e0, e1]; rfl, i64_wf h0, by simpa [e] using hs⟩
theorem rows_fldsZ {n : Nat} {cs : List Value} {x : DataW H × List MemPlace} (h : DataW.trod enc Tryz.prog w base spare held n 23 cs = some x) (hz : Sz Tryz.prog 23 x.1) : ∃ ao cap, ∃ l : List Fld, cs = [.slice ao l.length cap] ∧ RowRd FldR w ao l ∧ (∀ f ∈ l, fieldOk f) ∧ l.length * 24 ≤ 140737488351232 ∧ ArgS ao l.length cap := by
  obtain ⟨ao, cap, xs, hcs, hr, hok, hl⟩ := open_rowsZ FldR fieldOk Tryz.underlying23 (by kernel_rfl) (by show 0 < 2; omega) (fun n cs y hl ht hz => mk_fld hl ht hz) h hz
  rw [size_fld] at hl
  have e : reachBytes = 140737488351232 := rfl
  subst hcs
  exact ⟨ao, cap, xs, rfl, hr, hok, by omega, slice_caps Tryz.underlying23 h⟩
theorem mk_msg {n : Nat} {cs : List Value} {y : DataW H × List MemPlace} (hl : cs.length = 2) (h : DataW.trod enc Tryz.prog w base spare held n 25 cs = some y) (hz : Sz Tryz.prog 25 y.1) : ∃ t ao cap l, cs = [.string t, .slice ao l.length cap] ∧ ArgM w t ao cap l := by
  obtain ⟨m, hf⟩ := field_ofZ Tryz.underlying25 h hz
  obtain ⟨y0, t0, z0⟩ := hf 0 0 9 1 rfl (by kernel_rfl)
  obtain ⟨y1, t1, z1⟩ := hf 1 1 23 1 rfl (by kernel_rfl)
  obtain ⟨s0, e0, d0, _⟩ := DataW.trod_string Tryz.underlying9 t0
  have hs := Sz.str (P := Tryz.prog) (t := 9) (bytes := s0.data.toList) (by rw [d0] at z0; exact z0)
  obtain ⟨ao, cap, l, e1, hr, hok, hl24, hsl⟩ := rows_fldsZ t1 z1
  have e : reachBytes = 140737488351232 := rfl
  rcases cs with _ | ⟨c0, _ | ⟨c1, _ | ⟨c2, cs⟩⟩⟩ <;> simp at hl
  simp at e0 e1
  exact ⟨s0, ao, cap, l, by rw [e0, e1], hr, by simpa [e] using hs, hok, hl24, hsl⟩
end
set_option maxRecDepth 100000 in
theorem open_msg {H : Type} {enc : TypeId × Value → H} {W : World} {base : Nat} {r : Reach} {v : Value} {d : DataW H} {p : List MemPlace} (hv : Value.okWide Tryz.prog W r base 25 v) (h : DataW.Trod enc Tryz.prog W 0 (fun _ => true) true 25 v d p) (hz : Sz Tryz.prog 25 d) :
    ∃ (t : ByteArray) (ao : Option Addr) (cap : Nat) (l : List Fld), v = .agg #[.string t, .slice ao l.length cap] ∧ ArgM W t ao cap l := by
  obtain ⟨cs, rfl, hs⟩ := okWide_struct Tryz.underlying25 hv
  obtain ⟨fuel, hf⟩ := h
  rw [show Tryz.prog.cellsOf 25 = 2 by kernel_rfl] at hs
  obtain ⟨t, ao, cap, l, e, hr⟩ := mk_msg (by simpa [Value.cells] using hs) hf hz
  have : cs = #[.string t, .slice ao l.length cap] := by
    apply Array.toList_inj.1
    simpa [Value.cells] using e
  exact ⟨t, ao, cap, l, by rw [this], hr⟩
end Go.Proofs.YtajhgejhdalobaaGreatDoor
namespace Go.Proofs.YtajhgejhdalobaaGreatDoor
open Go.RowKit
open Go.ChangeShapes Go.WideShapes Go.Deep

structure MAct where
  d : Int
  n : Int
  now : Int
  t : ByteArray
  ao : Option Addr
  cap : Nat
  q : List Fld
  r : Lm.Rule
  s : ByteArray
def MAct.plain (a : MAct) : TAct := ⟨a.d, a.n, a.now, a.t, a.q, a.r, a.s⟩
def MAct.cells (a : MAct) : List Value := [.int .i64 a.d, .int .i64 a.n, .int .i64 a.now, .string a.t, .slice a.ao a.q.length a.cap, .int .i64 a.r.ticks, .int .i64 a.r.times, .int .i64 a.r.sum, .int .i64 a.r.once, .string a.s]
def MAct.val (a : MAct) : Value := .agg #[.int .i64 a.d, .int .i64 a.n, .int .i64 a.now, .string a.t, .slice a.ao a.q.length a.cap, .int .i64 a.r.ticks, .int .i64 a.r.times, .int .i64 a.r.sum, .int .i64 a.r.once, .string a.s]
def MActR : Rec MAct := ⟨10, MAct.cells, fun _ => rfl, fun u v hv => by simp [MAct.cells] at hv; rcases hv with rfl | rfl | rfl | rfl | rfl | rfl | rfl | rfl | rfl | rfl <;> rfl⟩
instance : Inhabited MAct := ⟨⟨0, 0, 0, ⟨#[]⟩, none, 0, [], ⟨0, 0, 0, 0⟩, ⟨#[]⟩⟩⟩
structure MAct.Ok (w : World) (a : MAct) : Prop where
  d : i64B a.d
  n : i64B a.n
  now : i64B a.now
  m : ArgM w a.t a.ao a.cap a.q
  s : a.s.size ≤ 140737488351232
theorem ArgM.fr0 {w w' : World} {t : ByteArray} {ao : Option Addr} {cap : Nat} {l : List Fld} (h : ArgM w t ao cap l) (f : Fr noBlock w w') : ArgM w' t ao cap l := ⟨h.rd.fr0 f, h.t, h.each, h.n, h.s⟩
theorem MAct.Ok.fr0 {w w' : World} {a : MAct} (h : a.Ok w) (f : Fr noBlock w w') : a.Ok w' := ⟨h.d, h.n, h.now, h.m.fr0 f, h.s⟩
structure MMsg where
  t : ByteArray
  ao : Option Addr
  cap : Nat
  q : List Fld
def MMsg.cells (a : MMsg) : List Value := [.string a.t, .slice a.ao a.q.length a.cap]
def MMsgR : Rec MMsg := ⟨2, MMsg.cells, fun _ => rfl, fun u v hv => by simp [MMsg.cells] at hv; rcases hv with rfl | rfl <;> rfl⟩
instance : Inhabited MMsg := ⟨⟨⟨#[]⟩, none, 0, []⟩⟩
def MMsg.Ok (w : World) (a : MMsg) : Prop := ArgM w a.t a.ao a.cap a.q
section
variable {H : Type} {enc : TypeId × Value → H} {w : World} {base : Nat} {spare : Nat → Bool} {held : Bool}
theorem mk_trule {n : Nat} {cs : List Value} {y : DataW H × List MemPlace} (hl : cs.length = 4) (h : DataW.trod enc Tryz.prog w base spare held n 47 cs = some y) : ∃ r : Lm.Rule, cs = [.int .i64 r.ticks, .int .i64 r.times, .int .i64 r.sum, .int .i64 r.once] := by
  obtain ⟨m, hf⟩ := field_of Tryz.underlying47 h
  obtain ⟨y0, t0⟩ := hf 0 0 3 1 rfl (by kernel_rfl)
  obtain ⟨y1, t1⟩ := hf 1 1 3 1 rfl (by kernel_rfl)
  obtain ⟨y2, t2⟩ := hf 2 2 3 1 rfl (by kernel_rfl)
  obtain ⟨y3, t3⟩ := hf 3 3 3 1 rfl (by kernel_rfl)
  obtain ⟨n0, e0, _, _⟩ := DataW.trod_int Tryz.underlying3 t0
  obtain ⟨n1, e1, _, _⟩ := DataW.trod_int Tryz.underlying3 t1
  obtain ⟨n2, e2, _, _⟩ := DataW.trod_int Tryz.underlying3 t2
  obtain ⟨n3, e3, _, _⟩ := DataW.trod_int Tryz.underlying3 t3
  rcases cs with _ | ⟨c0, _ | ⟨c1, _ | ⟨c2, _ | ⟨c3, _ | ⟨c4, cs⟩⟩⟩⟩⟩ <;> simp at hl
  simp at e0 e1 e2 e3
  exact ⟨⟨n0, n1, n2, n3⟩, by rw [e0, e1, e2, e3]⟩
theorem mk_mact {n : Nat} {cs : List Value} {y : DataW H × List MemPlace} (hl : cs.length = 10) (h : DataW.trod enc Tryz.prog w base spare held n 49 cs = some y) (hz : Sz Tryz.prog 49 y.1) : ∃ a : MAct, MActR.cells a = cs ∧ a.Ok w := by
  obtain ⟨m, hf⟩ := field_ofZ Tryz.underlying49 h hz
  obtain ⟨y0, t0, _⟩ := hf 0 0 3 1 rfl (by kernel_rfl)
  obtain ⟨y1, t1, _⟩ := hf 1 1 3 1 rfl (by kernel_rfl)
  obtain ⟨y2, t2, _⟩ := hf 2 2 3 1 rfl (by kernel_rfl)
  obtain ⟨y3, t3, z3⟩ := hf 3 3 25 2 rfl (by kernel_rfl)
  obtain ⟨y4, t4, _⟩ := hf 4 5 47 4 rfl (by kernel_rfl)
  obtain ⟨y5, t5, z5⟩ := hf 5 9 9 1 rfl (by kernel_rfl)
  rcases cs with _ | ⟨c0, _ | ⟨c1, _ | ⟨c2, _ | ⟨c3, _ | ⟨c4, _ | ⟨c5, _ | ⟨c6, _ | ⟨c7, _ | ⟨c8, _ | ⟨c9, _ | ⟨c10, cs⟩⟩⟩⟩⟩⟩⟩⟩⟩⟩⟩ <;> simp at hl
  obtain ⟨n0, e0, _, h0⟩ := DataW.trod_int Tryz.underlying3 t0
  obtain ⟨n1, e1, _, h1⟩ := DataW.trod_int Tryz.underlying3 t1
  obtain ⟨n2, e2, _, h2⟩ := DataW.trod_int Tryz.underlying3 t2
  obtain ⟨t, ao, cap, q, e3, hm⟩ := mk_msg (by simp) t3 z3
  obtain ⟨r, e4⟩ := mk_trule (by simp) t4
  obtain ⟨s5, e5, d5, _⟩ := DataW.trod_string Tryz.underlying9 t5
  have hs := Sz.str (P := Tryz.prog) (t := 9) (bytes := s5.data.toList) (by rw [d5] at z5; exact z5)
  have e : reachBytes = 140737488351232 := rfl
  simp at e0 e1 e2 e3 e4 e5
  obtain ⟨e3a, e3b⟩ := e3
  obtain ⟨e4a, e4b, e4c, e4d⟩ := e4
  exact ⟨⟨n0, n1, n2, t, ao, cap, q, r, s5⟩, by rw [e0, e1, e2, e3a, e3b, e4a, e4b, e4c, e4d, e5]; rfl, ⟨i64_wf h0, i64_wf h1, i64_wf h2, hm, by simpa [e] using hs⟩⟩
theorem mk_mmsg {n : Nat} {cs : List Value} {y : DataW H × List MemPlace} (hl : cs.length = 2) (h : DataW.trod enc Tryz.prog w base spare held n 25 cs = some y) (hz : Sz Tryz.prog 25 y.1) : ∃ a : MMsg, MMsgR.cells a = cs ∧ a.Ok w := by
  obtain ⟨t, ao, cap, q, e, hm⟩ := mk_msg hl h hz
  exact ⟨⟨t, ao, cap, q⟩, e.symm, hm⟩
end
set_option maxRecDepth 100000 in
theorem open_macts {H : Type} {enc : TypeId × Value → H} {W : World} {base : Nat} {r : Reach} {v : Value} {d : DataW H} {p : List MemPlace} (hv : Value.okWide Tryz.prog W r base 22 v) (h : DataW.Trod enc Tryz.prog W 0 (fun _ => true) true 22 v d p) (hz : Sz Tryz.prog 22 d) :
    ∃ (ao : Option Addr) (cap : Nat) (xs : List MAct), v = .slice ao xs.length cap ∧ RowRd MActR W ao xs ∧ ∀ y ∈ xs, y.Ok W := by
  obtain ⟨a0, len0, cap0, rfl⟩ := okWide_slice Tryz.underlying22 hv
  obtain ⟨fuel, hf⟩ := h
  obtain ⟨ao, cap, xs, e, hr, hok, _⟩ := open_rowsZ MActR (fun a => a.Ok W) Tryz.underlying22 (by kernel_rfl) (by show 0 < 10; omega) (fun n cs y hl ht hz => mk_mact hl ht hz) hf hz
  simp [Value.cells] at e
  obtain ⟨rfl, rfl, rfl⟩ := e
  exact ⟨_, _, xs, rfl, hr, hok⟩
set_option maxRecDepth 100000 in
theorem open_mmsgs {H : Type} {enc : TypeId × Value → H} {W : World} {base : Nat} {r : Reach} {v : Value} {d : DataW H} {p : List MemPlace} (hv : Value.okWide Tryz.prog W r base 41 v) (h : DataW.Trod enc Tryz.prog W 0 (fun _ => true) true 41 v d p) (hz : Sz Tryz.prog 41 d) :
    ∃ (ao : Option Addr) (cap : Nat) (xs : List MMsg), v = .slice ao xs.length cap ∧ RowRd MMsgR W ao xs ∧ ∀ y ∈ xs, y.Ok W := by
  obtain ⟨a0, len0, cap0, rfl⟩ := okWide_slice Tryz.underlying41 hv
  obtain ⟨fuel, hf⟩ := h
  obtain ⟨ao, cap, xs, e, hr, hok, _⟩ := open_rowsZ MMsgR (fun a => a.Ok W) Tryz.underlying41 (by kernel_rfl) (by show 0 < 2; omega) (fun n cs y hl ht hz => mk_mmsg hl ht hz) hf hz
  simp [Value.cells] at e
  obtain ⟨rfl, rfl, rfl⟩ := e
  exact ⟨_, _, xs, rfl, hr, hok⟩
theorem mact_cells {w : World} {ao : Option Addr} {xs : List MAct} (h : RowRd MActR w ao xs) {i : Nat} (hi : i < xs.length) :
    ∃ b off, ao = some ⟨b, off, none⟩ ∧ b < w.heap.size ∧ w.cell? ⟨b, off + i * 10, none⟩ = some (.int .i64 xs[i].d) ∧ w.cell? ⟨b, off + i * 10 + 1, none⟩ = some (.int .i64 xs[i].n) ∧ w.cell? ⟨b, off + i * 10 + 2, none⟩ = some (.int .i64 xs[i].now) ∧ w.cell? ⟨b, off + i * 10 + 3, none⟩ = some (.string xs[i].t) ∧ w.cell? ⟨b, off + i * 10 + 4, none⟩ = some (.slice xs[i].ao xs[i].q.length xs[i].cap) ∧ w.cell? ⟨b, off + i * 10 + 5, none⟩ = some (.int .i64 xs[i].r.ticks) ∧ w.cell? ⟨b, off + i * 10 + 6, none⟩ = some (.int .i64 xs[i].r.times) ∧ w.cell? ⟨b, off + i * 10 + 7, none⟩ = some (.int .i64 xs[i].r.sum) ∧ w.cell? ⟨b, off + i * 10 + 8, none⟩ = some (.int .i64 xs[i].r.once) ∧ w.cell? ⟨b, off + i * 10 + 9, none⟩ = some (.string xs[i].s) := by
  obtain ⟨b, off, h1, h2, h3⟩ := h.at' i hi
  exact ⟨b, off, h1, h2, h3 0 _ rfl, h3 1 _ rfl, h3 2 _ rfl, h3 3 _ rfl, h3 4 _ rfl, h3 5 _ rfl, h3 6 _ rfl, h3 7 _ rfl, h3 8 _ rfl, h3 9 _ rfl⟩
end Go.Proofs.YtajhgejhdalobaaGreatDoor
namespace Go.Proofs.YtajhgejhdalobaaGreatDoor
open Go.RowKit

theorem box_rule {w : World} {b : Nat} {A : TenW} {r : Lm.Rule} (h : w.heap[b]? = some (tenO A r)) (r' : Lm.Rule) : ((((w.setCell ⟨b, 3, none⟩ (.int .i64 r'.ticks)).setCell ⟨b, 4, none⟩ (.int .i64 r'.times)).setCell ⟨b, 5, none⟩ (.int .i64 r'.sum)).setCell ⟨b, 6, none⟩ (.int .i64 r'.once)).heap[b]? = some (tenO A r') := by
  have h1 := heap_set_eq (i := 3) (u := .int .i64 r'.ticks) h
  have h2 := heap_set_eq (i := 4) (u := .int .i64 r'.times) h1
  have h3 := heap_set_eq (i := 5) (u := .int .i64 r'.sum) h2
  have h4 := heap_set_eq (i := 6) (u := .int .i64 r'.once) h3
  rw [h4]
  rfl
theorem TenA.setRule {A : TenW} {K : Bs} {n : Nat} {S : TenS} {w : World} {H : Nat → Prop} (h : TenA A K n S w H) (r' : Lm.Rule) : ∃ H', TenA A K n { S with rule := r' } ((((w.setCell ⟨A.tb, 3, none⟩ (.int .i64 r'.ticks)).setCell ⟨A.tb, 4, none⟩ (.int .i64 r'.times)).setCell ⟨A.tb, 5, none⟩ (.int .i64 r'.sum)).setCell ⟨A.tb, 6, none⟩ (.int .i64 r'.once)) H' ∧ Step H H' w ((((w.setCell ⟨A.tb, 3, none⟩ (.int .i64 r'.ticks)).setCell ⟨A.tb, 4, none⟩ (.int .i64 r'.times)).setCell ⟨A.tb, 5, none⟩ (.int .i64 r'.sum)).setCell ⟨A.tb, 6, none⟩ (.int .i64 r'.once)) := by
  obtain ⟨G1, h1, s1, c1⟩ := Two.rs (Two.ok (Two.ok VaultT.ok VaultT.ok) (Two.ok Rt.TableAt.ok Lm.BookAt.ok)) h
  obtain ⟨G2, h2, s2, c2⟩ := Two.rs LedT.ok h1
  have hb : G2 A.tb := (h2.2 _).2 rfl
  have f : Fr G2 w ((((w.setCell ⟨A.tb, 3, none⟩ (.int .i64 r'.ticks)).setCell ⟨A.tb, 4, none⟩ (.int .i64 r'.times)).setCell ⟨A.tb, 5, none⟩ (.int .i64 r'.sum)).setCell ⟨A.tb, 6, none⟩ (.int .i64 r'.once)) := ((((Fr.refl G2 w).setCell (p := ⟨A.tb, 3, none⟩) (.inl hb) _).setCell (p := ⟨A.tb, 4, none⟩) (.inl hb) _).setCell (p := ⟨A.tb, 5, none⟩) (.inl hb) _).setCell (p := ⟨A.tb, 6, none⟩) (.inl hb) _
  obtain ⟨H2, t2, u2⟩ := c2 (BoxT A.tb (tenO A r')) _ G2 ⟨box_rule h2.1 r', h2.2⟩ ⟨f, fun k hk => .inl hk⟩
  exact c1 _ _ H2 t2 u2
set_option maxRecDepth 100000 in
set_option maxHeartbeats 1600000 in
theorem setrule_any {A : TenW} {K : Bs} {n : Nat} {S : TenS} {w : World} {H : Nat → Prop} (h : TenA A K n S w H) (r : Lm.Rule) :
    Calls Tryz.prog 39 #[.pointer (some ⟨A.tb, 0, none⟩), .agg #[.int .i64 r.ticks, .int .i64 r.times, .int .i64 r.sum, .int .i64 r.once]] w fun e w' => e = .returned (.int .i64 (if r.right = true then 0 else 1)) ∧ ∃ H', TenA A K n (if r.right = true then { S with rule := r } else S) w' H' ∧ Step H H' w w' := by
  have HT := Lib.hid h
  obtain ⟨b, hb⟩ : ∃ b, r.right = b := ⟨_, rfl⟩
  have HR := Lib.hid (fun W => Lm.right_any r b hb W)
  unfold Lm.Rule.val at HR
  rw [hb]
  clear h hb
  go_enter Tryz.func39, Tryz.ntmps39
  go_upto_region 1 with fail
  refine wp_at (fun W => W.heap[w.heap.size]? = some (.cells #[.int .i64 r.ticks, .int .i64 r.times, .int .i64 r.sum, .int .i64 r.once] 47 (0, 0)) ∧ Fr noBlock w W) ⟨heap_new w _, (Fr.refl _ w).alloc _⟩ ?_
  obtain ⟨g, hg⟩ : ∃ g, w.heap.size = g := ⟨_, rfl⟩
  rw [hg]
  rintro w1 ⟨b1, f1⟩
  have H1 := Lib.hid (And.intro b1 f1)
  clear b1 f1 hg
  have c0 := cell_of H1.out.1 0
  have c1 := cell_of H1.out.1 1
  have c2 := cell_of H1.out.1 2
  have c3 := cell_of H1.out.1 3
  go_wp2_with fail
  refine (HR.out _).mono ?_
  rintro e w2 ⟨rfl, f2⟩
  have H2 := Lib.hid (And.intro (f2.obj H1.out.1 (fun z => z)) (H1.out.2.trans' f2))
  clear f2 H1 HR c0 c1 c2 c3
  cases b with
  | false =>
    go_wp2_with fail
    go_ret
    exact ⟨by first | rfl | simp, H, TenA.ok.fr0 HT.out H2.out.2, Step.same H2.out.2⟩
  | true =>
    have c0 := cell_of H2.out.1 0
    have c1 := cell_of H2.out.1 1
    have c2 := cell_of H2.out.1 2
    have c3 := cell_of H2.out.1 3
    have hb := (TenA.ok.fr0 HT.out H2.out.2).box
    unfold tenO at hb
    have d3 := free_of hb 3
    have d4 := free_of hb 4
    have d5 := free_of hb 5
    have d6 := free_of hb 6
    have e3 := cell_of hb 3
    have e4 := cell_of hb 4
    have e5 := cell_of hb 5
    have e6 := cell_of hb 6
    clear hb
    simp at e3 e4 e5 e6
    go_wp2_with fail
    go_ret
    refine ⟨by first | rfl | simp, ?_⟩
    obtain ⟨H', t1, t2⟩ := (TenA.ok.fr0 HT.out H2.out.2).setRule r
    exact ⟨H', t1, (Step.same H2.out.2).trans t2⟩
set_option maxRecDepth 100000 in
set_option maxHeartbeats 1600000 in
theorem putroute_any {A : TenW} {K : Bs} {n : Nat} {S : TenS} {w : World} {H : Nat → Prop} (h : TenA A K n S w H) (s : ByteArray) (t : Int) (hs : s.size ≤ maxLen) :
    Calls Tryz.prog 38 #[.pointer (some ⟨A.tb, 0, none⟩), .string s, .int .i64 t] w fun e w' => e = .returned (.int .i64 (Rt.putE S.rs s t)) ∧ ∃ H', TenA A K n { S with rs := Rt.putR S.rs s t } w' H' ∧ Step H H' w w' := by
  obtain ⟨G, g1, g2, g3⟩ := h.table
  have HP := Lib.hid (Rt.put_any g1 s t hs rfl rfl)
  have HC := Lib.hid (fun rs w' G' => g3 rs w' G')
  have c2 := h.cells.2.2.1
  clear h g1 g2 g3
  generalize Rt.putE S.rs s t = x at *
  generalize Rt.putR S.rs s t = y at *
  go_enter Tryz.func38, Tryz.ntmps38
  go_wp2_with fail
  refine HP.out.mono ?_
  rintro e w' ⟨F', rfl, k1, k2⟩
  have HE := Lib.hid (HC.out _ _ _ k1 k2)
  clear k1 k2 HP HC
  go_wp2_with fail
  go_ret
  exact ⟨rfl, HE.out⟩
set_option maxRecDepth 100000 in
set_option maxHeartbeats 1600000 in
theorem droproute_any {A : TenW} {K : Bs} {n : Nat} {S : TenS} {w : World} {H : Nat → Prop} (h : TenA A K n S w H) (s : ByteArray) (hs : s.size ≤ maxLen) :
    Calls Tryz.prog 54 #[.pointer (some ⟨A.tb, 0, none⟩), .string s] w fun e w' => e = .returned (.int .i64 (Rt.dropE S.rs s)) ∧ ∃ H', TenA A K n { S with rs := Rt.dropR S.rs s } w' H' ∧ Step H H' w w' := by
  obtain ⟨G, g1, g2, g3⟩ := h.table
  have HP := Lib.hid (Rt.drop_any g1 s hs rfl rfl)
  have HC := Lib.hid (fun rs w' G' => g3 rs w' G')
  have c2 := h.cells.2.2.1
  clear h g1 g2 g3
  generalize Rt.dropE S.rs s = x at *
  generalize Rt.dropR S.rs s = y at *
  go_enter Tryz.func54, Tryz.ntmps54
  go_wp2_with fail
  refine HP.out.mono ?_
  rintro e w' ⟨F', rfl, k1, k2⟩
  have HE := Lib.hid (HC.out _ _ _ k1 k2)
  clear k1 k2 HP HC
  go_wp2_with fail
  go_ret
  exact ⟨rfl, HE.out⟩
set_option maxRecDepth 100000 in
set_option maxHeartbeats 1600000 in
theorem tclose_any {A : TenW} {K : Bs} {n : Nat} {S : TenS} {w : World} {H : Nat → Prop} (h : TenA A K n S w H) :
    Calls Tryz.prog 56 #[.pointer (some ⟨A.tb, 0, none⟩)] w fun e w' => e = .returned (.int .i64 (Lg.sumA S.ps)) ∧ ∃ H', TenA A K n { S with ps := [] } w' H' ∧ Step H H' w w' := by
  obtain ⟨G, g1, g2, g3⟩ := h.ledger
  have HP := Lib.hid (Lg.close_at g1 rfl)
  have HC := Lib.hid (fun rs w' G' => g3 rs w' G')
  have c2 := h.cells.2.2.2.2.2.2.2.2
  clear h g1 g2 g3
  generalize Lg.sumA S.ps = x at *
  go_enter Tryz.func56, Tryz.ntmps56
  go_wp2_with fail
  refine HP.out.mono ?_
  rintro e w' ⟨F', k1, rfl, k2⟩
  have HE := Lib.hid (HC.out _ _ _ k1 (step_lg k2))
  clear k1 k2 HP HC
  go_wp2_with fail
  go_ret
  exact ⟨rfl, HE.out⟩
set_option maxRecDepth 100000 in
set_option maxHeartbeats 1600000 in
theorem ttotal_any {A : TenW} {K : Bs} {n : Nat} {S : TenS} {w : World} {H : Nat → Prop} (h : TenA A K n S w H) :
    Calls Tryz.prog 17 #[.pointer (some ⟨A.tb, 0, none⟩)] w fun e w' => e = .returned (.int .i64 (Lg.sumA S.ps)) ∧ w = w' := by
  obtain ⟨G, g1, g2, g3⟩ := h.ledger
  have HP := Lib.hid (Lg.total_at g1 rfl)
  have c2 := h.cells.2.2.2.2.2.2.2.2
  clear h g1 g2 g3
  generalize Lg.sumA S.ps = x at *
  go_enter Tryz.func17, Tryz.ntmps17
  go_wp2_with fail
  refine HP.out.mono ?_
  rintro e w' ⟨rfl, rfl⟩
  go_wp2_with fail
  go_ret
  exact ⟨rfl, rfl⟩
set_option maxRecDepth 100000 in
set_option maxHeartbeats 1600000 in
theorem tposts_any {A : TenW} {K : Bs} {n : Nat} {S : TenS} {w : World} {H : Nat → Prop} (h : TenA A K n S w H) :
    Calls Tryz.prog 19 #[.pointer (some ⟨A.tb, 0, none⟩)] w fun e w' => ∃ v, e = .returned v ∧ Lg.PostsAt w' v S.ps ∧ Fr noBlock w w' ∧ ∀ k, v.ownBlock = some k → w.heap.size ≤ k := by
  obtain ⟨G, g1, g2, g3⟩ := h.ledger
  have HP := Lib.hid (Lg.list_at g1)
  have c2 := h.cells.2.2.2.2.2.2.2.2
  clear h g1 g2 g3
  go_enter Tryz.func19, Tryz.ntmps19
  go_wp2_with fail
  refine HP.out.mono ?_
  rintro e w' ⟨v, _, rfl, k1, k2, k3⟩
  have HE := Lib.hid (And.intro k1 (And.intro k2 k3))
  clear k1 k2 k3 HP
  go_wp2_with fail
  go_ret
  exact ⟨v, rfl, HE.out⟩
def TNewP (K : Bs) (n : Nat) (w : World) (e : Ending) (w' : World) : Prop := ∃ (A : TenW) (H : Nat → Prop), e = .returned (.tuple #[.pointer (some ⟨A.tb, 0, none⟩), .int .i64 0]) ∧ TenA A K n newT w' H ∧ Fr noBlock w w' ∧ ∀ k, H k → w.heap.size ≤ k
set_option maxRecDepth 100000 in
set_option maxHeartbeats 3200000 in
theorem tnew_ok {w : World} {ao : Option Addr} {K : Bs} (hm : RowRd ByteR w ao K) (mc : Nat) (h16 : 16 ≤ K.length) (h64 : K.length ≤ 64) {n : Nat} (hn1 : 1 ≤ n) (hn : n ≤ 64) :
    Calls Tryz.prog 15 #[.slice ao K.length mc, .int .i64 (n : Int)] w (TNewP K n w) := by
  have HV := Lib.hid (show ∀ W, Fr noBlock w W → Calls Tryz.prog 49 #[.slice ao K.length mc, .int .i64 (n : Int), .int .i64 1] W (VNewP K n 1 W) from fun W hW => vnew_ok (hm.fr0 hW) mc h16 h64 hn1 hn (Nat.le_refl 1) (by decide) (ItoAt.small (by decide) _ _))
  unfold VNewP at HV
  have HR := Lib.hid (fun W => Rt.new_any W)
  have HM := Lib.hid (fun W => Lm.new_any W)
  have HL := Lib.hid (fun W => Lg.new_at W)
  clear hm h16 h64 hn1 hn
  unfold TNewP
  go_enter Tryz.func15, Tryz.ntmps15
  go_wp2_with fail
  refine (HV.out _ (Fr.refl _ _)).mono ?_
  rintro e w1 ⟨va, F1, rfl, a1, a2, a3⟩
  have H1 := Lib.hid (And.intro a1 (And.intro a2 a3))
  clear a1 a2 a3
  go_wp2_with fail
  refine (HV.out _ H1.out.2.1).mono ?_
  rintro e w2 ⟨fa, F2, rfl, a1, a2, a3⟩
  have H2 := Lib.hid (And.intro a1 (And.intro a2 a3))
  clear a1 a2 a3 HV
  go_wp2_with fail
  refine (HR.out _).mono ?_
  rintro e w3 ⟨rl, F3, rfl, a1, a2, a3⟩
  have H3 := Lib.hid (And.intro a1 (And.intro a2 a3))
  clear a1 a2 a3 HR
  go_wp2_with fail
  refine (HM.out _).mono ?_
  rintro e w4 ⟨bk, F4, rfl, a1, a2, a3⟩
  have H4 := Lib.hid (And.intro a1 (And.intro a2 a3))
  clear a1 a2 a3 HM
  go_wp2_with fail
  refine (HL.out _).mono ?_
  rintro e w5 ⟨ll, F5, a1, rfl, a2, a3⟩
  have H5 := Lib.hid (And.intro a1 (And.intro a2 a3))
  clear a1 a2 a3 HL
  go_wp2_with fail
  go_ret2
  obtain ⟨b1, b2, b3⟩ := H1.out
  obtain ⟨c1, c2, c3⟩ := H2.out
  obtain ⟨d1, d2, d3⟩ := H3.out
  obtain ⟨e1, e2, e3⟩ := H4.out
  obtain ⟨f1, f2, f3⟩ := H5.out
  obtain ⟨A, hA⟩ : ∃ A : TenW, A = ⟨w5.heap.size, va, fa, rl, bk, ll⟩ := ⟨_, rfl⟩
  have f6 := (Fr.refl noBlock w5).alloc (tenO A newT.rule)
  have t1 := Two.join VaultT.ok b1 c2 c1 c3
  have t2 := Two.join Rt.TableAt.ok d1 e2 e1 e3
  have g2 : w2.heap.size ≤ w3.heap.size := d2.size
  have g3 : w3.heap.size ≤ w4.heap.size := e2.size
  have g4 : w4.heap.size ≤ w5.heap.size := f2.size
  have t3 := Two.join (Two.ok VaultT.ok VaultT.ok) t1 (d2.trans' e2) t2 (fun k hk => hk.elim (d3 k) (fun hk => by have := e3 k hk; omega))
  have t4 := Two.join LedT.ok (show LedT ll [] w5 F5 from f1) f6 (show BoxT w5.heap.size (tenO A newT.rule) _ (fun k => k = w5.heap.size) from ⟨heap_new w5 _, fun _ => Iff.rfl⟩) (fun k hk => by rw [hk]; exact Nat.le_refl _)
  have t5 := Two.join (Two.ok (Two.ok VaultT.ok VaultT.ok) (Two.ok Rt.TableAt.ok Lm.BookAt.ok)) t3 (f2.trans' f6) t4 (fun k hk => hk.elim (f3 k) (fun hk => by rw [hk]; exact g4))
  subst hA
  refine ⟨⟨w5.heap.size, va, fa, rl, bk, ll⟩, _, rfl, t5, (((b2.trans' c2).trans' (d2.trans' e2)).trans' f2).trans' f6, ?_⟩
  have g0 : w.heap.size ≤ w1.heap.size := b2.size
  have g1 : w1.heap.size ≤ w2.heap.size := c2.size
  rintro k ((( hk | hk) | hk | hk) | hk | hk)
  · exact b3 k hk
  · have := c3 k hk; omega
  · have := d3 k hk; omega
  · have := e3 k hk; omega
  · have := f3 k hk; omega
  · rw [hk]; omega
set_option maxRecDepth 100000 in
set_option maxHeartbeats 1600000 in
theorem tnew_bad {w : World} {ao : Option Addr} {K : Bs} (hm : RowRd ByteR w ao K) (mc : Nat) (h16 : 16 ≤ K.length) (h64 : K.length ≤ 64) {n : Int} (hn : n < 1 ∨ 64 < n) :
    Calls Tryz.prog 15 #[.slice ao K.length mc, .int .i64 n] w fun e w' => e = .returned (.tuple #[.pointer none, .int .i64 1]) ∧ Fr noBlock w w' := by
  have HV := Lib.hid (vnew_bad hm mc h16 h64 hn 1)
  clear hm h16 h64 hn
  go_enter Tryz.func15, Tryz.ntmps15
  go_wp2_with fail
  refine HV.out.mono ?_
  rintro e w1 ⟨rfl, f1⟩
  have H1 := Lib.hid f1
  clear f1 HV
  go_wp2_with fail
  go_ret2
  exact ⟨rfl, H1.out⟩
end Go.Proofs.YtajhgejhdalobaaGreatDoor
namespace Go.Proofs.YtajhgejhdalobaaGreatDoor
open Go.RowKit

theorem keep_o {W : World} {g p o : Nat} {u v x : Value} (h : W.cell? ⟨p, o, none⟩ = some x) (hp : p ≠ g) : ((W.setCell ⟨g, 0, none⟩ u).setCell ⟨g, 1, none⟩ v).cell? ⟨p, o, none⟩ = some x :=
  (World.cell?_setCell_other _ ⟨g, 1, none⟩ ⟨p, o, none⟩ _ (by simp <;> omega)).trans ((World.cell?_setCell_other _ ⟨g, 0, none⟩ ⟨p, o, none⟩ _ (by simp <;> omega)).trans h)
theorem AskA.keep {w W : World} {H : Nat → Prop} {A : TenW} {K : Bs} {n : Nat} {S : TenS} {L : List (Nat × Obj)} {m : Msg} {sv : SV} (h : AskA w H A K n S L m sv W) {p : Addr} (hp : p.block < w.heap.size) (hn : ¬ H p.block) : W.cell? p = w.cell? p := by
  obtain ⟨_, _, _, _, h4, _⟩ := h
  exact h4.fr.cell hp hn
theorem AskK.keep {w W : World} {H : Nat → Prop} {A : TenW} {K : Bs} {n : Nat} {S : TenS} {ao : Option Addr} {q : List Fld} {L : List (Nat × Obj)} (h : AskK w H A K n S ao q L W) {p : Addr} (hp : p.block < w.heap.size) (hn : ¬ H p.block) : W.cell? p = w.cell? p := by
  obtain ⟨_, _, _, _, h4, _⟩ := h
  exact h4.fr.cell hp hn
theorem AskK.noM {w W : World} {H : Nat → Prop} {A : TenW} {K : Bs} {n : Nat} {S : TenS} {ao : Option Addr} {q : List Fld} {L : List (Nat × Obj)} (h : AskK w H A K n S ao q L W) : AskA w H A K n S L noM ⟨none, 0, 0⟩ W := by
  obtain ⟨H1, t, g, b, s, h5⟩ := h
  exact ⟨rfl, RowAt.nil, H1, t, s, h5, fun k hk => by cases hk⟩
section
variable {M : MaskF} {S : TenS} {a : TAct}
theorem only_handle (h : a.d = 0 ∨ a.d = 8) : onlyT M S a = handleT M S a.t a.q a.now := by unfold onlyT; rw [if_pos h]
theorem only_rule (h : a.d = 1) : onlyT M S a = (if a.r.right = true then { S with rule := a.r } else S, noM) := by unfold onlyT; rw [if_neg (by omega), if_pos h]
theorem only_put (h : a.d = 2) : onlyT M S a = ({ S with rs := Rt.putR S.rs a.s a.n }, noM) := by unfold onlyT; rw [if_neg (by omega), if_neg (by omega), if_pos h]
theorem only_drop (h : a.d = 3) : onlyT M S a = ({ S with rs := Rt.dropR S.rs a.s }, noM) := by unfold onlyT; rw [if_neg (by omega), if_neg (by omega), if_neg (by omega), if_pos h]
theorem only_rot (h : a.d = 4) : onlyT M S a = (if S.v < 255 then { S with v := S.v + 1 } else S, noM) := by unfold onlyT; rw [if_neg (by omega), if_neg (by omega), if_neg (by omega), if_neg (by omega), if_pos h]
theorem only_close (h : a.d = 6) : onlyT M S a = ({ S with ps := [] }, noM) := by unfold onlyT; rw [if_neg (by omega), if_neg (by omega), if_neg (by omega), if_neg (by omega), if_neg (by omega), if_pos h]
theorem only_none (h0 : ¬ a.d = 0) (h8 : ¬ a.d = 8) (h1 : ¬ a.d = 1) (h2 : ¬ a.d = 2) (h3 : ¬ a.d = 3) (h4 : ¬ a.d = 4) (h6 : ¬ a.d = 6) : onlyT M S a = (S, noM) := by unfold onlyT; rw [if_neg (by omega), if_neg h1, if_neg h2, if_neg h3, if_neg h4, if_neg h6]
end
set_option maxRecDepth 100000 in
set_option maxHeartbeats 6400000 in
theorem only_any {A : TenW} {K : Bs} {n : Nat} {S : TenS} {w : World} {H : Nat → Prop} (h : TenA A K n S w H) (hG : Glob w H) (hp : TenP K n S.v) (ho : TenantOk (maskV K n) S) {pb : Nat} (hpc : w.cell? ⟨pb, 2, none⟩ = some (.pointer (some ⟨A.tb, 0, none⟩))) (hpn : ¬ H pb) (a : MAct) (hq : Bes FldR a.ao a.q w H) (hs : SmallM a.t a.q) (hss : a.s.size ≤ maxLen) :
    Calls Tryz.prog 18 #[.pointer (some ⟨pb, 0, none⟩), a.val] w (AnsT A K n (onlyT (maskV K n) S a.plain).1 (onlyT (maskV K n) S a.plain).2 H w) := by
  obtain ⟨d, an, now, t, ao, cap, q, ⟨rt, rm, rs, ro⟩, s⟩ := a
  dsimp only at hq hs hss
  unfold MAct.plain MAct.val
  dsimp only
  have HK0 := Lib.hid (AskK.start h hG hq)
  have hpl : pb < w.heap.size := World.block_lt_of_cell? _ _ hpc
  have HPc := Lib.hid (show ∀ W S2 L, AskK w H A K n S2 ao q L W → W.cell? ⟨pb, 2, none⟩ = some (.pointer (some ⟨A.tb, 0, none⟩)) from fun W S2 L k => (k.keep (p := ⟨pb, 2, none⟩) hpl hpn).trans hpc)
  have HHa := Lib.hid (show ∀ W L, AskK w H A K n S ao q L W → Calls Tryz.prog 13 #[.pointer (some ⟨A.tb, 0, none⟩), msgV t ao q.length cap, .int .i64 now] W (fun e w' => ∃ sv : SV, e = .returned (.agg #[.string (handleT (maskV K n) S t q now).2.1, sv.val]) ∧ AskA w H A K n (handleT (maskV K n) S t q now).1 L (handleT (maskV K n) S t q now).2 sv w') from fun W L k => k.ansT (fun H' y1 y2 y3 => handle_any y1 y2 hp ho t y3 hs cap now))
  have HRu := Lib.hid (show ∀ W L, AskK w H A K n S ao q L W → Calls Tryz.prog 39 #[.pointer (some ⟨A.tb, 0, none⟩), .agg #[.int .i64 rt, .int .i64 rm, .int .i64 rs, .int .i64 ro]] W (fun e w' => (∃ x : Int, e = .returned (.int .i64 x)) ∧ AskK w H A K n (if (⟨rt, rm, rs, ro⟩ : Lm.Rule).right = true then { S with rule := ⟨rt, rm, rs, ro⟩ } else S) ao q L w') from fun W L k => k.call fun H' t g => (setrule_any t ⟨rt, rm, rs, ro⟩).mono fun e w' ⟨x, y⟩ => ⟨⟨_, x⟩, y⟩)
  have HPu := Lib.hid (show ∀ W L, AskK w H A K n S ao q L W → Calls Tryz.prog 38 #[.pointer (some ⟨A.tb, 0, none⟩), .string s, .int .i64 an] W (fun e w' => (∃ x : Int, e = .returned (.int .i64 x)) ∧ AskK w H A K n { S with rs := Rt.putR S.rs s an } ao q L w') from fun W L k => k.call fun H' t g => (putroute_any t s an hss).mono fun e w' ⟨x, y⟩ => ⟨⟨_, x⟩, y⟩)
  have HDr := Lib.hid (show ∀ W L, AskK w H A K n S ao q L W → Calls Tryz.prog 54 #[.pointer (some ⟨A.tb, 0, none⟩), .string s] W (fun e w' => (∃ x : Int, e = .returned (.int .i64 x)) ∧ AskK w H A K n { S with rs := Rt.dropR S.rs s } ao q L w') from fun W L k => k.call fun H' t g => (droproute_any t s hss).mono fun e w' ⟨x, y⟩ => ⟨⟨_, x⟩, y⟩)
  have HCl := Lib.hid (show ∀ W L, AskK w H A K n S ao q L W → Calls Tryz.prog 56 #[.pointer (some ⟨A.tb, 0, none⟩)] W (fun e w' => (∃ x : Int, e = .returned (.int .i64 x)) ∧ AskK w H A K n { S with ps := [] } ao q L w') from fun W L k => k.call fun H' t g => (tclose_any t).mono fun e w' ⟨x, y⟩ => ⟨⟨_, x⟩, y⟩)
  have HRo := Lib.hid (show ∀ W L, AskK w H A K n S ao q L W → Calls Tryz.prog 55 #[.pointer (some ⟨A.va, 0, none⟩)] W (fun e w' => (∃ x y : Int, e = .returned (.tuple #[.int .i64 x, .int .i64 y])) ∧ AskK w H A K n { S with v := if S.v < 255 then S.v + 1 else S.v } ao q L w') from fun W L k => k.call fun H' t g => by
    obtain ⟨G, g1, g2, g3⟩ := t.vault
    refine (rotate_any g1).mono ?_
    rintro e w' ⟨⟨x, rfl⟩, k1, k2⟩
    obtain ⟨H', t1, t2⟩ := g3 _ _ _ k1 k2
    exact ⟨⟨_, _, rfl⟩, H', t1, t2⟩)
  have HPa := Lib.hid (show ∀ W S2 L m sv, AskA w H A K n S2 L m sv W → W.cell? ⟨pb, 2, none⟩ = some (.pointer (some ⟨A.tb, 0, none⟩)) from fun W S2 L m sv k => (k.keep (p := ⟨pb, 2, none⟩) hpl hpn).trans hpc)
  have HTen := Lib.hid (show ∀ W L S2, AskK w H A K n S2 ao q L W → W.cell? ⟨A.tb, 0, none⟩ = some (.pointer (some ⟨A.va, 0, none⟩)) from fun W L S2 k => k.ten.choose_spec.cells.1)
  obtain ⟨r, hr⟩ : ∃ r, onlyT (maskV K n) S ⟨d, an, now, t, q, ⟨rt, rm, rs, ro⟩, s⟩ = r := ⟨_, rfl⟩
  have T0 := Lib.hid (fun x => hr.symm.trans (only_handle (M := maskV K n) (S := S) (a := ⟨d, an, now, t, q, ⟨rt, rm, rs, ro⟩, s⟩) x))
  have T1 := Lib.hid (fun x => hr.symm.trans (only_rule (M := maskV K n) (S := S) (a := ⟨d, an, now, t, q, ⟨rt, rm, rs, ro⟩, s⟩) x))
  have T2 := Lib.hid (fun x => hr.symm.trans (only_put (M := maskV K n) (S := S) (a := ⟨d, an, now, t, q, ⟨rt, rm, rs, ro⟩, s⟩) x))
  have T3 := Lib.hid (fun x => hr.symm.trans (only_drop (M := maskV K n) (S := S) (a := ⟨d, an, now, t, q, ⟨rt, rm, rs, ro⟩, s⟩) x))
  have T4 := Lib.hid (show d = 4 → r = ({ S with v := if S.v < 255 then S.v + 1 else S.v }, noM) from fun x => by
    rw [← hr, only_rot (M := maskV K n) (S := S) (a := ⟨d, an, now, t, q, ⟨rt, rm, rs, ro⟩, s⟩) x]
    split <;> rfl)
  have T6 := Lib.hid (fun x => hr.symm.trans (only_close (M := maskV K n) (S := S) (a := ⟨d, an, now, t, q, ⟨rt, rm, rs, ro⟩, s⟩) x))
  have T7 := Lib.hid (fun x0 x8 x1 x2 x3 x4 x6 => hr.symm.trans (only_none (M := maskV K n) (S := S) (a := ⟨d, an, now, t, q, ⟨rt, rm, rs, ro⟩, s⟩) x0 x8 x1 x2 x3 x4 x6))
  rw [hr]
  dsimp only at T0 T1 T2 T3 T6 T7
  obtain ⟨⟨S0, M0, l0⟩, h0⟩ : ∃ x, handleT (maskV K n) S t q now = x := ⟨_, rfl⟩
  obtain ⟨S1, h1⟩ : ∃ x, (if (⟨rt, rm, rs, ro⟩ : Lm.Rule).right = true then { S with rule := ⟨rt, rm, rs, ro⟩ } else S) = x := ⟨_, rfl⟩
  obtain ⟨S2, h2⟩ : ∃ x : TenS, { S with rs := Rt.putR S.rs s an } = x := ⟨_, rfl⟩
  obtain ⟨S3, h3⟩ : ∃ x : TenS, { S with rs := Rt.dropR S.rs s } = x := ⟨_, rfl⟩
  obtain ⟨S4, h4⟩ : ∃ x : TenS, { S with v := if S.v < 255 then S.v + 1 else S.v } = x := ⟨_, rfl⟩
  obtain ⟨S6, h6⟩ : ∃ x : TenS, { S with ps := [] } = x := ⟨_, rfl⟩
  rw [h0] at HHa T0
  rw [h1] at HRu T1
  rw [h2] at HPu T2
  rw [h3] at HDr T3
  rw [h4] at HRo T4
  rw [h6] at HCl T6
  dsimp only at HHa
  obtain ⟨qn, hqn⟩ : ∃ x, q.length = x := ⟨_, rfl⟩
  rw [hqn] at HHa ⊢
  clear h hG hp ho hpc hpn hq hs hss hr h0 h1 h2 h3 h4 h6 hqn
  go_enter Tryz.func18, Tryz.ntmps18
  go_upto_region 1 with fail
  refine wp_at (fun W => AskK w H A K n S ao q [(w.heap.size + 1, .cells #[.string ⟨#[]⟩, .slice none 0 0] 25 (0, 0)), (w.heap.size, .cells #[.int .i64 d, .int .i64 an, .int .i64 now, .string t, .slice ao qn cap, .int .i64 rt, .int .i64 rm, .int .i64 rs, .int .i64 ro, .string s] 49 (0, 0))] W) ?_ ?_
  · have k1 := HK0.out.new (.cells #[.int .i64 d, .int .i64 an, .int .i64 now, .string t, .slice ao qn cap, .int .i64 rt, .int .i64 rm, .int .i64 rs, .int .i64 ro, .string s] 49 (0, 0))
    have k3 := k1.new (.cells #[.string ⟨#[]⟩, .slice none 0 0] 25 (0, 0))
    have s1 : (w.alloc (.cells #[.int .i64 d, .int .i64 an, .int .i64 now, .string t, .slice ao qn cap, .int .i64 rt, .int .i64 rm, .int .i64 rs, .int .i64 ro, .string s] 49 (0, 0))).heap.size = w.heap.size + 1 := by simp
    rw [s1] at k3
    exact k3
  obtain ⟨g, hg⟩ : ∃ g, w.heap.size = g := ⟨_, rfl⟩
  rw [hg]
  have hpg : pb ≠ g + 1 := by omega
  have hgg : g ≠ g + 1 := by omega
  rintro w1 k1
  have H1 := Lib.hid k1
  clear hg k1 HK0 hpl
  obtain ⟨L, hL⟩ : ∃ L : List (Nat × Obj), [(g + 1, .cells #[.string ⟨#[]⟩, .slice none 0 0] 25 (0, 0)), (g, .cells #[.int .i64 d, .int .i64 an, .int .i64 now, .string t, .slice ao qn cap, .int .i64 rt, .int .i64 rm, .int .i64 rs, .int .i64 ro, .string s] 49 (0, 0))] = L := ⟨_, rfl⟩
  have HI0 := Lib.hid (show (g + 1, .cells #[.string ⟨#[]⟩, .slice none 0 0] 25 (0, 0)) ∈ L from hL ▸ in0)
  have HI1 := Lib.hid (show (g, .cells #[.int .i64 d, .int .i64 an, .int .i64 now, .string t, .slice ao qn cap, .int .i64 rt, .int .i64 rm, .int .i64 rs, .int .i64 ro, .string s] 49 (0, 0)) ∈ L from hL ▸ in1)
  rw [hL] at H1
  clear hL
  have HKc := Lib.hid (show ∀ W S2, AskK w H A K n S2 ao q L W → W.cell? ⟨pb, 2, none⟩ = some (.pointer (some ⟨A.tb, 0, none⟩)) ∧ W.cell? ⟨g, 0, none⟩ = some (.int .i64 d) ∧ W.cell? ⟨g, 1, none⟩ = some (.int .i64 an) ∧ W.cell? ⟨g, 2, none⟩ = some (.int .i64 now) ∧ W.cell? ⟨g, 3, none⟩ = some (.string t) ∧ W.cell? ⟨g, 4, none⟩ = some (.slice ao qn cap) ∧ W.cell? ⟨g, 5, none⟩ = some (.int .i64 rt) ∧ W.cell? ⟨g, 6, none⟩ = some (.int .i64 rm) ∧ W.cell? ⟨g, 7, none⟩ = some (.int .i64 rs) ∧ W.cell? ⟨g, 8, none⟩ = some (.int .i64 ro) ∧ W.cell? ⟨g, 9, none⟩ = some (.string s) from fun W S2 k => by
    have hb := k.at' HI1.out
    exact ⟨HPc.out _ _ _ k, cell_of hb 0, cell_of hb 1, cell_of hb 2, cell_of hb 3, cell_of hb 4, cell_of hb 5, cell_of hb 6, cell_of hb 7, cell_of hb 8, cell_of hb 9⟩)
  have HMc := Lib.hid (show ∀ W S2, AskK w H A K n S2 ao q L W → W.cell? ⟨g + 1, 0, none⟩ = some (.string ⟨#[]⟩) ∧ W.cell? ⟨g + 1, 1, none⟩ = some (.slice none 0 0) ∧ W.frozen? ⟨g + 1, 0, none⟩ = false ∧ W.frozen? ⟨g + 1, 1, none⟩ = false from fun W S2 k => by
    have hb := k.at' HI0.out
    exact ⟨cell_of hb 0, cell_of hb 1, free_of hb 0, free_of hb 1⟩)
  clear HPc
  have HDr1 := Lib.hid (H1.out.fr (Fr.drew (Fr.refl _ w1)))
  by_cases e0 : d = 0 ∨ d = 8
  · have X := Lib.hid (T0.out e0)
    clear T0 T1 T2 T3 T4 T6 T7 HRu HPu HDr HCl HRo HTen
    obtain ⟨c2, b0, b1, b2, b3, b4, -⟩ := HKc.out _ _ H1.out
    obtain ⟨m0, m1, m2, m3⟩ := HMc.out _ _ H1.out
    rcases e0 with rfl | rfl
    all_goals
      go_upto_region 4 with fail
      go_region_held3 (fun W => W.cell? ⟨pb, 2, none⟩ = some (.pointer (some ⟨A.tb, 0, none⟩)) ∧ W.cell? ⟨g, 2, none⟩ = some (.int .i64 now) ∧ W.cell? ⟨g, 3, none⟩ = some (.string t) ∧ W.cell? ⟨g, 4, none⟩ = some (.slice ao qn cap))
        (first | exact ⟨keep_o z0 hpg, keep_o z1 hgg, keep_o z2 hgg, keep_o z3 hgg⟩ | exact ⟨z0, z1, z2, z3⟩ | exact ⟨(HKc.out _ _ H1.out).1, (HKc.out _ _ H1.out).2.2.2.1, (HKc.out _ _ H1.out).2.2.2.2.1, (HKc.out _ _ H1.out).2.2.2.2.2.1⟩ | exact ⟨(HKc.out _ _ HDr1.out).1, (HKc.out _ _ HDr1.out).2.2.2.1, (HKc.out _ _ HDr1.out).2.2.2.2.1, (HKc.out _ _ HDr1.out).2.2.2.2.2.1⟩ | (trace_state; fail "nokeep"))
        (first
          | (go_at_call 13; (with_reducible refine (HHa.out _ _ HDr1.out).mono ?_); rintro e w6 ⟨⟨xa, xn, xc⟩, rfl, k6⟩; have H6 := Lib.hid k6; clear k6; have b6 := H6.out.at' HI0.out; have b7 := H6.out.at' HI1.out; have m0 := cell_of b6 0; have m1 := cell_of b6 1; have m2 := free_of b6 0; have m3 := free_of b6 1; have z0 := HPa.out _ _ _ _ _ H6.out; have z1 : w6.cell? ⟨g, 2, none⟩ = some (.int .i64 now) := cell_of b7 2; have z2 : w6.cell? ⟨g, 3, none⟩ = some (.string t) := cell_of b7 3; have z3 : w6.cell? ⟨g, 4, none⟩ = some (.slice ao qn cap) := cell_of b7 4; clear b6 b7; dsimp only [SV.val])
          | fail "noarm")
      all_goals
        clear m0 m1 m2 m3 z0 z1 z2 z3
        go_wp2_with fail
        refine bodyPost_ret (v := .agg #[.string M0, .slice xa xn xc]) (results_cell_row Tryz.results18 _ _ (g + 1) _ _ _ _ rfl (msg_set (H6.out.at' HI0.out) _ _) Tryz.underlying25 rfl info_msg) rfl (by rw [X.out]; exact H6.out.done HI0.out)
  have f0 : (d == 0) = false := by simp; omega
  have f8 : (d == 8) = false := by simp; omega
  by_cases e1 : d = 1
  · have X := Lib.hid (T1.out e1)
    clear T0 T1 T2 T3 T4 T6 T7 HHa HPu HDr HCl HRo HTen
    obtain ⟨c2, b0, -, -, -, -, b6, b7, b8, b9, -⟩ := HKc.out _ _ H1.out
    subst e1
    go_upto_region 6 with fail
    go_region_held3 (fun W => W.cell? ⟨pb, 2, none⟩ = some (.pointer (some ⟨A.tb, 0, none⟩)) ∧ W.cell? ⟨g, 5, none⟩ = some (.int .i64 rt) ∧ W.cell? ⟨g, 6, none⟩ = some (.int .i64 rm) ∧ W.cell? ⟨g, 7, none⟩ = some (.int .i64 rs) ∧ W.cell? ⟨g, 8, none⟩ = some (.int .i64 ro))
      (first | exact ⟨z0, z6, z7, z8, z9⟩ | exact ⟨(HKc.out _ _ H1.out).1, (HKc.out _ _ H1.out).2.2.2.2.2.2.1, (HKc.out _ _ H1.out).2.2.2.2.2.2.2.1, (HKc.out _ _ H1.out).2.2.2.2.2.2.2.2.1, (HKc.out _ _ H1.out).2.2.2.2.2.2.2.2.2.1⟩ | exact ⟨(HKc.out _ _ HDr1.out).1, (HKc.out _ _ HDr1.out).2.2.2.2.2.2.1, (HKc.out _ _ HDr1.out).2.2.2.2.2.2.2.1, (HKc.out _ _ HDr1.out).2.2.2.2.2.2.2.2.1, (HKc.out _ _ HDr1.out).2.2.2.2.2.2.2.2.2.1⟩ | (trace_state; fail "nokeep"))
      (first
        | (go_at_call 39; (with_reducible refine (HRu.out _ _ HDr1.out).mono ?_); rintro e w6 ⟨⟨x, rfl⟩, k6⟩; have H6 := Lib.hid k6; clear k6; obtain ⟨z0, -, -, -, -, -, z6, z7, z8, z9, -⟩ := HKc.out _ _ H6.out)
        | fail "noarm")
    all_goals
      clear z0 z6 z7 z8 z9
      obtain ⟨m0, m1, m2, m3⟩ := HMc.out _ _ H6.out
      go_wp2_with fail
      refine bodyPost_ret (v := .agg #[.string ⟨#[]⟩, .slice none 0 0]) (results_cell_row Tryz.results18 _ _ (g + 1) _ _ _ _ rfl (msg_set (H6.out.at' HI0.out) _ _) Tryz.underlying25 rfl info_msg) rfl (by rw [X.out]; exact H6.out.noM.done HI0.out)
  have f1 : (d == 1) = false := by simp; omega
  by_cases e2 : d = 2
  · have X := Lib.hid (T2.out e2)
    clear T0 T1 T2 T3 T4 T6 T7 HHa HRu HDr HCl HRo HTen
    obtain ⟨c2, b0, b2, -, -, -, -, -, -, -, b10⟩ := HKc.out _ _ H1.out
    subst e2
    go_upto_region 8 with fail
    go_region_held3 (fun W => W.cell? ⟨pb, 2, none⟩ = some (.pointer (some ⟨A.tb, 0, none⟩)) ∧ W.cell? ⟨g, 1, none⟩ = some (.int .i64 an) ∧ W.cell? ⟨g, 9, none⟩ = some (.string s))
      (first | exact ⟨z0, z2, z10⟩ | exact ⟨(HKc.out _ _ H1.out).1, (HKc.out _ _ H1.out).2.2.1, (HKc.out _ _ H1.out).2.2.2.2.2.2.2.2.2.2⟩ | exact ⟨(HKc.out _ _ HDr1.out).1, (HKc.out _ _ HDr1.out).2.2.1, (HKc.out _ _ HDr1.out).2.2.2.2.2.2.2.2.2.2⟩ | (trace_state; fail "nokeep"))
      (first
        | (go_at_call 38; (with_reducible refine (HPu.out _ _ HDr1.out).mono ?_); rintro e w6 ⟨⟨x, rfl⟩, k6⟩; have H6 := Lib.hid k6; clear k6; obtain ⟨z0, -, z2, -, -, -, -, -, -, -, z10⟩ := HKc.out _ _ H6.out)
        | fail "noarm")
    all_goals
      clear z0 z2 z10
      obtain ⟨m0, m1, m2, m3⟩ := HMc.out _ _ H6.out
      go_wp2_with fail
      refine bodyPost_ret (v := .agg #[.string ⟨#[]⟩, .slice none 0 0]) (results_cell_row Tryz.results18 _ _ (g + 1) _ _ _ _ rfl (msg_set (H6.out.at' HI0.out) _ _) Tryz.underlying25 rfl info_msg) rfl (by rw [X.out]; exact H6.out.noM.done HI0.out)
  have f2 : (d == 2) = false := by simp; omega
  by_cases e3 : d = 3
  · have X := Lib.hid (T3.out e3)
    clear T0 T1 T2 T3 T4 T6 T7 HHa HRu HPu HCl HRo HTen
    obtain ⟨c2, b0, -, -, -, -, -, -, -, -, b10⟩ := HKc.out _ _ H1.out
    subst e3
    go_upto_region 10 with fail
    go_region_held3 (fun W => W.cell? ⟨pb, 2, none⟩ = some (.pointer (some ⟨A.tb, 0, none⟩)) ∧ W.cell? ⟨g, 9, none⟩ = some (.string s))
      (first | exact ⟨z0, z10⟩ | exact ⟨(HKc.out _ _ H1.out).1, (HKc.out _ _ H1.out).2.2.2.2.2.2.2.2.2.2⟩ | exact ⟨(HKc.out _ _ HDr1.out).1, (HKc.out _ _ HDr1.out).2.2.2.2.2.2.2.2.2.2⟩ | (trace_state; fail "nokeep"))
      (first
        | (go_at_call 54; (with_reducible refine (HDr.out _ _ HDr1.out).mono ?_); rintro e w6 ⟨⟨x, rfl⟩, k6⟩; have H6 := Lib.hid k6; clear k6; obtain ⟨z0, -, -, -, -, -, -, -, -, -, z10⟩ := HKc.out _ _ H6.out)
        | fail "noarm")
    all_goals
      clear z0 z10
      obtain ⟨m0, m1, m2, m3⟩ := HMc.out _ _ H6.out
      go_wp2_with fail
      refine bodyPost_ret (v := .agg #[.string ⟨#[]⟩, .slice none 0 0]) (results_cell_row Tryz.results18 _ _ (g + 1) _ _ _ _ rfl (msg_set (H6.out.at' HI0.out) _ _) Tryz.underlying25 rfl info_msg) rfl (by rw [X.out]; exact H6.out.noM.done HI0.out)
  have f3 : (d == 3) = false := by simp; omega
  by_cases e4 : d = 4
  · have X := Lib.hid (T4.out e4)
    clear T0 T1 T2 T3 T4 T6 T7 HHa HRu HPu HDr HCl
    obtain ⟨c2, b0, -⟩ := HKc.out _ _ H1.out
    have c3 := HTen.out _ _ _ H1.out
    subst e4
    go_wp2_with fail
    refine (HRo.out _ _ H1.out).mono ?_
    rintro e w6 ⟨⟨x, y, rfl⟩, k6⟩
    have H6 := Lib.hid k6
    clear k6 HRo c2 b0 c3
    obtain ⟨m0, m1, m2, m3⟩ := HMc.out _ _ H6.out
    go_wp2_with fail
    refine bodyPost_ret (v := .agg #[.string ⟨#[]⟩, .slice none 0 0]) (results_cell_row Tryz.results18 _ _ (g + 1) _ _ _ _ rfl (msg_set (H6.out.at' HI0.out) _ _) Tryz.underlying25 rfl info_msg) rfl (by rw [X.out]; exact H6.out.noM.done HI0.out)
  have f4 : (d == 4) = false := by simp; omega
  by_cases e6 : d = 6
  · have X := Lib.hid (T6.out e6)
    clear T0 T1 T2 T3 T4 T6 T7 HHa HRu HPu HDr HRo
    obtain ⟨c2, b0, -⟩ := HKc.out _ _ H1.out
    subst e6
    go_wp2_with fail
    refine (HCl.out _ _ H1.out).mono ?_
    rintro e w6 ⟨⟨x, rfl⟩, k6⟩
    have H6 := Lib.hid k6
    clear k6 HCl c2 b0
    obtain ⟨m0, m1, m2, m3⟩ := HMc.out _ _ H6.out
    go_wp2_with fail
    refine bodyPost_ret (v := .agg #[.string ⟨#[]⟩, .slice none 0 0]) (results_cell_row Tryz.results18 _ _ (g + 1) _ _ _ _ rfl (msg_set (H6.out.at' HI0.out) _ _) Tryz.underlying25 rfl info_msg) rfl (by rw [X.out]; exact H6.out.noM.done HI0.out)
  have f6 : (d == 6) = false := by simp; omega
  have X := Lib.hid (T7.out (fun x => e0 (.inl x)) (fun x => e0 (.inr x)) e1 e2 e3 e4 e6)
  clear T0 T1 T2 T3 T4 T6 T7 HHa HRu HPu HDr HRo HCl e0 e1 e2 e3 e4 e6
  obtain ⟨-, b0, -⟩ := HKc.out _ _ H1.out
  obtain ⟨m0, m1, m2, m3⟩ := HMc.out _ _ H1.out
  go_wp2_with fail
  refine bodyPost_ret (v := .agg #[.string ⟨#[]⟩, .slice none 0 0]) (results_cell_row Tryz.results18 _ _ (g + 1) _ _ _ _ rfl (msg_set (H1.out.at' HI0.out) _ _) Tryz.underlying25 rfl info_msg) rfl (by rw [X.out]; exact H1.out.noM.done HI0.out)
end Go.Proofs.YtajhgejhdalobaaGreatDoor
