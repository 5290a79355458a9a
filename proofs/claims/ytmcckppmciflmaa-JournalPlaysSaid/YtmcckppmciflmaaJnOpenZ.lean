/-
  THE JOURNAL LAWS' ARGUMENTS OPENED, with their sizes: rows of writes, of acts, of cuts.
-/
import Derived.Test.YtmcckppmciflmaaJnTold
import Derived.Test.YtmcckppmciflmaaDkOpen
namespace Go.Proofs.Ytmcckppmciflmaa
open Go.RowKit
open Go.ChangeShapes Go.WideShapes Go.Deep

/-- each slice, string and map in it takes at most the reach's bytes -/
def Sz {H : Type} (P : Program) (t : TypeId) (d : DataW H) : Prop := ∀ m ∈ d.weights P t, m ≤ reachBytes
section
variable {H : Type} {enc : TypeId × Value → H} {P : Program} {w : World} {base : Nat} {spare : Nat → Bool} {held : Bool}
theorem Sz.of {ts : List TypeId} {ds : List (DataW H)} (h : (DataW.weightsEach P ts ds).all (· ≤ reachBytes) = true) {j : Nat} {t : TypeId} {d : DataW H} (ht : ts[j]? = some t) (hd : ds[j]? = some d) : Sz P t d :=
  fun m hm => by simpa using List.all_eq_true.1 h m (DataW.weights_mem_each ht hd m hm)
theorem Sz.field {e : TypeId} {fs : Array Field} {parts : List (DataW H)} (he : P.underlying e = some (.struct fs)) (h : Sz P e (.agg parts)) {i : Nat} {f : Field} {d : DataW H} (hi : fs[i]? = some f) (hd : parts[i]? = some d) : Sz P f.type d := by
  intro m hm
  refine h m ?_
  simp only [DataW.weights, he]
  refine DataW.weights_mem_each (j := i) (t := f.type) ?_ hd m hm
  simp [hi]
theorem mem_all {e : TypeId} : ∀ {l : List (DataW H)} {d : DataW H}, d ∈ l → ∀ m ∈ d.weights P e, m ∈ DataW.weightsAll P e l
  | x :: l, d, hd, m, hm => by
    simp only [DataW.weightsAll, List.mem_append]
    rcases List.mem_cons.1 hd with rfl | h
    · exact Or.inl hm
    · exact Or.inr (mem_all h m hm)
theorem Sz.elem {t e : TypeId} {elems sp : List (DataW H)} (ht : P.underlying t = some (.slice e)) (h : Sz P t (.slice elems sp)) {d : DataW H} (hd : d ∈ elems) : Sz P e d := by
  intro m hm
  refine h m ?_
  simp only [DataW.weights, ht, List.mem_cons, List.mem_append]
  exact Or.inr (Or.inl (mem_all hd m hm))
theorem Sz.len {t e : TypeId} {elems sp : List (DataW H)} (ht : P.underlying t = some (.slice e)) (h : Sz P t (.slice elems sp)) : elems.length * P.bytesOf e ≤ reachBytes := by
  have := h ((elems.length + sp.length) * P.bytesOf e) (by simp [DataW.weights, ht])
  rw [Nat.add_mul] at this
  omega
theorem Sz.str {t : TypeId} {bytes : List UInt8} (h : Sz (H := H) P t (.lit (.string bytes))) : bytes.length ≤ reachBytes := h _ (by simp [DataW.weights])

theorem field_ofZ {e : TypeId} {fs : Array Field} {fuel : Nat} {cs : List Value} {x : DataW H × List MemPlace} (he : P.underlying e = some (.struct fs)) (h : DataW.trod enc P w base spare held fuel e cs = some x) (hz : Sz P e x.1) :
    ∃ n, ∀ (i o : Nat) (t : TypeId) (sz : Nat), (fs[i]?).map (fun f => (f.offset, f.type)) = some (o, t) → P.cellsOf t = sz → ∃ y, DataW.trod enc P w base spare held n t ((cs.drop o).take sz) = some y ∧ Sz P t y.1 := by
  obtain ⟨ys, n, _, hx, _, hl, hf⟩ := DataW.trod_struct he h
  refine ⟨n, fun i o t sz hi hs => ?_⟩
  rw [Option.map_eq_some_iff] at hi
  obtain ⟨f, hi, he'⟩ := hi
  simp only [Prod.mk.injEq] at he'
  obtain ⟨rfl, rfl⟩ := he'
  subst hs
  have hlt : i < fs.size := (Array.getElem?_eq_some_iff.1 hi).1
  refine ⟨_, (hf i f hi).trans (List.getElem?_eq_getElem (by omega)), ?_⟩
  rw [hx] at hz
  exact Sz.field he hz hi (by rw [List.getElem?_map, List.getElem?_eq_getElem (by omega)]; rfl)

theorem open_rowsZ {α : Type} [Inhabited α] (R : Rec α) (ok : α → Prop) {t e : TypeId} {fuel : Nat} {cs : List Value} {x : DataW H × List MemPlace} (ht : P.underlying t = some (.slice e)) (hC : P.cellsOf e = R.k) (hk : 0 < R.k)
    (mk : ∀ (n : Nat) (cs : List Value) (y : DataW H × List MemPlace), cs.length = R.k → DataW.trod enc P w base spare held n e cs = some y → Sz P e y.1 → ∃ a : α, R.cells a = cs ∧ ok a)
    (h : DataW.trod enc P w base spare held fuel t cs = some x) (hz : Sz P t x.1) :
    ∃ (ao : Option Addr) (cap : Nat) (xs : List α), cs = [.slice ao xs.length cap] ∧ RowRd R w ao xs ∧ (∀ y ∈ xs, ok y) ∧ xs.length * P.bytesOf e ≤ reachBytes := by
  rcases open_slice ht h with ⟨h0, _⟩ | ⟨a, len, cap, m, n, D, Pl, hcs, hb, hl, hm, hmm, hx, hi⟩
  · exact ⟨none, 0, [], h0, RowRd.nil, by simp, by simp⟩
  · have hlm : len ≤ m := by rw [hmm]; split <;> omega
    rw [hx] at hz
    have each : ∀ i, i < len → ∃ y : α, ok y ∧ ∀ j u, (R.cells y)[j]? = some u → w.cell? (a.add (i * R.k + j)) = some u := by
      intro i hil
      obtain ⟨cs', hc, ht'⟩ := hi i (by omega)
      rw [hC] at hc
      obtain ⟨_, hcl, hat⟩ := World.cells?_some hc
      obtain ⟨y, hy, hok⟩ := mk n cs' _ hcl ht' (Sz.elem ht hz (List.mem_map.2 ⟨i, List.mem_range.2 hil, rfl⟩))
      refine ⟨y, hok, fun j u hu => ?_⟩
      rw [hy] at hu
      have hj : j < R.k := by rw [← hcl]; exact (List.getElem?_eq_some_iff.1 hu).1
      rw [← Go.Deep.add_add, hat j hj, hu]
    obtain ⟨f, hf'⟩ := choose_lt' each
    refine ⟨some a, cap, (List.range len).map f, by simp [hcs], ⟨by simp; omega, fun i hi' => ?_⟩, ?_, ?_⟩
    · have hil : i < len := by simpa using hi'
      obtain ⟨_, hc⟩ := hf' i hil
      obtain ⟨_, hc0⟩ := hf' 0 (by omega)
      obtain ⟨u, hu⟩ : ∃ u, (R.cells (f 0))[0]? = some u := ⟨_, List.getElem?_eq_getElem (by rw [R.len]; exact hk)⟩
      have h0 := hc0 0 u hu
      have hsp : a.spot = none := by
        have := cell_spot h0
        simpa [Addr.add] using this
      obtain ⟨b, off, sp⟩ := a
      simp only at hsp
      subst hsp
      refine ⟨b, off, rfl, World.block_lt_of_cell? w _ h0 |> fun hh => by simpa [Addr.add] using hh, fun j u hu => ?_⟩
      have := hc j u (by simpa using hu)
      rwa [Addr.add_lit, ← Nat.add_assoc] at this
    · intro y hy
      simp only [List.mem_map, List.mem_range] at hy
      obtain ⟨i, hi, rfl⟩ := hy
      exact (hf' i hi).1
    · have := Sz.len ht hz
      simpa using this
end
end Go.Proofs.Ytmcckppmciflmaa
namespace Go.Proofs.Ytmcckppmciflmaa
open Go.RowKit
open Go.ChangeShapes Go.WideShapes Go.Deep

theorem size_u8 : Try.prog.bytesOf 5 = 1 := by kernel_rfl
theorem size_int : Try.prog.bytesOf 3 = 8 := by kernel_rfl
section
variable {H : Type} {enc : TypeId × Value → H} {w : World} {base : Nat} {spare : Nat → Bool} {held : Bool}
theorem rows_bytesZ {n : Nat} {cs : List Value} {x : DataW H × List MemPlace} (h : DataW.trod enc Try.prog w base spare held n 23 cs = some x) (hz : Sz Try.prog 23 x.1) : ∃ ao cap, ∃ b : List UInt8, cs = [.slice ao b.length cap] ∧ RowRd ByteR w ao b ∧ b.length ≤ 140737488351232 := by
  obtain ⟨ao, cap, xs, hcs, hr, _, hl⟩ := open_rowsZ ByteR (fun _ => True) Try.underlying23 (by kernel_rfl) (by show 0 < 1; omega) (fun n cs y hl ht _ => mk_byte hl ht) h hz
  rw [size_u8] at hl
  have e : reachBytes = 140737488351232 := rfl
  exact ⟨ao, cap, xs, hcs, hr, by omega⟩
theorem rows_intsZ {n : Nat} {cs : List Value} {x : DataW H × List MemPlace} (h : DataW.trod enc Try.prog w base spare held n 29 cs = some x) (hz : Sz Try.prog 29 x.1) : ∃ ao cap, ∃ b : List Int, cs = [.slice ao b.length cap] ∧ RowRd IntR w ao b ∧ b.length * 8 ≤ 140737488351232 := by
  obtain ⟨ao, cap, xs, hcs, hr, _, hl⟩ := open_rowsZ IntR i64B Try.underlying29 (by kernel_rfl) (by show 0 < 1; omega) (fun n cs y hl ht _ => mk_int hl ht) h hz
  rw [size_int] at hl
  have e : reachBytes = 140737488351232 := rfl
  exact ⟨ao, cap, xs, hcs, hr, by omega⟩
end
end Go.Proofs.Ytmcckppmciflmaa
namespace Go.Proofs.Ytmcckppmciflmaa
open Go.RowKit
open Go.ChangeShapes Go.WideShapes Go.Deep

/-- writes that came in -/
structure ArgW (w : World) (lo : Option Addr) (ws : List (Int × SV)) (l : List JW) : Prop where
  rd : RowRd DirtR w lo ws
  len : ws.length = l.length
  each : ∀ (i : Nat) (p : Int × SV) (q : JW), ws[i]? = some p → l[i]? = some q → p.1 = q.1 ∧ p.2.n = q.2.length ∧ RowRd ByteR w p.2.ao q.2
  max : ∀ q ∈ l, q.2.length ≤ 140737488351232
  nums : ∀ q ∈ l, i64B q.1
  bytes : l.length * 32 ≤ 140737488351232
theorem ArgW.jwrs {w0 w : World} {A : Thing} {F : Nat → Prop} {lo : Option Addr} {ws : List (Int × SV)} {l : List JW} (h : ArgW w0 lo ws l) (m : Mine w0 A w F) : JWrs w F lo ws l :=
  ⟨Bes.arg h.rd m, h.len, fun i p q a b => ⟨(h.each i p q a b).1, (h.each i p q a b).2.1, Bes.arg (h.each i p q a b).2.2 m⟩⟩

/-- an act of the journal laws -/
structure JAct where
  op : Int
  n : Int
  m : Int
  lo : Option Addr
  lc : Nat
  l : List JW
  ko : Option Addr
  kc : Nat
  keep : List Int
  bo : Option Addr
  bc : Nat
  b : Bs
instance : Inhabited JAct := ⟨⟨0, 0, 0, none, 0, [], none, 0, [], none, 0, []⟩⟩
def JAct.cells (a : JAct) : List Value := [.int .i64 a.op, .int .i64 a.n, .int .i64 a.m, .slice a.lo a.l.length a.lc, .slice a.ko a.keep.length a.kc, .slice a.bo a.b.length a.bc]
def JActR : Rec JAct := ⟨6, JAct.cells, fun _ => rfl, fun u v hv => by simp [JAct.cells] at hv; rcases hv with rfl | rfl | rfl | rfl | rfl | rfl <;> rfl⟩
structure JAct.Ok (w : World) (a : JAct) : Prop where
  op : i64B a.op
  n : i64B a.n
  m : i64B a.m
  ws : ∃ ws, ArgW w a.lo ws a.l
  keep : RowRd IntR w a.ko a.keep
  row : RowRd ByteR w a.bo a.b
  kl : a.keep.length * 8 ≤ 140737488351232
  bl : a.b.length ≤ 140737488351232
/-- a cut of the journal laws -/
structure JCut where
  acts : Int
  part : Int
  ko : Option Addr
  kc : Nat
  keep : List Int
instance : Inhabited JCut := ⟨⟨0, 0, none, 0, []⟩⟩
def JCut.cells (a : JCut) : List Value := [.int .i64 a.acts, .int .i64 a.part, .slice a.ko a.keep.length a.kc]
def JCutR : Rec JCut := ⟨3, JCut.cells, fun _ => rfl, fun u v hv => by simp [JCut.cells] at hv; rcases hv with rfl | rfl | rfl <;> rfl⟩
structure JCut.Ok (w : World) (a : JCut) : Prop where
  acts : i64B a.acts
  part : i64B a.part
  keep : RowRd IntR w a.ko a.keep
  kl : a.keep.length * 8 ≤ 140737488351232

theorem jact_cells {w : World} {ao : Option Addr} {xs : List JAct} (h : RowRd JActR w ao xs) {i : Nat} (hi : i < xs.length) :
    ∃ b off, ao = some ⟨b, off, none⟩ ∧ b < w.heap.size ∧ w.cell? ⟨b, off + i * 6, none⟩ = some (.int .i64 xs[i].op) ∧ w.cell? ⟨b, off + i * 6 + 1, none⟩ = some (.int .i64 xs[i].n) ∧ w.cell? ⟨b, off + i * 6 + 2, none⟩ = some (.int .i64 xs[i].m) ∧
      w.cell? ⟨b, off + i * 6 + 3, none⟩ = some (.slice xs[i].lo xs[i].l.length xs[i].lc) ∧ w.cell? ⟨b, off + i * 6 + 4, none⟩ = some (.slice xs[i].ko xs[i].keep.length xs[i].kc) ∧ w.cell? ⟨b, off + i * 6 + 5, none⟩ = some (.slice xs[i].bo xs[i].b.length xs[i].bc) := by
  obtain ⟨b, off, e, hb, h3⟩ := h.at' i hi
  exact ⟨b, off, e, hb, h3 0 _ rfl, h3 1 _ rfl, h3 2 _ rfl, h3 3 _ rfl, h3 4 _ rfl, h3 5 _ rfl⟩
theorem jcut_cells {w : World} {ao : Option Addr} {xs : List JCut} (h : RowRd JCutR w ao xs) {i : Nat} (hi : i < xs.length) :
    ∃ b off, ao = some ⟨b, off, none⟩ ∧ b < w.heap.size ∧ w.cell? ⟨b, off + i * 3, none⟩ = some (.int .i64 xs[i].acts) ∧ w.cell? ⟨b, off + i * 3 + 1, none⟩ = some (.int .i64 xs[i].part) ∧ w.cell? ⟨b, off + i * 3 + 2, none⟩ = some (.slice xs[i].ko xs[i].keep.length xs[i].kc) := by
  obtain ⟨b, off, e, hb, h3⟩ := h.at' i hi
  exact ⟨b, off, e, hb, h3 0 _ rfl, h3 1 _ rfl, h3 2 _ rfl⟩

theorem size_write : Try.prog.bytesOf 69 = 32 := by kernel_rfl
/-- the rows behind rows of slices -/
theorem rows_behind {w : World} : ∀ (xs : List (Int × SV)), (∀ p ∈ xs, i64B p.1 ∧ ∃ b : Bs, p.2.n = b.length ∧ RowRd ByteR w p.2.ao b ∧ b.length ≤ 140737488351232) →
    ∃ l : List JW, xs.length = l.length ∧ (∀ (i : Nat) (p : Int × SV) (q : JW), xs[i]? = some p → l[i]? = some q → p.1 = q.1 ∧ p.2.n = q.2.length ∧ RowRd ByteR w p.2.ao q.2) ∧ (∀ q ∈ l, q.2.length ≤ 140737488351232) ∧ ∀ q ∈ l, i64B q.1
  | [], _ => ⟨[], rfl, fun i p q h => by simp at h, fun q h => by simp at h, fun q h => by simp at h⟩
  | p :: xs, h => by
    obtain ⟨l, h1, h2, h3, h4⟩ := rows_behind xs (fun q hq => h q (List.mem_cons_of_mem _ hq))
    obtain ⟨hn, b, e1, e2, e3⟩ := h p List.mem_cons_self
    refine ⟨(p.1, b) :: l, by simp [h1], fun i p' q' a c => ?_, fun q hq => ?_, fun q hq => ?_⟩
    · cases i with
      | zero => simp at a c; subst a c; exact ⟨rfl, e1, e2⟩
      | succ i => exact h2 i p' q' (by simpa using a) (by simpa using c)
    · rcases List.mem_cons.1 hq with rfl | hq
      · exact e3
      · exact h3 q hq
    · rcases List.mem_cons.1 hq with rfl | hq
      · exact hn
      · exact h4 q hq
section
variable {H : Type} {enc : TypeId × Value → H} {w : World} {base : Nat} {spare : Nat → Bool} {held : Bool}
theorem mk_write {n : Nat} {cs : List Value} {y : DataW H × List MemPlace} (hl : cs.length = 2) (h : DataW.trod enc Try.prog w base spare held n 69 cs = some y) (hz : Sz Try.prog 69 y.1) :
    ∃ p : Int × SV, DirtR.cells p = cs ∧ (i64B p.1 ∧ ∃ b : Bs, p.2.n = b.length ∧ RowRd ByteR w p.2.ao b ∧ b.length ≤ 140737488351232) := by
  obtain ⟨m, hf⟩ := field_ofZ Try.underlying69 h hz
  obtain ⟨y0, t0, _⟩ := hf 0 0 3 1 rfl (by kernel_rfl)
  obtain ⟨y1, t1, z1⟩ := hf 1 1 23 1 rfl (by kernel_rfl)
  obtain ⟨n0, e0, _, h0⟩ := DataW.trod_int Try.underlying3 t0
  obtain ⟨bo, bc, b, e1, hb, lb⟩ := rows_bytesZ t1 z1
  rcases cs with _ | ⟨c0, _ | ⟨c1, _ | ⟨c2, cs⟩⟩⟩ <;> simp at hl
  simp at e0 e1
  exact ⟨(n0, ⟨bo, b.length, bc⟩), by rw [e0, e1]; rfl, i64_wf h0, b, rfl, hb, lb⟩
theorem rows_writesZ {n : Nat} {cs : List Value} {x : DataW H × List MemPlace} (h : DataW.trod enc Try.prog w base spare held n 58 cs = some x) (hz : Sz Try.prog 58 x.1) : ∃ lo lc, ∃ l : List JW, cs = [.slice lo l.length lc] ∧ ∃ ws, ArgW w lo ws l := by
  obtain ⟨ao, cap, xs, hcs, hr, hok, hl⟩ := open_rowsZ DirtR (fun p => i64B p.1 ∧ ∃ b : Bs, p.2.n = b.length ∧ RowRd ByteR w p.2.ao b ∧ b.length ≤ 140737488351232) Try.underlying58 (by kernel_rfl) (by show 0 < 2; omega) (fun n cs y hl ht hz => mk_write hl ht hz) h hz
  rw [size_write] at hl
  have e : reachBytes = 140737488351232 := rfl
  obtain ⟨l, h1, h2, h3, h4⟩ := rows_behind xs hok
  exact ⟨ao, cap, l, by rw [hcs, h1], xs, hr, h1, h2, h3, h4, by omega⟩
theorem mk_jact {n : Nat} {cs : List Value} {y : DataW H × List MemPlace} (hl : cs.length = 6) (h : DataW.trod enc Try.prog w base spare held n 64 cs = some y) (hz : Sz Try.prog 64 y.1) : ∃ a : JAct, JActR.cells a = cs ∧ a.Ok w := by
  obtain ⟨m, hf⟩ := field_ofZ Try.underlying64 h hz
  obtain ⟨y0, t0, _⟩ := hf 0 0 3 1 rfl (by kernel_rfl)
  obtain ⟨y1, t1, _⟩ := hf 1 1 3 1 rfl (by kernel_rfl)
  obtain ⟨y2, t2, _⟩ := hf 2 2 3 1 rfl (by kernel_rfl)
  obtain ⟨y3, t3, z3⟩ := hf 3 3 58 1 rfl (by kernel_rfl)
  obtain ⟨y4, t4, z4⟩ := hf 4 4 29 1 rfl (by kernel_rfl)
  obtain ⟨y5, t5, z5⟩ := hf 5 5 23 1 rfl (by kernel_rfl)
  obtain ⟨n0, e0, _, h0⟩ := DataW.trod_int Try.underlying3 t0
  obtain ⟨n1, e1, _, h1⟩ := DataW.trod_int Try.underlying3 t1
  obtain ⟨n2, e2, _, h2⟩ := DataW.trod_int Try.underlying3 t2
  obtain ⟨lo, lc, l, e3, hw⟩ := rows_writesZ t3 z3
  obtain ⟨ko, kc, keep, e4, hk, lk⟩ := rows_intsZ t4 z4
  obtain ⟨bo, bc, b, e5, hb, lb⟩ := rows_bytesZ t5 z5
  rcases cs with _ | ⟨c0, _ | ⟨c1, _ | ⟨c2, _ | ⟨c3, _ | ⟨c4, _ | ⟨c5, _ | ⟨c6, cs⟩⟩⟩⟩⟩⟩⟩ <;> simp at hl
  simp at e0 e1 e2 e3 e4 e5
  exact ⟨⟨n0, n1, n2, lo, lc, l, ko, kc, keep, bo, bc, b⟩, by rw [e0, e1, e2, e3, e4, e5]; rfl, ⟨i64_wf h0, i64_wf h1, i64_wf h2, hw, hk, hb, lk, lb⟩⟩
theorem mk_jcut {n : Nat} {cs : List Value} {y : DataW H × List MemPlace} (hl : cs.length = 3) (h : DataW.trod enc Try.prog w base spare held n 72 cs = some y) (hz : Sz Try.prog 72 y.1) : ∃ a : JCut, JCutR.cells a = cs ∧ a.Ok w := by
  obtain ⟨m, hf⟩ := field_ofZ Try.underlying72 h hz
  obtain ⟨y0, t0, _⟩ := hf 0 0 3 1 rfl (by kernel_rfl)
  obtain ⟨y1, t1, _⟩ := hf 1 1 3 1 rfl (by kernel_rfl)
  obtain ⟨y2, t2, z2⟩ := hf 2 2 29 1 rfl (by kernel_rfl)
  obtain ⟨n0, e0, _, h0⟩ := DataW.trod_int Try.underlying3 t0
  obtain ⟨n1, e1, _, h1⟩ := DataW.trod_int Try.underlying3 t1
  obtain ⟨ko, kc, keep, e2, hk, lk⟩ := rows_intsZ t2 z2
  rcases cs with _ | ⟨c0, _ | ⟨c1, _ | ⟨c2, _ | ⟨c3, cs⟩⟩⟩⟩ <;> simp at hl
  simp at e0 e1 e2
  exact ⟨⟨n0, n1, ko, kc, keep⟩, by rw [e0, e1, e2]; rfl, ⟨i64_wf h0, i64_wf h1, hk, lk⟩⟩
end
set_option maxRecDepth 100000 in
theorem open_jacts {H : Type} {enc : TypeId × Value → H} {W : World} {base : Nat} {r : Reach} {v : Value} {d : DataW H} {p : List MemPlace} (hv : Value.okWide Try.prog W r base 57 v) (h : DataW.Trod enc Try.prog W 0 (fun _ => true) true 57 v d p) (hz : Sz Try.prog 57 d) :
    ∃ (ao : Option Addr) (cap : Nat) (xs : List JAct), v = .slice ao xs.length cap ∧ RowRd JActR W ao xs ∧ ∀ y ∈ xs, y.Ok W := by
  obtain ⟨a0, len0, cap0, rfl⟩ := okWide_slice Try.underlying57 hv
  obtain ⟨fuel, hf⟩ := h
  obtain ⟨ao, cap, xs, e, hr, hok, _⟩ := open_rowsZ JActR (fun a => a.Ok W) Try.underlying57 (by kernel_rfl) (by show 0 < 6; omega) (fun n cs y hl ht hz => mk_jact hl ht hz) hf hz
  simp [Value.cells] at e
  obtain ⟨rfl, rfl, rfl⟩ := e
  exact ⟨_, _, xs, rfl, hr, hok⟩
set_option maxRecDepth 100000 in
theorem open_jcuts {H : Type} {enc : TypeId × Value → H} {W : World} {base : Nat} {r : Reach} {v : Value} {d : DataW H} {p : List MemPlace} (hv : Value.okWide Try.prog W r base 59 v) (h : DataW.Trod enc Try.prog W 0 (fun _ => true) true 59 v d p) (hz : Sz Try.prog 59 d) :
    ∃ (ao : Option Addr) (cap : Nat) (xs : List JCut), v = .slice ao xs.length cap ∧ RowRd JCutR W ao xs ∧ ∀ y ∈ xs, y.Ok W := by
  obtain ⟨a0, len0, cap0, rfl⟩ := okWide_slice Try.underlying59 hv
  obtain ⟨fuel, hf⟩ := h
  obtain ⟨ao, cap, xs, e, hr, hok, _⟩ := open_rowsZ JCutR (fun a => a.Ok W) Try.underlying59 (by kernel_rfl) (by show 0 < 3; omega) (fun n cs y hl ht hz => mk_jcut hl ht hz) hf hz
  simp [Value.cells] at e
  obtain ⟨rfl, rfl, rfl⟩ := e
  exact ⟨_, _, xs, rfl, hr, hok⟩
set_option maxRecDepth 100000 in
theorem open_jwrites {H : Type} {enc : TypeId × Value → H} {W : World} {base : Nat} {r : Reach} {v : Value} {d : DataW H} {p : List MemPlace} (hv : Value.okWide Try.prog W r base 58 v) (h : DataW.Trod enc Try.prog W 0 (fun _ => true) true 58 v d p) (hz : Sz Try.prog 58 d) :
    ∃ (lo : Option Addr) (lc : Nat) (l : List JW), v = .slice lo l.length lc ∧ ∃ ws, ArgW W lo ws l := by
  obtain ⟨a0, len0, cap0, rfl⟩ := okWide_slice Try.underlying58 hv
  obtain ⟨fuel, hf⟩ := h
  obtain ⟨lo, lc, l, e, hw⟩ := rows_writesZ hf hz
  simp [Value.cells] at e
  obtain ⟨rfl, rfl, rfl⟩ := e
  exact ⟨_, _, l, rfl, hw⟩
end Go.Proofs.Ytmcckppmciflmaa
