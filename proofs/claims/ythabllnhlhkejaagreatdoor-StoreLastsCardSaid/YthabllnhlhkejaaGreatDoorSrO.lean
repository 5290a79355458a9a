/-
  THE DISK LAWS' ARGUMENTS OPENED: acts with bytes and kept lengths; bytes; ints.
-/
import Derived.Deep.Slices
import Derived.Deep.Fields
import Derived.ChangeSame
import Derived.ProofKit
import Derived.OpenShut
import Derived.ShutString
import Derived.ChangeOld
import Derived.SizedLaws
import Derived.Test.YthabllnhlhkejaaGreatDoorInts
namespace Go.Proofs.YthabllnhlhkejaaGreatDoor
open Go.RowKit
open Go.ChangeShapes Go.WideShapes Go.Deep

theorem cell_spot {w : World} {a : Addr} {v : Value} (h : w.cell? a = some v) : a.spot = none := by
  unfold World.cell? at h
  split at h
  · split at h
    · cases h
    · rename_i hs; simpa using hs
  · cases h

section
variable {H : Type} {enc : TypeId × Value → H} {P : Program} {w : World} {base : Nat} {spare : Nat → Bool} {held : Bool}
/-- one field of an element's cells -/
theorem field_of {e : TypeId} {fs : Array Field} {fuel : Nat} {cs : List Value} {x : DataW H × List MemPlace} (he : P.underlying e = some (.struct fs)) (h : DataW.trod enc P w base spare held fuel e cs = some x) :
    ∃ n, ∀ (i o : Nat) (t : TypeId) (sz : Nat), (fs[i]?).map (fun f => (f.offset, f.type)) = some (o, t) → P.cellsOf t = sz → ∃ y, DataW.trod enc P w base spare held n t ((cs.drop o).take sz) = some y := by
  obtain ⟨ys, n, _, _, _, hl, hf⟩ := DataW.trod_struct he h
  refine ⟨n, fun i o t sz hi hs => ?_⟩
  rw [Option.map_eq_some_iff] at hi
  obtain ⟨f, hi, he⟩ := hi
  simp only [Prod.mk.injEq] at he
  obtain ⟨rfl, rfl⟩ := he
  subst hs
  have hlt : i < fs.size := (Array.getElem?_eq_some_iff.1 hi).1
  exact ⟨_, (hf i f hi).trans (List.getElem?_eq_getElem (by omega))⟩

theorem open_rows {α : Type} [Inhabited α] (R : Rec α) (ok : α → Prop) {t e : TypeId} {fuel : Nat} {cs : List Value} {x : DataW H × List MemPlace} (ht : P.underlying t = some (.slice e)) (hC : P.cellsOf e = R.k) (hk : 0 < R.k)
    (mk : ∀ (n : Nat) (cs : List Value) (y : DataW H × List MemPlace), cs.length = R.k → DataW.trod enc P w base spare held n e cs = some y → ∃ a : α, R.cells a = cs ∧ ok a)
    (h : DataW.trod enc P w base spare held fuel t cs = some x) :
    (cs = [.slice none 0 0] ∧ x = (.nil, [])) ∨
    ∃ (a : Addr) (cap : Nat) (xs : List α), cs = [.slice (some a) xs.length cap] ∧ xs.length ≤ cap ∧ cap ≤ maxLen ∧ RowRd R w (some a) xs ∧ (∀ y ∈ xs, ok y) ∧ ∃ elems spare, x.1 = .slice elems spare ∧ elems.length = xs.length := by
  rcases open_slice ht h with h0 | ⟨a, len, cap, m, n, D, Pl, hcs, hb, hl, hm, hmm, hx, hi⟩
  · exact .inl h0
  · right
    have hlm : len ≤ m := by rw [hmm]; split <;> omega
    have each : ∀ i, i < len → ∃ y : α, ok y ∧ ∀ j u, (R.cells y)[j]? = some u → w.cell? (a.add (i * R.k + j)) = some u := by
      intro i hil
      obtain ⟨cs', hc, ht'⟩ := hi i (by omega)
      rw [hC] at hc
      obtain ⟨_, hcl, hat⟩ := World.cells?_some hc
      obtain ⟨y, hy, hok⟩ := mk n cs' _ hcl ht'
      refine ⟨y, hok, fun j u hu => ?_⟩
      rw [hy] at hu
      have hj : j < R.k := by rw [← hcl]; exact (List.getElem?_eq_some_iff.1 hu).1
      rw [← Go.Deep.add_add, hat j hj, hu]
    obtain ⟨f, hf'⟩ := choose_lt' each
    refine ⟨a, cap, (List.range len).map f, by simp [hcs], by simpa using hl, hm, ⟨by simp; omega, fun i hi' => ?_⟩, ?_, ?_⟩
    · have hil : i < len := by simpa using hi'
      obtain ⟨_, hc⟩ := hf' i hil
      obtain ⟨_, hc0⟩ := hf' 0 (by omega)
      obtain ⟨u, hu⟩ : ∃ u, (R.cells (f 0))[0]? = some u := ⟨_, List.getElem?_eq_getElem (by rw [R.len]; exact hk)⟩
      have h0 := hc0 0 u hu
      have hsp : a.spot = none := by
        have := cell_spot h0
        simpa [Addr.add] using this
      obtain ⟨b, off, sp⟩ := a
      simp only at hsp
      subst hsp
      refine ⟨b, off, rfl, World.block_lt_of_cell? w _ h0 |> fun hh => by simpa [Addr.add] using hh, fun j u hu => ?_⟩
      have := hc j u (by simpa using hu)
      rwa [Addr.add_lit, ← Nat.add_assoc] at this
    · intro y hy
      simp only [List.mem_map, List.mem_range] at hy
      obtain ⟨i, hi, rfl⟩ := hy
      exact (hf' i hi).1
    · exact ⟨_, _, (congrArg Prod.fst hx), by simp⟩
end
end Go.Proofs.YthabllnhlhkejaaGreatDoor
namespace Go.Proofs.YthabllnhlhkejaaGreatDoor
open Go.RowKit
open Go.ChangeShapes Go.WideShapes Go.Deep

structure DAct where
  op : Int
  n : Int
  m : Int
  bo : Option Addr
  bc : Nat
  b : List UInt8
  ko : Option Addr
  kc : Nat
  keep : List Int
instance : Inhabited DAct := ⟨⟨0, 0, 0, none, 0, [], none, 0, []⟩⟩
def DAct.cells (a : DAct) : List Value := [.int .i64 a.op, .int .i64 a.n, .int .i64 a.m, .slice a.bo a.b.length a.bc, .slice a.ko a.keep.length a.kc]
def DActR : Rec DAct := ⟨5, DAct.cells, fun _ => rfl, fun u v hv => by simp [DAct.cells] at hv; rcases hv with rfl | rfl | rfl | rfl | rfl <;> rfl⟩
/-- an int64 -/
def i64B (n : Int) : Prop := -9223372036854775808 ≤ n ∧ n ≤ 9223372036854775807
structure DAct.Ok (w : World) (a : DAct) : Prop where
  op : i64B a.op
  n : i64B a.n
  m : i64B a.m
  b : RowRd ByteR w a.bo a.b
  keep : RowRd IntR w a.ko a.keep
theorem i64_wf {n : Int} (h : (Lit.int .i64 n).wf = true) : i64B n := by
  simp [Lit.wf, IntKind.min, IntKind.max, IntKind.signed, IntKind.bits] at h
  unfold i64B; omega
theorem mk_byte {H : Type} {enc : TypeId × Value → H} {w : World} {base : Nat} {spare : Nat → Bool} {held : Bool} {n : Nat} {cs : List Value} {y : DataW H × List MemPlace} (_ : cs.length = 1) (h : DataW.trod enc Tryz.prog w base spare held n 5 cs = some y) : ∃ c : UInt8, ByteR.cells c = cs ∧ True := by
  obtain ⟨n0, e0, _, hw⟩ := DataW.trod_int Tryz.underlying5 h
  have h0 : 0 ≤ n0 ∧ n0 ≤ 255 := by simp [Lit.wf, IntKind.min, IntKind.max, IntKind.signed, IntKind.bits] at hw; omega
  refine ⟨UInt8.ofNat n0.toNat, ?_, trivial⟩
  show [Value.int .u8 _] = _
  rw [e0, UInt8.toNat_ofNat']
  congr 2
  omega
theorem mk_int {H : Type} {enc : TypeId × Value → H} {w : World} {base : Nat} {spare : Nat → Bool} {held : Bool} {n : Nat} {cs : List Value} {y : DataW H × List MemPlace} (_ : cs.length = 1) (h : DataW.trod enc Tryz.prog w base spare held n 3 cs = some y) : ∃ c : Int, IntR.cells c = cs ∧ i64B c := by
  obtain ⟨n0, e0, _, hw⟩ := DataW.trod_int Tryz.underlying3 h
  exact ⟨n0, e0.symm, i64_wf hw⟩
theorem rows_bytes {H : Type} {enc : TypeId × Value → H} {w : World} {base : Nat} {spare : Nat → Bool} {held : Bool} {n : Nat} {cs : List Value} {x : DataW H × List MemPlace} (h : DataW.trod enc Tryz.prog w base spare held n 28 cs = some x) : ∃ ao cap, ∃ b : List UInt8, cs = [.slice ao b.length cap] ∧ RowRd ByteR w ao b := by
  rcases open_rows ByteR (fun _ => True) Tryz.underlying28 (by kernel_rfl) (by show 0 < 1; omega) (fun n cs y hl ht => mk_byte hl ht) h with ⟨hcs, _⟩ | ⟨a, cap, xs, hcs, _, _, hr, _, _⟩
  · exact ⟨none, 0, [], hcs, RowRd.nil⟩
  · exact ⟨some a, cap, xs, hcs, hr⟩
theorem rows_ints {H : Type} {enc : TypeId × Value → H} {w : World} {base : Nat} {spare : Nat → Bool} {held : Bool} {n : Nat} {cs : List Value} {x : DataW H × List MemPlace} (h : DataW.trod enc Tryz.prog w base spare held n 29 cs = some x) : ∃ ao cap, ∃ b : List Int, cs = [.slice ao b.length cap] ∧ RowRd IntR w ao b ∧ ∀ x ∈ b, i64B x := by
  rcases open_rows IntR i64B Tryz.underlying29 (by kernel_rfl) (by show 0 < 1; omega) (fun n cs y hl ht => mk_int hl ht) h with ⟨hcs, _⟩ | ⟨a, cap, xs, hcs, _, _, hr, hok, _⟩
  · exact ⟨none, 0, [], hcs, RowRd.nil, by simp⟩
  · exact ⟨some a, cap, xs, hcs, hr, hok⟩
theorem mk_dact {H : Type} {enc : TypeId × Value → H} {w : World} {base : Nat} {spare : Nat → Bool} {held : Bool} {n : Nat} {cs : List Value} {y : DataW H × List MemPlace} (hl : cs.length = 5) (h : DataW.trod enc Tryz.prog w base spare held n 31 cs = some y) : ∃ a : DAct, DActR.cells a = cs ∧ a.Ok w := by
  obtain ⟨m, hf⟩ := field_of Tryz.underlying31 h
  obtain ⟨y0, t0⟩ := hf 0 0 3 1 rfl (by kernel_rfl)
  obtain ⟨y1, t1⟩ := hf 1 1 3 1 rfl (by kernel_rfl)
  obtain ⟨y2, t2⟩ := hf 2 2 3 1 rfl (by kernel_rfl)
  obtain ⟨y3, t3⟩ := hf 3 3 28 1 rfl (by kernel_rfl)
  obtain ⟨y4, t4⟩ := hf 4 4 29 1 rfl (by kernel_rfl)
  obtain ⟨n0, e0, _, h0⟩ := DataW.trod_int Tryz.underlying3 t0
  obtain ⟨n1, e1, _, h1⟩ := DataW.trod_int Tryz.underlying3 t1
  obtain ⟨n2, e2, _, h2⟩ := DataW.trod_int Tryz.underlying3 t2
  obtain ⟨bo, bc, b, e3, hb⟩ := rows_bytes t3
  obtain ⟨ko, kc, keep, e4, hk, _⟩ := rows_ints t4
  rcases cs with _ | ⟨c0, _ | ⟨c1, _ | ⟨c2, _ | ⟨c3, _ | ⟨c4, _ | ⟨c5, cs⟩⟩⟩⟩⟩⟩ <;> simp at hl
  simp at e0 e1 e2 e3 e4
  exact ⟨⟨n0, n1, n2, bo, bc, b, ko, kc, keep⟩, by rw [e0, e1, e2, e3, e4]; rfl, ⟨i64_wf h0, i64_wf h1, i64_wf h2, hb, hk⟩⟩

set_option maxRecDepth 100000 in
/-- A ROW OF ACTS THAT CAME IN. -/
theorem open_dacts {H : Type} {enc : TypeId × Value → H} {W : World} {base : Nat} {r : Reach} {v : Value} {d : DataW H} {p : List MemPlace} (hv : Value.okWide Tryz.prog W r base 22 v) (h : DataW.Trod enc Tryz.prog W 0 (fun _ => true) true 22 v d p) :
    ∃ (ao : Option Addr) (cap : Nat) (xs : List DAct), v = .slice ao xs.length cap ∧ RowRd DActR W ao xs ∧ ∀ y ∈ xs, y.Ok W := by
  obtain ⟨a0, len0, cap0, rfl⟩ := okWide_slice Tryz.underlying22 hv
  obtain ⟨fuel, hf⟩ := h
  rcases open_rows DActR (fun a => a.Ok W) Tryz.underlying22 (by kernel_rfl) (by show 0 < 5; omega) (fun n cs y hl ht => mk_dact hl ht) hf with ⟨hcs, _⟩ | ⟨a, cap, xs, hcs, _, _, hr, hok, _⟩
  · simp [Value.cells] at hcs
    obtain ⟨rfl, rfl, rfl⟩ := hcs
    exact ⟨none, 0, [], rfl, RowRd.nil, by simp⟩
  · simp [Value.cells] at hcs
    obtain ⟨rfl, rfl, rfl⟩ := hcs
    exact ⟨some a, cap0, xs, rfl, hr, hok⟩
set_option maxRecDepth 100000 in
/-- BYTES THAT CAME IN. -/
theorem open_bytes {H : Type} {enc : TypeId × Value → H} {W : World} {base : Nat} {r : Reach} {v : Value} {d : DataW H} {p : List MemPlace} (hv : Value.okWide Tryz.prog W r base 28 v) (h : DataW.Trod enc Tryz.prog W 0 (fun _ => true) true 28 v d p) :
    ∃ (ao : Option Addr) (cap : Nat) (xs : List UInt8), v = .slice ao xs.length cap ∧ RowRd ByteR W ao xs := by
  obtain ⟨a0, len0, cap0, rfl⟩ := okWide_slice Tryz.underlying28 hv
  obtain ⟨fuel, hf⟩ := h
  obtain ⟨ao, cap, b, e, hr⟩ := rows_bytes hf
  simp [Value.cells] at e
  obtain ⟨rfl, rfl, rfl⟩ := e
  exact ⟨_, _, b, rfl, hr⟩
set_option maxRecDepth 100000 in
theorem open_ints {H : Type} {enc : TypeId × Value → H} {W : World} {base : Nat} {r : Reach} {v : Value} {d : DataW H} {p : List MemPlace} (hv : Value.okWide Tryz.prog W r base 29 v) (h : DataW.Trod enc Tryz.prog W 0 (fun _ => true) true 29 v d p) :
    ∃ (ao : Option Addr) (cap : Nat) (xs : List Int), v = .slice ao xs.length cap ∧ RowRd IntR W ao xs ∧ ∀ x ∈ xs, i64B x := by
  obtain ⟨a0, len0, cap0, rfl⟩ := okWide_slice Tryz.underlying29 hv
  obtain ⟨fuel, hf⟩ := h
  obtain ⟨ao, cap, b, e, hr, hx⟩ := rows_ints hf
  simp [Value.cells] at e
  obtain ⟨rfl, rfl, rfl⟩ := e
  exact ⟨_, _, b, rfl, hr, hx⟩
theorem dact_cells {w : World} {ao : Option Addr} {xs : List DAct} (h : RowRd DActR w ao xs) {i : Nat} (hi : i < xs.length) :
    ∃ b off, ao = some ⟨b, off, none⟩ ∧ b < w.heap.size ∧ w.cell? ⟨b, off + i * 5, none⟩ = some (.int .i64 xs[i].op) ∧ w.cell? ⟨b, off + i * 5 + 1, none⟩ = some (.int .i64 xs[i].n) ∧ w.cell? ⟨b, off + i * 5 + 2, none⟩ = some (.int .i64 xs[i].m) ∧ w.cell? ⟨b, off + i * 5 + 3, none⟩ = some (.slice xs[i].bo xs[i].b.length xs[i].bc) ∧ w.cell? ⟨b, off + i * 5 + 4, none⟩ = some (.slice xs[i].ko xs[i].keep.length xs[i].kc) := by
  obtain ⟨b, off, h1, h2, h3⟩ := h.at' i hi
  exact ⟨b, off, h1, h2, h3 0 _ rfl, h3 1 _ rfl, h3 2 _ rfl, h3 3 _ rfl, h3 4 _ rfl⟩
end Go.Proofs.YthabllnhlhkejaaGreatDoor
