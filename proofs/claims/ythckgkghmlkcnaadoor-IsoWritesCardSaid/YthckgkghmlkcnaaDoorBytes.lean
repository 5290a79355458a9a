/-
  BYTES: rows of bytes, read or owned; string(b); slices of them as values.
-/
import Derived.Laws.BytesArg
import Derived.Laws.IdiomStrings
import Derived.Test.YthckgkghmlkcnaaDoorApp
namespace Go.Proofs.YthckgkghmlkcnaaDoor
open Go.RowKit

abbrev byteV (c : UInt8) : Value := .int .u8 (c.toNat : Int)
def ByteR : Rec UInt8 := ⟨1, fun c => [.int .u8 (c.toNat : Int)], fun _ => rfl, fun c u hu => by simp at hu; subst hu; rfl⟩
theorem byteK : ByteR.k = 1 := rfl
theorem infoB : (Tryd.prog.info? 5).map (fun i => (i.zero, i.size, i.bytes)) = some (some (.int .u8 0), 1, 1) := by kernel_rfl
theorem el_bytes : Elem Tryd.prog 22 5 ByteR.k 1 := Elem.mk' Tryd.underlying22 infoB (by decide) rfl
theorem flat_bytes (bs : List UInt8) : ByteR.flat bs = bs.map byteV := by
  induction bs with
  | nil => rfl
  | cons b bs ih => show ByteR.cells b ++ ByteR.flat bs = _; rw [ih]; rfl
def strB (l : List UInt8) : ByteArray := ⟨l.toArray⟩
theorem strB_inj {a b : List UInt8} (h : strB a = strB b) : a = b := by
  unfold strB at h
  injection h with h
  simpa using h
theorem strB_list (l : List UInt8) : (strB l).toList = l := by rw [ByteArray.toList_eq]; rfl
theorem strB_size (l : List UInt8) : (strB l).size = l.length := by show l.toArray.size = _; simp

/-- one byte of a row -/
theorem byte_rd {w : World} {b off : Nat} {bs : List UInt8} (h : RowRd ByteR w (some ⟨b, off, none⟩) bs) {i : Nat} (hi : i < bs.length) : w.cell? ⟨b, off + i, none⟩ = some (byteV bs[i]) := by
  obtain ⟨b', off', e, _, h3⟩ := h.at' i hi
  cases e
  have := h3 0 (byteV bs[i]) rfl
  simpa [byteK] using this
theorem byte_addr {w : World} {ao : Option Addr} {bs : List UInt8} (h : RowRd ByteR w ao bs) {i : Nat} (hi : i < bs.length) : ∃ b off, ao = some ⟨b, off, none⟩ ∧ b < w.heap.size := by
  obtain ⟨b, off, e, h2, _⟩ := h.at' i hi
  exact ⟨b, off, e, h2⟩
theorem byte_at {w : World} {g n cap : Nat} {bs : List UInt8} (h : RowAt 5 ByteR w (.slice (some ⟨g, 0, none⟩) n cap) bs) {i : Nat} (hi : i < bs.length) : w.cell? ⟨g, i, none⟩ = some (byteV bs[i]) ∧ w.frozen? ⟨g, i, none⟩ = false := by
  obtain ⟨g', e, _, _, _, h3, h4⟩ := h.elem hi
  cases e
  have := h3 0 (byteV bs[i]) rfl
  exact ⟨by simpa [byteK] using this, h4 _⟩
/-- an owned row is read -/
theorem RowAt.rd {α : Type} {E : TypeId} {R : Rec α} {w : World} {ao : Option Addr} {n cap : Nat} {xs : List α} (h : RowAt E R w (.slice ao n cap) xs) : RowRd R w ao xs := by
  refine RowRd.of_at h ?_
  obtain ⟨ao', cap', e, h1, h2, _⟩ := h.shape
  omega
theorem RowAt.len {α : Type} {E : TypeId} {R : Rec α} {w : World} {ao : Option Addr} {n cap : Nat} {xs : List α} (h : RowAt E R w (.slice ao n cap) xs) : n = xs.length := by
  obtain ⟨ao', cap', e, _⟩ := h.shape
  simp only [Value.slice.injEq] at e
  exact e.2.1
/-- 'string(b)' -/
theorem conv_rd {w : World} {ao : Option Addr} {bs : List UInt8} (h : RowRd ByteR w ao bs) (cap : Nat) : (convert 22 9 (.slice ao bs.length cap)).run Tryd.prog w = .ok (.string (strB bs)) w := by
  cases ao with
  | none =>
    have hn : bs = [] := by
      cases bs with
      | nil => rfl
      | cons y ys => obtain ⟨b, off, e, _⟩ := h.at' 0 (by simp); cases e
    subst hn
    exact run_convert_bytes_nil w 22 5 Tryd.underlying22 Tryd.underlying5 0 cap 9 Tryd.underlying9
  | some a =>
    exact run_convert_bytes_back w 22 9 5 a cap bs Tryd.underlying22 Tryd.underlying5 Tryd.underlying9 (fun j hj => by
      obtain ⟨b, off, e, _⟩ := byte_addr h hj
      cases e
      rw [Addr.add_lit]
      exact byte_rd h hj)

/-- a slice, as a value -/
structure SV where
  ao : Option Addr
  n : Nat
  cap : Nat
def SV.val (s : SV) : Value := .slice s.ao s.n s.cap
instance : Inhabited SV := ⟨⟨none, 0, 0⟩⟩
def SliceR : Rec SV := ⟨1, fun s => [s.val], fun _ => rfl, fun s u hu => by simp at hu; subst hu; rfl⟩
theorem SV.own {s : SV} {k : Nat} (h : s.val.ownBlock = some k) : ∃ a, s.ao = some a ∧ a.block = k := by
  obtain ⟨ao, n, cap⟩ := s
  cases ao with
  | none => cases h
  | some a => exact ⟨a, rfl, by simpa [SV.val, Value.ownBlock] using h⟩
/-- of what type the block of an owned row is -/
theorem RowAt.kind {α : Type} {E : TypeId} {R : Rec α} {w : World} {v : Value} {xs : List α} (h : RowAt E R w v xs) {k : Nat} (hk : v.ownBlock = some k) : ∃ cur, w.heap[k]? = some (.cells cur E (0, 0)) := by
  rcases h.2 with ⟨rfl, _⟩ | ⟨g, cap, cur, rfl, _, hg, _⟩
  · cases hk
  · simp only [Value.ownBlock, Option.some.injEq] at hk
    subst hk
    exact ⟨cur, hg⟩
/-- a row that is not empty has a block -/
theorem RowAt.block' {α : Type} {E : TypeId} {R : Rec α} {w : World} {v : Value} {xs : List α} (h : RowAt E R w v xs) (h0 : 0 < xs.length) : ∃ g cap, v = .slice (some ⟨g, 0, none⟩) xs.length cap ∧ xs.length ≤ cap ∧ v.ownBlock = some g := by
  rcases h.2 with ⟨_, h2⟩ | ⟨g, cap, cur, rfl, _, hg, hc, _⟩
  · omega
  · exact ⟨g, cap, rfl, hc, rfl⟩
/-- bytes in a new row -/
def CloneP (bs : Bs) (w : World) (e : Ending) (w' : World) : Prop := ∃ s : SV, e = .returned s.val ∧ s.n = bs.length ∧ RowAt 5 ByteR w' s.val bs ∧ Fr noBlock w w' ∧ ∀ k, s.val.ownBlock = some k → w.heap.size ≤ k
/-- bytes in a new row, and an error -/
def ReadP (bs : Bs) (x : Int) (w : World) (e : Ending) (w' : World) : Prop := ∃ s : SV, e = .returned (.tuple #[s.val, .int .i64 x]) ∧ s.n = bs.length ∧ RowAt 5 ByteR w' s.val bs ∧ Fr noBlock w w' ∧ ∀ k, s.val.ownBlock = some k → w.heap.size ≤ k
end Go.Proofs.YthckgkghmlkcnaaDoor
