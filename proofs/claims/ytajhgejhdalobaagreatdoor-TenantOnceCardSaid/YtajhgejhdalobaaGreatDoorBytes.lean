/-
  BYTES: rows of bytes, read or owned; string(b); slices of them as values.
-/
import Derived.Maps.AppendAt
import Derived.Deep.AppendLies
import Derived.Deep.RegionLaw
import Derived.Deep.Onto
import Derived.Laws.BytesArg
import Derived.Laws.IdiomStrings
import Derived.Test.YtajhgejhdalobaaGreatDoorThing
namespace Go.Proofs.YtajhgejhdalobaaGreatDoor
open Go.RowKit

structure Elem (P : Program) (t E : TypeId) (k bytes : Nat) : Prop where
  ht : P.underlying t = some (.slice E)
  pos : 0 < k
  info : ∃ i z, P.info? E = some i ∧ i.zero = some z ∧ i.size = k ∧ i.bytes = bytes ∧ z.cells.size = k
theorem Elem.mk' {P : Program} {t E : TypeId} {k bytes : Nat} {z : Value} (ht : P.underlying t = some (.slice E)) (h : (P.info? E).map (fun i => (i.zero, i.size, i.bytes)) = some (some z, k, bytes)) (hk : 0 < k) (hz : z.cells.size = k) : Elem P t E k bytes := by
  obtain ⟨i, h1, h2, h3, h4⟩ := info_parts h
  exact ⟨ht, hk, i, z, h1, h2, h3, h4, hz⟩

theorem shape_own {w : World} {base : Nat} {E : TypeId} {k n : Nat} {v : Value} {cs : List Value} (h : w.ownsRow base E k v n cs) : ∃ ao cap, v = .slice ao n cap := by
  rcases h.2 with ⟨h1, rfl⟩ | ⟨g, cap, cur, h1, _⟩
  · exact ⟨_, _, h1⟩
  · exact ⟨_, _, h1⟩

section
variable {α : Type} {R : Rec α} {P : Program} {t E : TypeId} {bytes : Nat}

theorem run_app (el : Elem P t E R.k bytes) {w : World} {v : Value} {xs ys : List α} {base : Nat} (hv : w.ownsRow base E R.k v xs.length (R.flat xs)) {A : Option Addr} (hy : RowRd R w A ys) (c : Nat) (h63 : xs.length + ys.length ≤ maxLen) (hb : (xs.length + ys.length) * bytes ≤ 140737488355328) (hbase : base ≤ w.heap.size) (ty : TypeId) :
    ∃ ao cap w', (Builtin.append_ #[t, t] ty #[v, .slice A ys.length c]).run P w = .ok (.slice ao (xs.length + ys.length) cap) w' ∧ w'.ownsRow base E R.k (.slice ao (xs.length + ys.length) cap) (xs ++ ys).length (R.flat (xs ++ ys)) ∧ w.grownBy w' v.ownBlock ∧
      ((Value.slice ao (xs.length + ys.length) cap).ownBlock = v.ownBlock ∨ (Value.slice ao (xs.length + ys.length) cap).ownBlock = some w.heap.size) := by
  obtain ⟨i, z, hi, hz, hs, hby, hzs⟩ := el.info
  cases A with
  | none =>
    have hn : ys = [] := by
      cases ys with
      | nil => rfl
      | cons y ys => obtain ⟨b, off, h, _⟩ := hy.at' 0 (by simp); cases h
    subst hn
    obtain ⟨ao, cap, rfl⟩ := shape_own hv
    refine ⟨ao, cap, w, ?_, by simpa using hv, World.grownBy.refl w _, .inl rfl⟩
    rcases hv.2 with ⟨h1, h2⟩ | ⟨g, cap', cur, h1, _, _, hnc, _⟩
    · simp only [Value.slice.injEq] at h1
      obtain ⟨rfl, _, rfl⟩ := h1
      simp [Builtin.append_, run_underlying el.ht, sizeOf, typeInfo, hi, Builtin.lenOf, Builtin.firstCells, h2]
    · simp only [Value.slice.injEq] at h1
      obtain ⟨rfl, _, rfl⟩ := h1
      simp [Builtin.append_, run_underlying el.ht, sizeOf, typeInfo, hi, Builtin.lenOf, Builtin.firstCells, hnc, storeCells]
  | some a =>
    obtain ⟨v', w', hrun, h2, h3, _, h5⟩ := run_append_own_at (P := P) w base t ty E i z R.k bytes el.ht hi hz hs hby hzs el.pos v xs.length (R.flat xs) hv a ys.length c (R.flat ys) (R.flat_len ys) hy.cells (R.flat_oneCell ys) h63 hb hbase
    obtain ⟨ao, cap, rfl⟩ := shape_own h2
    exact ⟨ao, cap, w', hrun, by rw [List.length_append, R.flat_append]; exact h2, h3, h5⟩

theorem own_len {w : World} {base n : Nat} {v : Value} {xs : List α} (hk : 0 < R.k) (h : w.ownsRow base E R.k v n (R.flat xs)) : n = xs.length := by
  have := h.1
  rw [R.flat_len] at this
  exact (Nat.eq_of_mul_eq_mul_right hk this).symm

theorem wp_app {o : Oper} {a : Act} {w : World} {K : Act → World → Prop} {Q : Exit → Act → World → Prop} (s x : Operand) (ho : o.op = .call { callee := .builtin .append, args := #[s, x], argTypes := #[t, t] })
    (el : Elem P t E R.k bytes) {v : Value} (xs ys zs : List α) (hz : xs ++ ys = zs) (base n N : Nat) (hN : N = zs.length) (hs : a.eval s = v) (hv : w.ownsRow base E R.k v n (R.flat xs)) {A : Option Addr} {m c : Nat} (hx : a.eval x = .slice A m c) (hy : RowRd R w A ys) (hm : m = ys.length)
    (h63 : N ≤ maxLen) (hb : N * bytes ≤ 140737488355328) (hbase : base ≤ w.heap.size)
    (h : ∀ ao cap w', w'.ownsRow base E R.k (.slice ao N cap) N (R.flat zs) → w.grownBy w' v.ownBlock → ((Value.slice ao N cap).ownBlock = v.ownBlock ∨ (Value.slice ao N cap).ownBlock = some w.heap.size) → K (a.put o.dst (.slice ao N cap)) w') : o.wp P a w K Q := by
  obtain rfl := own_len el.pos hv
  subst hm hz
  rw [List.length_append] at hN
  subst hN
  obtain ⟨ao, cap, w', hrun, h2, h3, h4⟩ := run_app el hv hy c h63 hb hbase o.type
  rw [List.length_append] at h2
  unfold Oper.wp execOp
  simp only [ho, resolve, invoke, builtin, Sem.run_bind, Sem.run_pure, Result.andThen_ok, List.map_toArray, List.map_cons, List.map_nil, hs, hx, hrun]
  exact h ao cap w' h2 h3 h4

theorem wpList_app {ops : Array Oper} {rest : List Oper} {o : Oper} {a : Act} {w : World} {Q : Exit → Act → World → Prop} (hgd : o.guard = none) (s x : Operand) (ho : o.op = .call { callee := .builtin .append, args := #[s, x], argTypes := #[t, t] })
    (el : Elem P t E R.k bytes) {v : Value} (xs ys zs : List α) (hz : xs ++ ys = zs) (base n N : Nat) (hN : N = zs.length) (hs : a.eval s = v) (hv : w.ownsRow base E R.k v n (R.flat xs)) {A : Option Addr} {m c : Nat} (hx : a.eval x = .slice A m c) (hy : RowRd R w A ys) (hm : m = ys.length)
    (h63 : N ≤ maxLen) (hb : N * bytes ≤ 140737488355328) (hbase : base ≤ w.heap.size)
    (h : ∀ ao cap w', w'.ownsRow base E R.k (.slice ao N cap) N (R.flat zs) → w.grownBy w' v.ownBlock → ((Value.slice ao N cap).ownBlock = v.ownBlock ∨ (Value.slice ao N cap).ownBlock = some w.heap.size) → wpList P ops Q rest (a.put o.dst (.slice ao N cap)) w') :
    wpList P ops Q (o :: rest) a w :=
  wpList_plain hgd fun _ hK => wp_app s x ho el xs ys zs hz base n N hN hs hv hx hy hm h63 hb hbase fun ao cap w' h2 h3 h4 => hK _ _ (h ao cap w' h2 h3 h4)

theorem step_app {ops : Array Oper} {o : Oper} {a : Act} {w : World} {K : Act → World → Prop} {Q : Exit → Act → World → Prop} {G : Prop} (hgd : o.guard = none) (s x : Operand) (ho : o.op = .call { callee := .builtin .append, args := #[s, x], argTypes := #[t, t] })
    (el : Elem P t E R.k bytes) {v : Value} (xs ys zs : List α) (hz : xs ++ ys = zs) (base n N : Nat) (hN : N = zs.length) (hs : a.eval s = v) (hv : w.ownsRow base E R.k v n (R.flat xs)) {A : Option Addr} {m c : Nat} (hx : a.eval x = .slice A m c) (hy : RowRd R w A ys) (hm : m = ys.length)
    (h63 : N ≤ maxLen) (hb : N * bytes ≤ 140737488355328) (hbase : base ≤ w.heap.size)
    (h : ∀ ao cap w', w'.ownsRow base E R.k (.slice ao N cap) N (R.flat zs) → w.grownBy w' v.ownBlock → ((Value.slice ao N cap).ownBlock = v.ownBlock ∨ (Value.slice ao N cap).ownBlock = some w.heap.size) → K (a.put o.dst (.slice ao N cap)) w') :
    if Region.wanted o (yielded ops a.tmps) = true then Oper.wp P o a w K Q else G := by
  have hw : Region.wanted o (yielded ops a.tmps) = true := by simp [Region.wanted, hgd]
  rw [if_pos hw]
  exact wp_app s x ho el xs ys zs hz base n N hN hs hv hx hy hm h63 hb hbase h
end

theorem stop_here {X : Prop} (h : X ∧ True) : X := h.1

theorem RowRd.one {α : Type} {R : Rec α} {w : World} {b : Nat} {cs : Array Value} {t : TypeId} {f : Nat × Nat} (hb : w.heap[b]? = some (.cells cs t f)) (x : α) (hx : cs.toList = R.cells x) : RowRd R w (some ⟨b, 0, none⟩) [x] := by
  refine ⟨by unfold maxLen; simp, fun i hi => ?_⟩
  obtain rfl : i = 0 := by simpa using hi
  refine ⟨b, 0, rfl, heap_lt hb, fun j u hu => ?_⟩
  rw [cell_of hb]
  simp only [List.getElem_cons_zero, ← hx] at hu
  simpa using hu
theorem RowRd.piece {α : Type} {R : Rec α} {w : World} {b off : Nat} {xs : List α} (h : RowRd R w (some ⟨b, off, none⟩) xs) (i n : Nat) : RowRd R w (some ⟨b, off + i * R.k, none⟩) ((xs.drop i).take n) := by
  refine ⟨by have := h.len; simp; omega, fun j hj => ?_⟩
  have hj' : j < n ∧ i + j < xs.length := by simp at hj; omega
  obtain ⟨b', off', e, h2, h3⟩ := h.at' (i + j) hj'.2
  cases e
  refine ⟨b, _, rfl, h2, fun q u hu => ?_⟩
  rw [show off + i * R.k + j * R.k + q = off + (i + j) * R.k + q by rw [Nat.add_mul]; omega]
  apply h3
  rw [← hu]
  simp
theorem RowRd.takeN {α : Type} {R : Rec α} {w : World} {A : Option Addr} {xs : List α} (h : RowRd R w A xs) (n : Nat) : RowRd R w A (xs.take n) := by
  refine ⟨by have := h.len; simp; omega, fun j hj => ?_⟩
  have hj' : j < n ∧ j < xs.length := by simp at hj; omega
  obtain ⟨b, off, e, h2, h3⟩ := h.at' j hj'.2
  refine ⟨b, off, e, h2, fun q u hu => h3 q u ?_⟩
  rw [← hu]; simp
theorem RowAt.of_own {α : Type} {R : Rec α} {E : TypeId} {w : World} {base : Nat} {v : Value} {n : Nat} {xs : List α} (h : w.ownsRow base E R.k v n (R.flat xs)) (hn : n = xs.length) : RowAt E R w v xs := by
  subst hn; exact h.mono (Nat.zero_le _)
theorem RowRd.of_flat {α : Type} {R : Rec α} {w : World} {b : Nat} {cs : Array Value} {t : TypeId} {f : Nat × Nat} {xs : List α} (hb : w.heap[b]? = some (.cells cs t f)) (hx : cs.toList = R.flat xs) (hl : xs.length ≤ maxLen) : RowRd R w (some ⟨b, 0, none⟩) xs := by
  refine ⟨hl, fun i hi => ⟨b, 0, rfl, heap_lt hb, fun j u hu => ?_⟩⟩
  have hj : j < R.k := by have := (List.getElem?_eq_some_iff.1 hu).1; rwa [R.len] at this
  rw [cell_of hb, Nat.zero_add, ← Array.getElem?_toList, hx, R.flat_get hi hj, hu]
end Go.Proofs.YtajhgejhdalobaaGreatDoor
namespace Go.Proofs.YtajhgejhdalobaaGreatDoor
open Go.RowKit

abbrev byteV (c : UInt8) : Value := .int .u8 (c.toNat : Int)
def ByteR : Rec UInt8 := ⟨1, fun c => [.int .u8 (c.toNat : Int)], fun _ => rfl, fun c u hu => by simp at hu; subst hu; rfl⟩
theorem byteK : ByteR.k = 1 := rfl
theorem infoB : (Tryz.prog.info? 5).map (fun i => (i.zero, i.size, i.bytes)) = some (some (.int .u8 0), 1, 1) := by kernel_rfl
theorem el_bytes : Elem Tryz.prog 34 5 ByteR.k 1 := Elem.mk' Tryz.underlying34 infoB (by decide) rfl
theorem flat_bytes (bs : List UInt8) : ByteR.flat bs = bs.map byteV := by
  induction bs with
  | nil => rfl
  | cons b bs ih => show ByteR.cells b ++ ByteR.flat bs = _; rw [ih]; rfl
def strB (l : List UInt8) : ByteArray := ⟨l.toArray⟩
theorem strB_size (l : List UInt8) : (strB l).size = l.length := by show l.toArray.size = _; simp

theorem byte_rd {w : World} {b off : Nat} {bs : List UInt8} (h : RowRd ByteR w (some ⟨b, off, none⟩) bs) {i : Nat} (hi : i < bs.length) : w.cell? ⟨b, off + i, none⟩ = some (byteV bs[i]) := by
  obtain ⟨b', off', e, _, h3⟩ := h.at' i hi
  cases e
  have := h3 0 (byteV bs[i]) rfl
  simpa [byteK] using this
theorem byte_addr {w : World} {ao : Option Addr} {bs : List UInt8} (h : RowRd ByteR w ao bs) {i : Nat} (hi : i < bs.length) : ∃ b off, ao = some ⟨b, off, none⟩ ∧ b < w.heap.size := by
  obtain ⟨b, off, e, h2, _⟩ := h.at' i hi
  exact ⟨b, off, e, h2⟩
theorem byte_at {w : World} {g n cap : Nat} {bs : List UInt8} (h : RowAt 5 ByteR w (.slice (some ⟨g, 0, none⟩) n cap) bs) {i : Nat} (hi : i < bs.length) : w.cell? ⟨g, i, none⟩ = some (byteV bs[i]) ∧ w.frozen? ⟨g, i, none⟩ = false := by
  obtain ⟨g', e, _, _, _, h3, h4⟩ := h.elem hi
  cases e
  have := h3 0 (byteV bs[i]) rfl
  exact ⟨by simpa [byteK] using this, h4 _⟩
theorem RowAt.rd {α : Type} {E : TypeId} {R : Rec α} {w : World} {ao : Option Addr} {n cap : Nat} {xs : List α} (h : RowAt E R w (.slice ao n cap) xs) : RowRd R w ao xs := by
  refine RowRd.of_at h ?_
  obtain ⟨ao', cap', e, h1, h2, _⟩ := h.shape
  omega
theorem RowAt.len {α : Type} {E : TypeId} {R : Rec α} {w : World} {ao : Option Addr} {n cap : Nat} {xs : List α} (h : RowAt E R w (.slice ao n cap) xs) : n = xs.length := by
  obtain ⟨ao', cap', e, _⟩ := h.shape
  simp only [Value.slice.injEq] at e
  exact e.2.1
theorem conv_rd {w : World} {ao : Option Addr} {bs : List UInt8} (h : RowRd ByteR w ao bs) (cap : Nat) : (convert 34 9 (.slice ao bs.length cap)).run Tryz.prog w = .ok (.string (strB bs)) w := by
  cases ao with
  | none =>
    have hn : bs = [] := by
      cases bs with
      | nil => rfl
      | cons y ys => obtain ⟨b, off, e, _⟩ := h.at' 0 (by simp); cases e
    subst hn
    exact run_convert_bytes_nil w 34 5 Tryz.underlying34 Tryz.underlying5 0 cap 9 Tryz.underlying9
  | some a =>
    exact run_convert_bytes_back w 34 9 5 a cap bs Tryz.underlying34 Tryz.underlying5 Tryz.underlying9 (fun j hj => by
      obtain ⟨b, off, e, _⟩ := byte_addr h hj
      cases e
      rw [Addr.add_lit]
      exact byte_rd h hj)

structure SV where
  ao : Option Addr
  n : Nat
  cap : Nat
def SV.val (s : SV) : Value := .slice s.ao s.n s.cap
instance : Inhabited SV := ⟨⟨none, 0, 0⟩⟩
def SliceR : Rec SV := ⟨1, fun s => [s.val], fun _ => rfl, fun s u hu => by simp at hu; subst hu; rfl⟩
theorem SV.own {s : SV} {k : Nat} (h : s.val.ownBlock = some k) : ∃ a, s.ao = some a ∧ a.block = k := by
  obtain ⟨ao, n, cap⟩ := s
  cases ao with
  | none => cases h
  | some a => exact ⟨a, rfl, by simpa [SV.val, Value.ownBlock] using h⟩
theorem RowAt.kind {α : Type} {E : TypeId} {R : Rec α} {w : World} {v : Value} {xs : List α} (h : RowAt E R w v xs) {k : Nat} (hk : v.ownBlock = some k) : ∃ cur, w.heap[k]? = some (.cells cur E (0, 0)) := by
  rcases h.2 with ⟨rfl, _⟩ | ⟨g, cap, cur, rfl, _, hg, _⟩
  · cases hk
  · simp only [Value.ownBlock, Option.some.injEq] at hk
    subst hk
    exact ⟨cur, hg⟩
theorem RowAt.block' {α : Type} {E : TypeId} {R : Rec α} {w : World} {v : Value} {xs : List α} (h : RowAt E R w v xs) (h0 : 0 < xs.length) : ∃ g cap, v = .slice (some ⟨g, 0, none⟩) xs.length cap ∧ xs.length ≤ cap ∧ v.ownBlock = some g := by
  rcases h.2 with ⟨_, h2⟩ | ⟨g, cap, cur, rfl, _, hg, hc, _⟩
  · omega
  · exact ⟨g, cap, rfl, hc, rfl⟩
def CloneP (bs : Bs) (w : World) (e : Ending) (w' : World) : Prop := ∃ s : SV, e = .returned s.val ∧ s.n = bs.length ∧ RowAt 5 ByteR w' s.val bs ∧ Fr noBlock w w' ∧ ∀ k, s.val.ownBlock = some k → w.heap.size ≤ k
end Go.Proofs.YtajhgejhdalobaaGreatDoor
