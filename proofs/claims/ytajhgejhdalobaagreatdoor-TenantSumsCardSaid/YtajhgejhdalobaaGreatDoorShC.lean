/-
  A DIGEST THAT GOES ON, in memory: its block, its rest. THE WALKS of slices.Clone of bytes, of sha.New.
-/
import Derived.Laws.CopyRow
import Derived.StillTailTactics
import Derived.Deep.AppendSrc
import Derived.Test.YtajhgejhdalobaaGreatDoorShA
namespace Go.Proofs.YtajhgejhdalobaaGreatDoor
open Go.RowKit

theorem start_any (w : World) : Calls Tryz.prog 386 #[] w fun e w' => e = .returned (.agg (sha0.list.map u32V).toArray) ∧ Fr noBlock w w' := by
  have hinfo : (Tryz.prog.info? 437).map (·.size) = some 8 := by kernel_rfl
  go_enter Tryz.func386, Tryz.ntmps386
  go_wp2_with fail
  exact bodyPost_ret (v := .agg (sha0.list.map u32V).toArray) (results_cell_row Tryz.results386 _ _ w.heap.size 437 _ (0, 0) _ rfl (heap_new w _) Tryz.underlying437 rfl hinfo) rfl ⟨rfl, (Fr.refl noBlock w).alloc _⟩

/-- the row of 64 words, t of them laid -/
def schedL (b : List UInt8) (t : Nat) : List W32 := sched b t ++ List.replicate (64 - t) 0
theorem schedL_len (b : List UInt8) {t : Nat} (h : t ≤ 64) : (schedL b t).length = 64 := by
  unfold schedL
  rw [List.length_append, sched_len, List.length_replicate]
  omega
theorem schedL_set (b : List UInt8) {t : Nat} (h : t < 64) : (schedL b t).set t (nextW b (sched b t) t) = schedL b (t + 1) := by
  unfold schedL
  rw [List.set_append_right _ _ (by rw [sched_len]; exact Nat.le_refl _), sched_len, Nat.sub_self, show 64 - t = (64 - (t + 1)) + 1 by omega, List.replicate_succ, List.set_cons_zero, sched, List.append_assoc]
  rfl
theorem schedL_get (b : List UInt8) {t i : Nat} (h : i < t) : (schedL b t)[i]? = some ((sched b t).getD i 0) := by
  unfold schedL
  rw [List.getElem?_append_left (by rw [sched_len]; exact h), List.getD_eq_getElem?_getD, List.getElem?_eq_getElem (by rw [sched_len]; exact h)]
  rfl
def wordsO (l : List W32) (t : TypeId) : Obj := .cells (l.map u32V).toArray t (0, 0)
theorem words_cell {w : World} {b : Nat} {l : List W32} {t : TypeId} (h : w.heap[b]? = some (wordsO l t)) {i : Nat} {x : W32} (hi : l[i]? = some x) : w.cell? ⟨b, i, none⟩ = some (.int .u32 (x.toNat : Int)) ∧ w.frozen? ⟨b, i, none⟩ = false := by
  refine ⟨?_, free_of h i⟩
  rw [cell_of h]
  simp [hi, u32V]
theorem words_set {w : World} {b : Nat} {l : List W32} {t : TypeId} (h : w.heap[b]? = some (wordsO l t)) (i : Nat) (x : W32) : (w.setCell ⟨b, i, none⟩ (.int .u32 (x.toNat : Int))).heap[b]? = some (wordsO (l.set i x) t) := by
  have := heap_set_eq (i := i) (u := .int .u32 (x.toNat : Int)) h
  rw [this]
  unfold wordsO
  congr 2
  simp [u32V, List.map_set]
def cellAt (W : World) (p : Addr) : Value := (W.cell? p).getD undef
theorem cellAt_some {W : World} {p : Addr} {v : Value} (h : W.cell? p = some v) : W.cell? p = some (cellAt W p) := by
  unfold cellAt
  rw [h]
  rfl
theorem keep_two {W : World} {b i j t : Nat} {x y z v : Value} (h1 : W.cell? ⟨b, i, none⟩ = some x) (h2 : W.cell? ⟨b, j, none⟩ = some y) (h3 : W.cell? ⟨b, t, none⟩ = some z) (h4 : W.frozen? ⟨b, t, none⟩ = false) (hi : i ≠ t) (hj : j ≠ t) :
    ((W.setCell ⟨b, t, none⟩ v).drew).cell? ⟨b, i, none⟩ = some x ∧ ((W.setCell ⟨b, t, none⟩ v).drew).cell? ⟨b, j, none⟩ = some y ∧ ((W.setCell ⟨b, t, none⟩ v).drew).cell? ⟨b, t, none⟩ = some (cellAt ((W.setCell ⟨b, t, none⟩ v).drew) ⟨b, t, none⟩) ∧ ((W.setCell ⟨b, t, none⟩ v).drew).frozen? ⟨b, t, none⟩ = false := by
  have e1 : ((W.setCell ⟨b, t, none⟩ v).drew).cell? ⟨b, i, none⟩ = some x := (World.cell?_setCell_other _ ⟨b, t, none⟩ ⟨b, i, none⟩ _ (by simp <;> omega)).trans h1
  have e2 : ((W.setCell ⟨b, t, none⟩ v).drew).cell? ⟨b, j, none⟩ = some y := (World.cell?_setCell_other _ ⟨b, t, none⟩ ⟨b, j, none⟩ _ (by simp <;> omega)).trans h2
  have e3 : ((W.setCell ⟨b, t, none⟩ v).drew).cell? ⟨b, t, none⟩ = some v := World.cell?_setCell_same W ⟨b, t, none⟩ v h3
  exact ⟨e1, e2, cellAt_some e3, by simpa using h4⟩
set_option maxRecDepth 100000 in
/-- copy(v[1:], v[:7]) of eight words -/
theorem step_copyW {ops : Array Oper} {o : Oper} {a : Act} {w : World} {K : Act → World → Prop} {Q : Exit → Act → World → Prop} {G : Prop} (hgd : o.guard = none) (d s : Operand) (ho : o.op = .call { callee := .builtin .copy, args := #[d, s], argTypes := #[454, 454] })
    {g : Nat} {l : List W32} {t : TypeId} (hg : w.heap[g]? = some (wordsO l t)) (hl : l.length = 8) {dc sc : Nat} (ed : a.eval d = .slice (some ⟨g, 1, none⟩) 7 dc) (es : a.eval s = .slice (some ⟨g, 0, none⟩) 7 sc)
    (h : ∀ w', w'.heap[g]? = some (wordsO (l.take 1 ++ l.take 7) t) → Fr (fun k => k = g) w w' → K (a.put o.dst (.int .i64 7)) w') :
    if Region.wanted o (yielded ops a.tmps) = true then Oper.wp Tryz.prog o a w K Q else G := by
  have hw : Region.wanted o (yielded ops a.tmps) = true := by simp [Region.wanted, hgd]
  rw [if_pos hw]
  have hsz : (Tryz.prog.info? 194).map (·.size) = some 1 := by kernel_rfl
  have hcl : ((l.take 7).map u32V).length = 7 := by rw [List.length_map, List.length_take]; omega
  have hrun := run_copy_row (P := Tryz.prog) w 454 454 o.type 194 g 1 7 dc ⟨g, 0, none⟩ 7 sc _ t ((l.take 7).map u32V) Tryz.underlying454 hsz hg (by rw [hcl]; rfl)
    (by
      intro j v hj
      rw [Addr.add_lit, Nat.zero_add, cell_of hg]
      rw [List.getElem?_map, List.getElem?_take] at hj
      split at hj
      · simpa using hj
      · cases hj)
    (by rw [hcl]; simp [hl]) (by intro v hv; obtain ⟨q, _, rfl⟩ := List.mem_map.1 hv; rfl)
  rw [hcl] at hrun
  unfold Oper.wp execOp
  simp only [ho, resolve, invoke, builtin, Sem.run_bind, Sem.run_pure, Result.andThen_ok, List.map_toArray, List.map_cons, List.map_nil, ed, es, hrun]
  refine h _ ?_ (fr_setRow g _)
  rw [setRow_heap w g _ _ t _ hg]
  unfold wordsO
  congr 2
  simp [List.map_take, List.map_append, hl]
theorem wordOf_take {x : List UInt8} (_hl : 64 ≤ x.length) {i : Nat} (hi : i + 3 < 64) : wordOf (x.take 64) i = wordOf x i := by
  have g : ∀ j, j < 64 → (x.take 64).getD j 0 = x.getD j 0 := by
    intro j hj
    rw [List.getD_eq_getElem?_getD, List.getD_eq_getElem?_getD, List.getElem?_take, if_pos hj]
  unfold wordOf
  rw [g i (by omega), g (i + 1) (by omega), g (i + 2) (by omega), g (i + 3) (by omega)]
theorem sched_take {x : List UInt8} (hl : 64 ≤ x.length) (t : Nat) : sched (x.take 64) t = sched x t := by
  induction t with
  | zero => rfl
  | succ t ih =>
    have e : nextW (x.take 64) (sched x t) t = nextW x (sched x t) t := by
      unfold nextW
      split
      · rw [wordOf_take hl (by omega)]
      · rfl
    rw [sched, sched, ih, e]
theorem rounds_take {x : List UInt8} (hl : 64 ≤ x.length) (s : S8) (t : Nat) : rounds (x.take 64) s t = rounds x s t := by
  induction t with
  | zero => rfl
  | succ t ih => rw [rounds, rounds, ih, sched_take hl]
/-- the sum, i words of it laid -/
def addL (s r : S8) (i : Nat) : List W32 := (s.add r).list.take i ++ s.list.drop i
theorem addL_step (s r : S8) {i : Nat} (h : i < 8) : ∃ p q, (addL s r i)[i]? = some p ∧ r.list[i]? = some q ∧ (addL s r i).set i (p + q) = addL s r (i + 1) := by
  rcases (show i = 0 ∨ i = 1 ∨ i = 2 ∨ i = 3 ∨ i = 4 ∨ i = 5 ∨ i = 6 ∨ i = 7 by omega) with rfl | rfl | rfl | rfl | rfl | rfl | rfl | rfl <;> exact ⟨_, _, rfl, rfl, by simp [addL, S8.add, S8.list]⟩
theorem addL_len (s r : S8) {i : Nat} (h : i ≤ 8) : (addL s r i).length = 8 := by
  unfold addL
  simp [S8.list]
  omega
theorem addL_all (s r : S8) : addL s r 8 = (s.add r).list := rfl
/-- words ahead of other cells -/
def headO (l : List W32) (r : List Value) (t : TypeId) : Obj := .cells (l.map u32V ++ r).toArray t (0, 0)
theorem head_cell {w : World} {b : Nat} {l : List W32} {r : List Value} {t : TypeId} (h : w.heap[b]? = some (headO l r t)) {i : Nat} {x : W32} (hi : l[i]? = some x) : w.cell? ⟨b, i, none⟩ = some (.int .u32 (x.toNat : Int)) ∧ w.frozen? ⟨b, i, none⟩ = false := by
  refine ⟨?_, free_of h i⟩
  have hlt := (List.getElem?_eq_some_iff.1 hi).1
  rw [cell_of h, List.getElem?_toArray, List.getElem?_append_left (by simpa using hlt), List.getElem?_map, hi]
  rfl
theorem head_set {w : World} {b : Nat} {l : List W32} {r : List Value} {t : TypeId} (h : w.heap[b]? = some (headO l r t)) {i : Nat} (hi : i < l.length) (x : W32) : (w.setCell ⟨b, i, none⟩ (.int .u32 (x.toNat : Int))).heap[b]? = some (headO (l.set i x) r t) := by
  have := heap_set_eq (i := i) (u := .int .u32 (x.toNat : Int)) h
  rw [this]
  unfold headO
  congr 2
  rw [List.setIfInBounds_toArray, List.set_append_left _ _ (by simpa using hi), List.map_set]
  rfl
theorem add4_u32 (h s c k w : W32) : (((h.toNat : Int) + (s.toNat : Int) + (c.toNat : Int) + (k.toNat : Int)) % 4294967296 + (w.toNat : Int)) % 4294967296 = ((((((h + s) + c) + k) + w)).toNat : Int) := by
  simp only [BitVec.toNat_add]
  omega
theorem sumX_u32 (R : S8) (k w : W32) : (((R.h.toNat : Int) + bits .xor .u32 (bits .xor .u32 ((rotr R.e 6).toNat : Int) ((rotr R.e 11).toNat : Int)) ((rotr R.e 25).toNat : Int) + bits .xor .u32 (R.g.toNat : Int) (bits .and .u32 (R.e.toNat : Int) (bits .xor .u32 (R.f.toNat : Int) (R.g.toNat : Int))) + (k.toNat : Int)) % 4294967296 + (w.toNat : Int)) % 4294967296 = ((R.sumX k w).toNat : Int) := by
  rw [u32x, u32x, u32x, u32a, u32x, add4_u32]
  rfl
theorem sumY_u32 (R : S8) : ((bits .xor .u32 (bits .xor .u32 ((rotr R.a 2).toNat : Int) ((rotr R.a 13).toNat : Int)) ((rotr R.a 22).toNat : Int)) + bits .xor .u32 (bits .xor .u32 (bits .and .u32 (R.a.toNat : Int) (R.b.toNat : Int)) (bits .and .u32 (R.a.toNat : Int) (R.c.toNat : Int))) (bits .and .u32 (R.b.toNat : Int) (R.c.toNat : Int))) % 4294967296 = (R.sumY.toNat : Int) := by
  rw [u32x, u32x, u32a, u32a, u32x, u32a, u32x, u32add]
  rfl
def SRightP (a : W32) (z : Int) (n : Nat) : Prop := ∀ W, Calls Tryz.prog 404 #[.int .u32 (a.toNat : Int), .int .i64 z] W fun e w' => e = .returned (.int .u32 ((rotr a n).toNat : Int)) ∧ W = w'
theorem rightP (a : W32) {n : Nat} (h : n ∈ [2, 6, 7, 11, 13, 17, 18, 19, 22, 25]) {z : Int} (hz : z = (n : Int)) : SRightP a z n := by
  subst hz
  exact fun W => sright_any a n h W
theorem sig0_u32 (b : W32) : bits .xor .u32 (bits .xor .u32 ((rotr b 7).toNat : Int) ((rotr b 18).toNat : Int)) ((b.toNat : Int) / 8) = ((((rotr b 7 ^^^ rotr b 18) ^^^ b >>> 3)).toNat : Int) := by
  have h := u32shr b 3
  rw [show (8 : Int) = ((2 ^ 3 : Nat) : Int) from rfl, h, u32x, u32x]
theorem sig1_u32 (b : W32) : bits .xor .u32 (bits .xor .u32 ((rotr b 17).toNat : Int) ((rotr b 19).toNat : Int)) ((b.toNat : Int) / 1024) = ((((rotr b 17 ^^^ rotr b 19) ^^^ b >>> 10)).toNat : Int) := by
  have h := u32shr b 10
  rw [show (1024 : Int) = ((2 ^ 10 : Nat) : Int) from rfl, h, u32x, u32x]
theorem next_u32 (A16 A15 A7 A2 : W32) : IntKind.u32.wrap (IntKind.u32.wrap (IntKind.u32.wrap ((A16.toNat : Int) + bits .xor .u32 (bits .xor .u32 ((rotr A15 7).toNat : Int) ((rotr A15 18).toNat : Int)) ((A15.toNat : Int) / 8)) + (A7.toNat : Int)) + bits .xor .u32 (bits .xor .u32 ((rotr A2 17).toNat : Int) ((rotr A2 19).toNat : Int)) ((A2.toNat : Int) / 1024)) =
    ((((A16 + ((rotr A15 7 ^^^ rotr A15 18) ^^^ A15 >>> 3)) + A7) + ((rotr A2 17 ^^^ rotr A2 19) ^^^ A2 >>> 10)).toNat : Int) := by
  rw [sig0_u32, sig1_u32, IntKind.wrap_u32', IntKind.wrap_u32', IntKind.wrap_u32', u32add, u32add, u32add]
end Go.Proofs.YtajhgejhdalobaaGreatDoor
namespace Go.Proofs.YtajhgejhdalobaaGreatDoor
open Go.RowKit

def IntR : Rec Int := ⟨1, fun n => [.int .i64 n], fun _ => rfl, fun s u hu => by simp at hu; subst hu; rfl⟩
theorem flat_ints (xs : List Int) : IntR.flat xs = xs.map (Value.int .i64) := by
  induction xs with
  | nil => rfl
  | cons b bs ih => show IntR.cells b ++ IntR.flat bs = _; rw [ih]; rfl
theorem infoI : (Tryz.prog.info? 3).map (fun i => (i.zero, i.size, i.bytes)) = some (some (.int .i64 0), 1, 8) := by kernel_rfl
theorem el_ints : Elem Tryz.prog 162 3 IntR.k 8 := Elem.mk' Tryz.underlying162 infoI (by decide) rfl
theorem int_rd {w : World} {b off : Nat} {xs : List Int} (h : RowRd IntR w (some ⟨b, off, none⟩) xs) {i : Nat} (hi : i < xs.length) : w.cell? ⟨b, off + i, none⟩ = some (.int .i64 xs[i]) := by
  obtain ⟨b', off', e, _, h3⟩ := h.at' i hi
  cases e
  have := h3 0 (.int .i64 xs[i]) rfl
  have hk : IntR.k = 1 := rfl
  simpa [hk] using this
end Go.Proofs.YtajhgejhdalobaaGreatDoor
namespace Go.Proofs.YtajhgejhdalobaaGreatDoor
open Go.RowKit

/-- n bytes at a place of a block that can be written, cap of them may be -/
structure OffB (w : World) (ao : Option Addr) (n cap : Nat) (x : List UInt8) : Prop where
  len : x.length = n
  nc : n ≤ cap
  cm : cap ≤ maxLen
  lie : (ao = none ∧ cap = 0) ∨ ∃ g off cur, ao = some ⟨g, off, none⟩ ∧ w.heap[g]? = some (.cells cur 5 (0, 0)) ∧ off + cap ≤ cur.size ∧ (cur.toList.drop off).take n = x.map byteV

namespace OffB
variable {w w' : World} {ao : Option Addr} {n cap : Nat} {x : List UInt8}
theorem nil (w : World) : OffB w none 0 0 [] := ⟨rfl, Nat.le_refl _, Nat.zero_le _, .inl ⟨rfl, rfl⟩⟩
theorem of_row (h : RowAt 5 ByteR w (.slice ao n cap) x) : OffB w ao n cap x := by
  rcases h.2 with ⟨h1, h2⟩ | ⟨g, cap', cur, h1, _, hg, hc, hm, hs, ht⟩
  · simp only [Value.slice.injEq] at h1
    obtain ⟨rfl, rfl, rfl⟩ := h1
    exact ⟨h2, Nat.le_refl _, Nat.zero_le _, .inl ⟨rfl, rfl⟩⟩
  · simp only [Value.slice.injEq] at h1
    obtain ⟨rfl, rfl, rfl⟩ := h1
    rw [byteK, Nat.mul_one] at hs ht
    exact ⟨rfl, hc, hm, .inr ⟨g, 0, cur, rfl, hg, by omega, by rw [List.drop_zero, ht, flat_bytes]⟩⟩
theorem fr {S : Nat → Prop} (h : OffB w ao n cap x) (hf : Fr S w w') (hn : ∀ k, (Value.slice ao n cap).ownBlock = some k → ¬ S k) : OffB w' ao n cap x := by
  refine ⟨h.len, h.nc, h.cm, h.lie.imp id ?_⟩
  rintro ⟨g, off, cur, rfl, hg, h1, h2⟩
  exact ⟨g, off, cur, rfl, hf.obj hg (hn g rfl), h1, h2⟩
theorem fr0 (h : OffB w ao n cap x) (hf : Fr noBlock w w') : OffB w' ao n cap x := h.fr hf (fun _ _ z => z)
theorem lt (h : OffB w ao n cap x) : ∀ k, (Value.slice ao n cap).ownBlock = some k → k < w.heap.size := by
  intro k hk
  rcases h.lie with ⟨rfl, _⟩ | ⟨g, off, cur, rfl, hg, _⟩
  · simp [Value.ownBlock] at hk
  · simp only [Value.ownBlock, Option.some.injEq] at hk
    subst hk
    exact heap_lt hg
theorem rd (h : OffB w ao n cap x) : RowRd ByteR w ao x := by
  refine ⟨by have := h.len; have := h.nc; have := h.cm; omega, fun i hi => ?_⟩
  have hl := h.len
  rcases h.lie with ⟨rfl, h0⟩ | ⟨g, off, cur, rfl, hg, h1, h2⟩
  · have := h.nc; omega
  · refine ⟨g, off, rfl, heap_lt hg, fun j u hu => ?_⟩
    have hj : j = 0 := by
      have := (List.getElem?_eq_some_iff.1 hu).1
      rw [ByteR.len] at this
      have e : ByteR.k = 1 := byteK
      omega
    subst hj
    have e : (x.map byteV)[i]? = some u := by
      rw [← hu, List.getElem?_map, List.getElem?_eq_getElem hi]
      rfl
    rw [← h2] at e
    rw [cell_of hg, byteK, Nat.mul_one, Nat.add_zero]
    rw [List.getElem?_take] at e
    rw [if_pos (by omega), List.getElem?_drop] at e
    rw [← Array.getElem?_toList]
    exact e
/-- cut behind -/
theorem cut {g off : Nat} (h : OffB w (some ⟨g, off, none⟩) n cap x) {k : Nat} (hk : k ≤ n) : OffB w (some ⟨g, off + k, none⟩) (n - k) (cap - k) (x.drop k) := by
  have hl := h.len
  have hnc := h.nc
  have hcm := h.cm
  refine ⟨by rw [List.length_drop]; omega, by omega, by omega, ?_⟩
  rcases h.lie with ⟨h0, _⟩ | ⟨g', off', cur, h0, hg, h1, h2⟩
  · cases h0
  · simp only [Option.some.injEq, Addr.mk.injEq, and_true] at h0
    obtain ⟨rfl, rfl⟩ := h0
    refine .inr ⟨g, off + k, cur, rfl, hg, by omega, ?_⟩
    rw [← List.drop_drop, ← List.drop_take, List.map_drop, ← h2]
/-- cut behind, as the model tells it: where nothing may be behind, the place stays -/
theorem cut2 {g off : Nat} (h : OffB w (some ⟨g, off, none⟩) n cap x) {k : Nat} (hk : k ≤ n) : ∃ o, (if cap = k then some (⟨g, off, none⟩ : Addr) else some ⟨g, off + k, none⟩) = some ⟨g, o, none⟩ ∧ OffB w (some ⟨g, o, none⟩) (n - k) (cap - k) (x.drop k) := by
  by_cases e : cap = k
  · refine ⟨off, by rw [if_pos e], ?_⟩
    have hl := h.len
    have hnc := h.nc
    have hn : n - k = 0 := by omega
    have hc : cap - k = 0 := by omega
    have hx : x.drop k = [] := List.drop_of_length_le (by omega)
    rw [hn, hc, hx]
    refine ⟨rfl, Nat.le_refl _, Nat.zero_le _, ?_⟩
    rcases h.lie with ⟨h0, _⟩ | ⟨g', off', cur, h0, hg, h1, _⟩
    · cases h0
    · exact .inr ⟨g', off', cur, h0, hg, by omega, by simp⟩
  · exact ⟨off + k, by rw [if_neg e], h.cut hk⟩
/-- an append -/
theorem run_app (h : OffB w ao n cap x) {A : Option Addr} {y : List UInt8} (hy : RowRd ByteR w A y) (c : Nat) (h63 : n + y.length ≤ 140737488355328) (ty : TypeId) :
    ∃ ao' cap' w', (Builtin.append_ #[34, 34] ty #[.slice ao n cap, .slice A y.length c]).run Tryz.prog w = .ok (.slice ao' (n + y.length) cap') w' ∧ OffB w' ao' (n + y.length) cap' (x ++ y) ∧ w.grownBy w' (Value.slice ao n cap).ownBlock ∧
      ((Value.slice ao' (n + y.length) cap').ownBlock = (Value.slice ao n cap).ownBlock ∨ (Value.slice ao' (n + y.length) cap').ownBlock = some w.heap.size) := by
  have hl := h.len
  have hnc := h.nc
  have hcm := h.cm
  obtain ⟨i, z, hi, hz, hs, hby, hzs⟩ := el_bytes.info
  rw [byteK] at hs hzs
  by_cases hy0 : y = []
  · subst hy0
    refine ⟨ao, cap, w, ?_, by simpa using h, World.grownBy.refl w _, .inl rfl⟩
    have hf : (Builtin.firstCells i.size 0 (.slice A 0 c)).run Tryz.prog w = .ok #[] w := by
      cases A with
      | none => exact run_firstCells_none w i.size 0 0 c
      | some a => exact run_firstCells_some w i.size 0 a 0 c [] (by simp) (by simp)
    simp [Builtin.append_, run_underlying Tryz.underlying34, sizeOf, typeInfo, hi, Builtin.lenOf, hnc, hf, storeCells]
    cases ao <;> rfl
  · have hy1 : 0 < y.length := List.length_pos_iff.2 hy0
    cases A with
    | none => obtain ⟨b, o, e, _⟩ := hy.at' 0 hy1; cases e
    | some a =>
      have hfl : ByteR.flat y = y.map byteV := flat_bytes y
      have hsrc : Src Tryz.prog i.size 34 (.slice (some a) y.length c) y.length (y.map byteV) w := Src.ofSlice w Tryz.underlying34 a y.length c _ (by rw [hs, List.length_map, Nat.mul_one]) (fun j u hu => hy.cells j u (by rw [hfl]; exact hu)) (fun u hu => by obtain ⟨q, _, rfl⟩ := List.mem_map.1 hu; rfl)
      by_cases hr : n + y.length ≤ cap
      · rcases h.lie with ⟨rfl, h0⟩ | ⟨g, off, cur, rfl, hg, h1, h2⟩
        · omega
        · have hrun := run_append_room_src (P := Tryz.prog) w 34 34 ty 5 i Tryz.underlying34 hi g off n cap _ _ _ hsrc hr
            (by intro j hj; rw [hs, Nat.mul_one, cell_of hg]; rw [List.length_map] at hj; rw [Array.getElem?_eq_getElem (by omega)]; rfl) (by intro j _; exact free_of hg _)
          rw [hs, Nat.mul_one] at hrun
          obtain ⟨cur', g1, g2, g3⟩ := heap_setCells (y.map byteV) (off + n) w cur hg (by rw [List.length_map]; omega)
          refine ⟨_, cap, _, hrun, ⟨by simp [hl], hr, hcm, .inr ⟨g, off, cur', rfl, g1, by omega, ?_⟩⟩, ?_, .inl rfl⟩
          · have hcs : cur.toList.length = cur.size := by simp
            rw [g3, List.append_assoc, List.drop_append_of_le_length (by rw [List.length_take]; omega), List.drop_take, show off + n - off = n by omega, h2, List.map_append, List.take_append, List.length_map, hl, List.take_of_length_le (by rw [List.length_map]; omega), show n + y.length - n = y.length by omega, List.take_append_of_le_length (by simp), List.take_of_length_le (by simp)]
          · have hf : Fr (fun k => k = g) w (w.setCells g (off + n) (y.map byteV)) := fr_setCells (S := fun k => k = g) (Fr.refl _ _) (.inl rfl) _
            exact ⟨hf.os, hf.tape, hf.output, hf.size, fun k hk hn => hf.block k hk (fun e => hn (by rw [e]; rfl))⟩
      · have hm : maxLen = 9223372036854775807 := rfl
        have hold : (Builtin.firstCells i.size n (.slice ao n cap)).run Tryz.prog w.drew = .ok (x.map byteV).toArray w.drew := by
          cases ao with
          | none =>
            have h0 : n = 0 := by
              rcases h.lie with ⟨_, h0⟩ | ⟨g, off, cur, h0, _⟩
              · omega
              · cases h0
            subst h0
            obtain rfl := List.eq_nil_of_length_eq_zero hl
            exact run_firstCells_none w.drew i.size 0 0 cap
          | some b =>
            have hrd := (h.fr0 (Fr.refl noBlock w).drew).rd
            exact run_firstCells_some w.drew i.size n b n cap _ (by rw [List.length_map, hs, hl, Nat.mul_one]) (fun j u hu => hrd.cells j u (by rw [flat_bytes]; exact hu))
        have hcap : Builtin.nextslicecap (n + y.length) cap * i.bytes ≤ 281474976710656 := by
          exact growslice_fits (by omega) (by rw [hby, Nat.mul_one]; exact h63)
        have hrun := run_append_grow_src (P := Tryz.prog) w 34 34 ty 5 i z Tryz.underlying34 hi hz ao n cap _ hold _ _ _ hsrc (by omega) (by omega) hcap
        have hgc := grownCap_ge w (n + y.length) cap 5
        have hgm := grownCap_le_maxLen w (n + y.length) cap 5 (by rw [hm]; omega)
        refine ⟨_, _, _, hrun, ⟨by simp [hl], hgc, hgm, .inr ⟨w.heap.size, 0, _, rfl, heap_new w.drew _, ?_, ?_⟩⟩, ?_, .inr rfl⟩
        · simp only [Array.size_append, List.size_toArray, List.length_append, List.length_map, size_zeroCells, hzs]
          omega
        · rw [Array.toList_append, List.drop_zero, List.take_append_of_le_length (by simp [hl]), List.take_of_length_le (by simp [hl]), List.map_append]
        · have hf := ((Fr.refl noBlock w).drew).alloc (.cells ((x.map byteV ++ y.map byteV).toArray ++ Builtin.zeroCells z.cells (grownCap w (n + y.length) cap 5 - (n + y.length))) 5)
          exact ⟨hf.os, hf.tape, hf.output, hf.size, fun k hk _ => hf.block k hk (fun z => z)⟩
end OffB

theorem wp_appO {o : Oper} {a : Act} {w : World} {K : Act → World → Prop} {Q : Exit → Act → World → Prop} (s x : Operand) (ho : o.op = .call { callee := .builtin .append, args := #[s, x], argTypes := #[34, 34] })
    {ao : Option Addr} {n cap N : Nat} {xs ys : List UInt8} (hv : OffB w ao n cap xs) (hs : a.eval s = .slice ao n cap) {A : Option Addr} {m c : Nat} (hx : a.eval x = .slice A m c) (hy : RowRd ByteR w A ys) (hm : m = ys.length) (hN : N = n + m) (h63 : N ≤ 140737488355328)
    (h : ∀ ao' cap' w', OffB w' ao' N cap' (xs ++ ys) → w.grownBy w' (Value.slice ao n cap).ownBlock → ((Value.slice ao' N cap').ownBlock = (Value.slice ao n cap).ownBlock ∨ (Value.slice ao' N cap').ownBlock = some w.heap.size) → K (a.put o.dst (.slice ao' N cap')) w') : o.wp Tryz.prog a w K Q := by
  subst hm hN
  obtain ⟨ao', cap', w', hrun, h2, h3, h4⟩ := hv.run_app hy c h63 o.type
  unfold Oper.wp execOp
  simp only [ho, resolve, invoke, builtin, Sem.run_bind, Sem.run_pure, Result.andThen_ok, List.map_toArray, List.map_cons, List.map_nil, hs, hx, hrun]
  exact h ao' cap' w' h2 h3 h4
theorem wpList_appO {ops : Array Oper} {rest : List Oper} {o : Oper} {a : Act} {w : World} {Q : Exit → Act → World → Prop} (hgd : o.guard = none) (s x : Operand) (ho : o.op = .call { callee := .builtin .append, args := #[s, x], argTypes := #[34, 34] })
    {ao : Option Addr} {n cap N : Nat} {xs ys : List UInt8} (hv : OffB w ao n cap xs) (hs : a.eval s = .slice ao n cap) {A : Option Addr} {m c : Nat} (hx : a.eval x = .slice A m c) (hy : RowRd ByteR w A ys) (hm : m = ys.length) (hN : N = n + m) (h63 : N ≤ 140737488355328)
    (h : ∀ ao' cap' w', OffB w' ao' N cap' (xs ++ ys) → w.grownBy w' (Value.slice ao n cap).ownBlock → ((Value.slice ao' N cap').ownBlock = (Value.slice ao n cap).ownBlock ∨ (Value.slice ao' N cap').ownBlock = some w.heap.size) → wpList Tryz.prog ops Q rest (a.put o.dst (.slice ao' N cap')) w') :
    wpList Tryz.prog ops Q (o :: rest) a w :=
  wpList_plain hgd fun _ hK => wp_appO s x ho hv hs hx hy hm hN h63 fun ao' cap' w' h2 h3 h4 => hK _ _ (h ao' cap' w' h2 h3 h4)
theorem step_appO {ops : Array Oper} {o : Oper} {a : Act} {w : World} {K : Act → World → Prop} {Q : Exit → Act → World → Prop} {G : Prop} (hgd : o.guard = none) (s x : Operand) (ho : o.op = .call { callee := .builtin .append, args := #[s, x], argTypes := #[34, 34] })
    {ao : Option Addr} {n cap N : Nat} {xs ys : List UInt8} (hv : OffB w ao n cap xs) (hs : a.eval s = .slice ao n cap) {A : Option Addr} {m c : Nat} (hx : a.eval x = .slice A m c) (hy : RowRd ByteR w A ys) (hm : m = ys.length) (hN : N = n + m) (h63 : N ≤ 140737488355328)
    (h : ∀ ao' cap' w', OffB w' ao' N cap' (xs ++ ys) → w.grownBy w' (Value.slice ao n cap).ownBlock → ((Value.slice ao' N cap').ownBlock = (Value.slice ao n cap).ownBlock ∨ (Value.slice ao' N cap').ownBlock = some w.heap.size) → K (a.put o.dst (.slice ao' N cap')) w') :
    if Region.wanted o (yielded ops a.tmps) = true then Oper.wp Tryz.prog o a w K Q else G := by
  have hw : Region.wanted o (yielded ops a.tmps) = true := by simp [Region.wanted, hgd]
  rw [if_pos hw]
  exact wp_appO s x ho hv hs hx hy hm hN h63 h
end Go.Proofs.YtajhgejhdalobaaGreatDoor
namespace Go.Proofs.YtajhgejhdalobaaGreatDoor
open Go.RowKit

def DirtR : Rec (Int × SV) := ⟨2, fun p => [.int .i64 p.1, p.2.val], fun _ => rfl, fun p u hu => by
  simp at hu
  rcases hu with rfl | rfl <;> rfl⟩
theorem dirtK : DirtR.k = 2 := rfl
theorem dirt_rd {w : World} {b off : Nat} {ps : List (Int × SV)} (h : RowRd DirtR w (some ⟨b, off, none⟩) ps) {i : Nat} (hi : i < ps.length) : w.cell? ⟨b, off + i * 2, none⟩ = some (.int .i64 ps[i].1) ∧ w.cell? ⟨b, off + i * 2 + 1, none⟩ = some ps[i].2.val := by
  obtain ⟨b', off', e, _, h3⟩ := h.at' i hi
  cases e
  have h0 := h3 0 (.int .i64 ps[i].1) rfl
  have h1 := h3 1 ps[i].2.val rfl
  rw [dirtK] at h0 h1
  exact ⟨h0, h1⟩
end Go.Proofs.YtajhgejhdalobaaGreatDoor
namespace Go.Proofs.YtajhgejhdalobaaGreatDoor
open Go.RowKit

/-- rows beside things, while these make steps -/
structure Bes {α : Type} (R : Rec α) (ao : Option Addr) (xs : List α) (w : World) (F : Nat → Prop) : Prop where
  rd : RowRd R w ao xs
  ap : 0 < xs.length → ∀ a, ao = some a → ¬ F a.block ∧ a.block < w.heap.size
namespace Bes
variable {α : Type} {R : Rec α} {ao : Option Addr} {xs : List α} {w w' : World} {F F' : Nat → Prop}
theorem step (h : Bes R ao xs w F) (s : Step F F' w w') : Bes R ao xs w' F' := by
  rcases Nat.eq_zero_or_pos xs.length with h0 | h0
  · have e : xs = [] := List.eq_nil_of_length_eq_zero h0
    subst e
    exact ⟨RowRd.nil, fun h => by simp at h⟩
  · exact ⟨h.rd.fr s.fr (fun _ _ e => (h.ap h0 _ e).1), fun _ a e => ⟨(s.keep (h.ap h0 a e).2 (h.ap h0 a e).1).2.2, (s.keep (h.ap h0 a e).2 (h.ap h0 a e).1).2.1⟩⟩
theorem fr (h : Bes R ao xs w F) (f : Fr noBlock w w') : Bes R ao xs w' F := h.step (Step.same f)
theorem arg {w0 : World} {A : Thing} (h : RowRd R w0 ao xs) (m : Mine w0 A w F) : Bes R ao xs w F :=
  ⟨h.below m.below, fun h0 a e => by
    obtain ⟨b, off, e', h1, _⟩ := h.at' 0 h0
    rw [e] at e'
    cases e'
    exact ⟨fun hf => by have h2 : w0.heap.size ≤ b := m.base _ hf; omega, Nat.lt_of_lt_of_le h1 m.size⟩⟩
theorem sub (h : Bes R ao xs w F) {G : Nat → Prop} (hg : ∀ k, G k → F k) : Bes R ao xs w G := ⟨h.rd, fun h0 a e => ⟨fun hk => (h.ap h0 a e).1 (hg _ hk), (h.ap h0 a e).2⟩⟩
/-- a new row -/
theorem new {E : TypeId} {n cap : Nat} {w0 : World} (h : RowAt E R w (.slice ao n cap) xs) (hn : ∀ k, (Value.slice ao n cap).ownBlock = some k → w0.heap.size ≤ k) (hF : ∀ k, F k → k < w0.heap.size) : Bes R ao xs w F :=
  ⟨RowAt.rd h, fun _ a e => by
    subst e
    exact ⟨fun hf => by have := hn a.block rfl; have := hF _ hf; omega, h.lt a.block rfl⟩⟩
end Bes

theorem int_set {w : World} {g n cap : Nat} {xs : List Int} (h : RowAt 3 IntR w (.slice (some ⟨g, 0, none⟩) n cap) xs) {i : Nat} (hi : i < xs.length) (c : Int) : RowAt 3 IntR (w.setCell ⟨g, i, none⟩ (.int .i64 c)) (.slice (some ⟨g, 0, none⟩) n cap) (xs.set i c) := by
  have hk : IntR.k = 1 := rfl
  have := h.set (u := .int .i64 c) hi (j := 0) (by decide) c rfl
  simpa [hk] using this
theorem int_at {w : World} {g n cap : Nat} {xs : List Int} (h : RowAt 3 IntR w (.slice (some ⟨g, 0, none⟩) n cap) xs) {i : Nat} (hi : i < xs.length) : w.cell? ⟨g, i, none⟩ = some (.int .i64 xs[i]) ∧ w.frozen? ⟨g, i, none⟩ = false := by
  obtain ⟨g', e, _, _, _, h3, h4⟩ := h.elem hi
  cases e
  have hk : IntR.k = 1 := rfl
  have := h3 0 (.int .i64 xs[i]) rfl
  exact ⟨by simpa [hk] using this, h4 _⟩
end Go.Proofs.YtajhgejhdalobaaGreatDoor
namespace Go.Proofs.YtajhgejhdalobaaGreatDoor
open Go.RowKit

theorem sclone_any {w : World} {ao : Option Addr} {bs : Bs} (h : RowRd ByteR w ao bs) (cap : Nat) (hb : bs.length ≤ 140737488355328) : Calls Tryz.prog 389 #[.slice ao bs.length cap] w (CloneP bs w) := by
  have q := fun (w : World) (a : Option Addr) (n c : Nat) => Lib.run_eql_slice_nil (P := Tryz.prog) w 34 5 a n c 0 0 Tryz.underlying34
  have H := Lib.hid h
  cases ao with
  | none =>
    have hn : bs = [] := by
      cases bs with
      | nil => rfl
      | cons y ys => obtain ⟨b, off, e, _⟩ := h.at' 0 (by simp); cases e
    subst hn
    clear h
    go_enter Tryz.func389, Tryz.ntmps389
    go_wp2
    go_ret
    exact ⟨⟨none, 0, 0⟩, rfl, rfl, RowAt.nil, Fr.refl _ _, fun k hk => by cases hk⟩
  | some a =>
    clear h
    go_enter Tryz.func389, Tryz.ntmps389
    go_wp2_with (at_builtin; apply stop_here)
    refine ⟨?_, trivial⟩
    refine wpList_app rfl _ _ rfl el_bytes (v := .slice (some ⟨w.heap.size, 0, none⟩) 0 0) [] bs bs rfl w.heap.size 0 bs.length rfl rfl (World.ownsRow_made w #[] 0 (Nat.le_refl _) (Nat.zero_le _) rfl) rfl (H.out.fr0 ((Fr.refl _ _).alloc _)) rfl (by unfold maxLen; omega) (by omega) (by simp) ?_
    intro ao2 cap2 w2 o2 g2 _
    go_frame
    have O2 := Lib.hid o2
    have hf := (((Fr.refl noBlock w).alloc (.cells #[] 5)).grown g2 (fun k hk => by simp [Value.ownBlock] at hk; subst hk; exact .inr (Nat.le_refl _)))
    have Hf := Lib.hid hf
    clear o2 g2 hf
    go_wp2_with fail
    go_ret
    exact ⟨⟨ao2, bs.length, cap2⟩, rfl, rfl, RowAt.of_own O2.out rfl, Hf.out, fun k hk => (O2.out.lt k hk).1⟩

/-- a digest's block and its rest -/
structure HashIn (h : Nat) (s : S8) (ao : Option Addr) (m cap : Nat) (r : List UInt8) (n : Int) (w : World) : Prop where
  box : w.heap[h]? = some (headO s.list [.slice ao m cap, .int .i64 n] 440)
  off : OffB w ao m cap r
  ne : (Value.slice ao m cap).ownBlock ≠ some h
def hashF (h : Nat) (ao : Option Addr) (m cap : Nat) : Nat → Prop := fun k => k = h ∨ (Value.slice ao m cap).ownBlock = some k
def HashT (h : Nat) (s : S8) (r : List UInt8) (n : Int) : Thing := fun w F => ∃ ao m cap, HashIn h s ao m cap r n w ∧ ∀ k, F k ↔ hashF h ao m cap k
namespace HashIn
variable {h m cap : Nat} {s : S8} {ao : Option Addr} {r : List UInt8} {n : Int} {w w' : World}
theorem fr {S : Nat → Prop} (hh : HashIn h s ao m cap r n w) (hf : Fr S w w') (hs : ∀ k, hashF h ao m cap k → ¬ S k) : HashIn h s ao m cap r n w' :=
  ⟨hf.obj hh.box (hs h (.inl rfl)), hh.off.fr hf (fun k hk => hs k (.inr hk)), hh.ne⟩
theorem fr0 (hh : HashIn h s ao m cap r n w) (hf : Fr noBlock w w') : HashIn h s ao m cap r n w' := hh.fr hf (fun _ _ z => z)
theorem lt (hh : HashIn h s ao m cap r n w) : ∀ k, hashF h ao m cap k → k < w.heap.size := by
  rintro k (rfl | hk)
  · exact heap_lt hh.box
  · exact hh.off.lt k hk
theorem cells (hh : HashIn h s ao m cap r n w) : w.cell? ⟨h, 8, none⟩ = some (.slice ao m cap) ∧ w.cell? ⟨h, 9, none⟩ = some (.int .i64 n) ∧ w.frozen? ⟨h, 8, none⟩ = false ∧ w.frozen? ⟨h, 9, none⟩ = false :=
  ⟨by rw [cell_of hh.box]; rfl, by rw [cell_of hh.box]; rfl, free_of hh.box 8, free_of hh.box 9⟩
/-- the count is written -/
theorem count (hh : HashIn h s ao m cap r n w) (n' : Int) : HashIn h s ao m cap r n' (w.setCell ⟨h, 9, none⟩ (.int .i64 n')) := by
  refine ⟨?_, hh.off.fr ((Fr.refl (fun k => k = h) w).setCell (p := ⟨h, 9, none⟩) (.inl rfl) _) (fun k hk e => hh.ne (by rw [hk, e])), hh.ne⟩
  rw [heap_set_eq hh.box]
  rfl
/-- the rest is written -/
theorem rest {ao' : Option Addr} {m' cap' : Nat} {r' : List UInt8} {w2 : World} (hh : HashIn h s ao m cap r n w) (hb : w2.heap[h]? = w.heap[h]?) (ho : OffB w2 ao' m' cap' r') (hne : (Value.slice ao' m' cap').ownBlock ≠ some h) :
    HashIn h s ao' m' cap' r' n (w2.setCell ⟨h, 8, none⟩ (.slice ao' m' cap')) := by
  refine ⟨?_, ho.fr ((Fr.refl (fun k => k = h) w2).setCell (p := ⟨h, 8, none⟩) (.inl rfl) _) (fun k hk e => hne (by rw [hk, e])), hne⟩
  rw [heap_set_eq (hb.trans hh.box)]
  rfl
theorem thing (hh : HashIn h s ao m cap r n w) : HashT h s r n w (hashF h ao m cap) := ⟨ao, m, cap, hh, fun _ => Iff.rfl⟩
end HashIn
theorem HashT.ok {h : Nat} {s : S8} {r : List UInt8} {n : Int} : (HashT h s r n).Ok := by
  refine ⟨?_, ?_⟩
  · rintro w F ⟨ao, m, cap, h1, h2⟩ k hk
    exact h1.lt k ((h2 k).1 hk)
  · rintro w w' F S ⟨ao, m, cap, h1, h2⟩ hf hs
    exact ⟨ao, m, cap, h1.fr hf (fun k hk => hs k ((h2 k).2 hk)), h2⟩

def NewHashP (w : World) (e : Ending) (w' : World) : Prop := ∃ h, e = .returned (.pointer (some ⟨h, 0, none⟩)) ∧ HashIn h sha0 none 0 0 [] 0 w' ∧ Fr noBlock w w' ∧ w.heap.size ≤ h
theorem newhash_any (w : World) : Calls Tryz.prog 353 #[] w (NewHashP w) := by
  have HS := Lib.hid (show Calls Tryz.prog 386 #[] w fun e w' => e = .returned (.agg #[.int .u32 1779033703, .int .u32 3144134277, .int .u32 1013904242, .int .u32 2773480762, .int .u32 1359893119, .int .u32 2600822924, .int .u32 528734635, .int .u32 1541459225]) ∧ Fr noBlock w w' from start_any w)
  unfold NewHashP
  go_enter Tryz.func353, Tryz.ntmps353
  go_wp2_with fail
  refine HS.out.mono ?_
  rintro e w1 ⟨rfl, hf⟩
  have HF := Lib.hid hf
  clear hf
  go_wp2_with fail
  go_ret
  exact ⟨w1.heap.size, rfl, ⟨heap_new w1 _, OffB.nil _, by simp [Value.ownBlock]⟩, HF.out.alloc _, HF.out.size⟩
end Go.Proofs.YtajhgejhdalobaaGreatDoor
