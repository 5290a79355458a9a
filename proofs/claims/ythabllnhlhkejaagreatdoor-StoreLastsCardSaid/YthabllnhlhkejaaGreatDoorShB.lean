/-
  THE WALKS of the digest's start and of its block.
-/
import Derived.Deep.RegionLaw
import Derived.Laws.IdiomCopy
import Derived.Deep.MidRow
import Derived.Deep.RegionHeld3
import Derived.Deep.CutBlock
import Derived.Deep.DeepCutAuto
import Derived.BigQuiet
import Derived.Deep.QuietTactic
import Derived.Laws.CopyRow
import Derived.StillTailTactics
import Derived.Test.YthabllnhlhkejaaGreatDoorCyF
import Derived.Test.YthabllnhlhkejaaGreatDoorCrc
namespace Go.Proofs.YthabllnhlhkejaaGreatDoor
open Go.RowKit

theorem heap_setCells {g : Nat} {t : TypeId} {fr : Nat × Nat} : ∀ (vs : List Value) (o : Nat) (w : World) (cur : Array Value), w.heap[g]? = some (.cells cur t fr) → o + vs.length ≤ cur.size →
    ∃ cur', (w.setCells g o vs).heap[g]? = some (.cells cur' t fr) ∧ cur'.size = cur.size ∧ cur'.toList = cur.toList.take o ++ vs ++ cur.toList.drop (o + vs.length) := by
  intro vs
  induction vs with
  | nil => intro o w cur h hl; exact ⟨cur, h, rfl, by simp⟩
  | cons v vs ih =>
    intro o w cur h hl
    simp only [List.length_cons] at hl
    obtain ⟨cur', h1, h2, h3⟩ := ih (o + 1) (w.setCell ⟨g, o, none⟩ v) (cur.setIfInBounds o v) (heap_set_eq h) (by simp; omega)
    refine ⟨cur', h1, by simpa using h2, ?_⟩
    rw [h3, Array.toList_setIfInBounds, List.take_set, List.drop_set_of_lt (by omega), List.length_cons, show o + 1 + vs.length = o + (vs.length + 1) by omega]
    congr 1
    rw [List.take_succ_eq_append_getElem (by simpa using (by omega : o < cur.size)), List.set_append_right _ _ (by simp; omega)]
    simp [show min o cur.size = o by omega]
theorem fr_setCells {S : Nat → Prop} {w0 w : World} (h : Fr S w0 w) {g o : Nat} (hg : S g ∨ w0.heap.size ≤ g) (vs : List Value) : Fr S w0 (w.setCells g o vs) := by
  induction vs generalizing o w with
  | nil => exact h
  | cons v vs ih => exact ih (h.setCell (p := ⟨g, o, none⟩) hg v)

theorem run_clear_row {P : Program} {t e : TypeId} (ht : P.underlying t = some (.slice e)) {z : Value} (hz : ∀ w, (zeroValue e).run P w = .ok z w) {w : World} {g o n c : Nat} {cur : Array Value} (hg : w.heap[g]? = some (.cells cur e (0, 0)))
    (hn : 0 < n) (hfit : o + n * z.cells.size ≤ cur.size) (h1 : ∀ v ∈ z.cells, v.oneCell' = true) :
    ∃ w' cur', (∀ ty, (Builtin.clear_ #[t] ty #[.slice (some ⟨g, o, none⟩) n c]).run P w = .ok (.tuple #[]) w') ∧ w'.heap[g]? = some (.cells cur' e (0, 0)) ∧ cur'.size = cur.size ∧ cur'.toList.take o = cur.toList.take o ∧ Fr (fun k => k = g) w w' := by
  have hl : (Builtin.zeroCells z.cells n).toList.length = n * z.cells.size := by simp [size_zeroCells]
  have hone : ∀ v ∈ (Builtin.zeroCells z.cells n).toList, v.oneCell' = true := by
    intro v hv
    simp [Builtin.zeroCells] at hv
    obtain ⟨i, hi, hv⟩ := hv
    have hp : 0 < z.cells.size := Nat.pos_of_ne_zero (fun e => by rw [e] at hi; omega)
    rw [getElem!_pos z.cells _ (Nat.mod_lt i hp)] at hv
    exact h1 v (hv ▸ Array.getElem_mem _)
  have hst := run_storeCells_at P g o e (Builtin.zeroCells z.cells n).toList 0 cur w hg (by rw [hl]; simpa using hfit) hone
  simp only [Nat.add_zero] at hst
  generalize hcs : (List.take o cur.toList ++ (Builtin.zeroCells z.cells n).toList ++ List.drop (o + (Builtin.zeroCells z.cells n).toList.length) cur.toList).toArray = cs at hst
  have hcs' := congrArg Array.toList hcs
  refine ⟨w.setRow g cs, cs, fun ty => ?_, setRow_heap w g cur cs e _ hg, ?_, ?_, ?_⟩
  · cases n with
    | zero => omega
    | succ n => simp [Builtin.clear_, run_underlying ht, hz, hst]
  · have := congrArg List.length hcs'
    simp [hl] at this
    omega
  · rw [← hcs']
    dsimp only
    rw [List.append_assoc, List.take_append_of_le_length (by simp; omega), List.take_take, Nat.min_self]
  · refine ⟨rfl, rfl, rfl, by simp [World.setRow], fun k hk hn => ?_⟩
    simp only [World.setRow, Array.getElem?_modify]
    rw [if_neg (fun e => hn e.symm)]

/-- a thing struck out: the row behind it has moved -/
theorem flat_erase {α : Type} (R : Rec α) (xs : List α) (i : Nat) : R.flat (xs.eraseIdx i) = (R.flat xs).take (i * R.k) ++ (R.flat xs).drop ((i + 1) * R.k) := by
  rw [R.flat_take, R.flat_drop, ← R.flat_append, List.eraseIdx_eq_take_drop_succ]
end Go.Proofs.YthabllnhlhkejaaGreatDoor
namespace Go.Proofs.YthabllnhlhkejaaGreatDoor
open Go.RowKit


theorem u32x (a b : W32) : bits .xor .u32 (a.toNat : Int) (b.toNat : Int) = ((a ^^^ b).toNat : Int) := by rw [u32_xor_nat _ _ a.isLt b.isLt, BitVec.toNat_xor]
theorem u32a (a b : W32) : bits .and .u32 (a.toNat : Int) (b.toNat : Int) = ((a &&& b).toNat : Int) := by rw [u32_and_nat _ _ a.isLt b.isLt, BitVec.toNat_and]
theorem u32o (a b : W32) : bits .or .u32 (a.toNat : Int) (b.toNat : Int) = ((a ||| b).toNat : Int) := by rw [u32_or_nat _ _ a.isLt b.isLt, BitVec.toNat_or]
theorem u32add (a b : W32) : ((a.toNat : Int) + (b.toNat : Int)) % 4294967296 = ((a + b).toNat : Int) := by
  rw [BitVec.toNat_add]; omega
theorem u32shr (a : W32) (k : Nat) : (a.toNat : Int) / (2 ^ k : Nat) = ((a >>> k).toNat : Int) := by
  rw [BitVec.toNat_ushiftRight, Nat.shiftRight_eq_div_pow]; omega
theorem u32shl (a : W32) (k : Nat) : ((a.toNat : Int) * (2 ^ k : Nat)) % 4294967296 = ((a <<< k).toNat : Int) := by
  rw [BitVec.toNat_shiftLeft, Nat.shiftLeft_eq]; omega
theorem rot_u32 (a : W32) (n : Nat) : bits .or .u32 (((a.toNat : Int) * (2 ^ (32 - n) : Nat)) % 4294967296) ((a.toNat : Int) / (2 ^ n : Nat)) = ((rotr a n).toNat : Int) := by
  rw [u32shl, u32shr, u32o, BitVec.or_comm]
  rfl
/-- a turn to the right by n, where it is asked -/
def RotP (n : Nat) : Prop := ∀ (a : W32) (w : World), Calls Tryz.prog 163 #[.int .u32 (a.toNat : Int), .int .i64 (-(n : Int))] w fun e w' => e = .returned (.int .u32 ((rotr a n).toNat : Int)) ∧ w = w'
theorem rl32_2 : RotP 2 := by
  intro a w
  have H := Lib.hid (rot_u32 a 2)
  have q1 : bits .and .u64 (IntKind.u64.wrap (-2)) 31 = 30 := by decide
  go_enter Tryz.func163, Tryz.ntmps163
  go_wp2_with fail
  go_ret
  exact ⟨by rw [← H.out]; rfl, rfl⟩
theorem rl32_6 : RotP 6 := by
  intro a w
  have H := Lib.hid (rot_u32 a 6)
  have q1 : bits .and .u64 (IntKind.u64.wrap (-6)) 31 = 26 := by decide
  go_enter Tryz.func163, Tryz.ntmps163
  go_wp2_with fail
  go_ret
  exact ⟨by rw [← H.out]; rfl, rfl⟩
theorem rl32_7 : RotP 7 := by
  intro a w
  have H := Lib.hid (rot_u32 a 7)
  have q1 : bits .and .u64 (IntKind.u64.wrap (-7)) 31 = 25 := by decide
  go_enter Tryz.func163, Tryz.ntmps163
  go_wp2_with fail
  go_ret
  exact ⟨by rw [← H.out]; rfl, rfl⟩
theorem rl32_11 : RotP 11 := by
  intro a w
  have H := Lib.hid (rot_u32 a 11)
  have q1 : bits .and .u64 (IntKind.u64.wrap (-11)) 31 = 21 := by decide
  go_enter Tryz.func163, Tryz.ntmps163
  go_wp2_with fail
  go_ret
  exact ⟨by rw [← H.out]; rfl, rfl⟩
theorem rl32_13 : RotP 13 := by
  intro a w
  have H := Lib.hid (rot_u32 a 13)
  have q1 : bits .and .u64 (IntKind.u64.wrap (-13)) 31 = 19 := by decide
  go_enter Tryz.func163, Tryz.ntmps163
  go_wp2_with fail
  go_ret
  exact ⟨by rw [← H.out]; rfl, rfl⟩
theorem rl32_17 : RotP 17 := by
  intro a w
  have H := Lib.hid (rot_u32 a 17)
  have q1 : bits .and .u64 (IntKind.u64.wrap (-17)) 31 = 15 := by decide
  go_enter Tryz.func163, Tryz.ntmps163
  go_wp2_with fail
  go_ret
  exact ⟨by rw [← H.out]; rfl, rfl⟩
theorem rl32_18 : RotP 18 := by
  intro a w
  have H := Lib.hid (rot_u32 a 18)
  have q1 : bits .and .u64 (IntKind.u64.wrap (-18)) 31 = 14 := by decide
  go_enter Tryz.func163, Tryz.ntmps163
  go_wp2_with fail
  go_ret
  exact ⟨by rw [← H.out]; rfl, rfl⟩
theorem rl32_19 : RotP 19 := by
  intro a w
  have H := Lib.hid (rot_u32 a 19)
  have q1 : bits .and .u64 (IntKind.u64.wrap (-19)) 31 = 13 := by decide
  go_enter Tryz.func163, Tryz.ntmps163
  go_wp2_with fail
  go_ret
  exact ⟨by rw [← H.out]; rfl, rfl⟩
theorem rl32_22 : RotP 22 := by
  intro a w
  have H := Lib.hid (rot_u32 a 22)
  have q1 : bits .and .u64 (IntKind.u64.wrap (-22)) 31 = 10 := by decide
  go_enter Tryz.func163, Tryz.ntmps163
  go_wp2_with fail
  go_ret
  exact ⟨by rw [← H.out]; rfl, rfl⟩
theorem rl32_25 : RotP 25 := by
  intro a w
  have H := Lib.hid (rot_u32 a 25)
  have q1 : bits .and .u64 (IntKind.u64.wrap (-25)) 31 = 7 := by decide
  go_enter Tryz.func163, Tryz.ntmps163
  go_wp2_with fail
  go_ret
  exact ⟨by rw [← H.out]; rfl, rfl⟩
theorem rot_all {n : Nat} (h : n ∈ [2, 6, 7, 11, 13, 17, 18, 19, 22, 25]) : RotP n := by
  simp only [List.mem_cons, List.not_mem_nil, or_false] at h
  rcases h with rfl | rfl | rfl | rfl | rfl | rfl | rfl | rfl | rfl | rfl
  · exact rl32_2
  · exact rl32_6
  · exact rl32_7
  · exact rl32_11
  · exact rl32_13
  · exact rl32_17
  · exact rl32_18
  · exact rl32_19
  · exact rl32_22
  · exact rl32_25
theorem right_any (a : W32) (n : Nat) (h : n ∈ [2, 6, 7, 11, 13, 17, 18, 19, 22, 25]) (w : World) : Calls Tryz.prog 159 #[.int .u32 (a.toNat : Int), .int .i64 (n : Int)] w fun e w' => e = .returned (.int .u32 ((rotr a n).toNat : Int)) ∧ w = w' := by
  have HR := Lib.hid (rot_all h)
  unfold RotP at HR
  have hb : n < 32 := by simp at h; omega
  have q : wrap64 (-(n : Int)) = -(n : Int) := by unfold wrap64; omega
  clear h
  go_enter Tryz.func159, Tryz.ntmps159
  go_wp2_with fail
  refine (HR.out a w).mono ?_
  rintro e w' ⟨rfl, rfl⟩
  go_wp2_with fail
  go_ret
  exact ⟨rfl, rfl⟩
theorem u32b (c : UInt8) : (c.toNat : Int) = ((BitVec.ofNat 32 c.toNat).toNat : Int) := by
  rw [BitVec.toNat_ofNat]
  have := c.toNat_lt
  omega
theorem u32b' (c : UInt8) : (c.toNat : Int) % 4294967296 = ((BitVec.ofNat 32 c.toNat).toNat : Int) := by
  rw [← u32b]
  have := c.toNat_lt
  omega
theorem word_u32 (b0 b1 b2 b3 : UInt8) : bits .or .u32 (bits .or .u32 (bits .or .u32 ((b0.toNat : Int) % 4294967296 * 16777216 % 4294967296) ((b1.toNat : Int) % 4294967296 * 65536 % 4294967296)) ((b2.toNat : Int) % 4294967296 * 256 % 4294967296)) ((b3.toNat : Int) % 4294967296) =
    (((((BitVec.ofNat 32 b0.toNat <<< 24) ||| (BitVec.ofNat 32 b1.toNat <<< 16)) ||| (BitVec.ofNat 32 b2.toNat <<< 8)) ||| BitVec.ofNat 32 b3.toNat).toNat : Int) := by
  have h0 := u32shl (BitVec.ofNat 32 b0.toNat) 24
  have h1 := u32shl (BitVec.ofNat 32 b1.toNat) 16
  have h2 := u32shl (BitVec.ofNat 32 b2.toNat) 8
  rw [u32b', u32b', u32b', u32b', show (16777216 : Int) = ((2 ^ 24 : Nat) : Int) from rfl, show (65536 : Int) = ((2 ^ 16 : Nat) : Int) from rfl, show (256 : Int) = ((2 ^ 8 : Nat) : Int) from rfl, h0, h1, h2, u32o, u32o, u32o]
theorem word_any {x : List UInt8} {b off : Nat} {w : World} (h : RowRd ByteR w (some ⟨b, off, none⟩) x) (n c : Nat) (hn : 4 ≤ n) (hl : 4 ≤ x.length) : Calls Tryz.prog 158 #[.slice (some ⟨b, off, none⟩) n c] w fun e w' => e = .returned (.int .u32 ((wordOf x 0).toNat : Int)) ∧ Fr noBlock w w' := by
  have c0 := byte_rd h (i := 0) (by omega)
  have c1 := byte_rd h (i := 1) (by omega)
  have c2 := byte_rd h (i := 2) (by omega)
  have c3 := byte_rd h (i := 3) (by omega)
  have HW := Lib.hid (show wordOf x 0 = (((BitVec.ofNat 32 x[0].toNat <<< 24) ||| (BitVec.ofNat 32 x[1].toNat <<< 16)) ||| (BitVec.ofNat 32 x[2].toNat <<< 8)) ||| BitVec.ofNat 32 x[3].toNat by
    unfold wordOf
    rw [List.getD_eq_getElem?_getD, List.getD_eq_getElem?_getD, List.getD_eq_getElem?_getD, List.getD_eq_getElem?_getD, List.getElem?_eq_getElem (by omega), List.getElem?_eq_getElem (by omega), List.getElem?_eq_getElem (by omega), List.getElem?_eq_getElem (by omega)]
    rfl)
  unfold byteV at c0 c1 c2 c3
  rw [Nat.add_zero] at c0
  generalize x[0] = b0 at *
  generalize x[1] = b1 at *
  generalize x[2] = b2 at *
  generalize x[3] = b3 at *
  have p0 : (0 : Int) < (n : Int) := by omega
  have p1 : (1 : Int) < (n : Int) := by omega
  have p2 : (2 : Int) < (n : Int) := by omega
  have p3 : (3 : Int) < (n : Int) := by omega
  clear h hn hl
  go_enter Tryz.func158, Tryz.ntmps158
  go_wp2_with fail
  go_quiet (fail)
  go_wp2_with fail
  go_ret
  exact ⟨by rw [HW.out, ← word_u32]; rfl, (Fr.refl noBlock w).drewN _⟩
theorem shaK_one : ∀ v ∈ shaK.map u32V, v.oneCell' = true := by
  intro v hv
  obtain ⟨k, _, rfl⟩ := List.mem_map.1 hv
  rfl
theorem there_of {w : World} {b n : Nat} {cs : Array Value} {t : TypeId} (h : w.heap[b]? = some (.cells cs t (0, 0))) (hn : cs.size = n) : w.there b 0 n := fun j hj => by
  rw [Nat.zero_add, cell_of h, free_of h]
  exact ⟨by rw [Array.getElem?_eq_getElem (by omega)]; rfl, rfl⟩
/-- a block is written over, whole -/
theorem heap_over {w : World} {b : Nat} {cs : Array Value} {t : TypeId} {fr : Nat × Nat} (vs : List Value) (h : w.heap[b]? = some (.cells cs t fr)) (hn : cs.size = vs.length) : (w.setCells b 0 vs).heap[b]? = some (.cells vs.toArray t fr) := by
  obtain ⟨cur, h1, h2, h3⟩ := heap_setCells vs 0 w cs h (by omega)
  rw [h1]
  have : cur.toList = vs := by
    rw [h3, List.take_zero, List.nil_append, List.drop_of_length_le (by simp; omega), List.append_nil]
  rw [← this]
set_option maxRecDepth 100000 in
set_option maxHeartbeats 1600000 in
theorem words_any (w : World) : Calls Tryz.prog 143 #[] w fun e w' => e = .returned (.agg (shaK.map u32V).toArray) ∧ Fr noBlock w w' := by
  go_enter Tryz.func143, Tryz.ntmps143
  go_upto_region 1 with fail
  refine wp_at (fun W => (∃ cs, W.heap[w.heap.size]? = some (.cells cs 211 (0, 0)) ∧ cs.size = 64) ∧ Fr noBlock w W) ⟨⟨_, heap_new w _, by rfl⟩, (Fr.refl noBlock w).alloc _⟩ ?_
  rintro W ⟨⟨cs, hc, hs⟩, hf⟩
  have ht := there_of hc hs
  have HO := Lib.hid (fun vs (hv : vs.length = 64) => heap_over vs hc (by rw [hs, hv]))
  have HF := Lib.hid (fun vs => fr_setCells hf (.inr (Nat.le_refl w.heap.size)) (g := w.heap.size) (o := 0) vs)
  clear hc hs hf
  have hinfo : (Tryz.prog.info? 211).map (·.size) = some 64 := by kernel_rfl
  go_step
  go_step
  go_step
  go_step
  refine wpList_store_mid (by rfl) 211 _ _ (by rfl) w.heap.size 0 _ (by rfl) (by rfl) (by exact ht) (by exact hinfo) (by kernel_rfl) ?_
  obtain ⟨WE, hWE⟩ : ∃ WE : World, WE = W := ⟨_, rfl⟩
  go_step
  go_step
  go_step
  go_step
  refine bodyPost_ret (v := .agg (shaK.map u32V).toArray) (results_cell_row Tryz.results143 _ _ w.heap.size 211 _ (0, 0) _ rfl (HO.out _ rfl) Tryz.underlying211 rfl hinfo) rfl ⟨rfl, HF.out _⟩
end Go.Proofs.YthabllnhlhkejaaGreatDoor
namespace Go.Proofs.YthabllnhlhkejaaGreatDoor
open Go.RowKit

theorem start_any (w : World) : Calls Tryz.prog 142 #[] w fun e w' => e = .returned (.agg (sha0.list.map u32V).toArray) ∧ Fr noBlock w w' := by
  have hinfo : (Tryz.prog.info? 207).map (·.size) = some 8 := by kernel_rfl
  go_enter Tryz.func142, Tryz.ntmps142
  go_wp2_with fail
  exact bodyPost_ret (v := .agg (sha0.list.map u32V).toArray) (results_cell_row Tryz.results142 _ _ w.heap.size 207 _ (0, 0) _ rfl (heap_new w _) Tryz.underlying207 rfl hinfo) rfl ⟨rfl, (Fr.refl noBlock w).alloc _⟩

/-- the row of 64 words, t of them laid -/
def schedL (b : List UInt8) (t : Nat) : List W32 := sched b t ++ List.replicate (64 - t) 0
theorem schedL_len (b : List UInt8) {t : Nat} (h : t ≤ 64) : (schedL b t).length = 64 := by
  unfold schedL
  rw [List.length_append, sched_len, List.length_replicate]
  omega
theorem schedL_set (b : List UInt8) {t : Nat} (h : t < 64) : (schedL b t).set t (nextW b (sched b t) t) = schedL b (t + 1) := by
  unfold schedL
  rw [List.set_append_right _ _ (by rw [sched_len]; exact Nat.le_refl _), sched_len, Nat.sub_self, show 64 - t = (64 - (t + 1)) + 1 by omega, List.replicate_succ, List.set_cons_zero, sched, List.append_assoc]
  rfl
theorem schedL_get (b : List UInt8) {t i : Nat} (h : i < t) : (schedL b t)[i]? = some ((sched b t).getD i 0) := by
  unfold schedL
  rw [List.getElem?_append_left (by rw [sched_len]; exact h), List.getD_eq_getElem?_getD, List.getElem?_eq_getElem (by rw [sched_len]; exact h)]
  rfl
def wordsO (l : List W32) (t : TypeId) : Obj := .cells (l.map u32V).toArray t (0, 0)
theorem words_cell {w : World} {b : Nat} {l : List W32} {t : TypeId} (h : w.heap[b]? = some (wordsO l t)) {i : Nat} {x : W32} (hi : l[i]? = some x) : w.cell? ⟨b, i, none⟩ = some (.int .u32 (x.toNat : Int)) ∧ w.frozen? ⟨b, i, none⟩ = false := by
  refine ⟨?_, free_of h i⟩
  rw [cell_of h]
  simp [hi, u32V]
theorem words_set {w : World} {b : Nat} {l : List W32} {t : TypeId} (h : w.heap[b]? = some (wordsO l t)) (i : Nat) (x : W32) : (w.setCell ⟨b, i, none⟩ (.int .u32 (x.toNat : Int))).heap[b]? = some (wordsO (l.set i x) t) := by
  have := heap_set_eq (i := i) (u := .int .u32 (x.toNat : Int)) h
  rw [this]
  unfold wordsO
  congr 2
  simp [u32V, List.map_set]
def cellAt (W : World) (p : Addr) : Value := (W.cell? p).getD undef
theorem cellAt_some {W : World} {p : Addr} {v : Value} (h : W.cell? p = some v) : W.cell? p = some (cellAt W p) := by
  unfold cellAt
  rw [h]
  rfl
theorem keep_two {W : World} {b i j t : Nat} {x y z v : Value} (h1 : W.cell? ⟨b, i, none⟩ = some x) (h2 : W.cell? ⟨b, j, none⟩ = some y) (h3 : W.cell? ⟨b, t, none⟩ = some z) (h4 : W.frozen? ⟨b, t, none⟩ = false) (hi : i ≠ t) (hj : j ≠ t) :
    ((W.setCell ⟨b, t, none⟩ v).drew).cell? ⟨b, i, none⟩ = some x ∧ ((W.setCell ⟨b, t, none⟩ v).drew).cell? ⟨b, j, none⟩ = some y ∧ ((W.setCell ⟨b, t, none⟩ v).drew).cell? ⟨b, t, none⟩ = some (cellAt ((W.setCell ⟨b, t, none⟩ v).drew) ⟨b, t, none⟩) ∧ ((W.setCell ⟨b, t, none⟩ v).drew).frozen? ⟨b, t, none⟩ = false := by
  have e1 : ((W.setCell ⟨b, t, none⟩ v).drew).cell? ⟨b, i, none⟩ = some x := (World.cell?_setCell_other _ ⟨b, t, none⟩ ⟨b, i, none⟩ _ (by simp <;> omega)).trans h1
  have e2 : ((W.setCell ⟨b, t, none⟩ v).drew).cell? ⟨b, j, none⟩ = some y := (World.cell?_setCell_other _ ⟨b, t, none⟩ ⟨b, j, none⟩ _ (by simp <;> omega)).trans h2
  have e3 : ((W.setCell ⟨b, t, none⟩ v).drew).cell? ⟨b, t, none⟩ = some v := World.cell?_setCell_same W ⟨b, t, none⟩ v h3
  exact ⟨e1, e2, cellAt_some e3, by simpa using h4⟩
set_option maxRecDepth 100000 in
/-- copy(v[1:], v[:7]) of eight words -/
theorem step_copyW {ops : Array Oper} {o : Oper} {a : Act} {w : World} {K : Act → World → Prop} {Q : Exit → Act → World → Prop} {G : Prop} (hgd : o.guard = none) (d s : Operand) (ho : o.op = .call { callee := .builtin .copy, args := #[d, s], argTypes := #[225, 225] })
    {g : Nat} {l : List W32} {t : TypeId} (hg : w.heap[g]? = some (wordsO l t)) (hl : l.length = 8) {dc sc : Nat} (ed : a.eval d = .slice (some ⟨g, 1, none⟩) 7 dc) (es : a.eval s = .slice (some ⟨g, 0, none⟩) 7 sc)
    (h : ∀ w', w'.heap[g]? = some (wordsO (l.take 1 ++ l.take 7) t) → Fr (fun k => k = g) w w' → K (a.put o.dst (.int .i64 7)) w') :
    if Region.wanted o (yielded ops a.tmps) = true then Oper.wp Tryz.prog o a w K Q else G := by
  have hw : Region.wanted o (yielded ops a.tmps) = true := by simp [Region.wanted, hgd]
  rw [if_pos hw]
  have hsz : (Tryz.prog.info? 61).map (·.size) = some 1 := by kernel_rfl
  have hcl : ((l.take 7).map u32V).length = 7 := by rw [List.length_map, List.length_take]; omega
  have hrun := run_copy_row (P := Tryz.prog) w 225 225 o.type 61 g 1 7 dc ⟨g, 0, none⟩ 7 sc _ t ((l.take 7).map u32V) Tryz.underlying225 hsz hg (by rw [hcl]; rfl)
    (by
      intro j v hj
      rw [Addr.add_lit, Nat.zero_add, cell_of hg]
      rw [List.getElem?_map, List.getElem?_take] at hj
      split at hj
      · simpa using hj
      · cases hj)
    (by rw [hcl]; simp [hl]) (by intro v hv; obtain ⟨q, _, rfl⟩ := List.mem_map.1 hv; rfl)
  rw [hcl] at hrun
  unfold Oper.wp execOp
  simp only [ho, resolve, invoke, builtin, Sem.run_bind, Sem.run_pure, Result.andThen_ok, List.map_toArray, List.map_cons, List.map_nil, ed, es, hrun]
  refine h _ ?_ (fr_setRow g _)
  rw [setRow_heap w g _ _ t _ hg]
  unfold wordsO
  congr 2
  simp [List.map_take, List.map_append, hl]
theorem wordOf_take {x : List UInt8} (_hl : 64 ≤ x.length) {i : Nat} (hi : i + 3 < 64) : wordOf (x.take 64) i = wordOf x i := by
  have g : ∀ j, j < 64 → (x.take 64).getD j 0 = x.getD j 0 := by
    intro j hj
    rw [List.getD_eq_getElem?_getD, List.getD_eq_getElem?_getD, List.getElem?_take, if_pos hj]
  unfold wordOf
  rw [g i (by omega), g (i + 1) (by omega), g (i + 2) (by omega), g (i + 3) (by omega)]
theorem sched_take {x : List UInt8} (hl : 64 ≤ x.length) (t : Nat) : sched (x.take 64) t = sched x t := by
  induction t with
  | zero => rfl
  | succ t ih =>
    have e : nextW (x.take 64) (sched x t) t = nextW x (sched x t) t := by
      unfold nextW
      split
      · rw [wordOf_take hl (by omega)]
      · rfl
    rw [sched, sched, ih, e]
theorem rounds_take {x : List UInt8} (hl : 64 ≤ x.length) (s : S8) (t : Nat) : rounds (x.take 64) s t = rounds x s t := by
  induction t with
  | zero => rfl
  | succ t ih => rw [rounds, rounds, ih, sched_take hl]
/-- the sum, i words of it laid -/
def addL (s r : S8) (i : Nat) : List W32 := (s.add r).list.take i ++ s.list.drop i
theorem addL_step (s r : S8) {i : Nat} (h : i < 8) : ∃ p q, (addL s r i)[i]? = some p ∧ r.list[i]? = some q ∧ (addL s r i).set i (p + q) = addL s r (i + 1) := by
  rcases (show i = 0 ∨ i = 1 ∨ i = 2 ∨ i = 3 ∨ i = 4 ∨ i = 5 ∨ i = 6 ∨ i = 7 by omega) with rfl | rfl | rfl | rfl | rfl | rfl | rfl | rfl <;> exact ⟨_, _, rfl, rfl, by simp [addL, S8.add, S8.list]⟩
theorem addL_len (s r : S8) {i : Nat} (h : i ≤ 8) : (addL s r i).length = 8 := by
  unfold addL
  simp [S8.list]
  omega
theorem addL_all (s r : S8) : addL s r 8 = (s.add r).list := rfl
/-- words ahead of other cells -/
def headO (l : List W32) (r : List Value) (t : TypeId) : Obj := .cells (l.map u32V ++ r).toArray t (0, 0)
theorem head_cell {w : World} {b : Nat} {l : List W32} {r : List Value} {t : TypeId} (h : w.heap[b]? = some (headO l r t)) {i : Nat} {x : W32} (hi : l[i]? = some x) : w.cell? ⟨b, i, none⟩ = some (.int .u32 (x.toNat : Int)) ∧ w.frozen? ⟨b, i, none⟩ = false := by
  refine ⟨?_, free_of h i⟩
  have hlt := (List.getElem?_eq_some_iff.1 hi).1
  rw [cell_of h, List.getElem?_toArray, List.getElem?_append_left (by simpa using hlt), List.getElem?_map, hi]
  rfl
theorem head_set {w : World} {b : Nat} {l : List W32} {r : List Value} {t : TypeId} (h : w.heap[b]? = some (headO l r t)) {i : Nat} (hi : i < l.length) (x : W32) : (w.setCell ⟨b, i, none⟩ (.int .u32 (x.toNat : Int))).heap[b]? = some (headO (l.set i x) r t) := by
  have := heap_set_eq (i := i) (u := .int .u32 (x.toNat : Int)) h
  rw [this]
  unfold headO
  congr 2
  rw [List.setIfInBounds_toArray, List.set_append_left _ _ (by simpa using hi), List.map_set]
  rfl
theorem add4_u32 (h s c k w : W32) : (((h.toNat : Int) + (s.toNat : Int) + (c.toNat : Int) + (k.toNat : Int)) % 4294967296 + (w.toNat : Int)) % 4294967296 = ((((((h + s) + c) + k) + w)).toNat : Int) := by
  simp only [BitVec.toNat_add]
  omega
theorem sumX_u32 (R : S8) (k w : W32) : (((R.h.toNat : Int) + bits .xor .u32 (bits .xor .u32 ((rotr R.e 6).toNat : Int) ((rotr R.e 11).toNat : Int)) ((rotr R.e 25).toNat : Int) + bits .xor .u32 (R.g.toNat : Int) (bits .and .u32 (R.e.toNat : Int) (bits .xor .u32 (R.f.toNat : Int) (R.g.toNat : Int))) + (k.toNat : Int)) % 4294967296 + (w.toNat : Int)) % 4294967296 = ((R.sumX k w).toNat : Int) := by
  rw [u32x, u32x, u32x, u32a, u32x, add4_u32]
  rfl
theorem sumY_u32 (R : S8) : ((bits .xor .u32 (bits .xor .u32 ((rotr R.a 2).toNat : Int) ((rotr R.a 13).toNat : Int)) ((rotr R.a 22).toNat : Int)) + bits .xor .u32 (bits .xor .u32 (bits .and .u32 (R.a.toNat : Int) (R.b.toNat : Int)) (bits .and .u32 (R.a.toNat : Int) (R.c.toNat : Int))) (bits .and .u32 (R.b.toNat : Int) (R.c.toNat : Int))) % 4294967296 = (R.sumY.toNat : Int) := by
  rw [u32x, u32x, u32a, u32a, u32x, u32a, u32x, u32add]
  rfl
def RightP (a : W32) (z : Int) (n : Nat) : Prop := ∀ W, Calls Tryz.prog 159 #[.int .u32 (a.toNat : Int), .int .i64 z] W fun e w' => e = .returned (.int .u32 ((rotr a n).toNat : Int)) ∧ W = w'
theorem rightP (a : W32) {n : Nat} (h : n ∈ [2, 6, 7, 11, 13, 17, 18, 19, 22, 25]) {z : Int} (hz : z = (n : Int)) : RightP a z n := by
  subst hz
  exact fun W => right_any a n h W
theorem sig0_u32 (b : W32) : bits .xor .u32 (bits .xor .u32 ((rotr b 7).toNat : Int) ((rotr b 18).toNat : Int)) ((b.toNat : Int) / 8) = ((((rotr b 7 ^^^ rotr b 18) ^^^ b >>> 3)).toNat : Int) := by
  have h := u32shr b 3
  rw [show (8 : Int) = ((2 ^ 3 : Nat) : Int) from rfl, h, u32x, u32x]
theorem sig1_u32 (b : W32) : bits .xor .u32 (bits .xor .u32 ((rotr b 17).toNat : Int) ((rotr b 19).toNat : Int)) ((b.toNat : Int) / 1024) = ((((rotr b 17 ^^^ rotr b 19) ^^^ b >>> 10)).toNat : Int) := by
  have h := u32shr b 10
  rw [show (1024 : Int) = ((2 ^ 10 : Nat) : Int) from rfl, h, u32x, u32x]
theorem next_u32 (A16 A15 A7 A2 : W32) : IntKind.u32.wrap (IntKind.u32.wrap (IntKind.u32.wrap ((A16.toNat : Int) + bits .xor .u32 (bits .xor .u32 ((rotr A15 7).toNat : Int) ((rotr A15 18).toNat : Int)) ((A15.toNat : Int) / 8)) + (A7.toNat : Int)) + bits .xor .u32 (bits .xor .u32 ((rotr A2 17).toNat : Int) ((rotr A2 19).toNat : Int)) ((A2.toNat : Int) / 1024)) =
    ((((A16 + ((rotr A15 7 ^^^ rotr A15 18) ^^^ A15 >>> 3)) + A7) + ((rotr A2 17 ^^^ rotr A2 19) ^^^ A2 >>> 10)).toNat : Int) := by
  rw [sig0_u32, sig1_u32, IntKind.wrap_u32', IntKind.wrap_u32', IntKind.wrap_u32', u32add, u32add, u32add]
end Go.Proofs.YthabllnhlhkejaaGreatDoor
