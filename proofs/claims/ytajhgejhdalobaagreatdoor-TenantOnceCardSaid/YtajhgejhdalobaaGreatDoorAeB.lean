/-
  THE WALK of turn: each byte is mapped, the rows are turned.
-/
import Derived.Test.YtajhgejhdalobaaGreatDoorMcA
namespace Go.Proofs.YtajhgejhdalobaaGreatDoor
open Go.RowKit

def bytesO (l : List UInt8) (t : TypeId) : Obj := .cells (l.map byteV).toArray t (0, 0)
theorem bytesO_cell {w : World} {b : Nat} {l : List UInt8} {t : TypeId} (h : w.heap[b]? = some (bytesO l t)) {i : Nat} {c : UInt8} (hc : l[i]? = some c) : w.cell? ⟨b, i, none⟩ = some (.int .u8 (c.toNat : Int)) ∧ w.frozen? ⟨b, i, none⟩ = false := by
  refine ⟨?_, free_of h i⟩
  rw [cell_of h]
  simp [hc, byteV]
theorem bytesO_set {w : World} {b : Nat} {l : List UInt8} {t : TypeId} (h : w.heap[b]? = some (bytesO l t)) (i : Nat) (c : UInt8) : (w.setCell ⟨b, i, none⟩ (.int .u8 (c.toNat : Int))).heap[b]? = some (bytesO (l.set i c) t) := by
  rw [heap_set_eq h]
  unfold bytesO
  congr 2
  simp [byteV, List.map_set]
def layF (l k : List UInt8) : List UInt8 := List.zipWith (· ^^^ ·) l k
def layL (l k : List UInt8) (i : Nat) : List UInt8 := (layF l k).take i ++ l.drop i
theorem layF_len {l k : List UInt8} (h : l.length = k.length) : (layF l k).length = l.length := by simp [layF]; omega
theorem layL_len {l k : List UInt8} (h : l.length = k.length) {i : Nat} (hi : i ≤ l.length) : (layL l k i).length = l.length := by
  unfold layL
  rw [List.length_append, List.length_take, layF_len h, List.length_drop]
  omega
theorem layL_zero (l k : List UInt8) : layL l k 0 = l := by simp [layL]
theorem layL_all {l k : List UInt8} (h : l.length = k.length) : layL l k l.length = layF l k := by
  unfold layL
  rw [List.drop_length, List.append_nil, List.take_of_length_le (by rw [layF_len h]; exact Nat.le_refl _)]
theorem layL_get {l k : List UInt8} (h : l.length = k.length) {i : Nat} (hi : i < l.length) : (layL l k i)[i]? = some l[i] := by
  unfold layL
  have e : ((layF l k).take i).length = i := by rw [List.length_take, layF_len h]; omega
  rw [List.getElem?_append_right (by omega), e, Nat.sub_self, List.getElem?_drop, Nat.add_zero, List.getElem?_eq_getElem hi]
theorem layL_set {l k : List UInt8} (h : l.length = k.length) {i : Nat} (hi : i < l.length) : (layL l k i).set i (l[i] ^^^ k[i]) = layL l k (i + 1) := by
  unfold layL
  have e : ((layF l k).take i).length = i := by rw [List.length_take, layF_len h]; omega
  have hf : i < (layF l k).length := by rw [layF_len h]; exact hi
  rw [List.set_append_right _ _ (by omega), e, Nat.sub_self, List.take_succ_eq_append_getElem hf, List.append_assoc, List.drop_eq_getElem_cons hi, List.set_cons_zero]
  simp [layF]
set_option maxRecDepth 100000 in
set_option maxHeartbeats 1600000 in
theorem lay_any {w : World} {b : Nat} {l k : List UInt8} (hb : w.heap[b]? = some (bytesO l 421)) (hl : l.length = 16) (hk : k.length = 16) : Calls Tryz.prog 368 #[.pointer (some ⟨b, 0, none⟩), .agg (k.map byteV).toArray] w fun e w' => e = .returned (.tuple #[]) ∧ w'.heap[b]? = some (bytesO (layF l k) 421) ∧ Fr (fun q => q = b) w w' := by
  have hblt := heap_lt hb
  have hlk : l.length = k.length := by omega
  have HB := Lib.hid hb
  have HKb := Lib.hid (show (w.alloc (bytesO k 421)).heap[w.heap.size]? = some (bytesO k 421) from heap_new w _)
  clear hb
  have HA := Lib.hid (show (w.alloc (bytesO k 421)).heap[b]? = some (bytesO (layL l k 0) 421) by rw [layL_zero]; exact heap_old _ HB.out)
  have HFa := Lib.hid ((Fr.refl (fun q => q = b) w).alloc (bytesO k 421))
  go_enter Tryz.func368, Tryz.ntmps368
  go_upto_region 1 with fail
  refine wp_at (fun W => W.heap[b]? = some (bytesO (layL l k 0) 421) ∧ W.heap[w.heap.size]? = some (bytesO k 421) ∧ Fr (fun q => q = b) w W) ⟨HA.out, HKb.out, HFa.out⟩ ?_
  clear HA HKb HFa HB
  rintro w1 ⟨h1, h2, f1⟩
  have H1 := Lib.hid (And.intro h1 (And.intro h2 f1))
  clear h1 h2 f1
  go_wp2_with fail
  go_loopw [5] (fun s5 W => ∃ i : Nat, i ≤ 16 ∧ s5 = .int .i64 i ∧ Hid (W.heap[b]? = some (bytesO (layL l k i) 421) ∧ W.heap[w.heap.size]? = some (bytesO k 421) ∧ Fr (fun q => q = b) w W)) (fun s5 _ => 16 - (intOf s5).toNat)
  case atStart => exact ⟨0, by omega, rfl, H1⟩
  case round =>
    clear H1
    obtain ⟨i, hi, rfl, HI⟩ := hrel
    by_cases hlt : i < 16
    · have q1 : (i : Int) < 16 := by omega
      have q0 : (0 : Int) ≤ (i : Int) := by omega
      have hil : i < l.length := by omega
      have hik : i < k.length := by omega
      obtain ⟨x0, x1⟩ := bytesO_cell HI.out.1 (layL_get hlk hil)
      obtain ⟨y0, -⟩ := bytesO_cell HI.out.2.1 (List.getElem?_eq_getElem hik)
      have HB2 := Lib.hid (bytesO_set ((Fr.refl noBlock wr).drew.obj HI.out.1 (fun z => z)) i (l[i] ^^^ k[i]))
      rw [layL_set hlk hil] at HB2
      have hne : b ≠ w.heap.size := by omega
      have HK2 := Lib.hid (heap_set_ne (b := b) (i := i) (u := .int .u8 ((l[i] ^^^ k[i]).toNat : Int)) ((Fr.refl noBlock wr).drew.obj HI.out.2.1 (fun z => z)) (fun e => hne e.symm))
      have HF2 := Lib.hid (fr_set_at HI.out.2.2.drew i (.int .u8 ((l[i] ^^^ k[i]).toNat : Int)))
      generalize l[i] = x at *
      generalize k[i] = y at *
      have HV := Lib.hid (u8x x y)
      rw [← HV.out] at HB2 HK2 HF2
      go_wp2_with fail
      go_still_tail 11, (by kernel_rfl)
      change wpList _ _ _ _ _ wr.drew
      go_wp2_with fail
      go_roundw
      case rel => exact ⟨i + 1, hlt, by go_num, Lib.hid ⟨HB2.out, HK2.out, HF2.out⟩⟩
      case measure => simp [intOf]; omega
    · have q1 : (16 : Int) ≤ (i : Int) := by omega
      obtain rfl : i = 16 := by omega
      go_wp2_with fail
      go_end0
      refine ⟨rfl, ?_, HI.out.2.2⟩
      have h := HI.out.1
      rw [show (16 : Nat) = l.length by omega, layL_all hlk] at h
      exact h
end Go.Proofs.YtajhgejhdalobaaGreatDoor
namespace Go.Proofs.YtajhgejhdalobaaGreatDoor
open Go.RowKit

def overL (n o : List UInt8) (i : Nat) : List UInt8 := n.take i ++ o.drop i
theorem overL_len {n o : List UInt8} (h : n.length = o.length) {i : Nat} (hi : i ≤ o.length) : (overL n o i).length = o.length := by
  unfold overL
  rw [List.length_append, List.length_take, h, List.length_drop]
  omega
theorem overL_zero (n o : List UInt8) : overL n o 0 = o := by simp [overL]
theorem overL_all {n o : List UInt8} {i : Nat} (h : n.length = o.length) (hi : i = o.length) : overL n o i = n := by
  subst hi
  unfold overL
  rw [List.drop_length, List.append_nil, List.take_of_length_le (by omega)]
theorem overL_get {n o : List UInt8} (h : n.length = o.length) {i : Nat} (hi : i < o.length) : (overL n o i)[i]? = some o[i] := by
  unfold overL
  have e : (n.take i).length = i := by rw [List.length_take]; omega
  rw [List.getElem?_append_right (by omega), e, Nat.sub_self, List.getElem?_drop, Nat.add_zero, List.getElem?_eq_getElem hi]
theorem overL_set {n o : List UInt8} (h : n.length = o.length) {i : Nat} (hi : i < o.length) (c : UInt8) (hc : n[i]? = some c) : (overL n o i).set i c = overL n o (i + 1) := by
  unfold overL
  have e : (n.take i).length = i := by rw [List.length_take]; omega
  rw [List.set_append_right _ _ (by omega), e, Nat.sub_self, List.take_add_one, hc, List.append_assoc, List.drop_eq_getElem_cons hi, List.set_cons_zero]
  rfl
def turnF (l : List UInt8) : List UInt8 := (List.range 16).map (fun i => fBox (l.getD ((i + 4 * (i % 4)) % 16) 0))
theorem turnF_len (l : List UInt8) : (turnF l).length = 16 := by simp [turnF]
def BoxAt (W : World) (a o : Nat) : Prop := ∀ c : UInt8, W.cell? ⟨a, o + c.toNat, none⟩ = some (.int .u8 ((fBox c).toNat : Int))
theorem BoxAt.fr {S : Nat → Prop} {w w' : World} {a o : Nat} (h : BoxAt w a o) (ha : a < w.heap.size) (hf : Fr S w w') (hn : ¬ S a) : BoxAt w' a o := fun c => (hf.cell (p := ⟨a, o + c.toNat, none⟩) ha hn).trans (h c)
set_option maxRecDepth 100000 in
set_option maxHeartbeats 3200000 in
theorem turn_any {w : World} {b a o : Nat} {l : List UInt8} (hb : w.heap[b]? = some (bytesO l 421)) (hl : l.length = 16) (hx : BoxAt w a o) (ha : a < w.heap.size) (hab : a ≠ b) : Calls Tryz.prog 369 #[.pointer (some ⟨b, 0, none⟩), .pointer (some ⟨a, o, none⟩)] w fun e w' => e = .returned (.tuple #[]) ∧ w'.heap[b]? = some (bytesO (turnF l) 421) ∧ Fr (fun q => q = b) w w' := by
  have hblt := heap_lt hb
  have HB := Lib.hid hb
  have HX := Lib.hid hx
  clear hb hx
  have hlen : (turnF l).length = l.length := by rw [turnF_len, hl]
  have hinfo : (Tryz.prog.info? 421).map (·.size) = some (l.map byteV).toArray.size := by simp only [List.size_toArray, List.length_map, hl]; kernel_rfl
  have h1 : ((l.map byteV).toArray).all (·.oneCell') = true := all_oneCell_toArray (by intro v hv; obtain ⟨c, _, rfl⟩ := List.mem_map.1 hv; rfl)
  have HNew := Lib.hid (fun (cs : Array Value) (hc : cs.size = 16) => show (w.alloc (.cells cs 421)).there w.heap.size 0 (l.map byteV).toArray.size by simp only [List.size_toArray, List.length_map, hl]; exact there_new w cs 421 hc)
  have HOver := Lib.hid (fun (cs : Array Value) (hc : cs.size = 16) => show ((w.alloc (.cells cs 421)).setCells w.heap.size 0 (l.map byteV).toArray.toList).heap[w.heap.size]? = some (bytesO l 421) by
    have h := heap_over (l.map byteV).toArray.toList (heap_new w (.cells cs 421)) (by rw [hc]; simp [hl])
    rw [h]
    rfl)
  have HFr := Lib.hid (fun (cs : Array Value) => fr_setCells ((Fr.refl noBlock w).alloc (.cells cs 421)) (g := w.heap.size) (o := 0) (.inr (Nat.le_refl _)) (l.map byteV).toArray.toList)
  go_enter Tryz.func369, Tryz.ntmps369
  go_upto_region 1 with (first
    | (refine wpList_load_row rfl _ _ rfl b rfl _ _ _ _ HB.out Tryz.underlying421 rfl hinfo ?_)
    | (refine wpList_store_mid (by rfl) 421 _ _ (by rfl) w.heap.size 0 _ (by rfl) (by rfl) (HNew.out _ (by rfl)) hinfo h1 ?_))
  go_frame
  refine wp_at (fun W => W.heap[w.heap.size]? = some (bytesO l 421) ∧ Fr noBlock w W) ⟨HOver.out _ (by rfl), HFr.out _⟩ ?_
  clear HNew HOver HFr hinfo h1
  rintro w1 ⟨k1, k2⟩
  have H1 := Lib.hid (And.intro k1 (And.intro (show w1.heap[b]? = some (bytesO (overL (turnF l) l 0) 421) by rw [overL_zero]; exact k2.obj HB.out (fun z => z)) (k2.mono (T := fun q => q = b) (fun _ z => z.elim))))
  obtain ⟨ob, hob⟩ : ∃ ob, w.heap.size = ob := ⟨_, rfl⟩
  rw [hob] at H1 ⊢
  clear k1 k2
  go_wp2_with fail
  go_loopw [9] (fun s9 W => ∃ i : Nat, i ≤ 16 ∧ s9 = .int .i64 i ∧ Hid (W.heap[ob]? = some (bytesO l 421) ∧ W.heap[b]? = some (bytesO (overL (turnF l) l i) 421) ∧ Fr (fun q => q = b) w W)) (fun s9 _ => 16 - (intOf s9).toNat)
  case atStart => exact ⟨0, by omega, rfl, H1⟩
  case round =>
    clear H1
    obtain ⟨i, hi, rfl, HI⟩ := hrel
    by_cases hlt : i < 16
    · have q1 : (i : Int) < 16 := by omega
      have q0 : (0 : Int) ≤ (i : Int) := by omega
      have hil : i < l.length := by omega
      obtain ⟨r, hr⟩ : ∃ r, i % 4 = r := ⟨_, rfl⟩
      obtain ⟨j, hj⟩ : ∃ j, (i + 4 * r) % 16 = j := ⟨_, rfl⟩
      have hr4 : r < 4 := by omega
      have hj16 : j < 16 := by omega
      have q3 : Int.tmod (i : Int) 4 = (r : Int) := by rw [Int.tmod_eq_emod_of_nonneg (by omega)]; omega
      have q6 : Int.tmod ((i : Int) + 4 * (r : Int)) 16 = (j : Int) := by rw [Int.tmod_eq_emod_of_nonneg (by omega)]; omega
      have q4 : wrap64 (4 * (r : Int)) = 4 * (r : Int) := by unfold wrap64; omega
      have q5 : wrap64 ((i : Int) + 4 * (r : Int)) = (i : Int) + 4 * (r : Int) := by unfold wrap64; omega
      have q4i : IntKind.i64.wrap (4 * (r : Int)) = 4 * (r : Int) := by rw [IntKind.wrap_i64]; omega
      have q5i : IntKind.i64.wrap ((i : Int) + 4 * (r : Int)) = (i : Int) + 4 * (r : Int) := by rw [IntKind.wrap_i64]; omega
      have q7 : (j : Int) < 16 := by omega
      have q8 : (r : Int) < 4 := by omega
      have hjl : j < l.length := by omega
      obtain ⟨y0, -⟩ := bytesO_cell HI.out.1 (List.getElem?_eq_getElem hjl)
      obtain ⟨x0, x1⟩ := bytesO_cell HI.out.2.1 (overL_get hlen hil)
      have hc : (turnF l)[i]? = some (fBox l[j]) := by
        unfold turnF
        rw [List.getElem?_map, List.getElem?_range hlt]
        simp only [Option.map_some, hr, hj, List.getD_eq_getElem?_getD, List.getElem?_eq_getElem hjl, Option.getD_some]
      have HB2 := Lib.hid (bytesO_set ((Fr.refl noBlock wr).drew.obj HI.out.2.1 (fun z => z)) i (fBox l[j]))
      rw [overL_set hlen hil _ hc] at HB2
      have hne : b ≠ ob := by omega
      have HO2 := Lib.hid (heap_set_ne (b := b) (i := i) (u := .int .u8 ((fBox l[j]).toNat : Int)) ((Fr.refl noBlock wr).drew.obj HI.out.1 (fun z => z)) (fun e => hne e.symm))
      have HF2 := Lib.hid (fr_set_at HI.out.2.2.drew i (.int .u8 ((fBox l[j]).toNat : Int)))
      have z0 := (HX.out.fr ha HI.out.2.2 hab) l[j]
      have z1 : ((l[j].toNat : Nat) : Int) < 256 := by have := l[j].toNat_lt; omega
      clear hc
      generalize l[j] = c at *
      go_wp2_with fail
      go_still_tail 16, (by kernel_rfl)
      change wpList _ _ _ _ _ wr.drew
      go_wp2_with fail
      go_roundw
      case rel => exact ⟨i + 1, hlt, by go_num, Lib.hid ⟨HO2.out, HB2.out, HF2.out⟩⟩
      case measure => simp [intOf]; omega
    · have q1 : (16 : Int) ≤ (i : Int) := by omega
      obtain rfl : i = 16 := by omega
      go_wp2_with fail
      go_end0
      refine ⟨rfl, ?_, HI.out.2.2⟩
      have h := HI.out.2.1
      rw [overL_all hlen (by omega)] at h
      exact h
end Go.Proofs.YtajhgejhdalobaaGreatDoor
