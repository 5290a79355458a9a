/-
  THE WALKS of the program's check sums.
-/
import Derived.Laws.BitsAllLaws
import Derived.Laws.Rows
import Derived.Deep.MidRow
import Derived.Test.YthabllnhlhkejaaGreatDoorCrcP
import Derived.Test.YthabllnhlhkejaaGreatDoorDkWalk
import Derived.Test.YthabllnhlhkejaaGreatDoorCopy
namespace Go.Proofs.YthabllnhlhkejaaGreatDoor
open Go.RowKit

def u32V (r : BitVec 32) : Value := .int .u32 (r.toNat : Int)
def bstN : Nat → BitVec 32 → BitVec 32
  | 0, r => r
  | k + 1, r => bst (bstN k r)
theorem bst_u32 (r : BitVec 32) : bits .xor .u32 ((r.toNat : Int) / 2) (bits .and .u32 3988292384 (-bits .and .u32 (r.toNat : Int) 1 % 4294967296)) = ((bst r).toNat : Int) := by
  have hr := r.isLt
  have e0 : r.toNat &&& 1 = r.toNat % 2 := by simp
  have e1 : bits .and .u32 (r.toNat : Int) 1 = ((r.toNat % 2 : Nat) : Int) := by
    have := u32_and_nat r.toNat 1 hr (by omega)
    rw [e0] at this
    exact this
  have e2 : ((r.toNat : Int) / 2) = ((r.toNat / 2 : Nat) : Int) := by omega
  have hb : r.getLsbD 0 = decide (r.toNat % 2 = 1) := by
    rw [BitVec.getLsbD, Nat.testBit_zero]
  have hs : (r >>> 1).toNat = r.toNat / 2 := by rw [BitVec.toNat_ushiftRight, Nat.shiftRight_eq_div_pow]
  rw [e1, e2]
  unfold bst
  rw [hb]
  rcases Nat.mod_two_eq_zero_or_one r.toNat with h | h
  · rw [h]
    have e3 : (-((0 : Nat) : Int)) % 4294967296 = ((0 : Nat) : Int) := by decide
    have e4 := u32_and_nat 3988292384 0 (by omega) (by omega)
    have e5 := u32_xor_nat (r.toNat / 2) 0 (by omega) (by omega)
    rw [e3, show (3988292384 : Int) = ((3988292384 : Nat) : Int) by rfl, e4, Nat.and_zero, e5, Nat.xor_zero, ← hs]
    simp
  · rw [h]
    have e3 : (-((1 : Nat) : Int)) % 4294967296 = ((4294967295 : Nat) : Int) := by decide
    have e4 := u32_and_nat 3988292384 4294967295 (by omega) (by omega)
    have e6 : 3988292384 &&& 4294967295 = 3988292384 := by decide
    have e5 := u32_xor_nat (r.toNat / 2) 3988292384 (by omega) (by omega)
    rw [e3, show (3988292384 : Int) = ((3988292384 : Nat) : Int) by rfl, e4, e6, e5, ← hs]
    simp only [decide_true, if_true, BitVec.toNat_xor]
    rfl

def tabC (i : Nat) : List Value := (List.range 16).map (fun k => if k < i then u32V (bst4 (BitVec.ofNat 32 k)) else .int .u32 0)
theorem tabC_len (i : Nat) : (tabC i).length = 16 := by simp [tabC]
theorem tabC_step {i : Nat} (_ : i < 16) : tabC (i + 1) = (tabC i).set i (u32V (bst4 (BitVec.ofNat 32 i))) := by
  unfold tabC
  apply List.ext_getElem
  · simp
  · intro k h1 h2
    simp only [List.getElem_map, List.getElem_range, List.getElem_set]
    by_cases e : i = k
    · subst e; rw [if_pos (by omega), if_pos rfl]
    · rw [if_neg e]
      by_cases hk : k < i
      · rw [if_pos (by omega), if_pos hk]
      · rw [if_neg (by omega), if_neg hk]
theorem bstN4 (r : BitVec 32) : bstN 4 r = bst4 r := rfl
set_option maxRecDepth 100000 in
set_option maxHeartbeats 800000 in
theorem steps_any (w : World) : Calls Tryz.prog 119 #[] w fun e w' => e = .returned (.agg (tabC 16).toArray) ∧ Fr noBlock w w' := by
  go_enter Tryz.func119, Tryz.ntmps119
  go_wp2_with fail
  have h0 := heap_new w (.cells (tabC 0).toArray 185 (0, 0))
  have f0 := (Fr.refl noBlock w).alloc (.cells (tabC 0).toArray 185 (0, 0))
  have H0 := Lib.hid (And.intro h0 f0)
  clear h0 f0
  go_loopw [3] (fun s3 wr => ∃ (i : Nat), i ≤ 16 ∧ s3 = .int .i64 i ∧ wr.heap[w.heap.size]? = some (.cells (tabC i).toArray 185 (0, 0)) ∧ Fr noBlock w wr) (fun s3 _ => 16 - (intOf s3).toNat)
  case atStart => exact ⟨0, by omega, rfl, H0.out.1, H0.out.2⟩
  case round =>
    obtain ⟨i, hi, rfl, hb, hf⟩ := hrel
    have HB := Lib.hid hb
    have HF := Lib.hid hf
    clear hb hf H0
    by_cases hlt : i < 16
    · have q1 : (i : Int) < 16 := by omega
      have q0 : (0 : Int) ≤ (i : Int) := by omega
      go_wp2_with fail
      obtain ⟨wo, hwo⟩ : ∃ wo : World, wo = wr := ⟨_, rfl⟩
      subst hwo
      go_loopw [2, 8] (fun s2 s8 wq => ∃ (k : Nat), k ≤ 4 ∧ s8 = .int .i64 k ∧ s2 = u32V (bstN k (BitVec.ofNat 32 i)) ∧ wq = wo) (fun _ s8 _ => 4 - (intOf s8).toNat)
      case atStart => exact ⟨0, by omega, rfl, by unfold u32V bstN; rw [BitVec.toNat_ofNat]; congr 1; omega, rfl⟩
      case round =>
        obtain ⟨k, hk, rfl, rfl, rfl⟩ := hrel
        unfold u32V
        by_cases hlk : k < 4
        · have q2 : (k : Int) < 4 := by omega
          have HE := Lib.hid (bst_u32 (bstN k (BitVec.ofNat 32 i)))
          go_wp2_with fail
          go_roundw
          case rel => exact ⟨k + 1, by omega, by go_num, by show _ = Value.int .u32 ((bst (bstN k (BitVec.ofNat 32 i))).toNat : Int); rw [HE.out], trivial⟩
          case measure => simp [intOf]; omega
        · have q2 : (4 : Int) ≤ (k : Int) := by omega
          have e : k = 4 := by omega
          subst e
          clear hlk
          have z1 := free_of HB.out i
          have z0 : ∃ x, wr.cell? ⟨w.heap.size, i, none⟩ = some x := ⟨(tabC i)[i]'(by rw [tabC_len]; exact hlt), by rw [cell_of HB.out]; simp [tabC_len, hlt]⟩
          obtain ⟨x, z0⟩ := z0
          have HS := Lib.hid (heap_set_eq (i := i) (u := u32V (bst4 (BitVec.ofNat 32 i))) HB.out)
          have HFS := Lib.hid (HF.out.setCell (p := ⟨w.heap.size, i, none⟩) (.inr (Nat.le_refl _)) (u32V (bst4 (BitVec.ofNat 32 i))))
          go_wp2_with fail
          go_roundw
          case rel =>
            refine ⟨i + 1, by omega, by go_num, ?_, HFS.out⟩
            rw [tabC_step hlt]
            rw [← bstN4]
            simpa [bstN4, u32V] using HS.out
          case measure => simp [intOf]; omega
    · have q1 : (16 : Int) ≤ (i : Int) := by omega
      have e : i = 16 := by omega
      subst e
      clear hlt
      have hinfo : (Tryz.prog.info? 185).map (·.size) = some (tabC 16).toArray.size := by kernel_rfl
      have Hinfo := Lib.hid hinfo
      clear hinfo
      have hone : ∀ v ∈ tabC 16, v.oneCell' = true := by
        intro v hv
        simp only [tabC, List.mem_map] at hv
        obtain ⟨k, _, rfl⟩ := hv
        split <;> rfl
      have hst : (storeCells ⟨w.heap.size, 0, none⟩ (tabC 16)).run Tryz.prog wr = .ok () wr := by
        have := run_storeCells_at Tryz.prog w.heap.size 0 185 (tabC 16) 0 _ wr HB.out (by simp) hone
        rw [this]
        simp only [Nat.zero_add, List.take_zero, List.nil_append, List.drop_length, List.append_nil]
        rw [setRow_self wr w.heap.size _ _ _ HB.out]
      clear hone
      go_wp2_with (with_reducible refine wpList_load_row rfl _ _ rfl w.heap.size rfl _ _ _ _ HB.out Tryz.underlying185 rfl Hinfo.out ?_)
      exact bodyPost_ret (v := .agg (tabC 16).toArray) (results_cell_row Tryz.results119 _ _ w.heap.size _ _ _ _ rfl HB.out Tryz.underlying185 rfl Hinfo.out) rfl ⟨rfl, HF.out⟩

theorem xor_u32 (a b : BitVec 32) : bits .xor .u32 (a.toNat : Int) (b.toNat : Int) = ((a ^^^ b).toNat : Int) := by
  rw [u32_xor_nat _ _ a.isLt b.isLt, BitVec.toNat_xor]
theorem and_u32 (a b : BitVec 32) : bits .and .u32 (a.toNat : Int) (b.toNat : Int) = ((a &&& b).toNat : Int) := by
  rw [u32_and_nat _ _ a.isLt b.isLt, BitVec.toNat_and]
theorem nib_u32 (r : BitVec 32) : bits .xor .u32 ((r.toNat : Int) / 16) ((bst4 (BitVec.ofNat 32 (r &&& 15#32).toNat)).toNat : Int) = ((bst4 r).toNat : Int) := by
  have e0 : (r >>> 4).toNat = r.toNat / 16 := by rw [BitVec.toNat_ushiftRight, Nat.shiftRight_eq_div_pow]
  have e : (r.toNat : Int) / (16 : Int) = (((r >>> 4).toNat : Nat) : Int) := by rw [e0]; omega
  rw [e, BitVec.ofNat_toNat, BitVec.setWidth_eq, xor_u32, ← bst4_nib]
theorem low4 (r : BitVec 32) : (r &&& 15#32).toNat < 16 := by
  rw [BitVec.toNat_and]
  exact Nat.lt_of_le_of_lt Nat.and_le_right (by decide)
theorem byte_u32 (r : BitVec 32) (c : UInt8) : bits .xor .u32 (r.toNat : Int) (c.toNat : Int) = ((r ^^^ BitVec.ofNat 32 c.toNat).toNat : Int) := by
  have : (BitVec.ofNat 32 c.toNat).toNat = c.toNat := by rw [BitVec.toNat_ofNat]; have := c.toNat_lt; omega
  rw [← xor_u32, this]
/-- rows of bytes, each readable -/
def PartsRd (w : World) (ss : List SV) (ps : List Bs) : Prop := ss.length = ps.length ∧ ∀ (i : Nat) (s : SV) (p : Bs), ss[i]? = some s → ps[i]? = some p → s.n = p.length ∧ RowRd ByteR w s.ao p
theorem PartsRd.fr0 {w w' : World} {ss : List SV} {ps : List Bs} (h : PartsRd w ss ps) (hf : Fr noBlock w w') : PartsRd w' ss ps := ⟨h.1, fun i s p a b => ⟨(h.2 i s p a b).1, (h.2 i s p a b).2.fr0 hf⟩⟩
theorem flat_take_snoc {ps : List Bs} {i : Nat} (h : i < ps.length) : (ps.take (i + 1)).flatten = (ps.take i).flatten ++ ps[i] := by
  rw [List.take_succ_eq_append_getElem h, List.flatten_append]; simp
set_option maxRecDepth 100000 in
set_option maxHeartbeats 1600000 in
theorem sum_any {w : World} {ao : Option Addr} {ss : List SV} {ps : List Bs} (hr : RowRd SliceR w ao ss) (hp : PartsRd w ss ps) (cap : Nat) (hl : ss.length ≤ 1000000) :
    Calls Tryz.prog 90 #[.slice ao ss.length cap] w fun e w' => e = .returned (.int .i64 (crc ps.flatten)) ∧ Fr noBlock w w' := by
  have HR := Lib.hid hr
  have HP := Lib.hid hp
  have hsl : ss.length = ps.length := hp.1
  clear hr hp
  go_enter Tryz.func90, Tryz.ntmps90
  go_wp2_with fail
  refine (steps_any _).mono ?_
  rintro e w1 ⟨rfl, f1⟩
  have hone : ∀ v ∈ tabC 16, v.oneCell' = true := by
    intro v hv
    simp only [tabC, List.mem_map] at hv
    obtain ⟨k, _, rfl⟩ := hv
    split <;> rfl
  have hst : (storeCells ⟨w1.heap.size, 0, none⟩ (tabC 16)).run Tryz.prog (w1.alloc (.cells #[.int .u32 0, .int .u32 0, .int .u32 0, .int .u32 0, .int .u32 0, .int .u32 0, .int .u32 0, .int .u32 0, .int .u32 0, .int .u32 0, .int .u32 0, .int .u32 0, .int .u32 0, .int .u32 0, .int .u32 0, .int .u32 0] 185)) = .ok () ((w1.alloc (.cells #[.int .u32 0, .int .u32 0, .int .u32 0, .int .u32 0, .int .u32 0, .int .u32 0, .int .u32 0, .int .u32 0, .int .u32 0, .int .u32 0, .int .u32 0, .int .u32 0, .int .u32 0, .int .u32 0, .int .u32 0, .int .u32 0] 185)).setRow w1.heap.size (tabC 16).toArray) := by
    have := run_storeCells_at Tryz.prog w1.heap.size 0 185 (tabC 16) 0 _ _ (heap_new w1 (.cells #[.int .u32 0, .int .u32 0, .int .u32 0, .int .u32 0, .int .u32 0, .int .u32 0, .int .u32 0, .int .u32 0, .int .u32 0, .int .u32 0, .int .u32 0, .int .u32 0, .int .u32 0, .int .u32 0, .int .u32 0, .int .u32 0] 185)) (by simp [tabC_len]) hone
    rw [this]
    have hd : List.drop (0 + 0 + (tabC 16).length) (#[.int .u32 0, .int .u32 0, .int .u32 0, .int .u32 0, .int .u32 0, .int .u32 0, .int .u32 0, .int .u32 0, .int .u32 0, .int .u32 0, .int .u32 0, .int .u32 0, .int .u32 0, .int .u32 0, .int .u32 0, .int .u32 0] : Array Value).toList = [] := List.drop_of_length_le (by simp [tabC_len])
    rw [hd]
    simp
  have hb := setRow_heap _ w1.heap.size _ (tabC 16).toArray 185 _ (heap_new w1 (.cells #[.int .u32 0, .int .u32 0, .int .u32 0, .int .u32 0, .int .u32 0, .int .u32 0, .int .u32 0, .int .u32 0, .int .u32 0, .int .u32 0, .int .u32 0, .int .u32 0, .int .u32 0, .int .u32 0, .int .u32 0, .int .u32 0] 185))
  have f2 : Fr noBlock w ((w1.alloc (.cells #[.int .u32 0, .int .u32 0, .int .u32 0, .int .u32 0, .int .u32 0, .int .u32 0, .int .u32 0, .int .u32 0, .int .u32 0, .int .u32 0, .int .u32 0, .int .u32 0, .int .u32 0, .int .u32 0, .int .u32 0, .int .u32 0] 185)).setRow w1.heap.size (tabC 16).toArray) := (f1.alloc _).trans (fr_setRow w1.heap.size (tabC 16).toArray) (fun k hk => by subst hk; exact .inr f1.size)
  obtain ⟨wB, hwB⟩ : ∃ wB, (w1.alloc (.cells #[.int .u32 0, .int .u32 0, .int .u32 0, .int .u32 0, .int .u32 0, .int .u32 0, .int .u32 0, .int .u32 0, .int .u32 0, .int .u32 0, .int .u32 0, .int .u32 0, .int .u32 0, .int .u32 0, .int .u32 0, .int .u32 0] 185)).setRow w1.heap.size (tabC 16).toArray = wB := ⟨_, rfl⟩
  rw [hwB] at hst hb f2
  have hlen := tabC_len 16
  clear hwB hone
  have Hb := Lib.hid hb
  have F2 := Lib.hid f2
  have hpl : ps.length ≤ 1000000 := by omega
  have HSL := Lib.hid hsl
  go_wp2_with fail
  clear hst hlen hb f2 f1
  have hs0 : (4294967295 : Int) = ((crcL (BitVec.allOnes 32) (ps.take 0).flatten).toNat : Int) := by
    rw [List.take_zero]; rfl
  have HS0 := Lib.hid hs0
  clear hs0 hsl
  go_loopw [4, 12] (fun s4 s12 wr => ∃ i : Nat, i ≤ ps.length ∧ s12 = .int .i64 i ∧ s4 = u32V (crcL (BitVec.allOnes 32) (ps.take i).flatten) ∧ wr = wB) (fun _ s12 _ => ps.length - (intOf s12).toNat)
  case atStart => exact ⟨0, Nat.zero_le _, rfl, by unfold u32V; rw [HS0.out], rfl⟩
  case round =>
    obtain ⟨i, hi, rfl, rfl, rfl⟩ := hrel
    unfold u32V
    clear HS0
    by_cases hlt : i < ps.length
    · have q1 : (i : Int) < (ps.length : Int) := by omega
      have his : i < ss.length := by rw [HSL.out]; exact hlt
      have hrd := HR.out.fr0 F2.out
      obtain ⟨bb, off, rfl, _, _⟩ := hrd.at' i his
      have y0 : wr.cell? ⟨bb, off + i, none⟩ = some ss[i].val := by
        obtain ⟨b', off', e, _, h3⟩ := hrd.at' i his
        cases e
        have := h3 0 ss[i].val rfl
        have hk : SliceR.k = 1 := rfl
        simpa [hk] using this
      obtain ⟨hn, hpr⟩ := HP.out.2 i ss[i] ps[i] (List.getElem?_eq_getElem his) (List.getElem?_eq_getElem hlt)
      have Hpr := Lib.hid (hpr.fr0 F2.out)
      have hnx : crcL (BitVec.allOnes 32) (ps.take (i + 1)).flatten = crcL (crcL (BitVec.allOnes 32) (ps.take i).flatten) ps[i] := by rw [flat_take_snoc hlt, crcL_append]
      have hpm := hpr.len
      unfold maxLen at hpm
      generalize ss[i] = s at *
      generalize ps[i] = p at *
      obtain ⟨sa, sn, sc⟩ := s
      simp only at hn
      subst hn
      unfold SV.val at y0
      simp only at y0
      generalize crcL (BitVec.allOnes 32) (ps.take i).flatten = r0 at *
      have Hnx := Lib.hid hnx
      clear hrd hpr hlt hnx
      go_wp2_with fail
      obtain ⟨wo, hwo⟩ : ∃ wo : World, wo = wr := ⟨_, rfl⟩
      subst hwo
      go_loopw [4, 18] (fun s4 s18 wq => ∃ k : Nat, k ≤ p.length ∧ s18 = .int .i64 k ∧ s4 = u32V (crcL r0 (p.take k)) ∧ wq = wo) (fun _ s18 _ => p.length - (intOf s18).toNat)
      case atStart => exact ⟨0, Nat.zero_le _, rfl, rfl, rfl⟩
      case round =>
        obtain ⟨k, hk, rfl, rfl, rfl⟩ := hrel
        unfold u32V
        by_cases hlk : k < p.length
        · have q2 : (k : Int) < (p.length : Int) := by omega
          obtain ⟨b2, o2, rfl, _⟩ := byte_addr Hpr.out hlk
          have y1 := byte_rd Hpr.out hlk
          unfold byteV at y1
          have hnk : crcL r0 (p.take (k + 1)) = crcByte (crcL r0 (p.take k)) p[k] := by rw [List.take_succ_eq_append_getElem hlk, crcL_snoc]
          generalize p[k] = c at *
          generalize crcL r0 (p.take k) = r1 at *
          have hc := c.toNat_lt
          have e1 := byte_u32 r1 c
          have hx : ∃ x, r1 ^^^ BitVec.ofNat 32 c.toNat = x := ⟨_, rfl⟩
          obtain ⟨x, hx⟩ := hx
          have hnk2 : crcByte r1 c = bst4 (bst4 x) := by unfold crcByte; rw [hx]
          rw [hx] at e1
          rw [hnk2] at hnk
          have Hnk := Lib.hid hnk
          obtain ⟨m, hm⟩ : ∃ m, (x &&& 15#32).toNat = m := ⟨_, rfl⟩
          have hml := low4 x
          have e2 : bits .and .u32 (x.toNat : Int) 15 = (m : Int) := by rw [← hm]; exact and_u32 x 15#32
          have e3 := nib_u32 x
          obtain ⟨y, hy⟩ : ∃ y, bst4 x = y := ⟨_, rfl⟩
          rw [hm, hy] at e3
          rw [hm] at hml
          obtain ⟨n, hn⟩ : ∃ n, (y &&& 15#32).toNat = n := ⟨_, rfl⟩
          have hnl := low4 y
          have f2 : bits .and .u32 (y.toNat : Int) 15 = (n : Int) := by rw [← hn]; exact and_u32 y 15#32
          have f3 := nib_u32 y
          rw [hn] at f3
          rw [hn] at hnl
          have t1 : wr.cell? ⟨w1.heap.size, m, none⟩ = some (u32V (bst4 (BitVec.ofNat 32 m))) := by rw [cell_of Hb.out]; simp [tabC, hml]
          have t2 : wr.cell? ⟨w1.heap.size, n, none⟩ = some (u32V (bst4 (BitVec.ofNat 32 n))) := by rw [cell_of Hb.out]; simp [tabC, hnl]
          unfold u32V at t1 t2
          have hm1 : (m : Int) < 16 := by omega
          have hn1 : (n : Int) < 16 := by omega
          have hm0 : (0 : Int) ≤ (m : Int) := by omega
          have hn0 : (0 : Int) ≤ (n : Int) := by omega
          have Hy := Lib.hid hy
          clear hx hnk hnk2 hm hn hlk hy
          go_wp2_with fail
          go_roundw
          case rel => exact ⟨k + 1, by omega, by go_num, by rw [Hnk.out, Hy.out], trivial⟩
          case measure => simp [intOf]; omega
        · have q2 : (p.length : Int) ≤ (k : Int) := by omega
          have e : k = p.length := by omega
          subst e
          rw [List.take_length]
          clear hlk
          go_wp2_with fail
          go_roundw
          case rel => exact ⟨i + 1, by omega, by go_num, by rw [Hnx.out], trivial⟩
          case measure => simp [intOf]; omega
    · have q1 : (ps.length : Int) ≤ (i : Int) := by omega
      have e : i = ps.length := by omega
      subst e
      rw [List.take_length]
      have hfin : wrap64 (bits .xor .u32 IntKind.u32.max ((crcL (4294967295#32) ps.flatten).toNat : Int)) = crc ps.flatten := by
        have e1 : IntKind.u32.max = ((BitVec.allOnes 32).toNat : Int) := rfl
        rw [e1, xor_u32]
        have e2 : BitVec.allOnes 32 ^^^ crcL (4294967295#32) ps.flatten = crcS ps.flatten := by
          unfold crcS
          rw [show (4294967295#32 : BitVec 32) = BitVec.allOnes 32 by rfl, BitVec.allOnes_xor]
        rw [e2]
        have := (crcS ps.flatten).isLt
        exact IntWalk.wrap64_in _ ⟨by omega, by omega⟩
      have Hfin := Lib.hid hfin
      have hsg : IntKind.u32.signed = false := rfl
      clear hlt hfin
      go_wp2_with fail
      go_ret
      exact ⟨ret_int Hfin.out, F2.out⟩
end Go.Proofs.YthabllnhlhkejaaGreatDoor
