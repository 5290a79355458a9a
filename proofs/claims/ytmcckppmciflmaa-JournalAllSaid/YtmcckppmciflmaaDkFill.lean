/-
  THE WALK of the laws' Fill: a sector's bytes, made of a few.
-/
import Derived.Test.YtmcckppmciflmaaDkNew
namespace Go.Proofs.Ytmcckppmciflmaa
open Go.RowKit

theorem byte_set {w : World} {g n cap : Nat} {xs : List UInt8} (h : RowAt 5 ByteR w (.slice (some ⟨g, 0, none⟩) n cap) xs) {i : Nat} (hi : i < xs.length) (c : UInt8) : RowAt 5 ByteR (w.setCell ⟨g, i, none⟩ (byteV c)) (.slice (some ⟨g, 0, none⟩) n cap) (xs.set i c) := by
  have := h.set (u := byteV c) hi (j := 0) (by decide) c rfl
  simpa [byteK] using this
def fillP (b : Bs) (size i : Nat) : Bs := (List.range size).map (fun j => if j < i then b.getD (min j (b.length - 1)) 0 else 0)
def fillB (b : Bs) (size : Nat) : Bs := fillP b size size
theorem fillP_len (b : Bs) (size i : Nat) : (fillP b size i).length = size := by simp [fillP]
theorem fillB_len (b : Bs) (size : Nat) : (fillB b size).length = size := fillP_len _ _ _
theorem fillP_step (b : Bs) (size i : Nat) : fillP b size (i + 1) = (fillP b size i).set i (b.getD (min i (b.length - 1)) 0) := by
  apply List.ext_getElem (by simp [fillP_len])
  intro j h1 h2
  rw [List.getElem_set]
  simp only [fillP, List.getElem_map, List.getElem_range]
  by_cases e : i = j
  · subst e; rw [if_pos rfl, if_pos (by omega)]
  · rw [if_neg e]
    by_cases h : j < i
    · rw [if_pos h, if_pos (by omega)]
    · rw [if_neg h, if_neg (by omega)]
theorem fillP_zero (b : Bs) (size : Nat) : fillP b size 0 = List.replicate size 0 := by
  apply List.ext_getElem (by simp [fillP_len])
  intro j h1 h2
  simp [fillP]
theorem fillP_nil (size i : Nat) : fillP [] size i = List.replicate size 0 := by
  apply List.ext_getElem (by simp [fillP_len])
  intro j h1 h2
  simp [fillP]
theorem fillP_all (b : Bs) {size i : Nat} (h : size ≤ i) : fillP b size i = fillB b size := by
  unfold fillB fillP
  apply List.map_congr_left
  intro j hj
  rw [List.mem_range] at hj
  rw [if_pos (by omega), if_pos hj]

set_option maxRecDepth 100000 in
set_option maxHeartbeats 800000 in
theorem fill_any {w : World} {ao : Option Addr} {b : Bs} (hb : RowRd ByteR w ao b) (cap : Nat) (hbl : b.length ≤ 9223372036854775807) (m : Nat) (hm : m ≤ 4096) : Calls Try.prog 14 #[.slice ao b.length cap, .int .i64 m] w (CloneP (fillB b m) w) := by
  have hmk := fun W => run_make_row' (P := Try.prog) 23 5 (.int .u8 0) 1 Try.underlying23 infoB rfl .i64 .i64 m (by omega) (by omega) W
  have hmade := bytes_made w m (by unfold maxLen; omega)
  obtain ⟨Z, hZ⟩ : ∃ Z, madeCells #[.int .u8 0] m = Z := ⟨_, rfl⟩
  rw [hZ] at hmk hmade
  have Hmade := Lib.hid hmade
  have HB := Lib.hid hb
  clear hZ hmade hb
  go_enter Try.func14, Try.ntmps14
  go_wp2_with fail
  go_loopw [6] (fun s6 wr => ∃ i : Nat, i ≤ m ∧ s6 = .int .i64 i ∧ RowAt 5 ByteR wr (.slice (some ⟨w.heap.size, 0, none⟩) m m) (fillP b m i) ∧ Fr noBlock w wr) (fun s6 _ => m - (intOf s6).toNat)
  case atStart => exact ⟨0, Nat.zero_le _, rfl, by rw [fillP_zero]; exact Hmade.out, (Fr.refl _ _).alloc _⟩
  case round =>
    obtain ⟨i, hi, rfl, hR, hf⟩ := hrel
    clear hmk Hmade
    have HR := Lib.hid hR
    have Hf := Lib.hid hf
    by_cases hlt : i < m ∧ 0 < b.length
    · obtain ⟨h1, h2⟩ := hlt
      have q1 : (i : Int) < (m : Int) := by omega
      have q2 : (0 : Int) < (b.length : Int) := by omega
      obtain ⟨q, hq⟩ : ∃ q : Nat, min i (b.length - 1) = q := ⟨_, rfl⟩
      have hqb : q < b.length := by omega
      have hqi : (q : Int) < (b.length : Int) := by omega
      have hmin : min (i : Int) ((b.length : Int) - 1) = (q : Int) := by omega
      have hst := fillP_step b m i
      rw [hq] at hst
      have hgd : b.getD q 0 = b[q] := by simp [List.getD, List.getElem?_eq_getElem hqb]
      rw [hgd] at hst
      have Hst := Lib.hid hst
      obtain ⟨bb, off, e, _⟩ := byte_addr (HB.out.fr0 hf) hqb
      subst e
      have y0 := byte_rd (HB.out.fr0 hf) hqb
      have hil : i < (fillP b m i).length := by rw [fillP_len]; exact h1
      obtain ⟨z0, z1⟩ := byte_at hR hil
      have Hset := Lib.hid (byte_set hR hil b[q])
      unfold byteV at y0 z0
      generalize (fillP b m i)[i] = c0 at *
      have Hbq := Lib.hid (show byteV b[q] = .int .u8 (b[q].toNat : Int) from rfl)
      generalize b[q] = c at *
      clear hR hf hq hst hgd hil
      go_wp2_with fail
      exact ⟨⟨i + 1, by omega, by go_num, by rw [Hst.out]; exact Hset.out, Hf.out.setCell (p := ⟨w.heap.size, i, none⟩) (.inr (Nat.le_refl _)) _⟩, by simp [intOf]; omega⟩
    · have hcs : ((m : Int) ≤ (i : Int)) ∨ ((i : Int) < (m : Int) ∧ (b.length : Int) ≤ 0) := by omega
      have hfin : fillP b m i = fillB b m := by
        by_cases h : m ≤ i
        · exact fillP_all b h
        · have hb0 : b = [] := List.eq_nil_of_length_eq_zero (by omega)
          unfold fillB
          rw [hb0, fillP_nil, fillP_nil]
      rw [hfin] at HR
      clear hR hf hlt hfin
      rcases hcs with hc | ⟨hc, hc2⟩
      all_goals
        go_wp2_with fail
        go_ret
        exact ⟨⟨some ⟨w.heap.size, 0, none⟩, m, m⟩, rfl, (fillB_len b m).symm, HR.out, Hf.out, fun k hk => by cases hk; exact Nat.le_refl _⟩
end Go.Proofs.Ytmcckppmciflmaa
