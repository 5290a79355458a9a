/-
  THE WALKS of pan.Is, Cut, Token, Split.
-/
import Derived.Deep.CutBlock
import Derived.IntWalk
import Derived.Deep.RegionHeld3
import Derived.StillTailTactics
import Derived.Test.YtajhgejhdalobaaGreatDoorGlo
import Derived.Test.YtajhgejhdalobaaGreatDoorBlS
import Derived.Test.YtajhgejhdalobaaGreatDoorDgWalk
namespace Go.Proofs.YtajhgejhdalobaaGreatDoor
open Go.RowKit

theorem numB_snoc (l : Bs) (c : UInt8) : numB (l ++ [c]) = 10 * numB l + (c.toNat - 48) := by unfold numB; rw [List.foldl_append]; rfl
theorem numF_lt : ∀ (l : Bs) (acc : Nat), l.all isDig = true → l.foldl (fun n c => 10 * n + (c.toNat - 48)) acc < (acc + 1) * 10 ^ l.length
  | [], acc, _ => by simp
  | c :: r, acc, h => by
    rw [List.all_cons, Bool.and_eq_true] at h
    obtain ⟨x, hx, _, hn⟩ := dig_nat h.1
    have := numF_lt r (10 * acc + (c.toNat - 48)) h.2
    rw [List.foldl_cons]
    refine Nat.lt_of_lt_of_le this ?_
    rw [List.length_cons, Nat.pow_succ, Nat.mul_comm (10 ^ r.length) 10, ← Nat.mul_assoc]
    exact Nat.mul_le_mul_right _ (by omega)
theorem numB_lt (l : Bs) (h : l.all isDig = true) : numB l < 10 ^ l.length := by
  have := numF_lt l 0 h
  unfold numB
  omega
theorem numB_trim : ∀ (l : Bs), numB (Lib.trimLeftB l 48) = numB l
  | [] => rfl
  | c :: r => by
    unfold Lib.trimLeftB
    rw [List.dropWhile_cons]
    by_cases h : c = 48
    · subst h
      exact numB_trim r
    · rw [if_neg (by simpa using h)]
theorem trim_dig {l : Bs} (h : l.all isDig = true) : (Lib.trimLeftB l 48).all isDig = true := by
  rw [List.all_eq_true] at h ⊢
  exact fun c hc => h c ((List.dropWhile_sublist _).subset hc)
theorem numB_take {l : Bs} {k : Nat} (hk : k < l.length) : numB (l.take (k + 1)) = 10 * numB (l.take k) + (l[k].toNat - 48) := by
  rw [List.take_succ_eq_append_getElem hk, numB_snoc]
end Go.Proofs.YtajhgejhdalobaaGreatDoor
namespace Go.Proofs.YtajhgejhdalobaaGreatDoor
open Go.RowKit

theorem trim_head : ∀ (l : Bs), Lib.trimLeftB l 48 = [] ∨ ∃ c r, Lib.trimLeftB l 48 = c :: r ∧ c ≠ 48
  | [] => .inl rfl
  | c :: r => by
    unfold Lib.trimLeftB
    rw [List.dropWhile_cons]
    by_cases h : c = 48
    · subst h
      exact trim_head r
    · rw [if_neg (by simpa using h)]
      exact .inr ⟨c, r, rfl, h⟩
theorem numL_great {c : UInt8} {r : Bs} (hc : isDig c = true) (h : c ≠ 48) : 10 ^ r.length ≤ numB (c :: r) := by
  obtain ⟨x, hx, rfl, hn⟩ := dig_nat hc
  have hx0 : 1 ≤ x := by
    rcases Nat.eq_zero_or_pos x with rfl | h0
    · exact absurd rfl h
    · exact h0
  rw [numL_cons, hn, show 48 + x - 48 = x by omega]
  have := Nat.mul_le_mul_right (10 ^ r.length) hx0
  omega
theorem numR_look {s : ByteArray} (h : lookE s ≠ 0) : numR (bl s) = (0, lookE s) := by
  unfold numR
  unfold lookE digB at h ⊢
  by_cases h1 : s.data.toList.all isDig = false
  · rw [if_pos h1, if_pos h1]
  · rw [if_neg h1] at h ⊢
    by_cases h2 : 999 < s.size
    · rw [if_pos h2, if_neg h1, if_pos (by rw [bl_len]; exact h2)]
    · rw [if_neg h2] at h
      exact absurd rfl h
theorem look_zero {s : ByteArray} (h : lookE s = 0) : (bl s).all isDig = true ∧ s.size ≤ 999 := by
  unfold lookE digB at h
  by_cases h1 : s.data.toList.all isDig = false
  · rw [if_pos h1] at h; cases h
  · rw [if_neg h1] at h
    by_cases h2 : 999 < s.size
    · rw [if_pos h2] at h; cases h
    · exact ⟨by simpa using h1, by omega⟩
set_option maxRecDepth 100000 in
set_option maxHeartbeats 1600000 in
theorem number_all (s : ByteArray) (w : World) (hs : s.size ≤ maxLen) : Calls Tryz.prog 63 #[.string s] w fun e w' => e = .returned (.tuple #[.int .i64 ((numR (bl s)).1 : Int), .int .i64 (numR (bl s)).2]) ∧ w = w' := by
  have HL := Lib.hid (fun W => look_any s W hs)
  by_cases hlk : lookE s = 0
  · obtain ⟨hd, h999⟩ := look_zero hlk
    rw [hlk] at HL
    have HT := Lib.hid (fun W => Tryz.strings_TrimLeft_one s 48 (by decide) W)
    obtain ⟨t, ht⟩ : ∃ t : ByteArray, (⟨(Lib.trimLeftB s.data.toList 48).toArray⟩ : ByteArray) = t := ⟨_, rfl⟩
    have htl : bl t = Lib.trimLeftB (bl s) 48 := by rw [← ht]
    rw [ht] at HT
    have hN := numB_trim (bl s)
    rw [← htl] at hN
    have htd : (bl t).all isDig = true := by rw [htl]; exact trim_dig hd
    by_cases h0 : s.size = 0
    · have hse : s.toList.isEmpty = true := by
        rw [ByteArray.toList_eq]
        have := bl_len s
        cases hx : s.data.toList with
        | nil => rfl
        | cons a r => rw [show bl s = a :: r from hx] at this; simp at this; omega
      have hr : numR (bl s) = (0, 3) := by
        have he : bl s = [] := List.eq_nil_of_length_eq_zero (by rw [bl_len, h0])
        rw [he]
        rfl
      rw [hr]
      clear hd hN htd htl hr h0 h999 ht
      go_enter Tryz.func63, Tryz.ntmps63
      go_wp2_with fail
      refine (HL.out _).mono ?_
      rintro e w1 ⟨rfl, rfl⟩
      go_wp2_with fail
      refine (HT.out _).mono ?_
      rintro e w1 ⟨rfl, rfl⟩
      go_wp2_with fail
      go_ret2
      exact ⟨rfl, rfl⟩
    · have hse : s.toList.isEmpty = false := by
        rw [ByteArray.toList_eq]
        cases hx : s.data.toList with
        | nil =>
          have := bl_len s
          rw [show bl s = [] from hx] at this
          simp at this
          omega
        | cons a r => rfl
      have hne : bl s ≠ [] := fun e => h0 (by have := bl_len s; rw [e] at this; simpa using this.symm)
      have hr : numR (bl s) = if 9223372036854775807 < numB (bl s) then (0, 5) else (numB (bl s), 0) := by
        unfold numR
        rw [if_neg (by rw [hd]; simp), if_neg (by rw [bl_len]; omega), if_neg hne]
      by_cases h19 : 19 < t.size
      · have hgr : 9223372036854775807 < numB (bl s) := by
          rcases trim_head (bl s) with e | ⟨c, r, e, hc⟩
          · rw [e] at htl
            have := bl_len t
            rw [htl] at this
            simp at this
            omega
          · rw [← htl] at e
            have hcd : isDig c = true := by
              rw [e, List.all_cons, Bool.and_eq_true] at htd
              exact htd.1
            have h1 := numL_great (r := r) hcd hc
            rw [← e, hN] at h1
            have hl := bl_len t
            rw [e, List.length_cons] at hl
            have h2 : 10 ^ 19 ≤ 10 ^ r.length := Nat.pow_le_pow_right (by decide) (by omega)
            exact Nat.lt_of_lt_of_le (by decide) (Nat.le_trans h2 h1)
        rw [hr, if_pos hgr]
        have hI : (19 : Int) < (t.size : Int) := by omega
        clear hd hN htd htl hr h0 h999 hgr hne h19 ht
        go_enter Tryz.func63, Tryz.ntmps63
        go_wp2_with fail
        refine (HL.out _).mono ?_
        rintro e w1 ⟨rfl, rfl⟩
        go_wp2_with fail
        refine (HT.out _).mono ?_
        rintro e w1 ⟨rfl, rfl⟩
        go_wp2_with fail
        go_ret2
        exact ⟨rfl, rfl⟩
      · have hI : (t.size : Int) ≤ 19 := by omega
        have HR := Lib.hid hr
        have HN := Lib.hid hN
        have HD := Lib.hid htd
        have hts : t.size ≤ 19 := by omega
        clear hd hN htd htl hr h0 h999 hne h19 ht
        go_enter Tryz.func63, Tryz.ntmps63
        go_wp2_with fail
        refine (HL.out _).mono ?_
        rintro e w1 ⟨rfl, rfl⟩
        go_wp2_with fail
        refine (HT.out _).mono ?_
        rintro e w1 ⟨rfl, rfl⟩
        go_wp2_with fail
        go_loop [6, 24] (fun s6 s24 => ∃ k : Nat, k ≤ t.size ∧ s24 = .int .i64 k ∧ s6 = .int .u64 (numB ((bl t).take k))) (fun _ s24 => t.size - (intOf s24).toNat)
        case atStart => exact ⟨0, Nat.zero_le _, rfl, rfl⟩
        case round =>
          obtain ⟨k, hk, rfl, rfl⟩ := hrel
          by_cases hlt2 : k < t.size
          · have r1 : (k : Int) < (t.size : Int) := by omega
            have hk1 : k + 1 ≤ t.size := hlt2
            have hkb : k < (bl t).length := by rw [bl_len]; exact hlt2
            have hnt := numB_take hkb
            have hgk : (bl t)[k] = t[k] := by rw [ByteArray.getElem_eq_getElem_data]; simp
            rw [hgk] at hnt
            have hdk : isDig t[k] = true := by
              have := HD.out
              rw [List.all_eq_true] at this
              exact this t[k] (by rw [← hgk]; exact List.getElem_mem hkb)
            obtain ⟨x, hx, hxe, hxn⟩ := dig_nat hdk
            have hat := run_at t k hlt2
            have hb1 := numB_lt ((bl t).take k) (by rw [List.all_eq_true]; intro c hc; have := HD.out; rw [List.all_eq_true] at this; exact this c (List.mem_of_mem_take hc))
            have hb2 : 10 ^ ((bl t).take k).length ≤ 1000000000000000000 := by
              refine Nat.le_trans (Nat.pow_le_pow_right (by omega) (show _ ≤ 18 by rw [List.length_take]; omega)) (by decide)
            rw [hxn] at hat hnt
            generalize numB ((bl t).take k) = a0 at *
            have hntI : ((numB ((bl t).take (k + 1)) : Nat) : Int) = 10 * (a0 : Int) + (x : Int) := by omega
            have HNt := Lib.hid hntI
            have haI : (a0 : Int) < 1000000000000000000 := by omega
            have hxI : (x : Int) < 10 := by omega
            clear hnt hntI hgk hdk hkb hb1 hb2 hxe hxn
            go_wp2_with fail
            go_round
            case rel => exact ⟨k + 1, hk1, by go_num, by rw [HNt.out]; go_num⟩
            case measure => simp [intOf]; omega
          · have r1 : (t.size : Int) ≤ (k : Int) := by omega
            have e : k = t.size := by omega
            subst e
            rw [List.take_of_length_le (by rw [bl_len]; omega)]
            rw [HN.out]
            clear hlt2
            by_cases hbig : 9223372036854775807 < numB (bl s)
            · have hI2 : (9223372036854775807 : Int) < ((numB (bl s) : Nat) : Int) := by omega
              have HRR := Lib.hid (show numR (bl s) = (0, 5) by rw [HR.out, if_pos hbig])
              clear hbig
              go_wp2_with fail
              go_ret2
              exact ⟨by rw [HRR.out]; rfl, rfl⟩
            · have hI2 : ((numB (bl s) : Nat) : Int) ≤ 9223372036854775807 := by omega
              have HRR := Lib.hid (show numR (bl s) = (numB (bl s), 0) by rw [HR.out, if_neg hbig])
              clear hbig
              go_wp2_with fail
              go_ret2
              exact ⟨by rw [HRR.out]; rfl, rfl⟩
  · have hr := numR_look hlk
    rw [hr]
    obtain ⟨er, her⟩ : ∃ er, lookE s = er := ⟨_, rfl⟩
    rw [her] at HL hlk ⊢
    have q1 : (er != 0) = true := by simpa using hlk
    clear hr her
    go_enter Tryz.func63, Tryz.ntmps63
    go_wp2_with fail
    refine (HL.out _).mono ?_
    rintro e w1 ⟨rfl, rfl⟩
    go_wp2_with fail
    go_ret2
    exact ⟨rfl, rfl⟩
end Go.Proofs.YtajhgejhdalobaaGreatDoor
namespace Go.Proofs.YtajhgejhdalobaaGreatDoor
open Go.RowKit

def twiceC : Array Value := #[.int .i64 0, .int .i64 2, .int .i64 4, .int .i64 6, .int .i64 8, .int .i64 1, .int .i64 3, .int .i64 5, .int .i64 7, .int .i64 9]
theorem twice_get : ∀ x < 10, twiceC[x]? = some (.int .i64 (twiceD x : Int)) := by
  intro x hx
  rcases (show x = 0 ∨ x = 1 ∨ x = 2 ∨ x = 3 ∨ x = 4 ∨ x = 5 ∨ x = 6 ∨ x = 7 ∨ x = 8 ∨ x = 9 by omega) with rfl | rfl | rfl | rfl | rfl | rfl | rfl | rfl | rfl | rfl <;> rfl
theorem twice_lt {x : Nat} (h : x < 10) : twiceD x < 10 := by unfold twiceD; split <;> omega
set_option maxRecDepth 100000 in
set_option maxHeartbeats 1600000 in
theorem weigh_ok (s : ByteArray) (w : World) (hd : (bl s).all isDig = true) (h9 : s.size ≤ 999) : Calls Tryz.prog 237 #[.string s, .int .i64 0] w fun e w' => e = .returned (.int .i64 (weighB (bl s) : Int)) ∧ Fr noBlock w w' := by
  have HD := Lib.hid hd
  have hsI : (s.size : Int) ≤ 999 := by omega
  clear hd
  go_enter Tryz.func237, Tryz.ntmps237
  go_upto_block 0 with fail
  refine wp_at (fun W => W.heap[w.heap.size]? = some (.cells twiceC 371 (0, 0)) ∧ Fr noBlock w W) ⟨heap_new w _, (Fr.refl noBlock w).alloc _⟩ ?_
  rintro w1 ⟨b1, f1⟩
  have H1 := Lib.hid (And.intro b1 f1)
  obtain ⟨g, hg⟩ : ∃ g, w.heap.size = g := ⟨_, rfl⟩
  rw [hg] at H1 ⊢
  clear b1 f1 hg
  go_wp2_with fail
  go_loopw [6, 7, 8, 12] (fun s6 s7 s8 s12 W => ∃ i n : Nat, i ≤ s.size ∧ s12 = .int .i64 i ∧ s6 = .int .i64 n ∧ Hid (n + weighB ((bl s).drop i) = weighB (bl s) ∧ n ≤ 9 * i) ∧ Hid (W.heap[g]? = some (.cells twiceC 371 (0, 0)) ∧ Fr noBlock w W)) (fun _ _ _ s12 _ => s.size - (intOf s12).toNat)
  case atStart => exact ⟨0, 0, Nat.zero_le _, rfl, rfl, Lib.hid ⟨by simp, by omega⟩, H1⟩
  case round =>
    clear H1
    obtain ⟨i, n, hi, rfl, rfl, HI, HW⟩ := hrel
    by_cases hlt : i < s.size
    · have r1 : (i : Int) < (s.size : Int) := by omega
      have hi1 : i + 1 ≤ s.size := hlt
      have hib : i < (bl s).length := by rw [bl_len]; exact hlt
      have hgi : (bl s)[i] = s[i] := by rw [ByteArray.getElem_eq_getElem_data]; simp
      have hdi : isDig s[i] = true := by
        have := HD.out
        rw [List.all_eq_true] at this
        exact this s[i] (by rw [← hgi]; exact List.getElem_mem hib)
      obtain ⟨x, hx, hxe, hxn⟩ := dig_nat hdi
      have hat := run_at s i hlt
      rw [hxn] at hat
      have hdr := List.drop_eq_getElem_cons hib
      rw [hgi] at hdr
      have hlen : ((bl s).drop (i + 1)).length = s.size - (i + 1) := by rw [List.length_drop, bl_len]
      have hwe : weighB ((bl s).drop i) = (if (s.size - (i + 1)) % 2 = 1 then twiceD x else x) + weighB ((bl s).drop (i + 1)) := by
        rw [hdr]
        show (if ((bl s).drop (i + 1)).length % 2 = 1 then twiceD (s[i].toNat - 48) else s[i].toNat - 48) + _ = _
        rw [hlen, hxn, show 48 + x - 48 = x by omega]
      have hin := HI.out
      have hnI : (n : Int) ≤ 9 * 999 := by omega
      have htw := twice_lt hx
      have z1 : wr.cell? ⟨g, x, none⟩ = some (.int .i64 (twiceD x : Int)) := by rw [cell_of HW.out.1, twice_get x hx]
      have hxI : (x : Int) < 10 := by omega
      have hxI0 : (0 : Int) ≤ (x : Int) := by omega
      by_cases ho : (s.size - (i + 1)) % 2 = 1
      · rw [if_pos ho] at hwe
        have q1 : ((s.size : Int) - 1 - (i : Int)).tmod 2 = 1 := by
          rw [show (s.size : Int) - 1 - (i : Int) = ((s.size - (i + 1) : Nat) : Int) by omega, show (2 : Int) = ((2 : Nat) : Int) from rfl, ← Int.ofNat_tmod, ho]
          rfl
        have HN := Lib.hid (show (n + twiceD x) + weighB ((bl s).drop (i + 1)) = weighB (bl s) ∧ n + twiceD x ≤ 9 * (i + 1) by omega)
        generalize twiceD x = y at *
        clear hwe hin hdr hlen hdi hgi hib ho hxe hxn
        go_wp2_with fail
        refine ⟨⟨i + 1, n + y, hi1, by go_num, by go_num, HN, HW⟩, ?_⟩
        simp [intOf]; omega
      · rw [if_neg ho] at hwe
        have q1 : ((s.size : Int) - 1 - (i : Int)) % 2 = 0 := by omega
        have q2 : (((s.size : Int) - 1 - (i : Int)) % 2 == 1) = false := by rw [q1]; rfl
        have HN := Lib.hid (show (n + x) + weighB ((bl s).drop (i + 1)) = weighB (bl s) ∧ n + x ≤ 9 * (i + 1) by omega)
        clear hwe hin hdr hlen hdi hgi hib ho hxe hxn htw z1
        go_wp2_with fail
        refine ⟨⟨i + 1, n + x, hi1, by go_num, by go_num, HN, HW⟩, ?_⟩
        simp [intOf]; omega
    · have r1 : (s.size : Int) ≤ (i : Int) := by omega
      have hn := HI.out.1
      rw [List.drop_eq_nil_of_le (by rw [bl_len]; omega)] at hn
      have HN := Lib.hid (show n = weighB (bl s) by rw [← hn]; rfl)
      clear hn HI hlt
      go_wp2_with fail
      go_ret
      exact ⟨by rw [← HN.out]; rfl, HW.out.2⟩
theorem valid_ok (s : ByteArray) (w : World) (hl : lookE s = 0) (h0 : 1 ≤ s.size) : Calls Tryz.prog 172 #[.string s] w fun e w' => e = .returned (.bool (decide (weighB (bl s) % 10 = 0))) ∧ Fr noBlock w w' := by
  obtain ⟨hd, h999⟩ := look_zero hl
  have HL := Lib.hid (fun W => look_any s W (by unfold maxLen; omega))
  rw [hl] at HL
  have HW := Lib.hid (fun W => weigh_ok s W hd h999)
  have hse : s.toList.isEmpty = false := by
    rw [ByteArray.toList_eq]
    cases hx : s.data.toList with
    | nil =>
      have := bl_len s
      rw [show bl s = [] from hx] at this
      simp at this
      omega
    | cons a r => rfl
  obtain ⟨n, hn⟩ : ∃ n, weighB (bl s) = n := ⟨_, rfl⟩
  rw [hn] at HW ⊢
  have q1 : ((n : Int) % 10 == 0) = decide (n % 10 = 0) := by
    by_cases h : n % 10 = 0
    · rw [decide_eq_true h]; simp; omega
    · rw [decide_eq_false h]; simp; omega
  clear hl hd h999 h0 hn
  go_enter Tryz.func172, Tryz.ntmps172
  go_wp2_with fail
  refine (HL.out _).mono ?_
  rintro e w1 ⟨rfl, rfl⟩
  go_wp2_with fail
  refine (HW.out _).mono ?_
  rintro e w2 ⟨rfl, f2⟩
  have HF := Lib.hid f2
  clear f2
  go_wp2_with fail
  go_ret
  exact ⟨by rw [← q1]; rfl, HF.out⟩
end Go.Proofs.YtajhgejhdalobaaGreatDoor
namespace Go.Proofs.YtajhgejhdalobaaGreatDoor
open Go.RowKit

def partsV (a b c : ByteArray) : Value := .agg #[.string a, .string b, .string c]
def cutA (s : ByteArray) : ByteArray := if shapeB (bl s) = true then s.extract 0 6 else ⟨#[]⟩
def cutM (s : ByteArray) : ByteArray := if shapeB (bl s) = true then s.extract 6 (s.size - 4) else ⟨#[]⟩
def cutE (s : ByteArray) : ByteArray := if shapeB (bl s) = true then s.extract (s.size - 4) s.size else ⟨#[]⟩
def cutV (s : ByteArray) : Value := partsV (cutA s) (cutM s) (cutE s)
theorem shape_look {s : ByteArray} (h : lookE s ≠ 0) : shapeB (bl s) = false := by
  cases hs : shapeB (bl s) with
  | false => rfl
  | true =>
    obtain ⟨h1, h2, h3⟩ := shape_iff.1 hs
    rw [bl_len] at h3
    exact absurd (show lookE s = 0 by unfold lookE digB; rw [if_neg (by rw [h1]; simp), if_neg (by omega)]) h
theorem shape_of {s : ByteArray} (h : lookE s = 0) : shapeB (bl s) = (decide (16 ≤ s.size) && decide (s.size ≤ 19)) := by
  obtain ⟨h1, _⟩ := look_zero h
  unfold shapeB
  rw [h1, bl_len]
  rfl
theorem cutV_no {s : ByteArray} (h : shapeB (bl s) = false) : cutV s = partsV ⟨#[]⟩ ⟨#[]⟩ ⟨#[]⟩ := by
  unfold cutV cutA cutM cutE
  rw [if_neg (by simp [h]), if_neg (by simp [h]), if_neg (by simp [h])]
theorem cutV_yes {s : ByteArray} (h : shapeB (bl s) = true) : cutV s = partsV (s.extract 0 6) (s.extract 6 (s.size - 4)) (s.extract (s.size - 4) s.size) := by
  unfold cutV cutA cutM cutE
  rw [if_pos h, if_pos h, if_pos h]
theorem parts_new {w w1 : World} (f1 : Fr noBlock (w.alloc (.cells #[.string ⟨#[]⟩, .string ⟨#[]⟩, .string ⟨#[]⟩] 108)) w1) : w1.heap[w.heap.size]? = some (.cells #[.string ⟨#[]⟩, .string ⟨#[]⟩, .string ⟨#[]⟩] 108 (0, 0)) ∧ w1.cell? ⟨w.heap.size, 0, none⟩ = some (.string ⟨#[]⟩) ∧ w1.cell? ⟨w.heap.size, 1, none⟩ = some (.string ⟨#[]⟩) ∧ w1.cell? ⟨w.heap.size, 2, none⟩ = some (.string ⟨#[]⟩) ∧ ∀ o, w1.frozen? ⟨w.heap.size, o, none⟩ = false := by
  have hb := f1.obj (heap_new w _) (fun z => z)
  exact ⟨hb, cell_of hb 0, cell_of hb 1, cell_of hb 2, fun o => free_of hb o⟩
theorem parts_set {w1 : World} {g : Nat} {x y z : Value} (hb : w1.heap[g]? = some (.cells #[x, y, z] 108 (0, 0))) (a b c : Value) : (((w1.setCell ⟨g, 0, none⟩ a).setCell ⟨g, 1, none⟩ b).setCell ⟨g, 2, none⟩ c).heap[g]? = some (.cells #[a, b, c] 108 (0, 0)) := by
  have h1 := heap_set_eq (i := 0) (u := a) hb
  have h2 := heap_set_eq (i := 1) (u := b) h1
  have h3 := heap_set_eq (i := 2) (u := c) h2
  rw [h3]
  rfl
theorem info_pan : (Tryz.prog.info? 108).map (·.size) = some 3 := by kernel_rfl
set_option maxRecDepth 100000 in
set_option maxHeartbeats 1600000 in
theorem cut_any (s : ByteArray) (hs : s.size ≤ maxLen) (w : World) : Calls Tryz.prog 58 #[.string s] w fun e w' => e = .returned (cutV s) ∧ Fr noBlock w w' := by
  have HL := Lib.hid (fun W => dpack_any s W hs)
  unfold PackPost at HL
  unfold maxLen at hs
  obtain ⟨er, her⟩ : ∃ er, lookE s = er := ⟨_, rfl⟩
  rw [her] at HL
  by_cases h0 : er = 0
  · subst h0
    have hsh := shape_of her
    have h999 := (look_zero her).2
    clear her
    by_cases h16 : 16 ≤ s.size
    · by_cases h19 : s.size ≤ 19
      · rw [decide_eq_true h16, decide_eq_true h19] at hsh
        rw [cutV_yes hsh]
        have q1 : (16 : Int) ≤ (s.size : Int) := by omega
        have q2 : (s.size : Int) ≤ 19 := by omega
        obtain ⟨n, hn⟩ : ∃ n, s.size - 4 = n := ⟨_, rfl⟩
        have q3 : (s.size : Int) - 4 = (n : Int) := by omega
        have q4 : (n : Int) ≤ (s.size : Int) := by omega
        have q5 : (6 : Int) ≤ (n : Int) := by omega
        have q6 : IntKind.i64.wrap (n : Int) = (n : Int) := by rw [IntKind.wrap_i64]; omega
        rw [hn]
        have z1 : ∀ W, (Instr.slice 9 (.string s) none (some (.int .i64 6)) none).run Tryz.prog W = .ok (.string (s.extract 0 6)) W := fun W => run_slice_string_h W _ s Tryz.underlying9 _ 6 (by decide) (by omega)
        have z2 : ∀ W, (Instr.slice 9 (.string s) (some (.int .i64 6)) (some (.int .i64 (n : Int))) none).run Tryz.prog W = .ok (.string (s.extract 6 n)) W := fun W => run_slice_string W _ s _ _ 6 (n : Int) Tryz.underlying9 (by decide) q5 q4
        have z3 : ∀ W, (Instr.slice 9 (.string s) (some (.int .i64 (n : Int))) none none).run Tryz.prog W = .ok (.string (s.extract n s.size)) W := fun W => run_slice_string_l W _ s Tryz.underlying9 _ (n : Int) (by omega) q4
        clear hsh h999 h16 h19
        go_enter Tryz.func58, Tryz.ntmps58
        go_wp2_with fail
        refine (HL.out _).mono ?_
        rintro e w1 ⟨v, rfl, f1⟩
        have HF := Lib.hid (((Fr.refl noBlock w).alloc _).trans' f1)
        obtain ⟨hb, c0, c1, c2, z0⟩ := parts_new f1
        have HB := Lib.hid hb
        clear f1 HL hb
        go_wp2_with fail
        go_still_tail 13, (by kernel_rfl)
        change wpList _ _ _ _ _ w1.drew
        go_wp2_with fail
        refine bodyPost_ret (v := partsV _ _ _) (results_cell_row Tryz.results58 _ _ w.heap.size _ _ _ _ rfl (parts_set HB.out _ _ _) Tryz.underlying108 rfl info_pan) rfl ⟨rfl, ?_⟩
        exact (((HF.out.setCell (.inr (Nat.le_refl _)) _).setCell (.inr (Nat.le_refl _)) _).setCell (.inr (Nat.le_refl _)) _).drew
      · rw [decide_eq_true h16, decide_eq_false h19] at hsh
        rw [cutV_no hsh]
        have q1 : (16 : Int) ≤ (s.size : Int) := by omega
        have q2 : (19 : Int) < (s.size : Int) := by omega
        clear hsh h999 h16 h19
        go_enter Tryz.func58, Tryz.ntmps58
        go_wp2_with fail
        refine (HL.out _).mono ?_
        rintro e w1 ⟨v, rfl, f1⟩
        have HF := Lib.hid (((Fr.refl noBlock w).alloc _).trans' f1)
        obtain ⟨hb, c0, c1, c2, z0⟩ := parts_new f1
        have HB := Lib.hid hb
        clear f1 HL hb
        go_wp2_with fail
        refine bodyPost_ret (v := partsV _ _ _) (results_cell_row Tryz.results58 _ _ w.heap.size _ _ _ _ rfl (parts_set HB.out _ _ _) Tryz.underlying108 rfl info_pan) rfl ⟨rfl, ?_⟩
        exact (((HF.out.setCell (.inr (Nat.le_refl _)) _).setCell (.inr (Nat.le_refl _)) _).setCell (.inr (Nat.le_refl _)) _)
    · rw [decide_eq_false h16] at hsh
      rw [cutV_no hsh]
      have q1 : (s.size : Int) < 16 := by omega
      clear hsh h999 h16
      go_enter Tryz.func58, Tryz.ntmps58
      go_wp2_with fail
      refine (HL.out _).mono ?_
      rintro e w1 ⟨v, rfl, f1⟩
      have HF := Lib.hid (((Fr.refl noBlock w).alloc _).trans' f1)
      obtain ⟨hb, c0, c1, c2, z0⟩ := parts_new f1
      have HB := Lib.hid hb
      clear f1 HL hb
      go_wp2_with fail
      refine bodyPost_ret (v := partsV _ _ _) (results_cell_row Tryz.results58 _ _ w.heap.size _ _ _ _ rfl (parts_set HB.out _ _ _) Tryz.underlying108 rfl info_pan) rfl ⟨rfl, ?_⟩
      exact (((HF.out.setCell (.inr (Nat.le_refl _)) _).setCell (.inr (Nat.le_refl _)) _).setCell (.inr (Nat.le_refl _)) _)
  · have hsh := shape_look (s := s) (by rw [her]; exact h0)
    rw [cutV_no hsh]
    have q1 : (er != 0) = true := by simpa using h0
    clear hsh her
    go_enter Tryz.func58, Tryz.ntmps58
    go_wp2_with fail
    refine (HL.out _).mono ?_
    rintro e w1 ⟨v, rfl, f1⟩
    have HF := Lib.hid (((Fr.refl noBlock w).alloc _).trans' f1)
    obtain ⟨hb, c0, c1, c2, z0⟩ := parts_new f1
    have HB := Lib.hid hb
    clear f1 HL hb
    go_wp2_with fail
    refine bodyPost_ret (v := partsV _ _ _) (results_cell_row Tryz.results58 _ _ w.heap.size _ _ _ _ rfl (parts_set HB.out _ _ _) Tryz.underlying108 rfl info_pan) rfl ⟨rfl, ?_⟩
    exact (((HF.out.setCell (.inr (Nat.le_refl _)) _).setCell (.inr (Nat.le_refl _)) _).setCell (.inr (Nat.le_refl _)) _)
theorem empty_no {s : ByteArray} (h : 0 < s.size) : s.toList.isEmpty = false := by
  rw [ByteArray.toList_eq]
  cases hx : s.data.toList with
  | nil =>
    have := bl_len s
    rw [show bl s = [] from hx] at this
    simp at this
    omega
  | cons a r => rfl
set_option maxRecDepth 100000 in
set_option maxHeartbeats 1600000 in
theorem shaped_any (s : ByteArray) (w : World) : Calls Tryz.prog 59 #[cutV s] w fun e w' => e = .returned (.bool (shapeB (bl s))) ∧ Fr noBlock w w' := by
  obtain ⟨b, hb⟩ : ∃ b, shapeB (bl s) = b := ⟨_, rfl⟩
  rw [hb]
  cases b with
  | false =>
    rw [cutV_no hb]
    unfold partsV
    go_enter Tryz.func59, Tryz.ntmps59
    go_wp2_with fail
    go_ret
    exact ⟨rfl, (Fr.refl noBlock w).alloc _⟩
  | true =>
    obtain ⟨_, h2, _⟩ := shape_iff.1 hb
    rw [bl_len] at h2
    rw [cutV_yes hb]
    obtain ⟨x, hx⟩ : ∃ x, s.extract 0 6 = x := ⟨_, rfl⟩
    have hxe : x.toList.isEmpty = false := empty_no (by rw [← hx, ByteArray.size_extract]; omega)
    have hxn : (x.toList == (⟨#[]⟩ : ByteArray).toList) = false := by
      cases hl : x.toList with
      | nil => rw [hl] at hxe; cases hxe
      | cons a r => rw [ByteArray.toList_eq]; rfl
    rw [hx]
    unfold partsV
    clear hx hb
    go_enter Tryz.func59, Tryz.ntmps59
    go_wp2_with fail
    go_ret
    exact ⟨rfl, (Fr.refl noBlock w).alloc _⟩
end Go.Proofs.YtajhgejhdalobaaGreatDoor
namespace Go.Proofs.YtajhgejhdalobaaGreatDoor
open Go.RowKit

theorem strB_cut' (s : ByteArray) (i j : Nat) : s.extract i j = strB (((bl s).drop i).take (j - i)) := by
  have h : ∀ l : Bs, (strB l).extract i j = strB ((l.drop i).take (j - i)) := by
    intro l
    apply ByteArray.ext
    rw [ByteArray.data_extract]
    simp [strB]
  have := h (bl s)
  rwa [strB_bl] at this
theorem strB_add (a b : Bs) : strB a ++ strB b = strB (a ++ b) := by
  apply ByteArray.ext
  simp [strB]
theorem cut_texts {s : ByteArray} (h : shapeB (bl s) = true) : cutA s = strB (binB (bl s)) ∧ cutM s = strB (midB (bl s)) ∧ cutE s = strB (lastB (bl s)) := by
  obtain ⟨_, h2, _⟩ := shape_iff.1 h
  rw [bl_len] at h2
  unfold cutA cutM cutE
  rw [if_pos h, if_pos h, if_pos h, strB_cut', strB_cut', strB_cut']
  unfold binB midB lastB
  rw [bl_len]
  refine ⟨rfl, ?_, ?_⟩
  · rw [show s.size - 4 - 6 = s.size - 10 by omega]
  · rw [List.take_of_length_le (by rw [List.length_drop, bl_len]; omega)]
set_option maxRecDepth 100000 in
set_option maxHeartbeats 1600000 in
theorem is_any (s : ByteArray) (hs : s.size ≤ maxLen) (w : World) : Calls Tryz.prog 105 #[.string s] w fun e w' => e = .returned (.bool (panB (bl s))) ∧ Fr noBlock w w' := by
  have HC := Lib.hid (fun W => cut_any s hs W)
  have HS := Lib.hid (fun W => shaped_any s W)
  by_cases h : shapeB (bl s) = true
  · have hl : lookE s = 0 := Decidable.byContradiction (fun e => by rw [shape_look e] at h; cases h)
    have h16 := (shape_iff.1 h).2.1
    rw [bl_len] at h16
    have HV := Lib.hid (fun W => valid_ok s W hl (by omega))
    rw [h] at HS
    obtain ⟨b, hb⟩ : ∃ b, decide (weighB (bl s) % 10 = 0) = b := ⟨_, rfl⟩
    have HP := Lib.hid (show panB (bl s) = b by unfold panB; rw [h, hb]; rfl)
    rw [HP.out]
    rw [hb] at HV
    clear h hl h16 hb HP
    go_enter Tryz.func105, Tryz.ntmps105
    go_wp2_with fail
    refine (HC.out _).mono ?_
    rintro e w1 ⟨rfl, f1⟩
    go_wp2_with fail
    refine (HS.out _).mono ?_
    rintro e w2 ⟨rfl, f2⟩
    go_wp2_with fail
    refine (HV.out _).mono ?_
    rintro e w3 ⟨rfl, f3⟩
    have HF := Lib.hid (f1.trans' (f2.trans' f3))
    clear f1 f2 f3
    go_wp2_with fail
    go_ret
    exact ⟨rfl, HF.out⟩
  · have h' : shapeB (bl s) = false := by simpa using h
    rw [h'] at HS
    have HP := Lib.hid (show panB (bl s) = false by unfold panB; rw [h']; rfl)
    rw [HP.out]
    clear h h' HP
    go_enter Tryz.func105, Tryz.ntmps105
    go_wp2_with fail
    refine (HC.out _).mono ?_
    rintro e w1 ⟨rfl, f1⟩
    go_wp2_with fail
    refine (HS.out _).mono ?_
    rintro e w2 ⟨rfl, f2⟩
    have HF := Lib.hid (f1.trans' f2)
    clear f1 f2
    go_wp2_with fail
    go_ret
    exact ⟨rfl, HF.out⟩
set_option maxRecDepth 100000 in
set_option maxHeartbeats 1600000 in
theorem pcut_any (s : ByteArray) (hs : s.size ≤ maxLen) (w : World) : Calls Tryz.prog 21 #[.string s] w fun e w' => e = .returned (.tuple #[.string (cutA s), .string (cutM s), .string (cutE s), .int .i64 (if shapeB (bl s) = true then 0 else 10)]) ∧ Fr noBlock w w' := by
  have HC := Lib.hid (fun W => cut_any s hs W)
  have HS := Lib.hid (fun W => shaped_any s W)
  have HZ := Lib.hid (show shapeB (bl s) = false → cutA s = ⟨#[]⟩ ∧ cutM s = ⟨#[]⟩ ∧ cutE s = ⟨#[]⟩ from fun h => by
    unfold cutA cutM cutE
    rw [if_neg (by simp [h]), if_neg (by simp [h]), if_neg (by simp [h])]
    exact ⟨rfl, rfl, rfl⟩)
  unfold cutV at HC HS
  obtain ⟨a, ha⟩ : ∃ a, cutA s = a := ⟨_, rfl⟩
  obtain ⟨m, hm⟩ : ∃ a, cutM s = a := ⟨_, rfl⟩
  obtain ⟨z, hz⟩ : ∃ a, cutE s = a := ⟨_, rfl⟩
  obtain ⟨b, hb⟩ : ∃ b, shapeB (bl s) = b := ⟨_, rfl⟩
  rw [ha, hm, hz] at HC HS HZ
  rw [hb] at HS HZ
  rw [ha, hm, hz, hb]
  unfold partsV at HC HS
  clear ha hm hz hb
  go_enter Tryz.func21, Tryz.ntmps21
  go_wp2_with fail
  refine (HC.out _).mono ?_
  rintro e w1 ⟨rfl, f1⟩
  go_upto_region 2 with fail
  refine wp_at (fun W => W.heap[w1.heap.size]? = some (.cells #[.string a, .string m, .string z] 108 (0, 0)) ∧ Fr noBlock w W) ?_ ?_
  · exact ⟨heap_new w1 _, f1.alloc _⟩
  · obtain ⟨g, hg⟩ : ∃ g, w1.heap.size = g := ⟨_, rfl⟩
    rw [hg]
    rintro w2 ⟨hb2, f2⟩
    have c0 := cell_of hb2 0
    have c1 := cell_of hb2 1
    have c2 := cell_of hb2 2
    have HB := Lib.hid (And.intro hb2 f2)
    clear hb2 f2 f1 hg
    go_wp2_with fail
    refine (HS.out _).mono ?_
    rintro e w3 ⟨rfl, f3⟩
    have hb3 := f3.obj HB.out.1 (fun z => z)
    have c0 := cell_of hb3 0
    have c1 := cell_of hb3 1
    have c2 := cell_of hb3 2
    have HF := Lib.hid (HB.out.2.trans' f3)
    clear f3 HB hb3
    cases b with
    | true =>
      go_upto_region 4 with fail
      go_quiet (fail)
      all_goals
        go_wp2_with fail
        exact bodyPost_ret (v := .tuple #[.string a, .string m, .string z, .int .i64 0]) (by simp [results, Tryz.results21, go_sem]) rfl ⟨rfl, HF.out.drewN _⟩
    | false =>
      obtain ⟨h1, h2, h3⟩ := HZ.out rfl
      go_wp2_with fail
      exact bodyPost_ret (v := .tuple #[.string ⟨#[]⟩, .string ⟨#[]⟩, .string ⟨#[]⟩, .int .i64 10]) (by simp [results, Tryz.results21, go_sem]) rfl ⟨rfl, HF.out⟩
theorem str_ne3 {a b : ByteArray} (h : ¬ a = b) : (a.toList == b.toList) = false := by
  cases hx : (a.toList == b.toList) with
  | false => rfl
  | true => exact absurd (toList_inj' (by simpa using hx)) h
def tokN (s : ByteArray) (v : Int) : ByteArray × Int := if shapeB (bl s) = false then (⟨#[]⟩, 10) else if v < 1 ∨ 255 < v then (⟨#[]⟩, 1) else (strB (tokB (bl s) v.toNat), 0)
set_option maxRecDepth 100000 in
set_option maxHeartbeats 1600000 in
theorem ptoken_any {w : World} {F : Nat → Prop} (hG : Glob w F) (s : ByteArray) (hs : s.size ≤ maxLen) (v : Int) : Calls Tryz.prog 64 #[.string s, .int .i64 v] w fun e w' => e = .returned (.tuple #[.string (tokN s v).1, .int .i64 (tokN s v).2]) ∧ Fr noBlock w w' := by
  have HC := Lib.hid (fun W => cut_any s hs W)
  have HS := Lib.hid (fun W => shaped_any s W)
  have HGl := Lib.hid hG
  clear hG
  by_cases hb : shapeB (bl s) = true
  · rw [hb] at HS
    by_cases hv : v < 1 ∨ 255 < v
    · have HT := Lib.hid (show tokN s v = (⟨#[]⟩, 1) by unfold tokN; rw [if_neg (by simp [hb]), if_pos hv])
      rw [HT.out]
      clear hb HT
      by_cases h1 : v < 1
      · go_enter Tryz.func64, Tryz.ntmps64
        go_wp2_with fail
        refine (HC.out _).mono ?_
        rintro e w1 ⟨rfl, f1⟩
        go_wp2_with fail
        refine (HS.out _).mono ?_
        rintro e w2 ⟨rfl, f2⟩
        have HF := Lib.hid (f1.trans' f2)
        clear f1 f2
        go_wp2_with fail
        go_ret2
        exact ⟨rfl, HF.out⟩
      · have h2 : 255 < v := by omega
        go_enter Tryz.func64, Tryz.ntmps64
        go_wp2_with fail
        refine (HC.out _).mono ?_
        rintro e w1 ⟨rfl, f1⟩
        go_wp2_with fail
        refine (HS.out _).mono ?_
        rintro e w2 ⟨rfl, f2⟩
        have HF := Lib.hid (f1.trans' f2)
        clear f1 f2
        go_wp2_with fail
        go_ret2
        exact ⟨rfl, HF.out⟩
    · have HT := Lib.hid (show tokN s v = (strB (tokB (bl s) v.toNat), 0) by unfold tokN; rw [if_neg (by simp [hb]), if_neg hv])
      rw [HT.out]
      obtain ⟨n, rfl⟩ : ∃ n : Nat, v = (n : Int) := ⟨v.toNat, by omega⟩
      have h1 : (1 : Int) ≤ (n : Int) := by omega
      have h2 : (n : Int) ≤ 255 := by omega
      have h19 := (shape_iff.1 hb).2.2
      rw [bl_len] at h19
      have z1 : (s ++ (⟨#[46]⟩ : ByteArray)).size = s.size + 1 := ByteArray.size_append
      have z2 : (strB (itoB n)).size ≤ 3 := by rw [strB_size]; exact (ito_small n (by omega)).2.2.2
      clear hb HT hv
      go_enter Tryz.func64, Tryz.ntmps64
      go_wp2_with fail
      refine (HC.out _).mono ?_
      rintro e w1 ⟨rfl, f1⟩
      go_wp2_with fail
      refine (HS.out _).mono ?_
      rintro e w2 ⟨rfl, f2⟩
      have HI := Lib.hid (ito_glob (HGl.out.fr (f1.trans' f2)) n (by omega))
      have HF := Lib.hid (f1.trans' f2)
      clear f1 f2
      go_wp2_with fail
      refine HI.out.mono ?_
      rintro e w3 ⟨rfl, f3⟩
      have HF3 := Lib.hid (HF.out.trans' f3)
      clear f3
      go_wp2_with fail
      go_ret2
      refine ⟨?_, HF3.out⟩
      rw [Int.toNat_natCast]
      unfold tokB
      rw [show bl s ++ 46 :: itoB n = (bl s ++ [46]) ++ itoB n by simp, ← strB_add, ← strB_add, strB_bl]
      rfl
  · have hb' : shapeB (bl s) = false := by simpa using hb
    rw [hb'] at HS
    have HT := Lib.hid (show tokN s v = (⟨#[]⟩, 10) by unfold tokN; rw [if_pos hb'])
    rw [HT.out]
    clear hb hb' HT
    go_enter Tryz.func64, Tryz.ntmps64
    go_wp2_with fail
    refine (HC.out _).mono ?_
    rintro e w1 ⟨rfl, f1⟩
    go_wp2_with fail
    refine (HS.out _).mono ?_
    rintro e w2 ⟨rfl, f2⟩
    have HF := Lib.hid (f1.trans' f2)
    clear f1 f2
    go_wp2_with fail
    go_ret2
    exact ⟨rfl, HF.out⟩
def headD (t : Bs) : Bs := t.takeWhile (fun c => c != 46)
def tailD (t : Bs) : Bs := (t.dropWhile (fun c => c != 46)).drop 1
theorem ito_numR' {n : Nat} (h : n ≤ 255) : numR (itoB n) = (n, 0) := by
  obtain ⟨h0, h1, h2, h3⟩ := ito_small n (by omega)
  unfold numR
  rw [if_neg (by rw [h1]; simp), if_neg (by omega), if_neg (by intro e; rw [e] at h2; simp at h2), h0, if_neg (by omega)]
theorem tok_tail {s t : Bs} {n : Nat} (hs : s = headD t) (h : tokB s n = t) : tailD t = itoB n := by
  unfold tailD
  have e : t = s ++ 46 :: itoB n := h.symm
  have hp : ∀ c ∈ s, (c != 46) = true := by
    rw [hs]
    exact List.all_eq_true.1 List.all_takeWhile
  rw [e, List.dropWhile_append_of_pos hp, List.dropWhile_cons]
  simp
theorem split_yes {t : Bs} (h0 : (numR (tailD t)).2 = 0) (h1 : shapeB (headD t) = true) (h2 : 1 ≤ (numR (tailD t)).1) (h3 : (numR (tailD t)).1 ≤ 255) (h4 : tokB (headD t) (numR (tailD t)).1 = t) : splitB t = some (headD t, (numR (tailD t)).1) := by
  have e : tailD t = itoB (numR (tailD t)).1 := tok_tail rfl h4
  have e2 : numB (tailD t) = (numR (tailD t)).1 := by
    conv => lhs; rw [e]
    exact (ito_small _ (by omega)).1
  unfold splitB
  dsimp only
  rw [show (t.dropWhile (fun c => c != 46)).drop 1 = tailD t from rfl, e2, if_pos ⟨h1, h2, h3, h4⟩]
  rfl
theorem split_no {t : Bs} (h : ¬ ((numR (tailD t)).2 = 0 ∧ shapeB (headD t) = true ∧ 1 ≤ (numR (tailD t)).1 ∧ (numR (tailD t)).1 ≤ 255 ∧ tokB (headD t) (numR (tailD t)).1 = t)) : splitB t = none := by
  unfold splitB
  dsimp only
  split
  · rename_i hc
    obtain ⟨h1, h2, h3, h4⟩ := hc
    exfalso
    have e : tailD t = itoB _ := tok_tail rfl h4
    have e2 : numR (tailD t) = (numB (tailD t), 0) := by
      have := ito_numR' h3
      rw [← e] at this
      exact this
    refine h ?_
    rw [e2]
    exact ⟨rfl, h1, h2, h3, h4⟩
  · rfl
end Go.Proofs.YtajhgejhdalobaaGreatDoor
