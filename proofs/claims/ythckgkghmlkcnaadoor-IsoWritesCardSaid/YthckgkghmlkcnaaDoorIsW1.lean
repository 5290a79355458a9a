/-
  THE WALKS of the document's digit and value.
-/
import Derived.Test.YthckgkghmlkcnaaDoorIsH
namespace Go.Proofs.YthckgkghmlkcnaaDoor
open Go.RowKit

theorem rdigit_any (c : Int) (w : World) : Calls Tryd.prog 64 #[.int .u8 c] w fun e w' => e = .returned (.bool (decide (48 ≤ c) && decide (c ≤ 57))) ∧ w = w' := by
  by_cases h1 : 48 ≤ c
  · have e : (decide (48 ≤ c) && decide (c ≤ 57)) = decide (c ≤ 57) := by simp [h1]
    rw [e]
    clear e
    go_enter Tryd.func64, Tryd.ntmps64
    go_wp2_with fail
    go_ret
    exact ⟨rfl, rfl⟩
  · have e : (decide (48 ≤ c) && decide (c ≤ 57)) = false := by simp [h1]
    rw [e]
    have h1' : c < 48 := by omega
    clear e h1
    go_enter Tryd.func64, Tryd.ntmps64
    go_wp2_with fail
    go_ret
    exact ⟨rfl, rfl⟩
/-- is a byte a digit, a sign? -/
def digC (c : UInt8) : Bool := decide ((48 : Int) ≤ (c.toNat : Int)) && decide ((c.toNat : Int) ≤ 57)
def sigC (c : UInt8) : Bool := decide ((32 : Int) ≤ (c.toNat : Int)) && decide ((c.toNat : Int) ≤ 126)
theorem bad_of (kind : Int) (c : UInt8) : badC kind c = if kind = 5 then false else if kind = 1 ∨ kind = 2 then !digC c else !sigC c := by
  have e1 : digC c = isDig c := by
    unfold digC isDig
    congr 1 <;> simp only [decide_eq_decide] <;> omega
  have e2 : sigC c = isSign c := by
    unfold sigC isSign
    congr 1 <;> simp only [decide_eq_decide] <;> omega
  rw [e1, e2]
  rfl
theorem val_end {l : Bs} {kind long : Int} (hl : 1 ≤ long) (h : otherB l kind = false) : valueE l kind long = if kind = 2 ∨ kind = 4 then (if l.length = 0 then 4 else if long < l.length then 2 else 0) else if (l.length : Int) ≠ long then 4 else 0 := by
  unfold valueE
  rw [h]
  rw [if_neg (by simp)]
  by_cases hk : kind = 2 ∨ kind = 4
  · rw [if_pos hk, if_pos hk]
    by_cases h0 : l.length = 0
    · rw [if_pos h0, if_neg (by omega), if_pos h0]
    · by_cases h1 : long < (l.length : Int)
      · rw [if_pos h1, if_neg h0, if_pos h1]
      · rw [if_neg h1, if_neg h0, if_neg h0, if_neg h1]
  · rw [if_neg hk, if_neg hk]
theorem val_bad {l : Bs} {kind long : Int} (h : otherB l kind = true) : valueE l kind long = 4 := if_pos h
set_option maxRecDepth 100000 in
set_option maxHeartbeats 3200000 in
theorem rval_any (s : ByteArray) (kind long : Int) (w : World) (hs : s.size ≤ maxLen) (hk : kind = 1 ∨ kind = 2 ∨ kind = 3 ∨ kind = 4 ∨ kind = 5) (hl : 1 ≤ long ∧ long ≤ 9223372036854775807) : Calls Tryd.prog 46 #[.string s, .int .i64 kind, .int .i64 long] w fun e w' => e = .returned (.int .i64 (valueE (bl s) kind long)) ∧ w = w' := by
  have hlen : (bl s).length = s.size := bl_len s
  unfold maxLen at hs
  obtain ⟨res, hres⟩ : ∃ r, valueE (bl s) kind long = r := ⟨_, rfl⟩
  rw [hres]
  have HE := Lib.hid (show otherB (bl s) kind = false → res = if kind = 2 ∨ kind = 4 then (if s.size = 0 then 4 else if long < s.size then 2 else 0) else if (s.size : Int) ≠ long then 4 else 0 by
    intro h
    rw [← hres, val_end hl.1 h, hlen])
  have HB := Lib.hid (show otherB (bl s) kind = true → res = 4 from fun h => hres.symm.trans (val_bad h))
  have Hbad := Lib.hid (bad_of kind)
  have HD := Lib.hid (fun (c : UInt8) W => rdigit_any (c.toNat : Int) W)
  have HG := Lib.hid (fun (c : UInt8) W => rsign_any (c.toNat : Int) W)
  have hl1 := hl.1
  have hl2 := hl.2
  clear hres hlen hl
  rcases hk with rfl | rfl | rfl | rfl | rfl
  · go_enter Tryd.func46, Tryd.ntmps46
    go_wp2_with fail
    go_loop [7] (fun s7 => ∃ k : Nat, k ≤ s.size ∧ s7 = .int .i64 k ∧ Hid (otherB ((bl s).take k) 1 = false)) (fun s7 => s.size - (intOf s7).toNat)
    case atStart => exact ⟨0, Nat.zero_le _, rfl, Lib.hid rfl⟩
    case round =>
      obtain ⟨k, hk, rfl, hn⟩ := hrel
      by_cases hlt : k < s.size
      · have h1 : (k : Int) < (s.size : Int) := by omega
        have hc256 : (s[k].toNat : Int) < 256 := by have := s[k].toNat_lt; omega
        have hat := run_at s k hlt
        have hk1 : k + 1 ≤ s.size := hlt
        have hb := Hbad.out s[k]
        have Hst := Lib.hid (fun (h : badC 1 s[k] = false) => (by rw [other_step hlt, hn.out, h]; rfl : otherB ((bl s).take (k + 1)) 1 = false))
        have Hno := Lib.hid (fun (h : badC 1 s[k] = true) => HB.out (other_at hlt h))
        have HD1 := Lib.hid (HD.out s[k])
        have HG1 := Lib.hid (HG.out s[k])
        have ed : (decide ((48 : Int) ≤ (s[k].toNat : Int)) && decide ((s[k].toNat : Int) ≤ 57)) = digC s[k] := rfl
        have eg : (decide ((32 : Int) ≤ (s[k].toNat : Int)) && decide ((s[k].toNat : Int) ≤ 126)) = sigC s[k] := rfl
        rw [ed] at HD1
        rw [eg] at HG1
        clear ed eg
        generalize digC s[k] = d at *
        generalize sigC s[k] = g at *
        have HBd := Lib.hid hb
        have hc0 : (0 : Int) ≤ (s[k].toNat : Int) := by omega
        clear hb
        generalize s[k] = cc at *
        clear hlt
        generalize (cc.toNat : Int) = c at *
        rcases hbb : badC 1 cc with _ | _
        · have H2 := Lib.hid (Hst.out hbb)
          cases d <;> cases g
          all_goals first
            | (exfalso; have := HBd.out; rw [hbb] at this; revert this; decide)
            | skip
          all_goals
            clear HBd HB HE HD HG Hbad hbb Hst Hno
            go_wp2_with fail
            refine (HD1.out _).mono ?_
            rintro e w' ⟨rfl, rfl⟩
            go_wp2_with fail
            refine (HG1.out _).mono ?_
            rintro e w' ⟨rfl, rfl⟩
            go_wp2_with fail
            go_round
            case rel => exact ⟨k + 1, hk1, by go_num, H2⟩
            case measure => simp [intOf]; omega
        · have H2 := Lib.hid (Hno.out hbb)
          cases d <;> cases g
          all_goals first
            | (exfalso; have := HBd.out; rw [hbb] at this; revert this; decide)
            | skip
          all_goals
            clear HBd HB HE HD HG Hbad hbb Hst Hno
            go_wp2_with fail
            refine (HD1.out _).mono ?_
            rintro e w' ⟨rfl, rfl⟩
            go_wp2_with fail
            refine (HG1.out _).mono ?_
            rintro e w' ⟨rfl, rfl⟩
            go_wp2_with fail
            go_ret
            exact ⟨ret_int H2.out.symm, rfl⟩
      · have h1 : (s.size : Int) ≤ (k : Int) := by omega
        have H2 := Lib.hid (HE.out (by have := hn.out; rwa [List.take_of_length_le (by rw [bl_len]; omega)] at this))
        clear hlt hn HE HB HD HG Hbad
        by_cases h9 : (s.size : Int) ≠ long
        · have H3 := Lib.hid ((H2.out.trans (if_neg (by decide))).trans (if_pos h9))
          have hx : ((s.size : Int) != long) = true := by simpa using h9
          clear H2 h9
          go_wp2_with fail
          go_ret
          exact ⟨ret_int H3.out.symm, rfl⟩
        · have H3 := Lib.hid ((H2.out.trans (if_neg (by decide))).trans (if_neg h9))
          have hx : ((s.size : Int) != long) = false := by simpa using h9
          have hle : (s.size : Int) ≤ long := by omega
          clear H2 h9
          go_wp2_with fail
          go_ret
          exact ⟨ret_int H3.out.symm, rfl⟩
  · go_enter Tryd.func46, Tryd.ntmps46
    go_wp2_with fail
    go_loop [7] (fun s7 => ∃ k : Nat, k ≤ s.size ∧ s7 = .int .i64 k ∧ Hid (otherB ((bl s).take k) 2 = false)) (fun s7 => s.size - (intOf s7).toNat)
    case atStart => exact ⟨0, Nat.zero_le _, rfl, Lib.hid rfl⟩
    case round =>
      obtain ⟨k, hk, rfl, hn⟩ := hrel
      by_cases hlt : k < s.size
      · have h1 : (k : Int) < (s.size : Int) := by omega
        have hc256 : (s[k].toNat : Int) < 256 := by have := s[k].toNat_lt; omega
        have hat := run_at s k hlt
        have hk1 : k + 1 ≤ s.size := hlt
        have hb := Hbad.out s[k]
        have Hst := Lib.hid (fun (h : badC 2 s[k] = false) => (by rw [other_step hlt, hn.out, h]; rfl : otherB ((bl s).take (k + 1)) 2 = false))
        have Hno := Lib.hid (fun (h : badC 2 s[k] = true) => HB.out (other_at hlt h))
        have HD1 := Lib.hid (HD.out s[k])
        have HG1 := Lib.hid (HG.out s[k])
        have ed : (decide ((48 : Int) ≤ (s[k].toNat : Int)) && decide ((s[k].toNat : Int) ≤ 57)) = digC s[k] := rfl
        have eg : (decide ((32 : Int) ≤ (s[k].toNat : Int)) && decide ((s[k].toNat : Int) ≤ 126)) = sigC s[k] := rfl
        rw [ed] at HD1
        rw [eg] at HG1
        clear ed eg
        generalize digC s[k] = d at *
        generalize sigC s[k] = g at *
        have HBd := Lib.hid hb
        have hc0 : (0 : Int) ≤ (s[k].toNat : Int) := by omega
        clear hb
        generalize s[k] = cc at *
        clear hlt
        generalize (cc.toNat : Int) = c at *
        rcases hbb : badC 2 cc with _ | _
        · have H2 := Lib.hid (Hst.out hbb)
          cases d <;> cases g
          all_goals first
            | (exfalso; have := HBd.out; rw [hbb] at this; revert this; decide)
            | skip
          all_goals
            clear HBd HB HE HD HG Hbad hbb Hst Hno
            go_wp2_with fail
            refine (HD1.out _).mono ?_
            rintro e w' ⟨rfl, rfl⟩
            go_wp2_with fail
            refine (HG1.out _).mono ?_
            rintro e w' ⟨rfl, rfl⟩
            go_wp2_with fail
            go_round
            case rel => exact ⟨k + 1, hk1, by go_num, H2⟩
            case measure => simp [intOf]; omega
        · have H2 := Lib.hid (Hno.out hbb)
          cases d <;> cases g
          all_goals first
            | (exfalso; have := HBd.out; rw [hbb] at this; revert this; decide)
            | skip
          all_goals
            clear HBd HB HE HD HG Hbad hbb Hst Hno
            go_wp2_with fail
            refine (HD1.out _).mono ?_
            rintro e w' ⟨rfl, rfl⟩
            go_wp2_with fail
            refine (HG1.out _).mono ?_
            rintro e w' ⟨rfl, rfl⟩
            go_wp2_with fail
            go_ret
            exact ⟨ret_int H2.out.symm, rfl⟩
      · have h1 : (s.size : Int) ≤ (k : Int) := by omega
        have H2 := Lib.hid (HE.out (by have := hn.out; rwa [List.take_of_length_le (by rw [bl_len]; omega)] at this))
        clear hlt hn HE HB HD HG Hbad
        by_cases h0 : s.size = 0
        · have H3 := Lib.hid ((H2.out.trans (if_pos (by decide))).trans (if_pos h0))
          have hse : s.toList.isEmpty = true := by rw [ByteArray.toList_eq, List.isEmpty_iff_length_eq_zero]; exact h0
          clear H2 h0
          go_wp2_with fail
          go_ret
          exact ⟨ret_int H3.out.symm, rfl⟩
        · have h0' : 1 ≤ (s.size : Int) := by omega
          have hse : s.toList.isEmpty = false := by rw [ByteArray.toList_eq, List.isEmpty_eq_false_iff_exists_mem]; exact List.exists_mem_of_length_pos (by show 0 < s.size; omega)
          have H3 := Lib.hid ((H2.out.trans (if_pos (by decide))).trans (if_neg h0))
          by_cases h9 : long < (s.size : Int)
          · have H4 := Lib.hid (H3.out.trans (if_pos h9))
            clear H2 H3 h0
            go_wp2_with fail
            go_ret
            exact ⟨ret_int H4.out.symm, rfl⟩
          · have h9' : (s.size : Int) ≤ long := by omega
            have H4 := Lib.hid (H3.out.trans (if_neg h9))
            clear H2 H3 h0 h9
            go_wp2_with fail
            go_ret
            exact ⟨ret_int H4.out.symm, rfl⟩
  · go_enter Tryd.func46, Tryd.ntmps46
    go_wp2_with fail
    go_loop [7] (fun s7 => ∃ k : Nat, k ≤ s.size ∧ s7 = .int .i64 k ∧ Hid (otherB ((bl s).take k) 3 = false)) (fun s7 => s.size - (intOf s7).toNat)
    case atStart => exact ⟨0, Nat.zero_le _, rfl, Lib.hid rfl⟩
    case round =>
      obtain ⟨k, hk, rfl, hn⟩ := hrel
      by_cases hlt : k < s.size
      · have h1 : (k : Int) < (s.size : Int) := by omega
        have hc256 : (s[k].toNat : Int) < 256 := by have := s[k].toNat_lt; omega
        have hat := run_at s k hlt
        have hk1 : k + 1 ≤ s.size := hlt
        have hb := Hbad.out s[k]
        have Hst := Lib.hid (fun (h : badC 3 s[k] = false) => (by rw [other_step hlt, hn.out, h]; rfl : otherB ((bl s).take (k + 1)) 3 = false))
        have Hno := Lib.hid (fun (h : badC 3 s[k] = true) => HB.out (other_at hlt h))
        have HD1 := Lib.hid (HD.out s[k])
        have HG1 := Lib.hid (HG.out s[k])
        have ed : (decide ((48 : Int) ≤ (s[k].toNat : Int)) && decide ((s[k].toNat : Int) ≤ 57)) = digC s[k] := rfl
        have eg : (decide ((32 : Int) ≤ (s[k].toNat : Int)) && decide ((s[k].toNat : Int) ≤ 126)) = sigC s[k] := rfl
        rw [ed] at HD1
        rw [eg] at HG1
        clear ed eg
        generalize digC s[k] = d at *
        generalize sigC s[k] = g at *
        have HBd := Lib.hid hb
        have hc0 : (0 : Int) ≤ (s[k].toNat : Int) := by omega
        clear hb
        generalize s[k] = cc at *
        clear hlt
        generalize (cc.toNat : Int) = c at *
        rcases hbb : badC 3 cc with _ | _
        · have H2 := Lib.hid (Hst.out hbb)
          cases d <;> cases g
          all_goals first
            | (exfalso; have := HBd.out; rw [hbb] at this; revert this; decide)
            | skip
          all_goals
            clear HBd HB HE HD HG Hbad hbb Hst Hno
            go_wp2_with fail
            refine (HD1.out _).mono ?_
            rintro e w' ⟨rfl, rfl⟩
            go_wp2_with fail
            refine (HG1.out _).mono ?_
            rintro e w' ⟨rfl, rfl⟩
            go_wp2_with fail
            go_round
            case rel => exact ⟨k + 1, hk1, by go_num, H2⟩
            case measure => simp [intOf]; omega
        · have H2 := Lib.hid (Hno.out hbb)
          cases d <;> cases g
          all_goals first
            | (exfalso; have := HBd.out; rw [hbb] at this; revert this; decide)
            | skip
          all_goals
            clear HBd HB HE HD HG Hbad hbb Hst Hno
            go_wp2_with fail
            refine (HD1.out _).mono ?_
            rintro e w' ⟨rfl, rfl⟩
            go_wp2_with fail
            refine (HG1.out _).mono ?_
            rintro e w' ⟨rfl, rfl⟩
            go_wp2_with fail
            go_ret
            exact ⟨ret_int H2.out.symm, rfl⟩
      · have h1 : (s.size : Int) ≤ (k : Int) := by omega
        have H2 := Lib.hid (HE.out (by have := hn.out; rwa [List.take_of_length_le (by rw [bl_len]; omega)] at this))
        clear hlt hn HE HB HD HG Hbad
        by_cases h9 : (s.size : Int) ≠ long
        · have H3 := Lib.hid ((H2.out.trans (if_neg (by decide))).trans (if_pos h9))
          have hx : ((s.size : Int) != long) = true := by simpa using h9
          clear H2 h9
          go_wp2_with fail
          go_ret
          exact ⟨ret_int H3.out.symm, rfl⟩
        · have H3 := Lib.hid ((H2.out.trans (if_neg (by decide))).trans (if_neg h9))
          have hx : ((s.size : Int) != long) = false := by simpa using h9
          have hle : (s.size : Int) ≤ long := by omega
          clear H2 h9
          go_wp2_with fail
          go_ret
          exact ⟨ret_int H3.out.symm, rfl⟩
  · go_enter Tryd.func46, Tryd.ntmps46
    go_wp2_with fail
    go_loop [7] (fun s7 => ∃ k : Nat, k ≤ s.size ∧ s7 = .int .i64 k ∧ Hid (otherB ((bl s).take k) 4 = false)) (fun s7 => s.size - (intOf s7).toNat)
    case atStart => exact ⟨0, Nat.zero_le _, rfl, Lib.hid rfl⟩
    case round =>
      obtain ⟨k, hk, rfl, hn⟩ := hrel
      by_cases hlt : k < s.size
      · have h1 : (k : Int) < (s.size : Int) := by omega
        have hc256 : (s[k].toNat : Int) < 256 := by have := s[k].toNat_lt; omega
        have hat := run_at s k hlt
        have hk1 : k + 1 ≤ s.size := hlt
        have hb := Hbad.out s[k]
        have Hst := Lib.hid (fun (h : badC 4 s[k] = false) => (by rw [other_step hlt, hn.out, h]; rfl : otherB ((bl s).take (k + 1)) 4 = false))
        have Hno := Lib.hid (fun (h : badC 4 s[k] = true) => HB.out (other_at hlt h))
        have HD1 := Lib.hid (HD.out s[k])
        have HG1 := Lib.hid (HG.out s[k])
        have ed : (decide ((48 : Int) ≤ (s[k].toNat : Int)) && decide ((s[k].toNat : Int) ≤ 57)) = digC s[k] := rfl
        have eg : (decide ((32 : Int) ≤ (s[k].toNat : Int)) && decide ((s[k].toNat : Int) ≤ 126)) = sigC s[k] := rfl
        rw [ed] at HD1
        rw [eg] at HG1
        clear ed eg
        generalize digC s[k] = d at *
        generalize sigC s[k] = g at *
        have HBd := Lib.hid hb
        have hc0 : (0 : Int) ≤ (s[k].toNat : Int) := by omega
        clear hb
        generalize s[k] = cc at *
        clear hlt
        generalize (cc.toNat : Int) = c at *
        rcases hbb : badC 4 cc with _ | _
        · have H2 := Lib.hid (Hst.out hbb)
          cases d <;> cases g
          all_goals first
            | (exfalso; have := HBd.out; rw [hbb] at this; revert this; decide)
            | skip
          all_goals
            clear HBd HB HE HD HG Hbad hbb Hst Hno
            go_wp2_with fail
            refine (HD1.out _).mono ?_
            rintro e w' ⟨rfl, rfl⟩
            go_wp2_with fail
            refine (HG1.out _).mono ?_
            rintro e w' ⟨rfl, rfl⟩
            go_wp2_with fail
            go_round
            case rel => exact ⟨k + 1, hk1, by go_num, H2⟩
            case measure => simp [intOf]; omega
        · have H2 := Lib.hid (Hno.out hbb)
          cases d <;> cases g
          all_goals first
            | (exfalso; have := HBd.out; rw [hbb] at this; revert this; decide)
            | skip
          all_goals
            clear HBd HB HE HD HG Hbad hbb Hst Hno
            go_wp2_with fail
            refine (HD1.out _).mono ?_
            rintro e w' ⟨rfl, rfl⟩
            go_wp2_with fail
            refine (HG1.out _).mono ?_
            rintro e w' ⟨rfl, rfl⟩
            go_wp2_with fail
            go_ret
            exact ⟨ret_int H2.out.symm, rfl⟩
      · have h1 : (s.size : Int) ≤ (k : Int) := by omega
        have H2 := Lib.hid (HE.out (by have := hn.out; rwa [List.take_of_length_le (by rw [bl_len]; omega)] at this))
        clear hlt hn HE HB HD HG Hbad
        by_cases h0 : s.size = 0
        · have H3 := Lib.hid ((H2.out.trans (if_pos (by decide))).trans (if_pos h0))
          have hse : s.toList.isEmpty = true := by rw [ByteArray.toList_eq, List.isEmpty_iff_length_eq_zero]; exact h0
          clear H2 h0
          go_wp2_with fail
          go_ret
          exact ⟨ret_int H3.out.symm, rfl⟩
        · have h0' : 1 ≤ (s.size : Int) := by omega
          have hse : s.toList.isEmpty = false := by rw [ByteArray.toList_eq, List.isEmpty_eq_false_iff_exists_mem]; exact List.exists_mem_of_length_pos (by show 0 < s.size; omega)
          have H3 := Lib.hid ((H2.out.trans (if_pos (by decide))).trans (if_neg h0))
          by_cases h9 : long < (s.size : Int)
          · have H4 := Lib.hid (H3.out.trans (if_pos h9))
            clear H2 H3 h0
            go_wp2_with fail
            go_ret
            exact ⟨ret_int H4.out.symm, rfl⟩
          · have h9' : (s.size : Int) ≤ long := by omega
            have H4 := Lib.hid (H3.out.trans (if_neg h9))
            clear H2 H3 h0 h9
            go_wp2_with fail
            go_ret
            exact ⟨ret_int H4.out.symm, rfl⟩
  · go_enter Tryd.func46, Tryd.ntmps46
    go_wp2_with fail
    go_loop [7] (fun s7 => ∃ k : Nat, k ≤ s.size ∧ s7 = .int .i64 k ∧ Hid (otherB ((bl s).take k) 5 = false)) (fun s7 => s.size - (intOf s7).toNat)
    case atStart => exact ⟨0, Nat.zero_le _, rfl, Lib.hid rfl⟩
    case round =>
      obtain ⟨k, hk, rfl, hn⟩ := hrel
      by_cases hlt : k < s.size
      · have h1 : (k : Int) < (s.size : Int) := by omega
        have hc256 : (s[k].toNat : Int) < 256 := by have := s[k].toNat_lt; omega
        have hat := run_at s k hlt
        have hk1 : k + 1 ≤ s.size := hlt
        have hb := Hbad.out s[k]
        have Hst := Lib.hid (fun (h : badC 5 s[k] = false) => (by rw [other_step hlt, hn.out, h]; rfl : otherB ((bl s).take (k + 1)) 5 = false))
        have Hno := Lib.hid (fun (h : badC 5 s[k] = true) => HB.out (other_at hlt h))
        have HD1 := Lib.hid (HD.out s[k])
        have HG1 := Lib.hid (HG.out s[k])
        have ed : (decide ((48 : Int) ≤ (s[k].toNat : Int)) && decide ((s[k].toNat : Int) ≤ 57)) = digC s[k] := rfl
        have eg : (decide ((32 : Int) ≤ (s[k].toNat : Int)) && decide ((s[k].toNat : Int) ≤ 126)) = sigC s[k] := rfl
        rw [ed] at HD1
        rw [eg] at HG1
        clear ed eg
        generalize digC s[k] = d at *
        generalize sigC s[k] = g at *
        have HBd := Lib.hid hb
        have hc0 : (0 : Int) ≤ (s[k].toNat : Int) := by omega
        clear hb
        generalize s[k] = cc at *
        clear hlt
        generalize (cc.toNat : Int) = c at *
        rcases hbb : badC 5 cc with _ | _
        · have H2 := Lib.hid (Hst.out hbb)
          cases d <;> cases g
          all_goals first
            | (exfalso; have := HBd.out; rw [hbb] at this; revert this; decide)
            | skip
          all_goals
            clear HBd HB HE HD HG Hbad hbb Hst Hno
            go_wp2_with fail
            refine (HD1.out _).mono ?_
            rintro e w' ⟨rfl, rfl⟩
            go_wp2_with fail
            refine (HG1.out _).mono ?_
            rintro e w' ⟨rfl, rfl⟩
            go_wp2_with fail
            go_round
            case rel => exact ⟨k + 1, hk1, by go_num, H2⟩
            case measure => simp [intOf]; omega
        · have H2 := Lib.hid (Hno.out hbb)
          cases d <;> cases g
          all_goals first
            | (exfalso; have := HBd.out; rw [hbb] at this; revert this; decide)
            | skip
          all_goals
            clear HBd HB HE HD HG Hbad hbb Hst Hno
            go_wp2_with fail
            refine (HD1.out _).mono ?_
            rintro e w' ⟨rfl, rfl⟩
            go_wp2_with fail
            refine (HG1.out _).mono ?_
            rintro e w' ⟨rfl, rfl⟩
            go_wp2_with fail
            go_ret
            exact ⟨ret_int H2.out.symm, rfl⟩
      · have h1 : (s.size : Int) ≤ (k : Int) := by omega
        have H2 := Lib.hid (HE.out (by have := hn.out; rwa [List.take_of_length_le (by rw [bl_len]; omega)] at this))
        clear hlt hn HE HB HD HG Hbad
        by_cases h9 : (s.size : Int) ≠ long
        · have H3 := Lib.hid ((H2.out.trans (if_neg (by decide))).trans (if_pos h9))
          have hx : ((s.size : Int) != long) = true := by simpa using h9
          clear H2 h9
          go_wp2_with fail
          go_ret
          exact ⟨ret_int H3.out.symm, rfl⟩
        · have H3 := Lib.hid ((H2.out.trans (if_neg (by decide))).trans (if_neg h9))
          have hx : ((s.size : Int) != long) = false := by simpa using h9
          have hle : (s.size : Int) ≤ long := by omega
          clear H2 h9
          go_wp2_with fail
          go_ret
          exact ⟨ret_int H3.out.symm, rfl⟩
end Go.Proofs.YthckgkghmlkcnaaDoor
