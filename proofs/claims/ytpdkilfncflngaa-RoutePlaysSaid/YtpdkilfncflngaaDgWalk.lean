/-
  THE WALKS of digits.look, Pack, route.prefix.
-/
import Derived.Test.YtpdkilfncflngaaRtPlain
import Derived.Deep.QuietTactic
import Derived.BigQuiet
import Derived.BigRegion
import Derived.Deep.LoopGhost
import Derived.Laws.MakeOwn
import Derived.Deep.DeepCutAuto
import Derived.Deep.CutBlock
import Derived.Deep.RegionHeld3
import Derived.Deep.RegionLaw
namespace Go.Proofs.Ytpdkilfncflngaa
open Go.RowKit

theorem ret_bool {a b : Bool} (h : a = b) : Ending.returned (.bool a) = .returned (.bool b) := by rw [h]
theorem ret_int {a b : Int} (h : a = b) : Ending.returned (.int .i64 a) = .returned (.int .i64 b) := by rw [h]

def isDig (c : UInt8) : Bool := decide (48 ≤ c.toNat) && decide (c.toNat ≤ 57)
def digB (s : ByteArray) : Bool := s.data.toList.all isDig
def lookE (s : ByteArray) : Int := if digB s = false then 4 else if 999 < s.size then 2 else 0

theorem dig_no {s : ByteArray} {k : Nat} (hk : k < s.size) (h : isDig s[k] = false) : digB s = false := by
  unfold digB
  rw [List.all_eq_false]
  exact ⟨s[k], by rw [ByteArray.getElem_eq_getElem_data]; simp, by simpa using h⟩
theorem dig_step {s : ByteArray} {k : Nat} (hk : k < s.size) (h : isDig s[k] = true) (hn : ∀ c ∈ s.data.toList.take k, isDig c = true) : ∀ c ∈ s.data.toList.take (k + 1), isDig c = true := by
  intro c hc
  rw [List.take_succ_eq_append_getElem (by simpa using hk), List.mem_append] at hc
  rcases hc with hc | hc
  · exact hn c hc
  · simp at hc
    subst hc
    rw [ByteArray.getElem_eq_getElem_data] at h
    exact h
theorem dig_yes {s : ByteArray} (hn : ∀ c ∈ s.data.toList.take s.size, isDig c = true) : digB s = true := by
  unfold digB
  rw [List.all_eq_true]
  rwa [List.take_of_length_le (by simp)] at hn

/-- 's[i]' -/
theorem run_at (s : ByteArray) (k : Nat) (hk : k < s.size) (w : World) : (Instr.index 9 (.string s) (.int .i64 (k : Int))).run Try.prog w = .ok (.int .u8 (s[k].toNat : Int)) w := by
  rw [run_index_string _ 9 s .i64 (k : Int) Try.underlying9]
  have h1 : (0 : Int) ≤ (k : Int) := by omega
  have h2 : (k : Int) < (s.size : Int) := by omega
  simp [h1, h2]

set_option maxHeartbeats 400000 in
theorem look_any (s : ByteArray) (w : World) (hs : s.size ≤ maxLen) : Calls Try.prog 29 #[.string s] w fun e w' => e = .returned (.int .i64 (lookE s)) ∧ w = w' := by
  unfold maxLen at hs
  go_enter Try.func29, Try.ntmps29
  go_wp2_with fail
  go_loop [6] (fun s6 => ∃ k : Nat, k ≤ s.size ∧ s6 = .int .i64 k ∧ Hid (∀ c ∈ s.data.toList.take k, isDig c = true)) (fun s6 => s.size - (intOf s6).toNat)
  case atStart => exact ⟨0, Nat.zero_le _, rfl, Lib.hid (by simp)⟩
  case round =>
    obtain ⟨k, hk, rfl, hn⟩ := hrel
    by_cases hlt : k < s.size
    · have h1 : (k : Int) < (s.size : Int) := by omega
      have hc256 : (s[k].toNat : Int) < 256 := by have := s[k].toNat_lt; omega
      have hst := Lib.hid (fun h => dig_step hlt h hn.out)
      have hno := Lib.hid (fun h => dig_no hlt h)
      have hat := run_at s k hlt
      by_cases hd : isDig s[k] = true
      · have Hn := Lib.hid (hst.out hd)
        have hd' := hd
        simp only [isDig, Bool.and_eq_true, decide_eq_true_eq] at hd'
        obtain ⟨d1, d2⟩ := hd'
        have e1 : (48 : Int) ≤ (s[k].toNat : Int) := by omega
        have e2 : (s[k].toNat : Int) ≤ 57 := by omega
        clear hd d1 d2 hst hno
        generalize (s[k].toNat : Int) = c at *
        go_wp2_with fail
        go_round
        case rel => exact ⟨k + 1, by omega, by go_num, Hn⟩
        case measure => simp [intOf]; omega
      · have Hno := Lib.hid (hno.out (by simpa using hd))
        have hd' : (s[k].toNat : Int) < 48 ∨ 57 < (s[k].toNat : Int) := by
          simp only [isDig, Bool.and_eq_true, decide_eq_true_eq, not_and] at hd
          omega
        have hc0 : 0 ≤ (s[k].toNat : Int) := by omega
        have He : Hid (lookE s = 4) := Lib.hid (by unfold lookE; rw [if_pos Hno.out])
        clear hd hst hno
        generalize (s[k].toNat : Int) = c at *
        rcases hd' with hd' | hd'
        all_goals
          go_wp2_with fail
          go_ret
          exact ⟨ret_int He.out.symm, rfl⟩
    · have h1 : (s.size : Int) ≤ (k : Int) := by omega
      have hy := dig_yes (s := s) (by have := hn.out; rw [List.take_of_length_le (by simp; omega)] at this; rw [List.take_of_length_le (by simp)]; exact this)
      by_cases hl : 999 < s.size
      · have He : Hid (lookE s = 2) := Lib.hid (by unfold lookE; rw [if_neg (by simp [hy]), if_pos hl])
        have hl' : (999 : Int) < (s.size : Int) := by omega
        clear hy hl hlt
        go_wp2_with fail
        go_ret
        exact ⟨ret_int He.out.symm, rfl⟩
      · have He : Hid (lookE s = 0) := Lib.hid (by unfold lookE; rw [if_neg (by simp [hy]), if_neg hl])
        have hl' : (s.size : Int) ≤ 999 := by omega
        clear hy hl hlt
        go_wp2_with fail
        go_ret
        exact ⟨ret_int He.out.symm, rfl⟩

theorem info_u8 : (Try.prog.info? 5).map (fun i => (i.zero, i.size, i.bytes)) = some (some (.int .u8 0), 1, 1) := by kernel_rfl
/-- a block of m bytes, whatever they are -/
def Bytes8 (w : World) (b m : Nat) : Prop := ∃ cur, w.heap[b]? = some (.cells cur 5 (0, 0)) ∧ cur.size = m ∧ ∀ j, j < m → ∃ c : Int, cur[j]? = some (.int .u8 c)
theorem Bytes8.set {w : World} {b m : Nat} (h : Bytes8 w b m) (j : Nat) (c : Int) : Bytes8 (w.setCell ⟨b, j, none⟩ (.int .u8 c)) b m := by
  obtain ⟨cur, h1, h2, h3⟩ := h
  refine ⟨_, heap_set_eq h1, by simpa using h2, fun i hi => ?_⟩
  rw [Array.getElem?_setIfInBounds]
  split
  · rw [if_pos (by rw [h2]; omega)]; exact ⟨c, rfl⟩
  · exact h3 i hi
theorem Bytes8.at {w : World} {b m : Nat} (h : Bytes8 w b m) {j : Nat} (hj : j < m) : ∃ c : Int, w.cell? ⟨b, j, none⟩ = some (.int .u8 c) ∧ w.frozen? ⟨b, j, none⟩ = false := by
  obtain ⟨cur, h1, h2, h3⟩ := h
  obtain ⟨c, hc⟩ := h3 j hj
  exact ⟨c, (cell_of h1 j).trans hc, free_of h1 j⟩

theorem Bytes8.made {w1 : World} {b m : Nat} (h : w1.ownsRow 0 5 1 (.slice (some ⟨b, 0, none⟩) m m) m (madeCells #[Value.int .u8 0] m).toList) : Bytes8 w1 b m := by
  rcases h.2 with ⟨h1, _⟩ | ⟨g, cap, cur, hv, _, hg, hc, _, hs, ht⟩
  · simp at h1
  · simp only [Value.slice.injEq, Option.some.injEq, Addr.mk.injEq, and_true, true_and] at hv
    obtain ⟨rfl, rfl⟩ := hv
    refine ⟨cur, hg, by omega, fun j hj => ⟨0, ?_⟩⟩
    have hl : (madeCells #[Value.int .u8 0] m).toList = List.replicate m (.int .u8 0) := toList_madeCells_one _ _
    rw [hl] at ht
    have := congrArg (fun l : List Value => l[j]?) ht
    simp only [List.getElem?_take, List.getElem?_replicate] at this
    rw [if_pos (by omega), if_pos hj] at this
    simpa using this
theorem Bytes8.fr {S : Nat → Prop} {w w' : World} {b m : Nat} (h : Bytes8 w b m) (hf : Fr S w w') (hn : ¬ S b) : Bytes8 w' b m := by
  obtain ⟨cur, h1, h2, h3⟩ := h
  exact ⟨cur, hf.obj h1 hn, h2, h3⟩

/-- a tuple whose error is told -/
def PackPost (E : Int) (w : World) (e : Ending) (w' : World) : Prop := ∃ v, e = .returned (.tuple #[v, .int .i64 E]) ∧ Fr noBlock w w'

set_option maxRecDepth 100000 in
set_option maxHeartbeats 800000 in
theorem dpack_any (s : ByteArray) (w : World) (hs : s.size ≤ maxLen) : Calls Try.prog 25 #[.string s] w (PackPost (lookE s) w) := by
  have hlook := Lib.hid (fun W => look_any s W hs)
  by_cases he : lookE s = 0
  · have hsz : s.size ≤ 999 := by
      unfold lookE at he
      split at he
      · omega
      · split at he
        · omega
        · omega
    rw [he] at hlook
    obtain ⟨i0, hi0, hz0, hz1, hz2⟩ := info_parts info_u8
    have He := Lib.hid he
    obtain ⟨m, hm⟩ : ∃ m : Nat, m = (s.size + 1) / 2 := ⟨_, rfl⟩
    have hm' : ((s.size : Int) + 1) / 2 = (m : Int) := by omega
    have hm1 : m ≤ 500 := by omega
    have hma : s.size + 1 ≤ 2 * m + 1 := by omega
    have hmb : 2 * m ≤ s.size + 1 := by omega
    clear he hs hm
    go_enter Try.func25, Try.ntmps25
    go_wp2_with fail
    refine (hlook.out _).mono ?_
    rintro e w' ⟨rfl, rfl⟩
    go_wp2_with (at_make; refine wpList_make_full _ rfl _ _ _ rfl 0 5 i0 (.int .u8 0) 1 Try.underlying54 hi0 hz0 hz1 .i64 .i64 _ _ m rfl rfl ?c1 ?c2 ?c3 ?c4 ?c5 ?_)
    case c1 => first | rfl | omega
    case c2 => first | rfl | omega
    case c3 => rw [hz2]; omega
    case c4 => unfold maxLen; omega
    case c5 => exact Nat.zero_le _
    intro w1 hown hgrow
    have Hst := Lib.hid (And.intro (Bytes8.made hown) ((Fr.refl noBlock w).grown hgrow (by intro k hk; cases hk)))
    have hbl : w.heap.size < w1.heap.size := by obtain ⟨cur, h1, _⟩ := Hst.out.1; exact heap_lt h1
    clear hown hgrow
    go_wp2_with fail
    go_loopw [20] (fun s20 wr => ∃ k : Nat, k ≤ s.size ∧ s20 = .int .i64 k ∧ Fr noBlock w wr ∧ Bytes8 wr w.heap.size m) (fun s20 _ => s.size - (intOf s20).toNat)
    case atStart => exact ⟨0, Nat.zero_le _, rfl, Hst.out.2, Hst.out.1⟩
    case round =>
      clear Hst
      obtain ⟨k, hk, rfl, hf, hB⟩ := hrel
      by_cases hlt : k < s.size
      · have h1 : (k : Int) < (s.size : Int) := by omega
        have hat := run_at s k hlt
        obtain ⟨q, hq⟩ : ∃ q : Nat, (m : Int) - 1 - ((s.size : Int) - 1 - (k : Int)) / 2 = (q : Int) := ⟨((m : Int) - 1 - ((s.size : Int) - 1 - (k : Int)) / 2).toNat, by omega⟩
        have hqm : q < m := by omega
        obtain ⟨c, hc, hcf⟩ := hB.at hqm
        generalize (s[k].toNat : Int) = x at *
        have hqm' : (q : Int) < (m : Int) := by omega
        have HB := Lib.hid hB
        have Hf := Lib.hid hf
        clear hB hf
        go_upto_region 9 with fail
        go_region
        all_goals
          go_wp2_with fail
          go_roundw
          case rel => exact ⟨k + 1, by omega, by go_num, (Hf.out.setCell (p := ⟨w.heap.size, q, none⟩) (.inr (Nat.le_refl _)) _).drew, (HB.out.set q _).fr ((Fr.refl noBlock _).drew) (fun x => x)⟩
          case measure => simp [intOf]; omega
      · have h1 : (s.size : Int) ≤ (k : Int) := by omega
        clear hlt
        go_wp2_with fail
        go_ret2
        exact ⟨_, by rw [He.out]; rfl, hf⟩
  · have hne : (lookE s != 0) = true := by rw [bne_iff_ne]; exact he
    generalize lookE s = E at *
    clear he hs
    go_enter Try.func25, Try.ntmps25
    go_wp2_with fail
    refine (hlook.out _).mono ?_
    rintro e w' ⟨rfl, rfl⟩
    go_wp2_with fail
    go_ret2
    exact ⟨_, rfl, Fr.refl _ _⟩

def preB (s : ByteArray) : Bool := digB s && !s.toList.isEmpty && decide (s.size ≤ 8)
theorem preB_iff {s : ByteArray} : preB s = true ↔ digB s = true ∧ s.toList.isEmpty = false ∧ s.size ≤ 8 := by
  simp [preB, and_assoc]

set_option maxHeartbeats 400000 in
theorem prefix_any (s : ByteArray) (w : World) (hs : s.size ≤ maxLen) (b : Bool) (hb : preB s = b) : Calls Try.prog 22 #[.string s] w fun e w' => e = .returned (.bool b) ∧ Fr noBlock w w' := by
  subst hb
  have hp := Lib.hid (dpack_any s w hs)
  by_cases he : lookE s = 0
  · have hd : digB s = true := by
      unfold lookE at he
      split at he
      · omega
      · rename_i h; simpa using h
    rw [he] at hp
    have hpb : preB s = (!s.toList.isEmpty && decide (s.size ≤ 8)) := by unfold preB; rw [hd]; rfl
    have Hpb := Lib.hid hpb
    clear he hd hpb hs
    generalize hse : s.toList.isEmpty = se at *
    have hcs : (se = true) ∨ (se = false ∧ s.size ≤ 8) ∨ (se = false ∧ 8 < s.size) := by cases se <;> simp <;> omega
    rcases hcs with rfl | ⟨rfl, hl⟩ | ⟨rfl, hl⟩
    all_goals
      go_enter Try.func22, Try.ntmps22
      go_wp2_with fail
      refine hp.out.mono ?_
      rintro e w1 ⟨v, rfl, f1⟩
      go_wp2_with fail
      go_ret
      exact ⟨ret_bool (by rw [Hpb.out]; first | rfl | (simp; done) | (simp; omega)), f1⟩
  · have hpb : preB s = false := by
      cases h : preB s with
      | false => rfl
      | true =>
        obtain ⟨h1, _, h3⟩ := preB_iff.1 h
        exfalso
        apply he
        unfold lookE
        rw [if_neg (by simp [h1]), if_neg (by omega)]
    have Hpb := Lib.hid hpb
    have hne : (lookE s == 0) = false := by rw [beq_eq_false_iff_ne]; exact he
    generalize lookE s = E at *
    clear he hpb hs
    go_enter Try.func22, Try.ntmps22
    go_wp2_with fail
    refine hp.out.mono ?_
    rintro e w1 ⟨v, rfl, f1⟩
    go_wp2_with fail
    go_ret
    exact ⟨ret_bool (by rw [Hpb.out]), f1⟩
end Go.Proofs.Ytpdkilfncflngaa
