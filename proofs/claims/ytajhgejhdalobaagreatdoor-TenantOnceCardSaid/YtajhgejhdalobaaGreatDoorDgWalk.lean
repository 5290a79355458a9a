/-
  THE WALKS of digits.look, Pack, route.prefix.
-/
import Derived.Sort.KeysCollected
import Derived.Deep.QuietTactic
import Derived.BigQuiet
import Derived.BigRegion
import Derived.Deep.LoopGhost
import Derived.Laws.MakeOwn
import Derived.Deep.DeepCutAuto
import Derived.Deep.CutBlock
import Derived.Deep.RegionHeld3
import Derived.Deep.RegionLaw
import Derived.Test.YtajhgejhdalobaaGreatDoorDgA
import Derived.Test.YtajhgejhdalobaaGreatDoorRow
namespace Go.Proofs.YtajhgejhdalobaaGreatDoor.Rt
open Go.RowKit

structure Route where
  pre : ByteArray
  target : Int
def Route.cells (r : Route) : List Value := [.string r.pre, .int .i64 r.target]
def Route.val (r : Route) : Value := .agg #[.string r.pre, .int .i64 r.target]
def RouteR : Rec Route := ⟨2, Route.cells, fun _ => rfl, fun u v hv => by simp [Route.cells] at hv; rcases hv with rfl | rfl <;> rfl⟩

def ltB (a b : ByteArray) : Prop := a.toList < b.toList
instance (a b : ByteArray) : Decidable (ltB a b) := inferInstanceAs (Decidable (a.toList < b.toList))
theorem ltB_irrefl (a : ByteArray) : ¬ ltB a a := List.lt_irrefl _
theorem ltB_trans {a b c : ByteArray} (h : ltB a b) (g : ltB b c) : ltB a c := List.lt_trans h g
theorem ltB_tri (a b : ByteArray) : ltB a b ∨ a = b ∨ ltB b a := by
  by_cases h1 : a.toList < b.toList
  · exact .inl h1
  · by_cases h2 : b.toList < a.toList
    · exact .inr (.inr h2)
    · exact .inr (.inl (toList_inj' (List.le_antisymm (List.not_lt.1 h2) (List.not_lt.1 h1))))

abbrev Sorted (rs : List Route) : Prop := rs.Pairwise (fun a b => ltB a.pre b.pre)
def lookR (rs : List Route) (s : ByteArray) : Option Int := (rs.find? (fun r => decide (r.pre = s))).map Route.target

theorem lookR_nil (s : ByteArray) : lookR [] s = none := rfl
theorem lookR_cons (r : Route) (rs : List Route) (s : ByteArray) : lookR (r :: rs) s = if r.pre = s then some r.target else lookR rs s := by
  unfold lookR
  by_cases h : r.pre = s
  · rw [List.find?_cons_of_pos (by simpa using h), if_pos h]; rfl
  · rw [List.find?_cons_of_neg (by simpa using h), if_neg h]
theorem lookR_none {rs : List Route} {s : ByteArray} : lookR rs s = none ↔ ∀ r ∈ rs, r.pre ≠ s := by
  unfold lookR
  simp
theorem lookR_mem {rs : List Route} {s : ByteArray} {t : Int} (h : lookR rs s = some t) : ∃ r ∈ rs, r.pre = s ∧ r.target = t := by
  unfold lookR at h
  rw [Option.map_eq_some_iff] at h
  obtain ⟨r, hr, rfl⟩ := h
  exact ⟨r, List.mem_of_find?_eq_some hr, by simpa using List.find?_some hr, rfl⟩
theorem lookR_of_mem {rs : List Route} (hs : Sorted rs) {r : Route} (hr : r ∈ rs) : lookR rs r.pre = some r.target := by
  induction rs with
  | nil => cases hr
  | cons q rs ih =>
    rw [lookR_cons]
    have hs := List.pairwise_cons.1 hs
    rcases List.mem_cons.1 hr with rfl | hr
    · rw [if_pos rfl]
    · rw [if_neg, ih hs.2 hr]
      intro e
      exact ltB_irrefl _ (e ▸ hs.1 r hr)
def putL : List Route → ByteArray → Int → List Route
  | [], s, t => [⟨s, t⟩]
  | r :: rs, s, t => if ltB r.pre s then r :: putL rs s t else if r.pre = s then ⟨s, t⟩ :: rs else ⟨s, t⟩ :: r :: rs
theorem putL_mem {rs : List Route} {s : ByteArray} {t : Int} {r : Route} (h : r ∈ putL rs s t) : r ∈ rs ∨ r = ⟨s, t⟩ := by
  induction rs with
  | nil => simp [putL] at h; exact .inr h
  | cons q rs ih =>
    unfold putL at h
    split at h
    · rcases List.mem_cons.1 h with rfl | h
      · exact .inl (by simp)
      · exact (ih h).imp (fun h => List.mem_cons_of_mem _ h) (fun h => h)
    · split at h
      · rcases List.mem_cons.1 h with rfl | h
        · exact .inr rfl
        · exact .inl (List.mem_cons_of_mem _ h)
      · rcases List.mem_cons.1 h with rfl | h
        · exact .inr rfl
        · exact .inl h
theorem putL_sorted {rs : List Route} (hs : Sorted rs) (s : ByteArray) (t : Int) : Sorted (putL rs s t) := by
  induction rs with
  | nil => simp [putL]
  | cons r rs ih =>
    have hs' := List.pairwise_cons.1 hs
    unfold putL
    split
    · rename_i hl
      refine List.pairwise_cons.2 ⟨fun q hq => ?_, ih hs'.2⟩
      rcases putL_mem hq with hq | rfl
      · exact hs'.1 q hq
      · exact hl
    · split
      · rename_i he
        subst he
        exact List.pairwise_cons.2 ⟨fun q hq => hs'.1 q hq, hs'.2⟩
      · rename_i hl he
        have hlt : ltB s r.pre := by
          rcases ltB_tri s r.pre with h | h | h
          · exact h
          · exact absurd h.symm he
          · exact absurd h hl
        refine List.pairwise_cons.2 ⟨fun q hq => ?_, hs⟩
        rcases List.mem_cons.1 hq with rfl | hq
        · exact hlt
        · exact ltB_trans hlt (hs'.1 q hq)
theorem putL_look {rs : List Route} (hs : Sorted rs) (s : ByteArray) (t : Int) (u : ByteArray) : lookR (putL rs s t) u = if u = s then some t else lookR rs u := by
  induction rs with
  | nil =>
    rw [putL, lookR_cons, lookR_nil]
    by_cases h : u = s
    · rw [if_pos h, if_pos h.symm]
    · rw [if_neg h, if_neg (fun e => h e.symm)]
  | cons r rs ih =>
    have hs' := List.pairwise_cons.1 hs
    unfold putL
    split
    · rename_i hl
      rw [lookR_cons, ih hs'.2, lookR_cons]
      by_cases h1 : r.pre = u
      · rw [if_pos h1, if_pos h1, if_neg]
        intro e
        exact ltB_irrefl s (by rwa [h1, e] at hl)
      · rw [if_neg h1, if_neg h1]
    · split
      · rename_i he
        rw [lookR_cons, lookR_cons]
        by_cases h : u = s
        · rw [if_pos h.symm, if_pos h]
        · rw [if_neg (fun e => h e.symm), if_neg h, if_neg (fun e : r.pre = u => h (e.symm.trans he))]
      · rw [lookR_cons]
        by_cases h : u = s
        · rw [if_pos h.symm, if_pos h]
        · rw [if_neg (fun e => h e.symm), if_neg h]
theorem putL_len {rs : List Route} (hs : Sorted rs) (s : ByteArray) (t : Int) : (putL rs s t).length = if (lookR rs s).isSome then rs.length else rs.length + 1 := by
  induction rs with
  | nil => rfl
  | cons r rs ih =>
    have hs' := List.pairwise_cons.1 hs
    unfold putL
    split
    · rename_i hl
      have hne : r.pre ≠ s := fun e => ltB_irrefl s (by rwa [e] at hl)
      rw [List.length_cons, ih hs'.2, lookR_cons, if_neg hne, List.length_cons]
      split <;> rfl
    · split
      · rename_i he
        rw [lookR_cons, if_pos he]
        rfl
      · rename_i hl he
        have hlt : ltB s r.pre := by
          rcases ltB_tri s r.pre with h | h | h
          · exact h
          · exact absurd h.symm he
          · exact absurd h hl
        have hn : lookR (r :: rs) s = none := lookR_none.2 (fun p hp hpe => by
          rcases List.mem_cons.1 hp with rfl | hp
          · exact he hpe
          · exact ltB_irrefl s (ltB_trans hlt (hpe ▸ hs'.1 p hp)))
        rw [hn]
        rfl
def dropL (rs : List Route) (s : ByteArray) : List Route := rs.filter (fun r => decide (r.pre ≠ s))
theorem dropL_sorted {rs : List Route} (hs : Sorted rs) (s : ByteArray) : Sorted (dropL rs s) := hs.filter _
theorem dropL_look (rs : List Route) (s : ByteArray) (u : ByteArray) : lookR (dropL rs s) u = if u = s then none else lookR rs u := by
  induction rs with
  | nil => unfold dropL; simp [lookR_nil]
  | cons r rs ih =>
    unfold dropL at ih ⊢
    rw [List.filter_cons]
    by_cases h : r.pre = s
    · rw [if_neg (by simp [h]), ih, lookR_cons]
      by_cases hu : u = s
      · rw [if_pos hu, if_pos hu]
      · rw [if_neg hu, if_neg hu, if_neg (fun e : r.pre = u => hu (e.symm.trans h))]
    · rw [if_pos (by simp [h]), lookR_cons, ih, lookR_cons]
      by_cases h1 : r.pre = u
      · rw [if_pos h1, if_pos h1, if_neg (fun e => h (h1.trans e))]
      · rw [if_neg h1, if_neg h1]
theorem dropL_len {rs : List Route} (hs : Sorted rs) (s : ByteArray) : (dropL rs s).length = if (lookR rs s).isSome then rs.length - 1 else rs.length := by
  induction rs with
  | nil => rfl
  | cons r rs ih =>
    have hs' := List.pairwise_cons.1 hs
    have ih := ih hs'.2
    unfold dropL at ih ⊢
    rw [List.filter_cons, lookR_cons]
    by_cases h : r.pre = s
    · rw [if_neg (by simp [h]), if_pos h, ih]
      have : lookR rs s = none := lookR_none.2 (fun p hp hpe => ltB_irrefl s (by have := hs'.1 p hp; rwa [hpe, h] at this))
      rw [this]
      simp
    · rw [if_pos (by simp [h]), if_neg h, List.length_cons, ih]
      split
      · rename_i hsm
        obtain ⟨x, hx⟩ := Option.isSome_iff_exists.1 hsm
        obtain ⟨p, hp, _⟩ := lookR_mem hx
        have := List.length_pos_of_mem hp
        simp; omega
      · simp

def headS (s : ByteArray) (n : Nat) : ByteArray := s.extract 0 n
def findN (rs : List Route) (s : ByteArray) : Nat → Option Int
  | 0 => none
  | n + 1 => match lookR rs (headS s (n + 1)) with
    | some t => some t
    | none => findN rs s n
def findR (rs : List Route) (s : ByteArray) : Option Int := findN rs s (min s.size 8)
theorem findN_some {rs : List Route} {s : ByteArray} {N : Nat} {t : Int} : findN rs s N = some t ↔ ∃ n, 0 < n ∧ n ≤ N ∧ lookR rs (headS s n) = some t ∧ ∀ m, n < m → m ≤ N → lookR rs (headS s m) = none := by
  induction N with
  | zero => simp [findN]; intro n h1 h2; omega
  | succ N ih =>
    unfold findN
    cases h : lookR rs (headS s (N + 1)) with
    | some x =>
      simp only [Option.some.injEq]
      constructor
      · rintro rfl
        exact ⟨N + 1, by omega, Nat.le_refl _, h, fun m h1 h2 => by omega⟩
      · rintro ⟨n, h1, h2, h3, h4⟩
        by_cases e : n = N + 1
        · subst e; rw [h] at h3; exact Option.some.inj h3
        · have := h4 (N + 1) (by omega) (Nat.le_refl _)
          rw [h] at this; cases this
    | none =>
      simp only
      rw [ih]
      constructor
      · rintro ⟨n, h1, h2, h3, h4⟩
        refine ⟨n, h1, by omega, h3, fun m g1 g2 => ?_⟩
        by_cases e : m = N + 1
        · subst e; exact h
        · exact h4 m g1 (by omega)
      · rintro ⟨n, h1, h2, h3, h4⟩
        refine ⟨n, h1, ?_, h3, fun m g1 g2 => h4 m g1 (by omega)⟩
        by_cases e : n = N + 1
        · subst e; rw [h] at h3; cases h3
        · omega
theorem findN_none {rs : List Route} {s : ByteArray} {N : Nat} : findN rs s N = none ↔ ∀ n, 0 < n → n ≤ N → lookR rs (headS s n) = none := by
  induction N with
  | zero => simp [findN]; intro n h1 h2; omega
  | succ N ih =>
    unfold findN
    cases h : lookR rs (headS s (N + 1)) with
    | some x =>
      simp only [reduceCtorEq, false_iff]
      intro hn
      rw [hn (N + 1) (by omega) (Nat.le_refl _)] at h
      cases h
    | none =>
      simp only
      rw [ih]
      constructor
      · intro hn n h1 h2
        by_cases e : n = N + 1
        · subst e; exact h
        · exact hn n h1 (by omega)
      · exact fun hn n h1 h2 => hn n h1 (by omega)
end Go.Proofs.YtajhgejhdalobaaGreatDoor.Rt
namespace Go.Proofs.YtajhgejhdalobaaGreatDoor
open Go.RowKit

theorem info_u8 : (Tryz.prog.info? 5).map (fun i => (i.zero, i.size, i.bytes)) = some (some (.int .u8 0), 1, 1) := by kernel_rfl
def Bytes8 (w : World) (b m : Nat) : Prop := ∃ cur, w.heap[b]? = some (.cells cur 5 (0, 0)) ∧ cur.size = m ∧ ∀ j, j < m → ∃ c : Int, cur[j]? = some (.int .u8 c)
theorem Bytes8.set {w : World} {b m : Nat} (h : Bytes8 w b m) (j : Nat) (c : Int) : Bytes8 (w.setCell ⟨b, j, none⟩ (.int .u8 c)) b m := by
  obtain ⟨cur, h1, h2, h3⟩ := h
  refine ⟨_, heap_set_eq h1, by simpa using h2, fun i hi => ?_⟩
  rw [Array.getElem?_setIfInBounds]
  split
  · rw [if_pos (by rw [h2]; omega)]; exact ⟨c, rfl⟩
  · exact h3 i hi
theorem Bytes8.at {w : World} {b m : Nat} (h : Bytes8 w b m) {j : Nat} (hj : j < m) : ∃ c : Int, w.cell? ⟨b, j, none⟩ = some (.int .u8 c) ∧ w.frozen? ⟨b, j, none⟩ = false := by
  obtain ⟨cur, h1, h2, h3⟩ := h
  obtain ⟨c, hc⟩ := h3 j hj
  exact ⟨c, (cell_of h1 j).trans hc, free_of h1 j⟩

theorem Bytes8.made {w1 : World} {b m : Nat} (h : w1.ownsRow 0 5 1 (.slice (some ⟨b, 0, none⟩) m m) m (madeCells #[Value.int .u8 0] m).toList) : Bytes8 w1 b m := by
  rcases h.2 with ⟨h1, _⟩ | ⟨g, cap, cur, hv, _, hg, hc, _, hs, ht⟩
  · simp at h1
  · simp only [Value.slice.injEq, Option.some.injEq, Addr.mk.injEq, and_true, true_and] at hv
    obtain ⟨rfl, rfl⟩ := hv
    refine ⟨cur, hg, by omega, fun j hj => ⟨0, ?_⟩⟩
    have hl : (madeCells #[Value.int .u8 0] m).toList = List.replicate m (.int .u8 0) := toList_madeCells_one _ _
    rw [hl] at ht
    have := congrArg (fun l : List Value => l[j]?) ht
    simp only [List.getElem?_take, List.getElem?_replicate] at this
    rw [if_pos (by omega), if_pos hj] at this
    simpa using this
theorem Bytes8.fr {S : Nat → Prop} {w w' : World} {b m : Nat} (h : Bytes8 w b m) (hf : Fr S w w') (hn : ¬ S b) : Bytes8 w' b m := by
  obtain ⟨cur, h1, h2, h3⟩ := h
  exact ⟨cur, hf.obj h1 hn, h2, h3⟩


set_option maxRecDepth 100000 in
set_option maxHeartbeats 800000 in
theorem dpack_any (s : ByteArray) (w : World) (hs : s.size ≤ maxLen) : Calls Tryz.prog 129 #[.string s] w (PackPost (lookE s) w) := by
  have hlook := Lib.hid (fun W => look_any s W hs)
  by_cases he : lookE s = 0
  · have hsz : s.size ≤ 999 := by
      unfold lookE at he
      split at he
      · omega
      · split at he
        · omega
        · omega
    rw [he] at hlook
    obtain ⟨i0, hi0, hz0, hz1, hz2⟩ := info_parts info_u8
    have He := Lib.hid he
    obtain ⟨m, hm⟩ : ∃ m : Nat, m = (s.size + 1) / 2 := ⟨_, rfl⟩
    have hm' : ((s.size : Int) + 1) / 2 = (m : Int) := by omega
    have hm1 : m ≤ 500 := by omega
    have hma : s.size + 1 ≤ 2 * m + 1 := by omega
    have hmb : 2 * m ≤ s.size + 1 := by omega
    clear he hs hm
    go_enter Tryz.func129, Tryz.ntmps129
    go_wp2_with fail
    refine (hlook.out _).mono ?_
    rintro e w' ⟨rfl, rfl⟩
    go_wp2_with (at_make; refine wpList_make_full _ rfl _ _ _ rfl 0 5 i0 (.int .u8 0) 1 Tryz.underlying34 hi0 hz0 hz1 .i64 .i64 _ _ m rfl rfl ?c1 ?c2 ?c3 ?c4 ?c5 ?_)
    case c1 => first | rfl | omega
    case c2 => first | rfl | omega
    case c3 => rw [hz2]; omega
    case c4 => unfold maxLen; omega
    case c5 => exact Nat.zero_le _
    intro w1 hown hgrow
    have Hst := Lib.hid (And.intro (Bytes8.made hown) ((Fr.refl noBlock w).grown hgrow (by intro k hk; cases hk)))
    have hbl : w.heap.size < w1.heap.size := by obtain ⟨cur, h1, _⟩ := Hst.out.1; exact heap_lt h1
    clear hown hgrow
    go_wp2_with fail
    go_loopw [20] (fun s20 wr => ∃ k : Nat, k ≤ s.size ∧ s20 = .int .i64 k ∧ Fr noBlock w wr ∧ Bytes8 wr w.heap.size m) (fun s20 _ => s.size - (intOf s20).toNat)
    case atStart => exact ⟨0, Nat.zero_le _, rfl, Hst.out.2, Hst.out.1⟩
    case round =>
      clear Hst
      obtain ⟨k, hk, rfl, hf, hB⟩ := hrel
      by_cases hlt : k < s.size
      · have h1 : (k : Int) < (s.size : Int) := by omega
        have hat := run_at s k hlt
        obtain ⟨q, hq⟩ : ∃ q : Nat, (m : Int) - 1 - ((s.size : Int) - 1 - (k : Int)) / 2 = (q : Int) := ⟨((m : Int) - 1 - ((s.size : Int) - 1 - (k : Int)) / 2).toNat, by omega⟩
        have hqm : q < m := by omega
        obtain ⟨c, hc, hcf⟩ := hB.at hqm
        generalize (s[k].toNat : Int) = x at *
        have hqm' : (q : Int) < (m : Int) := by omega
        have HB := Lib.hid hB
        have Hf := Lib.hid hf
        clear hB hf
        go_upto_region 9 with fail
        go_region
        all_goals
          go_wp2_with fail
          go_roundw
          case rel => exact ⟨k + 1, by omega, by go_num, (Hf.out.setCell (p := ⟨w.heap.size, q, none⟩) (.inr (Nat.le_refl _)) _).drew, (HB.out.set q _).fr ((Fr.refl noBlock _).drew) (fun x => x)⟩
          case measure => simp [intOf]; omega
      · have h1 : (s.size : Int) ≤ (k : Int) := by omega
        clear hlt
        go_wp2_with fail
        go_ret2
        exact ⟨_, by rw [He.out]; rfl, hf⟩
  · have hne : (lookE s != 0) = true := by rw [bne_iff_ne]; exact he
    generalize lookE s = E at *
    clear he hs
    go_enter Tryz.func129, Tryz.ntmps129
    go_wp2_with fail
    refine (hlook.out _).mono ?_
    rintro e w' ⟨rfl, rfl⟩
    go_wp2_with fail
    go_ret2
    exact ⟨_, rfl, Fr.refl _ _⟩

def preB (s : ByteArray) : Bool := digB s && !s.toList.isEmpty && decide (s.size ≤ 8)
theorem preB_iff {s : ByteArray} : preB s = true ↔ digB s = true ∧ s.toList.isEmpty = false ∧ s.size ≤ 8 := by
  simp [preB, and_assoc]

set_option maxHeartbeats 400000 in
theorem prefix_any (s : ByteArray) (w : World) (hs : s.size ≤ maxLen) (b : Bool) (hb : preB s = b) : Calls Tryz.prog 169 #[.string s] w fun e w' => e = .returned (.bool b) ∧ Fr noBlock w w' := by
  subst hb
  have hp := Lib.hid (dpack_any s w hs)
  by_cases he : lookE s = 0
  · have hd : digB s = true := by
      unfold lookE at he
      split at he
      · omega
      · rename_i h; simpa using h
    rw [he] at hp
    have hpb : preB s = (!s.toList.isEmpty && decide (s.size ≤ 8)) := by unfold preB; rw [hd]; rfl
    have Hpb := Lib.hid hpb
    clear he hd hpb hs
    generalize hse : s.toList.isEmpty = se at *
    have hcs : (se = true) ∨ (se = false ∧ s.size ≤ 8) ∨ (se = false ∧ 8 < s.size) := by cases se <;> simp <;> omega
    rcases hcs with rfl | ⟨rfl, hl⟩ | ⟨rfl, hl⟩
    all_goals
      go_enter Tryz.func169, Tryz.ntmps169
      go_wp2_with fail
      refine hp.out.mono ?_
      rintro e w1 ⟨v, rfl, f1⟩
      go_wp2_with fail
      go_ret
      exact ⟨ret_bool (by rw [Hpb.out]; first | rfl | (simp; done) | (simp; omega)), f1⟩
  · have hpb : preB s = false := by
      cases h : preB s with
      | false => rfl
      | true =>
        obtain ⟨h1, _, h3⟩ := preB_iff.1 h
        exfalso
        apply he
        unfold lookE
        rw [if_neg (by simp [h1]), if_neg (by omega)]
    have Hpb := Lib.hid hpb
    have hne : (lookE s == 0) = false := by rw [beq_eq_false_iff_ne]; exact he
    generalize lookE s = E at *
    clear he hpb hs
    go_enter Tryz.func169, Tryz.ntmps169
    go_wp2_with fail
    refine hp.out.mono ?_
    rintro e w1 ⟨v, rfl, f1⟩
    go_wp2_with fail
    go_ret
    exact ⟨ret_bool (by rw [Hpb.out]), f1⟩
end Go.Proofs.YtajhgejhdalobaaGreatDoor
