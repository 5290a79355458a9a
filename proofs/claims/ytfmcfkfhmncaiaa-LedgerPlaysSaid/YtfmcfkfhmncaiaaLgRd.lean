/-
  A ROW OF POSTS that is only read; the walks of moneyerref17.Same, ledger.Restore.
-/
import Derived.Test.YtfmcfkfhmncaiaaLgPosts
import Derived.Test.YtfmcfkfhmncaiaaLgAt
import Derived.Test.YtfmcfkfhmncaiaaLgSumsPlain
import Derived.Deep.QuietTactic
import Derived.BigQuiet
namespace Go.Proofs.Ytfmcfkfhmncaiaa
open Go.RowKit

theorem str_ne' {a b : ByteArray} (h : ¬ a = b) : (a.toList == b.toList) = false := by
  rw [beq_eq_false_iff_ne]
  intro e
  exact h (toList_inj' e)
theorem counts_mk' {p : Post} (hm : p.may = true) : 0 ≤ p.amount ∧ p.amount ≤ 999999999999 := by
  simp only [Post.may, Bool.and_eq_true, decide_eq_true_eq] at hm; omega
def PostAt (w : World) (b o : Nat) (p : Post) : Prop :=
  w.cell? ⟨b, o, none⟩ = some (.string p.key) ∧ w.cell? ⟨b, o + 1, none⟩ = some (.int .i64 p.amount) ∧ w.cell? ⟨b, o + 2, none⟩ = some (.int .i64 p.state) ∧ w.cell? ⟨b, o + 3, none⟩ = some (.string p.answer)
/-- a row of posts, wherever it lies -/
structure PostsRd (w : World) (ao : Option Addr) (ps : List Post) : Prop where
  len : ps.length ≤ maxLen
  at' : ∀ (i : Nat) (h : i < ps.length), ∃ b off, ao = some ⟨b, off, none⟩ ∧ b < w.heap.size ∧ PostAt w b (off + i * 4) ps[i] ∧ ps[i].key.size ≤ maxLen

theorem PostsRd.fr {w w' : World} {ao : Option Addr} {ps : List Post} {S : Nat → Prop} (h : PostsRd w ao ps) (hf : Fr S w w') (hn : ∀ b off, ao = some ⟨b, off, none⟩ → ¬ S b) : PostsRd w' ao ps := by
  refine ⟨h.len, fun i hi => ?_⟩
  obtain ⟨b, off, h1, h2, ⟨c0, c1, c2, c3⟩, h3⟩ := h.at' i hi
  have hs := hf.size
  have hnb := hn b off h1
  exact ⟨b, off, h1, by omega, ⟨(hf.cell (p := ⟨b, _, none⟩) h2 hnb).trans c0, (hf.cell (p := ⟨b, _, none⟩) h2 hnb).trans c1, (hf.cell (p := ⟨b, _, none⟩) h2 hnb).trans c2, (hf.cell (p := ⟨b, _, none⟩) h2 hnb).trans c3⟩, h3⟩
theorem may_key {p : Post} (h : p.may = true) : p.key.size ≤ maxLen := by
  simp only [Post.may, Bool.and_eq_true, decide_eq_true_eq] at h
  unfold maxLen; omega
theorem PostsAt.rd {w : World} {vo : Option Addr} {cap : Nat} {ps : List Post} (h : PostsAt w (.slice vo ps.length cap) ps) (hg : Good ps) : PostsRd w vo ps := by
  have := hg.len
  refine ⟨by unfold maxLen; omega, fun i hi => ?_⟩
  obtain ⟨g, rfl, hgl, _, p0, p1, p2, p3⟩ := h.post hi
  exact ⟨g, 0, rfl, hgl, ⟨by rw [Nat.zero_add]; exact p0, by rw [Nat.zero_add]; exact p1, by rw [Nat.zero_add]; exact p2, by rw [Nat.zero_add]; exact p3⟩, may_key (hg.may _ (List.getElem_mem hi))⟩

theorem run_neq_post (a b c d a' b' c' d' : _) (W : World) : (binOp .neq 34 (.agg #[.string a, .int .i64 b, .int .i64 c, .string d]) (.agg #[.string a', .int .i64 b', .int .i64 c', .string d'])).run Try.prog W = .ok (.bool (!(a.toList == a'.toList && (b == b' && (c == c' && d.toList == d'.toList))))) W := by
  simp [go_sem]
  by_cases h1 : a.toList = a'.toList <;> by_cases h2 : b = b' <;> by_cases h3 : c = c' <;> by_cases h4 : d.toList = d'.toList <;> simp [h1, h2, h3, h4]
theorem post_ne {p q : Post} (h : ¬ p = q) (W : World) : (binOp .neq 34 (.agg #[.string p.key, .int .i64 p.amount, .int .i64 p.state, .string p.answer]) (.agg #[.string q.key, .int .i64 q.amount, .int .i64 q.state, .string q.answer])).run Try.prog W = .ok (.bool true) W := by
  rw [run_neq_post]
  congr 2
  obtain ⟨a, b, c, d⟩ := p
  obtain ⟨a', b', c', d'⟩ := q
  simp only [Bool.not_eq_true', Bool.and_eq_false_iff, beq_eq_false_iff_ne]
  refine Decidable.byContradiction fun hn => h ?_
  simp only [not_or, Decidable.not_not] at hn
  obtain ⟨h1, h2, h3, h4⟩ := hn
  rw [toList_inj' h1, toList_inj' h4, h2, h3]

theorem take_ext {α : Type} {a b : List α} {k : Nat} (hl : a.length = b.length) (hk : k = a.length) (h : a.take k = b.take k) : a = b := by
  rwa [List.take_of_length_le (by omega), List.take_of_length_le (by omega)] at h

set_option maxHeartbeats 400000 in
theorem same_rd (a b : Option Addr) (ca cb : Nat) (ps qs : List Post) (w : World) (ha : PostsRd w a ps) (hb : PostsRd w b qs) (r : Bool) (hr : r = true ↔ ps = qs) :
    Calls Try.prog 18 #[.slice a ps.length ca, .slice b qs.length cb] w fun e w' => e = .returned (.bool r) ∧ Fr noBlock w w' := by
  have hl1 := ha.len
  have hl2 := hb.len
  unfold maxLen at hl1 hl2
  by_cases hlen : ps.length = qs.length
  · have t1 : ((ps.length : Int) != (qs.length : Int)) = false := by rw [bne_eq_false_iff_eq]; omega
    go_enter Try.func18, Try.ntmps18
    go_wp2_with fail
    go_loopw [5] (fun s5 wr => ∃ k : Nat, k ≤ ps.length ∧ s5 = .int .i64 k ∧ Hid (ps.take k = qs.take k) ∧ Fr noBlock w wr) (fun s5 _ => ps.length - (intOf s5).toNat)
    case atStart => exact ⟨0, Nat.zero_le _, rfl, Lib.hid (by simp), Fr.refl _ _⟩
    case round =>
      obtain ⟨k, hk, rfl, hq, hf⟩ := hrel
      by_cases hlt : k < ps.length
      · obtain ⟨b1, o1, rfl, hb1, ⟨p0, p1, p2, p3⟩, hk1⟩ := (ha.fr hf (fun _ _ _ x => x)).at' k hlt
        obtain ⟨b2, o2, rfl, hb2, ⟨q0, q1, q2, q3⟩, hk2⟩ := (hb.fr hf (fun _ _ _ x => x)).at' k (by omega)
        clear hk1 hk2
        have h1' : (k : Int) < (ps.length : Int) := by omega
        have h2' : (k : Int) < (qs.length : Int) := by omega
        have hlt2 : k < qs.length := by omega
        by_cases heq : ps[k] = qs[k]
        · have Hq : Hid (ps.take (k + 1) = qs.take (k + 1)) := Lib.hid (by rw [List.take_succ_eq_append_getElem hlt, List.take_succ_eq_append_getElem hlt2, hq.out, heq])
          rw [heq] at p0 p1 p2 p3
          generalize qs[k] = q at *
          clear heq hlen hq
          go_wp2_with fail
          go_quiet (fail)
          go_wp2_with fail
          go_roundw
          case rel => exact ⟨k + 1, by omega, by go_num, Hq, hf.drewN _⟩
          case measure => simp [intOf]; omega
        · have hne := post_ne heq
          have hr' : r = false := by
            rw [Bool.eq_false_iff]
            intro e
            rw [hr] at e
            subst e
            exact heq rfl
          generalize ps[k] = p at *
          generalize qs[k] = q at *
          clear heq hlen hq hr
          subst hr'
          go_wp2_with fail
          go_quiet (fail)
          go_wp2_with fail
          go_ret
          exact ⟨rfl, hf.drewN _⟩
      · have h1' : (ps.length : Int) ≤ (k : Int) := by omega
        have hr' : r = true := hr.2 (take_ext hlen (by omega) hq.out)
        subst hr'
        clear hlen hlt
        go_wp2_with fail
        go_ret
        exact ⟨rfl, hf⟩
  · have t1 : ((ps.length : Int) != (qs.length : Int)) = true := by rw [bne_iff_ne]; omega
    have hr' : r = false := by
      rw [Bool.eq_false_iff]
      intro e
      rw [hr] at e
      subst e
      exact hlen rfl
    subst hr'
    clear hlen
    go_enter Try.func18, Try.ntmps18
    go_wp2_with fail
    go_ret
    exact ⟨rfl, Fr.refl _ _⟩

theorem good_take {ps : List Post} (h : Good ps) (k : Nat) : Good (ps.take k) := by
  have hs : sumA ps = sumA (ps.take k) + sumA (ps.drop k) := by rw [← sumA_append, List.take_append_drop]
  have h2 : 0 ≤ sumA (ps.drop k) := sumA_nonneg (fun p hp => h.may p (List.mem_of_mem_drop hp))
  refine ⟨fun p hp => h.may p (List.mem_of_mem_take hp), ?_, ?_, ?_⟩
  · rw [List.map_take]; exact h.keys.sublist (List.take_sublist _ _)
  · have := h.len; simp; omega
  · have := h.total; omega
theorem add_of_good {ps : List Post} {p : Post} (h : Good (ps ++ [p])) : addE ps p = 0 := by
  have hm : p.may = true := h.may p (by simp)
  have hk := h.keys
  rw [List.map_append, List.nodup_append] at hk
  have hn : posOf ps p.key = none := by
    rw [posOf_none]
    intro q hq e
    exact hk.2.2 q.key (List.mem_map.2 ⟨q, hq, rfl⟩) p.key (by simp) e
  have hl := h.len
  have ht := h.total
  rw [sumA_append] at ht
  simp only [List.length_append, List.length_cons, List.length_nil] at hl
  simp only [sumA, List.map_cons, List.map_nil, List.sum_cons, List.sum_nil] at ht
  unfold addE
  rw [if_neg (by rw [hm]; simp), if_neg (by rw [hn]; simp), if_neg (by omega), if_neg (by simp only [sumA]; omega)]

theorem add_at {w : World} {l : Nat} {ps : List Post} {F : Nat → Prop} (h : LedAt w l ps F) (p : Post) (hs : p.key.size ≤ maxLen) {n : Int} {qs : List Post} (hn : addE ps p = n) (hq : addL ps p = qs) :
    Calls Try.prog 26 #[.pointer (some ⟨l, 0, none⟩), p.val] w fun e w' => ∃ F', LedAt w' l qs F' ∧ e = .returned (.int .i64 n) ∧ Step F F' w w' := by
  obtain ⟨L, h1, rfl, rfl, h4⟩ := h
  subst hn hq
  exact (add_any L w h1 p hs).mono fun e w' ⟨L', g1, g2, g3, g4, g5, g6⟩ => ⟨L'.foot, ⟨L', g1, g2, g3, fun _ => Iff.rfl⟩, g4, ⟨g5.mono (fun k hk => (h4 k).1 hk), fun k hk => (g6 k hk).imp (fun hk => (h4 k).1 hk) (fun h => h)⟩⟩

/-- what Restore leaves -/
def Restored (w w' : World) (ps : List Post) (e : Ending) : Prop :=
  Fr noBlock w w' ∧ ((Good ps ∧ ∃ l F, e = .returned (.tuple #[.pointer (some ⟨l, 0, none⟩), .int .i64 0]) ∧ LedAt w' l ps F ∧ ∀ k, F k → w.heap.size ≤ k) ∨ (¬ Good ps ∧ e = .returned (.tuple #[.pointer none, .int .i64 1])))

theorem fr_new {F F' : Nat → Prop} {w a b : World} (h : Fr noBlock w a) (hF : ∀ k, F k → w.heap.size ≤ k) (hs : Step F F' a b) : Fr noBlock w b ∧ ∀ k, F' k → w.heap.size ≤ k :=
  ⟨h.trans hs.fr (fun k hk => .inr (hF k hk)), fun k hk => (hs.foot k hk).elim (hF k) (fun hle => Nat.le_trans h.size hle)⟩

set_option maxHeartbeats 400000 in
theorem restore_any (ao : Option Addr) (cap : Nat) (ps : List Post) (w : World) (ha : PostsRd w ao ps) :
    Calls Try.prog 17 #[.slice ao ps.length cap] w fun e w' => Restored w w' ps e := by
  have hl1 := ha.len
  unfold maxLen at hl1
  go_enter Try.func17, Try.ntmps17
  go_wp2_with fail
  refine (new_at w).mono ?_
  rintro e w1 ⟨l, F1, h1, rfl, f1, n1⟩
  go_wp2_with fail
  go_loopw [10] (fun s10 wr => ∃ (k : Nat) (F : Nat → Prop), k ≤ ps.length ∧ s10 = .int .i64 k ∧ LedAt wr l (ps.take k) F ∧ Fr noBlock w wr ∧ ∀ i, F i → w.heap.size ≤ i) (fun s10 _ => ps.length - (intOf s10).toNat)
  case atStart => exact ⟨0, F1, Nat.zero_le _, rfl, by simpa using h1, f1, n1⟩
  case round =>
    obtain ⟨k, F, hk, rfl, hL, hf, hF⟩ := hrel
    by_cases hlt : k < ps.length
    · obtain ⟨b1, o1, rfl, hb1, ⟨p0, p1, p2, p3⟩, hks⟩ := (ha.fr hf (fun _ _ _ x => x)).at' k hlt
      have h1' : (k : Int) < (ps.length : Int) := by omega
      have htk := List.take_succ_eq_append_getElem hlt
      by_cases hE : addE (ps.take k) ps[k] = 0
      · have hc := add_at (hL.fr ((Fr.refl noBlock wr).alloc (.cells #[.string ps[k].key, .int .i64 ps[k].amount, .int .i64 ps[k].state, .string ps[k].answer] 34)) (fun _ _ x => x)) ps[k] hks hE (qs := ps.take (k + 1)) (by rw [addL_zero hE, htk])
        have hst : ∀ (F' : Nat → Prop) (w' : World), Step F F' (wr.alloc (.cells #[.string ps[k].key, .int .i64 ps[k].amount, .int .i64 ps[k].state, .string ps[k].answer] 34)) w' → Fr noBlock w w' ∧ ∀ i, F' i → w.heap.size ≤ i := fun F' w' hs => fr_new (hf.alloc _) hF hs
        have Hst := Lib.hid hst
        have Hc := Lib.hid hc
        clear hst hc htk hE hL
        unfold Post.val at Hc
        generalize ps[k] = p at *
        go_wp2_with fail
        refine Hc.out.mono ?_
        rintro e w' ⟨F', g1, rfl, g2⟩
        obtain ⟨g3, g4⟩ := Hst.out _ _ g2
        clear g2
        go_wp2_with fail
        go_roundw
        case rel => exact ⟨k + 1, F', by omega, by go_num, g1, g3, g4⟩
        case measure => simp [intOf]; omega
      · have hc := add_at (hL.fr ((Fr.refl noBlock wr).alloc (.cells #[.string ps[k].key, .int .i64 ps[k].amount, .int .i64 ps[k].state, .string ps[k].answer] 34)) (fun _ _ x => x)) ps[k] hks rfl rfl
        have hst : ∀ (F' : Nat → Prop) (w' : World), Step F F' (wr.alloc (.cells #[.string ps[k].key, .int .i64 ps[k].amount, .int .i64 ps[k].state, .string ps[k].answer] 34)) w' → Fr noBlock w w' ∧ ∀ i, F' i → w.heap.size ≤ i := fun F' w' hs => fr_new (hf.alloc _) hF hs
        have hng : ¬ Good ps := fun hg => hE (add_of_good (by rw [← htk]; exact good_take hg _))
        have hE' : (addE (ps.take k) ps[k] != 0) = true := by rw [bne_iff_ne]; exact hE
        have Hst := Lib.hid hst
        have Hc := Lib.hid hc
        have Hng := Lib.hid hng
        clear hst hc htk hE hL hng
        unfold Post.val at Hc
        generalize addE (ps.take k) ps[k] = en at *
        generalize addL (ps.take k) ps[k] = ql at *
        generalize ps[k] = p at *
        go_wp2_with fail
        refine Hc.out.mono ?_
        rintro e w' ⟨F', g1, rfl, g2⟩
        obtain ⟨g3, g4⟩ := Hst.out _ _ g2
        clear g2
        go_wp2_with fail
        go_ret2
        exact ⟨g3, .inr ⟨Hng.out, rfl⟩⟩
    · have h1' : (ps.length : Int) ≤ (k : Int) := by omega
      rw [List.take_of_length_le (by omega)] at hL
      clear hlt
      go_wp2_with fail
      go_ret2
      exact ⟨hf, .inl ⟨hL.good, l, F, rfl, hL, hF⟩⟩
end Go.Proofs.Ytfmcfkfhmncaiaa
