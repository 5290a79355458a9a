/-
  THE DOCUMENT's LEDGER (moneyerref17): its walks.
-/
import Derived.Test.YtfmcfkfhmncaiaaLgRd
import Derived.Test.YtfmcfkfhmncaiaaLgRev
import Derived.Deep.RegionLaw
import Derived.Deep.AppendLies
namespace Go.Proofs.Ytfmcfkfhmncaiaa
open Go.RowKit

set_option maxHeartbeats 400000 in
theorem rmay_any (p : Post) (w : World) :
    Calls Try.prog 28 #[p.val] w fun e w' => e = .returned (.bool p.may) ∧ w' = w.alloc (.cells #[.string p.key, .int .i64 p.amount, .int .i64 p.state, .string p.answer] 34) := by
  obtain ⟨key, amount, state, answer⟩ := p
  unfold Post.val
  go_enter Try.func28, Try.ntmps28
  go_wp2
  all_goals go_ret
  all_goals (try subst_vars)
  all_goals refine ⟨congrArg (fun b => Ending.returned (.bool b)) ((?_ : Post.may _ = _).symm), rfl⟩
  all_goals first
    | (simp [Post.may]; first | done | omega | (refine ⟨⟨⟨⟨⟨?_, ?_⟩, ?_⟩, ?_⟩, ?_⟩, ?_⟩ <;> first | assumption | omega))
    | (refine Bool.eq_false_iff.2 fun hm => ?_; simp [Post.may] at hm; first | omega | (obtain ⟨⟨⟨⟨⟨h0, _⟩, _⟩, _⟩, _⟩, _⟩ := hm; exact h0 ‹_›))
    | (have h1 : key.size ≤ 40 := by omega
       have h2 : answer.size ≤ 256 := by omega
       simp [Post.may, *])
    | (simp_all [Post.may]; done)
    | (have h1 : key.size ≤ 40 := by omega
       have e : ((answer.size : Int) ≤ 256) ↔ (answer.size ≤ 256) := by omega
       simp [Post.may, *])
    | (go_ways; sorry)

/-- the document's ledger in memory: its own block, its row -/
structure Ref where
  l : Nat
  v : Value
  ps : List Post
def Ref.foot (L : Ref) (k : Nat) : Prop := k = L.l ∨ L.v.ownBlock = some k
structure Ref.At (L : Ref) (w : World) : Prop where
  blk : w.heap[L.l]? = some (.cells #[L.v] 61 (0, 0))
  row : w.ownsRow 0 34 4 L.v L.ps.length (L.ps.flatMap Post.cells)
  d : L.v.ownBlock ≠ some L.l
theorem Ref.At.foot_lt {L : Ref} {w : World} (h : L.At w) {k : Nat} (hk : L.foot k) : k < w.heap.size := by
  rcases hk with rfl | hk
  · exact heap_lt h.blk
  · exact (h.row.lt k hk).2
theorem Ref.At.fr {L : Ref} {S : Nat → Prop} {w w' : World} (h : L.At w) (hf : Fr S w w') (hs : ∀ k, L.foot k → ¬ S k) : L.At w' :=
  ⟨hf.obj h.blk (hs _ (.inl rfl)), ownsRow_fr h.row hf (fun k hk => hs k (.inr hk)), h.d⟩

def RefAt (w : World) (l : Nat) (ps : List Post) (F : Nat → Prop) : Prop := ∃ L : Ref, L.At w ∧ L.l = l ∧ L.ps = ps ∧ ∀ k, L.foot k ↔ F k

/-- a ledger's two cells and its posts' -/
theorem RefAt.open {w : World} {l : Nat} {ps : List Post} {F : Nat → Prop} (h : RefAt w l ps F) :
    ∃ vo cap, w.cell? ⟨l, 0, none⟩ = some (.slice vo ps.length cap) ∧ w.frozen? ⟨l, 0, none⟩ = false ∧ l < w.heap.size ∧ PostsAt w (.slice vo ps.length cap) ps ∧ ∀ g, vo = some ⟨g, 0, none⟩ → g ≠ l := by
  obtain ⟨L, h1, rfl, rfl, h4⟩ := h
  obtain ⟨vo, cap, hv⟩ := PostsAt.shape h1.row
  have c0 := cell_of h1.blk 0
  rw [hv] at c0
  simp at c0
  exact ⟨vo, cap, c0, free_of h1.blk 0, heap_lt h1.blk, hv ▸ h1.row, fun g hg e => h1.d (by rw [hv, hg, e]; rfl)⟩

theorem rnew_at (w : World) : Calls Try.prog 20 #[] w fun e w' => ∃ l F, RefAt w' l [] F ∧ e = .returned (.pointer (some ⟨l, 0, none⟩)) ∧ Fr noBlock w w' ∧ ∀ k, F k → w.heap.size ≤ k := by
  go_enter Try.func20, Try.ntmps20
  go_wp2
  go_ret
  refine ⟨w.heap.size, (⟨w.heap.size, .slice none 0 0, []⟩ : Ref).foot, ⟨⟨w.heap.size, .slice none 0 0, []⟩, ⟨heap_new w _, World.ownsRow_nil _ _ _ _, by simp [Value.ownBlock]⟩, rfl, rfl, fun _ => Iff.rfl⟩, rfl, (Fr.refl _ _).alloc _, ?_⟩
  rintro k (rfl | h)
  · exact Nat.le_refl _
  · simp [Value.ownBlock] at h

theorem posOf_take {ps : List Post} {s : ByteArray} {k : Nat} (hk : k < ps.length) (h : ∀ p ∈ ps.take k, p.key ≠ s) : posOf ps s = if ps[k].key = s then some (k : Int) else posOf ps s := by
  split
  · rename_i he
    unfold posOf
    rw [Option.map_eq_some_iff]
    refine ⟨k, ?_, rfl⟩
    rw [List.findIdx?_eq_some_iff_getElem]
    refine ⟨hk, by simpa using he, fun j hj => ?_⟩
    have := h (ps[j]'(by omega)) (by rw [List.mem_take_iff_getElem]; exact ⟨j, by omega, rfl⟩)
    simpa using this
  · rfl

set_option maxHeartbeats 400000 in
theorem at_any {w : World} {l : Nat} {ps : List Post} {F : Nat → Prop} (h : RefAt w l ps F) (hlen : ps.length ≤ 24) (s : ByteArray) :
    Calls Try.prog 29 #[.pointer (some ⟨l, 0, none⟩), .string s] w fun e w' => e = .returned (.int .i64 ((posOf ps s).getD (-1))) ∧ w = w' := by
  obtain ⟨vo, cap, c0, f0, hl, hp, hd⟩ := h.open
  clear h
  go_enter Try.func29, Try.ntmps29
  go_wp2_with fail
  go_loop [5] (fun s5 => ∃ k : Nat, k ≤ ps.length ∧ s5 = .int .i64 k ∧ Hid (∀ p ∈ ps.take k, p.key ≠ s)) (fun s5 => ps.length - (intOf s5).toNat)
  case atStart => exact ⟨0, Nat.zero_le _, rfl, Lib.hid (by simp)⟩
  case round =>
    obtain ⟨k, hk, rfl, hn⟩ := hrel
    by_cases hlt : k < ps.length
    · obtain ⟨g, rfl, hgl, hcap, p0, p1, p2, p3⟩ := hp.post hlt
      have h1' : (k : Int) < (ps.length : Int) := by omega
      have hpos := posOf_take hlt hn.out
      by_cases he : ps[k].key = s
      · rw [if_pos he] at hpos
        rw [he] at p0
        have Hpos := Lib.hid hpos
        clear hpos he p1 p2 p3
        go_wp2_with fail
        go_ret
        exact ⟨by rw [Hpos.out]; rfl, rfl⟩
      · have hq := str_ne' he
        have Hn : Hid (∀ p ∈ ps.take (k + 1), p.key ≠ s) := Lib.hid (by
          intro p hp'
          rw [List.take_succ_eq_append_getElem hlt, List.mem_append] at hp'
          rcases hp' with hp' | hp'
          · exact hn.out p hp'
          · simp at hp'; subst hp'; exact he)
        clear hpos he hn p1 p2 p3
        generalize ps[k].key = kk at *
        go_wp2_with fail
        go_round
        case rel => exact ⟨k + 1, by omega, by go_num, Hn⟩
        case measure => simp [intOf]; omega
    · have h1' : (ps.length : Int) ≤ (k : Int) := by omega
      have hno : posOf ps s = none := by
        rw [posOf_none]
        have := hn.out
        rwa [List.take_of_length_le (by omega)] at this
      have Hno := Lib.hid hno
      clear hno hlt
      go_wp2_with fail
      go_ret
      exact ⟨by rw [Hno.out]; rfl, rfl⟩

theorem sum_take {ps : List Post} {k : Nat} (hk : k < ps.length) : sumA (ps.take (k + 1)) = sumA (ps.take k) + ps[k].counts := by
  rw [List.take_succ_eq_append_getElem hk, sumA_append]; simp [sumA]

set_option maxHeartbeats 400000 in
theorem rtotal_any {w : World} {l : Nat} {ps : List Post} {F : Nat → Prop} (h : RefAt w l ps F) (hm : ∀ p ∈ ps, p.may = true) (hlen : ps.length ≤ 24) :
    Calls Try.prog 30 #[.pointer (some ⟨l, 0, none⟩)] w fun e w' => e = .returned (.int .i64 (sumA ps)) ∧ w = w' := by
  obtain ⟨vo, cap, c0, f0, hl, hp, hd⟩ := h.open
  have hbd : ∀ k, k ≤ ps.length → 0 ≤ sumA (ps.take k) ∧ sumA (ps.take k) ≤ 999999999999 * k := by
    intro k
    induction k with
    | zero => intro _; simp [sumA]
    | succ k ih =>
      intro hk
      have h1 := ih (by omega)
      rw [sum_take (by omega)]
      have h2 := counts_nonneg (hm _ (List.getElem_mem (show k < ps.length by omega)))
      push_cast
      omega
  have Hbd := Lib.hid hbd
  have Hm := Lib.hid hm
  clear h hbd hm
  go_enter Try.func30, Try.ntmps30
  go_wp2_with fail
  go_loop [3, 4] (fun s3 s4 => ∃ k : Nat, k ≤ ps.length ∧ s4 = .int .i64 k ∧ s3 = .int .i64 (sumA (ps.take k))) (fun _ s4 => ps.length - (intOf s4).toNat)
  case atStart => exact ⟨0, Nat.zero_le _, rfl, rfl⟩
  case round =>
    obtain ⟨k, hk, rfl, rfl⟩ := hrel
    by_cases hlt : k < ps.length
    · obtain ⟨g, rfl, hgl, hcap, p0, p1, p2, p3⟩ := hp.post hlt
      have h1' : (k : Int) < (ps.length : Int) := by omega
      obtain ⟨b0, b1⟩ := Hbd.out k hk
      have hct := counts_mk' (Hm.out _ (List.getElem_mem hlt))
      have hst := Lib.hid (sum_take hlt)
      unfold Post.counts at hst
      generalize sumA (ps.take k) = t at *
      by_cases hs : (ps[k].state == 1) = true
      · have Hs : Hid (sumA (ps.take (k + 1)) = t + ps[k].amount) := Lib.hid (by rw [hst.out, if_pos (by simpa using hs)])
        clear hst
        generalize ps[k].state = st at *
        generalize ps[k].amount = am at *
        go_wp2_with fail
        go_round
        case rel => exact ⟨k + 1, by omega, by go_num, by rw [Hs.out]⟩
        case measure => simp [intOf]; omega
      · have Hs : Hid (sumA (ps.take (k + 1)) = t) := Lib.hid (by rw [hst.out, if_neg (by simpa using hs)]; omega)
        have hs' : (ps[k].state == 1) = false := by simpa using hs
        clear hst hs
        generalize ps[k].state = st at *
        generalize ps[k].amount = am at *
        go_wp2_with fail
        go_round
        case rel => exact ⟨k + 1, by omega, by go_num, by rw [Hs.out]⟩
        case measure => simp [intOf]; omega
    · have h1' : (ps.length : Int) ≤ (k : Int) := by omega
      have Ht : Hid (sumA (ps.take k) = sumA ps) := Lib.hid (by rw [List.take_of_length_le (by omega)])
      clear hlt
      go_wp2_with fail
      go_ret
      exact ⟨by rw [← Ht.out]; rfl, rfl⟩

theorem RefAt.lt {w : World} {l : Nat} {ps : List Post} {F : Nat → Prop} (h : RefAt w l ps F) : ∀ k, F k → k < w.heap.size := by
  obtain ⟨L, h1, rfl, rfl, h4⟩ := h
  exact fun k hk => h1.foot_lt ((h4 k).2 hk)
theorem RefAt.fr {S : Nat → Prop} {w w' : World} {l : Nat} {ps : List Post} {F : Nat → Prop} (h : RefAt w l ps F) (hf : Fr S w w') (hs : ∀ k, F k → ¬ S k) : RefAt w' l ps F := by
  obtain ⟨L, h1, h2, h3, h4⟩ := h
  exact ⟨L, h1.fr hf (fun k hk => hs k ((h4 k).1 hk)), h2, h3, h4⟩

set_option maxHeartbeats 400000 in
theorem rclose_at {w : World} {l : Nat} {ps : List Post} {F : Nat → Prop} (h : RefAt w l ps F) (hg : Good ps) :
    Calls Try.prog 24 #[.pointer (some ⟨l, 0, none⟩)] w fun e w' => ∃ F', RefAt w' l [] F' ∧ e = .returned (.int .i64 (sumA ps)) ∧ Step F F' w w' := by
  obtain ⟨vo, cap, c0, f0, hl, hp, hd⟩ := h.open
  have ht := rtotal_any h hg.may hg.len
  obtain ⟨L, h1, rfl, rfl, h4⟩ := h
  have Ht := Lib.hid ht
  clear ht hp hd
  go_enter Try.func24, Try.ntmps24
  go_wp2_with (go_at_call 30; refine Ht.out.mono ?_; rintro e w' ⟨rfl, rfl⟩)
  go_ret
  refine ⟨(⟨L.l, .slice none 0 0, []⟩ : Ref).foot, ⟨⟨L.l, .slice none 0 0, []⟩, ⟨?_, World.ownsRow_nil _ _ _ _, by simp [Value.ownBlock]⟩, rfl, rfl, fun _ => Iff.rfl⟩, rfl, ?_, ?_⟩
  · have := heap_set_eq (i := 0) (u := .slice none 0 0) h1.blk
    simpa using this
  · exact (Fr.refl F _).setCell (.inl ((h4 _).1 (.inl rfl))) _
  · rintro k (rfl | hk)
    · exact .inl ((h4 _).1 (.inl rfl))
    · simp [Value.ownBlock] at hk

set_option maxHeartbeats 400000 in
theorem rask_at {w : World} {l : Nat} {ps : List Post} {F : Nat → Prop} (h : RefAt w l ps F) (hg : Good ps) (s : ByteArray) :
    Calls Try.prog 23 #[.pointer (some ⟨l, 0, none⟩), .string s] w fun e w' => RefAt w' l ps F ∧ e = .returned (.tuple #[((askP ps s).getD zeroPost).val, .bool (askP ps s).isSome]) ∧ Fr noBlock w w' := by
  have hz := (Fr.refl noBlock w).alloc (.cells #[.string ⟨#[]⟩, .int .i64 0, .int .i64 0, .string ⟨#[]⟩] 34)
  have h' := h.fr hz (fun _ _ x => x)
  have HA := Lib.hid (fun o : Obj => h.fr ((Fr.refl noBlock w).alloc o) (fun _ _ x => x))
  have hat := at_any h' hg.len s
  obtain ⟨vo, cap, c0, f0, hl, hp, hd⟩ := h.open
  cases hpos : posOf ps s with
  | none =>
    have hn := askP_none hpos
    rw [hpos] at hat
    simp only [Option.getD_none] at hat
    have Hat := Lib.hid hat
    have Hn := Lib.hid hn
    clear hpos hn hat h h' hp hd hz
    go_enter Try.func23, Try.ntmps23
    go_wp2_with (go_at_call 29; refine Hat.out.mono ?_; rintro e w' ⟨rfl, rfl⟩)
    rw [Hn.out]
    exact bodyPost_ret (v := .tuple #[zeroPost.val, .bool false]) (by simp [results, Try.results23, go_sem, zeroPost, Post.val]) rfl ⟨HA.out _, rfl, (Fr.refl _ _).alloc _⟩
  | some x =>
    obtain ⟨k, hk, rfl, hkey, hask⟩ := askP_of hpos
    obtain ⟨g, rfl, hgl, hcap, p0, p1, p2, p3⟩ := hp.post hk
    rw [hpos] at hat
    simp only [Option.getD_some] at hat
    have Hat := Lib.hid hat
    have Hask := Lib.hid hask
    have hk' : (k : Int) < (ps.length : Int) := by omega
    have hk0 : (0 : Int) ≤ (k : Int) := by omega
    clear hpos hask hat h h' hp hd hkey hz
    generalize ps[k] = p at *
    go_enter Try.func23, Try.ntmps23
    go_wp2_with (go_at_call 29; refine Hat.out.mono ?_; rintro e w' ⟨rfl, rfl⟩)
    rw [Hask.out]
    exact bodyPost_ret (v := .tuple #[p.val, .bool true]) (by simp [results, Try.results23, go_sem, Post.val]) rfl ⟨HA.out _, rfl, (Fr.refl _ _).alloc _⟩

theorem posOf_state {ps : List Post} {s : ByteArray} {p : Post} (h : askP ps s = some p) : revE ps s = (if p.state = 2 then 20 else 0) ∧ revN ps s = (if p.state = 2 then 0 else p.amount) := by
  simp [revE, revN, h]

set_option maxHeartbeats 1000000 in
theorem rreverse_at {w : World} {l : Nat} {ps : List Post} {F : Nat → Prop} (h : RefAt w l ps F) (hg : Good ps) (s : ByteArray) :
    Calls Try.prog 22 #[.pointer (some ⟨l, 0, none⟩), .string s] w fun e w' => ∃ F', RefAt w' l (revL ps s) F' ∧ e = .returned (.tuple #[.int .i64 (revN ps s), .int .i64 (revE ps s)]) ∧ Step F F' w w' := by
  have hat := at_any h hg.len s
  obtain ⟨vo, cap, c0, f0, hl, hp, hd⟩ := h.open
  cases hpos : posOf ps s with
  | none =>
    have hA := askP_none hpos
    have H1 : Hid (revN ps s = 0 ∧ revE ps s = 15 ∧ revL ps s = ps) := Lib.hid ⟨by simp [revN, hA], by simp [revE, hA], by simp [revL, hpos]⟩
    rw [hpos] at hat
    simp only [Option.getD_none] at hat
    have Hat := Lib.hid hat
    clear hpos hA hat hp hd
    go_enter Try.func22, Try.ntmps22
    go_wp2_with (go_at_call 29; refine Hat.out.mono ?_; rintro e w' ⟨rfl, rfl⟩)
    go_ret2
    exact ⟨F, by rw [H1.out.2.2]; exact h, by rw [H1.out.1, H1.out.2.1]; rfl, Step.refl _ _⟩
  | some x =>
    obtain ⟨k, hk, rfl, hkey, hask⟩ := askP_of hpos
    obtain ⟨g, rfl, hgl, hcap, p0, p1, p2, p3⟩ := hp.post hk
    have hgl' := hd g rfl
    rw [hpos] at hat
    simp only [Option.getD_some] at hat
    have Hat := Lib.hid hat
    have hk' : (k : Int) < (ps.length : Int) := by omega
    have hk0 : (0 : Int) ≤ (k : Int) := by omega
    obtain ⟨_, _, h2 | ⟨g', cap', cur, hv', hb, hgg, _⟩⟩ := (⟨0, hp⟩ : ∃ _ : Nat, w.ownsRow 0 34 4 (.slice (some ⟨g, 0, none⟩) ps.length cap) ps.length (ps.flatMap Post.cells))
    · omega
    simp only [Value.slice.injEq, Option.some.injEq, Addr.mk.injEq, and_true] at hv'
    obtain ⟨rfl, _, _⟩ := hv'
    have hfz := free_of hgg (k * 4 + 2)
    by_cases hs : ps[k].state = 2
    · have H1 : Hid (revN ps s = 0 ∧ revE ps s = 20 ∧ revL ps s = ps) := Lib.hid ⟨by simp [revN, hask, hs], by simp [revE, hask, hs], revL_no (by simp [revE, hask, hs])⟩
      rw [hs] at p2
      have Hh := Lib.hid h
      clear hpos hask hat hp hd hkey hs h p0 p1 p3
      go_enter Try.func22, Try.ntmps22
      go_wp2_with (go_at_call 29; refine Hat.out.mono ?_; rintro e w' ⟨rfl, rfl⟩)
      go_ret2
      exact ⟨F, by rw [H1.out.2.2]; exact Hh.out, by rw [H1.out.1, H1.out.2.1]; rfl, Step.refl _ _⟩
    · have H1 : Hid (revN ps s = ps[k].amount ∧ revE ps s = 0 ∧ revL ps s = ps.modify k revP) := Lib.hid ⟨by simp [revN, hask, hs], by simp [revE, hask, hs], by simp [revL, hpos]⟩
      have hs' : (ps[k].state == 2) = false := by simpa using hs
      have hrow1 := ownsRow_set hp (k * 4 + 2) (.int .i64 2)
      rw [flat_set hk] at hrow1
      have Hrow := Lib.hid hrow1
      have Hh := Lib.hid h
      clear hpos hask hat hp hd hkey hs h p0 p3 hrow1
      generalize hpk : ps[k] = p at *
      have Hpk := Lib.hid hpk
      clear hpk
      go_enter Try.func22, Try.ntmps22
      go_wp2_with (go_at_call 29; refine Hat.out.mono ?_; rintro e w' ⟨rfl, rfl⟩)
      go_ret2
      obtain ⟨L, h1, rfl, rfl, h4⟩ := Hh.out
      have hLv : L.v = .slice (some ⟨g, 0, none⟩) L.ps.length cap := by
        have := cell_of h1.blk 0
        rw [c0] at this
        simpa using this.symm
      refine ⟨F, ⟨⟨L.l, L.v, L.ps.modify k revP⟩, ⟨?_, ?_, h1.d⟩, rfl, H1.out.2.2.symm, h4⟩, by rw [H1.out.1, H1.out.2.1]; rfl, ⟨(Fr.refl F _).setCell (.inl ((h4 g).1 (.inr (by rw [hLv]; rfl)))) _, fun k hk => .inl hk⟩⟩
      · exact heap_set_ne h1.blk (fun e => hgl' e.symm)
      · rw [hLv]
        have := Hrow.out
        simpa using this

theorem rmay_raw (key answer : ByteArray) (amount state : Int) (b : Bool) (h : Post.may ⟨key, amount, state, answer⟩ = b) (w : World) :
    Calls Try.prog 28 #[.agg #[.string key, .int .i64 amount, .int .i64 state, .string answer]] w fun e w' => e = .returned (.bool b) ∧ w.alloc (.cells #[.string key, .int .i64 amount, .int .i64 state, .string answer] 34) = w' :=
  (rmay_any ⟨key, amount, state, answer⟩ w).mono fun _ _ ⟨a, b⟩ => ⟨by rw [a, h], b.symm⟩

/-- how an append into the document's row is closed -/
theorem rapp_close {w w1 w2 : World} {l : Nat} {ps : List Post} {F : Nat → Prop} (h : RefAt w l ps F) (p : Post) {vo : Option Addr} {cap : Nat} (hc : w.cell? ⟨l, 0, none⟩ = some (.slice vo ps.length cap)) (hf : Fr noBlock w w1)
    {gg cap2 : Nat} (hg2 : w1.grownBy w2 (Value.slice vo ps.length cap).ownBlock) {xs : List Value} (hx : xs = ps.flatMap Post.cells ++ p.cells)
    (hown : w2.ownsRow 0 34 4 (.slice (some ⟨gg, 0, none⟩) (ps.length + 1) cap2) (ps.length + 1) xs)
    (hat : (Value.slice vo ps.length cap).ownBlock = some gg ∨ gg = w1.heap.size) :
    ∃ F', RefAt (w2.setCell ⟨l, 0, none⟩ (.slice (some ⟨gg, 0, none⟩) (ps.length + 1) cap2)) l (ps ++ [p]) F' ∧ Step F F' w (w2.setCell ⟨l, 0, none⟩ (.slice (some ⟨gg, 0, none⟩) (ps.length + 1) cap2)) := by
  subst hx
  obtain ⟨L, h1, rfl, rfl, h4⟩ := h
  have hLv : L.v = .slice vo L.ps.length cap := by
    have := cell_of h1.blk 0
    rw [hc] at this
    simpa using this.symm
  rw [← hLv] at hg2 hat
  have hf2 : Fr L.foot w w2 := (hf.mono (T := L.foot) (fun _ x => x.elim)).grown hg2 (fun k hk => .inl (.inr hk))
  have hs := hf.size
  have hl := heap_lt h1.blk
  have hgl : gg ≠ L.l := by
    rcases hat with hat | hat
    · intro e; exact h1.d (e ▸ hat)
    · omega
  have hb2 : w2.heap[L.l]? = _ := (hg2.block L.l (by omega) (fun e => h1.d e.symm)).trans (hf.obj h1.blk (fun x => x))
  refine ⟨(⟨L.l, .slice (some ⟨gg, 0, none⟩) (L.ps.length + 1) cap2, L.ps ++ [p]⟩ : Ref).foot, ⟨⟨L.l, .slice (some ⟨gg, 0, none⟩) (L.ps.length + 1) cap2, L.ps ++ [p]⟩, ⟨?_, ?_, ?_⟩, rfl, rfl, fun _ => Iff.rfl⟩, ?_, ?_⟩
  · have := heap_set_eq (i := 0) (u := .slice (some ⟨gg, 0, none⟩) (L.ps.length + 1) cap2) hb2
    simpa using this
  · have := ownsRow_fr hown ((Fr.refl (fun k => k = L.l) w2).setCell (p := ⟨L.l, 0, none⟩) (.inl rfl) (.slice (some ⟨gg, 0, none⟩) (L.ps.length + 1) cap2)) (fun k hk e => hgl (by simp [Value.ownBlock] at hk; omega))
    simpa [List.flatMap_append] using this
  · simp only [Value.ownBlock, ne_eq, Option.some.injEq]; exact hgl
  · exact (hf2.setCell (.inl (.inl rfl)) _).mono (fun k hk => (h4 k).1 hk)
  · rintro k (rfl | hk)
    · exact .inl ((h4 _).1 (.inl rfl))
    · simp only [Value.ownBlock, Option.some.injEq] at hk
      subst hk
      rcases hat with hat | hat
      · exact .inl ((h4 _).1 (.inr hat))
      · exact .inr (by omega)

set_option maxHeartbeats 1000000 in
theorem rapprove_ok {w : World} {l : Nat} {ps : List Post} {F : Nat → Prop} (h : RefAt w l ps F) (hg : Good ps) (key : ByteArray) (amount : Int) (answer : ByteArray) (hE : addE ps ⟨key, amount, 1, answer⟩ = 0) :
    Calls Try.prog 21 #[.pointer (some ⟨l, 0, none⟩), .string key, .int .i64 amount, .string answer] w fun e w' => ∃ F', RefAt w' l (ps ++ [⟨key, amount, 1, answer⟩]) F' ∧ e = .returned (.int .i64 0) ∧ Step F F' w w' := by
  obtain ⟨hmay, hpos, h24, htot⟩ := addE_zero hE
  obtain ⟨ha0, ha1⟩ := counts_mk' hmay
  have hs0 := sumA_nonneg hg.may
  have hs1 := hg.total
  have hct : Post.counts ⟨key, amount, 1, answer⟩ = amount := by simp [Post.counts]
  rw [hct] at htot
  obtain ⟨vo, cap, c0, f0, hl, hp, hd⟩ := h.open
  obtain ⟨i0, hi0, hz0, hz1, hz2⟩ := info_parts info_post
  have hfr := fun (W : World) (hf : Fr noBlock w W) => at_any (h.fr hf (fun _ _ x => x)) hg.len key
  rw [hpos] at hfr
  simp only [Option.getD_none] at hfr
  have htr := fun (W : World) (hf : Fr noBlock w W) => rtotal_any (h.fr hf (fun _ _ x => x)) hg.may hg.len
  have Hat := Lib.hid hfr
  have Htr := Lib.hid htr
  have Hmay := Lib.hid hmay
  have h24' : (ps.length : Int) < 24 := by omega
  have htot' : sumA ps + amount ≤ 5000000000000 := by omega
  have Hh := Lib.hid h
  have Hp := Lib.hid hp
  have C0 := Lib.hid c0
  clear hfr htr hpos hct htot hE hmay h hp
  go_enter Try.func21, Try.ntmps21
  go_wp2_with fail
  refine (rmay_raw key answer amount 1 true Hmay.out _).mono ?_
  rintro e w' ⟨rfl, rfl⟩
  go_wp2_with fail
  refine (Hat.out _ (((Fr.refl _ _).alloc _).alloc _)).mono ?_
  rintro e w' ⟨rfl, rfl⟩
  go_wp2_with fail
  refine (Htr.out _ (((Fr.refl _ _).alloc _).alloc _)).mono ?_
  rintro e w' ⟨rfl, rfl⟩
  go_wp2_with fail
  refine wp_at (fun W => Fr noBlock w W ∧ W.heap[w.heap.size]? = some (.cells #[.string key, .int .i64 amount, .int .i64 1, .string answer] 34 (0, 0))) ⟨((Fr.refl _ _).alloc _).alloc _, heap_old _ (heap_new w _)⟩ ?_
  intro W hW
  obtain ⟨hF, hpb⟩ := hW
  have k0 := (hF.cell (p := ⟨l, 0, none⟩) hl (fun x => x)).trans c0
  have kf := (hF.frozen (p := ⟨l, 0, none⟩) hl (fun x => x)).trans f0
  have y0 := cell_of hpb 0
  have y1 := cell_of hpb 1
  have y2 := cell_of hpb 2
  have y3 := cell_of hpb 3
  simp at y0 y1 y2 y3
  have hlW := Nat.lt_of_lt_of_le hl hF.size
  have hpW := heap_lt hpb
  have row1 := ownsRow_fr Hp.out hF (fun _ _ x => x)
  have Hrow := Lib.hid row1
  have HF := Lib.hid hF
  have HFd := Lib.hid (fun o : Obj => (hF.alloc o).drew)
  have ag : (Value.slice vo ps.length cap).ownBlock ≠ some l := by
    intro e
    cases vo with
    | none => simp [Value.ownBlock] at e
    | some a =>
      simp only [Value.ownBlock, Option.some.injEq] at e
      rcases Hp.out.2 with ⟨h1, _⟩ | ⟨g, c2, cur, h1, _⟩
      · simp at h1
      · simp only [Value.slice.injEq, Option.some.injEq] at h1
        exact hd g (by rw [h1.1]) (by rw [← e, h1.1])
  clear c0 f0 hpb hF row1
  go_region_law
      ((refine step_append_lies _ (by rfl) _ _ _ (by rfl) 0 34 i0 _ 4 48 Try.underlying39 hi0 hz0 hz1 hz2 rfl (by omega) (.slice vo ps.length cap) ps.length (ps.flatMap Post.cells) (by rfl) ((Hrow.out.alloc _).drew)
          ⟨W.heap.size, 0, none⟩ 1 1 [.string key, .int .i64 amount, .int .i64 1, .string answer] (by rfl) (by rfl) (World.news_of_block (cs := #[.string key, .int .i64 amount, .int .i64 1, .string answer]) (t := 34) (fr := (0, 0)) (heap_alloc_new W _)) (by simp [Value.oneCell'])
          (by omega) (by unfold maxLen; omega) (by omega) (by simp) (W.heap.size + 1) (by simp) ?_; intro gg cap2 w2 hown2 hgrow2 hat hlt
        have hob : w2.cell? ⟨l, 0, none⟩ = some (.slice vo ps.length cap) := (hgrow2.cell_far _ (by simp; omega) (Ne.symm ag)).trans ((World.cell?_alloc_lt _ _ _ hlW).trans k0)
        have hof : w2.frozen? ⟨l, 0, none⟩ = false := (hgrow2.frozen_far _ (by simp; omega) (Ne.symm ag)).trans ((World.frozen?_alloc_past _ _ _ hlW).trans kf)))
  all_goals go_wp2
  all_goals go_ret
  all_goals
    obtain ⟨F', r1, r2⟩ := rapp_close Hh.out ⟨key, amount, 1, answer⟩ C0.out (HFd.out _) hgrow2 rfl hown2 (by simpa using hat)
    exact ⟨F', r1, rfl, r2⟩
end Go.Proofs.Ytfmcfkfhmncaiaa
