/-
  THE WALK of ledger.add.
-/
import Derived.Test.YtfmcfkfhmncaiaaLgMay
import Derived.Deep.RegionLaw
import Derived.Deep.RegionHeld3
import Derived.Deep.RegionHeldLaw
import Derived.Deep.AppendLies
import Derived.Deep.QuietTactic
import Derived.BigQuiet
import Derived.StillTailTactics
namespace Go.Proofs.Ytfmcfkfhmncaiaa
open Go.RowKit

theorem zero_int (w : World) : (zeroValue 3).run Try.prog w = .ok (.int .i64 0) w := by kernel_rfl
theorem look_led (L : Led) (w : World) (h : L.At w) (s : ByteArray) (hs : s.size ≤ maxLen) {S : Nat → Prop} {w' : World} (hf : Fr S w w') (hn : ¬ S L.bm) :
    (Instr.lookup 53 (.map (some L.bm)) (.string s) true).run Try.prog w' = .ok (.tuple #[.int .i64 ((posOf L.ps s).getD 0), .bool (posOf L.ps s).isSome]) w' :=
  (h.map.fr hf hn).look Try.underlying9 Try.underlying53 Try.underlying3 (zero_int _) s hs

theorem may_raw (key answer : ByteArray) (amount state : Int) (b : Bool) (h : Post.may ⟨key, amount, state, answer⟩ = b) (w : World) :
    Calls Try.prog 31 #[.agg #[.string key, .int .i64 amount, .int .i64 state, .string answer]] w fun e w' => e = .returned (.bool b) ∧ w.alloc (.cells #[.string key, .int .i64 amount, .int .i64 state, .string answer] 34) = w' :=
  (may_any ⟨key, amount, state, answer⟩ w).mono fun _ _ ⟨a, b⟩ => ⟨by rw [a, h], b.symm⟩

set_option maxHeartbeats 400000 in
/-- what is refused: a post that may not be; a key that is there; no place -/
theorem add_no (L : Led) (w : World) (h : L.At w) (p : Post) (hs : p.key.size ≤ maxLen) (hE : addE L.ps p ≠ 0) (hE' : addE L.ps p ≠ 19) :
    Calls Try.prog 26 #[.pointer (some ⟨L.l, 0, none⟩), p.val] w fun e w' => e = .returned (.int .i64 (addE L.ps p)) ∧ Fr noBlock w w' := by
  have c0 := cell_of h.blk 0
  have c1 := cell_of h.blk 1
  simp at c0 c1
  have hl := heap_lt h.blk
  have hlook := fun w' (hf : Fr noBlock w w') => look_led L w h p.key hs hf (fun h => h)
  obtain ⟨key, amount, state, answer⟩ := p
  unfold Post.val
  have hL1 := fun n => hlook _ (((Fr.refl noBlock w).alloc (.cells #[.string key, .int .i64 amount, .int .i64 state, .string answer] 34)).drewN n)
  clear hlook
  have hvl : ∃ (ao : Option Addr) (cap : Nat), L.v = .slice ao L.ps.length cap := by
    rcases h.row.2 with ⟨h1, h2⟩ | ⟨g, cap, cur, h1, _⟩
    · exact ⟨none, 0, by rw [h1, h2]⟩
    · exact ⟨_, cap, h1⟩
  obtain ⟨ao, cap, hv⟩ := hvl
  rw [hv] at c0
  have Hv := Lib.hid hv
  clear hv
  unfold addE at hE hE' ⊢
  simp only at hL1
  by_cases hm : Post.may ⟨key, amount, state, answer⟩ = false
  · rw [if_pos hm]
    clear hE hE'
    have Hm := Lib.hid hm
    generalize ((posOf L.ps key).getD 0) = pos at hL1
    generalize ((posOf L.ps key).isSome) = is at hL1
    clear hm
    by_cases hst : (state == 1) = true
    all_goals
      go_enter Try.func26, Try.ntmps26
      go_wp2
      go_quiet (fail)
      go_wp2_with (go_at_call 31; refine (may_raw key answer amount state false Hm.out _).mono ?_; rintro e w' ⟨rfl, rfl⟩)
      go_ret
      exact ⟨rfl, ((((Fr.refl _ _).alloc _).drewN _).alloc _)⟩
  · rw [if_neg hm] at hE hE' ⊢
    have Hm : Hid (Post.may ⟨key, amount, state, answer⟩ = true) := Lib.hid (by simpa using hm)
    clear hm
    by_cases hi : (posOf L.ps key).isSome = true
    · rw [if_pos hi]
      clear hE hE'
      rw [hi] at hL1
      generalize ((posOf L.ps key).getD 0) = pos at hL1
      clear hi
      by_cases hst : (state == 1) = true
      all_goals
        go_enter Try.func26, Try.ntmps26
        go_wp2
        go_quiet (fail)
        go_wp2_with (go_at_call 31; refine (may_raw key answer amount state true Hm.out _).mono ?_; rintro e w' ⟨rfl, rfl⟩)
        go_ret
        exact ⟨rfl, ((((Fr.refl _ _).alloc _).drewN _).alloc _)⟩
    · rw [if_neg hi] at hE hE' ⊢
      have hi' : (posOf L.ps key).isSome = false := by simpa using hi
      clear hi
      rw [hi'] at hL1
      generalize ((posOf L.ps key).getD 0) = pos at hL1
      have h24 : 24 ≤ L.ps.length := by
        refine Decidable.byContradiction fun hn => ?_
        rw [if_neg hn] at hE hE'
        split at hE <;> simp_all
      rw [if_pos h24]
      clear hE hE' hi'
      have h24' : (24 : Int) ≤ (L.ps.length : Int) := by omega
      by_cases hst : (state == 1) = true
      all_goals
        go_enter Try.func26, Try.ntmps26
        go_wp2
        go_quiet (fail)
        go_wp2_with (go_at_call 31; refine (may_raw key answer amount state true Hm.out _).mono ?_; rintro e w' ⟨rfl, rfl⟩)
        go_ret
        exact ⟨rfl, ((((Fr.refl _ _).alloc _).drewN _).alloc _)⟩

theorem counts_mk {key answer : ByteArray} {amount state : Int} (hm : Post.may ⟨key, amount, state, answer⟩ = true) : 0 ≤ amount ∧ amount ≤ 999999999999 := by
  simp only [Post.may, Bool.and_eq_true, decide_eq_true_eq] at hm; omega
theorem store_led (L : Led) (w : World) (h : L.At w) (s : ByteArray) (hs : s.size ≤ maxLen) {w' : World} (hf : Fr noBlock w w') :
    ∃ w1, (Instr.mapUpdate 53 (.map (some L.bm)) (.string s) (.int .i64 (L.ps.length : Int))).run Try.prog w' = .ok () w1 ∧ MapIs Try.prog 9 3 w1 L.bm (L.ps.length + 1) (fun t => if t = s then some (L.ps.length : Int) else posOf L.ps t) ∧ w'.mapTurned w1 L.bm := by
  have := h.good.len
  exact (h.map.fr hf (fun x => x)).store Try.underlying9 Try.underlying53 Try.underlying3 (by unfold maxLen; omega) s hs _ (by simp [Lit.wf, IntKind.min, IntKind.max, IntKind.signed, IntKind.bits]; omega)
theorem Led.At.shape {L : Led} {w : World} (h : L.At w) : ∃ (ao : Option Addr) (cap : Nat), L.v = .slice ao L.ps.length cap := by
  rcases h.row.2 with ⟨h1, h2⟩ | ⟨g, cap, cur, h1, _⟩
  · exact ⟨none, 0, by rw [h1, h2]⟩
  · exact ⟨_, cap, h1⟩
theorem info_post : (Try.prog.info? 34).map (fun i => (i.zero, i.size, i.bytes)) = some (some (.agg #[.string .empty, .int .i64 0, .int .i64 0, .string .empty]), 4, 48) := by kernel_rfl

/-- how the ways of 'add' that add something are closed -/
theorem add_close {L : Led} {w w1 w2 : World} (h : L.At w) {p : Post} (hE : addE L.ps p = 0) (hF1 : Fr (fun k => k = L.bm) w w1)
    (hmap : MapIs Try.prog 9 3 w1 L.bm (L.ps.length + 1) (fun t => if t = p.key then some (L.ps.length : Int) else posOf L.ps t))
    {o : Obj} (hg2 : (w1.alloc o).drew.grownBy w2 L.v.ownBlock) {gg cap2 : Nat}
    (hown2 : w2.ownsRow 0 34 4 (.slice (some ⟨gg, 0, none⟩) (L.ps.length + 1) cap2) (L.ps.length + 1) (L.ps.flatMap Post.cells ++ p.cells))
    (hat : L.v.ownBlock = some gg ∨ gg = w1.heap.size + 1) {tot : Int} (htot : sumA (L.ps ++ [p]) = tot) :
    ∃ L' : Led, L'.At ((w2.setCell ⟨L.l, 0, none⟩ (.slice (some ⟨gg, 0, none⟩) (L.ps.length + 1) cap2)).setCell ⟨L.l, 2, none⟩ (.int .i64 tot)) ∧ L'.l = L.l ∧ L'.ps = L.ps ++ [p] ∧
      Fr L.foot w ((w2.setCell ⟨L.l, 0, none⟩ (.slice (some ⟨gg, 0, none⟩) (L.ps.length + 1) cap2)).setCell ⟨L.l, 2, none⟩ (.int .i64 tot)) ∧ ∀ k, L'.foot k → L.foot k ∨ w.heap.size ≤ k := by
  have hlt := heap_lt h.blk
  have hb1 : w1.heap[L.l]? = _ := hF1.obj h.blk h.d1
  have hF2 : Fr (fun k => L.v.ownBlock = some k) w1 w2 := (((Fr.refl _ _).alloc o).drew).grown hg2 (fun k hk => .inl hk)
  have hb2 : w2.heap[L.l]? = _ := hF2.obj hb1 h.d2
  have hlg : gg ≠ L.l := by
    rcases hat with hat | hat
    · intro e; exact h.d2 (e ▸ hat)
    · have := heap_lt hb1; omega
  have hset : Fr (fun k => k = L.l) w2 ((w2.setCell ⟨L.l, 0, none⟩ (.slice (some ⟨gg, 0, none⟩) (L.ps.length + 1) cap2)).setCell ⟨L.l, 2, none⟩ (.int .i64 tot)) := ((Fr.refl (fun k => k = L.l) _).setCell (.inl rfl) _).setCell (.inl rfl) _
  have hn : posOf L.ps p.key = none := by
    have he := hE
    unfold addE at he
    by_cases h1 : p.may = false
    · simp [h1] at he
    rw [if_neg h1] at he
    by_cases h2 : (posOf L.ps p.key).isSome
    · simp [h2] at he
    simpa using h2
  have h12 := hF1.size
  refine ⟨⟨L.l, L.bm, .slice (some ⟨gg, 0, none⟩) (L.ps.length + 1) cap2, L.ps ++ [p]⟩, ⟨?_, ?_, ?_, h.d1, ?_, ?_, good_snoc h.good hE⟩, rfl, rfl, ?_, ?_⟩
  · have := heap_set_eq (i := 2) (u := .int .i64 tot) (heap_set_eq (i := 0) (u := .slice (some ⟨gg, 0, none⟩) (L.ps.length + 1) cap2) hb2)
    simpa [htot] using this
  · have := ownsRow_fr hown2 hset (fun k hk e => hlg (by simp [Value.ownBlock] at hk; omega))
    simpa [List.flatMap_append] using this
  · refine (((hmap.fr hF2 h.d3).fr hset (fun e => h.d1 e.symm)).congr (fun s => (posOf_snoc L.ps p hn s).symm)).mono (by simp)
  · simp only [Value.ownBlock, ne_eq, Option.some.injEq]; exact hlg
  · simp only [Value.ownBlock, ne_eq, Option.some.injEq]
    rcases hat with hat | hat
    · intro e; exact h.d3 (e ▸ hat)
    · have := h.map.lt; omega
  · refine ((hF1.mono (T := L.foot) (fun k hk => .inr (.inl hk))).trans hF2 (fun k hk => .inl (.inr (.inr hk)))).trans hset (fun k hk => .inl (.inl hk))
  · rintro k (rfl | rfl | hk)
    · exact .inl (.inl rfl)
    · exact .inl (.inr (.inl rfl))
    · simp only [Value.ownBlock, Option.some.injEq] at hk
      subst hk
      rcases hat with hat | hat
      · exact .inl (.inr (.inr hat))
      · exact .inr (by omega)

set_option maxHeartbeats 1000000 in
/-- what is added -/
theorem add_ok (L : Led) (w : World) (h : L.At w) (p : Post) (hs : p.key.size ≤ maxLen) (hE : addE L.ps p = 0) :
    Calls Try.prog 26 #[.pointer (some ⟨L.l, 0, none⟩), p.val] w fun e w' => ∃ L' : Led, L'.At w' ∧ L'.l = L.l ∧ L'.ps = L.ps ++ [p] ∧ e = .returned (.int .i64 0) ∧ Fr L.foot w w' ∧ ∀ k, L'.foot k → L.foot k ∨ w.heap.size ≤ k := by
  have c0 := cell_of h.blk 0
  have c1 := cell_of h.blk 1
  have c2 := cell_of h.blk 2
  simp at c0 c1 c2
  have hl := heap_lt h.blk
  have hlook := fun w' (hf : Fr noBlock w w') => look_led L w h p.key hs hf (fun h => h)
  obtain ⟨i0, hi0, hz0, hz1, hz2⟩ := info_parts info_post
  obtain ⟨key, amount, state, answer⟩ := p
  unfold Post.val
  have hL1 := fun n => hlook _ (((Fr.refl noBlock w).alloc (.cells #[.string key, .int .i64 amount, .int .i64 state, .string answer] 34)).drewN n)
  clear hlook
  obtain ⟨ao, cap, hv⟩ := h.shape
  rw [hv] at c0
  have Hv := Lib.hid hv
  clear hv
  have HE := Lib.hid hE
  unfold addE at hE
  simp only at hL1
  have hm : ¬ Post.may ⟨key, amount, state, answer⟩ = false := fun hm => by simp [hm] at hE
  rw [if_neg hm] at hE
  have Hm : Hid (Post.may ⟨key, amount, state, answer⟩ = true) := Lib.hid (by simpa using hm)
  have hi : ¬ (posOf L.ps key).isSome = true := fun hi => by simp [hi] at hE
  rw [if_neg hi] at hE
  have hi' : (posOf L.ps key).isSome = false := by simpa using hi
  rw [hi'] at hL1
  generalize ((posOf L.ps key).getD 0) = pos at hL1
  have h24 : ¬ 24 ≤ L.ps.length := fun h24 => by simp [h24] at hE
  rw [if_neg h24] at hE
  have h24' : (L.ps.length : Int) < 24 := by omega
  have h19 : Post.counts ⟨key, amount, state, answer⟩ ≤ 5000000000000 - sumA L.ps := by
    refine Decidable.byContradiction fun hn => ?_
    rw [if_pos (by omega)] at hE
    simp at hE
  obtain ⟨ha0, ha1⟩ := counts_mk Hm.out
  have hs0 := sumA_nonneg h.good.may
  have hs1 := h.good.total
  clear hE hm hi hi' h24
  have hcnt : Post.counts ⟨key, amount, state, answer⟩ = if (state == 1) = true then amount else 0 := by simp [Post.counts]
  have hx : ((state == 1) = true ∧ amount ≤ 5000000000000 - sumA L.ps ∧ Hid (sumA (L.ps ++ [⟨key, amount, state, answer⟩]) = sumA L.ps + amount)) ∨
      ((state == 1) = false ∧ (0 : Int) ≤ 5000000000000 - sumA L.ps ∧ Hid (sumA (L.ps ++ [⟨key, amount, state, answer⟩]) = sumA L.ps)) := by
    rw [hcnt] at h19
    by_cases hst : (state == 1) = true
    · rw [if_pos hst] at h19 hcnt
      exact .inl ⟨hst, h19, Lib.hid (by rw [sumA_append]; simp [sumA, hcnt])⟩
    · rw [if_neg hst] at hcnt
      exact .inr ⟨by simpa using hst, by omega, Lib.hid (by rw [sumA_append]; simp [sumA, hcnt])⟩
  clear hcnt h19
  rcases hx with ⟨hst, h19', Hsum⟩ | ⟨hst, h19', Hsum⟩
  all_goals
    go_enter Try.func26, Try.ntmps26
    go_wp2
    go_quiet (fail)
    go_wp2_with (go_at_call 31; refine (may_raw key answer amount state true Hm.out _).mono ?_; rintro e w' ⟨rfl, rfl⟩)
    refine wp_at (fun W => Fr noBlock w W ∧ W.heap[w.heap.size]? = some (.cells #[.string key, .int .i64 amount, .int .i64 state, .string answer] 34 (0, 0))) ⟨(((Fr.refl _ _).alloc _).drewN _).alloc _, heap_old _ (heap_new w _)⟩ ?_
    intro W hW
    obtain ⟨hF, hp⟩ := hW
    obtain ⟨w1, hst1, hmap1, ht1⟩ := store_led L w h key hs (hF.drew)
    have k0 := (hF.cell (p := ⟨L.l, 0, none⟩) hl (fun x => x)).trans c0
    have k1 := (hF.cell (p := ⟨L.l, 1, none⟩) hl (fun x => x)).trans c1
    have q0 := cell_of hp 0
    simp at q0
    have Hg := Lib.hid ht1.grown
    have HF := Lib.hid hF
    have Hp := Lib.hid hp
    have Hmap := Lib.hid hmap1
    have C2 := Lib.hid c2
    have H19 := Lib.hid h19'
    clear c0 c1 c2 hp hF ht1 hmap1 hL1 hst h19'
    go_region
    have hbm : w.heap.size ≠ L.bm := fun e => by have := h.map.lt; omega
    have hF1 : Fr (fun k => k = L.bm) w w1 := ((HF.out.drew).mono (fun _ x => x.elim)).grown Hg.out (by intro k hk; cases hk; exact .inl rfl)
    have hp1 : w1.heap[w.heap.size]? = _ := (Hg.out.block w.heap.size (heap_lt Hp.out) (by simpa using hbm)).trans Hp.out
    have row1 := ownsRow_fr h.row hF1 (fun k hk e => h.d3 (e ▸ hk))
    rw [Hv.out] at row1
    have hb1 : w1.heap[L.l]? = _ := hF1.obj h.blk h.d1
    rw [Hv.out] at hb1
    have g0 := cell_of hb1 0
    have g2 := cell_of hb1 2
    have gf := free_of hb1
    have y0 := cell_of hp1 0
    have y1 := cell_of hp1 1
    have y2 := cell_of hp1 2
    have y3 := cell_of hp1 3
    have gf0 := gf 0
    simp at g0 g2 y0 y1 y2 y3
    have hl1 : L.l < w1.heap.size := heap_lt hb1
    have hsz : w.heap.size < w1.heap.size := heap_lt hp1
    have Hb := Lib.hid hb1
    have Hf := Lib.hid hF1
    have ag : (Value.slice ao L.ps.length cap).ownBlock ≠ some L.l := by rw [← Hv.out]; exact h.d2
    have ap : (Value.slice ao L.ps.length cap).ownBlock ≠ some w.heap.size := fun e => by rw [← Hv.out] at e; have := (h.row.lt _ e).2; omega
    have Hrow := Lib.hid row1
    clear k0 k1 q0 hst1 hp1 hb1 hF1 gf row1
    go_wp2
    go_region_law
      ((refine step_append_lies _ (by rfl) _ _ _ (by rfl) 0 34 i0 _ 4 48 Try.underlying39 hi0 hz0 hz1 hz2 rfl (by omega) (.slice ao L.ps.length cap) L.ps.length (L.ps.flatMap Post.cells) (by rfl) ((Hrow.out.alloc _).drew)
          ⟨w1.heap.size, 0, none⟩ 1 1 [.string key, .int .i64 amount, .int .i64 state, .string answer] (by rfl) (by rfl) (World.news_of_block (cs := #[.string key, .int .i64 amount, .int .i64 state, .string answer]) (t := 34) (fr := (0, 0)) (heap_alloc_new w1 _)) (by simp [Value.oneCell'])
          (by omega) (by unfold maxLen; omega) (by omega) (by simp) (w1.heap.size + 1) (by simp) ?_; intro gg cap2 w2 hown2 hgrow2 hat hlt
        have hob : w2.heap[L.l]? = _ := (hgrow2.block L.l (by simp; omega) (Ne.symm ag)).trans ((Below.heap_alloc w1 _ _ hl1).trans Hb.out)
        have z0 := cell_of hob 0
        have z2 := cell_of hob 2
        have zf0 := free_of hob 0
        have zf2 := free_of hob 2
        simp at z0 z2
        have Hob := Lib.hid hob
        clear hob))
    all_goals go_wp2
    all_goals go_ret
    all_goals
      obtain ⟨L', h1, h2, h3, h4, h5⟩ := add_close h HE.out Hf.out Hmap.out (by rw [Hv.out]; exact hgrow2) hown2 (by rw [Hv.out]; exact hat) Hsum.out
      exact ⟨L', h1, h2, h3, rfl, h4, h5⟩

set_option maxHeartbeats 1000000 in
/-- what is refused for the total -/
theorem add_total (L : Led) (w : World) (h : L.At w) (p : Post) (hs : p.key.size ≤ maxLen) (hE : addE L.ps p = 19) :
    Calls Try.prog 26 #[.pointer (some ⟨L.l, 0, none⟩), p.val] w fun e w' => e = .returned (.int .i64 19) ∧ Fr noBlock w w' := by
  have c0 := cell_of h.blk 0
  have c1 := cell_of h.blk 1
  have c2 := cell_of h.blk 2
  simp at c0 c1 c2
  have hl := heap_lt h.blk
  have hlook := fun w' (hf : Fr noBlock w w') => look_led L w h p.key hs hf (fun h => h)
  obtain ⟨key, amount, state, answer⟩ := p
  unfold Post.val
  have hL1 := fun n => hlook _ (((Fr.refl noBlock w).alloc (.cells #[.string key, .int .i64 amount, .int .i64 state, .string answer] 34)).drewN n)
  clear hlook
  obtain ⟨ao, cap, hv⟩ := h.shape
  rw [hv] at c0
  clear hv
  unfold addE at hE
  simp only at hL1
  have hm : ¬ Post.may ⟨key, amount, state, answer⟩ = false := fun hm => by simp [hm] at hE
  rw [if_neg hm] at hE
  have Hm : Hid (Post.may ⟨key, amount, state, answer⟩ = true) := Lib.hid (by simpa using hm)
  have hi : ¬ (posOf L.ps key).isSome = true := fun hi => by simp [hi] at hE
  rw [if_neg hi] at hE
  have hi' : (posOf L.ps key).isSome = false := by simpa using hi
  rw [hi'] at hL1
  generalize ((posOf L.ps key).getD 0) = pos at hL1
  have h24 : ¬ 24 ≤ L.ps.length := fun h24 => by simp [h24] at hE
  rw [if_neg h24] at hE
  have h24' : (L.ps.length : Int) < 24 := by omega
  have h19 : 5000000000000 - sumA L.ps < Post.counts ⟨key, amount, state, answer⟩ := by
    refine Decidable.byContradiction fun hn => ?_
    rw [if_neg (by omega)] at hE
    simp at hE
  obtain ⟨ha0, ha1⟩ := counts_mk Hm.out
  have hs0 := sumA_nonneg h.good.may
  have hs1 := h.good.total
  clear hE hm hi hi' h24
  have hcnt : Post.counts ⟨key, amount, state, answer⟩ = if (state == 1) = true then amount else 0 := by simp [Post.counts]
  by_cases hst : (state == 1) = true
  · rw [hcnt, if_pos hst] at h19
    clear hcnt
    go_enter Try.func26, Try.ntmps26
    go_wp2
    go_quiet (fail)
    go_wp2_with (go_at_call 31; refine (may_raw key answer amount state true Hm.out _).mono ?_; rintro e w' ⟨rfl, rfl⟩)
    go_ret
    exact ⟨rfl, ((((Fr.refl _ _).alloc _).drewN _).alloc _)⟩
  · rw [hcnt, if_neg hst] at h19
    omega

/-- A POST IS ADDED, OR NOT. -/
theorem add_any (L : Led) (w : World) (h : L.At w) (p : Post) (hs : p.key.size ≤ maxLen) :
    Calls Try.prog 26 #[.pointer (some ⟨L.l, 0, none⟩), p.val] w fun e w' => ∃ L' : Led, L'.At w' ∧ L'.l = L.l ∧ L'.ps = addL L.ps p ∧ e = .returned (.int .i64 (addE L.ps p)) ∧ Fr L.foot w w' ∧ ∀ k, L'.foot k → L.foot k ∨ w.heap.size ≤ k := by
  by_cases h0 : addE L.ps p = 0
  · refine (add_ok L w h p hs h0).mono ?_
    rintro e w' ⟨L', h1, h2, h3, h4, h5⟩
    exact ⟨L', h1, h2, by rw [h3, addL, if_pos h0], by rw [h4, h0], h5⟩
  · have hno : Calls Try.prog 26 #[.pointer (some ⟨L.l, 0, none⟩), p.val] w fun e w' => e = .returned (.int .i64 (addE L.ps p)) ∧ Fr noBlock w w' := by
      by_cases h19 : addE L.ps p = 19
      · rw [h19]; exact add_total L w h p hs h19
      · exact add_no L w h p hs h0 h19
    refine hno.mono ?_
    rintro e w' ⟨he, hf⟩
    exact ⟨L, h.fr hf (fun _ _ x => x), rfl, by rw [addL, if_neg h0], he, hf.mono (fun _ x => x.elim), fun k hk => .inl hk⟩
end Go.Proofs.Ytfmcfkfhmncaiaa
