/-
  THE WALK of Try at what may be asked.
-/
import Derived.Test.YtajhgejhdalobaaGreatDoorLmTry
namespace Go.Proofs.YtajhgejhdalobaaGreatDoor.Lm
open Go.RowKit

theorem room_same {us : List Use} {win : Int} (h : (decide (16 ≤ us.length) && (findW us win).isNone) = true) : roomL us win = us := by
  simp only [Bool.and_eq_true, decide_eq_true_eq, Option.isNone_iff_eq_none] at h
  unfold roomL
  rw [if_neg (by omega), h.2]

theorem fresh4 {w w2 : World} (hf : Fr noBlock w w2) {b : Nat} {o : Obj} (hb : w2.heap[b]? = some o) (t : TypeId) (n : Nat) (a0 a1 a2 a3 x0 x1 x2 x3 : Value) :
    Fr noBlock w ((((((w2.alloc (.cells #[a0, a1, a2, a3] t)).drewN n).setCell ⟨w2.heap.size, 0, none⟩ x0).setCell ⟨w2.heap.size, 1, none⟩ x1).setCell ⟨w2.heap.size, 2, none⟩ x2).setCell ⟨w2.heap.size, 3, none⟩ x3) ∧
    ((((((w2.alloc (.cells #[a0, a1, a2, a3] t)).drewN n).setCell ⟨w2.heap.size, 0, none⟩ x0).setCell ⟨w2.heap.size, 1, none⟩ x1).setCell ⟨w2.heap.size, 2, none⟩ x2).setCell ⟨w2.heap.size, 3, none⟩ x3).heap[w2.heap.size]? = some (.cells #[x0, x1, x2, x3] t (0, 0)) ∧
    ((((((w2.alloc (.cells #[a0, a1, a2, a3] t)).drewN n).setCell ⟨w2.heap.size, 0, none⟩ x0).setCell ⟨w2.heap.size, 1, none⟩ x1).setCell ⟨w2.heap.size, 2, none⟩ x2).setCell ⟨w2.heap.size, 3, none⟩ x3).heap[b]? = some o := by
  have hs := hf.size
  have hlt := heap_lt hb
  have hne : b ≠ w2.heap.size := by omega
  refine ⟨((((((hf.alloc _).drewN n).setCell (p := ⟨w2.heap.size, 0, none⟩) (.inr hs) _).setCell (p := ⟨w2.heap.size, 1, none⟩) (.inr hs) _).setCell (p := ⟨w2.heap.size, 2, none⟩) (.inr hs) _).setCell (p := ⟨w2.heap.size, 3, none⟩) (.inr hs) _), ?_, ?_⟩
  · have h0 : ((w2.alloc (.cells #[a0, a1, a2, a3] t)).drewN n).heap[w2.heap.size]? = some (.cells #[a0, a1, a2, a3] t (0, 0)) := heap_new w2 _
    have := heap_set_eq (i := 3) (u := x3) (heap_set_eq (i := 2) (u := x2) (heap_set_eq (i := 1) (u := x1) (heap_set_eq (i := 0) (u := x0) h0)))
    simpa using this
  · have h0 : ((w2.alloc (.cells #[a0, a1, a2, a3] t)).drewN n).heap[b]? = some o := heap_old _ hb
    exact heap_set_ne (heap_set_ne (heap_set_ne (heap_set_ne h0 hne) hne) hne) hne

set_option maxRecDepth 100000 in
set_option maxHeartbeats 1600000 in
theorem try_none {l : Nat} {us : List Use} {w : World} {F : Nat → Prop} (h : Hold 213 128 UseR l us w F) (hg : GoodU us) (r : Rule) (s : ByteArray) (a n : Int) (hm : mayB r s a n = true) (hfu : findU us s = none) :
    Calls Tryz.prog 173 #[.pointer (some ⟨l, 0, none⟩), r.val, .string s, .int .i64 a, .int .i64 n] w (TryPost l us r s a n F w) := by
  have hlen := hg.len
  have Hm := Lib.hid (fun W => may_any r s a n true hm W)
  have Hh := Lib.hid h
  have Hmay := Lib.hid hm
  have Hfind := Lib.hid (fun (W : World) (hf : Fr noBlock w W) => find_any (Hold.ok.fr0 h hf) hlen s _ rfl)
  have hf0 := (Fr.refl noBlock w).alloc (.cells #[.int .i64 r.ticks, .int .i64 r.times, .int .i64 r.sum, .int .i64 r.once] 47)
  obtain ⟨hr, hcd, ha0, ha1, hn0, hn1⟩ := may_iff.1 hm
  obtain ⟨t1, t2, t3, t4, t5, t6, t7, t8⟩ := right_iff.1 hr
  obtain ⟨cc, cw⟩ := cur_card us s (n / r.ticks)
  obtain ⟨ct0, ct1, cs0, cs1⟩ := cur_ok hg s (n / r.ticks)
  have hdiv : 0 ≤ n / r.ticks := Int.ediv_nonneg hn0 (by omega)
  have E17 := Lib.hid (fun h1 => try_once (us := us) hm h1)
  have E18 := Lib.hid (fun h1 h2 => try_count (us := us) hm h1 h2)
  have E17' := Lib.hid (fun h1 h2 h3 => try_sum (us := us) hm h1 h2 h3)
  have E14 := Lib.hid (fun h1 h2 h3 h4 => try_full (us := us) hm h1 h2 h3 h4)
  have E0 := Lib.hid (fun h1 h2 h3 h4 => try_ok (us := us) hm h1 h2 h3 h4)
  have Hcur := Lib.hid (fun (k : Nat) (hk : findU us s = some k) => cur_some hk (n / r.ticks))
  have Hcur0 := Lib.hid (fun (hk : findU us s = none) => cur_none hk (n / r.ticks))
  generalize hcu : curU us s (n / r.ticks) = cu at *
  have Hcu := Lib.hid hcu
  have Hcc := Lib.hid cc
  have Hcw := Lib.hid cw
  obtain ⟨vo, cap, c0, f0, hl, hc1, hc2, hrow, hgf, _⟩ := h.opened
  have C0 := Lib.hid c0
  have F0 := Lib.hid f0
  have Hrow := Lib.hid hrow
  have HT := Lib.hid (show tryL us r s a n = tryL us r s a n from rfl)
  obtain ⟨ticks, times, sum, once⟩ := r
  unfold Rule.val at *
  simp only at *
  clear hm hr hcd hcu cc cw h hg c0 f0 hrow
  have HT0 := Lib.hid (fun (hk : findU us s = none) (h0 : tryE us ⟨ticks, times, sum, once⟩ s a n = 0) => show tryL us ⟨ticks, times, sum, once⟩ s a n = roomL us (n / ticks) ++ [addU (curU us s (n / ticks)) a] by unfold tryL; rw [if_pos h0, hk])
  have HT1 := Lib.hid (fun (k : Nat) (hk : findU us s = some k) (h0 : tryE us ⟨ticks, times, sum, once⟩ s a n = 0) => show tryL us ⟨ticks, times, sum, once⟩ s a n = us.set k (addU (curU us s (n / ticks)) a) by unfold tryL; rw [if_pos h0, hk])
  have hcn := Hcur0.out hfu
  have Hcn := Lib.hid hcn
  have Hfu := Lib.hid hfu
  rw [hfu] at Hfind
  simp only [idxI] at Hfind
  clear hcn hfu HT1 HT Hcur Hcur0 Hrow C0 F0
  go_enter Tryz.func173, Tryz.ntmps173
  go_wp2_with fail
  refine (Hm.out _).mono ?_
  rintro e w1 ⟨rfl, f1⟩
  have f01 := hf0.trans' f1
  have hb1 : w1.heap[w.heap.size]? = some (.cells #[.int .i64 ticks, .int .i64 times, .int .i64 sum, .int .i64 once] 47 (0, 0)) := f1.obj (heap_new w _) (fun x => x)
  have Hf01 := Lib.hid f01
  have Hb1 := Lib.hid hb1
  clear f1 f01 hf0 hb1
  go_wp2_with fail
  refine (Hfind.out _ Hf01.out).mono ?_
  rintro e w2 ⟨rfl, f2⟩
  have hb2 : w2.heap[w.heap.size]? = _ := f2.obj Hb1.out (fun x => x)
  have y0 := cell_of hb2 0
  simp at y0
  have Hf02 := Lib.hid (Hf01.out.trans' f2)
  have Hb2 := Lib.hid hb2
  have hrs := heap_lt hb2
  clear hb2 f2
  go_wp2_with fail
  go_quiet (fail)
  go_upto_if 42 with fail
  obtain ⟨ub, hub⟩ : ∃ ub, w2.heap.size = ub := ⟨_, rfl⟩
  refine wp_at (fun W => Fr noBlock w W ∧ W.heap[ub]? = some (.cells #[.string cu.card, .int .i64 cu.window, .int .i64 cu.times, .int .i64 cu.sum] 128 (0, 0)) ∧ W.heap[w.heap.size]? = some (.cells #[.int .i64 ticks, .int .i64 times, .int .i64 sum, .int .i64 once] 47 (0, 0))) ⟨(Hf02.out.alloc _).drewN _, by rw [← hub, Hcn.out]; exact heap_new w2 _, heap_old _ Hb2.out⟩ ?_
  have hwub : w.heap.size ≤ ub := by have := Hf02.out.size; omega
  have hwub' : ub ≠ w.heap.size := by omega
  have Hub := Lib.hid hub
  rw [hub]
  clear hub y0 Hf01 Hf02 Hb1 Hb2 hrs Hm Hfind
  rintro W ⟨hF, hu, hrl⟩
  have q0 := cell_of hu 0
  have q1 := cell_of hu 1
  have q2 := cell_of hu 2
  have q3 := cell_of hu 3
  have qf := free_of hu
  have y1 := cell_of hrl 1
  have y2 := cell_of hrl 2
  have y3 := cell_of hrl 3
  simp at q0 q1 q2 q3 y1 y2 y3
  have HF := Lib.hid hF
  have HU := Lib.hid hu
  clear hF hu hrl
  by_cases h17 : once < a
  · have E := Lib.hid (E17.out h17)
    clear E17 E18 E17' E14 E0 HT0
    go_wp2_with fail
    go_ret
    exact try_no Hh.out rfl E.out (by omega) HF.out
  · by_cases h18 : times ≤ cu.times
    · have E := Lib.hid (E18.out (by omega) (by omega))
      clear E17 E18 E17' E14 E0 HT0
      go_wp2_with fail
      go_ret
      exact try_no Hh.out rfl E.out (by omega) HF.out
    · by_cases h17' : sum - a < cu.sum
      · have E := Lib.hid (E17'.out (by omega) (by omega) (by omega))
        clear E17 E18 E17' E14 E0 HT0
        go_wp2_with fail
        go_ret
        exact try_no Hh.out rfl E.out (by omega) HF.out
      · have Hro := Lib.hid (room_any (Hold.ok.fr0 Hh.out HF.out) hlen cu.window)
        have hfb : fullB us s (n / ticks) = (decide (16 ≤ us.length) && (findW us cu.window).isNone) := by rw [fullB, Hfu.out, Hcw.out]; rfl
        cases hful : fullB us s (n / ticks) with
        | true =>
          have E := Lib.hid (E14.out (by omega) (by omega) (by omega) hful)
          have Hfb := Lib.hid (hfb.symm.trans hful)
          clear E17 E18 E17' E14 E0 HT0 hful hfb
          go_wp2_with fail
          refine Hro.out.mono ?_
          rintro e w3 ⟨F3, rfl, h3, s3⟩
          rw [Hfb.out]
          have Hend := Lib.hid (And.intro h3 ((Step.same HF.out).trans s3))
          clear h3 s3
          go_wp2_with fail
          go_ret
          refine ⟨F3, by rw [E.out]; rfl, ?_, Hend.out.2⟩
          rw [tryL, if_neg (by rw [E.out]; omega), ← room_same Hfb.out]
          exact Hend.out.1
        | false =>
          have e0 := E0.out (by omega) (by omega) (by omega) hful
          have E := Lib.hid e0
          have Hfb := Lib.hid (hfb.symm.trans hful)
          have HL := Lib.hid (HT0.out Hfu.out e0)
          have hrl := Lib.hid (room_len hlen Hfu.out hful)
          clear E17 E18 E17' E14 E0 HT0 hful hfb e0
          go_wp2_with fail
          refine Hro.out.mono ?_
          rintro e w3 ⟨F3, rfl, h3, s3⟩
          rw [Hfb.out]
          have hr3 := room_len hlen Hfu.out (show fullB us s cu.window = false by rw [Hcw.out]; rw [fullB, Hfu.out, ← Hcw.out]; exact Hfb.out)
          have hubF : ¬ F ub := fun hf => by have := Hold.ok.lt Hh.out ub hf; omega
          have hu3 : w3.heap[ub]? = _ := s3.fr.obj HU.out hubF
          have hubF3 := (s3.keep (heap_lt HU.out) hubF).2.2
          have q2 := cell_of hu3 2
          have q3 := cell_of hu3 3
          have qf := free_of hu3
          simp at q2 q3
          have HU3 := Lib.hid hu3
          have H3 := Lib.hid h3
          have S3 := Lib.hid s3
          clear hu3 h3 s3 Hro
          go_upto_region 17 with fail
          refine wp_at (fun W4 => Fr (fun k => k = ub) w3 W4 ∧ W4.heap[ub]? = some (.cells #[.string cu.card, .int .i64 cu.window, .int .i64 (cu.times + 1), .int .i64 (cu.sum + a)] 128 (0, 0))) ⟨((Fr.refl (fun k => k = ub) _).setCell (p := ⟨ub, 2, none⟩) (.inl rfl) _).setCell (p := ⟨ub, 3, none⟩) (.inl rfl) _, by simpa using heap_set_eq (i := 3) (u := .int .i64 (cu.sum + a)) (heap_set_eq (i := 2) (u := .int .i64 (cu.times + 1)) HU3.out)⟩ ?_
          clear q0 q1 q2 q3 qf HU3 HU
          rintro W4 ⟨hf4, hu4⟩
          have h4 := Hold.ok.fr H3.out hf4 (fun k hk e => by subst e; exact hubF3 hk)
          have hs4 : Step F F3 w W4 := ((Step.same HF.out).trans S3.out).news hf4 (fun k hk => by subst hk; exact hwub)
          obtain ⟨vo4, cap4, c4, f4, hl4, hd1, hd2, hrow4, _, hob4, _⟩ := h4.opened
          have y0 := cell_of hu4 0
          have y1 := cell_of hu4 1
          have y2 := cell_of hu4 2
          have y3 := cell_of hu4 3
          simp at y0 y1 y2 y3
          have hub4 := heap_lt hu4
          have hne4 : l ≠ ub := fun e => hubF3 (e ▸ h4.own)
          have H4 := Lib.hid (And.intro h4 (And.intro hs4 c4))
          have Hrow := Lib.hid hrow4
          obtain ⟨i0, hi0, hz0, hz1, hz2⟩ := info_parts info_use
          clear h4 hs4 hu4 hf4 hrow4
          go_region_law
            ((refine step_append_lies _ (by rfl) _ _ _ (by rfl) 0 128 i0 _ 4 40 Tryz.underlying122 hi0 hz0 hz1 hz2 rfl (by omega) (.slice vo4 (roomL us cu.window).length cap4) (roomL us cu.window).length (UseR.flat (roomL us cu.window)) (by rfl) ((Hrow.out.alloc _).drew)
                ⟨W4.heap.size, 0, none⟩ 1 1 [.string cu.card, .int .i64 cu.window, .int .i64 (cu.times + 1), .int .i64 (cu.sum + a)] (by rfl) (by rfl) (World.news_of_block (cs := #[.string cu.card, .int .i64 cu.window, .int .i64 (cu.times + 1), .int .i64 (cu.sum + a)]) (t := 128) (fr := (0, 0)) (heap_alloc_new W4 _)) (by simp [Value.oneCell'])
                (by omega) (by unfold maxLen; omega) (by omega) (by simp) (W4.heap.size + 1) (by simp) ?_; intro gg cap5 w5 hown5 hgrow5 hat5 hlt5
              have hob : w5.cell? ⟨l, 0, none⟩ = some (.slice vo4 (roomL us cu.window).length cap4) := (hgrow5.cell_far _ (by simp; omega) (Ne.symm hob4)).trans ((World.cell?_alloc_lt _ _ _ hl4).trans c4)
              have hof : w5.frozen? ⟨l, 0, none⟩ = false := (hgrow5.frozen_far _ (by simp; omega) (Ne.symm hob4)).trans ((World.frozen?_alloc_past _ _ _ hl4).trans f4)))
          all_goals go_wp2
          all_goals go_ret
          all_goals
            obtain ⟨F5, r1, r2⟩ := H4.out.1.app (ys := roomL us cu.window ++ [addU cu a]) H4.out.2.2 ((((Fr.refl noBlock W4).alloc _).drew)) (by simp) hgrow5 (by rw [UseR.flat_append, UseR.flat_one]; rfl) hown5 (by simpa using hat5)
            refine ⟨F5, by rw [E.out]; rfl, ?_, H4.out.2.1.trans r2⟩
            rw [HL.out, Hcu.out, ← Hcw.out]
            exact r1

set_option maxRecDepth 100000 in
set_option maxHeartbeats 1600000 in
theorem try_eq {l : Nat} {us : List Use} {w : World} {F : Nat → Prop} (h : Hold 213 128 UseR l us w F) (hg : GoodU us) (r : Rule) (s : ByteArray) (a n : Int) (hm : mayB r s a n = true) (k : Nat) (hk : k < us.length) (hfu : findU us s = some k) (hw1 : us[k].window = n / r.ticks) :
    Calls Tryz.prog 173 #[.pointer (some ⟨l, 0, none⟩), r.val, .string s, .int .i64 a, .int .i64 n] w (TryPost l us r s a n F w) := by
  have hlen := hg.len
  have Hm := Lib.hid (fun W => may_any r s a n true hm W)
  have Hh := Lib.hid h
  have Hmay := Lib.hid hm
  have Hfind := Lib.hid (fun (W : World) (hf : Fr noBlock w W) => find_any (Hold.ok.fr0 h hf) hlen s _ rfl)
  have hf0 := (Fr.refl noBlock w).alloc (.cells #[.int .i64 r.ticks, .int .i64 r.times, .int .i64 r.sum, .int .i64 r.once] 47)
  obtain ⟨hr, hcd, ha0, ha1, hn0, hn1⟩ := may_iff.1 hm
  obtain ⟨t1, t2, t3, t4, t5, t6, t7, t8⟩ := right_iff.1 hr
  obtain ⟨cc, cw⟩ := cur_card us s (n / r.ticks)
  obtain ⟨ct0, ct1, cs0, cs1⟩ := cur_ok hg s (n / r.ticks)
  have hdiv : 0 ≤ n / r.ticks := Int.ediv_nonneg hn0 (by omega)
  have E17 := Lib.hid (fun h1 => try_once (us := us) hm h1)
  have E18 := Lib.hid (fun h1 h2 => try_count (us := us) hm h1 h2)
  have E17' := Lib.hid (fun h1 h2 h3 => try_sum (us := us) hm h1 h2 h3)
  have E14 := Lib.hid (fun h1 h2 h3 h4 => try_full (us := us) hm h1 h2 h3 h4)
  have E0 := Lib.hid (fun h1 h2 h3 h4 => try_ok (us := us) hm h1 h2 h3 h4)
  have Hcur := Lib.hid (fun (k : Nat) (hk : findU us s = some k) => cur_some hk (n / r.ticks))
  have Hcur0 := Lib.hid (fun (hk : findU us s = none) => cur_none hk (n / r.ticks))
  generalize hcu : curU us s (n / r.ticks) = cu at *
  have Hcu := Lib.hid hcu
  have Hcc := Lib.hid cc
  have Hcw := Lib.hid cw
  obtain ⟨vo, cap, c0, f0, hl, hc1, hc2, hrow, hgf, _⟩ := h.opened
  have C0 := Lib.hid c0
  have F0 := Lib.hid f0
  have Hrow := Lib.hid hrow
  have HT := Lib.hid (show tryL us r s a n = tryL us r s a n from rfl)
  obtain ⟨ticks, times, sum, once⟩ := r
  unfold Rule.val at *
  simp only at *
  clear hm hr hcd hcu cc cw h hg c0 f0 hrow
  have HT0 := Lib.hid (fun (hk : findU us s = none) (h0 : tryE us ⟨ticks, times, sum, once⟩ s a n = 0) => show tryL us ⟨ticks, times, sum, once⟩ s a n = roomL us (n / ticks) ++ [addU (curU us s (n / ticks)) a] by unfold tryL; rw [if_pos h0, hk])
  have HT1 := Lib.hid (fun (k : Nat) (hk : findU us s = some k) (h0 : tryE us ⟨ticks, times, sum, once⟩ s a n = 0) => show tryL us ⟨ticks, times, sum, once⟩ s a n = us.set k (addU (curU us s (n / ticks)) a) by unfold tryL; rw [if_pos h0, hk])
  obtain ⟨_, hcn⟩ := Hcur.out k hfu
  have Hfu := Lib.hid hfu
  rw [hfu] at Hfind
  simp only [idxI] at Hfind
  have hk0 : (0 : Int) ≤ (k : Int) := by omega
  have hk1 : (k : Int) < (us.length : Int) := by omega
  have hcw2 := Hcw.out
  obtain ⟨g, rfl, hgl, _, _, u0, u1, u2, u3, uf⟩ := use_own Hrow.out hk
  have hful : fullB us s (n / ticks) = false := by rw [fullB, Hfu.out]; rfl
  have Hful := Lib.hid hful
  have Hgf := Lib.hid (hgf g rfl)
  rw [if_pos hw1] at hcn
  have Hu0 := Lib.hid u0
  have Hu1 := Lib.hid u1
  have Hu2 := Lib.hid u2
  have Hu3 := Lib.hid u3
  have Huf := Lib.hid uf
  have Hcn := Lib.hid hcn
  have Hw1 := Lib.hid hw1
  clear hcn hfu hful HT0 HT Hcur Hcur0 Hrow hcw2 u0 u1 u2 u3 uf hgf
  generalize us[k] = uk at *
  go_enter Tryz.func173, Tryz.ntmps173
  go_wp2_with fail
  refine (Hm.out _).mono ?_
  rintro e w1 ⟨rfl, f1⟩
  have f01 := hf0.trans' f1
  have hb1 : w1.heap[w.heap.size]? = some (.cells #[.int .i64 ticks, .int .i64 times, .int .i64 sum, .int .i64 once] 47 (0, 0)) := f1.obj (heap_new w _) (fun x => x)
  have Hf01 := Lib.hid f01
  have Hb1 := Lib.hid hb1
  clear f1 f01 hb1
  go_wp2_with fail
  refine (Hfind.out _ Hf01.out).mono ?_
  rintro e w2 ⟨rfl, f2⟩
  have hb2 : w2.heap[w.heap.size]? = _ := f2.obj Hb1.out (fun x => x)
  have y0 := cell_of hb2 0
  simp at y0
  have hf02 := Hf01.out.trans' f2
  have c0 := (hf02.cell (p := ⟨l, 0, none⟩) hl (fun x => x)).trans C0.out
  have u0 := (hf02.cell (p := ⟨g, k * 4, none⟩) hgl (fun x => x)).trans Hu0.out
  have u1 := (hf02.cell (p := ⟨g, k * 4 + 1, none⟩) hgl (fun x => x)).trans Hu1.out
  have u2 := (hf02.cell (p := ⟨g, k * 4 + 2, none⟩) hgl (fun x => x)).trans Hu2.out
  have u3 := (hf02.cell (p := ⟨g, k * 4 + 3, none⟩) hgl (fun x => x)).trans Hu3.out
  have hl2 := Nat.lt_of_lt_of_le hl hf02.size
  have hgl2 := Nat.lt_of_lt_of_le hgl hf02.size
  have Hf02 := Lib.hid hf02
  have Hb2 := Lib.hid hb2
  have hrs := heap_lt hb2
  clear hb2 f2 hf02
  have hq := show (uk.window == n / ticks) = true from beq_iff_eq.2 hw1
  clear hw1
  go_wp2_with fail
  go_quiet (fail)
  go_upto_region 7 with fail
  obtain ⟨ub, hub⟩ : ∃ ub, w2.heap.size = ub := ⟨_, rfl⟩
  refine wp_at (fun W => Fr noBlock w W ∧ W.heap[ub]? = some (.cells #[.string cu.card, .int .i64 cu.window, .int .i64 cu.times, .int .i64 cu.sum] 128 (0, 0)) ∧ W.heap[w.heap.size]? = some (.cells #[.int .i64 ticks, .int .i64 times, .int .i64 sum, .int .i64 once] 47 (0, 0))) (by
    rw [← hub, Hcn.out]
    exact fresh4 Hf02.out Hb2.out _ _ _ _ _ _ _ _ _ _) ?_
  have hwub : w.heap.size ≤ ub := by have := Hf02.out.size; omega
  have hwub' : ub ≠ w.heap.size := by omega
  have hgub : g < ub := by omega
  have hlub : l < ub := by omega
  rw [hub]
  clear hub y0 Hf01 Hf02 Hb1 Hb2 hrs Hm Hfind c0 u0 u1 u2 u3 hl2 hgl2 hq
  rintro W ⟨hF, hu, hrl⟩
  have q0 := cell_of hu 0
  have q1 := cell_of hu 1
  have q2 := cell_of hu 2
  have q3 := cell_of hu 3
  have qf := free_of hu
  have y1 := cell_of hrl 1
  have y2 := cell_of hrl 2
  have y3 := cell_of hrl 3
  simp at q0 q1 q2 q3 y1 y2 y3
  have HF := Lib.hid hF
  have HU := Lib.hid hu
  clear hF hu hrl
  by_cases h17 : once < a
  · have E := Lib.hid (E17.out h17)
    clear E17 E18 E17' E14 E0 HT1
    go_wp2_with fail
    go_ret
    exact try_no Hh.out rfl E.out (by omega) HF.out
  · by_cases h18 : times ≤ cu.times
    · have E := Lib.hid (E18.out (by omega) (by omega))
      clear E17 E18 E17' E14 E0 HT1
      go_wp2_with fail
      go_ret
      exact try_no Hh.out rfl E.out (by omega) HF.out
    · by_cases h17' : sum - a < cu.sum
      · have E := Lib.hid (E17'.out (by omega) (by omega) (by omega))
        clear E17 E18 E17' E14 E0 HT1
        go_wp2_with fail
        go_ret
        exact try_no Hh.out rfl E.out (by omega) HF.out
      · have e0 := E0.out (by omega) (by omega) (by omega) Hful.out
        have E := Lib.hid e0
        have HL := Lib.hid (HT1.out k Hfu.out e0)
        have c0 := (HF.out.cell (p := ⟨l, 0, none⟩) hl (fun x => x)).trans C0.out
        have hgW := Nat.lt_of_lt_of_le hgl HF.out.size
        clear E17 E18 E17' E14 E0 HT1 e0
        go_upto_region 18 with fail
        refine wp_at (fun W4 => Fr (fun k => k = ub) W W4 ∧ W4.heap[ub]? = some (.cells #[.string cu.card, .int .i64 cu.window, .int .i64 (cu.times + 1), .int .i64 (cu.sum + a)] 128 (0, 0))) ⟨((Fr.refl (fun k => k = ub) _).setCell (p := ⟨ub, 2, none⟩) (.inl rfl) _).setCell (p := ⟨ub, 3, none⟩) (.inl rfl) _, by simpa using heap_set_eq (i := 3) (u := .int .i64 (cu.sum + a)) (heap_set_eq (i := 2) (u := .int .i64 (cu.times + 1)) HU.out)⟩ ?_
        clear q0 q1 q2 q3 qf HU c0 y1 y2 y3
        rintro W4 ⟨hf4, hu4⟩
        have h4 := Hold.ok.fr (Hold.ok.fr0 Hh.out HF.out) hf4 (fun b hk e => by subst e; have := Hold.ok.lt Hh.out b hk; omega)
        have hs4 : Step F F w W4 := (Step.same HF.out).news hf4 (fun k hk => by subst hk; exact hwub)
        have c4 := (hf4.cell (p := ⟨l, 0, none⟩) (Nat.lt_of_lt_of_le hl HF.out.size) (fun e : l = ub => by omega)).trans ((HF.out.cell (p := ⟨l, 0, none⟩) hl (fun x => x)).trans C0.out)
        have v0 := (hf4.cell (p := ⟨g, k * 4, none⟩) hgW (fun e : g = ub => by omega)).trans ((HF.out.cell (p := ⟨g, k * 4, none⟩) hgl (fun x => x)).trans Hu0.out)
        have v1 := (hf4.cell (p := ⟨g, k * 4 + 1, none⟩) hgW (fun e : g = ub => by omega)).trans ((HF.out.cell (p := ⟨g, k * 4 + 1, none⟩) hgl (fun x => x)).trans Hu1.out)
        have v2 := (hf4.cell (p := ⟨g, k * 4 + 2, none⟩) hgW (fun e : g = ub => by omega)).trans ((HF.out.cell (p := ⟨g, k * 4 + 2, none⟩) hgl (fun x => x)).trans Hu2.out)
        have v3 := (hf4.cell (p := ⟨g, k * 4 + 3, none⟩) hgW (fun e : g = ub => by omega)).trans ((HF.out.cell (p := ⟨g, k * 4 + 3, none⟩) hgl (fun x => x)).trans Hu3.out)
        have vf := fun o => (hf4.frozen (p := ⟨g, o, none⟩) hgW (fun e : g = ub => by omega)).trans ((HF.out.frozen (p := ⟨g, o, none⟩) hgl (fun x => x)).trans (Huf.out o))
        have y0 := cell_of hu4 0
        have y1 := cell_of hu4 1
        have y2 := cell_of hu4 2
        have y3 := cell_of hu4 3
        simp at y0 y1 y2 y3
        have H4 := Lib.hid (And.intro h4 (And.intro hs4 c4))
        have vf0 := vf (k * 4)
        have vf1 := vf (k * 4 + 1)
        have vf2 := vf (k * 4 + 2)
        have vf3 := vf (k * 4 + 3)
        have hgl4 := heap_lt hu4
        clear h4 hs4 hu4 hf4 vf
        go_region
        all_goals go_wp2
        all_goals go_ret
        all_goals
          obtain ⟨r1, r2⟩ := hold_put4 H4.out.1 H4.out.2.2 hk (addU cu a)
          refine ⟨F, by rw [E.out]; rfl, ?_, H4.out.2.1.trans ⟨r2.drew, fun _ h => .inl h⟩⟩
          rw [HL.out, Hcu.out]
          exact Hold.ok.fr0 r1 ((Fr.refl _ _).drew)

set_option maxRecDepth 100000 in
set_option maxHeartbeats 1600000 in
theorem try_ne {l : Nat} {us : List Use} {w : World} {F : Nat → Prop} (h : Hold 213 128 UseR l us w F) (hg : GoodU us) (r : Rule) (s : ByteArray) (a n : Int) (hm : mayB r s a n = true) (k : Nat) (hk : k < us.length) (hfu : findU us s = some k) (hw1 : us[k].window ≠ n / r.ticks) :
    Calls Tryz.prog 173 #[.pointer (some ⟨l, 0, none⟩), r.val, .string s, .int .i64 a, .int .i64 n] w (TryPost l us r s a n F w) := by
  have hlen := hg.len
  have Hm := Lib.hid (fun W => may_any r s a n true hm W)
  have Hh := Lib.hid h
  have Hmay := Lib.hid hm
  have Hfind := Lib.hid (fun (W : World) (hf : Fr noBlock w W) => find_any (Hold.ok.fr0 h hf) hlen s _ rfl)
  have hf0 := (Fr.refl noBlock w).alloc (.cells #[.int .i64 r.ticks, .int .i64 r.times, .int .i64 r.sum, .int .i64 r.once] 47)
  obtain ⟨hr, hcd, ha0, ha1, hn0, hn1⟩ := may_iff.1 hm
  obtain ⟨t1, t2, t3, t4, t5, t6, t7, t8⟩ := right_iff.1 hr
  obtain ⟨cc, cw⟩ := cur_card us s (n / r.ticks)
  obtain ⟨ct0, ct1, cs0, cs1⟩ := cur_ok hg s (n / r.ticks)
  have hdiv : 0 ≤ n / r.ticks := Int.ediv_nonneg hn0 (by omega)
  have E17 := Lib.hid (fun h1 => try_once (us := us) hm h1)
  have E18 := Lib.hid (fun h1 h2 => try_count (us := us) hm h1 h2)
  have E17' := Lib.hid (fun h1 h2 h3 => try_sum (us := us) hm h1 h2 h3)
  have E14 := Lib.hid (fun h1 h2 h3 h4 => try_full (us := us) hm h1 h2 h3 h4)
  have E0 := Lib.hid (fun h1 h2 h3 h4 => try_ok (us := us) hm h1 h2 h3 h4)
  have Hcur := Lib.hid (fun (k : Nat) (hk : findU us s = some k) => cur_some hk (n / r.ticks))
  have Hcur0 := Lib.hid (fun (hk : findU us s = none) => cur_none hk (n / r.ticks))
  generalize hcu : curU us s (n / r.ticks) = cu at *
  have Hcu := Lib.hid hcu
  have Hcc := Lib.hid cc
  have Hcw := Lib.hid cw
  obtain ⟨vo, cap, c0, f0, hl, hc1, hc2, hrow, hgf, _⟩ := h.opened
  have C0 := Lib.hid c0
  have F0 := Lib.hid f0
  have Hrow := Lib.hid hrow
  have HT := Lib.hid (show tryL us r s a n = tryL us r s a n from rfl)
  obtain ⟨ticks, times, sum, once⟩ := r
  unfold Rule.val at *
  simp only at *
  clear hm hr hcd hcu cc cw h hg c0 f0 hrow
  have HT0 := Lib.hid (fun (hk : findU us s = none) (h0 : tryE us ⟨ticks, times, sum, once⟩ s a n = 0) => show tryL us ⟨ticks, times, sum, once⟩ s a n = roomL us (n / ticks) ++ [addU (curU us s (n / ticks)) a] by unfold tryL; rw [if_pos h0, hk])
  have HT1 := Lib.hid (fun (k : Nat) (hk : findU us s = some k) (h0 : tryE us ⟨ticks, times, sum, once⟩ s a n = 0) => show tryL us ⟨ticks, times, sum, once⟩ s a n = us.set k (addU (curU us s (n / ticks)) a) by unfold tryL; rw [if_pos h0, hk])
  obtain ⟨_, hcn⟩ := Hcur.out k hfu
  have Hfu := Lib.hid hfu
  rw [hfu] at Hfind
  simp only [idxI] at Hfind
  have hk0 : (0 : Int) ≤ (k : Int) := by omega
  have hk1 : (k : Int) < (us.length : Int) := by omega
  have hcw2 := Hcw.out
  obtain ⟨g, rfl, hgl, _, _, u0, u1, u2, u3, uf⟩ := use_own Hrow.out hk
  have hful : fullB us s (n / ticks) = false := by rw [fullB, Hfu.out]; rfl
  have Hful := Lib.hid hful
  have Hgf := Lib.hid (hgf g rfl)
  rw [if_neg hw1] at hcn
  have Hu0 := Lib.hid u0
  have Hu1 := Lib.hid u1
  have Hu2 := Lib.hid u2
  have Hu3 := Lib.hid u3
  have Huf := Lib.hid uf
  have Hcn := Lib.hid hcn
  have Hw1 := Lib.hid hw1
  clear hcn hfu hful HT0 HT Hcur Hcur0 Hrow hcw2 u0 u1 u2 u3 uf hgf
  generalize us[k] = uk at *
  go_enter Tryz.func173, Tryz.ntmps173
  go_wp2_with fail
  refine (Hm.out _).mono ?_
  rintro e w1 ⟨rfl, f1⟩
  have f01 := hf0.trans' f1
  have hb1 : w1.heap[w.heap.size]? = some (.cells #[.int .i64 ticks, .int .i64 times, .int .i64 sum, .int .i64 once] 47 (0, 0)) := f1.obj (heap_new w _) (fun x => x)
  have Hf01 := Lib.hid f01
  have Hb1 := Lib.hid hb1
  clear f1 f01 hb1
  go_wp2_with fail
  refine (Hfind.out _ Hf01.out).mono ?_
  rintro e w2 ⟨rfl, f2⟩
  have hb2 : w2.heap[w.heap.size]? = _ := f2.obj Hb1.out (fun x => x)
  have y0 := cell_of hb2 0
  simp at y0
  have hf02 := Hf01.out.trans' f2
  have c0 := (hf02.cell (p := ⟨l, 0, none⟩) hl (fun x => x)).trans C0.out
  have u0 := (hf02.cell (p := ⟨g, k * 4, none⟩) hgl (fun x => x)).trans Hu0.out
  have u1 := (hf02.cell (p := ⟨g, k * 4 + 1, none⟩) hgl (fun x => x)).trans Hu1.out
  have u2 := (hf02.cell (p := ⟨g, k * 4 + 2, none⟩) hgl (fun x => x)).trans Hu2.out
  have u3 := (hf02.cell (p := ⟨g, k * 4 + 3, none⟩) hgl (fun x => x)).trans Hu3.out
  have hl2 := Nat.lt_of_lt_of_le hl hf02.size
  have hgl2 := Nat.lt_of_lt_of_le hgl hf02.size
  have Hf02 := Lib.hid hf02
  have Hb2 := Lib.hid hb2
  have hrs := heap_lt hb2
  clear hb2 f2 hf02
  have hq := show (uk.window == n / ticks) = false from beq_eq_false_iff_ne.2 hw1
  clear hw1
  go_wp2_with fail
  go_quiet (fail)
  go_upto_region 7 with fail
  obtain ⟨ub, hub⟩ : ∃ ub, w2.heap.size = ub := ⟨_, rfl⟩
  refine wp_at (fun W => Fr noBlock w W ∧ W.heap[ub]? = some (.cells #[.string cu.card, .int .i64 cu.window, .int .i64 cu.times, .int .i64 cu.sum] 128 (0, 0)) ∧ W.heap[w.heap.size]? = some (.cells #[.int .i64 ticks, .int .i64 times, .int .i64 sum, .int .i64 once] 47 (0, 0))) ⟨(Hf02.out.alloc _).drewN _, by rw [← hub, Hcn.out]; exact heap_new w2 _, heap_old _ Hb2.out⟩ ?_
  have hwub : w.heap.size ≤ ub := by have := Hf02.out.size; omega
  have hwub' : ub ≠ w.heap.size := by omega
  have hgub : g < ub := by omega
  have hlub : l < ub := by omega
  rw [hub]
  clear hub y0 Hf01 Hf02 Hb1 Hb2 hrs Hm Hfind c0 u0 u1 u2 u3 hl2 hgl2 hq
  rintro W ⟨hF, hu, hrl⟩
  have q0 := cell_of hu 0
  have q1 := cell_of hu 1
  have q2 := cell_of hu 2
  have q3 := cell_of hu 3
  have qf := free_of hu
  have y1 := cell_of hrl 1
  have y2 := cell_of hrl 2
  have y3 := cell_of hrl 3
  simp at q0 q1 q2 q3 y1 y2 y3
  have HF := Lib.hid hF
  have HU := Lib.hid hu
  clear hF hu hrl
  by_cases h17 : once < a
  · have E := Lib.hid (E17.out h17)
    clear E17 E18 E17' E14 E0 HT1
    go_wp2_with fail
    go_ret
    exact try_no Hh.out rfl E.out (by omega) HF.out
  · by_cases h18 : times ≤ cu.times
    · have E := Lib.hid (E18.out (by omega) (by omega))
      clear E17 E18 E17' E14 E0 HT1
      go_wp2_with fail
      go_ret
      exact try_no Hh.out rfl E.out (by omega) HF.out
    · by_cases h17' : sum - a < cu.sum
      · have E := Lib.hid (E17'.out (by omega) (by omega) (by omega))
        clear E17 E18 E17' E14 E0 HT1
        go_wp2_with fail
        go_ret
        exact try_no Hh.out rfl E.out (by omega) HF.out
      · have e0 := E0.out (by omega) (by omega) (by omega) Hful.out
        have E := Lib.hid e0
        have HL := Lib.hid (HT1.out k Hfu.out e0)
        have c0 := (HF.out.cell (p := ⟨l, 0, none⟩) hl (fun x => x)).trans C0.out
        have hgW := Nat.lt_of_lt_of_le hgl HF.out.size
        clear E17 E18 E17' E14 E0 HT1 e0
        go_upto_region 18 with fail
        refine wp_at (fun W4 => Fr (fun k => k = ub) W W4 ∧ W4.heap[ub]? = some (.cells #[.string cu.card, .int .i64 cu.window, .int .i64 (cu.times + 1), .int .i64 (cu.sum + a)] 128 (0, 0))) ⟨((Fr.refl (fun k => k = ub) _).setCell (p := ⟨ub, 2, none⟩) (.inl rfl) _).setCell (p := ⟨ub, 3, none⟩) (.inl rfl) _, by simpa using heap_set_eq (i := 3) (u := .int .i64 (cu.sum + a)) (heap_set_eq (i := 2) (u := .int .i64 (cu.times + 1)) HU.out)⟩ ?_
        clear q0 q1 q2 q3 qf HU c0 y1 y2 y3
        rintro W4 ⟨hf4, hu4⟩
        have h4 := Hold.ok.fr (Hold.ok.fr0 Hh.out HF.out) hf4 (fun b hk e => by subst e; have := Hold.ok.lt Hh.out b hk; omega)
        have hs4 : Step F F w W4 := (Step.same HF.out).news hf4 (fun k hk => by subst hk; exact hwub)
        have c4 := (hf4.cell (p := ⟨l, 0, none⟩) (Nat.lt_of_lt_of_le hl HF.out.size) (fun e : l = ub => by omega)).trans ((HF.out.cell (p := ⟨l, 0, none⟩) hl (fun x => x)).trans C0.out)
        have v0 := (hf4.cell (p := ⟨g, k * 4, none⟩) hgW (fun e : g = ub => by omega)).trans ((HF.out.cell (p := ⟨g, k * 4, none⟩) hgl (fun x => x)).trans Hu0.out)
        have v1 := (hf4.cell (p := ⟨g, k * 4 + 1, none⟩) hgW (fun e : g = ub => by omega)).trans ((HF.out.cell (p := ⟨g, k * 4 + 1, none⟩) hgl (fun x => x)).trans Hu1.out)
        have v2 := (hf4.cell (p := ⟨g, k * 4 + 2, none⟩) hgW (fun e : g = ub => by omega)).trans ((HF.out.cell (p := ⟨g, k * 4 + 2, none⟩) hgl (fun x => x)).trans Hu2.out)
        have v3 := (hf4.cell (p := ⟨g, k * 4 + 3, none⟩) hgW (fun e : g = ub => by omega)).trans ((HF.out.cell (p := ⟨g, k * 4 + 3, none⟩) hgl (fun x => x)).trans Hu3.out)
        have vf := fun o => (hf4.frozen (p := ⟨g, o, none⟩) hgW (fun e : g = ub => by omega)).trans ((HF.out.frozen (p := ⟨g, o, none⟩) hgl (fun x => x)).trans (Huf.out o))
        have y0 := cell_of hu4 0
        have y1 := cell_of hu4 1
        have y2 := cell_of hu4 2
        have y3 := cell_of hu4 3
        simp at y0 y1 y2 y3
        have H4 := Lib.hid (And.intro h4 (And.intro hs4 c4))
        have vf0 := vf (k * 4)
        have vf1 := vf (k * 4 + 1)
        have vf2 := vf (k * 4 + 2)
        have vf3 := vf (k * 4 + 3)
        have hgl4 := heap_lt hu4
        clear h4 hs4 hu4 hf4 vf
        go_region
        all_goals go_wp2
        all_goals go_ret
        all_goals
          obtain ⟨r1, r2⟩ := hold_put4 H4.out.1 H4.out.2.2 hk (addU cu a)
          refine ⟨F, by rw [E.out]; rfl, ?_, H4.out.2.1.trans ⟨r2.drew, fun _ h => .inl h⟩⟩
          rw [HL.out, Hcu.out]
          exact Hold.ok.fr0 r1 ((Fr.refl _ _).drew)

theorem try_any {l : Nat} {us : List Use} {w : World} {F : Nat → Prop} (h : BookAt l us w F) (r : Rule) (s : ByteArray) (a n : Int) {x : Int} (hx : tryE us r s a n = x) {vs : List Use} (hv : tryL us r s a n = vs) :
    Calls Tryz.prog 173 #[.pointer (some ⟨l, 0, none⟩), r.val, .string s, .int .i64 a, .int .i64 n] w fun e w' => ∃ F', e = .returned (.int .i64 x) ∧ BookAt l vs w' F' ∧ Step F F' w w' := by
  subst hx hv
  have key : Calls Tryz.prog 173 #[.pointer (some ⟨l, 0, none⟩), r.val, .string s, .int .i64 a, .int .i64 n] w (TryPost l us r s a n F w) := by
    cases hm : mayB r s a n with
    | false => exact try_bad h.1 r s a n hm
    | true =>
      cases hf : findU us s with
      | none => exact try_none h.1 h.2 r s a n hm hf
      | some k =>
        obtain ⟨hk, _⟩ := find_of_findU hf
        by_cases hw : us[k].window = n / r.ticks
        · exact try_eq h.1 h.2 r s a n hm k hk hf hw
        · exact try_ne h.1 h.2 r s a n hm k hk hf hw
  exact key.mono fun e w' ⟨F', h1, h2, h3⟩ => ⟨F', h1, ⟨h2, good_try h.2 r s a n⟩, h3⟩
end Go.Proofs.YtajhgejhdalobaaGreatDoor.Lm
