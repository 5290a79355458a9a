/-
  THE WALK of the document's Try.
-/
import Derived.Test.YtkcepppldhaiaaaLmRef
import Derived.Test.YtkcepppldhaiaaaLmTry2
import Derived.Maps.AppendAt
namespace Go.Proofs.Ytkcepppldhaiaaa
open Go.RowKit

def RTryPost (l : Nat) (us : List Use) (r : Rule) (s : ByteArray) (a n : Int) (F : Nat → Prop) (w : World) (e : Ending) (w' : World) : Prop :=
  ∃ F', e = .returned (.int .i64 (tryE us r s a n)) ∧ Hold 49 40 UseR l (tryL us r s a n) w' F' ∧ Step F F' w w'
theorem rtry_no {l : Nat} {us : List Use} {r : Rule} {s : ByteArray} {a n : Int} {F : Nat → Prop} {w w' : World} {e : Ending} (h : Hold 49 40 UseR l us w F) {x : Int} (he : e = .returned (.int .i64 x)) (hx : tryE us r s a n = x) (h0 : x ≠ 0) (hf : Fr noBlock w w') : RTryPost l us r s a n F w e w' :=
  ⟨F, by rw [hx]; exact he, by rw [tryL, if_neg (by rw [hx]; exact h0)]; exact Hold.ok.fr0 h hf, Step.same hf⟩

set_option maxRecDepth 100000 in
set_option maxHeartbeats 800000 in
theorem rtry_bad {l : Nat} {us : List Use} {w : World} {F : Nat → Prop} (h : Hold 49 40 UseR l us w F) (r : Rule) (s : ByteArray) (a n : Int) (hm : mayB r s a n = false) :
    Calls Try.prog 19 #[.pointer (some ⟨l, 0, none⟩), r.val, .string s, .int .i64 a, .int .i64 n] w (RTryPost l us r s a n F w) := by
  have Hm := Lib.hid (fun W => rmay_any r s a n false hm W)
  have Hh := Lib.hid h
  have Ha := Lib.hid (try_arg (us := us) hm)
  have hf0 := (Fr.refl noBlock w).alloc (.cells #[.int .i64 r.ticks, .int .i64 r.times, .int .i64 r.sum, .int .i64 r.once] 23)
  clear h hm
  obtain ⟨ticks, times, sum, once⟩ := r
  unfold Rule.val at *
  simp only at *
  go_enter Try.func19, Try.ntmps19
  go_wp2_with fail
  refine (Hm.out _).mono ?_
  rintro e w1 ⟨rfl, f1⟩
  go_wp2_with fail
  go_ret
  exact rtry_no Hh.out rfl Ha.out (by omega) (hf0.trans' f1)

theorem room_short {us : List Use} {win : Int} (h : us.length < 16) : roomL us win = us := by unfold roomL; rw [if_pos h]
theorem room_long {us : List Use} {win : Int} (h : ¬ us.length < 16) {k : Nat} (hk : findW us win = some k) : roomL us win = us.eraseIdx k := by unfold roomL; rw [if_neg h, hk]
theorem full_short {us : List Use} {s : ByteArray} {win : Int} (h : us.length < 16) : fullB us s win = false := by simp [fullB]; omega
theorem full_hit {us : List Use} {s : ByteArray} {win : Int} {k : Nat} (hk : findW us win = some k) : fullB us s win = false := by simp [fullB, hk]
theorem full_long {us : List Use} {s : ByteArray} {win : Int} (h : ¬ us.length < 16) (hf : findU us s = none) (hk : findW us win = none) : fullB us s win = true := by simp [fullB, hf, hk]; omega
theorem win_hit {us : List Use} {win : Int} {k : Nat} (hk : k < us.length) (he : us[k].window ≠ win) (hn : ∀ u ∈ us.take k, u.window = win) : findW us win = some k := by
  unfold findW
  rw [List.findIdx?_eq_some_iff_getElem]
  refine ⟨hk, by simpa using he, fun j hj => ?_⟩
  have := hn (us[j]'(by omega)) (by rw [List.mem_take_iff_getElem]; exact ⟨j, by omega, rfl⟩)
  simpa using this

set_option maxRecDepth 100000 in
set_option maxHeartbeats 1600000 in
theorem rtry_none {l : Nat} {us : List Use} {w : World} {F : Nat → Prop} (h : Hold 49 40 UseR l us w F) (hg : GoodU us) (r : Rule) (s : ByteArray) (a n : Int) (hm : mayB r s a n = true) (hfu : findU us s = none) :
    Calls Try.prog 19 #[.pointer (some ⟨l, 0, none⟩), r.val, .string s, .int .i64 a, .int .i64 n] w (RTryPost l us r s a n F w) := by
  have hlen := hg.len
  have Hm := Lib.hid (fun W => rmay_any r s a n true hm W)
  have Hh := Lib.hid h
  have Hmay := Lib.hid hm
  have Hfind := Lib.hid (fun (W : World) (hf : Fr noBlock w W) => rat_any (Hold.ok.fr0 h hf) hlen s _ rfl)
  have hf0 := (Fr.refl noBlock w).alloc (.cells #[.int .i64 r.ticks, .int .i64 r.times, .int .i64 r.sum, .int .i64 r.once] 23)
  obtain ⟨hr, hcd, ha0, ha1, hn0, hn1⟩ := may_iff.1 hm
  obtain ⟨t1, t2, t3, t4, t5, t6, t7, t8⟩ := right_iff.1 hr
  obtain ⟨cc, cw⟩ := cur_card us s (n / r.ticks)
  obtain ⟨ct0, ct1, cs0, cs1⟩ := cur_ok hg s (n / r.ticks)
  have hdiv : 0 ≤ n / r.ticks := Int.ediv_nonneg hn0 (by omega)
  have E17 := Lib.hid (fun h1 => try_once (us := us) hm h1)
  have E18 := Lib.hid (fun h1 h2 => try_count (us := us) hm h1 h2)
  have E17' := Lib.hid (fun h1 h2 h3 => try_sum (us := us) hm h1 h2 h3)
  have E14 := Lib.hid (fun h1 h2 h3 h4 => try_full (us := us) hm h1 h2 h3 h4)
  have E0 := Lib.hid (fun h1 h2 h3 h4 => try_ok (us := us) hm h1 h2 h3 h4)
  have Hcur := Lib.hid (fun (k : Nat) (hk : findU us s = some k) => cur_some hk (n / r.ticks))
  have Hcur0 := Lib.hid (fun (hk : findU us s = none) => cur_none hk (n / r.ticks))
  generalize hcu : curU us s (n / r.ticks) = cu at *
  have Hcu := Lib.hid hcu
  have Hcc := Lib.hid cc
  have Hcw := Lib.hid cw
  obtain ⟨vo, cap, c0, f0, hl, hc1, hc2, hrow, hgf, _⟩ := h.opened
  have C0 := Lib.hid c0
  have F0 := Lib.hid f0
  have Hrow := Lib.hid hrow
  have HT := Lib.hid (show tryL us r s a n = tryL us r s a n from rfl)
  obtain ⟨ticks, times, sum, once⟩ := r
  unfold Rule.val at *
  simp only at *
  clear hm hr hcd hcu cc cw h hg c0 f0 hrow
  have HT0 := Lib.hid (fun (hk : findU us s = none) (h0 : tryE us ⟨ticks, times, sum, once⟩ s a n = 0) => show tryL us ⟨ticks, times, sum, once⟩ s a n = roomL us (n / ticks) ++ [addU (curU us s (n / ticks)) a] by unfold tryL; rw [if_pos h0, hk])
  have HT1 := Lib.hid (fun (k : Nat) (hk : findU us s = some k) (h0 : tryE us ⟨ticks, times, sum, once⟩ s a n = 0) => show tryL us ⟨ticks, times, sum, once⟩ s a n = us.set k (addU (curU us s (n / ticks)) a) by unfold tryL; rw [if_pos h0, hk])
  have hcn := Hcur0.out hfu
  have Hcn := Lib.hid hcn
  have Hfu := Lib.hid hfu
  rw [hfu] at Hfind
  simp only [idxI] at Hfind
  clear hcn hfu HT1 HT Hcur Hcur0 Hrow C0 F0
  go_enter Try.func19, Try.ntmps19
  go_wp2_with fail
  refine (Hm.out _).mono ?_
  rintro e w1 ⟨rfl, f1⟩
  have f01 := hf0.trans' f1
  have hb1 : w1.heap[w.heap.size]? = some (.cells #[.int .i64 ticks, .int .i64 times, .int .i64 sum, .int .i64 once] 23 (0, 0)) := f1.obj (heap_new w _) (fun x => x)
  have Hf01 := Lib.hid f01
  have Hb1 := Lib.hid hb1
  clear f1 f01 hf0 hb1
  have hb2 := Hb1.out
  have y0 := cell_of hb2 0
  simp at y0
  have Hf02 := Lib.hid (Hf01.out)
  have Hb2 := Lib.hid hb2
  have hrs := heap_lt hb2
  clear hb2
  go_wp2_with fail
  refine (Hfind.out _ (Hf02.out.alloc _)).mono ?_
  rintro e w' ⟨rfl, rfl⟩
  go_wp2_with fail
  go_quiet (fail)
  go_upto_region 8 with fail
  obtain ⟨ub, hub⟩ : ∃ ub, w1.heap.size = ub := ⟨_, rfl⟩
  refine wp_at (fun W => Fr noBlock w W ∧ W.heap[ub]? = some (.cells #[.string cu.card, .int .i64 cu.window, .int .i64 cu.times, .int .i64 cu.sum] 40 (0, 0)) ∧ W.heap[w.heap.size]? = some (.cells #[.int .i64 ticks, .int .i64 times, .int .i64 sum, .int .i64 once] 23 (0, 0))) ⟨(Hf02.out.alloc _).drewN _, by rw [← hub, Hcn.out]; exact heap_new w1 _, heap_old _ Hb2.out⟩ ?_
  have hwub : w.heap.size ≤ ub := by have := Hf02.out.size; omega
  have hwub' : ub ≠ w.heap.size := by omega
  have Hub := Lib.hid hub
  rw [hub]
  clear hub y0 Hf01 Hf02 Hb1 Hb2 hrs Hm Hfind
  rintro W ⟨hF, hu, hrl⟩
  have q0 := cell_of hu 0
  have q1 := cell_of hu 1
  have q2 := cell_of hu 2
  have q3 := cell_of hu 3
  have qf := free_of hu
  have y1 := cell_of hrl 1
  have y2 := cell_of hrl 2
  have y3 := cell_of hrl 3
  simp at q0 q1 q2 q3 y1 y2 y3
  have HF := Lib.hid hF
  have HU := Lib.hid hu
  clear hF hu hrl
  by_cases h17 : once < a
  · have E := Lib.hid (E17.out h17)
    clear E17 E18 E17' E14 E0 HT0
    go_wp2_with fail
    go_ret
    exact rtry_no Hh.out rfl E.out (by omega) HF.out
  · by_cases h18 : times ≤ cu.times
    · have E := Lib.hid (E18.out (by omega) (by omega))
      clear E17 E18 E17' E14 E0 HT0
      go_wp2_with fail
      go_ret
      exact rtry_no Hh.out rfl E.out (by omega) HF.out
    · by_cases h17' : sum - a < cu.sum
      · have E := Lib.hid (E17'.out (by omega) (by omega) (by omega))
        clear E17 E18 E17' E14 E0 HT0
        go_wp2_with fail
        go_ret
        exact rtry_no Hh.out rfl E.out (by omega) HF.out
      · have hu2 : W.heap[ub]? = _ := HU.out
        have hlu : l ≠ ub := by omega
        go_upto_region 16 with fail
        refine wp_at (fun W4 => Fr (fun k => k = ub) W W4 ∧ W4.heap[ub]? = some (.cells #[.string cu.card, .int .i64 cu.window, .int .i64 (cu.times + 1), .int .i64 (cu.sum + a)] 40 (0, 0))) ⟨((Fr.refl (fun k => k = ub) _).setCell (p := ⟨ub, 2, none⟩) (.inl rfl) _).setCell (p := ⟨ub, 3, none⟩) (.inl rfl) _, by simpa using heap_set_eq (i := 3) (u := .int .i64 (cu.sum + a)) (heap_set_eq (i := 2) (u := .int .i64 (cu.times + 1)) HU.out)⟩ ?_
        clear q0 q1 q2 q3 qf HU y1 y2 y3 hu2
        rintro W4 ⟨hf4, hu4⟩
        have h4 := Hold.ok.fr (Hold.ok.fr0 Hh.out HF.out) hf4 (fun b hk e => by subst e; have := Hold.ok.lt Hh.out b hk; omega)
        have hs4 : Step F F w W4 := (Step.same HF.out).news hf4 (fun k hk => by subst hk; exact hwub)
        obtain ⟨vo4, cap4, c4, f4, hl4, hd1, hd2, hrow4, hgf4, hob4, hnil4, _⟩ := h4.opened
        obtain ⟨i0, hi0, hz0, hz1, hz2⟩ := info_parts info_use
        by_cases h16 : us.length < 16
        · have e0 := E0.out (by omega) (by omega) (by omega) (full_short h16)
          have E := Lib.hid e0
          have HL := Lib.hid ((HT0.out Hfu.out e0).trans (by rw [room_short h16]))
          have h16' : (us.length : Int) < 16 := by omega
          have y0 := cell_of hu4 0
          have y1 := cell_of hu4 1
          have y2 := cell_of hu4 2
          have y3 := cell_of hu4 3
          simp at y0 y1 y2 y3
          have hub4 := heap_lt hu4
          have H4 := Lib.hid (And.intro h4 (And.intro hs4 c4))
          have Hrow := Lib.hid hrow4
          clear E17 E18 E17' E14 E0 HT0 e0 h4 hs4 hu4 hf4 hrow4 hgf4 hnil4
          go_wp2_with fail
          go_region_law
            ((refine step_append_lies _ (by rfl) _ _ _ (by rfl) 0 40 i0 _ 4 40 Try.underlying31 hi0 hz0 hz1 hz2 rfl (by omega) (.slice vo4 us.length cap4) us.length (UseR.flat us) (by rfl) ((Hrow.out.alloc _).drew)
                ⟨W4.heap.size, 0, none⟩ 1 1 [.string cu.card, .int .i64 cu.window, .int .i64 (cu.times + 1), .int .i64 (cu.sum + a)] (by rfl) (by rfl) (World.news_of_block (cs := #[.string cu.card, .int .i64 cu.window, .int .i64 (cu.times + 1), .int .i64 (cu.sum + a)]) (t := 40) (fr := (0, 0)) (heap_alloc_new W4 _)) (by simp [Value.oneCell'])
                (by omega) (by unfold maxLen; omega) (by omega) (by simp) (W4.heap.size + 1) (by simp) ?_; intro gg cap5 w5 hown5 hgrow5 hat5 hlt5
              have hob : w5.cell? ⟨l, 0, none⟩ = some (.slice vo4 us.length cap4) := (hgrow5.cell_far _ (by simp; omega) (Ne.symm hob4)).trans ((World.cell?_alloc_lt _ _ _ hl4).trans c4)
              have hof : w5.frozen? ⟨l, 0, none⟩ = false := (hgrow5.frozen_far _ (by simp; omega) (Ne.symm hob4)).trans ((World.frozen?_alloc_past _ _ _ hl4).trans f4)))
          all_goals go_wp2
          all_goals go_ret
          all_goals
            obtain ⟨F5, r1, r2⟩ := H4.out.1.app (ys := us ++ [addU cu a]) H4.out.2.2 ((((Fr.refl noBlock W4).alloc _).drew)) (by simp) hgrow5 (by rw [UseR.flat_append, UseR.flat_one]; rfl) hown5 (by simpa using hat5)
            refine ⟨F5, by rw [E.out]; rfl, ?_, H4.out.2.1.trans r2⟩
            rw [HL.out, Hcu.out]
            exact r1
        · have h16' : (16 : Int) ≤ (us.length : Int) := by omega
          have hub4 := heap_lt hu4
          have H4 := Lib.hid (And.intro h4 (And.intro hs4 (And.intro c4 hu4)))
          have Hrow := Lib.hid hrow4
          have HF4l := Lib.hid f4
          clear E17 E18 E17' h4 hs4 hu4 hf4 hrow4 hgf4 hnil4
          go_wp2_with fail
          go_loopw [14] (fun s14 wr => ∃ i : Nat, i ≤ us.length ∧ s14 = .int .i64 i ∧ Fr noBlock W4 wr ∧ Hid (∀ u ∈ us.take i, u.window = cu.window)) (fun s14 _ => us.length - (intOf s14).toNat)
          case atStart => exact ⟨0, Nat.zero_le _, rfl, Fr.refl _ _, Lib.hid (by simp)⟩
          case round =>
            clear c4 f4
            obtain ⟨i, hi, rfl, hf, hn⟩ := hrel
            have d4 := (hf.cell (p := ⟨l, 0, none⟩) hl4 (fun x => x)).trans H4.out.2.2.1
            have hur := hf.obj H4.out.2.2.2 (fun x => x)
            have hlr := Nat.lt_of_lt_of_le hl4 hf.size
            by_cases hlt : i < us.length
            · obtain ⟨g, rfl, hgl, _, _, u0, z1, u2, u3, _⟩ := use_own (Hrow.out.fr0 hf) hlt
              have y1 := cell_of hur 1
              simp at y1
              have hi1 : (i : Int) < (us.length : Int) := by omega
              have hi0' : (0 : Int) ≤ (i : Int) := by omega
              by_cases hw : us[i].window = cu.window
              · have hq : (us[i].window != cu.window) = false := by rw [bne_eq_false_iff_eq]; exact hw
                have Hn : Hid (∀ u ∈ us.take (i + 1), u.window = cu.window) := Lib.hid (by
                  intro u hu
                  rw [List.take_succ_eq_append_getElem hlt, List.mem_append] at hu
                  rcases hu with hu | hu
                  · exact hn.out u hu
                  · simp at hu; subst hu; exact hw)
                have HF4 := Lib.hid hf
                clear E14 E0 HT0 hf hw hur u0 u2 u3
                generalize us[i].window = uw at *
                go_wp2_with fail
                go_quiet (fail)
                go_wp2_with fail
                go_roundw
                case rel => exact ⟨i + 1, by omega, by go_num, HF4.out.drewN _, Hn⟩
                case measure => simp [intOf]; omega
              · have hq : (us[i].window != cu.window) = true := by rw [bne_iff_ne]; exact hw
                have hfw := win_hit hlt hw hn.out
                rw [Hcw.out] at hfw
                have e0 := E0.out (by omega) (by omega) (by omega) (full_hit hfw)
                have E := Lib.hid e0
                have HL := Lib.hid ((HT0.out Hfu.out e0).trans (by rw [room_long h16 hfw]))
                have HF4 := Lib.hid hf
                have HUr := Lib.hid hur
                clear E14 E0 HT0 e0 hfw hw hn hf hur u0 u2 u3
                generalize us[i].window = uw at *
                go_wp2_with fail
                go_quiet (fail)
                generalize hwq : wr.drewN _ = wq at *
                have hfq : Fr noBlock W4 wq := by rw [← hwq]; exact HF4.out.drewN _
                have Hfq := Lib.hid hfq
                have d5 := (hfq.cell (p := ⟨l, 0, none⟩) hl4 (fun x => x)).trans H4.out.2.2.1
                have hrq := Hrow.out.fr0 hfq
                have hcel := World.ownsRow.cells hrq (g := g) rfl
                have hgq : g < wq.heap.size := Nat.lt_of_lt_of_le hgl (by rw [← hwq]; exact Nat.le_refl _)
                have hlm1 : (UseR.flat (us.take i)).length = i * 4 := by rw [UseR.flat_len, List.length_take, Nat.min_eq_left (by omega)]; rfl
                have hn1 : ∀ j u, (UseR.flat (us.take i))[j]? = some u → wq.cell? ((⟨g, 0, none⟩ : Addr).add j) = some u := by
                  intro j u hu
                  refine hcel j u ?_
                  rw [← UseR.flat_take, List.getElem?_take] at hu
                  split at hu
                  · exact hu
                  · cases hu
                have Hcel := Lib.hid hcel
                have Hwq := Lib.hid hwq
                clear d4 z1 y1 hwq hfq hrq hcel HUr
                go_wp2_with (at_builtin; refine wpList_append_own_at (base := 0) (w := wq) rfl _ _ _ rfl 40 i0 _ 4 40 Try.underlying31 hi0 hz0 hz1 hz2 rfl (by decide) (.slice none 0 0) 0 [] rfl (World.ownsRow_nil _ _ _ _) ⟨g, 0, none⟩ i cap4 (UseR.flat (us.take i)) rfl hlm1 hn1 (UseR.flat_oneCell _) (by unfold maxLen; omega) (by omega) (Nat.zero_le _) ?_)
                intro v1 w5 hown5 hgrow5 _ hat5
                have hF5 : Fr noBlock wq w5 := (Fr.refl noBlock wq).grown hgrow5 (by intro k hk; simp [Value.ownBlock] at hk)
                have hti : (us.take i).length = i := by rw [List.length_take, Nat.min_eq_left (by omega)]
                have r5 : RowAt 40 UseR w5 v1 (us.take i) := by
                  show w5.ownsRow 0 40 4 v1 (us.take i).length _
                  rw [hti]
                  simpa using hown5
                obtain ⟨ao1, cap1, hv1, _, _, _, _⟩ := r5.shape
                rw [hti] at hv1
                have hn5 : ∀ k, v1.ownBlock = some k → W4.heap.size ≤ k := by
                  intro k hk
                  have := Hfq.out.size
                  rcases hat5 with hat | hat
                  · rw [hk] at hat; simp [Value.ownBlock] at hat
                  · rw [hk] at hat; simp at hat; omega
                subst hv1
                have hs5 := hF5.size
                obtain ⟨A, hA, hn2⟩ : ∃ A : Addr, (if cap4 = i + 1 then some (⟨g, 0, none⟩ : Addr) else some ⟨g, (i + 1) * 4, none⟩) = some A ∧ (∀ j u, (UseR.flat (us.drop (i + 1)))[j]? = some u → w5.cell? (A.add j) = some u) := by
                  by_cases hc : cap4 = i + 1
                  · refine ⟨⟨g, 0, none⟩, by simp [hc], fun j u hu => ?_⟩
                    have h0 : (UseR.flat (us.drop (i + 1))).length = 0 := by rw [UseR.flat_len, List.length_drop]; show (us.length - (i + 1)) * 4 = 0; omega
                    rw [List.length_eq_zero_iff.1 h0] at hu
                    simp at hu
                  · refine ⟨⟨g, (i + 1) * 4, none⟩, by simp [hc], fun j u hu => ?_⟩
                    rw [← UseR.flat_drop, List.getElem?_drop] at hu
                    have := Hcel.out ((i + 1) * 4 + j) u hu
                    rw [Addr.add_lit, Nat.zero_add] at this
                    rw [Addr.add_lit]
                    exact (hF5.cell (p := ⟨g, (i + 1) * 4 + j, none⟩) hgq (fun x => x)).trans this
                have hlm2 : (UseR.flat (us.drop (i + 1))).length = (us.length - (i + 1)) * 4 := by rw [UseR.flat_len, List.length_drop]; rfl
                have e5 := (hF5.cell (p := ⟨l, 0, none⟩) (Nat.lt_of_lt_of_le hl4 Hfq.out.size) (fun x => x)).trans d5
                have Hr5 := Lib.hid r5
                have HF5 := Lib.hid (Hfq.out.trans' hF5)
                have Hn5 := Lib.hid hn5
                have hk1 : (i : Int) + 1 ≤ (us.length : Int) := by omega
                have hk3 : (cap4 : Int) ≤ 9223372036854775807 := by unfold maxLen at hd2; omega
                have hk4 : (us.length : Int) ≤ (cap4 : Int) := by omega
                have hp2 : ((i : Int) + 1).toNat = i + 1 := by omega
                have hp0 : (0 : Int) ≤ (i : Int) + 1 := by omega
                have Hlm2 := Lib.hid hlm2
                have Hn2 := Lib.hid hn2
                have Hhown5 := Lib.hid (show w5.ownsRow 0 40 4 (.slice ao1 i cap1) i (UseR.flat (us.take i)) by simpa using hown5)
                clear hown5 hgrow5 hat5 hF5 r5 hn5 hlm2 hn2 hn1 hlm1 d5
                go_wp2_with (at_builtin; refine wpList_append_own_at (base := 0) (w := w5) rfl _ _ _ rfl 40 i0 _ 4 40 Try.underlying31 hi0 hz0 hz1 hz2 rfl (by decide) (.slice ao1 i cap1) i (UseR.flat (us.take i)) rfl Hhown5.out A (us.length - (i + 1)) (cap4 - (i + 1)) (UseR.flat (us.drop (i + 1))) rfl Hlm2.out Hn2.out (UseR.flat_oneCell _) (by unfold maxLen; omega) (by omega) (Nat.zero_le _) ?_)
                intro v2 w6 hown6 hgrow6 _ hat6
                have hle : (us.eraseIdx i).length = i + (us.length - (i + 1)) := by rw [List.length_eraseIdx, if_pos hlt]; omega
                have hfe : UseR.flat (us.take i) ++ UseR.flat (us.drop (i + 1)) = UseR.flat (us.eraseIdx i) := by rw [← UseR.flat_append, List.eraseIdx_eq_take_drop_succ]
                have r6 : RowAt 40 UseR w6 v2 (us.eraseIdx i) := by
                  show w6.ownsRow 0 40 4 v2 (us.eraseIdx i).length _
                  rw [hle, ← hfe]
                  exact hown6
                obtain ⟨ao2, cap2, hv2, _, _, _, _⟩ := r6.shape
                have hF6 : Fr noBlock W4 w6 := HF5.out.grown hgrow6 (fun k hk => .inr (Hn5.out k hk))
                have hs5' := HF5.out.size
                have hn6 : ∀ k, v2.ownBlock = some k → W4.heap.size ≤ k := by
                  intro k hk
                  rcases hat6 with hat | hat
                  · exact Hn5.out k (by rw [← hat]; exact hk)
                  · rw [hk] at hat; simp at hat; omega
                obtain ⟨m, hm⟩ : ∃ m, (us.eraseIdx i).length = m := ⟨_, rfl⟩
                rw [hm] at hv2
                have hm16 : m < 16 := by omega
                have c6 := (hF6.cell (p := ⟨l, 0, none⟩) hl4 (fun x => x)).trans H4.out.2.2.1
                have cf6 := (hF6.frozen (p := ⟨l, 0, none⟩) hl4 (fun x => x)).trans HF4l.out
                have hu6 := hF6.obj H4.out.2.2.2 (fun x => x)
                have y0 := cell_of hu6 0
                have y1 := cell_of hu6 1
                have y2 := cell_of hu6 2
                have y3 := cell_of hu6 3
                simp at y0 y1 y2 y3
                have hub6 := heap_lt hu6
                have hl6 := Nat.lt_of_lt_of_le hl4 hF6.size
                subst hv2
                have hob2 : (Value.slice ao2 m cap2).ownBlock ≠ some l := fun e => by have := hn6 l e; omega
                have Hown6 := Lib.hid (show w6.ownsRow 0 40 4 (.slice ao2 m cap2) m (UseR.flat (us.eraseIdx i)) by have := r6; unfold RowAt at this; rw [hm] at this; exact this)
                have HF6 := Lib.hid hF6
                have Hn6 := Lib.hid hn6
                have Hm := Lib.hid hm
                clear hown6 hgrow6 hat6 hle hfe r6 hF6 hn6 hu6 hm e5 hA hk1 hk3 hk4 hp2 hp0
                go_wp2_with (at_builtin; refine wpList_append_lies _ rfl _ _ _ rfl 0 40 i0 _ 4 40 Try.underlying31 hi0 hz0 hz1 hz2 rfl (by omega) (.slice ao2 m cap2) m (UseR.flat (us.eraseIdx i)) rfl (Hown6.out.alloc _) ⟨w6.heap.size, 0, none⟩ 1 1 [.string cu.card, .int .i64 cu.window, .int .i64 (cu.times + 1), .int .i64 (cu.sum + a)] rfl rfl (World.news_of_block (cs := #[.string cu.card, .int .i64 cu.window, .int .i64 (cu.times + 1), .int .i64 (cu.sum + a)]) (t := 40) (fr := (0, 0)) (heap_alloc_new w6 _)) (by simp [Value.oneCell']) (by omega) (by unfold maxLen; omega) (by omega) (by simp) (w6.heap.size + 1) (by simp) ?_)
                intro gg cap7 w7 hown7 hgrow7 hat7 hlt7
                have hF7 : Fr noBlock W4 w7 := ((HF6.out.alloc _)).grown hgrow7 (fun k hk => .inr (Hn6.out k hk))
                have c7 := (hF7.cell (p := ⟨l, 0, none⟩) hl4 (fun x => x)).trans H4.out.2.2.1
                have cf7 := (hF7.frozen (p := ⟨l, 0, none⟩) hl4 (fun x => x)).trans HF4l.out
                have hgg : W4.heap.size ≤ gg := by
                  have := HF6.out.size
                  rcases hat7 with hat | hat
                  · exact Hn6.out gg hat
                  · omega
                have hrep := H4.out.1.replace (ys := us.eraseIdx i ++ [addU cu a]) (hF7.mono (fun _ x => x.elim)) (hF7.block l hl4 (fun x => x)) (v' := .slice (some ⟨gg, 0, none⟩) (m + 1) cap7)
                  (by
                    show w7.ownsRow 0 40 4 _ (us.eraseIdx i ++ [addU cu a]).length _
                    rw [List.length_append, Hm.out, UseR.flat_append, UseR.flat_one]
                    exact hown7)
                  (fun b hb => by
                    obtain rfl : gg = b := by simpa [Value.ownBlock] using hb
                    exact ⟨by omega, .inr hgg⟩)
                have Hrep := Lib.hid hrep
                clear hown7 hgrow7 hat7 hF7 hrep c6 cf6 y0 y1 y2 y3
                go_wp2_with fail
                go_ret
                obtain ⟨r1, r2⟩ := Hrep.out
                refine ⟨_, by rw [E.out]; rfl, ?_, H4.out.2.1.trans r2⟩
                rw [HL.out, Hcu.out]
                exact r1
            · have hi1 : (us.length : Int) ≤ (i : Int) := by omega
              have hfw : findW us cu.window = none := findW_none.2 (by have := hn.out; rwa [List.take_of_length_le (by omega)] at this)
              rw [Hcw.out] at hfw
              have E := Lib.hid (E14.out (by omega) (by omega) (by omega) (full_long h16 Hfu.out hfw))
              have HF4 := Lib.hid hf
              clear E14 E0 HT0 hfw hn hur hf
              go_wp2_with fail
              go_ret
              refine ⟨F, by rw [E.out]; rfl, ?_, H4.out.2.1.trans (Step.same HF4.out)⟩
              rw [tryL, if_neg (by rw [E.out]; omega)]
              exact Hold.ok.fr0 H4.out.1 HF4.out

set_option maxRecDepth 100000 in
set_option maxHeartbeats 1600000 in
theorem rtry_eq {l : Nat} {us : List Use} {w : World} {F : Nat → Prop} (h : Hold 49 40 UseR l us w F) (hg : GoodU us) (r : Rule) (s : ByteArray) (a n : Int) (hm : mayB r s a n = true) (k : Nat) (hk : k < us.length) (hfu : findU us s = some k) (hw1 : us[k].window = n / r.ticks) :
    Calls Try.prog 19 #[.pointer (some ⟨l, 0, none⟩), r.val, .string s, .int .i64 a, .int .i64 n] w (RTryPost l us r s a n F w) := by
  have hlen := hg.len
  have Hm := Lib.hid (fun W => rmay_any r s a n true hm W)
  have Hh := Lib.hid h
  have Hmay := Lib.hid hm
  have Hfind := Lib.hid (fun (W : World) (hf : Fr noBlock w W) => rat_any (Hold.ok.fr0 h hf) hlen s _ rfl)
  have hf0 := (Fr.refl noBlock w).alloc (.cells #[.int .i64 r.ticks, .int .i64 r.times, .int .i64 r.sum, .int .i64 r.once] 23)
  obtain ⟨hr, hcd, ha0, ha1, hn0, hn1⟩ := may_iff.1 hm
  obtain ⟨t1, t2, t3, t4, t5, t6, t7, t8⟩ := right_iff.1 hr
  obtain ⟨cc, cw⟩ := cur_card us s (n / r.ticks)
  obtain ⟨ct0, ct1, cs0, cs1⟩ := cur_ok hg s (n / r.ticks)
  have hdiv : 0 ≤ n / r.ticks := Int.ediv_nonneg hn0 (by omega)
  have E17 := Lib.hid (fun h1 => try_once (us := us) hm h1)
  have E18 := Lib.hid (fun h1 h2 => try_count (us := us) hm h1 h2)
  have E17' := Lib.hid (fun h1 h2 h3 => try_sum (us := us) hm h1 h2 h3)
  have E14 := Lib.hid (fun h1 h2 h3 h4 => try_full (us := us) hm h1 h2 h3 h4)
  have E0 := Lib.hid (fun h1 h2 h3 h4 => try_ok (us := us) hm h1 h2 h3 h4)
  have Hcur := Lib.hid (fun (k : Nat) (hk : findU us s = some k) => cur_some hk (n / r.ticks))
  have Hcur0 := Lib.hid (fun (hk : findU us s = none) => cur_none hk (n / r.ticks))
  generalize hcu : curU us s (n / r.ticks) = cu at *
  have Hcu := Lib.hid hcu
  have Hcc := Lib.hid cc
  have Hcw := Lib.hid cw
  obtain ⟨vo, cap, c0, f0, hl, hc1, hc2, hrow, hgf, _⟩ := h.opened
  have C0 := Lib.hid c0
  have F0 := Lib.hid f0
  have Hrow := Lib.hid hrow
  have HT := Lib.hid (show tryL us r s a n = tryL us r s a n from rfl)
  obtain ⟨ticks, times, sum, once⟩ := r
  unfold Rule.val at *
  simp only at *
  clear hm hr hcd hcu cc cw h hg c0 f0 hrow
  have HT0 := Lib.hid (fun (hk : findU us s = none) (h0 : tryE us ⟨ticks, times, sum, once⟩ s a n = 0) => show tryL us ⟨ticks, times, sum, once⟩ s a n = roomL us (n / ticks) ++ [addU (curU us s (n / ticks)) a] by unfold tryL; rw [if_pos h0, hk])
  have HT1 := Lib.hid (fun (k : Nat) (hk : findU us s = some k) (h0 : tryE us ⟨ticks, times, sum, once⟩ s a n = 0) => show tryL us ⟨ticks, times, sum, once⟩ s a n = us.set k (addU (curU us s (n / ticks)) a) by unfold tryL; rw [if_pos h0, hk])
  obtain ⟨_, hcn⟩ := Hcur.out k hfu
  have Hfu := Lib.hid hfu
  rw [hfu] at Hfind
  simp only [idxI] at Hfind
  have hk0 : (0 : Int) ≤ (k : Int) := by omega
  have hk1 : (k : Int) < (us.length : Int) := by omega
  have hcw2 := Hcw.out
  obtain ⟨g, rfl, hgl, _, _, u0, u1, u2, u3, uf⟩ := use_own Hrow.out hk
  have hful : fullB us s (n / ticks) = false := by rw [fullB, Hfu.out]; rfl
  have Hful := Lib.hid hful
  have Hgf := Lib.hid (hgf g rfl)
  rw [if_pos hw1] at hcn
  have Hu0 := Lib.hid u0
  have Hu1 := Lib.hid u1
  have Hu2 := Lib.hid u2
  have Hu3 := Lib.hid u3
  have Huf := Lib.hid uf
  have Hcn := Lib.hid hcn
  have Hw1 := Lib.hid hw1
  clear hcn hfu hful HT0 HT Hcur Hcur0 Hrow hcw2 u0 u1 u2 u3 uf hgf
  generalize us[k] = uk at *
  go_enter Try.func19, Try.ntmps19
  go_wp2_with fail
  refine (Hm.out _).mono ?_
  rintro e w1 ⟨rfl, f1⟩
  have f01 := hf0.trans' f1
  have hb1 : w1.heap[w.heap.size]? = some (.cells #[.int .i64 ticks, .int .i64 times, .int .i64 sum, .int .i64 once] 23 (0, 0)) := f1.obj (heap_new w _) (fun x => x)
  have Hf01 := Lib.hid f01
  have Hb1 := Lib.hid hb1
  clear f1 f01 hb1
  have hb2 := Hb1.out
  have y0 := cell_of hb2 0
  simp at y0
  have hf02 := Hf01.out
  have c0 := (hf02.cell (p := ⟨l, 0, none⟩) hl (fun x => x)).trans C0.out
  have u0 := (hf02.cell (p := ⟨g, k * 4, none⟩) hgl (fun x => x)).trans Hu0.out
  have u1 := (hf02.cell (p := ⟨g, k * 4 + 1, none⟩) hgl (fun x => x)).trans Hu1.out
  have u2 := (hf02.cell (p := ⟨g, k * 4 + 2, none⟩) hgl (fun x => x)).trans Hu2.out
  have u3 := (hf02.cell (p := ⟨g, k * 4 + 3, none⟩) hgl (fun x => x)).trans Hu3.out
  have hl2 := Nat.lt_of_lt_of_le hl hf02.size
  have hgl2 := Nat.lt_of_lt_of_le hgl hf02.size
  have Hf02 := Lib.hid hf02
  have Hb2 := Lib.hid hb2
  have hrs := heap_lt hb2
  clear hb2 hf02
  have hq := show (uk.window == n / ticks) = true from beq_iff_eq.2 hw1
  clear hw1
  go_wp2_with fail
  refine (Hfind.out _ (Hf02.out.alloc _)).mono ?_
  rintro e w' ⟨rfl, rfl⟩
  go_wp2_with fail
  go_quiet (fail)
  go_upto_region 8 with fail
  obtain ⟨ub, hub⟩ : ∃ ub, w1.heap.size = ub := ⟨_, rfl⟩
  refine wp_at (fun W => Fr noBlock w W ∧ W.heap[ub]? = some (.cells #[.string cu.card, .int .i64 cu.window, .int .i64 cu.times, .int .i64 cu.sum] 40 (0, 0)) ∧ W.heap[w.heap.size]? = some (.cells #[.int .i64 ticks, .int .i64 times, .int .i64 sum, .int .i64 once] 23 (0, 0))) (by
    rw [← hub, Hcn.out]
    exact fresh4 Hf02.out Hb2.out _ _ _ _ _ _ _ _ _ _) ?_
  have hwub : w.heap.size ≤ ub := by have := Hf02.out.size; omega
  have hwub' : ub ≠ w.heap.size := by omega
  have hgub : g < ub := by omega
  have hlub : l < ub := by omega
  rw [hub]
  clear hub y0 Hf01 Hf02 Hb1 Hb2 hrs Hm Hfind c0 u0 u1 u2 u3 hl2 hgl2 hq
  rintro W ⟨hF, hu, hrl⟩
  have q0 := cell_of hu 0
  have q1 := cell_of hu 1
  have q2 := cell_of hu 2
  have q3 := cell_of hu 3
  have qf := free_of hu
  have y1 := cell_of hrl 1
  have y2 := cell_of hrl 2
  have y3 := cell_of hrl 3
  simp at q0 q1 q2 q3 y1 y2 y3
  have HF := Lib.hid hF
  have HU := Lib.hid hu
  clear hF hu hrl
  by_cases h17 : once < a
  · have E := Lib.hid (E17.out h17)
    clear E17 E18 E17' E14 E0 HT1
    go_wp2_with fail
    go_ret
    exact rtry_no Hh.out rfl E.out (by omega) HF.out
  · by_cases h18 : times ≤ cu.times
    · have E := Lib.hid (E18.out (by omega) (by omega))
      clear E17 E18 E17' E14 E0 HT1
      go_wp2_with fail
      go_ret
      exact rtry_no Hh.out rfl E.out (by omega) HF.out
    · by_cases h17' : sum - a < cu.sum
      · have E := Lib.hid (E17'.out (by omega) (by omega) (by omega))
        clear E17 E18 E17' E14 E0 HT1
        go_wp2_with fail
        go_ret
        exact rtry_no Hh.out rfl E.out (by omega) HF.out
      · have e0 := E0.out (by omega) (by omega) (by omega) Hful.out
        have E := Lib.hid e0
        have HL := Lib.hid (HT1.out k Hfu.out e0)
        have c0 := (HF.out.cell (p := ⟨l, 0, none⟩) hl (fun x => x)).trans C0.out
        have hgW := Nat.lt_of_lt_of_le hgl HF.out.size
        clear E17 E18 E17' E14 E0 HT1 e0
        go_upto_region 17 with fail
        refine wp_at (fun W4 => Fr (fun k => k = ub) W W4 ∧ W4.heap[ub]? = some (.cells #[.string cu.card, .int .i64 cu.window, .int .i64 (cu.times + 1), .int .i64 (cu.sum + a)] 40 (0, 0))) ⟨((Fr.refl (fun k => k = ub) _).setCell (p := ⟨ub, 2, none⟩) (.inl rfl) _).setCell (p := ⟨ub, 3, none⟩) (.inl rfl) _, by simpa using heap_set_eq (i := 3) (u := .int .i64 (cu.sum + a)) (heap_set_eq (i := 2) (u := .int .i64 (cu.times + 1)) HU.out)⟩ ?_
        clear q0 q1 q2 q3 qf HU c0 y1 y2 y3
        rintro W4 ⟨hf4, hu4⟩
        have h4 := Hold.ok.fr (Hold.ok.fr0 Hh.out HF.out) hf4 (fun b hk e => by subst e; have := Hold.ok.lt Hh.out b hk; omega)
        have hs4 : Step F F w W4 := (Step.same HF.out).news hf4 (fun k hk => by subst hk; exact hwub)
        have c4 := (hf4.cell (p := ⟨l, 0, none⟩) (Nat.lt_of_lt_of_le hl HF.out.size) (fun e : l = ub => by omega)).trans ((HF.out.cell (p := ⟨l, 0, none⟩) hl (fun x => x)).trans C0.out)
        have v0 := (hf4.cell (p := ⟨g, k * 4, none⟩) hgW (fun e : g = ub => by omega)).trans ((HF.out.cell (p := ⟨g, k * 4, none⟩) hgl (fun x => x)).trans Hu0.out)
        have v1 := (hf4.cell (p := ⟨g, k * 4 + 1, none⟩) hgW (fun e : g = ub => by omega)).trans ((HF.out.cell (p := ⟨g, k * 4 + 1, none⟩) hgl (fun x => x)).trans Hu1.out)
        have v2 := (hf4.cell (p := ⟨g, k * 4 + 2, none⟩) hgW (fun e : g = ub => by omega)).trans ((HF.out.cell (p := ⟨g, k * 4 + 2, none⟩) hgl (fun x => x)).trans Hu2.out)
        have v3 := (hf4.cell (p := ⟨g, k * 4 + 3, none⟩) hgW (fun e : g = ub => by omega)).trans ((HF.out.cell (p := ⟨g, k * 4 + 3, none⟩) hgl (fun x => x)).trans Hu3.out)
        have vf := fun o => (hf4.frozen (p := ⟨g, o, none⟩) hgW (fun e : g = ub => by omega)).trans ((HF.out.frozen (p := ⟨g, o, none⟩) hgl (fun x => x)).trans (Huf.out o))
        have y0 := cell_of hu4 0
        have y1 := cell_of hu4 1
        have y2 := cell_of hu4 2
        have y3 := cell_of hu4 3
        simp at y0 y1 y2 y3
        have H4 := Lib.hid (And.intro h4 (And.intro hs4 c4))
        have vf0 := vf (k * 4)
        have vf1 := vf (k * 4 + 1)
        have vf2 := vf (k * 4 + 2)
        have vf3 := vf (k * 4 + 3)
        have hgl4 := heap_lt hu4
        clear h4 hs4 hu4 hf4 vf
        go_region
        all_goals go_wp2
        all_goals go_ret
        all_goals
          obtain ⟨r1, r2⟩ := hold_put4 H4.out.1 H4.out.2.2 hk (addU cu a)
          refine ⟨F, by rw [E.out]; rfl, ?_, H4.out.2.1.trans ⟨r2.drew, fun _ h => .inl h⟩⟩
          rw [HL.out, Hcu.out]
          exact Hold.ok.fr0 r1 ((Fr.refl _ _).drew)

set_option maxRecDepth 100000 in
set_option maxHeartbeats 1600000 in
theorem rtry_ne {l : Nat} {us : List Use} {w : World} {F : Nat → Prop} (h : Hold 49 40 UseR l us w F) (hg : GoodU us) (r : Rule) (s : ByteArray) (a n : Int) (hm : mayB r s a n = true) (k : Nat) (hk : k < us.length) (hfu : findU us s = some k) (hw1 : us[k].window ≠ n / r.ticks) :
    Calls Try.prog 19 #[.pointer (some ⟨l, 0, none⟩), r.val, .string s, .int .i64 a, .int .i64 n] w (RTryPost l us r s a n F w) := by
  have hlen := hg.len
  have Hm := Lib.hid (fun W => rmay_any r s a n true hm W)
  have Hh := Lib.hid h
  have Hmay := Lib.hid hm
  have Hfind := Lib.hid (fun (W : World) (hf : Fr noBlock w W) => rat_any (Hold.ok.fr0 h hf) hlen s _ rfl)
  have hf0 := (Fr.refl noBlock w).alloc (.cells #[.int .i64 r.ticks, .int .i64 r.times, .int .i64 r.sum, .int .i64 r.once] 23)
  obtain ⟨hr, hcd, ha0, ha1, hn0, hn1⟩ := may_iff.1 hm
  obtain ⟨t1, t2, t3, t4, t5, t6, t7, t8⟩ := right_iff.1 hr
  obtain ⟨cc, cw⟩ := cur_card us s (n / r.ticks)
  obtain ⟨ct0, ct1, cs0, cs1⟩ := cur_ok hg s (n / r.ticks)
  have hdiv : 0 ≤ n / r.ticks := Int.ediv_nonneg hn0 (by omega)
  have E17 := Lib.hid (fun h1 => try_once (us := us) hm h1)
  have E18 := Lib.hid (fun h1 h2 => try_count (us := us) hm h1 h2)
  have E17' := Lib.hid (fun h1 h2 h3 => try_sum (us := us) hm h1 h2 h3)
  have E14 := Lib.hid (fun h1 h2 h3 h4 => try_full (us := us) hm h1 h2 h3 h4)
  have E0 := Lib.hid (fun h1 h2 h3 h4 => try_ok (us := us) hm h1 h2 h3 h4)
  have Hcur := Lib.hid (fun (k : Nat) (hk : findU us s = some k) => cur_some hk (n / r.ticks))
  have Hcur0 := Lib.hid (fun (hk : findU us s = none) => cur_none hk (n / r.ticks))
  generalize hcu : curU us s (n / r.ticks) = cu at *
  have Hcu := Lib.hid hcu
  have Hcc := Lib.hid cc
  have Hcw := Lib.hid cw
  obtain ⟨vo, cap, c0, f0, hl, hc1, hc2, hrow, hgf, _⟩ := h.opened
  have C0 := Lib.hid c0
  have F0 := Lib.hid f0
  have Hrow := Lib.hid hrow
  have HT := Lib.hid (show tryL us r s a n = tryL us r s a n from rfl)
  obtain ⟨ticks, times, sum, once⟩ := r
  unfold Rule.val at *
  simp only at *
  clear hm hr hcd hcu cc cw h hg c0 f0 hrow
  have HT0 := Lib.hid (fun (hk : findU us s = none) (h0 : tryE us ⟨ticks, times, sum, once⟩ s a n = 0) => show tryL us ⟨ticks, times, sum, once⟩ s a n = roomL us (n / ticks) ++ [addU (curU us s (n / ticks)) a] by unfold tryL; rw [if_pos h0, hk])
  have HT1 := Lib.hid (fun (k : Nat) (hk : findU us s = some k) (h0 : tryE us ⟨ticks, times, sum, once⟩ s a n = 0) => show tryL us ⟨ticks, times, sum, once⟩ s a n = us.set k (addU (curU us s (n / ticks)) a) by unfold tryL; rw [if_pos h0, hk])
  obtain ⟨_, hcn⟩ := Hcur.out k hfu
  have Hfu := Lib.hid hfu
  rw [hfu] at Hfind
  simp only [idxI] at Hfind
  have hk0 : (0 : Int) ≤ (k : Int) := by omega
  have hk1 : (k : Int) < (us.length : Int) := by omega
  have hcw2 := Hcw.out
  obtain ⟨g, rfl, hgl, _, _, u0, u1, u2, u3, uf⟩ := use_own Hrow.out hk
  have hful : fullB us s (n / ticks) = false := by rw [fullB, Hfu.out]; rfl
  have Hful := Lib.hid hful
  have Hgf := Lib.hid (hgf g rfl)
  rw [if_neg hw1] at hcn
  have Hu0 := Lib.hid u0
  have Hu1 := Lib.hid u1
  have Hu2 := Lib.hid u2
  have Hu3 := Lib.hid u3
  have Huf := Lib.hid uf
  have Hcn := Lib.hid hcn
  have Hw1 := Lib.hid hw1
  clear hcn hfu hful HT0 HT Hcur Hcur0 Hrow hcw2 u0 u1 u2 u3 uf hgf
  generalize us[k] = uk at *
  go_enter Try.func19, Try.ntmps19
  go_wp2_with fail
  refine (Hm.out _).mono ?_
  rintro e w1 ⟨rfl, f1⟩
  have f01 := hf0.trans' f1
  have hb1 : w1.heap[w.heap.size]? = some (.cells #[.int .i64 ticks, .int .i64 times, .int .i64 sum, .int .i64 once] 23 (0, 0)) := f1.obj (heap_new w _) (fun x => x)
  have Hf01 := Lib.hid f01
  have Hb1 := Lib.hid hb1
  clear f1 f01 hb1
  have hb2 := Hb1.out
  have y0 := cell_of hb2 0
  simp at y0
  have hf02 := Hf01.out
  have c0 := (hf02.cell (p := ⟨l, 0, none⟩) hl (fun x => x)).trans C0.out
  have u0 := (hf02.cell (p := ⟨g, k * 4, none⟩) hgl (fun x => x)).trans Hu0.out
  have u1 := (hf02.cell (p := ⟨g, k * 4 + 1, none⟩) hgl (fun x => x)).trans Hu1.out
  have u2 := (hf02.cell (p := ⟨g, k * 4 + 2, none⟩) hgl (fun x => x)).trans Hu2.out
  have u3 := (hf02.cell (p := ⟨g, k * 4 + 3, none⟩) hgl (fun x => x)).trans Hu3.out
  have hl2 := Nat.lt_of_lt_of_le hl hf02.size
  have hgl2 := Nat.lt_of_lt_of_le hgl hf02.size
  have Hf02 := Lib.hid hf02
  have Hb2 := Lib.hid hb2
  have hrs := heap_lt hb2
  clear hb2 hf02
  have hq := show (uk.window == n / ticks) = false from beq_eq_false_iff_ne.2 hw1
  clear hw1
  go_wp2_with fail
  refine (Hfind.out _ (Hf02.out.alloc _)).mono ?_
  rintro e w' ⟨rfl, rfl⟩
  go_wp2_with fail
  go_quiet (fail)
  go_upto_region 8 with fail
  obtain ⟨ub, hub⟩ : ∃ ub, w1.heap.size = ub := ⟨_, rfl⟩
  refine wp_at (fun W => Fr noBlock w W ∧ W.heap[ub]? = some (.cells #[.string cu.card, .int .i64 cu.window, .int .i64 cu.times, .int .i64 cu.sum] 40 (0, 0)) ∧ W.heap[w.heap.size]? = some (.cells #[.int .i64 ticks, .int .i64 times, .int .i64 sum, .int .i64 once] 23 (0, 0))) ⟨(Hf02.out.alloc _).drewN _, by rw [← hub, Hcn.out]; exact heap_new w1 _, heap_old _ Hb2.out⟩ ?_
  have hwub : w.heap.size ≤ ub := by have := Hf02.out.size; omega
  have hwub' : ub ≠ w.heap.size := by omega
  have hgub : g < ub := by omega
  have hlub : l < ub := by omega
  rw [hub]
  clear hub y0 Hf01 Hf02 Hb1 Hb2 hrs Hm Hfind c0 u0 u1 u2 u3 hl2 hgl2 hq
  rintro W ⟨hF, hu, hrl⟩
  have q0 := cell_of hu 0
  have q1 := cell_of hu 1
  have q2 := cell_of hu 2
  have q3 := cell_of hu 3
  have qf := free_of hu
  have y1 := cell_of hrl 1
  have y2 := cell_of hrl 2
  have y3 := cell_of hrl 3
  simp at q0 q1 q2 q3 y1 y2 y3
  have HF := Lib.hid hF
  have HU := Lib.hid hu
  clear hF hu hrl
  by_cases h17 : once < a
  · have E := Lib.hid (E17.out h17)
    clear E17 E18 E17' E14 E0 HT1
    go_wp2_with fail
    go_ret
    exact rtry_no Hh.out rfl E.out (by omega) HF.out
  · by_cases h18 : times ≤ cu.times
    · have E := Lib.hid (E18.out (by omega) (by omega))
      clear E17 E18 E17' E14 E0 HT1
      go_wp2_with fail
      go_ret
      exact rtry_no Hh.out rfl E.out (by omega) HF.out
    · by_cases h17' : sum - a < cu.sum
      · have E := Lib.hid (E17'.out (by omega) (by omega) (by omega))
        clear E17 E18 E17' E14 E0 HT1
        go_wp2_with fail
        go_ret
        exact rtry_no Hh.out rfl E.out (by omega) HF.out
      · have e0 := E0.out (by omega) (by omega) (by omega) Hful.out
        have E := Lib.hid e0
        have HL := Lib.hid (HT1.out k Hfu.out e0)
        have c0 := (HF.out.cell (p := ⟨l, 0, none⟩) hl (fun x => x)).trans C0.out
        have hgW := Nat.lt_of_lt_of_le hgl HF.out.size
        clear E17 E18 E17' E14 E0 HT1 e0
        go_upto_region 17 with fail
        refine wp_at (fun W4 => Fr (fun k => k = ub) W W4 ∧ W4.heap[ub]? = some (.cells #[.string cu.card, .int .i64 cu.window, .int .i64 (cu.times + 1), .int .i64 (cu.sum + a)] 40 (0, 0))) ⟨((Fr.refl (fun k => k = ub) _).setCell (p := ⟨ub, 2, none⟩) (.inl rfl) _).setCell (p := ⟨ub, 3, none⟩) (.inl rfl) _, by simpa using heap_set_eq (i := 3) (u := .int .i64 (cu.sum + a)) (heap_set_eq (i := 2) (u := .int .i64 (cu.times + 1)) HU.out)⟩ ?_
        clear q0 q1 q2 q3 qf HU c0 y1 y2 y3
        rintro W4 ⟨hf4, hu4⟩
        have h4 := Hold.ok.fr (Hold.ok.fr0 Hh.out HF.out) hf4 (fun b hk e => by subst e; have := Hold.ok.lt Hh.out b hk; omega)
        have hs4 : Step F F w W4 := (Step.same HF.out).news hf4 (fun k hk => by subst hk; exact hwub)
        have c4 := (hf4.cell (p := ⟨l, 0, none⟩) (Nat.lt_of_lt_of_le hl HF.out.size) (fun e : l = ub => by omega)).trans ((HF.out.cell (p := ⟨l, 0, none⟩) hl (fun x => x)).trans C0.out)
        have v0 := (hf4.cell (p := ⟨g, k * 4, none⟩) hgW (fun e : g = ub => by omega)).trans ((HF.out.cell (p := ⟨g, k * 4, none⟩) hgl (fun x => x)).trans Hu0.out)
        have v1 := (hf4.cell (p := ⟨g, k * 4 + 1, none⟩) hgW (fun e : g = ub => by omega)).trans ((HF.out.cell (p := ⟨g, k * 4 + 1, none⟩) hgl (fun x => x)).trans Hu1.out)
        have v2 := (hf4.cell (p := ⟨g, k * 4 + 2, none⟩) hgW (fun e : g = ub => by omega)).trans ((HF.out.cell (p := ⟨g, k * 4 + 2, none⟩) hgl (fun x => x)).trans Hu2.out)
        have v3 := (hf4.cell (p := ⟨g, k * 4 + 3, none⟩) hgW (fun e : g = ub => by omega)).trans ((HF.out.cell (p := ⟨g, k * 4 + 3, none⟩) hgl (fun x => x)).trans Hu3.out)
        have vf := fun o => (hf4.frozen (p := ⟨g, o, none⟩) hgW (fun e : g = ub => by omega)).trans ((HF.out.frozen (p := ⟨g, o, none⟩) hgl (fun x => x)).trans (Huf.out o))
        have y0 := cell_of hu4 0
        have y1 := cell_of hu4 1
        have y2 := cell_of hu4 2
        have y3 := cell_of hu4 3
        simp at y0 y1 y2 y3
        have H4 := Lib.hid (And.intro h4 (And.intro hs4 c4))
        have vf0 := vf (k * 4)
        have vf1 := vf (k * 4 + 1)
        have vf2 := vf (k * 4 + 2)
        have vf3 := vf (k * 4 + 3)
        have hgl4 := heap_lt hu4
        clear h4 hs4 hu4 hf4 vf
        go_region
        all_goals go_wp2
        all_goals go_ret
        all_goals
          obtain ⟨r1, r2⟩ := hold_put4 H4.out.1 H4.out.2.2 hk (addU cu a)
          refine ⟨F, by rw [E.out]; rfl, ?_, H4.out.2.1.trans ⟨r2.drew, fun _ h => .inl h⟩⟩
          rw [HL.out, Hcu.out]
          exact Hold.ok.fr0 r1 ((Fr.refl _ _).drew)

end Go.Proofs.Ytkcepppldhaiaaa
