/-
  THE WALK of the document's Undo; its Try, whole.
-/
import Derived.Test.YtkcepppldhaiaaaLmRef2
namespace Go.Proofs.Ytkcepppldhaiaaa
open Go.RowKit

/-- THE DOCUMENT's Try. -/
theorem rtry_any {l : Nat} {us : List Use} {w : World} {F : Nat → Prop} (h : RBookAt l us w F) (r : Rule) (s : ByteArray) (a n : Int) {x : Int} (hx : tryE us r s a n = x) {vs : List Use} (hv : tryL us r s a n = vs) :
    Calls Try.prog 19 #[.pointer (some ⟨l, 0, none⟩), r.val, .string s, .int .i64 a, .int .i64 n] w fun e w' => ∃ F', e = .returned (.int .i64 x) ∧ RBookAt l vs w' F' ∧ Step F F' w w' := by
  subst hx hv
  have key : Calls Try.prog 19 #[.pointer (some ⟨l, 0, none⟩), r.val, .string s, .int .i64 a, .int .i64 n] w (RTryPost l us r s a n F w) := by
    cases hm : mayB r s a n with
    | false => exact rtry_bad h.1 r s a n hm
    | true =>
      cases hf : findU us s with
      | none => exact rtry_none h.1 h.2 r s a n hm hf
      | some k =>
        obtain ⟨hk, _⟩ := find_of_findU hf
        by_cases hw : us[k].window = n / r.ticks
        · exact rtry_eq h.1 h.2 r s a n hm k hk hf hw
        · exact rtry_ne h.1 h.2 r s a n hm k hk hf hw
  exact key.mono fun e w' ⟨F', h1, h2, h3⟩ => ⟨F', h1, ⟨h2, good_try h.2 r s a n⟩, h3⟩

def RUndoPost (l : Nat) (us : List Use) (r : Rule) (s : ByteArray) (a n : Int) (F : Nat → Prop) (w : World) (e : Ending) (w' : World) : Prop :=
  ∃ F', e = .returned (.int .i64 (undoE us r s a n)) ∧ Hold 49 40 UseR l (undoL us r s a n) w' F' ∧ Step F F' w w'
theorem rundo_no {l : Nat} {us : List Use} {r : Rule} {s : ByteArray} {a n : Int} {F : Nat → Prop} {w w' : World} {e : Ending} (h : Hold 49 40 UseR l us w F) {x : Int} (he : e = .returned (.int .i64 x)) (hx : undoE us r s a n = x) (h0 : x ≠ 0) (hf : Fr noBlock w w') : RUndoPost l us r s a n F w e w' :=
  ⟨F, by rw [hx]; exact he, by rw [undoL, if_neg (by rw [hx]; exact h0)]; exact Hold.ok.fr0 h hf, Step.same hf⟩

set_option maxRecDepth 100000 in
set_option maxHeartbeats 800000 in
theorem rundo_bad {l : Nat} {us : List Use} {w : World} {F : Nat → Prop} (h : Hold 49 40 UseR l us w F) (r : Rule) (s : ByteArray) (a n : Int) (hm : mayB r s a n = false) :
    Calls Try.prog 18 #[.pointer (some ⟨l, 0, none⟩), r.val, .string s, .int .i64 a, .int .i64 n] w (RUndoPost l us r s a n F w) := by
  have Hm := Lib.hid (fun W => rmay_any r s a n false hm W)
  have Hh := Lib.hid h
  have Ha := Lib.hid (undo_arg (us := us) hm)
  have hf0 := (Fr.refl noBlock w).alloc (.cells #[.int .i64 r.ticks, .int .i64 r.times, .int .i64 r.sum, .int .i64 r.once] 23)
  clear h hm
  obtain ⟨ticks, times, sum, once⟩ := r
  unfold Rule.val at *
  simp only at *
  go_enter Try.func18, Try.ntmps18
  go_wp2_with fail
  refine (Hm.out _).mono ?_
  rintro e w1 ⟨rfl, f1⟩
  go_wp2_with fail
  go_ret
  exact rundo_no Hh.out rfl Ha.out (by omega) (hf0.trans' f1)

set_option maxRecDepth 100000 in
set_option maxHeartbeats 1600000 in
theorem rundo_good {l : Nat} {us : List Use} {w : World} {F : Nat → Prop} (h : Hold 49 40 UseR l us w F) (hg : GoodU us) (r : Rule) (s : ByteArray) (a n : Int) (hm : mayB r s a n = true) :
    Calls Try.prog 18 #[.pointer (some ⟨l, 0, none⟩), r.val, .string s, .int .i64 a, .int .i64 n] w (RUndoPost l us r s a n F w) := by
  have hlen := hg.len
  have Hm := Lib.hid (fun W => rmay_any r s a n true hm W)
  have Hh := Lib.hid h
  have Hfind := Lib.hid (fun (W : World) (hf : Fr noBlock w W) => rat_any (Hold.ok.fr0 h hf) hlen s _ rfl)
  have hf0 := (Fr.refl noBlock w).alloc (.cells #[.int .i64 r.ticks, .int .i64 r.times, .int .i64 r.sum, .int .i64 r.once] 23)
  obtain ⟨hr, hcd, ha0, ha1, hn0, hn1⟩ := may_iff.1 hm
  obtain ⟨t1, t2, t3, t4, t5, t6, t7, t8⟩ := right_iff.1 hr
  have hdiv : 0 ≤ n / r.ticks := Int.ediv_nonneg hn0 (by omega)
  obtain ⟨vo, cap, c0, f0, hl, hc1, hc2, hrow, hgf, _⟩ := h.opened
  cases hfu : findU us s with
  | none =>
    have E := Lib.hid (undo_none hm hfu)
    rw [hfu] at Hfind
    simp only [idxI] at Hfind
    obtain ⟨ticks, times, sum, once⟩ := r
    unfold Rule.val at *
    simp only at *
    clear hm hr hcd h hg hrow hfu c0 f0 hgf
    go_enter Try.func18, Try.ntmps18
    go_wp2_with fail
    refine (Hm.out _).mono ?_
    rintro e w1 ⟨rfl, f1⟩
    have Hf01 := Lib.hid (hf0.trans' f1)
    clear f1 hf0
    go_wp2_with fail
    refine (Hfind.out _ Hf01.out).mono ?_
    rintro e w1 ⟨rfl, rfl⟩
    have Hf02 := Hf01
    go_wp2_with fail
    go_quiet (fail)
    go_wp2_with fail
    go_ret
    exact rundo_no Hh.out rfl E.out (by omega) (Hf02.out.drewN _)
  | some k =>
    obtain ⟨hk, _, _⟩ := find_of_findU hfu
    obtain ⟨g, rfl, hgl, _, _, u0, u1, u2, u3, uf⟩ := use_own hrow hk
    obtain ⟨hu1, hu2, hu3, hu4, hu5, hu6⟩ := hg.each _ (List.getElem_mem hk)
    have E15 := Lib.hid (fun h => undo_other hm hfu hk h)
    have E0 := Lib.hid (fun h => undo_ok hm hfu hk h)
    have Hput := Lib.hid (fun (W : World) (hh : Hold 49 40 UseR l us W F) (hc : W.cell? ⟨l, 0, none⟩ = some (.slice (some ⟨g, 0, none⟩) us.length cap)) => hold_put2 hh hc hk a)
    rw [hfu] at Hfind
    simp only [idxI] at Hfind
    have hk0 : (0 : Int) ≤ (k : Int) := by omega
    have hk1 : (k : Int) < (us.length : Int) := by omega
    have hkd : decide ((k : Int) < 0) = false := by simp
    have hq : (us[k].window = n / r.ticks ∧ us[k].times ≠ 0 ∧ a ≤ us[k].sum) ∨ (us[k].window ≠ n / r.ticks) ∨ (us[k].window = n / r.ticks ∧ us[k].times = 0) ∨ (us[k].window = n / r.ticks ∧ us[k].times ≠ 0 ∧ us[k].sum < a) := by omega
    obtain ⟨ticks, times, sum, once⟩ := r
    unfold Rule.val at *
    simp only at *
    have C0 := Lib.hid c0
    have U1 := Lib.hid u1
    have U2 := Lib.hid u2
    have U3 := Lib.hid u3
    have Uf := Lib.hid uf
    clear hm hr hcd h hg hrow hfu c0 f0 hgf u0 u1 u2 u3 uf
    generalize us[k] = u at *
    have hq' : ∃ b1 b2 : Bool, (u.window != n / ticks) = b1 ∧ (u.times == 0) = b2 ∧ ((b1 = false ∧ b2 = false ∧ a ≤ u.sum ∧ Hid (¬(u.window ≠ n / ticks ∨ u.times = 0 ∨ u.sum < a))) ∨ ((b1 = true ∨ b2 = true ∨ u.sum < a) ∧ Hid (u.window ≠ n / ticks ∨ u.times = 0 ∨ u.sum < a))) := by
      refine ⟨_, _, rfl, rfl, ?_⟩
      simp only [bne_eq_false_iff_eq, bne_iff_ne, beq_iff_eq, beq_eq_false_iff_ne]
      unfold Hid
      omega
    clear hq
    obtain ⟨b1, b2, hb1, hb2, hb3⟩ := hq'
    rcases hb3 with ⟨rfl, rfl, hle, Hno⟩ | ⟨hyes, Hyes⟩
    · obtain ⟨e0, eL⟩ := E0.out Hno.out
      have E := Lib.hid e0
      have EL := Lib.hid eL
      clear e0 eL E0 E15
      go_enter Try.func18, Try.ntmps18
      go_wp2_with fail
      refine (Hm.out _).mono ?_
      rintro e w1 ⟨rfl, f1⟩
      have hb1' : w1.heap[w.heap.size]? = some (.cells #[.int .i64 ticks, .int .i64 times, .int .i64 sum, .int .i64 once] 23 (0, 0)) := f1.obj (heap_new w _) (fun x => x)
      have Hf01 := Lib.hid (hf0.trans' f1)
      have Hb1 := Lib.hid hb1'
      clear f1 hf0 hb1'
      have hb2' := Hb1.out
      have y0 := cell_of hb2' 0
      simp at y0
      have hf02 := Hf01.out
      have c0 := (hf02.cell (p := ⟨l, 0, none⟩) hl (fun x => x)).trans C0.out
      have u1 := (hf02.cell (p := ⟨g, k * 4 + 1, none⟩) hgl (fun x => x)).trans U1.out
      have u2 := (hf02.cell (p := ⟨g, k * 4 + 2, none⟩) hgl (fun x => x)).trans U2.out
      have u3 := (hf02.cell (p := ⟨g, k * 4 + 3, none⟩) hgl (fun x => x)).trans U3.out
      have uf2 := (hf02.frozen (p := ⟨g, k * 4 + 2, none⟩) hgl (fun x => x)).trans (Uf.out _)
      have uf3 := (hf02.frozen (p := ⟨g, k * 4 + 3, none⟩) hgl (fun x => x)).trans (Uf.out _)
      have Hput2 := Lib.hid (fun q => Hput.out (w1.drewN q) (Hold.ok.fr0 Hh.out (hf02.drewN q)) c0)
      have Hf02 := Lib.hid hf02
      clear hf02 hb2'
      go_wp2_with fail
      refine (Hfind.out _ Hf02.out).mono ?_
      rintro e w' ⟨rfl, rfl⟩
      go_wp2_with fail
      go_quiet (fail)
      go_wp2_with fail
      go_region
      all_goals go_wp2
      all_goals go_ret
      all_goals
        obtain ⟨r1, r2⟩ := Hput2.out nq
        exact ⟨F, by rw [E.out]; rfl, by rw [EL.out]; exact Hold.ok.fr0 r1 ((Fr.refl _ _).drew), ((Step.same (Hf02.out.drewN _)).trans ⟨r2, fun _ h => .inl h⟩).trans (Step.same ((Fr.refl _ _).drew))⟩
    · have E := Lib.hid (E15.out Hyes.out)
      clear E0 E15 Hput
      have hyes' : (b1 = true) ∨ (b1 = false ∧ b2 = true) ∨ (b1 = false ∧ b2 = false ∧ u.sum < a) := by
        cases b1 <;> cases b2 <;> simp_all
      clear hyes
      rcases hyes' with rfl | ⟨rfl, rfl⟩ | ⟨rfl, rfl, hsu⟩
      all_goals
        go_enter Try.func18, Try.ntmps18
        go_wp2_with fail
        refine (Hm.out _).mono ?_
        rintro e w1 ⟨rfl, f1⟩
        have hb1' : w1.heap[w.heap.size]? = some (.cells #[.int .i64 ticks, .int .i64 times, .int .i64 sum, .int .i64 once] 23 (0, 0)) := f1.obj (heap_new w _) (fun x => x)
        have Hf01 := Lib.hid (hf0.trans' f1)
        have Hb1 := Lib.hid hb1'
        clear f1 hb1'
        have hb2' := Hb1.out
        have y0 := cell_of hb2' 0
        simp at y0
        have hf02 := Hf01.out
        have c0 := (hf02.cell (p := ⟨l, 0, none⟩) hl (fun x => x)).trans C0.out
        have u1 := (hf02.cell (p := ⟨g, k * 4 + 1, none⟩) hgl (fun x => x)).trans U1.out
        have u2 := (hf02.cell (p := ⟨g, k * 4 + 2, none⟩) hgl (fun x => x)).trans U2.out
        have u3 := (hf02.cell (p := ⟨g, k * 4 + 3, none⟩) hgl (fun x => x)).trans U3.out
        have Hf02 := Lib.hid hf02
        clear hf02 hb2'
        go_wp2_with fail
        refine (Hfind.out _ Hf02.out).mono ?_
        rintro e w' ⟨rfl, rfl⟩
        go_wp2_with fail
        go_quiet (fail)
        go_wp2_with fail
        go_ret
        exact rundo_no Hh.out rfl E.out (by omega) (Hf02.out.drewN _)

/-- THE DOCUMENT's Undo. -/
theorem rundo_any {l : Nat} {us : List Use} {w : World} {F : Nat → Prop} (h : RBookAt l us w F) (r : Rule) (s : ByteArray) (a n : Int) {x : Int} (hx : undoE us r s a n = x) {vs : List Use} (hv : undoL us r s a n = vs) :
    Calls Try.prog 18 #[.pointer (some ⟨l, 0, none⟩), r.val, .string s, .int .i64 a, .int .i64 n] w fun e w' => ∃ F', e = .returned (.int .i64 x) ∧ RBookAt l vs w' F' ∧ Step F F' w w' := by
  subst hx hv
  have key : Calls Try.prog 18 #[.pointer (some ⟨l, 0, none⟩), r.val, .string s, .int .i64 a, .int .i64 n] w (RUndoPost l us r s a n F w) := by
    cases hm : mayB r s a n with
    | false => exact rundo_bad h.1 r s a n hm
    | true => exact rundo_good h.1 h.2 r s a n hm
  exact key.mono fun e w' ⟨F', h1, h2, h3⟩ => ⟨F', h1, ⟨h2, good_undo h.2 r s a n⟩, h3⟩
end Go.Proofs.Ytkcepppldhaiaaa
