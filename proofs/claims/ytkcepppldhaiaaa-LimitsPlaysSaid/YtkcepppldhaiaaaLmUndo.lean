/-
  THE WALKS of Undo, New.
-/
import Derived.Test.YtkcepppldhaiaaaLmTry
namespace Go.Proofs.Ytkcepppldhaiaaa
open Go.RowKit

def UndoPost (l : Nat) (us : List Use) (r : Rule) (s : ByteArray) (a n : Int) (F : Nat → Prop) (w : World) (e : Ending) (w' : World) : Prop :=
  ∃ F', e = .returned (.int .i64 (undoE us r s a n)) ∧ Hold 53 40 UseR l (undoL us r s a n) w' F' ∧ Step F F' w w'
theorem undo_no {l : Nat} {us : List Use} {r : Rule} {s : ByteArray} {a n : Int} {F : Nat → Prop} {w w' : World} {e : Ending} (h : Hold 53 40 UseR l us w F) {x : Int} (he : e = .returned (.int .i64 x)) (hx : undoE us r s a n = x) (h0 : x ≠ 0) (hf : Fr noBlock w w') : UndoPost l us r s a n F w e w' :=
  ⟨F, by rw [hx]; exact he, by rw [undoL, if_neg (by rw [hx]; exact h0)]; exact Hold.ok.fr0 h hf, Step.same hf⟩
theorem undo_arg {us : List Use} {r : Rule} {s : ByteArray} {a n : Int} (h : mayB r s a n = false) : undoE us r s a n = 1 := by unfold undoE; rw [if_pos h]
theorem undo_none {us : List Use} {r : Rule} {s : ByteArray} {a n : Int} (h : mayB r s a n = true) (hf : findU us s = none) : undoE us r s a n = 15 := by unfold undoE; rw [if_neg (by simp [h]), find_of_none hf]
theorem undo_other {us : List Use} {r : Rule} {s : ByteArray} {a n : Int} (h : mayB r s a n = true) {k : Nat} (hf : findU us s = some k) (hk : k < us.length) (hx : us[k].window ≠ n / r.ticks ∨ us[k].times = 0 ∨ us[k].sum < a) : undoE us r s a n = 15 := by
  obtain ⟨_, _, h2⟩ := find_of_findU hf
  unfold undoE; rw [if_neg (by simp [h]), h2]; simp only; rw [if_pos hx]
theorem undo_ok {us : List Use} {r : Rule} {s : ByteArray} {a n : Int} (h : mayB r s a n = true) {k : Nat} (hf : findU us s = some k) (hk : k < us.length) (hx : ¬ (us[k].window ≠ n / r.ticks ∨ us[k].times = 0 ∨ us[k].sum < a)) : undoE us r s a n = 0 ∧ undoL us r s a n = us.set k (subU a us[k]) := by
  obtain ⟨_, _, h2⟩ := find_of_findU hf
  have : undoE us r s a n = 0 := by unfold undoE; rw [if_neg (by simp [h]), h2]; simp only; rw [if_neg hx]
  refine ⟨this, ?_⟩
  unfold undoL; rw [if_pos this, hf]; simp only; rw [modify_eq_set _ _ _ hk]

set_option maxRecDepth 100000 in
set_option maxHeartbeats 800000 in
theorem undo_bad {l : Nat} {us : List Use} {w : World} {F : Nat → Prop} (h : Hold 53 40 UseR l us w F) (r : Rule) (s : ByteArray) (a n : Int) (hm : mayB r s a n = false) :
    Calls Try.prog 21 #[.pointer (some ⟨l, 0, none⟩), r.val, .string s, .int .i64 a, .int .i64 n] w (UndoPost l us r s a n F w) := by
  have Hm := Lib.hid (fun W => may_any r s a n false hm W)
  have Hh := Lib.hid h
  have Ha := Lib.hid (undo_arg (us := us) hm)
  have hf0 := (Fr.refl noBlock w).alloc (.cells #[.int .i64 r.ticks, .int .i64 r.times, .int .i64 r.sum, .int .i64 r.once] 23)
  clear h hm
  obtain ⟨ticks, times, sum, once⟩ := r
  unfold Rule.val at *
  simp only at *
  go_enter Try.func21, Try.ntmps21
  go_wp2_with fail
  refine (Hm.out _).mono ?_
  rintro e w1 ⟨rfl, f1⟩
  go_wp2_with fail
  go_ret
  exact undo_no Hh.out rfl Ha.out (by omega) (hf0.trans' f1)

/-- two cells of one thing are written -/
theorem hold_put2 {T : TypeId} {l : Nat} {us : List Use} {w : World} {F : Nat → Prop} (h : Hold T 40 UseR l us w F) {g n cap k : Nat} (hc : w.cell? ⟨l, 0, none⟩ = some (.slice (some ⟨g, 0, none⟩) n cap)) (hk : k < us.length) (a : Int) :
    Hold T 40 UseR l (us.set k (subU a us[k])) ((w.setCell ⟨g, k * 4 + 2, none⟩ (.int .i64 (us[k].times - 1))).setCell ⟨g, k * 4 + 3, none⟩ (.int .i64 (us[k].sum - a))) F ∧
      Fr F w ((w.setCell ⟨g, k * 4 + 2, none⟩ (.int .i64 (us[k].times - 1))).setCell ⟨g, k * 4 + 3, none⟩ (.int .i64 (us[k].sum - a))) := by
  have hgl : g ≠ l := by
    obtain ⟨v, h1, h2, h3, h4⟩ := h
    intro e
    obtain rfl : v = .slice (some ⟨g, 0, none⟩) n cap := by
      have := cell_of h1 0
      rw [hc] at this
      simpa using this.symm
    exact h3 (by rw [e]; rfl)
  have k1 : (w.setCell ⟨g, k * 4 + 2, none⟩ (.int .i64 (us[k].times - 1))).cell? ⟨l, 0, none⟩ = w.cell? ⟨l, 0, none⟩ := World.cell?_of_block (w := w) (Below.heap_setCell w ⟨g, _, none⟩ _ l (fun e => hgl e.symm))
  obtain ⟨a1, b1⟩ := h.set (j := 2) (u := .int .i64 (us[k].times - 1)) hc hk (by show 2 < 4; omega) ⟨us[k].card, us[k].window, us[k].times - 1, us[k].sum⟩ rfl
  obtain ⟨a2, b2⟩ := a1.set (i := k) (j := 3) (u := .int .i64 (us[k].sum - a)) (k1.trans hc) (by simpa using hk) (by show 3 < 4; omega) (subU a us[k]) (by simp; rfl)
  rw [List.set_set] at a2
  exact ⟨a2, b1.trans' b2⟩

set_option maxRecDepth 100000 in
set_option maxHeartbeats 1600000 in
theorem undo_good {l : Nat} {us : List Use} {w : World} {F : Nat → Prop} (h : Hold 53 40 UseR l us w F) (hg : GoodU us) (r : Rule) (s : ByteArray) (a n : Int) (hm : mayB r s a n = true) :
    Calls Try.prog 21 #[.pointer (some ⟨l, 0, none⟩), r.val, .string s, .int .i64 a, .int .i64 n] w (UndoPost l us r s a n F w) := by
  have hlen := hg.len
  have Hm := Lib.hid (fun W => may_any r s a n true hm W)
  have Hh := Lib.hid h
  have Hfind := Lib.hid (fun (W : World) (hf : Fr noBlock w W) => find_any (Hold.ok.fr0 h hf) hlen s _ rfl)
  have hf0 := (Fr.refl noBlock w).alloc (.cells #[.int .i64 r.ticks, .int .i64 r.times, .int .i64 r.sum, .int .i64 r.once] 23)
  obtain ⟨hr, hcd, ha0, ha1, hn0, hn1⟩ := may_iff.1 hm
  obtain ⟨t1, t2, t3, t4, t5, t6, t7, t8⟩ := right_iff.1 hr
  have hdiv : 0 ≤ n / r.ticks := Int.ediv_nonneg hn0 (by omega)
  obtain ⟨vo, cap, c0, f0, hl, hc1, hc2, hrow, hgf, _⟩ := h.opened
  cases hfu : findU us s with
  | none =>
    have E := Lib.hid (undo_none hm hfu)
    rw [hfu] at Hfind
    simp only [idxI] at Hfind
    obtain ⟨ticks, times, sum, once⟩ := r
    unfold Rule.val at *
    simp only at *
    clear hm hr hcd h hg hrow hfu c0 f0 hgf
    go_enter Try.func21, Try.ntmps21
    go_wp2_with fail
    refine (Hm.out _).mono ?_
    rintro e w1 ⟨rfl, f1⟩
    have Hf01 := Lib.hid (hf0.trans' f1)
    clear f1 hf0
    go_wp2_with fail
    refine (Hfind.out _ Hf01.out).mono ?_
    rintro e w2 ⟨rfl, f2⟩
    have Hf02 := Lib.hid (Hf01.out.trans' f2)
    clear f2
    go_wp2_with fail
    go_ret
    exact undo_no Hh.out rfl E.out (by omega) Hf02.out
  | some k =>
    obtain ⟨hk, _, _⟩ := find_of_findU hfu
    obtain ⟨g, rfl, hgl, _, _, u0, u1, u2, u3, uf⟩ := use_own hrow hk
    obtain ⟨hu1, hu2, hu3, hu4, hu5, hu6⟩ := hg.each _ (List.getElem_mem hk)
    have E15 := Lib.hid (fun h => undo_other hm hfu hk h)
    have E0 := Lib.hid (fun h => undo_ok hm hfu hk h)
    have Hput := Lib.hid (fun (W : World) (hh : Hold 53 40 UseR l us W F) (hc : W.cell? ⟨l, 0, none⟩ = some (.slice (some ⟨g, 0, none⟩) us.length cap)) => hold_put2 hh hc hk a)
    rw [hfu] at Hfind
    simp only [idxI] at Hfind
    have hk0 : (0 : Int) ≤ (k : Int) := by omega
    have hk1 : (k : Int) < (us.length : Int) := by omega
    have hq : (us[k].window = n / r.ticks ∧ us[k].times ≠ 0 ∧ a ≤ us[k].sum) ∨ (us[k].window ≠ n / r.ticks) ∨ (us[k].window = n / r.ticks ∧ us[k].times = 0) ∨ (us[k].window = n / r.ticks ∧ us[k].times ≠ 0 ∧ us[k].sum < a) := by omega
    obtain ⟨ticks, times, sum, once⟩ := r
    unfold Rule.val at *
    simp only at *
    have C0 := Lib.hid c0
    have U1 := Lib.hid u1
    have U2 := Lib.hid u2
    have U3 := Lib.hid u3
    have Uf := Lib.hid uf
    clear hm hr hcd h hg hrow hfu c0 f0 hgf u0 u1 u2 u3 uf
    generalize us[k] = u at *
    have hq' : ∃ b1 b2 : Bool, (u.window != n / ticks) = b1 ∧ (u.times == 0) = b2 ∧ ((b1 = false ∧ b2 = false ∧ a ≤ u.sum ∧ Hid (¬(u.window ≠ n / ticks ∨ u.times = 0 ∨ u.sum < a))) ∨ ((b1 = true ∨ b2 = true ∨ u.sum < a) ∧ Hid (u.window ≠ n / ticks ∨ u.times = 0 ∨ u.sum < a))) := by
      refine ⟨_, _, rfl, rfl, ?_⟩
      simp only [bne_eq_false_iff_eq, bne_iff_ne, beq_iff_eq, beq_eq_false_iff_ne]
      unfold Hid
      omega
    clear hq
    obtain ⟨b1, b2, hb1, hb2, hb3⟩ := hq'
    rcases hb3 with ⟨rfl, rfl, hle, Hno⟩ | ⟨hyes, Hyes⟩
    · obtain ⟨e0, eL⟩ := E0.out Hno.out
      have E := Lib.hid e0
      have EL := Lib.hid eL
      clear e0 eL E0 E15
      go_enter Try.func21, Try.ntmps21
      go_wp2_with fail
      refine (Hm.out _).mono ?_
      rintro e w1 ⟨rfl, f1⟩
      have hb1' : w1.heap[w.heap.size]? = some (.cells #[.int .i64 ticks, .int .i64 times, .int .i64 sum, .int .i64 once] 23 (0, 0)) := f1.obj (heap_new w _) (fun x => x)
      have Hf01 := Lib.hid (hf0.trans' f1)
      have Hb1 := Lib.hid hb1'
      clear f1 hf0 hb1'
      go_wp2_with fail
      refine (Hfind.out _ Hf01.out).mono ?_
      rintro e w2 ⟨rfl, f2⟩
      have hb2' : w2.heap[w.heap.size]? = _ := f2.obj Hb1.out (fun x => x)
      have y0 := cell_of hb2' 0
      simp at y0
      have hf02 := Hf01.out.trans' f2
      have c0 := (hf02.cell (p := ⟨l, 0, none⟩) hl (fun x => x)).trans C0.out
      have u1 := (hf02.cell (p := ⟨g, k * 4 + 1, none⟩) hgl (fun x => x)).trans U1.out
      have u2 := (hf02.cell (p := ⟨g, k * 4 + 2, none⟩) hgl (fun x => x)).trans U2.out
      have u3 := (hf02.cell (p := ⟨g, k * 4 + 3, none⟩) hgl (fun x => x)).trans U3.out
      have uf2 := (hf02.frozen (p := ⟨g, k * 4 + 2, none⟩) hgl (fun x => x)).trans (Uf.out _)
      have uf3 := (hf02.frozen (p := ⟨g, k * 4 + 3, none⟩) hgl (fun x => x)).trans (Uf.out _)
      have Hput2 := Lib.hid (fun q => Hput.out (w2.drewN q) (Hold.ok.fr0 Hh.out (hf02.drewN q)) c0)
      have Hf02 := Lib.hid hf02
      clear f2 hf02 hb2'
      go_wp2_with fail
      go_quiet (fail)
      go_wp2_with fail
      go_ret
      obtain ⟨r1, r2⟩ := Hput2.out _
      exact ⟨F, by rw [E.out]; rfl, by rw [EL.out]; exact r1, (Step.same (Hf02.out.drewN _)).trans ⟨r2, fun _ h => .inl h⟩⟩
    · have E := Lib.hid (E15.out Hyes.out)
      clear E0 E15 Hput
      have hyes' : (b1 = true) ∨ (b1 = false ∧ b2 = true) ∨ (b1 = false ∧ b2 = false ∧ u.sum < a) := by
        cases b1 <;> cases b2 <;> simp_all
      clear hyes
      rcases hyes' with rfl | ⟨rfl, rfl⟩ | ⟨rfl, rfl, hsu⟩
      all_goals
        go_enter Try.func21, Try.ntmps21
        go_wp2_with fail
        refine (Hm.out _).mono ?_
        rintro e w1 ⟨rfl, f1⟩
        have hb1' : w1.heap[w.heap.size]? = some (.cells #[.int .i64 ticks, .int .i64 times, .int .i64 sum, .int .i64 once] 23 (0, 0)) := f1.obj (heap_new w _) (fun x => x)
        have Hf01 := Lib.hid (hf0.trans' f1)
        have Hb1 := Lib.hid hb1'
        clear f1 hb1'
        go_wp2_with fail
        refine (Hfind.out _ Hf01.out).mono ?_
        rintro e w2 ⟨rfl, f2⟩
        have hb2' : w2.heap[w.heap.size]? = _ := f2.obj Hb1.out (fun x => x)
        have y0 := cell_of hb2' 0
        simp at y0
        have hf02 := Hf01.out.trans' f2
        have c0 := (hf02.cell (p := ⟨l, 0, none⟩) hl (fun x => x)).trans C0.out
        have u1 := (hf02.cell (p := ⟨g, k * 4 + 1, none⟩) hgl (fun x => x)).trans U1.out
        have u2 := (hf02.cell (p := ⟨g, k * 4 + 2, none⟩) hgl (fun x => x)).trans U2.out
        have u3 := (hf02.cell (p := ⟨g, k * 4 + 3, none⟩) hgl (fun x => x)).trans U3.out
        have Hf02 := Lib.hid hf02
        clear f2 hf02 hb2'
        go_wp2_with fail
        go_quiet (fail)
        go_wp2_with fail
        go_ret
        exact undo_no Hh.out rfl E.out (by omega) (Hf02.out.drewN _)

/-- IT IS GIVEN BACK, OR NOT. -/
theorem undo_any {l : Nat} {us : List Use} {w : World} {F : Nat → Prop} (h : BookAt l us w F) (r : Rule) (s : ByteArray) (a n : Int) {x : Int} (hx : undoE us r s a n = x) {vs : List Use} (hv : undoL us r s a n = vs) :
    Calls Try.prog 21 #[.pointer (some ⟨l, 0, none⟩), r.val, .string s, .int .i64 a, .int .i64 n] w fun e w' => ∃ F', e = .returned (.int .i64 x) ∧ BookAt l vs w' F' ∧ Step F F' w w' := by
  subst hx hv
  have key : Calls Try.prog 21 #[.pointer (some ⟨l, 0, none⟩), r.val, .string s, .int .i64 a, .int .i64 n] w (UndoPost l us r s a n F w) := by
    cases hm : mayB r s a n with
    | false => exact undo_bad h.1 r s a n hm
    | true => exact undo_good h.1 h.2 r s a n hm
  exact key.mono fun e w' ⟨F', h1, h2, h3⟩ => ⟨F', h1, ⟨h2, good_undo h.2 r s a n⟩, h3⟩

set_option maxHeartbeats 400000 in
theorem new_any (w : World) : Calls Try.prog 9 #[] w fun e w' => ∃ l F, e = .returned (.pointer (some ⟨l, 0, none⟩)) ∧ BookAt l [] w' F ∧ Fr noBlock w w' ∧ ∀ k, F k → w.heap.size ≤ k := by
  go_enter Try.func9, Try.ntmps9
  go_wp2
  go_ret
  exact ⟨w.heap.size, _, rfl, ⟨Hold.made w, GoodU.nil⟩, (Fr.refl _ _).alloc _, fun k hk => by subst hk; exact Nat.le_refl _⟩
end Go.Proofs.Ytkcepppldhaiaaa
