/-
  THE WALKS of room, Try.
-/
import Derived.Test.YtkcepppldhaiaaaLmDelete
import Derived.Deep.RegionHeld3
import Derived.Deep.DeepCutAuto
import Derived.Deep.CutBlock
import Derived.Deep.LoopGhost
namespace Go.Proofs.Ytkcepppldhaiaaa
open Go.RowKit

/-- the index of a use of another window, in a book -/
theorem indexW_any {us : List Use} {w : World} (hlen : us.length ≤ 16) (win : Int) {vo : Option Addr} {cap : Nat} (hr : RowAt 40 UseR w (.slice vo us.length cap) us) :
    Calls Try.prog 33 #[.slice vo us.length cap, .func (.func 35) #[] #[.pointer (some ⟨w.heap.size, 0, none⟩)]] (w.alloc (.cells #[.int .i64 win] 3)) fun e w' => e = .returned (.int .i64 (idxI (findW us win))) ∧ Fr noBlock (w.alloc (.cells #[.int .i64 win] 3)) w' := by
  have hf0 := (Fr.refl noBlock w).alloc (.cells #[.int .i64 win] 3)
  have hrd := (RowRd.of_at hr (small_len (by omega))).fr0 hf0
  rw [← idxP_win]
  exact indexU_any vo cap us 35 #[.pointer (some ⟨w.heap.size, 0, none⟩)] (enters_of Try.func35 (by kernel_rfl) rfl) (fun u => decide (u.window ≠ win)) _ hrd (fun W u hf => by
    have h0 : (w.alloc (.cells #[.int .i64 win] 3)).cell? ⟨w.heap.size, 0, none⟩ = some (.int .i64 win) := by simp
    have h1 : W.cell? ⟨w.heap.size, 0, none⟩ = some (.int .i64 win) := (hf.cell (p := ⟨w.heap.size, 0, none⟩) (by simp) (fun x => x)).trans h0
    exact room1_any u win w.heap.size W h1 (Nat.lt_of_lt_of_le (by simp) hf.size))

def RoomPost (l : Nat) (us : List Use) (win : Int) (F : Nat → Prop) (w : World) (e : Ending) (w' : World) : Prop :=
  ∃ F', e = .returned (.bool (!(decide (16 ≤ us.length) && (findW us win).isNone))) ∧ Hold 53 40 UseR l (roomL us win) w' F' ∧ Step F F' w w'

set_option maxHeartbeats 800000 in
theorem room_any {l : Nat} {us : List Use} {w : World} {F : Nat → Prop} (h : Hold 53 40 UseR l us w F) (hlen : us.length ≤ 16) (win : Int) :
    Calls Try.prog 26 #[.pointer (some ⟨l, 0, none⟩), .int .i64 win] w (RoomPost l us win F w) := by
  obtain ⟨vo, cap, c0, f0, hl, hc1, hc2, hr, hgs, hob, hnil, hfo⟩ := h.opened
  have hf0 := (Fr.refl noBlock w).alloc (.cells #[.int .i64 win] 3)
  by_cases h16 : us.length < 16
  · have h16' : (us.length : Int) < 16 := by omega
    have hroom : roomL us win = us := by unfold roomL; rw [if_pos h16]
    have Hr := Lib.hid hroom
    have Hh := Lib.hid h
    clear hr h hroom hgs hob hnil hfo
    go_enter Try.func26, Try.ntmps26
    go_wp2
    go_ret
    refine ⟨F, ?_, ?_, Step.same hf0⟩
    · exact ret_bool (by rw [decide_eq_false (by omega)]; rfl)
    · rw [Hr.out]; exact Hold.ok.fr0 Hh.out hf0
  · have h16' : (16 : Int) ≤ (us.length : Int) := by omega
    have Hi := Lib.hid (indexW_any hlen win hr)
    have hd : (decide (16 ≤ us.length)) = true := decide_eq_true (by omega)
    cases hw : findW us win with
    | none =>
      have hroom : roomL us win = us := by unfold roomL; rw [if_neg h16, hw]
      have Hr := Lib.hid hroom
      have Hh := Lib.hid h
      have Hd := Lib.hid (And.intro hd hw)
      rw [hw] at Hi
      simp only [idxI] at Hi
      clear hr h hroom hgs hob hnil hfo hd hw
      go_enter Try.func26, Try.ntmps26
      go_wp2_with fail
      refine Hi.out.mono ?_
      rintro e w' ⟨rfl, hf'⟩
      have Hf' := Lib.hid (hf0.trans' hf')
      clear hf' hf0
      go_wp2
      go_ret
      refine ⟨F, ?_, ?_, Step.same Hf'.out⟩
      · exact ret_bool (by rw [Hd.out.1, Hd.out.2]; rfl)
      · rw [Hr.out]; exact Hold.ok.fr0 Hh.out Hf'.out
    | some k =>
      have hroom : roomL us win = us.eraseIdx k := by unfold roomL; rw [if_neg h16, hw]
      have hk : k < us.length := by
        have h' := hw
        unfold findW at h'
        rw [List.findIdx?_eq_some_iff_getElem] at h'
        exact h'.1
      obtain ⟨g, rfl, hg, _, _, _⟩ := hr.elem hk
      have Hr := Lib.hid hroom
      have Hh := Lib.hid h
      have Hd := Lib.hid (And.intro hd hw)
      rw [hw] at Hi
      simp only [idxI] at Hi
      have Hgl := Lib.hid (hgs g rfl)
      have Hrow := Lib.hid hr
      have hk' : (k : Int) < 16 := by omega
      have hk0 : (0 : Int) ≤ (k : Int) := by omega
      clear hr h hroom hgs hob hnil hfo hd hw
      go_enter Try.func26, Try.ntmps26
      go_wp2_with fail
      refine Hi.out.mono ?_
      rintro e w1 ⟨rfl, hf'⟩
      have hf1 := hf0.trans' hf'
      have d0 := (hf1.cell (p := ⟨l, 0, none⟩) hl (fun x => x)).trans c0
      have Hdel := Lib.hid (delete_any g cap k us w1 (Hrow.out.fr0 hf1) hk (by omega) hc2)
      have Hf1 := Lib.hid hf1
      have Hh1 := Lib.hid (Hold.ok.fr0 Hh.out hf1)
      have hl1 : l < w1.heap.size := Nat.lt_of_lt_of_le hl hf1.size
      clear hf' hf0 hf1
      go_wp2_with fail
      refine Hdel.out.mono ?_
      rintro e w2 ⟨rfl, hrow2, hf2⟩
      have e0 := (hf2.cell (p := ⟨l, 0, none⟩) hl1 (fun e => Hgl.out.1 e.symm)).trans d0
      have ef := (hf2.frozen (p := ⟨l, 0, none⟩) hl1 (fun e => Hgl.out.1 e.symm)).trans ((Hf1.out.frozen (p := ⟨l, 0, none⟩) hl (fun x => x)).trans f0)
      have hle : (us.eraseIdx k).length = us.length - 1 := by rw [List.length_eraseIdx, if_pos hk]
      have Hrep := Lib.hid (Hh1.out.replace (ys := us.eraseIdx k) (hf2.mono (fun b hb => by subst hb; exact Hgl.out.2)) (hf2.block l hl1 (fun e => Hgl.out.1 e.symm)) hrow2 (fun b hb => by
        obtain rfl : g = b := by simpa [Value.ownBlock] using hb
        exact ⟨Hgl.out.1, .inl Hgl.out.2⟩))
      clear hrow2 hf2 hle
      go_wp2
      go_ret
      obtain ⟨hh, hs⟩ := Hrep.out
      refine ⟨_, ?_, by rw [Hr.out]; exact hh, (Step.same Hf1.out).trans hs⟩
      exact ret_bool (by rw [Hd.out.1, Hd.out.2]; rfl)

/-- a thing of four cells is written over -/
theorem hold_put4 {T : TypeId} {l : Nat} {us : List Use} {w : World} {F : Nat → Prop} (h : Hold T 40 UseR l us w F) {g n cap k : Nat} (hc : w.cell? ⟨l, 0, none⟩ = some (.slice (some ⟨g, 0, none⟩) n cap)) (hk : k < us.length) (y : Use) :
    Hold T 40 UseR l (us.set k y) ((((w.setCell ⟨g, k * 4, none⟩ (.string y.card)).setCell ⟨g, k * 4 + 1, none⟩ (.int .i64 y.window)).setCell ⟨g, k * 4 + 2, none⟩ (.int .i64 y.times)).setCell ⟨g, k * 4 + 3, none⟩ (.int .i64 y.sum)) F ∧
      Fr F w ((((w.setCell ⟨g, k * 4, none⟩ (.string y.card)).setCell ⟨g, k * 4 + 1, none⟩ (.int .i64 y.window)).setCell ⟨g, k * 4 + 2, none⟩ (.int .i64 y.times)).setCell ⟨g, k * 4 + 3, none⟩ (.int .i64 y.sum)) := by
  have hgl : g ≠ l := by
    obtain ⟨v, h1, h2, h3, h4⟩ := h
    intro e
    obtain rfl : v = .slice (some ⟨g, 0, none⟩) n cap := by
      have := cell_of h1 0
      rw [hc] at this
      simpa using this.symm
    exact h3 (by rw [e]; rfl)
  have key : ∀ (W : World) (o : Nat) (u : Value), W.cell? ⟨l, 0, none⟩ = w.cell? ⟨l, 0, none⟩ → (W.setCell ⟨g, o, none⟩ u).cell? ⟨l, 0, none⟩ = w.cell? ⟨l, 0, none⟩ := fun W o u hW =>
    (World.cell?_of_block (w := W) (Below.heap_setCell W ⟨g, o, none⟩ u l (fun e => hgl e.symm))).trans hW
  have k1 := key w (k * 4) (.string y.card) rfl
  have k2 := key _ (k * 4 + 1) (.int .i64 y.window) k1
  have k3 := key _ (k * 4 + 2) (.int .i64 y.times) k2
  obtain ⟨a1, b1⟩ := h.set (j := 0) (u := .string y.card) hc hk (by show 0 < 4; omega) ⟨y.card, us[k].window, us[k].times, us[k].sum⟩ rfl
  obtain ⟨a2, b2⟩ := a1.set (i := k) (j := 1) (u := .int .i64 y.window) (k1.trans hc) (by simpa using hk) (by show 1 < 4; omega) ⟨y.card, y.window, us[k].times, us[k].sum⟩ (by simp; rfl)
  obtain ⟨a3, b3⟩ := a2.set (i := k) (j := 2) (u := .int .i64 y.times) (k2.trans hc) (by simpa using hk) (by show 2 < 4; omega) ⟨y.card, y.window, y.times, us[k].sum⟩ (by simp; rfl)
  obtain ⟨a4, b4⟩ := a3.set (i := k) (j := 3) (u := .int .i64 y.sum) (k3.trans hc) (by simpa using hk) (by show 3 < 4; omega) y (by simp; rfl)
  have e : (((us.set k ⟨y.card, us[k].window, us[k].times, us[k].sum⟩).set k ⟨y.card, y.window, us[k].times, us[k].sum⟩).set k ⟨y.card, y.window, y.times, us[k].sum⟩).set k y = us.set k y := by simp [List.set_set]
  rw [e] at a4
  exact ⟨a4, ((b1.trans' b2).trans' b3).trans' b4⟩

def TryPost (l : Nat) (us : List Use) (r : Rule) (s : ByteArray) (a n : Int) (F : Nat → Prop) (w : World) (e : Ending) (w' : World) : Prop :=
  ∃ F', e = .returned (.int .i64 (tryE us r s a n)) ∧ Hold 53 40 UseR l (tryL us r s a n) w' F' ∧ Step F F' w w'
theorem try_no {l : Nat} {us : List Use} {r : Rule} {s : ByteArray} {a n : Int} {F : Nat → Prop} {w w' : World} {e : Ending} (h : Hold 53 40 UseR l us w F) {x : Int} (he : e = .returned (.int .i64 x)) (hx : tryE us r s a n = x) (h0 : x ≠ 0) (hf : Fr noBlock w w') : TryPost l us r s a n F w e w' :=
  ⟨F, by rw [hx]; exact he, by rw [tryL, if_neg (by rw [hx]; exact h0)]; exact Hold.ok.fr0 h hf, Step.same hf⟩
theorem try_arg {us : List Use} {r : Rule} {s : ByteArray} {a n : Int} (h : mayB r s a n = false) : tryE us r s a n = 1 := by unfold tryE; rw [if_pos h]
theorem try_once {us : List Use} {r : Rule} {s : ByteArray} {a n : Int} (h : mayB r s a n = true) (h1 : r.once < a) : tryE us r s a n = 17 := by unfold tryE; rw [if_neg (by simp [h]), if_pos h1]
theorem try_count {us : List Use} {r : Rule} {s : ByteArray} {a n : Int} (h : mayB r s a n = true) (h1 : ¬ r.once < a) (h2 : r.times ≤ (curU us s (n / r.ticks)).times) : tryE us r s a n = 18 := by unfold tryE; rw [if_neg (by simp [h]), if_neg h1, if_pos h2]
theorem try_sum {us : List Use} {r : Rule} {s : ByteArray} {a n : Int} (h : mayB r s a n = true) (h1 : ¬ r.once < a) (h2 : ¬ r.times ≤ (curU us s (n / r.ticks)).times) (h3 : r.sum - a < (curU us s (n / r.ticks)).sum) : tryE us r s a n = 17 := by unfold tryE; rw [if_neg (by simp [h]), if_neg h1, if_neg h2, if_pos h3]
theorem try_full {us : List Use} {r : Rule} {s : ByteArray} {a n : Int} (h : mayB r s a n = true) (h1 : ¬ r.once < a) (h2 : ¬ r.times ≤ (curU us s (n / r.ticks)).times) (h3 : ¬ r.sum - a < (curU us s (n / r.ticks)).sum) (h4 : fullB us s (n / r.ticks) = true) : tryE us r s a n = 14 := by unfold tryE; rw [if_neg (by simp [h]), if_neg h1, if_neg h2, if_neg h3, if_pos h4]
theorem try_ok {us : List Use} {r : Rule} {s : ByteArray} {a n : Int} (h : mayB r s a n = true) (h1 : ¬ r.once < a) (h2 : ¬ r.times ≤ (curU us s (n / r.ticks)).times) (h3 : ¬ r.sum - a < (curU us s (n / r.ticks)).sum) (h4 : fullB us s (n / r.ticks) = false) : tryE us r s a n = 0 := by unfold tryE; rw [if_neg (by simp [h]), if_neg h1, if_neg h2, if_neg h3, if_neg (by simp [h4])]

set_option maxRecDepth 100000 in
set_option maxHeartbeats 800000 in
/-- what is refused as no argument that may be -/
theorem try_bad {l : Nat} {us : List Use} {w : World} {F : Nat → Prop} (h : Hold 53 40 UseR l us w F) (r : Rule) (s : ByteArray) (a n : Int) (hm : mayB r s a n = false) :
    Calls Try.prog 12 #[.pointer (some ⟨l, 0, none⟩), r.val, .string s, .int .i64 a, .int .i64 n] w (TryPost l us r s a n F w) := by
  have Hm := Lib.hid (fun W => may_any r s a n false hm W)
  have Hh := Lib.hid h
  have Ha := Lib.hid (try_arg (us := us) hm)
  have hf0 := (Fr.refl noBlock w).alloc (.cells #[.int .i64 r.ticks, .int .i64 r.times, .int .i64 r.sum, .int .i64 r.once] 23)
  clear h hm
  obtain ⟨ticks, times, sum, once⟩ := r
  unfold Rule.val at *
  simp only at *
  go_enter Try.func12, Try.ntmps12
  go_wp2_with fail
  refine (Hm.out _).mono ?_
  rintro e w1 ⟨rfl, f1⟩
  go_wp2_with fail
  go_ret
  exact try_no Hh.out rfl Ha.out (by omega) (hf0.trans' f1)
end Go.Proofs.Ytkcepppldhaiaaa
