/-
  THE WALK of the law LimitsAnew.
-/
import Derived.Test.YtkcepppldhaiaaaLmLaw
import Derived.StillTailTactics
namespace Go.Proofs.Ytkcepppldhaiaaa
open Go.RowKit

/-- no use lies in a window behind 'now' -/
def AnewInv (r : Rule) (now : Int) (us : List Use) : Prop := ∀ u ∈ us, r.right = true ∧ u.window ≤ now / r.ticks
theorem AnewInv.nil {r : Rule} {now : Int} : AnewInv r now [] := fun _ h => by cases h
theorem AnewInv.try {r : Rule} {now : Int} {us : List Use} (h : AnewInv r now us) (s : ByteArray) (a n : Int) (hn : n ≤ now) : AnewInv r now (tryL us r s a n) := by
  unfold tryL
  split
  · rename_i h0
    obtain ⟨h1, _⟩ := tryE_zero h0
    obtain ⟨hr, _, _, _, hn0, _⟩ := may_iff.1 h1
    obtain ⟨t1, _⟩ := right_iff.1 hr
    have hu : r.right = true ∧ (addU (curU us s (n / r.ticks)) a).window ≤ now / r.ticks := by
      refine ⟨hr, ?_⟩
      show (curU us s (n / r.ticks)).window ≤ _
      rw [(cur_card us s (n / r.ticks)).2]
      exact Int.ediv_le_ediv (by omega) hn
    split
    · intro u hu'
      rcases mem_set' hu' with hu' | rfl
      · exact h u hu'
      · exact hu
    · intro u hu'
      rcases List.mem_append.1 hu' with hu' | hu'
      · exact h u (room_mem hu')
      · simp at hu'; subst hu'; exact hu
  · exact h
def fineB (r : Rule) (a : Int) : Bool := decide (0 ≤ a) && decide (a ≤ 999999999999) && decide (a ≤ r.once) && decide (a ≤ r.sum) && decide (0 < r.times)
theorem anew_ok {r : Rule} {now : Int} {us : List Use} (h : AnewInv r now us) (s : ByteArray) (a : Int) (hr : r.right = true) (hn0 : 0 ≤ now) (hn1 : now ≤ 549755813888) (ht : r.ticks ≤ 549755813888) (hc : cardB s = true) :
    (tryE us r s a (now + r.ticks) == 0) = fineB r a := by
  obtain ⟨t1, t2, t3, t4, t5, t6, t7, t8⟩ := right_iff.1 hr
  have hdiv : now / r.ticks < (now + r.ticks) / r.ticks := by
    have : now + r.ticks = now + 1 * r.ticks := by omega
    rw [this, Int.add_mul_ediv_right _ _ (by omega)]; omega
  have hcur : curU us s ((now + r.ticks) / r.ticks) = ⟨s, (now + r.ticks) / r.ticks, 0, 0⟩ := by
    cases hf : findU us s with
    | none => exact cur_none hf _
    | some k =>
      obtain ⟨hk, e⟩ := cur_some hf ((now + r.ticks) / r.ticks)
      rw [e, if_neg]
      have := (h _ (List.getElem_mem hk)).2
      omega
  have hful : fullB us s ((now + r.ticks) / r.ticks) = false := by
    cases hfb : fullB us s ((now + r.ticks) / r.ticks) with
    | false => rfl
    | true =>
      simp only [fullB, Bool.and_eq_true, decide_eq_true_eq, Option.isNone_iff_eq_none] at hfb
      obtain ⟨⟨_, h16⟩, hw⟩ := hfb
      rw [findW_none] at hw
      have h0 : 0 < us.length := by omega
      have e1 := hw _ (List.getElem_mem h0)
      have e2 := (h _ (List.getElem_mem h0)).2
      omega
  by_cases hfine : fineB r a = true
  · rw [hfine]
    simp only [fineB, Bool.and_eq_true, decide_eq_true_eq] at hfine
    obtain ⟨⟨⟨⟨f1, f2⟩, f3⟩, f4⟩, f5⟩ := hfine
    have hm : mayB r s a (now + r.ticks) = true := may_iff.2 ⟨hr, hc, f1, f2, by omega, by omega⟩
    rw [try_ok hm (by omega) (by rw [hcur]; show ¬ r.times ≤ 0; omega) (by rw [hcur]; show ¬ r.sum - a < 0; omega) hful]
    rfl
  · have hf : fineB r a = false := by simpa using hfine
    rw [hf, beq_eq_false_iff_ne]
    intro h0
    obtain ⟨h1, h2, h3, h4, _⟩ := tryE_zero h0
    obtain ⟨_, _, ha0, ha1, _⟩ := may_iff.1 h1
    rw [hcur] at h3 h4
    apply hfine
    simp only [fineB, Bool.and_eq_true, decide_eq_true_eq]
    simp only at h3 h4
    omega

set_option maxRecDepth 100000 in
set_option maxHeartbeats 1600000 in
theorem anew_walk (ao : Option Addr) (cap : Nat) (xs : List LAct) (r : Rule) (card : ByteArray) (amount now : Int) (w : World) (ha : RowRd ActR w ao xs) :
    Calls Try.prog 4 #[r.val, .slice ao xs.length cap, .string card, .int .i64 amount, .int .i64 now] w fun e w' => e = .returned (.bool true) ∧ Below w.heap.size w w' := by
  have hlen := ha.len
  unfold maxLen at hlen
  have hrr := fun W => right_any r _ rfl W
  have Hanew := Lib.hid (fun (us : List Use) (h : AnewInv r now us) => anew_ok h card amount)
  have Htry := Lib.hid (fun (us : List Use) (h : AnewInv r now us) => h.try)
  obtain ⟨ticks, times, sum, once⟩ := r
  have hf0 := (Fr.refl noBlock w).alloc (.cells #[.int .i64 ticks, .int .i64 times, .int .i64 sum, .int .i64 once] 23)
  have ha0 := ha.fr0 hf0
  have hrc := rule_cells (heap_new w (.cells #[.int .i64 ticks, .int .i64 times, .int .i64 sum, .int .i64 once] 23))
  obtain ⟨w0, hw0⟩ : ∃ w0, w0 = w.alloc (.cells #[.int .i64 ticks, .int .i64 times, .int .i64 sum, .int .i64 once] 23) := ⟨_, rfl⟩
  have hsz : w0.heap.size = w.heap.size + 1 := by rw [hw0]; simp
  have hb0 : Below w.heap.size w w0 := by rw [hw0]; exact hf0.below (Nat.le_refl _) (fun _ h => h.elim)
  rw [← hw0] at ha0 hrc
  have Hw0 := Lib.hid hw0
  have Hrr := Lib.hid hrr
  clear hw0 hf0 ha hrr
  unfold Rule.val at *
  simp only at *
  go_enter Try.func4, Try.ntmps4
  go_wp2_with fail
  rw [← Hw0.out]
  refine (small_any _).mono ?_
  rintro e w1 ⟨rfl, b1⟩
  go_wp2_with fail
  refine (MyBook.new (w0 := w0) b1).mono ?_
  rintro e w2 ⟨l, F2, rfl, h2⟩
  clear b1
  go_wp2_with fail
  go_loopw [13] (fun s13 wr => ∃ (k : Nat) (us : List Use) (F : Nat → Prop), k ≤ xs.length ∧ s13 = .int .i64 k ∧ MyBook w0 l us wr F ∧ AnewInv ⟨ticks, times, sum, once⟩ now us) (fun s13 _ => xs.length - (intOf s13).toNat)
  case atStart => exact ⟨0, [], F2, Nat.zero_le _, rfl, h2, AnewInv.nil⟩
  case round =>
    obtain ⟨k, us, F, hk, rfl, hm, hi⟩ := hrel
    have hrb : w.heap.size < w0.heap.size := by omega
    have y0 := (hm.below.cell (p := ⟨w.heap.size, 0, none⟩) hrb).trans hrc.1
    have y1 := (hm.below.cell (p := ⟨w.heap.size, 1, none⟩) hrb).trans hrc.2.1
    have y2 := (hm.below.cell (p := ⟨w.heap.size, 2, none⟩) hrb).trans hrc.2.2.1
    have y3 := (hm.below.cell (p := ⟨w.heap.size, 3, none⟩) hrb).trans hrc.2.2.2
    by_cases hlt : k < xs.length ∧ k < 60
    · obtain ⟨h1, h60⟩ := hlt
      obtain ⟨b, off, rfl, hb, c0, c1, c2, c3, c4, c5, c6, c7⟩ := act_cells (ha0.below hm.below) h1
      have h1' : (k : Int) < (xs.length : Int) := by omega
      have h60' : (k : Int) < 60 := by omega
      have hk0 : (0 : Int) ≤ (k : Int) := by omega
      have hcall : MyBook w0 l us wr.drew F := hm.fr BookAt.ok ((Fr.refl noBlock wr).drew)
      have Hcall := Lib.hid hcall
      have Hm := Lib.hid hm
      have Hi := Lib.hid hi
      generalize xs[k] = a at *
      obtain ⟨op, ⟨r0, r1, r2, r3⟩, acard, aamt, aat⟩ := a
      simp only at c0 c1 c2 c3 c4 c5 c6 c7
      clear hcall hm hi c0 c1 c2 c3 c4
      by_cases hle : aat ≤ now
      · go_wp2_with fail
        go_still_tail 17, (by kernel_rfl)
        change wpList _ _ _ _ _ wr.drew
        have Hc := Lib.hid (Hcall.out.try_ ⟨ticks, times, sum, once⟩ acard aamt aat rfl rfl)
        have Hi' := Lib.hid (Htry.out us Hi.out acard aamt aat hle)
        clear y0 y1 y2 y3
        generalize tryL us ⟨ticks, times, sum, once⟩ acard aamt aat = vs at *
        generalize tryE us ⟨ticks, times, sum, once⟩ acard aamt aat = x at *
        unfold Rule.val at Hc
        go_wp2_with fail
        refine Hc.out.mono ?_
        rintro e w3 ⟨F3, rfl, h3, _⟩
        go_wp2_with fail
        go_roundw
        case rel => exact ⟨k + 1, vs, F3, by omega, by go_num, h3, Hi'.out⟩
        case measure => simp [intOf]; omega
      · clear y0 y1 y2 y3
        go_wp2_with fail
        go_roundw
        case rel => exact ⟨k + 1, us, F, by omega, by go_num, Hm.out, Hi.out⟩
        case measure => simp [intOf]; omega
    · have hex : (k : Int) ≥ (xs.length : Int) ∨ ((k : Int) < (xs.length : Int) ∧ (k : Int) ≥ 60) := by omega
      have Hm := Lib.hid hm
      have Hi := Lib.hid hi
      have hR : ∃ b, Rule.right ⟨ticks, times, sum, once⟩ = b := ⟨_, rfl⟩
      obtain ⟨rb, hR⟩ := hR
      rw [hR] at Hrr
      have HR := Lib.hid hR
      clear hlt hm hi hR
      have hb2 := Hm.out.below
      have hrbw : w.heap.size < wr.heap.size := by have := Hm.out.size; omega
      have B2 := Lib.hid (hb0.trans (hb2.mono (by omega)))
      clear hb2
      have hdone : now < 0 ∨ (0 ≤ now ∧ 549755813888 < now) ∨ (0 ≤ now ∧ now ≤ 549755813888 ∧ 549755813888 < ticks) ∨ (0 ≤ now ∧ now ≤ 549755813888 ∧ ticks ≤ 549755813888 ∧ card.toList.isEmpty = true) ∨
          (0 ≤ now ∧ now ≤ 549755813888 ∧ ticks ≤ 549755813888 ∧ card.toList.isEmpty = false ∧ 32 < card.size) ∨ (0 ≤ now ∧ now ≤ 549755813888 ∧ ticks ≤ 549755813888 ∧ card.toList.isEmpty = false ∧ card.size ≤ 32) := by
        by_cases a4 : card.toList.isEmpty = true
        · simp only [a4]; simp; omega
        · have a4' : card.toList.isEmpty = false := by simpa using a4
          simp only [a4']; simp; omega
      cases rb with
      | false =>
        clear hdone
        rcases hex with hex | ⟨hex, hex2⟩
        all_goals
          go_wp2_with fail
          refine (Hrr.out _).mono ?_
          rintro e w3 ⟨rfl, f3⟩
          go_wp2_with fail
          go_ret
          exact ⟨rfl, B2.out.trans (f3.below B2.out.size (fun _ h => h.elim))⟩
      | true =>
        rcases hdone with h0 | ⟨h0, h1⟩ | ⟨h0, h1, h2⟩ | ⟨h0, h1, h2, h3⟩ | ⟨h0, h1, h2, h3, h4⟩ | ⟨h0, h1, h2, h3, h4⟩
        case inr.inr.inr.inr.inr =>
          obtain ⟨t1, t2, t3, t4, t5, t6, t7, t8⟩ := right_iff.1 HR.out
          have hcd : cardB card = true := by simp only [cardB, h3]; simp; omega
          have hres := Hanew.out us Hi.out HR.out h0 h1 h2 hcd
          simp only at hres t1 t2 t3 t4 t5 t6 t7 t8
          have Hres := Lib.hid hres
          clear hres hcd
          have hz := Hm.out.size
          rcases hex with hex | ⟨hex, hex2⟩
          all_goals
            go_wp2_with fail
            refine (Hrr.out _).mono ?_
            rintro e w3 ⟨rfl, f3⟩
            have hm3 : MyBook w0 l us w3 F := Hm.out.fr BookAt.ok f3
            have z0 := (f3.cell (p := ⟨w.heap.size, 0, none⟩) hrbw (fun x => x)).trans y0
            have z1 := (f3.cell (p := ⟨w.heap.size, 1, none⟩) hrbw (fun x => x)).trans y1
            have z2 := (f3.cell (p := ⟨w.heap.size, 2, none⟩) hrbw (fun x => x)).trans y2
            have z3 := (f3.cell (p := ⟨w.heap.size, 3, none⟩) hrbw (fun x => x)).trans y3
            have Hc := Lib.hid (hm3.try_ ⟨ticks, times, sum, once⟩ card amount (now + ticks) rfl rfl)
            unfold Rule.val at Hc
            generalize tryL us ⟨ticks, times, sum, once⟩ card amount (now + ticks) = vs at *
            generalize tryE us ⟨ticks, times, sum, once⟩ card amount (now + ticks) = x at *
            clear f3 hm3
            go_wp2_with fail
            refine Hc.out.mono ?_
            rintro e w4 ⟨F4, rfl, h4', _⟩
            have y0 := (h4'.below.cell (p := ⟨w.heap.size, 0, none⟩) hrb).trans hrc.1
            have y1 := (h4'.below.cell (p := ⟨w.heap.size, 1, none⟩) hrb).trans hrc.2.1
            have y2 := (h4'.below.cell (p := ⟨w.heap.size, 2, none⟩) hrb).trans hrc.2.2.1
            have y3 := (h4'.below.cell (p := ⟨w.heap.size, 3, none⟩) hrb).trans hrc.2.2.2
            have B4 := Lib.hid (hb0.trans (h4'.below.mono (by omega)))
            clear h4' z0 z1 z2 z3
            have hfb : ∃ b, fineB ⟨ticks, times, sum, once⟩ amount = b := ⟨_, rfl⟩
            obtain ⟨fb, hfb⟩ := hfb
            have Hx := Hres.out.trans hfb
            unfold fineB at hfb
            simp only at hfb
            have hcs : (fb = true ∧ 0 ≤ amount ∧ amount ≤ 999999999999 ∧ amount ≤ once ∧ amount ≤ sum ∧ 0 < times) ∨ (fb = false ∧ amount < 0) ∨ (fb = false ∧ 0 ≤ amount ∧ 999999999999 < amount) ∨ (fb = false ∧ 0 ≤ amount ∧ amount ≤ 999999999999 ∧ once < amount) ∨
                (fb = false ∧ 0 ≤ amount ∧ amount ≤ 999999999999 ∧ amount ≤ once ∧ sum < amount) ∨ (fb = false ∧ 0 ≤ amount ∧ amount ≤ 999999999999 ∧ amount ≤ once ∧ amount ≤ sum ∧ times ≤ 0) := by
              subst hfb
              simp only [Bool.and_eq_true, decide_eq_true_eq, Bool.and_eq_false_iff, decide_eq_false_iff_not]
              omega
            clear hfb
            rcases hcs with ⟨rfl, q1, q2, q3, q4, q5⟩ | ⟨rfl, q1⟩ | ⟨rfl, q1, q2⟩ | ⟨rfl, q1, q2, q3⟩ | ⟨rfl, q1, q2, q3, q4⟩ | ⟨rfl, q1, q2, q3, q4, q5⟩
            all_goals
              go_wp2_with fail
              go_ret
              first | exact ⟨rfl, B4.out⟩ | exact ⟨ret_bool (by simp; omega), B4.out⟩
        all_goals
          rcases hex with hex | ⟨hex, hex2⟩
          all_goals
            go_wp2_with fail
            refine (Hrr.out _).mono ?_
            rintro e w3 ⟨rfl, f3⟩
            have z0 := (f3.cell (p := ⟨w.heap.size, 0, none⟩) hrbw (fun x => x)).trans y0
            go_wp2_with fail
            go_ret
            exact ⟨rfl, B2.out.trans (f3.below B2.out.size (fun _ h => h.elim))⟩
end Go.Proofs.Ytkcepppldhaiaaa
