/-
  THE WALKS of moneyerref16.Same, and of the laws' own do and small; books of our own.
-/
import Derived.Test.YtkcepppldhaiaaaLmTry2
import Derived.Test.YtkcepppldhaiaaaLmUndo
namespace Go.Proofs.Ytkcepppldhaiaaa
open Go.RowKit

structure LAct where
  op : Int
  r : Rule
  card : ByteArray
  amount : Int
  at_ : Int
def LAct.cells (a : LAct) : List Value := [.int .i64 a.op, .int .i64 a.r.ticks, .int .i64 a.r.times, .int .i64 a.r.sum, .int .i64 a.r.once, .string a.card, .int .i64 a.amount, .int .i64 a.at_]
def LAct.val (a : LAct) : Value := .agg #[.int .i64 a.op, .int .i64 a.r.ticks, .int .i64 a.r.times, .int .i64 a.r.sum, .int .i64 a.r.once, .string a.card, .int .i64 a.amount, .int .i64 a.at_]
def ActR : Rec LAct := ⟨8, LAct.cells, fun _ => rfl, fun u v hv => by simp [LAct.cells] at hv; rcases hv with rfl | rfl | rfl | rfl | rfl | rfl | rfl | rfl <;> rfl⟩
theorem act_cells {w : World} {ao : Option Addr} {xs : List LAct} (h : RowRd ActR w ao xs) {i : Nat} (hi : i < xs.length) : ∃ b off, ao = some ⟨b, off, none⟩ ∧ b < w.heap.size ∧
    w.cell? ⟨b, off + i * 8, none⟩ = some (.int .i64 xs[i].op) ∧ w.cell? ⟨b, off + i * 8 + 1, none⟩ = some (.int .i64 xs[i].r.ticks) ∧ w.cell? ⟨b, off + i * 8 + 2, none⟩ = some (.int .i64 xs[i].r.times) ∧ w.cell? ⟨b, off + i * 8 + 3, none⟩ = some (.int .i64 xs[i].r.sum) ∧
    w.cell? ⟨b, off + i * 8 + 4, none⟩ = some (.int .i64 xs[i].r.once) ∧ w.cell? ⟨b, off + i * 8 + 5, none⟩ = some (.string xs[i].card) ∧ w.cell? ⟨b, off + i * 8 + 6, none⟩ = some (.int .i64 xs[i].amount) ∧ w.cell? ⟨b, off + i * 8 + 7, none⟩ = some (.int .i64 xs[i].at_) := by
  obtain ⟨b, off, h1, h2, h3⟩ := h.at' i hi
  exact ⟨b, off, h1, h2, h3 0 _ rfl, h3 1 _ rfl, h3 2 _ rfl, h3 3 _ rfl, h3 4 _ rfl, h3 5 _ rfl, h3 6 _ rfl, h3 7 _ rfl⟩

def doE (us : List Use) (a : LAct) : Int := if a.op = 1 then undoE us a.r a.card a.amount a.at_ else tryE us a.r a.card a.amount a.at_
def doL (us : List Use) (a : LAct) : List Use := if a.op = 1 then undoL us a.r a.card a.amount a.at_ else tryL us a.r a.card a.amount a.at_

set_option maxHeartbeats 400000 in
theorem do_any {l : Nat} {us : List Use} {w : World} {F : Nat → Prop} (h : BookAt l us w F) (a : LAct) {x : Int} (hx : doE us a = x) {vs : List Use} (hv : doL us a = vs) :
    Calls Try.prog 14 #[.pointer (some ⟨l, 0, none⟩), a.val] w fun e w' => ∃ F', e = .returned (.int .i64 x) ∧ BookAt l vs w' F' ∧ Step F F' w w' := by
  obtain ⟨op, ⟨ticks, times, sum, once⟩, card, amount, at_⟩ := a
  unfold LAct.val
  have hf0 := (Fr.refl noBlock w).alloc (.cells #[.int .i64 op, .int .i64 ticks, .int .i64 times, .int .i64 sum, .int .i64 once, .string card, .int .i64 amount, .int .i64 at_] 30)
  have h0 := BookAt.ok.fr0 h hf0
  unfold doE doL at *
  simp only at *
  by_cases ho : op = 1
  · rw [if_pos ho] at hx hv
    have ho' : (op == 1) = true := by simpa using ho
    have Hc := Lib.hid (undo_any h0 ⟨ticks, times, sum, once⟩ card amount at_ hx hv)
    clear hx hv ho h h0
    unfold Rule.val at Hc
    simp only at Hc
    go_enter Try.func14, Try.ntmps14
    go_wp2_with fail
    refine Hc.out.mono ?_
    rintro e w' ⟨F', rfl, h1, h2⟩
    have HE := Lib.hid (And.intro h1 ((Step.same hf0).trans h2))
    clear h1 h2
    go_wp2_with fail
    go_ret
    exact ⟨F', rfl, HE.out⟩
  · rw [if_neg ho] at hx hv
    have ho' : (op == 1) = false := by simpa using ho
    have Hc := Lib.hid (try_any h0 ⟨ticks, times, sum, once⟩ card amount at_ hx hv)
    clear hx hv ho h h0
    unfold Rule.val at Hc
    simp only at Hc
    go_enter Try.func14, Try.ntmps14
    go_wp2_with fail
    refine Hc.out.mono ?_
    rintro e w' ⟨F', rfl, h1, h2⟩
    have HE := Lib.hid (And.intro h1 ((Step.same hf0).trans h2))
    clear h1 h2
    go_wp2_with fail
    go_ret
    exact ⟨F', rfl, HE.out⟩

/-- 'a != b' of two uses -/
theorem run_neq_use (a a' : ByteArray) (b c d b' c' d' : Int) (W : World) : (binOp .neq 40 (.agg #[.string a, .int .i64 b, .int .i64 c, .int .i64 d]) (.agg #[.string a', .int .i64 b', .int .i64 c', .int .i64 d'])).run Try.prog W = .ok (.bool (!(a.toList == a'.toList && (b == b' && (c == c' && d == d'))))) W := by
  simp [go_sem]
  by_cases h1 : a.toList = a'.toList <;> by_cases h2 : b = b' <;> by_cases h3 : c = c' <;> by_cases h4 : d = d' <;> simp [h1, h2, h3, h4]
theorem use_ne {p q : Use} (h : ¬ p = q) (W : World) : (binOp .neq 40 (.agg #[.string p.card, .int .i64 p.window, .int .i64 p.times, .int .i64 p.sum]) (.agg #[.string q.card, .int .i64 q.window, .int .i64 q.times, .int .i64 q.sum])).run Try.prog W = .ok (.bool true) W := by
  rw [run_neq_use]
  congr 2
  obtain ⟨a, b, c, d⟩ := p
  obtain ⟨a', b', c', d'⟩ := q
  simp only [Bool.not_eq_true', Bool.and_eq_false_iff, beq_eq_false_iff_ne]
  refine Decidable.byContradiction fun hn => h ?_
  simp only [not_or, Decidable.not_not] at hn
  obtain ⟨h1, h2, h3, h4⟩ := hn
  rw [toList_inj' h1, h4, h2, h3]
theorem take_ext {α : Type} {a b : List α} {k : Nat} (hl : a.length = b.length) (hk : k = a.length) (h : a.take k = b.take k) : a = b := by
  rwa [List.take_of_length_le (by omega), List.take_of_length_le (by omega)] at h

set_option maxHeartbeats 400000 in
theorem same_rd (a b : Option Addr) (ca cb : Nat) (ps qs : List Use) (w : World) (ha : RowRd UseR w a ps) (hb : RowRd UseR w b qs) (r : Bool) (hr : r = true ↔ ps = qs) :
    Calls Try.prog 13 #[.slice a ps.length ca, .slice b qs.length cb] w fun e w' => e = .returned (.bool r) ∧ Fr noBlock w w' := by
  have hl1 := ha.len
  have hl2 := hb.len
  unfold maxLen at hl1 hl2
  by_cases hlen : ps.length = qs.length
  · have t1 : ((ps.length : Int) != (qs.length : Int)) = false := by rw [bne_eq_false_iff_eq]; omega
    go_enter Try.func13, Try.ntmps13
    go_wp2_with fail
    go_loopw [5] (fun s5 wr => ∃ k : Nat, k ≤ ps.length ∧ s5 = .int .i64 k ∧ Hid (ps.take k = qs.take k) ∧ Fr noBlock w wr) (fun s5 _ => ps.length - (intOf s5).toNat)
    case atStart => exact ⟨0, Nat.zero_le _, rfl, Lib.hid (by simp), Fr.refl _ _⟩
    case round =>
      obtain ⟨k, hk, rfl, hq, hf⟩ := hrel
      by_cases hlt : k < ps.length
      · obtain ⟨b1, o1, rfl, hb1, p0, p1, p2, p3⟩ := use_cells (ha.fr0 hf) hlt
        obtain ⟨b2, o2, rfl, hb2, q0, q1, q2, q3⟩ := use_cells (hb.fr0 hf) (show k < qs.length by omega)
        have h1' : (k : Int) < (ps.length : Int) := by omega
        have h2' : (k : Int) < (qs.length : Int) := by omega
        have hlt2 : k < qs.length := by omega
        by_cases heq : ps[k] = qs[k]
        · have Hq : Hid (ps.take (k + 1) = qs.take (k + 1)) := Lib.hid (by rw [List.take_succ_eq_append_getElem hlt, List.take_succ_eq_append_getElem hlt2, hq.out, heq])
          rw [heq] at p0 p1 p2 p3
          generalize qs[k] = q at *
          clear heq hlen hq
          go_wp2_with fail
          go_quiet (fail)
          go_wp2_with fail
          go_roundw
          case rel => exact ⟨k + 1, by omega, by go_num, Hq, hf.drewN _⟩
          case measure => simp [intOf]; omega
        · have hne := use_ne heq
          have hr' : r = false := by
            rw [Bool.eq_false_iff]
            intro e
            rw [hr] at e
            subst e
            exact heq rfl
          generalize ps[k] = p at *
          generalize qs[k] = q at *
          clear heq hlen hq hr
          subst hr'
          go_wp2_with fail
          go_quiet (fail)
          go_wp2_with fail
          go_ret
          exact ⟨rfl, hf.drewN _⟩
      · have h1' : (ps.length : Int) ≤ (k : Int) := by omega
        have hr' : r = true := hr.2 (take_ext hlen (by omega) hq.out)
        subst hr'
        clear hlen hlt
        go_wp2_with fail
        go_ret
        exact ⟨rfl, hf⟩
  · have t1 : ((ps.length : Int) != (qs.length : Int)) = true := by rw [bne_iff_ne]; omega
    have hr' : r = false := by
      rw [Bool.eq_false_iff]
      intro e
      rw [hr] at e
      subst e
      exact hlen rfl
    subst hr'
    clear hlen
    go_enter Try.func13, Try.ntmps13
    go_wp2_with fail
    go_ret
    exact ⟨rfl, Fr.refl _ _⟩

/-- books of our own -/
abbrev MyBook (w0 : World) (l : Nat) (us : List Use) (w : World) (F : Nat → Prop) : Prop := Mine w0 (BookAt l us) w F
namespace MyBook
variable {w0 w : World} {l : Nat} {us : List Use} {F : Nat → Prop}
theorem new (hb : Below w0.heap.size w0 w) : Calls Try.prog 9 #[] w fun e w' => ∃ l F, e = .returned (.pointer (some ⟨l, 0, none⟩)) ∧ MyBook w0 l [] w' F :=
  (new_any w).mono fun _ _ ⟨l, F, h1, h2, h3, h4⟩ => ⟨l, F, h1, Mine.new hb h3 h2 h4⟩
theorem try_ (h : MyBook w0 l us w F) (r : Rule) (s : ByteArray) (a n : Int) {x : Int} (hx : tryE us r s a n = x) {vs : List Use} (hv : tryL us r s a n = vs) :
    Calls Try.prog 12 #[.pointer (some ⟨l, 0, none⟩), r.val, .string s, .int .i64 a, .int .i64 n] w fun e w' => ∃ F', e = .returned (.int .i64 x) ∧ MyBook w0 l vs w' F' ∧ Step F F' w w' :=
  (try_any h.it r s a n hx hv).mono fun _ _ ⟨F', h1, h2, h3⟩ => ⟨F', h1, h.step h2 h3, h3⟩
theorem undo (h : MyBook w0 l us w F) (r : Rule) (s : ByteArray) (a n : Int) {x : Int} (hx : undoE us r s a n = x) {vs : List Use} (hv : undoL us r s a n = vs) :
    Calls Try.prog 21 #[.pointer (some ⟨l, 0, none⟩), r.val, .string s, .int .i64 a, .int .i64 n] w fun e w' => ∃ F', e = .returned (.int .i64 x) ∧ MyBook w0 l vs w' F' ∧ Step F F' w w' :=
  (undo_any h.it r s a n hx hv).mono fun _ _ ⟨F', h1, h2, h3⟩ => ⟨F', h1, h.step h2 h3, h3⟩
theorem do_ (h : MyBook w0 l us w F) (a : LAct) {x : Int} (hx : doE us a = x) {vs : List Use} (hv : doL us a = vs) :
    Calls Try.prog 14 #[.pointer (some ⟨l, 0, none⟩), a.val] w fun e w' => ∃ F', e = .returned (.int .i64 x) ∧ MyBook w0 l vs w' F' ∧ Step F F' w w' :=
  (do_any h.it a hx hv).mono fun _ _ ⟨F', h1, h2, h3⟩ => ⟨F', h1, h.step h2 h3, h3⟩
theorem list (h : MyBook w0 l us w F) :
    Calls Try.prog 11 #[.pointer (some ⟨l, 0, none⟩)] w fun e w' => ∃ ao cap, e = .returned (.slice ao us.length cap) ∧ MyBook w0 l us w' F ∧ RowAt 40 UseR w' (.slice ao us.length cap) us ∧ Fr noBlock w w' ∧ ∀ k, (Value.slice ao us.length cap).ownBlock = some k → w.heap.size ≤ k :=
  (list_any h.it.1 h.it.2.len).mono fun _ _ ⟨v, h1, h2, h3, h4⟩ => by
    obtain ⟨ao, cap, rfl, _⟩ := h2.shape
    exact ⟨ao, cap, h1, h.fr BookAt.ok h3, h2, h3, h4⟩
theorem alloc (h : MyBook w0 l us w F) (o : Obj) : MyBook w0 l us (w.alloc o) F := h.fr BookAt.ok ((Fr.refl _ _).alloc _)
theorem keep (h : MyBook w0 l us w F) {w' : World} (hf : Fr noBlock w w') : MyBook w0 l us w' F := h.fr BookAt.ok hf
theorem good (h : MyBook w0 l us w F) : GoodU us := h.it.2
end MyBook

def smallR : Rule := ⟨10, 2, 100, 80⟩
def uA (w t s : Int) : Use := ⟨⟨#[97]⟩, w, t, s⟩
theorem rule_cells {w : World} {rb : Nat} {a b c d : Int} (h : w.heap[rb]? = some (.cells #[.int .i64 a, .int .i64 b, .int .i64 c, .int .i64 d] 23 (0, 0))) :
    w.cell? ⟨rb, 0, none⟩ = some (.int .i64 a) ∧ w.cell? ⟨rb, 1, none⟩ = some (.int .i64 b) ∧ w.cell? ⟨rb, 2, none⟩ = some (.int .i64 c) ∧ w.cell? ⟨rb, 3, none⟩ = some (.int .i64 d) := by
  have y0 := cell_of h 0
  have y1 := cell_of h 1
  have y2 := cell_of h 2
  have y3 := cell_of h 3
  simp at y0 y1 y2 y3
  exact ⟨y0, y1, y2, y3⟩
set_option maxRecDepth 100000 in
set_option maxHeartbeats 1600000 in
theorem small_any (w : World) : Calls Try.prog 8 #[] w fun e w' => e = .returned (.bool true) ∧ Below w.heap.size w w' := by
  have hrt : smallR.right = true := by decide +kernel
  have Hrt := Lib.hid (fun W => right_any smallR true hrt W)
  clear hrt
  unfold smallR Rule.val at Hrt
  simp only at Hrt
  go_enter Try.func8, Try.ntmps8
  go_wp2_with fail
  refine (MyBook.new (w0 := w) (Below.refl _ _)).mono ?_
  rintro e w1 ⟨l, F1, rfl, h1⟩
  have hb0 : (w1.alloc (.cells #[.int .i64 10, .int .i64 2, .int .i64 100, .int .i64 80] 23)).heap[w1.heap.size]? = _ := heap_new w1 _
  have hn0 : ¬ F1 w1.heap.size := BookAt.ok.new h1.it
  have h0 := h1.alloc (.cells #[.int .i64 10, .int .i64 2, .int .i64 100, .int .i64 80] 23)
  have H0 := Lib.hid (And.intro h0 (And.intro hb0 hn0))
  clear h1 h0 hb0 hn0
  go_wp2_with fail
  refine (H0.out.1.try_ smallR ⟨#[97]⟩ 60 3 (x := 0) (by decide +kernel) (vs := [uA 0 1 60]) (by kernel_rfl)).mono ?_
  rintro e w2 ⟨F2, rfl, h2, s2⟩
  have H1 := Lib.hid (And.intro h2 (And.intro (s2.fr.obj H0.out.2.1 H0.out.2.2) (s2.keep (heap_lt H0.out.2.1) H0.out.2.2).2.2))
  clear h2 s2
  obtain ⟨y0, y1, y2, y3⟩ := rule_cells H1.out.2.1
  go_wp2_with fail
  refine (H1.out.1.try_ smallR ⟨#[97]⟩ 50 4 (x := 17) (by decide +kernel) (vs := [uA 0 1 60]) (by kernel_rfl)).mono ?_
  rintro e w3 ⟨F3, rfl, h3, s3⟩
  have H2 := Lib.hid (And.intro h3 (And.intro (s3.fr.obj H1.out.2.1 H1.out.2.2) (s3.keep (heap_lt H1.out.2.1) H1.out.2.2).2.2))
  clear h3 s3
  obtain ⟨y0, y1, y2, y3⟩ := rule_cells H2.out.2.1
  go_wp2_with fail
  refine (H2.out.1.try_ smallR ⟨#[97]⟩ 40 5 (x := 0) (by decide +kernel) (vs := [uA 0 2 100]) (by kernel_rfl)).mono ?_
  rintro e w4 ⟨F4, rfl, h4, s4⟩
  have H3 := Lib.hid (And.intro h4 (And.intro (s4.fr.obj H2.out.2.1 H2.out.2.2) (s4.keep (heap_lt H2.out.2.1) H2.out.2.2).2.2))
  clear h4 s4
  obtain ⟨y0, y1, y2, y3⟩ := rule_cells H3.out.2.1
  go_wp2_with fail
  refine (H3.out.1.try_ smallR ⟨#[97]⟩ 1 9 (x := 18) (by decide +kernel) (vs := [uA 0 2 100]) (by kernel_rfl)).mono ?_
  rintro e w5 ⟨F5, rfl, h5, s5⟩
  have H4 := Lib.hid (And.intro h5 (And.intro (s5.fr.obj H3.out.2.1 H3.out.2.2) (s5.keep (heap_lt H3.out.2.1) H3.out.2.2).2.2))
  clear h5 s5
  obtain ⟨y0, y1, y2, y3⟩ := rule_cells H4.out.2.1
  go_wp2_with fail
  refine (H4.out.1.try_ smallR ⟨#[97]⟩ 1 10 (x := 0) (by decide +kernel) (vs := [uA 1 1 1]) (by kernel_rfl)).mono ?_
  rintro e w6 ⟨F6, rfl, h6, s6⟩
  have H5 := Lib.hid (And.intro h6 (And.intro (s6.fr.obj H4.out.2.1 H4.out.2.2) (s6.keep (heap_lt H4.out.2.1) H4.out.2.2).2.2))
  clear h6 s6
  obtain ⟨y0, y1, y2, y3⟩ := rule_cells H5.out.2.1
  go_wp2_with fail
  refine (H5.out.1.try_ smallR ⟨#[98]⟩ 81 3 (x := 17) (by decide +kernel) (vs := [uA 1 1 1]) (by kernel_rfl)).mono ?_
  rintro e w7 ⟨F7, rfl, h7, s7⟩
  have H6 := Lib.hid (And.intro h7 (And.intro (s7.fr.obj H5.out.2.1 H5.out.2.2) (s7.keep (heap_lt H5.out.2.1) H5.out.2.2).2.2))
  clear h7 s7
  obtain ⟨y0, y1, y2, y3⟩ := rule_cells H6.out.2.1
  go_wp2_with fail
  refine (Hrt.out _).mono ?_
  rintro e w8 ⟨rfl, f8⟩
  have H7 := Lib.hid (And.intro (H6.out.1.keep f8) (And.intro (f8.obj H6.out.2.1 (fun x => x)) H6.out.2.2))
  clear f8
  obtain ⟨y0, y1, y2, y3⟩ := rule_cells H7.out.2.1
  go_wp2_with fail
  refine (H7.out.1.undo smallR ⟨#[97]⟩ 1 10 (x := 0) (by decide +kernel) (vs := [uA 1 0 0]) (by kernel_rfl)).mono ?_
  rintro e w9 ⟨F9, rfl, h9, s9⟩
  have H8 := Lib.hid (And.intro h9 (And.intro (s9.fr.obj H7.out.2.1 H7.out.2.2) (s9.keep (heap_lt H7.out.2.1) H7.out.2.2).2.2))
  clear h9 s9
  obtain ⟨y0, y1, y2, y3⟩ := rule_cells H8.out.2.1
  go_wp2_with fail
  refine (H8.out.1.list).mono ?_
  rintro e w10 ⟨ao, cap, rfl, h10, _⟩
  go_wp2_with fail
  go_ret
  exact ⟨rfl, h10.below⟩
end Go.Proofs.Ytkcepppldhaiaaa
