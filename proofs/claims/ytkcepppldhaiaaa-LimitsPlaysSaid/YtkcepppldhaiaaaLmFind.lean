/-
  THE WALKS of find, List, slices.IndexFunc, Clone, Delete at uses.
-/
import Derived.Test.YtkcepppldhaiaaaLmWithin
import Derived.Deep.RegionLaw
import Derived.Deep.AppendLies
namespace Go.Proofs.Ytkcepppldhaiaaa
open Go.RowKit

/-- the cells of a use in a row -/
theorem use_cells {w : World} {ao : Option Addr} {us : List Use} (h : RowRd UseR w ao us) {i : Nat} (hi : i < us.length) : ∃ b off, ao = some ⟨b, off, none⟩ ∧ b < w.heap.size ∧
    w.cell? ⟨b, off + i * 4, none⟩ = some (.string us[i].card) ∧ w.cell? ⟨b, off + i * 4 + 1, none⟩ = some (.int .i64 us[i].window) ∧ w.cell? ⟨b, off + i * 4 + 2, none⟩ = some (.int .i64 us[i].times) ∧ w.cell? ⟨b, off + i * 4 + 3, none⟩ = some (.int .i64 us[i].sum) := by
  obtain ⟨b, off, h1, h2, h3⟩ := h.at' i hi
  exact ⟨b, off, h1, h2, h3 0 _ rfl, h3 1 _ rfl, h3 2 _ rfl, h3 3 _ rfl⟩
/-- in an owned row -/
theorem use_own {w : World} {ao : Option Addr} {n cap : Nat} {us : List Use} (h : RowAt 40 UseR w (.slice ao n cap) us) {i : Nat} (hi : i < us.length) : ∃ g, ao = some ⟨g, 0, none⟩ ∧ g < w.heap.size ∧ n = us.length ∧ n ≤ cap ∧
    w.cell? ⟨g, i * 4, none⟩ = some (.string us[i].card) ∧ w.cell? ⟨g, i * 4 + 1, none⟩ = some (.int .i64 us[i].window) ∧ w.cell? ⟨g, i * 4 + 2, none⟩ = some (.int .i64 us[i].times) ∧ w.cell? ⟨g, i * 4 + 3, none⟩ = some (.int .i64 us[i].sum) ∧ ∀ o, w.frozen? ⟨g, o, none⟩ = false := by
  obtain ⟨g, h1, h2, h3, h4, h5, h6⟩ := h.elem hi
  exact ⟨g, h1, h2, h3, h4, h5 0 _ rfl, h5 1 _ rfl, h5 2 _ rfl, h5 3 _ rfl, h6⟩
theorem str_ne {a b : ByteArray} (h : ¬ a = b) : (a.toList == b.toList) = false := by
  rw [beq_eq_false_iff_ne]
  intro e
  exact h (toList_inj' e)

set_option maxHeartbeats 400000 in
theorem find1_any (u : Use) (s : ByteArray) (B : Nat) (w : World) (hc : w.cell? ⟨B, 0, none⟩ = some (.string s)) (hB : B < w.heap.size) :
    Calls Try.prog 34 #[.agg #[.string u.card, .int .i64 u.window, .int .i64 u.times, .int .i64 u.sum], .pointer (some ⟨B, 0, none⟩)] w fun e w' => e = .returned (.bool (decide (u.card = s))) ∧ Fr noBlock w w' := by
  have hf0 := (Fr.refl noBlock w).alloc (.cells #[.string u.card, .int .i64 u.window, .int .i64 u.times, .int .i64 u.sum] 40)
  have hne : B ≠ w.heap.size := by omega
  by_cases h : u.card = s
  · rw [decide_eq_true h]
    subst h
    go_enter Try.func34, Try.ntmps34
    go_wp2
    go_ret
    exact ⟨ret_bool (by first | rfl | simp), hf0⟩
  · rw [decide_eq_false h]
    have hq := str_ne h
    generalize u.card = c at *
    clear h
    go_enter Try.func34, Try.ntmps34
    go_wp2
    go_ret
    exact ⟨ret_bool (by first | rfl | simp), hf0⟩

set_option maxHeartbeats 400000 in
theorem room1_any (u : Use) (win : Int) (B : Nat) (w : World) (hc : w.cell? ⟨B, 0, none⟩ = some (.int .i64 win)) (hB : B < w.heap.size) :
    Calls Try.prog 35 #[.agg #[.string u.card, .int .i64 u.window, .int .i64 u.times, .int .i64 u.sum], .pointer (some ⟨B, 0, none⟩)] w fun e w' => e = .returned (.bool (decide (u.window ≠ win))) ∧ Fr noBlock w w' := by
  have hf0 := (Fr.refl noBlock w).alloc (.cells #[.string u.card, .int .i64 u.window, .int .i64 u.times, .int .i64 u.sum] 40)
  have hne : B ≠ w.heap.size := by omega
  go_enter Try.func35, Try.ntmps35
  go_wp2
  go_ret
  exact ⟨ret_bool (by rw [Bool.eq_iff_iff]; simp), hf0⟩

set_option maxHeartbeats 400000 in
theorem indexU_any (ao : Option Addr) (cap : Nat) (xs : List Use) (g : Nat) (lb : Array Value) (eg : ∀ args w, (callFunc g args).run Try.prog w = .ok (.enter g args) w) (p : Use → Bool) (w : World) (ha : RowRd UseR w ao xs)
    (hp : ∀ (W : World) (u : Use), Fr noBlock w W → Calls Try.prog g (#[.agg #[.string u.card, .int .i64 u.window, .int .i64 u.times, .int .i64 u.sum]] ++ lb) W fun e w' => e = .returned (.bool (p u)) ∧ Fr noBlock W w') :
    Calls Try.prog 33 #[.slice ao xs.length cap, .func (.func g) #[] lb] w fun e w' => e = .returned (.int .i64 (idxP p xs)) ∧ Fr noBlock w w' := by
  have hl := ha.len
  unfold maxLen at hl
  have Hp := Lib.hid hp
  clear hp
  go_enter Try.func33, Try.ntmps33
  go_wp2_with fail
  go_loopw [5, 8] (fun s5 s8 wr => ∃ k : Nat, k ≤ xs.length ∧ s8 = .int .i64 k ∧ Fr noBlock w wr ∧ Hid (∀ x ∈ xs.take k, p x = false)) (fun _ s8 _ => xs.length - (intOf s8).toNat)
  case atStart => exact ⟨0, Nat.zero_le _, rfl, Fr.refl _ _, Lib.hid (by simp)⟩
  case round =>
    obtain ⟨k, hk, rfl, hf, hn⟩ := hrel
    by_cases hlt : k < xs.length
    · obtain ⟨b, off, rfl, hb, c0, c1, c2, c3⟩ := use_cells (ha.fr0 hf) hlt
      have h1 : (k : Int) < (xs.length : Int) := by omega
      have hcall := Hp.out wr xs[k] hf
      cases hpk : p xs[k] with
      | true =>
        rw [hpk] at hcall
        have Hc := Lib.hid hcall
        have Hr := Lib.hid (idxP_hit hlt hpk hn.out)
        clear hcall hpk
        generalize xs[k] = x at *
        go_wp2_with fail
        refine Hc.out.mono ?_
        rintro e w' ⟨rfl, hf'⟩
        go_wp2_with fail
        go_ret
        exact ⟨ret_int Hr.out.symm, hf.trans' hf'⟩
      | false =>
        rw [hpk] at hcall
        have Hc := Lib.hid hcall
        have Hn := Lib.hid (take_miss hlt hpk hn.out)
        clear hcall hpk
        generalize xs[k] = x at *
        go_wp2_with fail
        refine Hc.out.mono ?_
        rintro e w' ⟨rfl, hf'⟩
        go_wp2_with fail
        go_roundw
        case rel => exact ⟨k + 1, by omega, by go_num, hf.trans' hf', Hn⟩
        case measure => simp [intOf]; omega
    · have h1 : (xs.length : Int) ≤ (k : Int) := by omega
      have Hr : Hid (idxP p xs = -1) := Lib.hid (idxP_miss (by have := hn.out; rwa [List.take_of_length_le (by omega)] at this))
      go_wp2_with fail
      go_ret
      exact ⟨ret_int Hr.out.symm, hf⟩

theorem small_len {n : Nat} (h : n ≤ 100000) : n ≤ maxLen := by unfold maxLen; omega
theorem idxP_find (us : List Use) (s : ByteArray) : idxP (fun u => decide (u.card = s)) us = idxI (findU us s) := rfl
theorem idxP_win (us : List Use) (win : Int) : idxP (fun u => decide (u.window ≠ win)) us = idxI (findW us win) := rfl

set_option maxHeartbeats 400000 in
theorem find_any {l : Nat} {us : List Use} {w : World} {F : Nat → Prop} (h : Hold 53 40 UseR l us w F) (hlen : us.length ≤ 16) (s : ByteArray) (i : Int) (hi : idxI (findU us s) = i) :
    Calls Try.prog 25 #[.pointer (some ⟨l, 0, none⟩), .string s] w fun e w' => e = .returned (.int .i64 i) ∧ Fr noBlock w w' := by
  subst hi
  obtain ⟨vo, cap, c0, f0, hl, hc1, hc2, hr, _⟩ := h.opened
  have hf0 := (Fr.refl noBlock w).alloc (.cells #[.string s] 9)
  have hrd := (RowRd.of_at hr (small_len (by omega))).fr0 hf0
  have hc := indexU_any vo cap us 34 #[.pointer (some ⟨w.heap.size, 0, none⟩)] (enters_of Try.func34 (by kernel_rfl) rfl) (fun u => decide (u.card = s)) _ hrd (fun W u hf => by
    have h0 : (w.alloc (.cells #[.string s] 9)).cell? ⟨w.heap.size, 0, none⟩ = some (.string s) := by simp
    have h1 : W.cell? ⟨w.heap.size, 0, none⟩ = some (.string s) := (hf.cell (p := ⟨w.heap.size, 0, none⟩) (by simp) (fun x => x)).trans h0
    exact find1_any u s w.heap.size W h1 (Nat.lt_of_lt_of_le (by simp) hf.size))
  rw [idxP_find] at hc
  have Hc := Lib.hid hc
  clear hc hr hrd h
  generalize idxI (findU us s) = i at *
  go_enter Try.func25, Try.ntmps25
  go_wp2_with fail
  refine Hc.out.mono ?_
  rintro e w' ⟨rfl, hf'⟩
  go_wp2
  go_ret
  exact ⟨rfl, hf0.trans' hf'⟩

theorem info_use : (Try.prog.info? 40).map (fun i => (i.zero, i.size, i.bytes)) = some (some (.agg #[.string .empty, .int .i64 0, .int .i64 0, .int .i64 0]), 4, 40) := by kernel_rfl

set_option maxHeartbeats 400000 in
theorem clone_any (v : Value) (us : List Use) (w : World) (h : RowAt 40 UseR w v us) (hlen : us.length ≤ 100000) :
    Calls Try.prog 23 #[v] w fun e w' => ∃ v', e = .returned v' ∧ RowAt 40 UseR w' v' us ∧ Fr noBlock w w' ∧ ∀ k, v'.ownBlock = some k → w.heap.size ≤ k := by
  obtain ⟨i0, hi0, hz0, hz1, hz2⟩ := info_parts info_use
  rcases h.2 with ⟨rfl, h0⟩ | ⟨g, cap, cur, rfl, _, hg, hcap, _⟩
  · have hps : us = [] := List.eq_nil_of_length_eq_zero h0
    subst hps
    have he := fun w : World => Lib.run_eql_slice_nil (P := Try.prog) w 31 40 none 0 0 0 0 Try.underlying31
    go_enter Try.func23, Try.ntmps23
    go_wp2
    go_ret
    exact ⟨_, rfl, h, Fr.refl _ _, fun k hk => by simp [Value.ownBlock] at hk⟩
  · have he := fun w : World => Lib.run_eql_slice_nil (P := Try.prog) w 31 40 (some ⟨g, 0, none⟩) us.length cap 0 0 Try.underlying31
    have hc := h.cells (g := g) rfl
    have hl := h.1
    have hgl := heap_lt hg
    have Hc := Lib.hid hc
    have Hl := Lib.hid hl
    have H1 := Lib.hid (UseR.flat_oneCell us)
    clear hc hl
    go_enter Try.func23, Try.ntmps23
    go_wp2_with (at_builtin; refine wpList_append_own_at (base := 0) (w := w.alloc (.cells #[] 40)) rfl _ _ _ rfl 40 i0 _ 4 40 Try.underlying31 hi0 hz0 hz1 hz2 rfl (by decide) _ 0 [] rfl ?c1 ⟨g, 0, none⟩ us.length cap (UseR.flat us) rfl ?c2 ?c3 ?c4 ?c5 ?c6 ?c7 ?_)
    case c1 => exact World.ownsRow_made w #[] 0 (Nat.zero_le _) (Nat.zero_le _) (by simp)
    case c2 => exact Hl.out
    case c3 => intro j u hu; exact (World.cell?_alloc_lt _ _ _ (by rw [Addr.add_lit]; exact hgl)).trans (Hc.out j u hu)
    case c4 => exact H1.out
    case c5 => unfold maxLen; omega
    case c6 => omega
    case c7 => exact Nat.zero_le _
    intro v' w1 hown hgrow _ hat
    have hF : Fr noBlock w w1 := ((Fr.refl noBlock w).alloc _).grown hgrow (by intro k hk; simp [Value.ownBlock] at hk; exact .inr (by omega))
    go_wp2
    go_ret
    refine ⟨v', rfl, hown, hF, fun k hk => ?_⟩
    rcases hat with hat | hat <;> (rw [hk] at hat; simp [Value.ownBlock] at hat; omega)

set_option maxHeartbeats 400000 in
theorem list_any {l : Nat} {us : List Use} {w : World} {F : Nat → Prop} (h : Hold 53 40 UseR l us w F) (hlen : us.length ≤ 16) :
    Calls Try.prog 11 #[.pointer (some ⟨l, 0, none⟩)] w fun e w' => ∃ v', e = .returned v' ∧ RowAt 40 UseR w' v' us ∧ Fr noBlock w w' ∧ ∀ k, v'.ownBlock = some k → w.heap.size ≤ k := by
  obtain ⟨vo, cap, c0, f0, hl, hc1, hc2, hr, _⟩ := h.opened
  have Hc := Lib.hid (clone_any _ us w hr (by omega))
  clear hr h
  go_enter Try.func11, Try.ntmps11
  go_wp2_with (go_at_call 23; refine Hc.out.mono ?_; rintro e w' ⟨v', rfl, h1, h2, h3⟩)
  go_ret
  exact ⟨v', rfl, h1, h2, h3⟩
end Go.Proofs.Ytkcepppldhaiaaa
