/-
  THE WALK of slices.Delete at uses, one of them.
-/
import Derived.Test.YtkcepppldhaiaaaLmFind
import Derived.Test.YtkcepppldhaiaaaRow2
namespace Go.Proofs.Ytkcepppldhaiaaa
open Go.RowKit

theorem zero_use (w : World) : (zeroValue 40).run Try.prog w = .ok (.agg #[.string .empty, .int .i64 0, .int .i64 0, .int .i64 0]) w := by kernel_rfl

/-- what a struck row is, before the last cells are cleared -/
theorem delete_mid {g n cap k : Nat} {us : List Use} {w : World} (h : RowAt 40 UseR w (.slice (some ⟨g, 0, none⟩) n cap) us) (hk : k < us.length) {w1 : World} (hf : Fr noBlock w w1) :
    Fr (fun b => b = g) w (w1.setCells g (k * 4) (UseR.flat (us.drop (k + 1)))) ∧ ∃ cur, (w1.setCells g (k * 4) (UseR.flat (us.drop (k + 1)))).heap[g]? = some (.cells cur 40 (0, 0)) ∧ cur.size = cap * 4 ∧ cur.toList.take ((n - 1) * 4) = UseR.flat (us.eraseIdx k) := by
  obtain ⟨cur, hg, rfl, hc1, hc2, hs, ht⟩ := h.block
  have hs' : cur.size = cap * 4 := hs
  have hl : (UseR.flat (us.drop (k + 1))).length = (us.length - (k + 1)) * 4 := by rw [UseR.flat_len, List.length_drop]; rfl
  have hg1 := hf.obj hg (fun x => x)
  obtain ⟨cur', h1, h2, h3⟩ := heap_setCells (UseR.flat (us.drop (k + 1))) (k * 4) w1 cur hg1 (by rw [hl]; omega)
  refine ⟨fr_setCells (S := fun b => b = g) (hf.mono (fun _ x => x.elim)) (.inl rfl) _, cur', h1, h2.trans hs', ?_⟩
  have ht' : cur.toList.take (k * 4) = (UseR.flat us).take (k * 4) := by
    have := congrArg (List.take (k * 4)) ht
    rw [List.take_take] at this
    have e : min (k * 4) (us.length * UseR.k) = k * 4 := by
      have : UseR.k = 4 := rfl
      rw [this]; omega
    rwa [e] at this
  rw [h3, flat_erase, ht', ← UseR.flat_drop]
  have e1 : (UseR.flat us).take (k * UseR.k) ++ (UseR.flat us).drop ((k + 1) * UseR.k) = (UseR.flat us).take (k * 4) ++ (UseR.flat us).drop ((k + 1) * 4) := rfl
  have e2 : (UseR.flat us).drop ((k + 1) * UseR.k) = (UseR.flat us).drop ((k + 1) * 4) := rfl
  rw [e1, e2]
  have hl2 : ((UseR.flat us).take (k * 4) ++ (UseR.flat us).drop ((k + 1) * 4)).length = (us.length - 1) * 4 := by
    have : (UseR.flat us).length = us.length * 4 := UseR.flat_len us
    simp [this]; omega
  rw [List.append_assoc, ← List.append_assoc, List.take_append_of_le_length (by omega), List.take_of_length_le (by omega)]

set_option maxRecDepth 1000000 in
set_option maxHeartbeats 1600000 in
theorem delete_any (g cap k : Nat) (us : List Use) (w : World) (h : RowAt 40 UseR w (.slice (some ⟨g, 0, none⟩) us.length cap) us) (hk : k < us.length) (hlen : us.length ≤ 100000) (hcap : cap ≤ maxLen) :
    Calls Try.prog 36 #[.slice (some ⟨g, 0, none⟩) us.length cap, .int .i64 k, .int .i64 (k + 1)] w fun e w' => e = .returned (.slice (some ⟨g, 0, none⟩) (us.length - 1) cap) ∧ RowAt 40 UseR w' (.slice (some ⟨g, 0, none⟩) (us.length - 1) cap) (us.eraseIdx k) ∧ Fr (fun b => b = g) w w' := by
  obtain ⟨i0, hi0, hz0, hz1, hz2⟩ := info_parts info_use
  obtain ⟨cur, hg, _, hc1, _, hs, ht⟩ := h.block
  have hs' : cur.size = cap * 4 := hs
  have hcel := World.ownsRow.cells h (g := g) rfl
  have hflen : (UseR.flat us).length = us.length * 4 := UseR.flat_len us
  have hlm : (UseR.flat (us.drop (k + 1))).length = (us.length - (k + 1)) * 4 := by rw [UseR.flat_len, List.length_drop]; rfl
  unfold maxLen at hcap
  obtain ⟨A, hA, hnews⟩ : ∃ A : Addr, (if cap = k + 1 then some (⟨g, 0, none⟩ : Addr) else some ⟨g, (k + 1) * 4, none⟩) = some A ∧ Hid (∀ j u, (UseR.flat (us.drop (k + 1)))[j]? = some u → w.drew.cell? (A.add j) = some u) := by
    by_cases hc : cap = k + 1
    · refine ⟨⟨g, 0, none⟩, by simp [hc], fun j u hu => ?_⟩
      have h0 : (UseR.flat (us.drop (k + 1))).length = 0 := by rw [hlm]; omega
      rw [List.length_eq_zero_iff.1 h0] at hu
      simp at hu
    · refine ⟨⟨g, (k + 1) * 4, none⟩, by simp [hc], fun j u hu => ?_⟩
      rw [← UseR.flat_drop, List.getElem?_drop] at hu
      have := hcel ((k + 1) * 4 + j) u hu
      rw [Addr.add_lit, Nat.zero_add] at this
      rw [Addr.add_lit]
      exact this
  have s1 : Hid ((UseR.flat (us.drop (k + 1))).length = (us.length - (k + 1)) * 4) := hlm
  have s2 : Hid (∀ u ∈ UseR.flat (us.drop (k + 1)), u.oneCell' = true) := UseR.flat_oneCell _
  have s3 : Hid (∀ j, j < (UseR.flat (us.drop (k + 1))).length → (w.drew.cell? ⟨g, 0 + k * 4 + j, none⟩).isSome = true ∧ w.drew.frozen? ⟨g, 0 + k * 4 + j, none⟩ = false) := by
    intro j hj
    rw [hlm] at hj
    refine ⟨?_, free_of hg _⟩
    show (w.cell? _).isSome = true
    rw [cell_of hg, Array.getElem?_eq_getElem (by omega)]
    rfl
  have Hmid := Lib.hid (delete_mid h hk ((Fr.refl noBlock w).drew))
  have hne : ((k : Int) == (k : Int) + 1) = false := by rw [beq_eq_false_iff_ne]; omega
  have hk1 : (k : Int) + 1 ≤ (us.length : Int) := by omega
  have hk2 : (us.length : Int) ≤ (cap : Int) := by omega
  have hk3 : (cap : Int) ≤ 9223372036854775807 := by omega
  have hp2 : ((k : Int) + 1).toNat = k + 1 := by omega
  have hkc : k ≤ cap := by omega
  have hp0 : (0 : Int) ≤ (k : Int) + 1 := by omega
  clear hg hcel hflen hlm ht hs' hs cur
  go_enter Try.func36, Try.ntmps36
  go_wp2_with fail
  go_region_law (refine step_append_room rfl (.tmp 22) (.tmp 25) 31 rfl 40 i0 4 Try.underlying31 hi0 hz1 g 0 k cap (by simp [Act.eval, Act.put]) A (us.length - (k + 1)) (cap - (k + 1)) (UseR.flat (us.drop (k + 1))) (by simp [Act.eval, Act.put]) s1.out hnews.out s2.out (by omega) s3.out ?_)
  obtain ⟨L, hL⟩ : ∃ L, us.length = L + 1 := ⟨us.length - 1, by omega⟩
  rw [show k + (us.length - (k + 1)) = L from by omega]
  obtain ⟨W, hW⟩ : ∃ W, W = w.drew.setCells g (k * 4) (UseR.flat (us.drop (k + 1))) := ⟨_, rfl⟩
  rw [← hW]
  obtain ⟨hf1, cur, hg, hs, ht⟩ := Hmid.out
  rw [← hW] at hf1 hg
  obtain ⟨W', cur', hcl, hg', hs', ht', hf2⟩ := run_clear_row (P := Try.prog) (t := 31) (n := us.length - L) (c := cap - L) Try.underlying31 zero_use hg (o := L * 4) (by omega) (by rw [hs]; simp [Value.cells]; omega) (by intro v hv; simp [Value.cells] at hv; rcases hv with rfl | rfl | rfl | rfl <;> rfl)
  have hcL : ¬ cap = L := by omega
  have hLn : (L : Int) ≤ (us.length : Int) := by omega
  have hrow : RowAt 40 UseR W' (.slice (some ⟨g, 0, none⟩) L cap) (us.eraseIdx k) := by
    have hle : (us.eraseIdx k).length = L := by rw [List.length_eraseIdx, if_pos hk]; omega
    have := RowAt.of_block (R := UseR) (xs := us.eraseIdx k) (cap := cap) hg' (by omega) (by unfold maxLen; omega) (by rw [hs', hs]; rfl) (by
      rw [hle]
      show cur'.toList.take (L * 4) = _
      rw [ht', ← ht]; congr 1; omega)
    rwa [hle] at this
  have HL := Lib.hid (show us.length - 1 = L by omega)
  have Hrow := Lib.hid hrow
  have Hf := Lib.hid (hf1.trans' hf2)
  clear hL hW hf1 hg hs ht hg' hs' ht' hf2 hrow
  go_wp2
  go_ret
  exact ⟨by rw [HL.out]; rfl, by rw [HL.out]; exact Hrow.out, Hf.out⟩
end Go.Proofs.Ytkcepppldhaiaaa
