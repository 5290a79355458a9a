/-
  THE WALK of the law LimitsFew.
-/
import Derived.Test.YtkcepppldhaiaaaLmLaw
namespace Go.Proofs.Ytkcepppldhaiaaa
open Go.RowKit

theorem nodup_ne {us : List Use} (hg : GoodU us) {k m : Nat} (hk : k < us.length) (hm : m < k) : ((us[k].card).toList == (us[m]'(by omega)).card.toList) = false := by
  apply str_ne
  have h := hg.cards
  rw [List.nodup_iff_pairwise_ne, List.pairwise_iff_getElem] at h
  have := h m k (by simp; omega) (by simp; omega) hm
  intro e
  apply this
  simp [e]

set_option maxRecDepth 100000 in
set_option maxHeartbeats 1600000 in
theorem few_walk (ao : Option Addr) (cap : Nat) (xs : List LAct) (w : World) (ha : RowRd ActR w ao xs) :
    Calls Try.prog 5 #[.slice ao xs.length cap] w fun e w' => e = .returned (.bool true) ∧ Below w.heap.size w w' := by
  have hlen := ha.len
  unfold maxLen at hlen
  go_enter Try.func5, Try.ntmps5
  go_wp2_with fail
  refine (small_any _).mono ?_
  rintro e w1 ⟨rfl, b1⟩
  go_wp2_with fail
  refine (MyBook.new (w0 := w) b1).mono ?_
  rintro e w2 ⟨l, F2, rfl, h2⟩
  clear b1
  go_wp2_with fail
  go_loopw [5] (fun s5 wr => ∃ (k : Nat) (us : List Use) (F : Nat → Prop), k ≤ xs.length ∧ s5 = .int .i64 k ∧ MyBook w l us wr F) (fun s5 _ => xs.length - (intOf s5).toNat)
  case atStart => exact ⟨0, [], F2, Nat.zero_le _, rfl, h2⟩
  case round =>
    obtain ⟨k, us, F, hk, rfl, hm⟩ := hrel
    by_cases hlt : k < xs.length ∧ k < 150
    · obtain ⟨h1, h150⟩ := hlt
      obtain ⟨b, off, rfl, hb, c0, c1, c2, c3, c4, c5, c6, c7⟩ := act_cells (ha.below hm.below) h1
      have h1' : (k : Int) < (xs.length : Int) := by omega
      have h150' : (k : Int) < 150 := by omega
      have Hdo := Lib.hid (hm.do_ xs[k] rfl rfl)
      unfold LAct.val at Hdo
      generalize doL us xs[k] = vs at *
      generalize doE us xs[k] = x at *
      generalize xs[k] = a at *
      clear hm
      go_wp2_with fail
      refine Hdo.out.mono ?_
      rintro e w3 ⟨F3, rfl, h3, s3⟩
      clear s3
      go_wp2_with fail
      refine h3.list.mono ?_
      rintro e w4 ⟨vo, vc, rfl, h4, hrow, f4, hn4⟩
      have hgood := h4.good
      have hvl := hgood.len
      have H4 := Lib.hid h4
      have Hg := Lib.hid hgood
      have Hrow := Lib.hid hrow
      clear h3 h4 hgood hrow f4 hn4
      have h16 : (vs.length : Int) ≤ 16 := by omega
      go_wp2_with fail
      go_loopw [7] (fun s7 wr => ∃ m : Nat, m ≤ vs.length ∧ s7 = .int .i64 m ∧ Fr noBlock w4 wr) (fun s7 _ => vs.length - (intOf s7).toNat)
      case atStart => exact ⟨0, Nat.zero_le _, rfl, Fr.refl _ _⟩
      case round =>
        obtain ⟨m, hm, rfl, hf⟩ := hrel
        by_cases hlt2 : m < vs.length
        · obtain ⟨g, rfl, hgl, _, _, z0, z1, z2, z3, _⟩ := use_own (Hrow.out.fr0 hf) hlt2
          have hm1 : (m : Int) < (vs.length : Int) := by omega
          have hne := fun j (hj : j < m) => nodup_ne Hg.out hlt2 hj
          obtain ⟨o1, o2, o3, o4, o5, o6⟩ := Hg.out.each _ (List.getElem_mem hlt2)
          have hce : (vs[m].card.toList == ([] : List UInt8)) = false := by
            unfold cardB at o1
            simp only [Bool.and_eq_true, Bool.not_eq_true'] at o1
            have := o1.1
            simpa using this
          have hce2 : vs[m].card.toList.isEmpty = false := by simpa using hce
          have Hne := Lib.hid hne
          have HF := Lib.hid hf
          generalize vs[m] = u at *
          clear hne o1 o4 o6 hf
          obtain ⟨wo, rfl⟩ : ∃ wo : World, wo = wr := ⟨_, rfl⟩
          go_wp2_with fail
          go_loopw [8] (fun s8 wr => ∃ j : Nat, j ≤ m ∧ s8 = .int .i64 j ∧ Fr noBlock wo wr) (fun s8 _ => m - (intOf s8).toNat)
          case atStart => exact ⟨0, Nat.zero_le _, rfl, Fr.refl _ _⟩
          case round =>
            obtain ⟨j, hj, rfl, hf⟩ := hrel
            by_cases hlt3 : j < m
            · have hj1 : (j : Int) < (m : Int) := by omega
              have hj2 : (j : Int) < (vs.length : Int) := by omega
              obtain ⟨g', e', _, _, _, v0, _, _, _, _⟩ := use_own (Hrow.out.fr0 (HF.out.trans' hf)) (show j < vs.length by omega)
              obtain rfl : g' = g := by simpa using e'.symm
              have p0 := (hf.cell (p := ⟨g', m * 4, none⟩) hgl (fun x => x)).trans z0
              have hq := Hne.out j hlt3
              generalize vs[j].card = cj at *
              clear e'
              go_wp2_with fail
              go_quiet (fail)
              go_wp2_with fail
              go_roundw
              case rel => exact ⟨j + 1, by omega, by go_num, hf.drewN _⟩
              case measure => simp [intOf]; omega
            · have hj1 : (m : Int) ≤ (j : Int) := by omega
              have p0 := (hf.cell (p := ⟨g, m * 4, none⟩) hgl (fun x => x)).trans z0
              have p1 := (hf.cell (p := ⟨g, m * 4 + 1, none⟩) hgl (fun x => x)).trans z1
              have p2 := (hf.cell (p := ⟨g, m * 4 + 2, none⟩) hgl (fun x => x)).trans z2
              have p3 := (hf.cell (p := ⟨g, m * 4 + 3, none⟩) hgl (fun x => x)).trans z3
              have HF2 := Lib.hid (HF.out.trans' hf)
              clear hf
              go_wp2_with fail
              go_roundw
              case rel => exact ⟨m + 1, by omega, by go_num, HF2.out⟩
              case measure => simp [intOf]; omega
        · have hm1 : (vs.length : Int) ≤ (m : Int) := by omega
          go_wp2_with fail
          go_roundw
          case rel => exact ⟨k + 1, vs, F3, by omega, by go_num, H4.out.keep hf⟩
          case measure => simp [intOf]; omega
    · by_cases hlt' : k < xs.length
      · have h1 : (k : Int) < (xs.length : Int) := by omega
        have h2 : (150 : Int) ≤ (k : Int) := by omega
        clear hlt hlt'
        go_wp2_with fail
        go_ret
        exact ⟨rfl, hm.below⟩
      · have h1 : (xs.length : Int) ≤ (k : Int) := by omega
        clear hlt hlt'
        go_wp2_with fail
        go_ret
        exact ⟨rfl, hm.below⟩
end Go.Proofs.Ytkcepppldhaiaaa
