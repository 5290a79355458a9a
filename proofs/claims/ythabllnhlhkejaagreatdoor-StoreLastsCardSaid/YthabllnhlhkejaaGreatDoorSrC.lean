/-
  StoreNumbers: the walk.
-/
import Derived.Deep.RegionHeld3
import Derived.Deep.CutBlock
import Derived.Deep.DeepCutAuto
import Derived.Deep.CutRange
import Derived.Test.YthabllnhlhkejaaGreatDoorSrA
import Derived.Test.YthabllnhlhkejaaGreatDoorSrO
namespace Go.Proofs.YthabllnhlhkejaaGreatDoor
open Go.RowKit
open StoreX

theorem load_17 {w W : World} {sp j rg sg L q : Nat} {d : DK} {F : Nat → Prop} {S : Saves} {X : Nat → Bs} (h : OwnS w W sp j rg sg L d F) (hX : @StoreX d17 masterB 4 2 S X d) (hq : q < 4) :
    Calls Tryz.prog 11 #[.pointer (some ⟨sp, 0, none⟩), .int .i64 (1 + (q : Int))] W fun e w' => ∃ (s : SV) (F' : Nat → Prop), e = .returned (.tuple #[s.val, .int .i64 ((told (S (q + 1))).2.1 : Int), .int .i64 (told (S (q + 1))).2.2]) ∧ s.n = (told (S (q + 1))).1.length ∧ RowAt 5 ByteR w' s.val (told (S (q + 1))).1 ∧ OwnS w w' sp j rg sg L d F' := by
  have e : (1 + (q : Int)) = ((q + 1 : Nat) : Int) := by omega
  rw [e]
  refine (@load_in d17 _ sp j rg sg L 4 2 (q + 1) _ _ _ _ _ h.it hX (by decide) (by omega) (by omega) (by decide)).mono ?_
  rintro e w' ⟨s, F', rfl, k1, k2, k3, k4, k5⟩
  exact ⟨s, F', rfl, k1, k2, h.step k3 k4⟩
theorem room_17 {w W : World} {sp j rg sg L : Nat} {d : DK} {F : Nat → Prop} {S : Saves} {X : Nat → Bs} (h : OwnS w W sp j rg sg L d F) (hX : @StoreX d17 masterB 4 2 S X d) :
    Calls Tryz.prog 10 #[.pointer (some ⟨sp, 0, none⟩)] W fun e w' => e = .returned (.int .i64 100) ∧ Fr noBlock W w' := @room_in d17 _ sp j rg sg L 4 2 _ _ _ _ _ h.it hX
theorem numS_upd (S : Saves) (t u : Nat) (x : Nat × Bs) : numS (upd S t x u) = if u = t then x.1 else numS (S u) := by
  unfold upd
  by_cases e : u = t
  · rw [if_pos e, if_pos e]
    rfl
  · rw [if_neg e, if_neg e]
/-- the laws' store behind i acts -/
structure St17 (w W : World) (sp j rg sg L : Nat) (d : DK) (F : Nat → Prop) (S : Saves) (X : Nat → Bs) (i : Nat) : Prop where
  own : OwnS w W sp j rg sg L d F
  st : @StoreX d17 masterB 4 2 S X d
  few : ∀ t, numS (S t) ≤ i
set_option maxRecDepth 100000 in
set_option maxHeartbeats 6400000 in
theorem numbers_walk {w : World} {ao : Option Addr} {xs : List DAct} (hx : RowRd DActR w ao xs) (hok : ∀ y ∈ xs, y.Ok w) (cap : Nat) (t : Int) :
    Calls Tryz.prog 3 #[.slice ao xs.length cap, .int .i64 t] w fun e w' => e = .returned (.bool true) ∧ Below w.heap.size w w' := by
  have HX := Lib.hid (And.intro hx hok)
  obtain ⟨q, hq, hand⟩ := who_is t
  have HSm := Lib.hid (ssmall_any w)
  have q1 : wrap64 (1 + (q : Int)) = 1 + (q : Int) := by unfold wrap64; omega
  clear hx hok
  go_enter Tryz.func3, Tryz.ntmps3
  go_wp2_with fail
  refine HSm.out.mono ?_
  rintro e w0 ⟨rfl, f0⟩
  have HOp := Lib.hid (opened_17 f0)
  clear f0 HSm
  go_wp2_with fail
  refine HOp.out.mono ?_
  rintro e w1 ⟨sp, j, rg, sg, L, F1, rfl, h1⟩
  have H1 := Lib.hid (show St17 w w1 sp j rg sg L (DK.new 17 64) F1 (fun _ => none) (fun _ => List.replicate 64 0) 0 from ⟨h1, new17, fun _ => Nat.le_refl _⟩)
  clear h1 HOp
  go_wp2_with fail
  clear hand q1
  go_loopw [9, 10] (fun s9 s10 W => ∃ (i n : Nat) (d : DK) (F : Nat → Prop) (S : Saves) (X : Nat → Bs), i ≤ xs.length ∧ i ≤ 25 ∧ s10 = .int .i64 i ∧ s9 = .int .i64 (n : Int) ∧ Hid (St17 w W sp j rg sg L d F S X i ∧ n = numS (S (q + 1)))) (fun _ s10 _ => 25 - (intOf s10).toNat)
  case atStart => exact ⟨0, 0, _, F1, _, _, Nat.zero_le _, by omega, rfl, rfl, Lib.hid ⟨H1.out, rfl⟩⟩
  case round =>
    clear H1
    obtain ⟨i, n, d, F, S, X, hi, hi25, rfl, rfl, HI⟩ := hrel
    by_cases hlt : i < xs.length ∧ i < 25
    · obtain ⟨hlt, hi24⟩ := hlt
      have q1 : (i : Int) < (xs.length : Int) := by omega
      have q2 : (i : Int) < 25 := by omega
      have q0 : (0 : Int) ≤ (i : Int) := by omega
      obtain ⟨g, off, rfl, hgw, -, y1, -, y3, -⟩ := dact_cells HX.out.1 hlt
      have ha := HX.out.2 xs[i] (List.getElem_mem hlt)
      generalize xs[i] = a at *
      obtain ⟨op, an, am, bo, bc, b, ko, kc, keep⟩ := a
      dsimp only at y1 y3
      have HBy := Lib.hid (show RowRd ByteR w bo b from ha.b)
      have HY := Lib.hid (show ∀ W, Fr noBlock w W → W.cell? ⟨g, off + i * 5 + 1, none⟩ = some (.int .i64 an) ∧ W.cell? ⟨g, off + i * 5 + 3, none⟩ = some (.slice bo b.length bc) from fun W hf => ⟨(hf.cell (p := ⟨g, _, none⟩) hgw (fun z => z)).trans y1, (hf.cell (p := ⟨g, _, none⟩) hgw (fun z => z)).trans y3⟩)
      obtain ⟨z1, z3⟩ := HY.out _ HI.out.1.own.fr
      obtain ⟨q', hq', hand'⟩ := who_is an
      have p1 : wrap64 (1 + (q' : Int)) = 1 + (q' : Int) := by unfold wrap64; omega
      have HSv := Lib.hid (save_17 (q := q') HI.out.1.own HI.out.1.st hq' (by have := HI.out.1.few (q' + 1); omega) HBy.out bc)
      clear y1 y3 ha hgw
      go_wp2_with fail
      refine HSv.out.mono ?_
      rintro e w2 ⟨d2, X2, F2, rfl, h2, x2⟩
      have hbl := HBy.out.len
      obtain ⟨S2, hS2⟩ : ∃ S2, (if 100 < b.length then S else upd S (q' + 1) (numS (S (q' + 1)) + 1, b)) = S2 := ⟨_, rfl⟩
      rw [hS2] at x2
      have H2 := Lib.hid (show St17 w w2 sp j rg sg L d2 F2 S2 X2 (i + 1) from ⟨h2, x2, fun u => by
        rw [← hS2]
        have h0 := HI.out.1.few u
        have h1 := HI.out.1.few (q' + 1)
        split
        · omega
        · rw [numS_upd]
          split
          · show numS (S (q' + 1)) + 1 ≤ i + 1
            omega
          · omega⟩)
      have HRm := Lib.hid (show ∀ W, Fr noBlock w2 W → _ from fun W hf => room_17 (h2.on hf) x2)
      have HLd := Lib.hid (show ∀ W, Fr noBlock w2 W → _ from fun W hf => load_17 (q := q) (h2.on hf) x2 hq)
      obtain ⟨-, z3⟩ := HY.out _ h2.fr
      have HN := Lib.hid (show numS (S2 (q + 1)) = if ¬ 100 < b.length ∧ q' = q then n + 1 else n by
        rw [HI.out.2, ← hS2]
        by_cases hr : 100 < b.length
        · rw [if_pos hr, if_neg (fun h => h.1 hr)]
        · rw [if_neg hr, numS_upd]
          by_cases e : q' = q
          · subst e
            rw [if_pos rfl, if_pos ⟨hr, rfl⟩]
          · rw [if_neg (by omega), if_neg (fun h => e h.2)])
      have hn25 : n ≤ 25 := by rw [HI.out.2]; have := HI.out.1.few (q + 1); omega
      clear h2 x2 HSv hS2 HI
      obtain ⟨E, hE, hEr⟩ : ∃ E : Int, (if 100 < b.length then (14 : Int) else 0) = E ∧ ((E = 14 ∧ (100 : Int) < (b.length : Int)) ∨ (E = 0 ∧ (b.length : Int) ≤ 100)) := by
        by_cases hr : 100 < b.length
        · exact ⟨14, if_pos hr, .inl ⟨rfl, by omega⟩⟩
        · exact ⟨0, if_neg hr, .inr ⟨rfl, by omega⟩⟩
      rw [hE]
      clear hE
      rcases hEr with ⟨rfl, p5⟩ | ⟨rfl, p5⟩
      all_goals
        go_upto_region 12 with fail
        go_region_held3 (fun W => W.cell? ⟨g, off + i * 5 + 3, none⟩ = some (.slice bo b.length bc))
          (first | exact z3 | exact (HY.out _ (by repeat (first | (with_reducible exact H2.out.own.fr) | (with_reducible exact F5) | (with_reducible refine Fr.drew ?_)))).2 | fail "nokeep")
          (first
            | (go_at_call 10; (with_reducible refine (HRm.out _ (by repeat (first | (with_reducible exact Fr.refl _ _) | (with_reducible refine Fr.drew ?_)))).mono ?_); rintro e w5 ⟨rfl, k1⟩; have F25 : Fr noBlock w2 w5 := ((Fr.refl noBlock w2).drew).trans' k1; have F5 : Fr noBlock w w5 := H2.out.own.fr.trans' F25; have HF25 := Lib.hid F25; clear k1 F25)
            | fail "noarm")
        all_goals
          clear F5 z3 HRm
          go_upto_if 73 with fail
          go_cut [9] from 30 to 92 (fun s9 W => ∃ n' : Nat, s9 = .int .i64 (n' : Int) ∧ Hid (n' = numS (S2 (q + 1)) ∧ Fr noBlock w2 W))
          case first =>
            have hn := HN.out
            by_cases e : ¬ 100 < b.length ∧ q' = q
            · first
                | (exfalso; clear hn; omega)
                | (rw [if_pos e] at hn
                   have HNn := Lib.hid hn.symm
                   have p7 : ((1 + (q' : Int)) == (1 + (q : Int))) = true := by rw [e.2]; simp
                   have p8 : wrap64 ((n : Int) + 1) = ((n + 1 : Nat) : Int) := by unfold wrap64; omega
                   clear hn e
                   go_wp2_with fail
                   go_meet
                   exact ⟨n + 1, by go_num, Lib.hid ⟨HNn.out, HF25.out⟩⟩)
            · rw [if_neg e] at hn
              have HNn := Lib.hid hn.symm
              first
                | (have p7 : ((1 + (q' : Int)) == (1 + (q : Int))) = false := by
                     simp; omega
                   clear hn e
                   go_wp2_with fail
                   go_meet
                   exact ⟨n, rfl, Lib.hid ⟨HNn.out, HF25.out⟩⟩)
                | (clear hn e
                   go_wp2_with fail
                   go_meet
                   exact ⟨n, rfl, Lib.hid ⟨HNn.out, HF25.out⟩⟩)
          obtain ⟨n', rfl, HC⟩ := hcut
          clear HN p5 hn25
          have HL := Lib.hid (HLd.out wc HC.out.2)
          clear HLd
          go_wp2_with fail
          refine HL.out.mono ?_
          rintro e w6 ⟨⟨ya, yn, yc⟩, F6, rfl, k1, k2, k3⟩
          have H6 := Lib.hid (show St17 w w6 sp j rg sg L d2 F6 S2 X2 (i + 1) from ⟨k3, H2.out.st, H2.out.few⟩)
          unfold SV.val
          dsimp only
          clear k1 k2 k3 HL
          cases hS : S2 (q + 1) with
          | none =>
            have hn0 : n' = 0 := by rw [HC.out.1, hS]; rfl
            subst hn0
            have HR := Lib.hid (show (0 : Nat) = numS (S2 (q + 1)) by rw [hS]; rfl)
            clear hS HC
            dsimp only [told]
            go_wp2_with fail
            go_roundw
            case rel => exact ⟨i + 1, 0, d2, F6, S2, X2, hlt, by omega, by go_num, rfl, Lib.hid ⟨H6.out, HR.out⟩⟩
            case measure => simp [intOf]; omega
          | some r =>
            obtain ⟨k, b2⟩ := r
            have hk1 := (@StoreX.fine d17 _ _ _ _ _ _ H2.out.st (q + 1) k b2 hS).1
            have hn0 : n' = k := by rw [HC.out.1, hS]; rfl
            subst hn0
            have HR := Lib.hid (show n' = numS (S2 (q + 1)) by rw [hS]; rfl)
            have p6 : (0 : Int) < (n' : Int) := by omega
            have p6n : 0 < n' := by omega
            clear hS HC hk1
            dsimp only [told]
            go_wp2_with fail
            go_roundw
            case rel => exact ⟨i + 1, n', d2, F6, S2, X2, hlt, by omega, by go_num, rfl, Lib.hid ⟨H6.out, HR.out⟩⟩
            case measure => simp [intOf]; omega
    · have HRm := Lib.hid (room_17 HI.out.1.own HI.out.1.st)
      have HFr := Lib.hid HI.out.1.own.fr
      by_cases h1 : i < xs.length
      · have h25 : i = 25 := by omega
        subst h25
        have q1 : ((25 : Nat) : Int) < (xs.length : Int) := by omega
        have q1' : (25 : Int) < (xs.length : Int) := by omega
        clear HI
        go_wp2_with fail
        refine HRm.out.mono ?_
        rintro e w5 ⟨rfl, hf⟩
        have H5 := Lib.hid (HFr.out.trans' hf)
        clear hf HRm
        go_wp2_with fail
        go_ret
        exact ⟨rfl, H5.out.below (Nat.le_refl _) (fun _ h => h.elim)⟩
      · have q1 : (xs.length : Int) ≤ (i : Int) := by omega
        clear HI
        go_wp2_with fail
        refine HRm.out.mono ?_
        rintro e w5 ⟨rfl, hf⟩
        have H5 := Lib.hid (HFr.out.trans' hf)
        clear hf HRm
        go_wp2_with fail
        go_ret
        exact ⟨rfl, H5.out.below (Nat.le_refl _) (fun _ h => h.elim)⟩
end Go.Proofs.YthabllnhlhkejaaGreatDoor
