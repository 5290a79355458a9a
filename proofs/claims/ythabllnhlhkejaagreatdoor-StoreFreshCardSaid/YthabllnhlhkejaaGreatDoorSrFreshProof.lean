/-
  PROVED: StoreFresh, for every input: each save has a number of its own ahead. Condition: the listed tables of the library read as the program lays them (tied).
-/
import Derived.BigQuiet
import Derived.Lay
import Derived.LaidOnce
import Derived.SevenTiedAt
import Derived.Test.YthabllnhlhkejaaGreatDoorSrO
import Derived.Test.YthabllnhlhkejaaGreatDoorTie
import Derived.Test.YthabllnhlhkejaaGreatDoorCards
import Derived.Test.YthabllnhlhkejaaGreatDoorSrA
namespace Go.Proofs.YthabllnhlhkejaaGreatDoor
open Go.RowKit
open StoreX

theorem strB_extract (l : Bs) (i j : Nat) : (strB l).extract i j = strB ((l.drop i).take (j - i)) := by
  apply ByteArray.ext
  rw [ByteArray.data_extract]
  simp [strB]
theorem part_head {k : Nat} {b : Bs} (t : Nat) (hb : b.length ≤ 100) :
    (partC masterB t 128 (some (k, b))).length = 128 ∧ ((partC masterB t 128 (some (k, b))).drop 4).take 8 = be8 k ∧ (partC masterB t 128 (some (k, b))).take 4 = be4 (b.length + 24) := by
  have hl := sealB_len (keyK_len masterB t 2 1) (keyK masterB t 3 1) k (aboutB t) b
  have h3 : (sealB (keyK masterB t 2 1) (keyK masterB t 3 1) k (aboutB t) b).take 8 = be8 k := by
    unfold sealB
    rw [List.append_assoc, List.take_append_of_le_length (by rw [be8_len]; exact Nat.le_refl _), List.take_of_length_le (by rw [be8_len]; exact Nat.le_refl _)]
  show (allB (sealB (keyK masterB t 2 1) (keyK masterB t 3 1) k (aboutB t) b) 128).length = 128 ∧ ((allB (sealB (keyK masterB t 2 1) (keyK masterB t 3 1) k (aboutB t) b) 128).drop 4).take 8 = be8 k ∧ (allB (sealB (keyK masterB t 2 1) (keyK masterB t 3 1) k (aboutB t) b) 128).take 4 = be4 (b.length + 24)
  obtain ⟨S, hS⟩ : ∃ S, sealB (keyK masterB t 2 1) (keyK masterB t 3 1) k (aboutB t) b = S := ⟨_, rfl⟩
  rw [hS] at hl h3 ⊢
  have e4 := be4_len S.length
  refine ⟨allB_len (by omega), ?_, ?_⟩
  · unfold allB
    rw [List.append_assoc, List.drop_append, List.drop_of_length_le (by omega), List.nil_append, e4, Nat.sub_self, List.drop_zero, List.take_append_of_le_length (by omega), h3]
  · unfold allB
    rw [List.append_assoc, List.take_append_of_le_length (by omega), List.take_of_length_le (by omega), hl]
set_option maxRecDepth 100000 in
set_option maxHeartbeats 3200000 in
theorem fresh_walk {w : World} {bo : Option Addr} {b : Bs} (hb : RowRd ByteR w bo b) (bc : Nat) (t : Int) :
    Calls Tryz.prog 5 #[.slice bo b.length bc, .int .i64 t] w fun e w' => e = .returned (.bool true) ∧ Below w.heap.size w w' := by
  have HB := Lib.hid hb
  obtain ⟨q, hq, hand⟩ := who_is t
  have hq0 : ((fun _ => none : Saves) (q + 1)) = none := rfl
  have HSm := Lib.hid (ssmall_any w)
  have q1 : wrap64 (1 + (q : Int)) = 1 + (q : Int) := by unfold wrap64; omega
  clear hb hq0
  go_enter Tryz.func5, Tryz.ntmps5
  go_wp2_with fail
  refine HSm.out.mono ?_
  rintro e w0 ⟨rfl, f0⟩
  have HOp := Lib.hid (opened_17 f0)
  clear f0 HSm
  go_wp2_with fail
  refine HOp.out.mono ?_
  rintro e w1 ⟨sp, j, rg, sg, L, F1, rfl, h1⟩
  have HSv := Lib.hid (save_17 (q := q) h1 new17 hq (by decide) HB.out bc)
  clear h1 HOp
  go_wp2_with fail
  refine HSv.out.mono ?_
  rintro e w2 ⟨d2, X2, F2, rfl, h2, x2⟩
  have H2 := Lib.hid (And.intro h2 x2)
  have HSf := Lib.hid (safe_17 (q := q) h2 x2 hq)
  clear h2 x2 HSv
  by_cases hr : 100 < b.length
  · rw [if_pos hr] at H2 HSf
    rw [if_pos hr]
    go_wp2_with fail
    refine HSf.out.mono ?_
    rintro e w3 ⟨rfl, h3⟩
    have HSv := Lib.hid (save_17 (q := q) h3 H2.out.2 hq (by decide) HB.out bc)
    clear h3 HSf
    rw [if_pos hr, if_pos hr] at HSv
    go_wp2_with fail
    refine HSv.out.mono ?_
    rintro e w4 ⟨d4, X4, F4, rfl, h4, x4⟩
    have HSf := Lib.hid (safe_17 (q := q) h4 x4 hq)
    clear h4 x4 HSv H2
    go_wp2_with fail
    refine HSf.out.mono ?_
    rintro e w5 ⟨rfl, h5⟩
    have H5 := Lib.hid h5
    clear h5 HSf
    go_wp2_with fail
    go_ret
    exact ⟨rfl, H5.out.fr.below (Nat.le_refl _) (fun _ h => h.elim)⟩
  · rw [if_neg hr] at H2 HSf
    rw [if_neg hr]
    have hu : upd (fun _ => none) (q + 1) (numS ((fun _ => none : Saves) (q + 1)) + 1, b) (q + 1) = some (1, b) := by
      unfold upd
      rw [if_pos rfl]
      rfl
    rw [hu] at HSf
    go_wp2_with fail
    refine HSf.out.mono ?_
    rintro e w3 ⟨rfl, h3⟩
    have hn : numS (upd (fun _ => none) (q + 1) (numS ((fun _ => none : Saves) (q + 1)) + 1, b) (q + 1)) = 1 := by rw [hu]; rfl
    have HSv := Lib.hid (save_17 (q := q) h3 H2.out.2 hq (by rw [hn]; decide) HB.out bc)
    clear h3 HSf
    rw [if_neg hr, if_neg hr, hn] at HSv
    go_wp2_with fail
    refine HSv.out.mono ?_
    rintro e w4 ⟨d4, X4, F4, rfl, h4, x4⟩
    have HSf := Lib.hid (safe_17 (q := q) h4 x4 hq)
    have hu2 : ∀ (S : Saves), upd S (q + 1) (1 + 1, b) (q + 1) = some (2, b) := fun S => by unfold upd; rw [if_pos rfl]
    rw [hu2] at HSf
    clear h4 x4 HSv H2
    go_wp2_with fail
    refine HSf.out.mono ?_
    rintro e w5 ⟨rfl, h5⟩
    have H5 := Lib.hid h5
    clear h5 HSf
    go_upto_region 12 with fail
    obtain ⟨s1, hs1⟩ : ∃ s1, strB (partC masterB (q + 1) 128 (some (1, b))) = s1 := ⟨_, rfl⟩
    obtain ⟨s2, hs2⟩ : ∃ s2, strB (partC masterB (q + 1) 128 (some (2, b))) = s2 := ⟨_, rfl⟩
    obtain ⟨p1, p2, p3⟩ := part_head (k := 1) (b := b) (q + 1) (by omega)
    obtain ⟨r1, r2, r3⟩ := part_head (k := 2) (b := b) (q + 1) (by omega)
    have z1 : s1.size = 128 := by rw [← hs1, strB_size, p1]
    have z2 : s2.size = 128 := by rw [← hs2, strB_size, r1]
    have x1 : s1.extract 4 12 = ⟨#[0, 0, 0, 0, 0, 0, 0, 1]⟩ := by rw [← hs1, strB_extract, p2]; rfl
    have x2 : s2.extract 4 12 = ⟨#[0, 0, 0, 0, 0, 0, 0, 2]⟩ := by rw [← hs2, strB_extract, r2]; rfl
    have x3 : s1.extract 0 4 = s2.extract 0 4 := by rw [← hs1, ← hs2, strB_extract, strB_extract, List.drop_zero, List.drop_zero, p3, r3]
    clear p1 p2 p3 r1 r2 r3
    rw [hs1, hs2]
    clear hs1 hs2
    go_quiet (fail)
    go_wp2_with fail
    go_ret
    exact ⟨rfl, (H5.out.fr.drewN _).below (Nat.le_refl _) (fun _ h => h.elim)⟩
end Go.Proofs.YthabllnhlhkejaaGreatDoor
namespace Go.Proofs.YthabllnhlhkejaaGreatDoor.sfresh
open Go.ChangeShapes Go.WideShapes Go.ChangeAt Go.RowKit
open Go.ChangeMaps (open_string shut_string)

theorem own : ownKnob Tryz.prog.godebug = none := by kernel_rfl
theorem laidOut : laidOutB Tryz.prog = true := by kernel_rfl

set_option maxRecDepth 100000 in
theorem lifted (os : Os) (started : os.Started) (H : Type) (enc : TypeId × Value → H) :
    ReturnsInHanded {} Tryz.checked os 5 .any (fun w args => (Rows.storeFreshSpec.pre enc Tryz.prog Tryz.f5 [] false w args ∧ laidMetH Tryz.prog Rows.storeFreshRow.laid w) ∧ sizedMet enc Tryz.prog Tryz.f5 (OpenSpec.ofChange Rows.storeFreshSpec) false w args)
      (Rows.storeFreshSpec.post enc Tryz.prog Tryz.f5 false true false false) := by
  refine returnsInHanded_of_change_and (C := Tryz.checked) (X := fun w _ => laidMetH Tryz.prog Rows.storeFreshRow.laid w) (fun _ _ _ hh h => h.of_heap hh) own started (by kernel_rfl) Tryz.func5
    (ChangeSpec.witness_shaped (enc := enc) (C := Tryz.checked) (os := os) (X := fun w _ => laidMetH Tryz.prog Rows.storeFreshRow.laid w) false (World.laidAll Tryz.prog os Rows.storeFreshRow.laid) #[.slice none 0 0, .int .i64 0] 8 (World.laidAll_os _ _ _)
      (World.shaped_of_ZipB (by kernel_rfl) (by kernel_rfl)) (by kernel_rfl) (by kernel_rfl) (by kernel_rfl)
      (by rw [MakeChecks.laidMetH_plain _ _ _ (by kernel_rfl)]; exact laidMet_laidAll _ (by kernel_rfl) (by kernel_rfl))) ?_
  intro W base args ds gs before hval0 hW _ hsz0 _ _
  have hval : ∀ (j : Nat) t v, Tryz.f5.params[j]? = some t → args[j]? = some v → Value.okWide Tryz.prog W .any base t v := hval0
  have hW' := hW
  obtain ⟨p, q, hA0, hV, rfl, hfz, hnd⟩ := hW
  have hA : DataW.TrodAll enc Tryz.prog W 0 (fun _ => true) true Tryz.f5.params.toList args.toList ds p := hA0
  have hsz : (DataW.weightsEach Tryz.prog (Tryz.f5.params.toList ++ Rows.storeFreshSpec.plain.varTypes Tryz.prog) (ds ++ gs)).all (· ≤ reachBytes) = true := hsz0
  rw [Tryz.params5] at hA hval hsz
  obtain ⟨v0, vs0, d0, ds0, p0, q0, hargs, rfl, rfl, h0, r0⟩ := trodAll_cons hA
  obtain ⟨v1, vs1, d1, ds1, p1, q1, rfl, rfl, rfl, h1, r1⟩ := trodAll_cons r0
  obtain ⟨rfl, rfl, rfl⟩ := trodAll_nil r1
  obtain rfl : args = #[v0, v1] := by cases args; simp_all
  obtain ⟨rfl, rfl⟩ := trodVars_none hV
  have k0 := h0
  have lt0 : ∀ x ∈ p0, x.block < W.heap.size := by obtain ⟨m, hm⟩ := k0; exact DataW.trod_lt m _ _ _ hm
  have k1 := h1
  have lt1 : ∀ x ∈ p1, x.block < W.heap.size := by obtain ⟨m, hm⟩ := k1; exact DataW.trod_lt m _ _ _ hm
  obtain ⟨bo, bc, b, rfl, hb⟩ := open_bytes (hval 0 28 v0 rfl rfl) h0
  obtain ⟨t, rfl, _, _, ht⟩ := open_int Tryz.underlying3 (hval 1 3 v1 rfl rfl) h1
  clear hA0 hval0 hsz0
  refine (fresh_walk hb bc t).mono fun e W' ⟨he, bel⟩ => ?_
  subst he
  exact ⟨_, rfl, _, _, _, [], _, [], hW', trodAll_mk1 (shut_bool Tryz.underlying4 _),
    (trodAll_cons_mk (Below.trod laidOut (by kernel_rfl) (of_decide_eq_true (by kernel_rfl)) k0 bel lt0) (trodAll_cons_mk (Below.trod laidOut (by kernel_rfl) (of_decide_eq_true (by kernel_rfl)) k1 bel lt1) trodAll_mk0)), rfl, bel.frame _, fun h => by cases h⟩

theorem over : Rows.storeFreshRow.holds Tryz.pinned (OpenSpec.ofChange Rows.storeFreshSpec) :=
  OpenClaim.holds_of_wide 5 Tryz.f5 rfl rfl rfl rfl rfl rfl rfl ⟨rfl, rfl, rfl, rfl, rfl⟩ rfl rfl rfl rfl rfl (by kernel_rfl) Tryz.func5 (by kernel_rfl)
    (of_decide_eq_true (by kernel_rfl)) (by unfold Func.isWrapper; first | (rw [if_pos (by decide +kernel)]; kernel_rfl) | (rw [if_neg (by decide +kernel)]; exact ⟨rfl, rfl⟩))
    (fun os started H enc _ => lifted os started H enc)

/-- THE STATEMENT: the tied card. -/
theorem proved : Rows.StoreFreshCardSaid :=
  Claim7.holds_tied_plain_at .later [] [.data, .data, .data] true _ false over (fun _ h => by cases h) (by kernel_rfl) (fun _ h => by cases h) storeFresh_row_tie rfl ⟨rfl, rfl⟩ (by kernel_rfl) rfl
    (fun f fn hf hfn => by
      obtain rfl : f = 5 := Option.some.inj ((show Tryz.prog.funcNamed "moneyer/moneyerlaw22.StoreFresh" = some 5 by kernel_rfl).symm.trans hf) |>.symm
      obtain rfl : fn = Tryz.f5 := (Option.some.inj (Tryz.func5.symm.trans hfn)).symm
      exact ⟨by kernel_rfl, fun j t ht => by
        rw [Tryz.params5] at ht
        have hm : t ∈ ([28, 3] : List Nat) := by simpa using Array.mem_of_getElem? ht
        have hall : (([28, 3] : List Nat).all fun u => !Tryz.prog.wantsStandIn u) = true := by kernel_rfl
        exact (show Tryz.prog.wantsStandIn t = false by simpa using List.all_eq_true.1 hall t hm)⟩)
    (by kernel_rfl)
end Go.Proofs.YthabllnhlhkejaaGreatDoor.sfresh
