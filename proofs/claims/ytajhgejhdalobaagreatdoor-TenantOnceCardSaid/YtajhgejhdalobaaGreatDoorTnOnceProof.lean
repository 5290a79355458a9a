/-
  PROVED: TenantOnce, for every input: what comes again is answered as at first. Condition: the listed tables of the library read as the program lays them (tied).
-/
import Derived.Deep.QuietTactic
import Derived.BigQuiet
import Derived.Lay
import Derived.LaidOnce
import Derived.SevenTiedAt
import Derived.Test.YtajhgejhdalobaaGreatDoorGloL
import Derived.Test.YtajhgejhdalobaaGreatDoorTie
import Derived.Test.YtajhgejhdalobaaGreatDoorCards
import Derived.Test.YtajhgejhdalobaaGreatDoorTnY
namespace Go.Proofs.YtajhgejhdalobaaGreatDoor
open Go.RowKit

theorem fld_eq (f : Fld) (W : World) : (binOp .neq 31 (.agg #[.int .i64 f.n, .string f.v]) (.agg #[.int .i64 f.n, .string f.v])).run Tryz.prog W = .ok (.bool false) W := by
  simp [go_sem]
def SameP (w : World) (e : Ending) (w' : World) : Prop := e = .returned (.bool true) ∧ Fr noBlock w w'
set_option maxRecDepth 100000 in
set_option maxHeartbeats 1600000 in
theorem same_yes (t : ByteArray) {ao bo : Option Addr} {l : List Fld} {w : World} (ha : RowRd FldR w ao l) (hb : RowRd FldR w bo l) (ca cb : Nat) (hl : l.length ≤ maxLen) : Calls Tryz.prog 27 #[.agg #[.string t, .slice ao l.length ca], .agg #[.string t, .slice bo l.length cb]] w (SameP w) := by
  have HA := Lib.hid ha
  have HB := Lib.hid hb
  unfold maxLen at hl
  have HF0 := Lib.hid (((Fr.refl noBlock w).alloc (.cells #[.string t, .slice ao l.length ca] 25)).alloc (.cells #[.string t, .slice bo l.length cb] 25))
  have t1 : ((l.length : Int) != (l.length : Int)) = false := by rw [bne_eq_false_iff_eq]
  have HB1 := Lib.hid (heap_old (.cells #[.string t, .slice bo l.length cb] 25) (heap_new w (.cells #[.string t, .slice ao l.length ca] 25)))
  have HB2 := Lib.hid (show ((w.alloc (.cells #[.string t, .slice ao l.length ca] 25)).alloc (.cells #[.string t, .slice bo l.length cb] 25)).heap[w.heap.size + 1]? = some (.cells #[.string t, .slice bo l.length cb] 25 (0, 0)) by
    have := heap_new (w.alloc (.cells #[.string t, .slice ao l.length ca] 25)) (.cells #[.string t, .slice bo l.length cb] 25)
    simpa using this)
  clear ha hb
  go_enter Tryz.func27, Tryz.ntmps27
  go_wp2_with fail
  refine wp_at (φ := fun W => Fr noBlock w W ∧ W.heap[w.heap.size]? = some (.cells #[.string t, .slice ao l.length ca] 25 (0, 0)) ∧ W.heap[w.heap.size + 1]? = some (.cells #[.string t, .slice bo l.length cb] 25 (0, 0))) ⟨HF0.out, HB1.out, HB2.out⟩ ?_
  rintro W ⟨hf, hb1, hb2⟩
  have HF := Lib.hid hf
  have HW1 := Lib.hid (And.intro hb1 hb2)
  clear hf hb1 hb2 HF0 HB1 HB2
  go_loopw [5] (fun s5 wr => ∃ k : Nat, k ≤ l.length ∧ s5 = .int .i64 k ∧ Hid (Fr noBlock W wr)) (fun s5 _ => l.length - (intOf s5).toNat)
  case atStart => exact ⟨0, Nat.zero_le _, rfl, Lib.hid (Fr.refl _ _)⟩
  case round =>
    obtain ⟨k, hk, rfl, Hf⟩ := hrel
    have c1 := cell_of (Hf.out.obj HW1.out.1 (fun x => x)) 1
    have c2 := cell_of (Hf.out.obj HW1.out.2 (fun x => x)) 1
    simp at c1 c2
    by_cases hlt : k < l.length
    · have h1' : (k : Int) < (l.length : Int) := by omega
      have h0' : (0 : Int) ≤ (k : Int) := by omega
      have hk1 : k + 1 ≤ l.length := hlt
      obtain ⟨b1, o1, rfl, -, p0, p1⟩ := fld_cells (HA.out.fr0 (HF.out.trans' Hf.out)) hlt
      obtain ⟨b2, o2, rfl, -, q0, q1⟩ := fld_cells (HB.out.fr0 (HF.out.trans' Hf.out)) hlt
      have he := fld_eq l[k]
      generalize l[k] = f at *
      obtain ⟨fn, fv⟩ := f
      simp only at p0 p1 q0 q1 he
      clear hlt
      go_wp2_with fail
      go_quiet (fail)
      go_wp2_with fail
      go_roundw
      case rel => exact ⟨k + 1, hk1, by go_num, Lib.hid (Hf.out.drewN nq)⟩
      case measure => simp [intOf]; omega
    · have h1' : (l.length : Int) ≤ (k : Int) := by omega
      have HF2 := Lib.hid (HF.out.trans' Hf.out)
      clear hlt
      go_wp2_with fail
      go_ret
      exact ⟨rfl, HF2.out⟩
end Go.Proofs.YtajhgejhdalobaaGreatDoor
namespace Go.Proofs.YtajhgejhdalobaaGreatDoor
open Go.RowKit

theorem lit_eqs {t : ByteArray} (h : ¬ t ∈ asksT) : (t.toList == [48, 49, 48, 48]) = false ∧ (t.toList == [48, 49, 50, 48]) = false ∧ (t.toList == [48, 50, 48, 48]) = false ∧ (t.toList == [48, 50, 50, 48]) = false := by
  unfold asksT at h
  simp only [List.mem_cons, List.not_mem_nil, or_false, not_or] at h
  obtain ⟨h1, h2, h3, h4⟩ := h
  exact ⟨lit_ne h1, lit_ne h3, lit_ne h2, lit_ne h4⟩
set_option maxRecDepth 100000 in
set_option maxHeartbeats 6400000 in
theorem once_walk {w : World} (hG : Glob w noBlock) {ao : Option Addr} {xs : List MAct} (hx : RowRd MActR w ao xs) (hok : ∀ y ∈ xs, y.Ok w) (cap : Nat) (n : Int) {t : ByteArray} {mo : Option Addr} {mc : Nat} {q : List Fld} (hm : ArgM w t mo mc q) (now : Int) {bo : Option Addr} {zs : List MAct} (hz : RowRd MActR w bo zs) (hzk : ∀ y ∈ zs, y.Ok w) (bc : Nat) (thn : Int) :
    Calls Tryz.prog 7 #[.int .i64 n, .slice ao xs.length cap, .agg #[.string t, .slice mo q.length mc], .int .i64 now, .slice bo zs.length bc, .int .i64 thn] w fun e w' => e = .returned (.bool true) ∧ Below w.heap.size w w' := by
  have HX := Lib.hid (And.intro hG (And.intro hx hok))
  have HZ := Lib.hid (And.intro hz hzk)
  have HMs := Lib.hid hm
  clear hG hx hok hm hz hzk
  obtain ⟨qn, hqn⟩ : ∃ x, q.length = x := ⟨_, rfl⟩
  obtain ⟨xl, hxl⟩ : ∃ x, xs.length = x := ⟨_, rfl⟩
  have HN := Lib.hid (And.intro hqn hxl)
  rw [hqn, hxl]
  clear hqn hxl
  go_enter Tryz.func7, Tryz.ntmps7
  go_upto_region 1 with fail
  refine wp_at (fun W => W.heap[w.heap.size]? = some (.cells #[.string t, .slice mo qn mc] 25 (0, 0)) ∧ Fr noBlock w W) ⟨heap_new w _, (Fr.refl _ w).alloc _⟩ ?_
  obtain ⟨g, hg⟩ : ∃ g, w.heap.size = g := ⟨_, rfl⟩
  have HGw := Lib.hid hg
  rw [hg]
  clear hg
  rintro w1 ⟨b1, f1⟩
  have H1 := Lib.hid (And.intro b1 f1)
  have HSm := Lib.hid (tsmall_any (HX.out.1.fr f1))
  clear b1 f1
  go_wp2_with fail
  refine HSm.out.mono ?_
  rintro e w2 ⟨rfl, f2⟩
  have H2 := Lib.hid (And.intro (f2.obj H1.out.1 (fun z => z)) (H1.out.2.trans' f2))
  have HMd := Lib.hid (made_any (HX.out.1.fr H2.out.2) (HX.out.2.1.fr0 H2.out.2) (fun y hy => (HX.out.2.2 y hy).fr0 H2.out.2) cap n)
  rw [HN.out.2] at HMd
  unfold MadeP at HMd
  clear f2 HSm H1
  go_wp2_with fail
  refine HMd.out.mono ?_
  rintro e w3 (⟨-, rfl, f3⟩ | ⟨m, A, H, -, m1, m2, rfl, o3⟩)
  · have H3 := Lib.hid (H2.out.2.trans' f3)
    clear f3 HMd H2
    go_wp2_with fail
    go_ret
    exact ⟨rfl, H3.out.below (Nat.le_refl _) (fun _ h => h.elim)⟩
  obtain ⟨S, hS⟩ : ∃ S, actsT (maskV mastB m) newT (actsM xs 40) = S := ⟨_, rfl⟩
  have ho : TenantOk (maskV mastB m) S := hS ▸ ok_acts _ (ok_new _)
  rw [hS] at o3
  have O3 := Lib.hid (show OwnL w w3 A mastB m S H [(g, .cells #[.string t, .slice mo qn mc] 25 (0, 0))] from
    ⟨⟨o3.it, H2.out.2.trans' o3.fr, fun k hk => Nat.le_trans H2.out.2.size (o3.new k hk)⟩, fun p hp => by
      rcases List.mem_cons.1 hp with rfl | hp
      · exact ⟨o3.fr.obj H2.out.1 (fun z => z), Nat.le_of_eq HGw.out, fun hk => by
          have h1 := o3.new _ hk
          have h2 := heap_lt H2.out.1
          dsimp only at h1
          omega⟩
      · cases hp⟩)
  clear o3 hS HMd
  obtain ⟨sb, hsb⟩ : ∃ x, stateB S = x := ⟨_, rfl⟩
  have HB := Lib.hid hsb
  clear hsb
  have HS := Lib.hid (show ∀ W H L, OwnL w W A mastB m S H L → Calls Tryz.prog 26 #[.pointer (some ⟨A.tb, 0, none⟩)] W (StateP sb W) from fun W H L o => HB.out ▸ state_any o.own.it ho)
  unfold StateP at HS
  go_wp2_with fail
  refine (HS.out _ _ _ O3.out).mono ?_
  rintro e w4 ⟨⟨sa, sn, sc⟩, rfl, l4, r4, f4, n4⟩
  dsimp only at l4
  subst l4
  have hcv := conv_rd r4.rd sc
  have O4 := Lib.hid (O3.out.on f4)
  have HHa := Lib.hid (O4.out.handle HX.out.1 (by decide) m1 m2 ho HMs.out now)
  have HCo := Lib.hid (handle_code (han_cases (maskV mastB m) S t q now))
  have HLn := Lib.hid (han_len (han_cases (maskV mastB m) S t q now))
  have HSt := Lib.hid (fun h1 h2 => stands_new ho (han_cases (maskV mastB m) S t q now) h1 h2)
  have HO5 := Lib.hid (ok_handle ho t q now)
  unfold msgV at HHa
  obtain ⟨⟨S5, T, l⟩, hr⟩ : ∃ r, handleT (maskV mastB m) S t q now = r := ⟨_, rfl⟩
  rw [hr] at HHa HCo HLn HSt HO5
  rw [HN.out.1] at HHa
  dsimp only at HHa HCo HLn HSt HO5
  have c0 := cell_of (O4.out.at' in0) 0
  have c1 := cell_of (O4.out.at' in0) 1
  clear r4 f4 n4 O3 hr
  dsimp only [SV.val] at hcv ⊢
  go_wp2_with fail
  refine HHa.out.mono ?_
  rintro e w6 ⟨⟨xa, xn, xc⟩, H6, rfl, j1, j2, j3, j4, j5⟩
  dsimp only [SV.val] at j1 j2 j5 ⊢
  subst j1
  obtain ⟨gx, hgx⟩ : ∃ x, w6.heap.size = x := ⟨_, rfl⟩
  have J6 := Lib.hid (And.intro j3 (hand_bes j2 j5))
  clear j2 j3 j4 j5 HHa O4 c0 c1 hcv
  go_upto_region 7 with fail
  refine wp_at (fun W => OwnL w W A mastB m S5 H6 [(gx, .cells #[.string T, .slice xa l.length xc] 25 (0, 0)), (g, .cells #[.string t, .slice mo qn mc] 25 (0, 0))] ∧ Bes FldR xa l W H6) ⟨hgx ▸ J6.out.1.new _, J6.out.2.fr ((Fr.refl _ w6).alloc _)⟩ ?_
  clear J6 hgx
  rintro w7 ⟨k7, r7⟩
  have H7 := Lib.hid (And.intro k7 r7)
  have b7 := k7.at' in0
  have c0 := cell_of b7 0
  have c1 := cell_of b7 1
  have HV := Lib.hid (rvalue_of T r7.rd xc (Nat.le_trans HLn.out (by unfold maxLen; omega)) 39)
  unfold ValueP at HV
  obtain ⟨vc, hvc, hno⟩ := HCo.out
  rw [show valS 39 l = vc from by unfold valS; rw [hvc]; rfl, show valB 39 l = true from by unfold valB; rw [hvc]; rfl] at HV
  have HVc := Lib.hid hvc
  clear k7 r7 b7 HCo hvc
  go_wp2_with fail
  refine HV.out.mono ?_
  rintro e w8 ⟨rfl, f8⟩
  have H8 := Lib.hid (And.intro (H7.out.1.on f8) (H7.out.2.fr f8))
  clear f8 HV H7 c0 c1
  by_cases hc : vc = cOk
  · have hc2 : vc = ⟨#[48, 48]⟩ := hc
    have HSt2 := Lib.hid (fun h1 => HSt.out h1 (hc ▸ HVc.out))
    clear hc hno HSt HVc
    subst hc2
    have c0 := cell_of (H8.out.1.at' (in1)) 0
    have c1 := cell_of (H8.out.1.at' (in1)) 1
    dsimp only at c0 c1
    by_cases ht : t ∈ asksT
    · have hst := HSt2.out ht
      by_cases hth : thn < 0 ∨ 1099511627776 < thn
      · clear hst HSt2
        unfold asksT at ht
        simp only [List.mem_cons, List.not_mem_nil, or_false] at ht
        unfold t4 at ht
        rcases hth with h0 | h0
        · rcases ht with rfl | rfl | rfl | rfl
          all_goals
            go_wp2_with fail
            go_ret
            exact ⟨rfl, H8.out.1.own.fr.below (Nat.le_refl _) (fun _ h => h.elim)⟩
        · have h1 : ¬ thn < 0 := by omega
          rcases ht with rfl | rfl | rfl | rfl
          all_goals
            go_wp2_with fail
            go_ret
            exact ⟨rfl, H8.out.1.own.fr.below (Nat.le_refl _) (fun _ h => h.elim)⟩
      · have h0 : ¬ thn < 0 := by omega
        have h1 : ¬ 1099511627776 < thn := by omega
        have HSn := Lib.hid (And.intro hst HO5.out)
        clear hst HSt2 hth HO5
        have HTh := Lib.hid (show 0 ≤ thn ∧ thn ≤ 1099511627776 by omega)
        obtain ⟨pb, hpb⟩ : ∃ x, w8.heap.size = x := ⟨_, rfl⟩
        have HPb := Lib.hid hpb
        clear hpb
        go_upto_region 10 with fail
        go_cut [87] from 58 to 87 (fun s87 wx => s87 = .bool false ∧ Hid (wx.heap.size = pb ∧ OwnL w wx A mastB m S5 H6 [(gx, .cells #[.string T, .slice xa l.length xc] 25 (0, 0)), (g, .cells #[.string t, .slice mo qn mc] 25 (0, 0))] ∧ Bes FldR xa l wx H6))
        case first =>
          have HR := Lib.hid (And.intro HPb.out H8.out)
          have HDe := Lib.hid (show Value.bool (decide (thn < 0) || decide (1099511627776 < thn)) = Value.bool false by rw [decide_eq_false (Int.not_lt.2 h0), decide_eq_false (Int.not_lt.2 h1)]; rfl)
          clear H8 HPb HS HSn HTh
          unfold asksT at ht
          simp only [List.mem_cons, List.not_mem_nil, or_false] at ht
          unfold t4 at ht
          rcases ht with rfl | rfl | rfl | rfl
          all_goals
            go_wp2_with fail
            go_meet
            exact ⟨HDe.out, HR⟩
        clear H8 HPb c0 c1 h0 h1 ht
        obtain ⟨rfl, H8⟩ := hcut
        have hpb := H8.out.1
        go_upto_region 13 with fail
        clear hpb
        refine wp_at (fun W => OwnL w W A mastB m S5 H6 [(pb, .cells #[.slice none 0 0, .int .i64 0, .pointer (some ⟨A.tb, 0, none⟩), .pointer none, .slice none 0 0] 43 (0, 0)), (gx, .cells #[.string T, .slice xa l.length xc] 25 (0, 0)), (g, .cells #[.string t, .slice mo qn mc] 25 (0, 0))] ∧ Bes FldR xa l W H6) ⟨H8.out.1 ▸ H8.out.2.1.new _, H8.out.2.2.fr ((Fr.refl _ _).alloc _)⟩ ?_
        clear H8
        rintro w9 ⟨k9, r9⟩
        have H9 := Lib.hid (And.intro k9 r9)
        clear k9 r9
        go_wp2_with fail
        go_loopw [20] (fun s20 W => ∃ (k : Nat) (S : TenS) (H : Nat → Prop), k ≤ zs.length ∧ k ≤ 20 ∧ s20 = .int .i64 k ∧ Hid (StandsX (maskV mastB m) S t q (T, l) ∧ TenantOk (maskV mastB m) S) ∧ Hid (OwnL w W A mastB m S H [(pb, .cells #[.slice none 0 0, .int .i64 0, .pointer (some ⟨A.tb, 0, none⟩), .pointer none, .slice none 0 0] 43 (0, 0)), (gx, .cells #[.string T, .slice xa l.length xc] 25 (0, 0)), (g, .cells #[.string t, .slice mo qn mc] 25 (0, 0))] ∧ Bes FldR xa l W H)) (fun s20 _ => 20 - (intOf s20).toNat)
        case atStart => exact ⟨0, S5, H6, Nat.zero_le _, Nat.zero_le _, rfl, HSn, H9⟩
        case round =>
          clear H9 HSn
          obtain ⟨k, S9, H9, hk, hk20, rfl, HSn, HI⟩ := hrel
          by_cases hlt : k < zs.length ∧ k < 20
          · obtain ⟨hlt, hlt2⟩ := hlt
            have q1 : (k : Int) < (zs.length : Int) := by omega
            have q2 : (k : Int) < 20 := by omega
            have q0 : (0 : Int) ≤ (k : Int) := by omega
            obtain ⟨b, off, rfl, hbw, y0, y1, y2, y3, y4, y5, y6, y7, y8, y9⟩ := mact_cells HZ.out.1 hlt
            have HF := Lib.hid HI.out.1.own.fr
            have z0 := (HF.out.cell (p := ⟨b, _, none⟩) hbw (fun z => z)).trans y0
            have z1 := (HF.out.cell (p := ⟨b, _, none⟩) hbw (fun z => z)).trans y1
            have z2 := (HF.out.cell (p := ⟨b, _, none⟩) hbw (fun z => z)).trans y2
            have z3 := (HF.out.cell (p := ⟨b, _, none⟩) hbw (fun z => z)).trans y3
            have z4 := (HF.out.cell (p := ⟨b, _, none⟩) hbw (fun z => z)).trans y4
            have z5 := (HF.out.cell (p := ⟨b, _, none⟩) hbw (fun z => z)).trans y5
            have z6 := (HF.out.cell (p := ⟨b, _, none⟩) hbw (fun z => z)).trans y6
            have z7 := (HF.out.cell (p := ⟨b, _, none⟩) hbw (fun z => z)).trans y7
            have z8 := (HF.out.cell (p := ⟨b, _, none⟩) hbw (fun z => z)).trans y8
            have z9 := (HF.out.cell (p := ⟨b, _, none⟩) hbw (fun z => z)).trans y9
            have HOn := Lib.hid (HI.out.1.only HX.out.1 (by decide) m1 m2 HSn.out.2 in0 rfl (HZ.out.2 _ (List.getElem_mem hlt)))
            have HSt := Lib.hid (stands_only HSn.out.1 zs[k].plain)
            have HO2 := Lib.hid (ok_only HSn.out.2 zs[k].plain)
            clear y0 y1 y2 y3 y4 y5 y6 y7 y8 y9 hbw HF
            generalize zs[k] = a at *
            obtain ⟨d, an, anow, at1, fo, fc, fq, ⟨rt, rm, rs, ro⟩, s⟩ := a
            unfold MAct.val at HOn
            unfold MAct.plain at HSt HO2
            dsimp only at HOn HSt HO2 z0 z1 z2 z3 z4 z5 z6 z7 z8 z9
            unfold MAct.plain at HOn
            dsimp only at HOn
            by_cases hd : d = 6
            · subst hd
              clear HOn HSt HO2 z1 z2 z3 z4 z5 z6 z7 z8 z9
              go_wp2_with fail
              go_roundw
              case rel => exact ⟨k + 1, S9, H9, hlt, by omega, by go_num, HSn, HI⟩
              case measure => simp [intOf]; omega
            · have hd2 : (d == 6) = false := by simpa using hd
              have HSp := Lib.hid (And.intro (HSt.out hd) HO2.out)
              obtain ⟨⟨S8, T8, l8⟩, hr⟩ : ∃ r, onlyT (maskV mastB m) S9 ⟨d, an, anow, at1, fq, ⟨rt, rm, rs, ro⟩, s⟩ = r := ⟨_, rfl⟩
              rw [hr] at HOn HSp
              dsimp only at HOn HSp
              clear hr hd HSt HO2 HSn
              go_wp2_with fail
              with_reducible refine HOn.out.mono ?_
              rintro e w10 ⟨⟨ya, yn, yc⟩, H10, rfl, -, -, j3, j4, -⟩
              have HI2 := Lib.hid (And.intro j3 (HI.out.2.step j4))
              clear j3 j4 HOn HI z0 z1 z2 z3 z4 z5 z6 z7 z8 z9
              go_wp2_with fail
              go_roundw
              case rel => exact ⟨k + 1, S8, H10, hlt, by omega, by go_num, HSp, HI2⟩
              case measure => simp [intOf]; omega
          · have hcs : (zs.length : Int) ≤ (k : Int) ∨ ((k : Int) < (zs.length : Int) ∧ (20 : Int) ≤ (k : Int)) := by omega
            clear hlt
            obtain ⟨tb, htb⟩ : ∃ x, stateB S9 = x := ⟨_, rfl⟩
            have HB9 := Lib.hid htb
            clear htb
            have HS9 := Lib.hid (show ∀ W H L, OwnL w W A mastB m S9 H L → Calls Tryz.prog 26 #[.pointer (some ⟨A.tb, 0, none⟩)] W (StateP tb W) from fun W H L o => HB9.out ▸ state_any o.own.it HSn.out.2)
            unfold StateP at HS9
            have HA9 := Lib.hid (stands_again HSn.out.1 HTh.out.1 HTh.out.2)
            clear HS HB
            rcases hcs with q | ⟨q, q'⟩
            all_goals
              go_wp2_with fail
              refine (HS9.out _ _ _ HI.out.1).mono ?_
              rintro e wa ⟨⟨ta, tn, tc⟩, rfl, la, ra, fa, na⟩
              dsimp only at la
              subst la
              have hcv := conv_rd ra.rd tc
              have HJ := Lib.hid (And.intro (HI.out.1.on fa) (HI.out.2.fr fa))
              have HHa := Lib.hid (HJ.out.1.handle HX.out.1 (by decide) m1 m2 HSn.out.2 HMs.out thn)
              unfold msgV at HHa
              rw [HA9.out, HN.out.1] at HHa
              dsimp only at HHa
              have c0 := cell_of (HJ.out.1.at' in2) 0
              have c1 := cell_of (HJ.out.1.at' in2) 1
              clear ra fa na HI
              dsimp only [SV.val] at hcv ⊢
              go_wp2_with fail
              refine HHa.out.mono ?_
              rintro e wb ⟨⟨ya, yn, yc⟩, Hb, rfl, j1, j2, j3, j4, j5⟩
              dsimp only [SV.val] at j1 j2 j5 ⊢
              subst j1
              obtain ⟨gy, hgy⟩ : ∃ x, wb.heap.size = x := ⟨_, rfl⟩
              have JB := Lib.hid (And.intro j3 (And.intro (HJ.out.2.step j4) (RowAt.rd j2)))
              clear j2 j3 j4 j5 HHa HJ c0 c1 hcv
              go_upto_region 20 with fail
              refine wp_at (fun W => OwnL w W A mastB m S9 Hb [(gy, .cells #[.string T, .slice ya l.length yc] 25 (0, 0)), (pb, .cells #[.slice none 0 0, .int .i64 0, .pointer (some ⟨A.tb, 0, none⟩), .pointer none, .slice none 0 0] 43 (0, 0)), (gx, .cells #[.string T, .slice xa l.length xc] 25 (0, 0)), (g, .cells #[.string t, .slice mo qn mc] 25 (0, 0))] ∧ RowRd FldR W xa l ∧ RowRd FldR W ya l) ⟨hgy ▸ JB.out.1.new _, (JB.out.2.1.fr ((Fr.refl _ wb).alloc _)).rd, JB.out.2.2.fr0 ((Fr.refl _ wb).alloc _)⟩ ?_
              clear JB hgy
              rintro wc ⟨kc, rx, ry⟩
              have HSa := Lib.hid (same_yes T rx ry xc yc (Nat.le_trans HLn.out (by unfold maxLen; omega)))
              unfold SameP at HSa
              have c0 := cell_of (kc.at' in0) 0
              have c1 := cell_of (kc.at' in0) 1
              have c2 := cell_of (kc.at' in2) 0
              have c3 := cell_of (kc.at' in2) 1
              have HC := Lib.hid kc
              clear kc rx ry
              dsimp only at c0 c1 c2 c3
              go_wp2_with fail
              refine HSa.out.mono ?_
              rintro e wd ⟨rfl, fd⟩
              have HD := Lib.hid (HC.out.on fd)
              clear fd HSa HC c0 c1 c2 c3
              go_wp2_with fail
              refine (HS9.out _ _ _ HD.out).mono ?_
              rintro e we ⟨⟨ua, un, uc⟩, rfl, le, re, fe, ne⟩
              dsimp only at le
              subst le
              have hcv := conv_rd re.rd uc
              have HE := Lib.hid (HD.out.own.fr.trans' fe)
              clear re fe ne HD
              dsimp only [SV.val] at hcv ⊢
              go_wp2_with fail
              go_ret
              exact ⟨rfl, HE.out.below (Nat.le_refl _) (fun _ h => h.elim)⟩
    · obtain ⟨n1, n2, n3, n4⟩ := lit_eqs ht
      clear ht HSt2
      go_wp2_with fail
      go_ret
      exact ⟨rfl, H8.out.1.own.fr.below (Nat.le_refl _) (fun _ h => h.elim)⟩
  · have hn2 := lit_ne2 hc
    have hS5 := hno hc
    subst hS5
    have HS8 := Lib.hid (HS.out _ _ _ H8.out.1)
    clear hc hno HSt HVc
    go_wp2_with fail
    refine HS8.out.mono ?_
    rintro e w9 ⟨⟨ta, tn, tc⟩, rfl, l9, r9, f9, n9⟩
    dsimp only at l9
    subst l9
    have hcv := conv_rd r9.rd tc
    have H9 := Lib.hid (H8.out.1.own.fr.trans' f9)
    clear r9 f9 n9 H8 HS8
    dsimp only [SV.val] at hcv ⊢
    go_wp2_with fail
    go_ret
    exact ⟨rfl, H9.out.below (Nat.le_refl _) (fun _ h => h.elim)⟩
end Go.Proofs.YtajhgejhdalobaaGreatDoor
namespace Go.Proofs.YtajhgejhdalobaaGreatDoor.tonce
open Go.ChangeShapes Go.WideShapes Go.ChangeAt Go.RowKit
open Go.ChangeMaps (open_string shut_string)

theorem own : ownKnob Tryz.prog.godebug = none := by kernel_rfl
theorem laidOut : laidOutB Tryz.prog = true := by kernel_rfl

set_option maxRecDepth 100000 in
theorem lifted (os : Os) (started : os.Started) (H : Type) (enc : TypeId × Value → H) :
    ReturnsInHanded {} Tryz.checked os 7 .any (fun w args => (Rows.tenantOnceSpec.pre enc Tryz.prog Tryz.f7 [] false w args ∧ laidMetH Tryz.prog Rows.tenantOnceRow.laid w) ∧ sizedMet enc Tryz.prog Tryz.f7 (OpenSpec.ofChange Rows.tenantOnceSpec) false w args)
      (Rows.tenantOnceSpec.post enc Tryz.prog Tryz.f7 false true false false) := by
  refine handed_and_shaped (C := Tryz.checked) (X := fun w _ => laidMetH Tryz.prog Rows.tenantOnceRow.laid w) (fun _ _ _ hh h => h.of_heap hh) own started (by kernel_rfl) Tryz.func7
    (ChangeSpec.witness_shaped (enc := enc) (C := Tryz.checked) (os := os) (X := fun w _ => laidMetH Tryz.prog Rows.tenantOnceRow.laid w) false (World.laidAll Tryz.prog os Rows.tenantOnceRow.laid) #[.int .i64 0, .slice none 0 0, .agg #[.string .empty, .slice none 0 0], .int .i64 0, .slice none 0 0, .int .i64 0] 8 (World.laidAll_os _ _ _)
      (World.shaped_of_ZipB (by kernel_rfl) (by kernel_rfl)) (by kernel_rfl) (by kernel_rfl) (by kernel_rfl)
      (by rw [MakeChecks.laidMetH_plain _ _ _ (by kernel_rfl)]; exact laidMet_laidAll _ (by kernel_rfl) (by kernel_rfl))) ?_
  intro W base args ds gs before hval0 hW _ hsz0 hlaid hshape
  have hglob : Glob W noBlock := glob_of hlaid (by rfl) hshape
  clear hlaid hshape
  have hval : ∀ (j : Nat) t v, Tryz.f7.params[j]? = some t → args[j]? = some v → Value.okWide Tryz.prog W .any base t v := hval0
  have hW' := hW
  obtain ⟨p, q, hA0, hV, rfl, hfz, hnd⟩ := hW
  have hA : DataW.TrodAll enc Tryz.prog W 0 (fun _ => true) true Tryz.f7.params.toList args.toList ds p := hA0
  have hsz : (DataW.weightsEach Tryz.prog (Tryz.f7.params.toList ++ Rows.tenantOnceSpec.plain.varTypes Tryz.prog) (ds ++ gs)).all (· ≤ reachBytes) = true := hsz0
  rw [Tryz.params7] at hA hval hsz
  obtain ⟨v0, vs0, d0, ds0, p0, q0, hargs, rfl, rfl, h0, r0⟩ := trodAll_cons hA
  obtain ⟨v1, vs1, d1, ds1, p1, q1, rfl, rfl, rfl, h1, r1⟩ := trodAll_cons r0
  obtain ⟨v2, vs2, d2, ds2, p2, q2, rfl, rfl, rfl, h2, r2⟩ := trodAll_cons r1
  obtain ⟨v3, vs3, d3, ds3, p3, q3, rfl, rfl, rfl, h3, r3⟩ := trodAll_cons r2
  obtain ⟨v4, vs4, d4, ds4, p4, q4, rfl, rfl, rfl, h4, r4⟩ := trodAll_cons r3
  obtain ⟨v5, vs5, d5, ds5, p5, q5, rfl, rfl, rfl, h5, r5⟩ := trodAll_cons r4
  obtain ⟨rfl, rfl, rfl⟩ := trodAll_nil r5
  obtain rfl : args = #[v0, v1, v2, v3, v4, v5] := by cases args; simp_all
  obtain ⟨rfl, rfl⟩ := trodVars_none hV
  have k0 := h0
  have lt0 : ∀ x ∈ p0, x.block < W.heap.size := by obtain ⟨m, hm⟩ := k0; exact DataW.trod_lt m _ _ _ hm
  have k1 := h1
  have lt1 : ∀ x ∈ p1, x.block < W.heap.size := by obtain ⟨m, hm⟩ := k1; exact DataW.trod_lt m _ _ _ hm
  have k2 := h2
  have lt2 : ∀ x ∈ p2, x.block < W.heap.size := by obtain ⟨m, hm⟩ := k2; exact DataW.trod_lt m _ _ _ hm
  have k3 := h3
  have lt3 : ∀ x ∈ p3, x.block < W.heap.size := by obtain ⟨m, hm⟩ := k3; exact DataW.trod_lt m _ _ _ hm
  have k4 := h4
  have lt4 : ∀ x ∈ p4, x.block < W.heap.size := by obtain ⟨m, hm⟩ := k4; exact DataW.trod_lt m _ _ _ hm
  have k5 := h5
  have lt5 : ∀ x ∈ p5, x.block < W.heap.size := by obtain ⟨m, hm⟩ := k5; exact DataW.trod_lt m _ _ _ hm
  obtain ⟨n, rfl, _, _, hn⟩ := open_int Tryz.underlying3 (hval 0 3 v0 rfl rfl) h0
  obtain ⟨ao, cap, xs, rfl, hx, hx_s⟩ := open_macts (hval 1 22 v1 rfl rfl) h1 (Sz.of hsz (j := 1) rfl rfl)
  obtain ⟨t, mo, mc, q, rfl, hm⟩ := open_msg (hval 2 25 v2 rfl rfl) h2 (Sz.of hsz (j := 2) rfl rfl)
  obtain ⟨now, rfl, _, _, hnow⟩ := open_int Tryz.underlying3 (hval 3 3 v3 rfl rfl) h3
  obtain ⟨bo, bc, zs, rfl, hz, hz_s⟩ := open_macts (hval 4 22 v4 rfl rfl) h4 (Sz.of hsz (j := 4) rfl rfl)
  obtain ⟨thn, rfl, _, _, hthn⟩ := open_int Tryz.underlying3 (hval 5 3 v5 rfl rfl) h5
  clear hA0 hval0 hsz0
  refine (once_walk hglob hx hx_s cap n hm now hz hz_s bc thn).mono fun e W' ⟨he, bel⟩ => ?_
  subst he
  exact ⟨_, rfl, _, _, _, [], _, [], hW', trodAll_mk1 (shut_bool Tryz.underlying4 _),
    (trodAll_cons_mk (Below.trod laidOut (by kernel_rfl) (of_decide_eq_true (by kernel_rfl)) k0 bel lt0) (trodAll_cons_mk (Below.trod laidOut (by kernel_rfl) (of_decide_eq_true (by kernel_rfl)) k1 bel lt1) (trodAll_cons_mk (Below.trod laidOut (by kernel_rfl) (of_decide_eq_true (by kernel_rfl)) k2 bel lt2) (trodAll_cons_mk (Below.trod laidOut (by kernel_rfl) (of_decide_eq_true (by kernel_rfl)) k3 bel lt3) (trodAll_cons_mk (Below.trod laidOut (by kernel_rfl) (of_decide_eq_true (by kernel_rfl)) k4 bel lt4) (trodAll_cons_mk (Below.trod laidOut (by kernel_rfl) (of_decide_eq_true (by kernel_rfl)) k5 bel lt5) trodAll_mk0)))))), rfl, bel.frame _, fun h => by cases h⟩

theorem cl1 : (Rows.tenantOnceRow.inPlace == Tryz.prog.inPlace 7) = true := by kernel_rfl
theorem cl2 : (Rows.tenantOnceRow.unfollowed == Tryz.prog.unfollowed 7) = true := by kernel_rfl
theorem cl3 : (Rows.tenantOnceRow.recurses == Tryz.prog.recurses 7) = true := by kernel_rfl
theorem cl4 : (Rows.tenantOnceRow.named == Tryz.prog.varsNamed 7) = true := by kernel_rfl
theorem closed : joinedFacts Tryz.prog 7 Tryz.f7 Rows.tenantOnceSpec Rows.tenantOnceRow = true := by
  unfold joinedFacts
  rw [cl1, cl2, cl3, cl4]
  kernel_rfl
theorem goes : false = Rows.tenantOnceRow.goesBy Tryz.prog := by kernel_rfl
theorem over : Rows.tenantOnceRow.holds Tryz.pinned (OpenSpec.ofChange Rows.tenantOnceSpec) :=
  OpenClaim.holds_of_wide 7 Tryz.f7 rfl rfl rfl rfl rfl rfl rfl ⟨rfl, rfl, rfl, rfl, rfl⟩ rfl rfl rfl rfl rfl (by kernel_rfl) Tryz.func7 closed
    (of_decide_eq_true (by kernel_rfl)) (by unfold Func.isWrapper; first | (rw [if_pos (by decide +kernel)]; kernel_rfl) | (rw [if_neg (by decide +kernel)]; exact ⟨rfl, rfl⟩))
    (fun os started H enc _ => lifted os started H enc)

theorem proved : Rows.TenantOnceCardSaid :=
  Claim7.holds_tied_plain_at .later [] [.data, .data, .data, .data, .pinned] true _ false over (fun _ h => by cases h) (by kernel_rfl) (fun _ h => by cases h) tenantOnce_row_tie rfl ⟨rfl, rfl⟩ (by kernel_rfl) rfl
    (fun f fn hf hfn => by
      obtain rfl : f = 7 := Option.some.inj ((show Tryz.prog.funcNamed "moneyer/moneyerlaw18.TenantOnce" = some 7 by kernel_rfl).symm.trans hf) |>.symm
      obtain rfl : fn = Tryz.f7 := (Option.some.inj (Tryz.func7.symm.trans hfn)).symm
      exact ⟨by kernel_rfl, fun j t ht => by
        rw [Tryz.params7] at ht
        have hm : t ∈ ([3, 22, 25, 3, 22, 3] : List Nat) := by simpa using Array.mem_of_getElem? ht
        have hall : (([3, 22, 25, 3, 22, 3] : List Nat).all fun u => !Tryz.prog.wantsStandIn u) = true := by kernel_rfl
        exact (show Tryz.prog.wantsStandIn t = false by simpa using List.all_eq_true.1 hall t hm)⟩)
    goes
end Go.Proofs.YtajhgejhdalobaaGreatDoor.tonce
