/-
  JournalAll: the walk.
-/
import Derived.Test.YtmcckppmciflmaaJnCm
import Derived.Test.YtmcckppmciflmaaJnAllF
import Derived.Test.YtmcckppmciflmaaDkArms
import Derived.Test.YtmcckppmciflmaaDkBoot
import Derived.Deep.CutBlock
import Derived.BigQuiet
namespace Go.Proofs.Ytmcckppmciflmaa
open Go.RowKit

theorem allT_five {X : Nat → Bs} {d : DK} (h : Cl (A0 X) d) : allT d (allN d) = five X := by
  have e : allN d = 5 := by unfold allN secs; rw [h.1.len]; rfl
  rw [e]
  exact five_congr fun k hk => Cl.readB h hk
theorem all_14 {j L : Nat} {d : DK} {bad : Int} {X : Nat → Bs} {w : World} {H : Nat → Prop} (h : JAt j L d bad w H) (hc : Cl (A0 X) d) : Calls Try.prog 30 #[.pointer (some ⟨j, 0, none⟩)] w fun e w' => e = .returned (.string (strB (five X))) ∧ Fr noBlock w w' := by
  have := all_any h
  rw [allT_five hc] at this
  exact this
theorem secs_14 {X : Nat → Bs} {d : DK} (h : Cl (A0 X) d) : secs d = 5 := by unfold secs; rw [h.1.len]; rfl
theorem Mine.disk {w0 w : World} {j L : Nat} {d : DK} {bad : Int} {H : Nat → Prop} (m : Mine w0 (JAt j L d bad) w H) : ∃ G, Mine w0 (DiskAt L d) w G := by
  obtain ⟨G, hG, hs, -⟩ := m.it.disk
  exact ⟨G, hG, fun k hk => m.base k (hs k hk), m.below⟩
/-- an Open of a disk of our own -/
theorem mine_open {w0 w : World} {L : Nat} {d : DK} {F : Nat → Prop} {e : Ending} {w' : World} (m : Mine w0 (DiskAt L d) w F) (h : JOpenP L d F w e w') :
    (∃ j H', (openR d).2 = 0 ∧ e = .returned (.tuple #[.pointer (some ⟨j, 0, none⟩), .int .i64 0]) ∧ Mine w0 (JAt j L (openR d).1 0) w' H') ∨ ((openR d).2 ≠ 0 ∧ ∃ G, e = .returned (.tuple #[.pointer none, .int .i64 (openR d).2]) ∧ Mine w0 (DiskAt L (openR d).1) w' G) := by
  rcases h with ⟨h0, j, H', he, h1, s1⟩ | ⟨h0, F', he, h1, s1⟩
  · exact .inl ⟨j, H', h0, he, m.step (A' := JAt j L (openR d).1 0) h1 s1⟩
  · exact .inr ⟨h0, F', he, m.step (A' := DiskAt L (openR d).1) h1 s1⟩
theorem strTake (l : Bs) (k : Nat) : ((strB l).extract 0 k).toList = l.take k := by
  rw [ByteArray.toList_eq]
  simp [strB, ByteArray.data_extract]
theorem strDrop (l : Bs) (k : Nat) : ((strB l).extract k l.length).toList = l.drop k := by
  rw [ByteArray.toList_eq]
  simp [strB, ByteArray.data_extract]
  exact List.take_of_length_le (by simp)
theorem str_cut (t b : Bs) (k : Nat) : ((strB t).extract 0 k ++ strB b) ++ (strB t).extract (k + 64) (strB t).size = strB (t.take k ++ b ++ t.drop (k + 64)) := by
  have e1 : (strB t).extract 0 k = strB (t.take k) := toList_inj' (by rw [strTake, strB_list])
  have e2 : (strB t).extract (k + 64) (strB t).size = strB (t.drop (k + 64)) := toList_inj' (by rw [strB_size, strDrop, strB_list])
  rw [e1, e2, strB_app, strB_app]
theorem madeL_64 (l : List JW) : ∀ v ∈ madeL l 64, v.2.length = 64 := by
  intro q hq
  obtain ⟨v, _, rfl⟩ := List.mem_map.1 hq
  exact fillB_len _ _
set_option maxRecDepth 100000 in
set_option maxHeartbeats 6400000 in
theorem all_walk (ao : Option Addr) (cap : Nat) (xs : List JAct) (lo : Option Addr) (lc : Nat) (l : List JW) (co : Option Addr) (cc : Nat) (cs : List JCut) (w : World) (hx : RowRd JActR w ao xs) (hxs : ∀ y ∈ xs, y.Ok w) (hl : ∃ ws, ArgW w lo ws l) (hc : RowRd JCutR w co cs) (hcs : ∀ y ∈ cs, y.Ok w) :
    Calls Try.prog 7 #[.slice ao xs.length cap, .slice lo l.length lc, .slice co cs.length cc] w fun e w' => e = .returned (.bool true) ∧ Below w.heap.size w w' := by
  obtain ⟨lws, hl⟩ := hl
  have HX := Lib.hid hx
  have HXS := Lib.hid hxs
  have HL := Lib.hid hl
  have HC := Lib.hid hc
  have HCS := Lib.hid hcs
  have hxl := hx.len
  have hcl := hc.len
  unfold maxLen at hxl hcl
  have hll := hl.bytes
  clear hx hxs hl hc hcs
  go_enter Try.func7, Try.ntmps7
  go_wp2_with fail
  refine (jsmall_any _).mono ?_
  rintro e w0 ⟨rfl, f0⟩
  go_wp2_with fail
  refine (new_mine (f0.below (Nat.le_refl _) (fun _ h => h.elim)) 14 64 (by kernel_rfl) (show _ = DK.new 14 64 from rfl)).mono ?_
  rintro e w1 ⟨L, F1, rfl, hm1⟩
  have M1 := Lib.hid hm1
  clear hm1 f0
  go_wp2_with fail
  refine (jopen_any M1.out.it).mono ?_
  rintro e w2 hO
  obtain ⟨j, H2, rfl, h2, s2⟩ := hO.ok (Jn14.open' Jn14.new)
  have M2 := Lib.hid (M1.out.step (A' := JAt j L (DK.new 14 64) 0) h2 s2)
  clear h2 s2 hO M1
  go_upto_block 0 with fail
  go_cut [] from 53 to 76 (fun wx => ∃ X d H, Mine w (JAt j L d 0) wx H ∧ Jn14 X d)
  case first =>
    go_wp2_with fail
    go_loopw [12] (fun s10 wr => ∃ (i : Nat) (X : Nat → Bs) (d : DK) (H : Nat → Prop), i ≤ xs.length ∧ i ≤ 12 ∧ s10 = .int .i64 i ∧ Mine w (JAt j L d 0) wr H ∧ Hid (Jn14 X d)) (fun s10 _ => 12 - (intOf s10).toNat)
    case atStart => exact ⟨0, _, _, H2, Nat.zero_le _, by omega, rfl, M2.out, Lib.hid Jn14.new⟩
    case round =>
      obtain ⟨i, X, d, H, hi, hi10, rfl, hm, HJ⟩ := hrel
      have M := Lib.hid hm
      clear hm M2
      by_cases hlt : i < xs.length ∧ i < 12
      · obtain ⟨hlt, hi9⟩ := hlt
        have q1 : (i : Int) < (xs.length : Int) := by omega
        have q2 : (i : Int) < 12 := by omega
        have q0 : (0 : Int) ≤ (i : Int) := by omega
        obtain ⟨b, off, rfl, hbw, y0, -, -, y3, -, -⟩ := jact_cells HX.out hlt
        have ha := HXS.out xs[i] (List.getElem_mem hlt)
        generalize xs[i] = a at *
        have HAo := Lib.hid ha
        have HY := Lib.hid (fun (W : World) (hW : Below w.heap.size w W) => And.intro (cell_below hW hbw y0) (cell_below hW hbw y3))
        obtain ⟨z0, z3⟩ := HY.out _ M.out.below
        obtain ⟨ws, hws⟩ := ha.ws
        have HWs := Lib.hid hws
        have hb32 := hws.bytes
        clear ha hws y0 y3 hlt
        by_cases h0 : a.op = 0
        · rw [h0] at z0
          clear h0
          go_wp2_with fail
          refine (made_any (HWs.out.jwrs M.out) a.lc hb32 HWs.out.max' 64 (by omega)).mono ?_
          rintro e w5 ⟨lo5, lc5, us, rfl, hO5⟩
          have hJ5 := hO5.jwrs (JAt.ok.lt M.out.it)
          have hM5 := M.out.fr JAt.ok hO5.fr
          have Hcm := Lib.hid (jcommit_14 hM5.it HJ.out hJ5 lc5 hO5.cap hb32)
          have M5 := Lib.hid hM5
          clear hM5 hJ5 hO5
          go_wp2_with fail
          refine Hcm.out.mono ?_
          rintro e w6 ⟨d6, H6, rfl, h6, s6, j6⟩
          have hM6 := M5.out.step (A' := JAt j L d6 0) h6 s6
          have M6 := Lib.hid hM6
          have J6 := Lib.hid j6
          clear hM6 h6 s6 j6 Hcm
          go_wp2_with fail
          go_roundw
          case rel => exact ⟨i + 1, _, _, H6, by omega, by omega, by go_num, M6.out, J6⟩
          case measure => simp [intOf]; omega
        · have hb0 : (a.op == 0) = false := by simpa using h0
          clear h0
          go_wp2_with fail
          go_roundw
          case rel => exact ⟨i + 1, X, d, H, by omega, by omega, by go_num, M.out, HJ⟩
          case measure => simp [intOf]; omega
      · have hcs : (xs.length : Int) ≤ (i : Int) ∨ ((i : Int) < (xs.length : Int) ∧ (12 : Int) ≤ (i : Int)) := by omega
        clear hlt
        rcases hcs with q | ⟨q, q'⟩
        all_goals
          go_wp2_with fail
          go_meet
          exact ⟨X, d, H, M.out, HJ.out⟩
  case rest =>
    obtain ⟨X, d, H, hm, hJ⟩ := hcut
    have M := Lib.hid hm
    have HJ := Lib.hid hJ
    have HLX := Lib.hid hJ.cl.lens
    clear hm hJ M2
    go_wp2_with fail
    refine (all_14 M.out.it HJ.out.cl).mono ?_
    rintro e w3 ⟨rfl, hf3⟩
    have M3 := Lib.hid (M.out.fr JAt.ok hf3)
    clear hf3 M
    go_wp2_with fail
    refine (made_any (HL.out.jwrs M3.out) lc hll HL.out.max' 64 (by omega)).mono ?_
    rintro e w5 ⟨lo5, lc5, us, rfl, hO5⟩
    have M5 := Lib.hid (M3.out.fr JAt.ok hO5.fr)
    have J5 := Lib.hid (hO5.jwrs (JAt.ok.lt M3.out.it))
    have hc5 := hO5.cap
    have hml : (madeL l 64).length = l.length := madeL_len l 64
    have hm64 := madeL_64 l
    have hmx := madeL_max (l := l) (m := 64) (by omega)
    obtain ⟨x, hxx⟩ : ∃ x, madeL l 64 = x := ⟨_, rfl⟩
    rw [hxx] at J5 hml hm64 hmx
    have HM := Lib.hid hml
    have H64 := Lib.hid hm64
    have HMx := Lib.hid hmx
    clear hO5 M3 hml hm64 hmx hxx
    go_upto_block 2 with fail
    go_cut [15] from 82 to 137 (fun s15 wx => ∃ T : Bs, s15 = .string (strB T) ∧ (l.length ≤ 8 → T = five (thnF x X)) ∧ Fr noBlock w5 wx)
    case first =>
      go_wp2_with fail
      go_loopw [15, 16] (fun s15 s16 wr => ∃ i : Nat, i ≤ l.length ∧ s16 = .int .i64 i ∧ s15 = .string (strB (five (thnI x X i))) ∧ Fr noBlock w5 wr) (fun _ s16 _ => l.length - (intOf s16).toNat)
      case atStart => exact ⟨0, Nat.zero_le _, rfl, by rw [thnI_zero], Fr.refl _ _⟩
      case round =>
        obtain ⟨i, hi, rfl, rfl, hf⟩ := hrel
        have HF := Lib.hid hf
        clear hf
        by_cases hlt : i < l.length ∧ l.length ≤ 8
        · obtain ⟨hlt, hl8⟩ := hlt
          have q1 : (i : Int) < (l.length : Int) := by omega
          have q2 : (l.length : Int) ≤ 8 := by omega
          have q0 : (0 : Int) ≤ (i : Int) := by omega
          have hlx : i < x.length := by rw [HM.out]; exact hlt
          obtain ⟨b, off, sv, rfl, hbl, y0, y1, -, hsn, hbb⟩ := (J5.out.fr HF.out).at' hlx
          have hin := fun (m : Nat) (hm : m < 5) (e : x[i].1 = (m : Int)) => thnI_in HLX.out H64.out hlx hm e
          have hout := thnI_out (X := X) hlx
          have hq64 := H64.out x[i] (List.getElem_mem hlx)
          generalize x[i] = q at *
          obtain ⟨qn, qb⟩ := q
          simp only at y0 y1 hsn hin hout hbb hq64
          have HQ64 := Lib.hid hq64
          clear hq64
          have hT := five_len (thnI_len HLX.out H64.out i)
          obtain ⟨T, hTe⟩ : ∃ T, five (thnI x X i) = T := ⟨_, rfl⟩
          rw [hTe] at hT hout ⊢
          rw [hTe] at hin
          have hz : (strB T).size = 320 := by rw [strB_size, hT]
          have HT := Lib.hid hT
          have Hin := Lib.hid hin
          have Hout := Lib.hid hout
          have HS := Lib.hid (fun (W : World) (hW : Fr noBlock w5 W) => (by have := jsectors_any (M5.out.fr JAt.ok hW).it; rw [secs_14 HJ.out.cl] at this; exact this : Calls Try.prog 31 #[.pointer (some ⟨j, 0, none⟩)] W fun e w' => e = .returned (.int .i64 5) ∧ W = w'))
          have HY := Lib.hid (fun (W : World) (hW : Fr noBlock wr W) => And.intro ((hW.cell (p := ⟨b, off + i * 2, none⟩) hbl (fun x => x)).trans y0) (And.intro ((hW.cell (p := ⟨b, off + i * 2 + 1, none⟩) hbl (fun x => x)).trans y1) (conv_rd (hbb.fr hW).rd sv.cap)))
          have i1 : i + 1 ≤ l.length := hlt
          have hcs : qn < 0 ∨ (0 ≤ qn ∧ 5 ≤ qn) ∨ ∃ m : Nat, qn = m ∧ m < 5 := by
            by_cases h0 : qn < 0
            · exact .inl h0
            · by_cases h5 : qn < 5
              · exact .inr (.inr ⟨qn.toNat, by omega, by omega⟩)
              · exact .inr (.inl ⟨by omega, by omega⟩)
          clear hT hin hout hlt hl8 hlx hTe y1 hbb hsn
          rcases hcs with h0 | ⟨h0, h5⟩ | ⟨m, rfl, hm⟩
          · have hd : decide (0 ≤ qn) = false := by simpa using h0
            go_wp2_with fail
            go_quiet (fail)
            go_wp2_with fail
            go_roundw
            case rel => exact ⟨i + 1, i1, by go_num, by rw [Hout.out (.inl h0)], HF.out.drewN _⟩
            case measure => simp [intOf]; omega
          · have hd : decide (qn < 5) = false := by simpa using h5
            go_wp2_with fail
            go_quiet ((go_at_call 31; exact Calls.quiet_of_same ((HS.out _ (HF.out.drewN _)).mono fun _ _ ⟨a, b⟩ => ⟨a, b.symm⟩)))
            go_wp2_with fail
            go_roundw
            case rel => exact ⟨i + 1, i1, by go_num, by rw [Hout.out (.inr h5)], HF.out.drewN _⟩
            case measure => simp [intOf]; omega
          · have m0 : (0 : Int) ≤ (m : Int) := by omega
            have m5 : (m : Int) < 5 := by omega
            go_wp2_with fail
            go_quiet ((go_at_call 31; exact Calls.quiet_of_same ((HS.out _ (HF.out.drewN _)).mono fun _ _ ⟨a, b⟩ => ⟨a, b.symm⟩)))
            obtain ⟨y0', y1', k6⟩ := HY.out (wr.drewN nq) ((Fr.refl _ _).drewN _)
            go_wp2_with fail
            obtain ⟨K, hK⟩ : ∃ K : Int, 64 * (m : Int) = K := ⟨_, rfl⟩
            rw [hK]
            have k0 : (0 : Int) ≤ K := by omega
            have k1 : K ≤ 320 := by omega
            have k2 : (0 : Int) ≤ K + 64 := by omega
            have k3 : K + 64 ≤ 320 := by omega
            have k3' : K ≤ 256 := by omega
            have k4 : IntKind.i64.wrap (K + 64) = K + 64 := IntWalk.i64_in _ (by omega)
            have s2 : (strB qb).size = 64 := by rw [strB_size, HQ64.out]
            have f1 : K ≤ 9223372036854775743 := by omega
            have f2 : K.toNat + 64 + (320 - (K + 64).toNat) ≤ 9223372036854775807 := by omega
            have f3 : ∀ W : World, (Op.stringOp .add ((strB T).extract 0 K.toNat) (strB qb)).run Try.prog W = .ok (.string ((strB T).extract 0 K.toNat ++ strB qb)) W := fun W => run_string_add_sum W _ _ (by rw [ByteArray.size_extract, hz, s2]; omega)
            have f4 : ∀ W : World, (Op.stringOp .add ((strB T).extract 0 K.toNat ++ strB qb) ((strB T).extract (K + 64).toNat 320)).run Try.prog W = .ok (.string ((strB T).extract 0 K.toNat ++ strB qb ++ (strB T).extract (K + 64).toNat 320)) W := fun W => run_string_add_sum W _ _ (by rw [ByteArray.size_append, ByteArray.size_extract, ByteArray.size_extract, hz, s2]; omega)
            have g3 : ∀ W : World, (binOp .add 9 (.string ((strB T).extract 0 K.toNat)) (.string (strB qb))).run Try.prog W = .ok (.string ((strB T).extract 0 K.toNat ++ strB qb)) W := fun W => by rw [binOp_string_add]; exact f3 W
            have g4 : ∀ W : World, (binOp .add 9 (.string ((strB T).extract 0 K.toNat ++ strB qb)) (.string ((strB T).extract (K + 64).toNat 320))).run Try.prog W = .ok (.string ((strB T).extract 0 K.toNat ++ strB qb ++ (strB T).extract (K + 64).toNat 320)) W := fun W => by rw [binOp_string_add]; exact f4 W
            go_region_held3 (fun W => W.cell? ⟨b, off + i * 2 + 1, none⟩ = some (.slice sv.ao qb.length sv.cap) ∧ Sem.run Try.prog (convert 23 9 (.slice sv.ao qb.length sv.cap)) W = .ok (.string (strB qb)) W)
              (first | exact ⟨y1', k6⟩ | exact (HY.out _ (((Fr.refl noBlock wr).drewN nq).drew)).2)
              (fail)
            go_wp2_with fail
            go_roundw
            case rel =>
              refine ⟨i + 1, i1, by go_num, ?_, HF.out.drewN _⟩
              have e1 : K.toNat = 64 * m := by omega
              have e2 : (K + 64).toNat = 64 * m + 64 := by omega
              have e3 := str_cut T qb (64 * m)
              rw [hz] at e3
              rw [e1, e2, e3, Hin.out m hm rfl]
            case measure => simp [intOf]; omega
        · have hcs : (l.length : Int) ≤ (i : Int) ∨ ((i : Int) < (l.length : Int) ∧ (8 : Int) < (l.length : Int)) := by omega
          have hT8 : l.length ≤ 8 → five (thnI x X i) = five (thnF x X) := by
            intro h8
            have e : i = x.length := by have := HM.out; omega
            rw [e, thnI_all]
          have HT8 := Lib.hid hT8
          clear hlt hT8
          rcases hcs with q | ⟨q, q'⟩
          all_goals
            go_wp2_with fail
            go_meet
            exact ⟨_, rfl, HT8.out, HF.out⟩
    case rest =>
      obtain ⟨T, rfl, hT, hf⟩ := hcut
      have HT := Lib.hid hT
      have M7 := Lib.hid (M5.out.fr JAt.ok hf)
      have J7 := Lib.hid (J5.out.fr hf)
      clear hT hf M5 J5
      go_upto_if 140 with fail
      go_cut [] from 140 to 153 (fun wx => ∃ dA H', Mine w (JAt j L dA 0) wx H' ∧ Cl (A0 X) dA ∧ JWrs wx H' lo5 us x)
      case first =>
        by_cases h0 : cs.length = 0
        · have p0 : ((cs.length : Nat) : Int) ≤ 0 := by omega
          clear h0
          go_wp2_with fail
          go_meet
          exact ⟨d, H, M7.out, HJ.out.cl, J7.out⟩
        · have p0 : (0 : Int) < (cs.length : Int) := by omega
          have hlt : 0 < cs.length := by omega
          obtain ⟨b, off, rfl, hbw, y0, y1, -⟩ := jcut_cells HC.out hlt
          have ha := HCS.out cs[0] (List.getElem_mem hlt)
          generalize cs[0] = a at *
          obtain ⟨N, hN, hb⟩ := and_low a.acts 31 (by omega)
          have hb' : bits .and .i64 a.acts 31 = (N : Int) := hb
          rw [Nat.zero_mul, Nat.add_zero] at y0 y1
          have HY := Lib.hid (fun (W : World) (hW : Below w.heap.size w W) => And.intro (cell_below hW hbw y0) (cell_below hW hbw y1))
          obtain ⟨ap0, ap1⟩ := ha.part
          have HN := Lib.hid hN
          clear ha y0 y1 hlt h0 hb hN
          obtain ⟨z0, z1⟩ := HY.out _ M7.out.below
          go_wp2_with fail
          go_region_held3 (fun W => W.cell? ⟨b, off, none⟩ = some (.int .i64 a.acts) ∧ W.cell? ⟨b, off + 1, none⟩ = some (.int .i64 a.part))
            (first | exact HY.out _ M7.out.below | exact HY.out _ (M7.out.fr JAt.ok ((Fr.refl _ _).drew)).below | exact HY.out _ hM9.below)
            ((go_at_call 18; obtain ⟨G, hG, -, st⟩ := (M7.out.fr JAt.ok ((Fr.refl _ _).drew)).it.disk; (with_reducible refine (arm_any hG N a.part (by have := HN.out; omega) ap0 ap1).mono ?_); rintro e w9 ⟨rfl, h9, s9⟩; obtain ⟨H9, hA9, hS9⟩ := st _ _ _ h9 s9; have hM9 := (M7.out.fr JAt.ok ((Fr.refl _ _).drew)).step (A' := JAt j L (d.armed N a.part) 0) hA9 hS9; have hJ9 := (J7.out.fr ((Fr.refl _ _).drew)).step hS9))
          have M9 := Lib.hid (And.intro hM9 hJ9)
          clear hM9 hJ9 hA9 hS9 h9 s9 st hG
          go_wp2_with fail
          go_meet
          exact ⟨_, _, M9.out.1, HJ.out.cl.armed (by have := HN.out; omega) ap0 ap1, M9.out.2⟩
      case rest =>
        obtain ⟨dA, H8, hm8, hcl8, hw8⟩ := hcut
        have M8 := Lib.hid hm8
        have HCl := Lib.hid hcl8
        have J8 := Lib.hid hw8
        have hcm := jcommit_any M8.out.it J8.out lc5 (by rw [HM.out]; exact hc5) (by rw [HM.out]; omega) HMx.out
        rw [HM.out] at hcm
        have Hcm := Lib.hid hcm
        have hcc := commit_cr (l := x) HCl.out
        obtain ⟨g, hg⟩ : ∃ g, (commitR dA 0 x).2.2 = g := ⟨_, rfl⟩
        rw [hg] at hcc
        have HG := Lib.hid hg
        clear hm8 hcl8 hw8 M7 J7 hcm hg
        rcases hcc with ⟨b0, b30, e1, e2⟩ | ⟨hg, hm, l', h1, hthn, hcr⟩
        · have HE := Lib.hid (And.intro e1 e2)
          have n0 : (g != 0) = true := by simp only [bne, b0]; rfl
          have n30 : (g != 30) = true := by simp only [bne, b30]; rfl
          clear e1 e2 b0 b30
          go_wp2_with fail
          refine Hcm.out.mono ?_
          rintro e w9 ⟨H9, rfl, h9, s9⟩
          have hM9 := M8.out.step (A' := JAt j L (commitR dA 0 x).1 (commitR dA 0 x).2.1) h9 s9
          rw [HE.out.1, HE.out.2] at hM9
          have M9 := Lib.hid hM9
          rw [HG.out]
          clear hM9 h9 s9 Hcm
          go_wp2_with fail
          refine (all_14 M9.out.it HCl.out).mono ?_
          rintro e w10 ⟨rfl, f10⟩
          have MB := Lib.hid (M9.out.fr JAt.ok f10).below
          clear f10
          go_wp2_with fail
          go_ret
          exact ⟨ret_bool (by simp), MB.out⟩
        · obtain ⟨ok, hok⟩ : ∃ ok, (g == 0) = ok := ⟨_, rfl⟩
          rw [hok] at hcr
          have Hcr := Lib.hid hcr
          clear hcr
          rcases hg with rfl | rfl
          all_goals
            have HOk := Lib.hid hok
            clear hok
            go_wp2_with fail
            refine Hcm.out.mono ?_
            rintro e w9 ⟨H9, rfl, h9, s9⟩
            obtain ⟨G9, hm9⟩ := (M8.out.step (A' := JAt j L (commitR dA 0 x).1 (commitR dA 0 x).2.1) h9 s9).disk
            have M9 := Lib.hid hm9
            rw [HG.out]
            clear h9 s9 hm9 Hcm
            go_upto_block 4 with fail
            go_cut [] from 167 to 223 (fun wx => ∃ dd F, Mine w (DiskAt L dd) wx F ∧ Cr ok l' X dd)
            case first =>
              go_wp2_with fail
              go_loopw [19] (fun s19 wr => ∃ (i : Nat) (dd : DK) (F : Nat → Prop), i ≤ cs.length ∧ i ≤ 8 ∧ s19 = .int .i64 i ∧ Mine w (DiskAt L dd) wr F ∧ Hid (Cr ok l' X dd)) (fun s19 _ => 8 - (intOf s19).toNat)
              case atStart => exact ⟨0, _, G9, Nat.zero_le _, by omega, rfl, M9.out, Hcr⟩
              case round =>
                obtain ⟨i, dd, F, hi, hi8, rfl, hm, HC2⟩ := hrel
                have M := Lib.hid hm
                clear hm
                by_cases hlt : i < cs.length ∧ i < 8
                · obtain ⟨hlt, h8⟩ := hlt
                  have q1 : (i : Int) < (cs.length : Int) := by omega
                  have q2 : (i : Int) < 8 := by omega
                  have q0 : (0 : Int) ≤ (i : Int) := by omega
                  obtain ⟨b, off, hco, hbw, -, -, y2⟩ := jcut_cells HC.out hlt
                  have ha := HCS.out cs[i] (List.getElem_mem hlt)
                  generalize cs[i] = a at *
                  have z2 := cell_below M.out.below hbw y2
                  have hkl := ha.kl
                  have Hbt := Lib.hid (boot_any M.out.it (Beside.of (Bes.arg ha.keep M.out)) a.kc (by omega))
                  subst hco
                  clear ha y2 hlt
                  go_wp2_with fail
                  refine Hbt.out.mono ?_
                  rintro e w10 ⟨F10, rfl, h10, s10⟩
                  have M10 := Lib.hid (M.out.step (A' := DiskAt L (dd.boot a.keep)) h10 s10)
                  have B10 := Lib.hid (HC2.out.boot a.keep)
                  clear h10 s10 Hbt
                  go_upto_if 188 with fail
                  go_cut [] from 184 to 205 (fun wx => ∃ dd F, Mine w (DiskAt L dd) wx F ∧ Bo ok l' X dd)
                  case first =>
                    by_cases hn : i + 1 < cs.length
                    · have p1 : (i : Int) + 1 < (cs.length : Int) := by omega
                      have p2 : (0 : Int) ≤ (i : Int) + 1 := by omega
                      have p3 : IntKind.i64.wrap ((i : Int) + 1) = (i : Int) + 1 := IntWalk.i64_in _ (by omega)
                      have p4 : ((i : Int) + 1).toNat = i + 1 := by omega
                      obtain ⟨b, off, hco, hbw, y0, y1, -⟩ := jcut_cells HC.out hn
                      have ha := HCS.out cs[i + 1] (List.getElem_mem hn)
                      generalize cs[i + 1] = a2 at *
                      obtain ⟨N, hN, hb⟩ := and_low a2.acts 31 (by omega)
                      have hb' : bits .and .i64 a2.acts 31 = (N : Int) := hb
                      have HY := Lib.hid (fun (W : World) (hW : Below w.heap.size w W) => And.intro (cell_below hW hbw y0) (cell_below hW hbw y1))
                      obtain ⟨ap0, ap1⟩ := ha.part
                      have HN := Lib.hid hN
                      cases hco
                      clear ha y0 y1 hb hN hn
                      obtain ⟨z0, z1⟩ := HY.out _ M10.out.below
                      go_wp2_with fail
                      go_region_held3 (fun W => W.cell? ⟨b, off + (i + 1) * 3, none⟩ = some (.int .i64 a2.acts) ∧ W.cell? ⟨b, off + (i + 1) * 3 + 1, none⟩ = some (.int .i64 a2.part))
                        (first | exact HY.out _ M10.out.below | exact HY.out _ (M10.out.fr DiskAt.ok ((Fr.refl _ _).drew)).below | exact HY.out _ hM11.below)
                        ((go_at_call 18; have hG := M10.out.fr DiskAt.ok ((Fr.refl _ _).drew); (with_reducible refine (arm_any hG.it N a2.part (by have := HN.out; omega) ap0 ap1).mono ?_); rintro e w11 ⟨rfl, h11, s11⟩; have hM11 := hG.step (A' := DiskAt L ((dd.boot a.keep).armed N a2.part)) h11 s11))
                      have M11 := Lib.hid hM11
                      clear hM11 h11 s11 hG
                      go_wp2_with fail
                      go_meet
                      exact ⟨_, _, M11.out, B10.out.armed (by have := HN.out; omega) ap0 ap1⟩
                    · have p1 : (cs.length : Int) ≤ (i : Int) + 1 := by omega
                      clear hn
                      go_wp2_with fail
                      go_meet
                      exact ⟨_, _, M10.out, B10.out⟩
                  case rest =>
                    obtain ⟨d11, F11, hm11, hb11⟩ := hcut
                    obtain ⟨he11, hc11⟩ := hb11.open' h1
                    have M11 := Lib.hid hm11
                    have C11 := Lib.hid hc11
                    clear hm11 hb11 hc11
                    go_wp2_with fail
                    refine (jopen_any M11.out.it).mono ?_
                    rintro e w12 hO
                    have hO2 := mine_open M11.out hO
                    clear hO
                    rcases hO2 with ⟨j2, H12, e0, rfl, m12⟩ | ⟨e0, G12, rfl, m12⟩
                    · obtain ⟨G12, m12⟩ := m12.disk
                      have M12 := Lib.hid m12
                      rw [e0] at he11
                      clear m12 e0 he11 M10 M11
                      go_wp2_with fail
                      go_roundw
                      case rel => exact ⟨i + 1, _, G12, by omega, by omega, by go_num, M12.out, C11⟩
                      case measure => simp [intOf]; omega
                    · have e30 : (openR d11).2 = 30 := he11.resolve_left e0
                      have M12 := Lib.hid m12
                      rw [e30]
                      clear m12 e0 he11 e30 M10 M11
                      go_wp2_with fail
                      go_roundw
                      case rel => exact ⟨i + 1, _, G12, by omega, by omega, by go_num, M12.out, C11⟩
                      case measure => simp [intOf]; omega
                · have hcs : (cs.length : Int) ≤ (i : Int) ∨ ((i : Int) < (cs.length : Int) ∧ (8 : Int) ≤ (i : Int)) := by omega
                  clear hlt
                  rcases hcs with q | ⟨q, q'⟩
                  all_goals
                    go_wp2_with fail
                    go_meet
                    exact ⟨dd, F, M.out, HC2.out⟩
            case rest =>
              obtain ⟨d20, F20, hm20, hc20⟩ := hcut
              have hb21 := hc20.boot []
              have M20 := Lib.hid hm20
              have Hbt := Lib.hid (boot_any hm20.it (ak := none) (keep := []) ⟨RowRd.nil, fun h => by simp at h⟩ 0 (by simp))
              obtain ⟨e21, hl21⟩ := hb21.last h1 rfl
              have hY : ∃ Y, Cl (A0 Y) (openR (d20.boot [])).1 ∧ (Y = thnF x X ∨ (ok = false ∧ Y = X)) := by
                rcases hl21 with h | ⟨h, h'⟩
                · exact ⟨_, h, .inl hthn⟩
                · exact ⟨_, h', .inr ⟨h, rfl⟩⟩
              obtain ⟨Y, hY, hYY⟩ := hY
              have HYC := Lib.hid hY
              have HYY := Lib.hid hYY
              have hTT := HT.out (by have := (mayE_ok hm).1; rw [HM.out] at this; exact this)
              subst hTT
              have E21 := Lib.hid e21
              clear hm20 hc20 hb21 M9 Hcr hY hYY hl21 e21
              go_wp2_with fail
              refine Hbt.out.mono ?_
              rintro e w21 ⟨F21, rfl, h21, s21⟩
              have M21 := Lib.hid (M20.out.step (A' := DiskAt L (d20.boot [])) h21 s21)
              clear h21 s21 Hbt M20
              go_wp2_with fail
              refine (jopen_any M21.out.it).mono ?_
              rintro e w22 hO
              have hO2 := mine_open M21.out hO
              clear hO
              rcases hO2 with ⟨j2, H22, -, rfl, m22⟩ | ⟨e0, -⟩
              rotate_left
              · exact absurd E21.out e0
              have M22 := Lib.hid m22
              clear m22 M21
              go_wp2_with fail
              refine (all_14 M22.out.it HYC.out).mono ?_
              rintro e w23 ⟨rfl, f23⟩
              obtain ⟨G23, m23⟩ := (M22.out.fr JAt.ok f23).disk
              have M23 := Lib.hid m23
              clear m23 f23 M22
              go_wp2_with fail
              refine (jopen_any M23.out.it).mono ?_
              rintro e w24 hO
              have hO2 := mine_open M23.out hO
              rw [open_Cl0 HYC.out] at hO2
              clear hO
              rcases hO2 with ⟨j3, H24, -, rfl, m24⟩ | ⟨e0, -⟩
              rotate_left
              · exact absurd rfl e0
              have M24 := Lib.hid m24
              clear m24 M23
              go_wp2_with fail
              refine (all_14 M24.out.it HYC.out).mono ?_
              rintro e w25 ⟨rfl, f25⟩
              have M25 := Lib.hid (M24.out.fr JAt.ok f25).below
              clear f25 M24
              go_wp2_with fail
              all_goals
                go_ret
                refine ⟨ret_bool ?_, M25.out⟩
                first
                  | rfl
                  | (rcases HYY.out with e | ⟨e, e'⟩
                     · rw [e]; simp
                     · first
                         | (have h0 := HOk.out; rw [e] at h0; simp at h0; done)
                         | (rw [e']; simp))
end Go.Proofs.Ytmcckppmciflmaa
