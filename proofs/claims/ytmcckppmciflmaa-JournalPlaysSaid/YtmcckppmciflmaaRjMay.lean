/-
  THE WALK of the document's may.
-/
import Derived.Deep.QuietTactic
import Derived.BigQuiet
import Derived.Test.YtmcckppmciflmaaRjAt
import Derived.Test.YtmcckppmciflmaaJnMay
namespace Go.Proofs.Ytmcckppmciflmaa
open Go.RowKit

set_option maxRecDepth 100000 in
set_option maxHeartbeats 3200000 in
theorem rmay_any {j L : Nat} {d : DK} {bad : Int} {w : World} {H : Nat → Prop} (h : RJAt j L d bad w H) {K : Nat → Prop} {ao : Option Addr} {ws : List (Int × SV)} {l : List JW} (hw : JWrs w K ao ws l) (cap : Nat) (hll : l.length ≤ 9223372036854775807) (hmax : ∀ w ∈ l, w.2.length ≤ 9223372036854775807) :
    Calls Try.prog 92 #[.pointer (some ⟨j, 0, none⟩), .slice ao l.length cap] w fun e w' => e = .returned (.int .i64 (mayE d l)) ∧ Fr noBlock w w' := by
  have HA := Lib.hid h
  have HW := Lib.hid hw
  have HMax := Lib.hid hmax
  have hs1 := h.good.s1
  have hn1 := h.good.n1
  obtain ⟨sn, hsn⟩ : ∃ sn, secs d = sn := ⟨_, rfl⟩
  have HS := Lib.hid hsn
  clear h hw hmax hsn
  by_cases hl : l.length ≤ 8
  · have hE : mayE d l = mayL d [] l := by unfold mayE; rw [if_neg (by omega)]
    rw [hE]
    have hl8 : (l.length : Int) ≤ 8 := by omega
    clear hE
    go_enter Try.func92, Try.ntmps92
    go_wp2_with fail
    go_loopw [5] (fun s5 wr => ∃ (i : Nat), i ≤ l.length ∧ s5 = .int .i64 i ∧ Fr noBlock w wr ∧ Hid (mayL d (l.take i) (l.drop i) = mayL d [] l)) (fun s5 _ => l.length - (intOf s5).toNat)
    case atStart => exact ⟨0, Nat.zero_le _, rfl, Fr.refl _ _, Lib.hid rfl⟩
    case round =>
      obtain ⟨i, hi, rfl, hf, HM⟩ := hrel
      have Hf := Lib.hid hf
      by_cases hlt : i < l.length
      · have q1 : (i : Int) < (l.length : Int) := by omega
        have hj := RJAt.ok.fr0 HA.out hf
        obtain ⟨c0, -, -, -⟩ := hj.cells
        obtain ⟨-, -, -, c2, -, -⟩ := hj.dcells
        obtain ⟨b, off, s, rfl, hb, y0, y1, -, hsn, -⟩ := (HW.out.fr hf).at' hlt
        have hmx := HMax.out l[i] (List.getElem_mem hlt)
        have hdr : l.drop i = l[i] :: l.drop (i + 1) := List.drop_eq_getElem_cons hlt
        have htk : l.take (i + 1) = l.take i ++ [l[i]] := List.take_succ_eq_append_getElem hlt
        have hm := HM.out
        rw [hdr] at hm
        rw [mayL_cons, ← htk] at hm
        have HY := Lib.hid (fun (W : World) (hW : Fr noBlock wr W) => (hW.cell (p := ⟨b, off + i * 2, none⟩) hb (fun x => x)).trans y0)
        have hi' : i + 1 ≤ l.length := hlt
        generalize l[i] = q at *
        obtain ⟨qn, qb⟩ := q
        simp only at hsn y0 y1 hmx hm HY
        clear hj hsn hdr htk hf hlt
        by_cases hlb : qb.length = d.size
        · rw [if_neg (by omega)] at hm
          have hbe : ((qb.length : Int) != (d.size : Int)) = false := by simp [hlb]
          have hcs : qn < 0 ∨ (0 ≤ qn ∧ sn ≤ qn) ∨ (0 ≤ qn ∧ qn < sn) := by omega
          clear hlb
          rcases hcs with r | ⟨r, r'⟩ | ⟨r, r'⟩
          · rw [if_pos (by simp [isJ]; omega)] at hm
            have Hm := Lib.hid hm
            clear hm
            go_wp2_with fail
            go_quiet (fail)
            go_wp2_with fail
            refine wp_at (φ := fun W => Fr noBlock wr W) ((Fr.refl _ _).drewN _) ?_
            rintro W2 hF2
            clear y0 y1 c0 c2
            have HF2 := Lib.hid (Hf.out.trans' hF2)
            have y0 := HY.out W2 hF2
            have HG2 := Lib.hid hF2
            clear hF2
            go_quiet (fail)
            go_wp2_with fail
            go_ret
            exact ⟨ret_int Hm.out, HF2.out.drewN _⟩
          · rw [if_pos (by simp [isJ, HS.out]; omega)] at hm
            have Hm := Lib.hid hm
            have hd : decide (qn < 0) = false := by simpa using r
            clear hm
            go_wp2_with fail
            go_quiet (fail)
            go_wp2_with fail
            refine wp_at (φ := fun W => Fr noBlock wr W) ((Fr.refl _ _).drewN _) ?_
            rintro W2 hF2
            clear y0 y1 c0 c2
            have HF2 := Lib.hid (Hf.out.trans' hF2)
            have y0 := HY.out W2 hF2
            have HG2 := Lib.hid hF2
            clear hF2
            go_quiet ((go_at_call 63; exact Calls.quiet_of_same ((rjsectors_any (RJAt.ok.fr0 HA.out (HF2.out.drewN _))).mono fun _ _ ⟨a, b⟩ => ⟨by rw [HS.out] at a; exact a, b.symm⟩)))
            go_wp2_with fail
            go_ret
            exact ⟨ret_int Hm.out, HF2.out.drewN _⟩
          · rw [if_neg (by simp [isJ, HS.out]; omega)] at hm
            have Hm := Lib.hid hm
            have hd : decide (qn < 0) = false := by simpa using r
            have hd2 : decide (sn ≤ qn) = false := by simp; omega
            clear hm
            go_wp2_with fail
            go_quiet (fail)
            go_wp2_with fail
            refine wp_at (φ := fun W => Fr noBlock wr W) ((Fr.refl _ _).drewN _) ?_
            rintro W2 hF2
            clear y0 y1 c0 c2
            have HF2 := Lib.hid (Hf.out.trans' hF2)
            have y0 := HY.out W2 hF2
            have HG2 := Lib.hid hF2
            clear hF2
            go_quiet ((go_at_call 63; exact Calls.quiet_of_same ((rjsectors_any (RJAt.ok.fr0 HA.out (HF2.out.drewN _))).mono fun _ _ ⟨a, b⟩ => ⟨by rw [HS.out] at a; exact a, b.symm⟩)))
            go_wp2_with fail
            clear y0 hd hd2 hbe
            obtain ⟨wo, rfl⟩ : ∃ wo : World, wo = wr := ⟨_, rfl⟩
            go_loopw [6] (fun s6 wq => ∃ k : Nat, k ≤ i ∧ s6 = .int .i64 k ∧ Fr noBlock wo wq ∧ Hid ((l.take k).any (fun v => v.1 == qn) = false)) (fun s6 _ => i - (intOf s6).toNat)
            case atStart => exact ⟨0, Nat.zero_le _, rfl, HG2.out.drewN _, Lib.hid rfl⟩
            case round =>
              obtain ⟨k, hk, rfl, hfq, hany⟩ := hrel
              have Hfq := Lib.hid hfq
              by_cases hlk : k < i
              · have q2 : (k : Int) < (i : Int) := by omega
                have q3 : (k : Int) < (l.length : Int) := by omega
                have hkl : k < l.length := by omega
                obtain ⟨b', off', s', eb, hb', z0, -, -, -, -⟩ := (HW.out.fr (Hf.out.trans' hfq)).at' hkl
                cases eb
                have y0 := HY.out wr hfq
                have htk2 : (l.take (k + 1)).any (fun v => v.1 == qn) = (l[k].1 == qn) := by
                  rw [List.take_succ_eq_append_getElem hkl, List.any_append, hany.out]; simp
                have hmem : (l[k].1 == qn) = true → (l.take i).any (fun v => v.1 == qn) = true := fun h => List.any_eq_true.2 ⟨l[k], List.mem_take_iff_getElem.2 ⟨k, by omega, rfl⟩, h⟩
                have hk1 : k + 1 ≤ i := hlk
                generalize l[k].1 = kn at *
                clear hfq hlk hkl
                cases he : (kn == qn) with
                | true =>
                  have hm2 := Hm.out
                  rw [if_pos (hmem he)] at hm2
                  have Hm2 := Lib.hid hm2
                  clear hm2 hmem htk2
                  go_wp2_with fail
                  go_quiet (fail)
                  go_wp2_with fail
                  go_ret
                  exact ⟨ret_int Hm2.out, (Hf.out.trans' Hfq.out).drewN _⟩
                | false =>
                  rw [he] at htk2
                  have Htk := Lib.hid htk2
                  clear hmem htk2
                  go_wp2_with fail
                  go_quiet (fail)
                  go_wp2_with fail
                  go_roundw
                  case rel => exact ⟨k + 1, hk1, by go_num, Hfq.out.drewN _, Lib.hid Htk.out⟩
                  case measure => simp [intOf]; omega
              · have q2 : (i : Int) ≤ (k : Int) := by omega
                have e : k = i := by omega
                subst e
                have hm2 := Hm.out
                rw [if_neg (by rw [hany.out]; simp)] at hm2
                have Hm2 := Lib.hid hm2
                clear hm2 hlk hfq
                go_wp2_with fail
                go_roundw
                case rel => exact ⟨k + 1, hi', by go_num, Hf.out.trans' Hfq.out, Lib.hid Hm2.out⟩
                case measure => simp [intOf]; omega
        · rw [if_pos (by omega)] at hm
          have hbe : ((qb.length : Int) != (d.size : Int)) = true := by simp; omega
          have Hm := Lib.hid hm
          clear hm hlb
          go_wp2_with fail
          go_quiet (fail)
          go_wp2_with fail
          go_ret
          exact ⟨ret_int Hm.out, Hf.out.drewN _⟩
      · have q1 : (l.length : Int) ≤ (i : Int) := by omega
        have e : i = l.length := by omega
        subst e
        have hm := HM.out
        rw [List.drop_length] at hm
        have Hm := Lib.hid (show (0 : Int) = mayL d [] l from hm)
        clear hm hlt
        go_wp2_with fail
        go_ret
        exact ⟨ret_int Hm.out, hf⟩
  · have hE : mayE d l = 1 := by unfold mayE; rw [if_pos (by omega)]
    have hl8 : (8 : Int) < (l.length : Int) := by omega
    rw [hE]
    clear hE hl
    go_enter Try.func92, Try.ntmps92
    go_wp2_with fail
    go_ret
    exact ⟨rfl, Fr.refl _ _⟩
end Go.Proofs.Ytmcckppmciflmaa
