/-
  THE WALK of the journal's may: which writes may be.
-/
import Derived.Deep.QuietTactic
import Derived.BigQuiet
import Derived.Test.YthabllnhlhkejaaGreatDoorJnSum
namespace Go.Proofs.YthabllnhlhkejaaGreatDoor
open Go.RowKit

def anyW (p : Int × SV → Bool) (ws : List (Int × SV)) : Bool := ws.any p
set_option maxHeartbeats 800000 in
theorem indexW_any (ao : Option Addr) (cap : Nat) (ws : List (Int × SV)) (g : Nat) (lb : Array Value) (eg : ∀ args w, (callFunc g args).run Tryz.prog w = .ok (.enter g args) w) (p : Int × SV → Bool) (w : World) (ha : RowRd DirtR w ao ws)
    (hp : ∀ (W : World) (u : Int × SV), Fr noBlock w W → Calls Tryz.prog g (#[.agg #[.int .i64 u.1, u.2.val]] ++ lb) W fun e w' => e = .returned (.bool (p u)) ∧ Fr noBlock W w') :
    Calls Tryz.prog 89 #[.slice ao ws.length cap, .func (.func g) #[] lb] w fun e w' => (∃ i : Int, e = .returned (.int .i64 i) ∧ decide (0 ≤ i) = ws.any p) ∧ Fr noBlock w w' := by
  have hl := ha.len
  unfold maxLen at hl
  have Hp := Lib.hid hp
  have HA := Lib.hid ha
  clear hp ha
  go_enter Tryz.func89, Tryz.ntmps89
  go_wp2_with fail
  go_loopw [5, 8] (fun s5 s8 wr => ∃ k : Nat, k ≤ ws.length ∧ s8 = .int .i64 k ∧ Fr noBlock w wr ∧ Hid ((ws.take k).any p = false)) (fun _ s8 _ => ws.length - (intOf s8).toNat)
  case atStart => exact ⟨0, Nat.zero_le _, rfl, Fr.refl _ _, Lib.hid rfl⟩
  case round =>
    obtain ⟨k, hk, rfl, hf, hn⟩ := hrel
    by_cases hlt : k < ws.length
    · have hrd := HA.out.fr0 hf
      obtain ⟨b, off, rfl, -, -⟩ := hrd.at' k hlt
      obtain ⟨c0, c1⟩ := dirt_rd hrd hlt
      have h1 : (k : Int) < (ws.length : Int) := by omega
      have hcall := Hp.out wr ws[k] hf
      have htk : (ws.take (k + 1)).any p = ((ws.take k).any p || p ws[k]) := by rw [List.take_succ_eq_append_getElem hlt, List.any_append]; simp
      have hmem : p ws[k] = true → ws.any p = true := fun h => List.any_eq_true.2 ⟨_, List.getElem_mem hlt, h⟩
      rw [hn.out, Bool.false_or] at htk
      generalize ws[k] = x at *
      obtain ⟨x1, x2⟩ := x
      obtain ⟨xa, xn, xc⟩ := x2
      unfold SV.val at hcall c1
      simp only at hcall c0 c1
      have Hlt := Lib.hid hlt
      cases hpk : p (x1, ⟨xa, xn, xc⟩) with
      | true =>
        rw [hpk] at hcall
        have Hc := Lib.hid hcall
        have Hm := Lib.hid (hmem hpk)
        clear hcall hpk htk hmem hrd hlt
        go_wp2_with fail
        refine Hc.out.mono ?_
        rintro e w' ⟨rfl, hf'⟩
        have Hf' := Lib.hid (hf.trans' hf')
        clear hf'
        go_wp2_with fail
        go_ret
        exact ⟨⟨_, rfl, by rw [Hm.out]; simp⟩, Hf'.out⟩
      | false =>
        rw [hpk] at hcall htk
        have Hc := Lib.hid hcall
        have Ht := Lib.hid htk
        clear hcall hpk htk hmem hrd hlt
        go_wp2_with fail
        refine Hc.out.mono ?_
        rintro e w' ⟨rfl, hf'⟩
        have Hf' := Lib.hid (hf.trans' hf')
        clear hf'
        go_wp2_with fail
        go_roundw
        case rel => exact ⟨k + 1, by have := Hlt.out; omega, by go_num, Hf'.out, Lib.hid Ht.out⟩
        case measure => have := Hlt.out; simp [intOf]; omega
    · have h1 : (ws.length : Int) ≤ (k : Int) := by omega
      have Hn : Hid (ws.any p = false) := Lib.hid (by have := hn.out; rwa [List.take_of_length_le (by omega)] at this)
      clear hlt
      go_wp2_with fail
      go_ret
      exact ⟨⟨-1, rfl, by rw [Hn.out]; rfl⟩, hf⟩
set_option maxHeartbeats 400000 in
theorem contains_any (ao : Option Addr) (cap : Nat) (ws : List (Int × SV)) (g : Nat) (lb : Array Value) (eg : ∀ args w, (callFunc g args).run Tryz.prog w = .ok (.enter g args) w) (p : Int × SV → Bool) (w : World) (ha : RowRd DirtR w ao ws)
    (hp : ∀ (W : World) (u : Int × SV), Fr noBlock w W → Calls Tryz.prog g (#[.agg #[.int .i64 u.1, u.2.val]] ++ lb) W fun e w' => e = .returned (.bool (p u)) ∧ Fr noBlock W w') :
    Calls Tryz.prog 67 #[.slice ao ws.length cap, .func (.func g) #[] lb] w fun e w' => e = .returned (.bool (ws.any p)) ∧ Fr noBlock w w' := by
  have Hx := Lib.hid (indexW_any ao cap ws g lb eg p w ha hp)
  clear hp eg
  go_enter Tryz.func67, Tryz.ntmps67
  go_wp2_with fail
  refine Hx.out.mono ?_
  rintro e w' ⟨⟨i, rfl, hi⟩, hf⟩
  have Hi := Lib.hid hi
  clear hi
  go_wp2_with fail
  go_ret
  exact ⟨ret_bool Hi.out, hf⟩
set_option maxHeartbeats 400000 in
theorem may1_any (u : Int × SV) (B : Nat) (n : Int) (w : World) (hc : w.cell? ⟨B, 0, none⟩ = some (.int .i64 n)) :
    Calls Tryz.prog 68 #[.agg #[.int .i64 u.1, u.2.val], .pointer (some ⟨B, 0, none⟩)] w fun e w' => e = .returned (.bool (u.1 == n)) ∧ Fr noBlock w w' := by
  have hlt := lt_of_cell hc
  have hne : B ≠ w.heap.size := by omega
  have hf0 := (Fr.refl noBlock w).alloc (.cells #[.int .i64 u.1, u.2.val] 79)
  have Hf0 := Lib.hid hf0
  have hc' := fun o => (World.cell?_alloc_lt w o ⟨B, 0, none⟩ hlt).trans hc
  obtain ⟨u1, ua, un, uc⟩ := u
  unfold SV.val
  clear hf0
  go_enter Tryz.func68, Tryz.ntmps68
  go_wp2
  go_ret
  exact ⟨rfl, Hf0.out⟩

theorem mayL_cons (d : DK) (pre : List JW) (w : JW) (l : List JW) : mayL d pre (w :: l) = if w.2.length ≠ d.size then 1 else if isJ d w.1 = false then 31 else if pre.any (fun v => v.1 == w.1) then 1 else mayL d (pre ++ [w]) l := rfl
set_option maxRecDepth 100000 in
set_option maxHeartbeats 1600000 in
theorem jmay_any {j L : Nat} {d : DK} {bad : Int} {w : World} {H : Nat → Prop} (h : JAt j L d bad w H) {ao : Option Addr} {ws : List (Int × SV)} {l : List JW} (hw : JWrs w H ao ws l) (cap : Nat) (hcap : l.length ≤ cap) (hll : l.length ≤ 9223372036854775807) (hmax : ∀ w ∈ l, w.2.length ≤ 9223372036854775807) :
    Calls Tryz.prog 42 #[.pointer (some ⟨j, 0, none⟩), .slice ao l.length cap] w fun e w' => e = .returned (.int .i64 (mayE d l)) ∧ Fr noBlock w w' := by
  have HA := Lib.hid h
  have HW := Lib.hid hw
  have HMax := Lib.hid hmax
  have eg := enters_of Tryz.func68 (by kernel_rfl) rfl
  have Eg := Lib.hid eg
  have hs1 := h.good.s1
  clear h hw hmax eg
  by_cases hl : l.length ≤ 8
  · have hE : mayE d l = mayL d [] l := by unfold mayE; rw [if_neg (by omega)]
    rw [hE]
    have hl8 : (l.length : Int) ≤ 8 := by omega
    clear hE
    go_enter Tryz.func42, Tryz.ntmps42
    go_wp2_with fail
    go_loopw [12] (fun s12 wr => ∃ (i : Nat), i ≤ l.length ∧ s12 = .int .i64 i ∧ Fr noBlock w wr ∧ Hid (mayL d (l.take i) (l.drop i) = mayL d [] l)) (fun s12 _ => l.length - (intOf s12).toNat)
    case atStart => exact ⟨0, Nat.zero_le _, rfl, Fr.refl _ _, Lib.hid rfl⟩
    case round =>
      obtain ⟨i, hi, rfl, hf, HM⟩ := hrel
      by_cases hlt : i < l.length
      · have q1 : (i : Int) < (l.length : Int) := by omega
        have HWr := Lib.hid (HW.out.fr hf)
        obtain ⟨b, off, s, rfl, hb, y0, y1, hws, hsn, -⟩ := (HW.out.fr hf).at' hlt
        have hmx := HMax.out l[i] (List.getElem_mem hlt)
        have hdr : l.drop i = l[i] :: l.drop (i + 1) := List.drop_eq_getElem_cons hlt
        have htk : l.take (i + 1) = l.take i ++ [l[i]] := List.take_succ_eq_append_getElem hlt
        have hm := HM.out
        rw [hdr] at hm
        rw [mayL_cons, ← htk] at hm
        have hwl : (ws.take i).length = i := by rw [List.length_take, HW.out.len]; omega
        have hany : (ws.take i).any (fun p => p.1 == l[i].1) = (l.take i).any (fun v => v.1 == l[i].1) := by
          rw [Bool.eq_iff_iff, List.any_eq_true, List.any_eq_true]
          have hlen := HW.out.len
          constructor
          · rintro ⟨p, hp, e⟩
            obtain ⟨k, hk, rfl⟩ := List.getElem_of_mem hp
            have hk' : k < i := by omega
            obtain ⟨e1, _, _⟩ := HW.out.each k ws[k] l[k] (List.getElem?_eq_getElem (by omega)) (List.getElem?_eq_getElem (by omega))
            refine ⟨l[k], List.mem_take_iff_getElem.2 ⟨k, by omega, rfl⟩, ?_⟩
            simp only [List.getElem_take] at e
            rw [← e1]; exact e
          · rintro ⟨v, hv, e⟩
            obtain ⟨k, hk, rfl⟩ := List.mem_take_iff_getElem.1 hv
            obtain ⟨e1, _, _⟩ := HW.out.each k ws[k] l[k] (List.getElem?_eq_getElem (by omega)) (List.getElem?_eq_getElem (by omega))
            exact ⟨ws[k], List.mem_take_iff_getElem.2 ⟨k, by omega, rfl⟩, by rw [e1]; exact e⟩
        have hwr2 : RowRd DirtR wr (some ⟨b, off, none⟩) (ws.take i) := (HWr.out.rows.rd).takeN i
        rw [← hany] at hm
        have hic : (i : Int) ≤ (cap : Int) := by omega
        have hil : (i : Int) ≤ (l.length : Int) := by omega
        generalize l[i] = q at *
        obtain ⟨qn, qb⟩ := q
        obtain ⟨sa, sn, sc⟩ := s
        simp only at hsn y0 y1 hmx hm hany
        subst hsn
        have Hf := Lib.hid hf
        have HR2 := Lib.hid hwr2
        have Hwl := Lib.hid hwl
        have Hi' := Lib.hid (show i + 1 ≤ l.length by omega)
        clear hws hdr htk hany hwl hwr2 hf hlt
        by_cases hlb : qb.length = d.size
        · rw [if_neg (by omega)] at hm
          have hbe : ((qb.length : Int) != (d.size : Int)) = false := by simp [hlb]
          cases hj : isJ d qn with
          | false =>
            rw [if_pos hj] at hm
            have Hm := Lib.hid hm
            have Hj := Lib.hid hj
            clear hm hj
            go_wp2_with fail
            go_quiet ((go_at_call 21; exact Calls.quiet_of_same ((jsize_any (JAt.ok.fr0 HA.out (((Hf.out.alloc _)).drewN _))).mono fun _ _ ⟨a, b⟩ => ⟨a, b.symm⟩)))
            go_wp2_with fail
            refine (jis_any (JAt.ok.fr0 HA.out (((Hf.out.alloc _)).drewN _)) qn).mono ?_
            rintro e w' ⟨rfl, rfl⟩
            rw [Hj.out]
            go_wp2_with fail
            go_ret
            exact ⟨ret_int Hm.out, (Hf.out.alloc _).drewN _⟩
          | true =>
            rw [if_neg (by rw [hj]; simp)] at hm
            have hct := fun (W : World) (hW : Fr noBlock wr W) (B : Nat) (hB : W.cell? ⟨B, 0, none⟩ = some (.int .i64 qn)) => contains_any (some ⟨b, off, none⟩) cap (ws.take i) 68 #[.pointer (some ⟨B, 0, none⟩)] Eg.out (fun p => p.1 == qn) W (HR2.out.fr0 hW) (fun W2 u hf2 => may1_any u B qn W2 ((hf2.cell (p := ⟨B, 0, none⟩) (lt_of_cell hB) (fun x => x)).trans hB))
            rw [Hwl.out] at hct
            have Hct := Lib.hid hct
            cases ha : (ws.take i).any (fun p => p.1 == qn) with
            | true =>
              rw [if_pos ha] at hm
              have Hm := Lib.hid hm
              have Hj := Lib.hid hj
              have Ha := Lib.hid ha
              clear hm hj ha hct
              go_wp2_with fail
              go_quiet ((go_at_call 21; exact Calls.quiet_of_same ((jsize_any (JAt.ok.fr0 HA.out (((Hf.out.alloc _)).drewN _))).mono fun _ _ ⟨a, b⟩ => ⟨a, b.symm⟩)))
              go_wp2_with fail
              refine (jis_any (JAt.ok.fr0 HA.out (((Hf.out.alloc _)).drewN _)) qn).mono ?_
              rintro e w' ⟨rfl, rfl⟩
              rw [Hj.out]
              go_wp2_with fail
              refine (Hct.out _ ((Fr.refl _ _).alloc _ |>.drewN _) _ (by simp)).mono ?_
              rintro e w' ⟨rfl, hf'⟩
              rw [Ha.out]
              have Hf' := Lib.hid (((Hf.out.alloc _).drewN _).trans' hf')
              clear hf'
              go_wp2_with fail
              go_ret
              exact ⟨ret_int Hm.out, Hf'.out⟩
            | false =>
              rw [if_neg (by rw [ha]; simp)] at hm
              have Hm := Lib.hid hm
              have Hj := Lib.hid hj
              have Ha := Lib.hid ha
              clear hm hj ha hct
              go_wp2_with fail
              go_quiet ((go_at_call 21; exact Calls.quiet_of_same ((jsize_any (JAt.ok.fr0 HA.out (((Hf.out.alloc _)).drewN _))).mono fun _ _ ⟨a, b⟩ => ⟨a, b.symm⟩)))
              go_wp2_with fail
              refine (jis_any (JAt.ok.fr0 HA.out (((Hf.out.alloc _)).drewN _)) qn).mono ?_
              rintro e w' ⟨rfl, rfl⟩
              rw [Hj.out]
              go_wp2_with fail
              refine (Hct.out _ ((Fr.refl _ _).alloc _ |>.drewN _) _ (by simp)).mono ?_
              rintro e w' ⟨rfl, hf'⟩
              rw [Ha.out]
              have Hf' := Lib.hid (((Hf.out.alloc _).drewN _).trans' hf')
              clear hf'
              go_wp2_with fail
              go_roundw
              case rel => exact ⟨i + 1, Hi'.out, by go_num, Hf'.out, Lib.hid Hm.out⟩
              case measure => have := Hi'.out; simp [intOf]; omega
        · rw [if_pos (by omega)] at hm
          have hbe : ((qb.length : Int) != (d.size : Int)) = true := by simp; omega
          have Hm := Lib.hid hm
          clear hm hlb
          go_wp2_with fail
          go_quiet ((go_at_call 21; exact Calls.quiet_of_same ((jsize_any (JAt.ok.fr0 HA.out (((Hf.out.alloc _)).drewN _))).mono fun _ _ ⟨a, b⟩ => ⟨a, b.symm⟩)))
          go_wp2_with fail
          go_ret
          exact ⟨ret_int Hm.out, (Hf.out.alloc _).drewN _⟩
      · have q1 : (l.length : Int) ≤ (i : Int) := by omega
        have e : i = l.length := by omega
        subst e
        have hm := HM.out
        rw [List.drop_length] at hm
        have Hm := Lib.hid (show (0 : Int) = mayL d [] l from hm)
        clear hm hlt
        go_wp2_with fail
        go_ret
        exact ⟨ret_int Hm.out, hf⟩
  · have hE : mayE d l = 1 := by unfold mayE; rw [if_pos (by omega)]
    have hl8 : (8 : Int) < (l.length : Int) := by omega
    rw [hE]
    clear hE hl
    go_enter Tryz.func42, Tryz.ntmps42
    go_wp2_with fail
    go_ret
    exact ⟨rfl, Fr.refl _ _⟩
end Go.Proofs.YthabllnhlhkejaaGreatDoor
