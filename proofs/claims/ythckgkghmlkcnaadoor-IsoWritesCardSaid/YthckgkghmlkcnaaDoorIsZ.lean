/-
  THE WALK of IsoSizes.
-/
import Derived.Test.YthckgkghmlkcnaaDoorIsS
import Derived.Test.YthckgkghmlkcnaaDoorIsO
namespace Go.Proofs.YthckgkghmlkcnaaDoor
open Go.RowKit

def LawP (w : World) (e : Ending) (w' : World) : Prop := e = .returned (.bool true) ∧ Below w.heap.size w w'
theorem LawP.mk' {w w' : World} (f : Fr noBlock w w') : LawP w (.returned (.bool true)) w' := ⟨rfl, f.below (Nat.le_refl _) (fun _ hk => hk.elim)⟩
def sumS (l : List Fld) : Nat := (l.map (fun f => (f.v.size + 1) / 2)).sum
theorem sumS_snoc (l : List Fld) (f : Fld) : sumS (l ++ [f]) = sumS l + (f.v.size + 1) / 2 := by unfold sumS; simp
theorem sumS_le : ∀ (l : List Fld), (∀ f ∈ l, f.v.size ≤ 999) → sumS l ≤ 500 * l.length
  | [], _ => by simp [sumS]
  | f :: l, h => by
    have := sumS_le l (fun g hg => h g (List.mem_cons_of_mem _ hg))
    have h1 := h f List.mem_cons_self
    have e : sumS (f :: l) = (f.v.size + 1) / 2 + sumS l := rfl
    rw [e, List.length_cons]
    omega
theorem restB_ge : ∀ (l : List Fld), sumS l ≤ (restB l).length
  | [] => by simp [sumS, restB]
  | f :: l => by
    have := restB_ge l
    have e : sumS (f :: l) = (f.v.size + 1) / 2 + sumS l := rfl
    have e2 : restB (f :: l) = fieldB f.n (bl f.v) ++ restB l := rfl
    rw [e, e2, List.length_append]
    have h1 : (f.v.size + 1) / 2 ≤ (fieldB f.n (bl f.v)).length := by
      unfold fieldB
      rw [List.length_append]
      have : (f.v.size + 1) / 2 ≤ (if packedK (kindOf f.n) = true then packB (bl f.v) else bl f.v).length := by
        split
        · rw [packB_len, bl_len]; exact Nat.le_refl _
        · rw [bl_len]; omega
      omega
    omega
theorem right_parts {t : ByteArray} {l : List Fld} (h : rightM t l = 0) : t.size = 4 ∧ rightF 0 l = 0 := by
  unfold rightM at h
  by_cases h0 : valueE (bl t) 1 4 = 0
  · rw [if_neg (by simpa using h0)] at h
    have := (value_ok h0).2.2 (by omega)
    rw [bl_len] at this
    exact ⟨by omega, h⟩
  · rw [if_pos h0] at h
    exact absurd h h0
theorem bytesM_len {t : ByteArray} {l : List Fld} (h : rightM t l = 0) : (bytesM t l).length = 2 + (if above l = true then 16 else 8) + (restB l).length := by
  obtain ⟨h1, h2⟩ := right_parts h
  have hf : ∀ f ∈ l, 2 ≤ f.n ∧ f.n ≤ 128 := fun f hf => by
    have := fmt_range ((right_fields l 0 h2).1 f hf).2.1
    omega
  unfold bytesM
  rw [List.length_append, List.length_append, packB_len, bl_len, h1, (mapsB_bit hf).1]
  rfl
theorem right_sizes {t : ByteArray} {l : List Fld} (h : rightM t l = 0) : (∀ f ∈ l, f.v.size ≤ 999) ∧ l.length ≤ 103 := by
  obtain ⟨h1, h2⟩ := right_parts h
  refine ⟨fun f hf => ?_, right_len h2⟩
  obtain ⟨_, a, b⟩ := (right_fields l 0 h2).1 f hf
  have := field_len a b
  rwa [bl_len] at this
theorem above_take {l : List Fld} {i : Nat} (hi : i < l.length) : above (l.take (i + 1)) = (above (l.take i) || decide (64 < l[i].n)) := by
  rw [List.take_succ_eq_append_getElem hi, above_snoc]
set_option maxRecDepth 100000 in
set_option maxHeartbeats 3200000 in
theorem sizes_walk {t : ByteArray} {ao : Option Addr} {cap : Nat} {l : List Fld} {w : World} (h : ArgM w t ao cap l) : Calls Tryd.prog 5 #[.agg #[.string t, .slice ao l.length cap]] w (LawP w) := by
  have HA := Lib.hid h
  have HB0 := Lib.hid (heap_new w (.cells #[.string t, .slice ao l.length cap] 27))
  have HF0 := Lib.hid ((Fr.refl noBlock w).alloc (.cells #[.string t, .slice ao l.length cap] 27))
  have hn24 := h.n
  clear h
  go_enter Tryd.func5, Tryd.ntmps5
  go_wp2_with fail
  refine (small_any _).mono ?_
  rintro e w1 ⟨rfl, f1⟩
  have HB1 := Lib.hid (f1.obj HB0.out (fun x => x))
  have HF1 := Lib.hid (HF0.out.trans' f1)
  clear f1 HB0 HF0
  have x1 := cell_of HB1.out 1
  have x0 := cell_of HB1.out 0
  simp at x0 x1
  have HBy := Lib.hid (bytes_any t (HA.out.rd.fr0 HF1.out) cap HA.out.small)
  unfold ReadP at HBy
  go_wp2_with fail
  refine HBy.out.mono ?_
  rintro e w2 ⟨⟨sa, sn, sc⟩, rfl, h1, h2, h3, h4⟩
  simp only at h1
  have HB2 := Lib.hid (h3.obj HB1.out (fun x => x))
  have HF2 := Lib.hid (HF1.out.trans' h3)
  have hlen := h1
  unfold SV.val
  dsimp only
  clear h1 h2 h3 h4 x0 x1 HB1 HF1
  by_cases hr : rightM t l = 0
  · rw [hr]
    have hbr : bytesR t l = bytesM t l := by unfold bytesR; rw [if_pos hr]
    rw [hbr, bytesM_len hr] at hlen
    obtain ⟨hs1, hs2⟩ := right_sizes hr
    have hge := restB_ge l
    have hle := sumS_le l hs1
    have hr0 : l = [] → (restB l).length = 0 := fun e => by rw [e]; rfl
    have Hs1 := Lib.hid hs1
    have x1 := cell_of HB2.out 1
    simp at x1
    have hl103 : (l.length : Int) ≤ 103 := by omega
    have HLb := Lib.hid (show (above l = true → 18 + sumS l ≤ sn) ∧ (above l = false → 10 + sumS l ≤ sn) ∧ (l.length = 0 → sn = 10) from by
      refine ⟨fun e => ?_, fun e => ?_, fun e => ?_⟩
      · rw [e, if_pos rfl] at hlen; omega
      · rw [e, if_neg (by simp)] at hlen; omega
      · have e2 := List.eq_nil_of_length_eq_zero e
        have := hr0 e2
        rw [e2] at hlen
        have e3 : above ([] : List Fld) = false := rfl
        rw [e3, if_neg (by simp)] at hlen
        rw [e2] at this
        omega)
    clear hbr hr hs1 hlen hr0 hge hle
    go_wp2_with fail
    go_loop [6, 7, 8] (fun s6 s7 s8 => ∃ (i : Nat) (q : Int) (ab : Bool), i ≤ l.length ∧ s8 = .int .i64 i ∧ s6 = .int .i64 q ∧ s7 = .bool ab ∧ 0 ≤ q ∧ q ≤ 10 + 500 * (i : Int) ∧ Hid (q = ((10 + sumS (l.take i) : Nat) : Int) ∧ ab = above (l.take i))) (fun _ _ s8 => l.length - (intOf s8).toNat)
    case atStart => exact ⟨0, 10, false, Nat.zero_le _, rfl, rfl, rfl, by omega, by omega, Lib.hid ⟨rfl, rfl⟩⟩
    case round =>
      obtain ⟨i, q, ab, hi, rfl, rfl, rfl, hq0, hq1, HI⟩ := hrel
      by_cases hlt : i < l.length
      · have q1 : (i : Int) < (l.length : Int) := by omega
        have q0 : (0 : Int) ≤ (i : Int) := by omega
        have hi' : i + 1 ≤ l.length := hlt
        obtain ⟨b, off, rfl, hb, y0, y1⟩ := fld_cells (HA.out.rd.fr0 HF2.out) hlt
        have hab := above_take hlt
        have hsum : sumS (l.take (i + 1)) = sumS (l.take i) + (l[i].v.size + 1) / 2 := by rw [List.take_succ_eq_append_getElem hlt, sumS_snoc]
        have hsz := Hs1.out l[i] (List.getElem_mem hlt)
        generalize l[i] = f at *
        obtain ⟨fn, fv⟩ := f
        simp only at y0 y1 hab hsum hsz
        have hz1 : (0 : Int) ≤ (fv.size : Int) := by omega
        have hz2 : (fv.size : Int) ≤ 999 := by omega
        have hi103 : (i : Int) ≤ 103 := by omega
        have HN := Lib.hid (show q + ((fv.size : Int) + 1) / 2 = ((10 + sumS (l.take (i + 1)) : Nat) : Int) by rw [HI.out.1, hsum]; omega)
        have hq2 : 0 ≤ q + ((fv.size : Int) + 1) / 2 := by omega
        have hq3 : q + ((fv.size : Int) + 1) / 2 ≤ 10 + 500 * ((i + 1 : Nat) : Int) := by omega
        have HAb := Lib.hid hab
        clear hab hsum hsz hlt
        cases ab with
        | true =>
          have HN2 := Lib.hid (show true = above (l.take (i + 1)) by rw [HAb.out, ← HI.out.2]; rfl)
          go_wp2_with fail
          go_round
          case rel => exact ⟨i + 1, _, true, hi', by go_num, rfl, rfl, hq2, hq3, Lib.hid ⟨HN.out, HN2.out⟩⟩
          case measure => simp [intOf]; omega
        | false =>
          have HN2 := Lib.hid (show decide (64 < fn) = above (l.take (i + 1)) by rw [HAb.out, ← HI.out.2]; rfl)
          go_wp2_with fail
          go_round
          case rel => exact ⟨i + 1, _, _, hi', by go_num, rfl, rfl, hq2, hq3, Lib.hid ⟨HN.out, HN2.out⟩⟩
          case measure => simp [intOf]; omega
      · have q1 : (l.length : Int) ≤ (i : Int) := by omega
        have e : i = l.length := by omega
        subst e
        rw [List.take_length] at HI
        clear hlt
        by_cases hl0 : l.length = 0
        · have hsn : sn = 10 := HLb.out.2.2 hl0
          have e2 := List.eq_nil_of_length_eq_zero hl0
          have hab : ab = false := by rw [HI.out.2, e2]; rfl
          have hq : q = 10 := by rw [HI.out.1, e2]; rfl
          subst hab hq hsn
          have hl0' : (l.length : Int) = 0 := by omega
          have hl1' : decide (0 < l.length) = false := by simp [hl0]
          clear HLb hl0 e2
          go_wp2_with fail
          go_ret
          exact LawP.mk' HF2.out
        · have hl1 : 0 < l.length := by omega
          have hlI : (0 : Int) < (l.length : Int) := by omega
          cases ab with
          | true =>
            have hle : q + 8 ≤ (sn : Int) := by
              have := HLb.out.1 HI.out.2.symm
              rw [HI.out.1]
              omega
            clear HLb hl0
            go_wp2_with fail
            go_ret
            exact LawP.mk' HF2.out
          | false =>
            have hle : q ≤ (sn : Int) := by
              have := HLb.out.2.1 HI.out.2.symm
              rw [HI.out.1]
              omega
            clear HLb hl0
            go_wp2_with fail
            go_ret
            exact LawP.mk' HF2.out
  · have hbr : bytesR t l = [] := by unfold bytesR; rw [if_neg hr]
    rw [hbr] at hlen
    have hsn : sn = 0 := hlen
    subst hsn
    have hx : (rightM t l != 0) = true := by simpa using hr
    generalize rightM t l = x at *
    clear hbr hr hlen
    go_wp2_with fail
    go_ret
    exact LawP.mk' HF2.out
end Go.Proofs.YthckgkghmlkcnaaDoor
