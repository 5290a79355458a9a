/-
  THE WALK of the law's small case.
-/
import Derived.Test.YthckgkghmlkcnaaDoorIsN
import Derived.Test.YthckgkghmlkcnaaDoorIsY
namespace Go.Proofs.YthckgkghmlkcnaaDoor
open Go.RowKit

def valF (n : Int) : List Fld → Option ByteArray
  | [] => none
  | f :: l => if f.n = n then some f.v else valF n l
def valS (n : Int) (l : List Fld) : ByteArray := (valF n l).getD ⟨#[]⟩
def valB (n : Int) (l : List Fld) : Bool := (valF n l).isSome
def ValueP (n : Int) (l : List Fld) (w : World) (e : Ending) (w' : World) : Prop := e = .returned (.tuple #[.string (valS n l), .bool (valB n l)]) ∧ Fr noBlock w w'
set_option maxRecDepth 100000 in
set_option maxHeartbeats 1600000 in
theorem value_of (t : ByteArray) {ao : Option Addr} {l : List Fld} {w : World} (h : RowRd FldR w ao l) (cap : Nat) (hl : l.length ≤ maxLen) (n : Int) : Calls Tryd.prog 20 #[.agg #[.string t, .slice ao l.length cap], .int .i64 n] w (ValueP n l w) := by
  have HR := Lib.hid h
  unfold maxLen at hl
  have HF0 := Lib.hid ((Fr.refl noBlock w).alloc (.cells #[.string t, .slice ao l.length cap] 27))
  clear h
  go_enter Tryd.func20, Tryd.ntmps20
  go_wp2_with fail
  go_loopw [11] (fun s11 wr => ∃ i : Nat, i ≤ l.length ∧ s11 = .int .i64 i ∧ Hid (Fr noBlock w wr) ∧ Hid (valF n l = valF n (l.drop i))) (fun s11 _ => l.length - (intOf s11).toNat)
  case atStart => exact ⟨0, Nat.zero_le _, rfl, HF0, Lib.hid rfl⟩
  case round =>
    obtain ⟨i, hi, rfl, HF, HI⟩ := hrel
    by_cases hlt : i < l.length
    · have q1 : (i : Int) < (l.length : Int) := by omega
      have q0 : (0 : Int) ≤ (i : Int) := by omega
      have hi' : i + 1 ≤ l.length := hlt
      obtain ⟨b, off, rfl, hb, y0, y1⟩ := fld_cells (HR.out.fr0 HF.out) hlt
      have hdr : l.drop i = l[i] :: l.drop (i + 1) := (List.drop_eq_getElem_cons hlt)
      generalize l[i] = f at *
      obtain ⟨fn, fv⟩ := f
      simp only at y0 y1
      have hv := HI.out
      rw [hdr] at hv
      have hcons : valF n (⟨fn, fv⟩ :: l.drop (i + 1)) = if fn = n then some fv else valF n (l.drop (i + 1)) := rfl
      rw [hcons] at hv
      have HF6 := Lib.hid (HF.out.alloc (.cells #[.int .i64 fn, .string fv] 41))
      by_cases he : fn = n
      · rw [if_pos he] at hv
        have HV := Lib.hid (show valS n l = fv ∧ valB n l = true by unfold valS valB; rw [hv]; exact ⟨rfl, rfl⟩)
        have hne : (fn == n) = true := by simpa using he
        clear hdr hv hlt HI hcons he
        go_wp2_with fail
        go_ret2
        exact ⟨by rw [HV.out.1, HV.out.2]; rfl, HF6.out⟩
      · rw [if_neg he] at hv
        have HV := Lib.hid hv
        have hne : (fn == n) = false := by simpa using he
        clear hdr hv hlt HI he hcons
        go_wp2_with fail
        go_roundw
        case rel => exact ⟨i + 1, hi', by go_num, HF6, HV⟩
        case measure => simp [intOf]; omega
    · have q1 : (l.length : Int) ≤ (i : Int) := by omega
      have hv := HI.out
      rw [List.drop_eq_nil_of_le (by omega)] at hv
      have HV := Lib.hid (show valS n l = ⟨#[]⟩ ∧ valB n l = false by unfold valS valB; rw [hv]; exact ⟨rfl, rfl⟩)
      clear hv HI hlt
      go_wp2_with fail
      go_ret2
      exact ⟨by rw [HV.out.1, HV.out.2]; rfl, HF.out⟩
set_option maxRecDepth 100000 in
set_option maxHeartbeats 1600000 in
theorem rvalue_of (t : ByteArray) {ao : Option Addr} {l : List Fld} {w : World} (h : RowRd FldR w ao l) (cap : Nat) (hl : l.length ≤ maxLen) (n : Int) : Calls Tryd.prog 21 #[.agg #[.string t, .slice ao l.length cap], .int .i64 n] w (ValueP n l w) := by
  have HR := Lib.hid h
  unfold maxLen at hl
  have hf0 := (Fr.refl noBlock w).alloc (.cells #[.string t, .slice ao l.length cap] 27)
  have HF0 := Lib.hid hf0
  have HB0 := Lib.hid (heap_new w (.cells #[.string t, .slice ao l.length cap] 27))
  clear h hf0
  go_enter Tryd.func21, Tryd.ntmps21
  go_wp2_with fail
  go_loop [6] (fun s6 => ∃ i : Nat, i ≤ l.length ∧ s6 = .int .i64 i ∧ Hid (valF n l = valF n (l.drop i))) (fun s6 => l.length - (intOf s6).toNat)
  case atStart => exact ⟨0, Nat.zero_le _, rfl, Lib.hid rfl⟩
  case round =>
    obtain ⟨i, hi, rfl, HI⟩ := hrel
    by_cases hlt : i < l.length
    · have q1 : (i : Int) < (l.length : Int) := by omega
      have q0 : (0 : Int) ≤ (i : Int) := by omega
      have hi' : i + 1 ≤ l.length := hlt
      obtain ⟨b, off, rfl, hb, y0, y1⟩ := fld_cells (HR.out.fr0 HF0.out) hlt
      have hdr : l.drop i = l[i] :: l.drop (i + 1) := (List.drop_eq_getElem_cons hlt)
      generalize l[i] = f at *
      obtain ⟨fn, fv⟩ := f
      simp only at y0 y1
      have hv := HI.out
      rw [hdr] at hv
      have hcons : valF n (⟨fn, fv⟩ :: l.drop (i + 1)) = if fn = n then some fv else valF n (l.drop (i + 1)) := rfl
      rw [hcons] at hv
      by_cases he : fn = n
      · rw [if_pos he] at hv
        have HV := Lib.hid (show valS n l = fv ∧ valB n l = true by unfold valS valB; rw [hv]; exact ⟨rfl, rfl⟩)
        have hne : (fn == n) = true := by simpa using he
        clear hdr hv hlt HI hcons he
        go_wp2_with fail
        go_ret2
        exact ⟨by rw [HV.out.1, HV.out.2]; rfl, HF0.out⟩
      · rw [if_neg he] at hv
        have HV := Lib.hid hv
        have hne : (fn == n) = false := by simpa using he
        clear hdr hv hlt HI he hcons
        go_wp2_with fail
        go_round
        case rel => exact ⟨i + 1, hi', by go_num, HV⟩
        case measure => simp [intOf]; omega
    · have q1 : (l.length : Int) ≤ (i : Int) := by omega
      have hv := HI.out
      rw [List.drop_eq_nil_of_le (by omega)] at hv
      have HV := Lib.hid (show valS n l = ⟨#[]⟩ ∧ valB n l = false by unfold valS valB; rw [hv]; exact ⟨rfl, rfl⟩)
      clear hv HI hlt
      go_wp2_with fail
      go_ret2
      exact ⟨by rw [HV.out.1, HV.out.2]; rfl, HF0.out⟩
end Go.Proofs.YthckgkghmlkcnaaDoor
namespace Go.Proofs.YthckgkghmlkcnaaDoor
open Go.RowKit

def sT : ByteArray := ⟨#[48, 56, 48, 48]⟩
def sF : Fld := ⟨70, ⟨#[51, 48, 49]⟩⟩
def sB : Bs := [8, 0, 128, 0, 0, 0, 0, 0, 0, 0, 4, 0, 0, 0, 0, 0, 0, 0, 3, 1]
theorem s_right : rightM sT [sF] = 0 := by decide +kernel
theorem s_bytes : bytesM sT [sF] = sB := by decide +kernel
theorem s_bytesR : bytesR sT [sF] = sB := by unfold bytesR; rw [if_pos s_right, s_bytes]
theorem s_parse (r : Bs) : parseM (sB ++ r) = (0, bl sT, [(70, bl sF.v)], r) := by
  have h := parse_bytes s_right r
  rw [s_bytes] at h
  exact h
theorem s_par (r : Bs) : parE (sB ++ r) = 0 ∧ parT (sB ++ r) = sT ∧ parL (sB ++ r) = [sF] ∧ parN (sB ++ r) = 20 := by
  unfold parN parE parT parL
  rw [s_parse]
  refine ⟨rfl, rfl, rfl, ?_⟩
  simp [sB]
  omega
theorem s_small : SmallM sT [sF] := ⟨by decide, fun f hf => by rw [List.mem_singleton] at hf; subst hf; decide, by decide⟩
def SmallP (w : World) (e : Ending) (w' : World) : Prop := e = .returned (.bool true) ∧ Fr noBlock w w'
set_option maxRecDepth 100000 in
set_option maxHeartbeats 1600000 in
theorem small_any (w : World) : Calls Tryd.prog 9 #[] w (SmallP w) := by
  have HF0 := Lib.hid ((Fr.refl noBlock w).alloc (.cells #[.int .i64 70, .string ⟨#[51, 48, 49]⟩] 41))
  have HR0 := Lib.hid (show RowRd FldR (w.alloc (.cells #[.int .i64 70, .string ⟨#[51, 48, 49]⟩] 41)) (some ⟨w.heap.size, 0, none⟩) [sF] from RowRd.one (heap_new w _) sF rfl)
  have HB := Lib.hid (bytes_any sT HR0.out 1 s_small)
  rw [s_right, s_bytesR] at HB
  unfold ReadP at HB
  go_enter Tryd.func9, Tryd.ntmps9
  go_wp2_with fail
  refine HB.out.mono ?_
  rintro e w1 ⟨⟨sa, sn, sc⟩, rfl, h1, h2, h3, h4⟩
  simp only at h1
  have hl : sn = 20 := h1
  subst hl
  have hf1 := HF0.out.trans' h3
  have R1 := Lib.hid (RowAt.rd h2)
  have F1 := Lib.hid hf1
  have hsz1 := hf1.size
  unfold SV.val
  dsimp only
  clear h1 h2 h3 h4 hf1
  go_wp2_with (at_builtin; apply stop_here)
  refine ⟨?_, trivial⟩
  refine wpList_app rfl _ _ rfl el_bytes (v := .slice (some ⟨w1.heap.size, 0, none⟩) 0 0) [] sB sB rfl w1.heap.size 0 20 rfl rfl (World.ownsRow_made w1 #[] 0 (Nat.le_refl _) (Nat.zero_le _) rfl) rfl (R1.out.fr0 ((Fr.refl _ _).alloc _)) rfl (by unfold maxLen; omega) (by omega) (by simp) ?_
  intro ao2 cap2 w2 o2 g2 _
  go_frame
  have O2 := Lib.hid (show OwnB w1 w2 ao2 20 cap2 sB from ⟨o2, rfl, ((Fr.refl noBlock w1).alloc _).grown g2 (fun k hk => by simp [Value.ownBlock] at hk; subst hk; exact .inr (Nat.le_refl _))⟩)
  clear o2 g2
  go_wp2_with (at_builtin; apply stop_here)
  refine ⟨?_, trivial⟩
  refine wpList_app rfl _ _ rfl el_bytes (v := .slice ao2 20 cap2) sB [9] (sB ++ [9]) rfl w1.heap.size 20 21 rfl rfl (O2.out.own' ((Fr.refl _ _).alloc _)) rfl (RowRd.of_flat (heap_new w2 _) rfl (by unfold maxLen; simp)) rfl (by unfold maxLen; omega) (by omega) (by have := O2.out.fr.size; simp; omega) ?_
  intro ao3 cap3 w3 o3 g3 _
  go_frame
  have O3 := Lib.hid (O2.out.grown ((Fr.refl noBlock w2).alloc (.cells #[.int .u8 9] 5)) o3 rfl g3)
  clear o3 g3
  have HP := Lib.hid (parse_any O3.out.rd cap3 (by have := O3.out.cap'; exact this.1) (by have := O3.out.cap'.2; unfold maxLen at this; omega) (fun e => by have := O3.out.row.shape; obtain ⟨_, _, e1, _, _, _, e2⟩ := this; simp only [Value.slice.injEq] at e1; obtain ⟨rfl, _, rfl⟩ := e1; exact (e2 e).2))
  unfold ParseP at HP
  obtain ⟨p1, p2, p3, p4⟩ := s_par [9]
  rw [p1, p2, p3, p4] at HP
  clear p1 p2 p3 p4
  go_wp2_with fail
  refine HP.out.mono ?_
  rintro e w4 ⟨⟨fa, fn, fc⟩, rfl, h1, h2, h3, h4⟩
  have hl : fn = 1 := h1
  subst hl
  have F4 := Lib.hid (F1.out.trans' (O3.out.fr.trans' h3))
  have R4 := Lib.hid (R1.out.fr0 (O3.out.fr.trans' h3))
  have L4 := Lib.hid (RowAt.rd h2)
  unfold SV.val
  dsimp only
  clear h1 h2 h3 h4
  have HV := Lib.hid (value_of sT (L4.out.fr0 ((Fr.refl _ _).alloc (.cells #[.string sT, .slice fa 1 fc] 27))) fc (by unfold maxLen; simp) 70)
  unfold ValueP at HV
  rw [show valS 70 [sF] = ⟨#[51, 48, 49]⟩ from rfl, show valB 70 [sF] = true from rfl] at HV
  go_wp2_with fail
  refine HV.out.mono ?_
  rintro e w5 ⟨rfl, f5⟩
  have hcv := conv_rd (R4.out.fr0 (((Fr.refl noBlock w4).alloc _).trans' f5)) sc
  rw [show strB sB = ⟨#[8, 0, 128, 0, 0, 0, 0, 0, 0, 0, 4, 0, 0, 0, 0, 0, 0, 0, 3, 1]⟩ from rfl, show sB.length = 20 from rfl] at hcv
  have F5 := Lib.hid (F4.out.trans' (((Fr.refl noBlock w4).alloc _).trans' f5))
  clear f5
  go_wp2_with fail
  go_ret
  exact ⟨rfl, F5.out⟩
end Go.Proofs.YthckgkghmlkcnaaDoor
