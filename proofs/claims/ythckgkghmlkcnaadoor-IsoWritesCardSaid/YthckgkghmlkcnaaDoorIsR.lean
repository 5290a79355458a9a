/-
  MESSAGES IN MEMORY. THE WALK of iso.Right.
-/
import Derived.Deep.RegionHeld3
import Derived.Test.YthckgkghmlkcnaaDoorIsA
import Derived.Test.YthckgkghmlkcnaaDoorApp
namespace Go.Proofs.YthckgkghmlkcnaaDoor
open Go.RowKit

def FldR : Rec Fld := ⟨2, fun f => [.int .i64 f.n, .string f.v], fun _ => rfl, fun f u hu => by simp at hu; rcases hu with rfl | rfl <;> rfl⟩
theorem fldK : FldR.k = 2 := rfl
theorem fld_cells {w : World} {ao : Option Addr} {xs : List Fld} (h : RowRd FldR w ao xs) {i : Nat} (hi : i < xs.length) :
    ∃ b off, ao = some ⟨b, off, none⟩ ∧ b < w.heap.size ∧ w.cell? ⟨b, off + i * 2, none⟩ = some (.int .i64 xs[i].n) ∧ w.cell? ⟨b, off + i * 2 + 1, none⟩ = some (.string xs[i].v) := by
  obtain ⟨b, off, e, hb, h3⟩ := h.at' i hi
  exact ⟨b, off, e, hb, h3 0 _ rfl, h3 1 _ rfl⟩
structure SmallM (t : ByteArray) (l : List Fld) : Prop where
  t : t.size ≤ maxLen
  v : ∀ f ∈ l, f.v.size ≤ maxLen
  n : l.length ≤ maxLen
def RightP (t : ByteArray) (l : List Fld) (w : World) (e : Ending) (w' : World) : Prop := e = .returned (.int .i64 (rightM t l)) ∧ Fr noBlock w w'
set_option maxRecDepth 100000 in
set_option maxHeartbeats 1600000 in
theorem right_any (t : ByteArray) {ao : Option Addr} {l : List Fld} {w : World} (h : RowRd FldR w ao l) (cap : Nat) (hs : SmallM t l) : Calls Tryd.prog 17 #[.agg #[.string t, .slice ao l.length cap]] w (RightP t l w) := by
  have HR := Lib.hid h
  have Ht := Lib.hid hs.t
  have Hv := Lib.hid hs.v
  have hn := hs.n
  unfold maxLen at hn
  obtain ⟨res, hres⟩ : ∃ r, rightM t l = r := ⟨_, rfl⟩
  unfold RightP
  rw [hres]
  obtain ⟨e0, he0⟩ : ∃ e, valueE (bl t) 1 4 = e := ⟨_, rfl⟩
  have H0 := Lib.hid (show (e0 = 0 → res = rightF 0 (l.drop 0)) ∧ (e0 ≠ 0 → res = e0) by
    unfold rightM at hres
    rw [he0] at hres
    by_cases hz : e0 = 0
    · rw [if_neg (by simpa using hz)] at hres
      exact ⟨fun _ => hres.symm, fun h => absurd hz h⟩
    · rw [if_pos hz] at hres
      exact ⟨fun h => absurd h hz, fun _ => hres.symm⟩)
  have HV0 := Lib.hid (fun W => value_any t 1 4 W hs.t (by omega))
  rw [he0] at HV0
  clear h hs hres he0
  go_enter Tryd.func17, Tryd.ntmps17
  go_wp2_with fail
  refine (HV0.out _).mono ?_
  rintro e w1 ⟨rfl, rfl⟩
  have hf0 := (Fr.refl noBlock w).alloc (.cells #[.string t, .slice ao l.length cap] 27)
  have HF0 := Lib.hid hf0
  clear hf0
  go_wp2_with fail
  go_loopw [3, 4, 16] (fun s3 s4 s16 wr => ∃ (i : Nat) (last err : Int), i ≤ l.length ∧ s16 = .int .i64 i ∧ s4 = .int .i64 last ∧ s3 = .int .i64 err ∧ Hid (Fr noBlock w wr) ∧ Hid ((err = 0 → res = rightF last (l.drop i)) ∧ (err ≠ 0 → res = err))) (fun _ _ s16 _ => l.length - (intOf s16).toNat)
  case atStart => exact ⟨0, 0, e0, Nat.zero_le _, rfl, rfl, rfl, HF0, H0⟩
  case round =>
    obtain ⟨i, last, err, hi, rfl, rfl, rfl, HF, HI⟩ := hrel
    by_cases hlt : i < l.length
    · have q1 : (i : Int) < (l.length : Int) := by omega
      have q0 : (0 : Int) ≤ (i : Int) := by omega
      have hi' : i + 1 ≤ l.length := hlt
      obtain ⟨b, off, rfl, hb, y0, y1⟩ := fld_cells (HR.out.fr0 HF.out) hlt
      have hdr : l.drop i = l[i] :: l.drop (i + 1) := (List.drop_eq_getElem_cons hlt)
      have hvs := Hv.out l[i] (List.getElem_mem hlt)
      generalize l[i] = f at *
      obtain ⟨fn, fv⟩ := f
      simp only at y0 y1 hvs
      by_cases hz : err = 0
      · subst hz
        have hR := HI.out.1 rfl
        rw [hdr] at hR
        unfold rightF at hR
        simp only at hR
        obtain ⟨kd, hkd⟩ : ∃ x, kindOf fn = x := ⟨_, rfl⟩
        obtain ⟨lg, hlg⟩ : ∃ x, longOf fn = x := ⟨_, rfl⟩
        obtain ⟨ok, hok⟩ : ∃ x, fmtOk fn = x := ⟨_, rfl⟩
        have HFm := Lib.hid (fun W => format_any fn W)
        unfold FmtP at HFm
        rw [hkd, hlg, hok] at hR HFm
        have hlim : ok = true → 0 ≤ lg ∧ lg ≤ 9223372036854775807 := fun h => by
          have := fmt_facts (hok.trans h)
          have h1 := this.l1
          have h9 := this.l9
          rw [hlg] at h1 h9
          omega
        obtain ⟨ev, hev⟩ : ∃ e, valueE (bl fv) kd lg = e := ⟨_, rfl⟩
        rw [hev] at hR
        have HVv := Lib.hid (fun h W => value_any fv kd lg W hvs (hlim h))
        rw [hev] at HVv
        have HRes := Lib.hid hR
        have HF6 := Lib.hid (HF.out.alloc (.cells #[.int .i64 fn, .string fv] 41))
        clear hkd hlg hok hev hlim hR hdr hlt HI hvs
        have hfz : fn ≤ last ∨ last < fn := by omega
        rcases hfz with hle | hgt
        · have HRes2 := Lib.hid (show res = 13 from HRes.out.trans (if_pos (.inl hle)))
          clear HRes
          go_wp2_with fail
          refine (HFm.out _).mono ?_
          rintro e w2 ⟨rfl, rfl⟩
          go_wp2_with fail
          go_ret
          exact ⟨ret_int HRes2.out.symm, HF6.out⟩
        · cases ok with
          | false =>
            have HRes2 := Lib.hid (show res = 13 from HRes.out.trans (if_pos (.inr rfl)))
            clear HRes
            go_wp2_with fail
            refine (HFm.out _).mono ?_
            rintro e w2 ⟨rfl, rfl⟩
            go_wp2_with fail
            go_ret
            exact ⟨ret_int HRes2.out.symm, HF6.out⟩
          | true =>
            have hRes2 : res = if ev ≠ 0 then ev else rightF fn (l.drop (i + 1)) := HRes.out.trans (if_neg (by simp; omega))
            have HN := Lib.hid (show (ev = 0 → res = rightF fn (l.drop (i + 1))) ∧ (ev ≠ 0 → res = ev) from ⟨fun h => hRes2.trans (if_neg (by simpa using h)), fun h => hRes2.trans (if_pos h)⟩)
            have HV2 := Lib.hid (HVv.out rfl)
            clear hRes2 HRes HVv
            go_wp2_with fail
            refine (HFm.out _).mono ?_
            rintro e w2 ⟨rfl, rfl⟩
            go_upto_region 11 with (fail)
            refine wp_at (φ := fun W => Fr noBlock w W ∧ W.cell? ⟨wr.heap.size, 0, none⟩ = some (.int .i64 fn) ∧ W.cell? ⟨wr.heap.size, 1, none⟩ = some (.string fv)) ⟨HF6.out, by simp, by simp⟩ ?_
            rintro w5 ⟨f5, z0, z1⟩
            have HF5 := Lib.hid f5
            have HZ := Lib.hid (And.intro z0 z1)
            clear f5 z0 z1
            go_region_held3 (fun W => W.cell? ⟨wr.heap.size, 0, none⟩ = some (.int .i64 fn) ∧ W.cell? ⟨wr.heap.size, 1, none⟩ = some (.string fv))
              (exact HZ.out)
              ((go_at_call 36; (with_reducible refine (HV2.out _).mono ?_); rintro e w7 ⟨rfl, rfl⟩))
            go_wp2_with fail
            go_roundw
            case rel => exact ⟨i + 1, fn, ev, hi', by go_num, rfl, rfl, Lib.hid HF5.out.drew, HN⟩
            case measure => simp [intOf]; omega
      · have hb0 : (err != 0) = true := by simpa using hz
        have HRes2 := Lib.hid (HI.out.2 hz)
        have HF6 := Lib.hid (HF.out.alloc (.cells #[.int .i64 fn, .string fv] 41))
        clear hz HI hdr
        go_wp2_with fail
        go_ret
        exact ⟨ret_int HRes2.out.symm, HF6.out⟩
    · have q1 : (l.length : Int) ≤ (i : Int) := by omega
      have HRes := Lib.hid (show res = err by
        by_cases hz : err = 0
        · have := HI.out.1 hz
          rw [List.drop_eq_nil_of_le (by omega)] at this
          rw [hz]
          exact this
        · exact HI.out.2 hz)
      clear hlt HI
      go_wp2_with fail
      go_ret
      exact ⟨ret_int HRes.out.symm, HF.out⟩
end Go.Proofs.YthckgkghmlkcnaaDoor
