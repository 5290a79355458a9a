/-
  THE WALK of IsoPuts.
-/
import Derived.Test.YthckgkghmlkcnaaDoorIsP4
import Derived.Test.YthckgkghmlkcnaaDoorIsZ
namespace Go.Proofs.YthckgkghmlkcnaaDoor
open Go.RowKit

theorem valF_app (n : Int) (a b : List Fld) : valF n (a ++ b) = (valF n a).or (valF n b) := by
  induction a with
  | nil => rfl
  | cons f a ih =>
    show (if f.n = n then some f.v else valF n (a ++ b)) = (if f.n = n then some f.v else valF n a).or (valF n b)
    split
    · rfl
    · exact ih
theorem valF_notN (n : Int) (a : List Fld) : valF n (a.filter (notN n)) = none := by
  induction a with
  | nil => rfl
  | cons f a ih =>
    rw [List.filter_cons]
    by_cases h : f.n = n
    · rw [if_neg (by simp [notN, h])]
      exact ih
    · rw [if_pos (by simp [notN, h])]
      show (if f.n = n then some f.v else _) = none
      rw [if_neg h]
      exact ih
theorem valF_other {n k : Int} (hk : k ≠ n) (a : List Fld) : valF k (a.filter (notN n)) = valF k a := by
  induction a with
  | nil => rfl
  | cons f a ih =>
    rw [List.filter_cons]
    have e : valF k (f :: a) = if f.n = k then some f.v else valF k a := rfl
    by_cases h : f.n = n
    · rw [if_neg (by simp [notN, h]), e, if_neg (by omega)]
      exact ih
    · rw [if_pos (by simp [notN, h]), e]
      show (if f.n = k then some f.v else _) = _
      split
      · rfl
      · exact ih
theorem put_found (l : List Fld) (n : Int) (s : ByteArray) : valF n (putL l n s) = some s := by
  unfold putL
  rw [valF_app, valF_app, valF_notN]
  show ((if n = n then some s else _) : Option ByteArray).or _ = some s
  rw [if_pos rfl]
  rfl
theorem put_stays {k n : Int} (hk : k ≠ n) (l : List Fld) (s : ByteArray) : valF k (putL l n s) = valF k l := by
  unfold putL
  rw [valF_app, valF_app, valF_other hk, valF_other hk]
  have e : valF k [(⟨n, s⟩ : Fld)] = none := by
    show (if n = k then some s else none) = none
    rw [if_neg (fun e => hk e.symm)]
  rw [e, Option.or_none, ← valF_app, List.take_append_drop]
theorem putL_len (l : List Fld) (n : Int) (s : ByteArray) : (putL l n s).length ≤ l.length + 1 := by
  unfold putL
  have h1 := List.length_filter_le (notN n) (l.take (putK l n))
  have h2 := List.length_filter_le (notN n) (l.drop (putK l n))
  simp only [List.length_append, List.length_take, List.length_drop, List.length_cons, List.length_nil] at *
  omega
set_option maxRecDepth 100000 in
set_option maxHeartbeats 6400000 in
theorem puts_walk {t : ByteArray} {ao : Option Addr} {cap : Nat} {l : List Fld} {w : World} (n : Int) (s : ByteArray) (k : Int) (h : ArgM w t ao cap l) : Calls Tryd.prog 8 #[.agg #[.string t, .slice ao l.length cap], .int .i64 n, .string s, .int .i64 k] w (LawP w) := by
  have HA := Lib.hid h
  have hn24 := h.n
  have HB0 := Lib.hid (heap_new w (.cells #[.string t, .slice ao l.length cap] 27))
  have HF0 := Lib.hid ((Fr.refl noBlock w).alloc (.cells #[.string t, .slice ao l.length cap] 27))
  clear h
  go_enter Tryd.func8, Tryd.ntmps8
  go_wp2_with fail
  refine (small_any _).mono ?_
  rintro e w1 ⟨rfl, f1⟩
  have HB1 := Lib.hid (f1.obj HB0.out (fun x => x))
  have HF1 := Lib.hid (HF0.out.trans' f1)
  clear f1 HB0 HF0
  have x0 := cell_of HB1.out 0
  have x1 := cell_of HB1.out 1
  simp at x0 x1
  have HP := Lib.hid (put_any t n s (HA.out.rd.fr0 HF1.out) HA.out.s.none hn24)
  unfold PutP at HP
  go_wp2_with fail
  refine HP.out.mono ?_
  rintro e w2 ⟨⟨sa, sn, sc⟩, rfl, h1, h2, h3, -⟩
  simp only at h1
  subst h1
  have hpl := putL_len l n s
  have HF2 := Lib.hid (HF1.out.trans' h3)
  have HB2 := Lib.hid (h3.obj HB1.out (fun x => x))
  have HR2 := Lib.hid (RowAt.rd h2)
  unfold SV.val
  dsimp only
  clear h2 h3 HP x0 x1 HB1 HF1
  have HC3 := Lib.hid (heap_new w2 (.cells #[.string t, .slice sa (putL l n s).length sc] 27))
  have F3 := Lib.hid ((Fr.refl noBlock w2).alloc (.cells #[.string t, .slice sa (putL l n s).length sc] 27))
  have hplm : (putL l n s).length ≤ maxLen := by unfold maxLen; omega
  have HV := Lib.hid (value_of t (HR2.out.fr0 F3.out) sc hplm n)
  unfold ValueP at HV
  have ev : valS n (putL l n s) = s ∧ valB n (putL l n s) = true := by unfold valS valB; rw [put_found]; exact ⟨rfl, rfl⟩
  rw [ev.1, ev.2] at HV
  clear ev
  go_wp2_with fail
  refine HV.out.mono ?_
  rintro e w4 ⟨rfl, f4⟩
  have HF4 := Lib.hid (HF2.out.trans' (F3.out.trans' f4))
  have HR4 := Lib.hid (HR2.out.fr0 (F3.out.trans' f4))
  have HB4 := Lib.hid ((F3.out.trans' f4).obj HB2.out (fun x => x))
  have HC4 := Lib.hid (f4.obj HC3.out (fun x => x))
  clear f4 HV HC3 F3 HB2 HR2 HF2
  have hlm : l.length ≤ maxLen := by unfold maxLen; omega
  have x0 := cell_of HB4.out 0
  have x1 := cell_of HB4.out 1
  have y0 := cell_of HC4.out 0
  have y1 := cell_of HC4.out 1
  simp at x0 x1 y0 y1
  have HV := Lib.hid (value_of t (HA.out.rd.fr0 HF4.out) cap hlm k)
  unfold ValueP at HV
  go_wp2_with fail
  refine HV.out.mono ?_
  rintro e w5 ⟨rfl, f5⟩
  have HF5 := Lib.hid (HF4.out.trans' f5)
  have HR5 := Lib.hid (HR4.out.fr0 f5)
  have HC5 := Lib.hid (f5.obj HC4.out (fun x => x))
  clear f5 HV HC4 HB4 HR4 HF4 x0 x1 y0 y1
  have y0 := cell_of HC5.out 0
  have y1 := cell_of HC5.out 1
  simp at y0 y1
  have HV := Lib.hid (value_of t HR5.out sc hplm k)
  unfold ValueP at HV
  have HSt := Lib.hid (show k ≠ n → valS k (putL l n s) = valS k l ∧ valB k (putL l n s) = valB k l by intro hk; unfold valS valB; rw [put_stays hk]; exact ⟨rfl, rfl⟩)
  go_wp2_with fail
  refine HV.out.mono ?_
  rintro e w6 ⟨rfl, f6⟩
  have HF6 := Lib.hid (HF5.out.trans' f6)
  clear f6 HV HC5 HR5 HF5 y0 y1
  by_cases hk : k = n
  · have hkn : (k == n) = true := by simpa using hk
    clear hk
    go_wp2_with fail
    go_ret
    exact LawP.mk' HF6.out
  · have hkn : (k == n) = false := by simpa using hk
    obtain ⟨e1, e2⟩ := HSt.out hk
    rw [e1, e2]
    clear hk e1 e2
    go_wp2_with fail
    go_ret
    exact LawP.mk' HF6.out
end Go.Proofs.YthckgkghmlkcnaaDoor
