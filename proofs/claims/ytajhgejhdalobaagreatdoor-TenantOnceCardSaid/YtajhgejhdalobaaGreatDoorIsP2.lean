/-
  THE WALK of slices.Insert, one field.
-/
import Derived.Deep.RegionHeld3
import Derived.StillTailTactics
import Derived.Deep.LoopGhost
import Derived.Deep.DeepCutAuto
import Derived.Lib.SliceRun
import Derived.Lib.AppendZerosOnto
import Derived.OwnWalk
import Derived.Shelf.Abstract
import Derived.Laws.CopyRow
import Derived.Lib.Overlaps
import Derived.Laws.Externs
import Derived.Test.YtajhgejhdalobaaGreatDoorRow2
import Derived.Test.YtajhgejhdalobaaGreatDoorOwnB
import Derived.Test.YtajhgejhdalobaaGreatDoorIsA
namespace Go.Proofs.YtajhgejhdalobaaGreatDoor
open Go.RowKit

def FldR : Rec Fld := ⟨2, fun f => [.int .i64 f.n, .string f.v], fun _ => rfl, fun f u hu => by simp at hu; rcases hu with rfl | rfl <;> rfl⟩
theorem fldK : FldR.k = 2 := rfl
theorem fld_cells {w : World} {ao : Option Addr} {xs : List Fld} (h : RowRd FldR w ao xs) {i : Nat} (hi : i < xs.length) :
    ∃ b off, ao = some ⟨b, off, none⟩ ∧ b < w.heap.size ∧ w.cell? ⟨b, off + i * 2, none⟩ = some (.int .i64 xs[i].n) ∧ w.cell? ⟨b, off + i * 2 + 1, none⟩ = some (.string xs[i].v) := by
  obtain ⟨b, off, e, hb, h3⟩ := h.at' i hi
  exact ⟨b, off, e, hb, h3 0 _ rfl, h3 1 _ rfl⟩
structure SmallM (t : ByteArray) (l : List Fld) : Prop where
  t : t.size ≤ maxLen
  v : ∀ f ∈ l, f.v.size ≤ maxLen
  n : l.length ≤ maxLen
def RightP (t : ByteArray) (l : List Fld) (w : World) (e : Ending) (w' : World) : Prop := e = .returned (.int .i64 (rightM t l)) ∧ Fr noBlock w w'
set_option maxRecDepth 100000 in
set_option maxHeartbeats 1600000 in
theorem right_any (t : ByteArray) {ao : Option Addr} {l : List Fld} {w : World} (h : RowRd FldR w ao l) (cap : Nat) (hs : SmallM t l) : Calls Tryz.prog 41 #[.agg #[.string t, .slice ao l.length cap]] w (RightP t l w) := by
  have HR := Lib.hid h
  have Ht := Lib.hid hs.t
  have Hv := Lib.hid hs.v
  have hn := hs.n
  unfold maxLen at hn
  obtain ⟨res, hres⟩ : ∃ r, rightM t l = r := ⟨_, rfl⟩
  unfold RightP
  rw [hres]
  obtain ⟨e0, he0⟩ : ∃ e, valueE (bl t) 1 4 = e := ⟨_, rfl⟩
  have H0 := Lib.hid (show (e0 = 0 → res = rightF 0 (l.drop 0)) ∧ (e0 ≠ 0 → res = e0) by
    unfold rightM at hres
    rw [he0] at hres
    by_cases hz : e0 = 0
    · rw [if_neg (by simpa using hz)] at hres
      exact ⟨fun _ => hres.symm, fun h => absurd hz h⟩
    · rw [if_pos hz] at hres
      exact ⟨fun h => absurd h hz, fun _ => hres.symm⟩)
  have HV0 := Lib.hid (fun W => value_any t 1 4 W hs.t (by omega))
  rw [he0] at HV0
  clear h hs hres he0
  go_enter Tryz.func41, Tryz.ntmps41
  go_wp2_with fail
  refine (HV0.out _).mono ?_
  rintro e w1 ⟨rfl, rfl⟩
  have hf0 := (Fr.refl noBlock w).alloc (.cells #[.string t, .slice ao l.length cap] 25)
  have HF0 := Lib.hid hf0
  clear hf0
  go_wp2_with fail
  go_loopw [3, 4, 16] (fun s3 s4 s16 wr => ∃ (i : Nat) (last err : Int), i ≤ l.length ∧ s16 = .int .i64 i ∧ s4 = .int .i64 last ∧ s3 = .int .i64 err ∧ Hid (Fr noBlock w wr) ∧ Hid ((err = 0 → res = rightF last (l.drop i)) ∧ (err ≠ 0 → res = err))) (fun _ _ s16 _ => l.length - (intOf s16).toNat)
  case atStart => exact ⟨0, 0, e0, Nat.zero_le _, rfl, rfl, rfl, HF0, H0⟩
  case round =>
    obtain ⟨i, last, err, hi, rfl, rfl, rfl, HF, HI⟩ := hrel
    by_cases hlt : i < l.length
    · have q1 : (i : Int) < (l.length : Int) := by omega
      have q0 : (0 : Int) ≤ (i : Int) := by omega
      have hi' : i + 1 ≤ l.length := hlt
      obtain ⟨b, off, rfl, hb, y0, y1⟩ := fld_cells (HR.out.fr0 HF.out) hlt
      have hdr : l.drop i = l[i] :: l.drop (i + 1) := (List.drop_eq_getElem_cons hlt)
      have hvs := Hv.out l[i] (List.getElem_mem hlt)
      generalize l[i] = f at *
      obtain ⟨fn, fv⟩ := f
      simp only at y0 y1 hvs
      by_cases hz : err = 0
      · subst hz
        have hR := HI.out.1 rfl
        rw [hdr] at hR
        unfold rightF at hR
        simp only at hR
        obtain ⟨kd, hkd⟩ : ∃ x, kindOf fn = x := ⟨_, rfl⟩
        obtain ⟨lg, hlg⟩ : ∃ x, longOf fn = x := ⟨_, rfl⟩
        obtain ⟨ok, hok⟩ : ∃ x, fmtOk fn = x := ⟨_, rfl⟩
        have HFm := Lib.hid (fun W => format_any fn W)
        unfold FmtP at HFm
        rw [hkd, hlg, hok] at hR HFm
        have hlim : ok = true → 0 ≤ lg ∧ lg ≤ 9223372036854775807 := fun h => by
          have := fmt_facts (hok.trans h)
          have h1 := this.l1
          have h9 := this.l9
          rw [hlg] at h1 h9
          omega
        obtain ⟨ev, hev⟩ : ∃ e, valueE (bl fv) kd lg = e := ⟨_, rfl⟩
        rw [hev] at hR
        have HVv := Lib.hid (fun h W => value_any fv kd lg W hvs (hlim h))
        rw [hev] at HVv
        have HRes := Lib.hid hR
        have HF6 := Lib.hid (HF.out.alloc (.cells #[.int .i64 fn, .string fv] 31))
        clear hkd hlg hok hev hlim hR hdr hlt HI hvs
        have hfz : fn ≤ last ∨ last < fn := by omega
        rcases hfz with hle | hgt
        · have HRes2 := Lib.hid (show res = 13 from HRes.out.trans (if_pos (.inl hle)))
          clear HRes
          go_wp2_with fail
          refine (HFm.out _).mono ?_
          rintro e w2 ⟨rfl, rfl⟩
          go_wp2_with fail
          go_ret
          exact ⟨ret_int HRes2.out.symm, HF6.out⟩
        · cases ok with
          | false =>
            have HRes2 := Lib.hid (show res = 13 from HRes.out.trans (if_pos (.inr rfl)))
            clear HRes
            go_wp2_with fail
            refine (HFm.out _).mono ?_
            rintro e w2 ⟨rfl, rfl⟩
            go_wp2_with fail
            go_ret
            exact ⟨ret_int HRes2.out.symm, HF6.out⟩
          | true =>
            have hRes2 : res = if ev ≠ 0 then ev else rightF fn (l.drop (i + 1)) := HRes.out.trans (if_neg (by simp; omega))
            have HN := Lib.hid (show (ev = 0 → res = rightF fn (l.drop (i + 1))) ∧ (ev ≠ 0 → res = ev) from ⟨fun h => hRes2.trans (if_neg (by simpa using h)), fun h => hRes2.trans (if_pos h)⟩)
            have HV2 := Lib.hid (HVv.out rfl)
            clear hRes2 HRes HVv
            go_wp2_with fail
            refine (HFm.out _).mono ?_
            rintro e w2 ⟨rfl, rfl⟩
            go_upto_region 11 with (fail)
            refine wp_at (φ := fun W => Fr noBlock w W ∧ W.cell? ⟨wr.heap.size, 0, none⟩ = some (.int .i64 fn) ∧ W.cell? ⟨wr.heap.size, 1, none⟩ = some (.string fv)) ⟨HF6.out, by simp, by simp⟩ ?_
            rintro w5 ⟨f5, z0, z1⟩
            have HF5 := Lib.hid f5
            have HZ := Lib.hid (And.intro z0 z1)
            clear f5 z0 z1
            go_region_held3 (fun W => W.cell? ⟨wr.heap.size, 0, none⟩ = some (.int .i64 fn) ∧ W.cell? ⟨wr.heap.size, 1, none⟩ = some (.string fv))
              (exact HZ.out)
              ((go_at_call 102; (with_reducible refine (HV2.out _).mono ?_); rintro e w7 ⟨rfl, rfl⟩))
            go_wp2_with fail
            go_roundw
            case rel => exact ⟨i + 1, fn, ev, hi', by go_num, rfl, rfl, Lib.hid HF5.out.drew, HN⟩
            case measure => simp [intOf]; omega
      · have hb0 : (err != 0) = true := by simpa using hz
        have HRes2 := Lib.hid (HI.out.2 hz)
        have HF6 := Lib.hid (HF.out.alloc (.cells #[.int .i64 fn, .string fv] 31))
        clear hz HI hdr
        go_wp2_with fail
        go_ret
        exact ⟨ret_int HRes2.out.symm, HF6.out⟩
    · have q1 : (l.length : Int) ≤ (i : Int) := by omega
      have HRes := Lib.hid (show res = err by
        by_cases hz : err = 0
        · have := HI.out.1 hz
          rw [List.drop_eq_nil_of_le (by omega)] at this
          rw [hz]
          exact this
        · exact HI.out.2 hz)
      clear hlt HI
      go_wp2_with fail
      go_ret
      exact ⟨ret_int HRes.out.symm, HF.out⟩
end Go.Proofs.YtajhgejhdalobaaGreatDoor
namespace Go.Proofs.YtajhgejhdalobaaGreatDoor
open Go.RowKit

theorem infoFld : (Tryz.prog.info? 31).map (fun i => (i.zero, i.size, i.bytes)) = some (some (.agg #[.int .i64 0, .string ⟨#[]⟩]), 2, 24) := by kernel_rfl
theorem el_fld : Elem Tryz.prog 23 31 FldR.k 24 := Elem.mk' Tryz.underlying23 infoFld (by decide) rfl
theorem set_cells {wr : World} {p : Nat} {a b : Value} {T : TypeId} {f : Nat × Nat} (h : wr.heap[p]? = some (.cells #[a, b] T f)) (u v : Value) : (wr.setCell ⟨p, 0, none⟩ u).cell? ⟨p, 0, none⟩ = some u ∧ ((wr.setCell ⟨p, 0, none⟩ u).setCell ⟨p, 1, none⟩ v).cell? ⟨p, 0, none⟩ = some u ∧ ((wr.setCell ⟨p, 0, none⟩ u).setCell ⟨p, 1, none⟩ v).cell? ⟨p, 1, none⟩ = some v := by
  have h1 := heap_set_eq (i := 0) (u := u) h
  have h2 := heap_set_eq (i := 1) (u := v) h1
  refine ⟨?_, ?_, ?_⟩
  · have := cell_of h1 0
    simpa using this
  · have := cell_of h2 0
    simpa using this
  · have := cell_of h2 1
    simpa using this
end Go.Proofs.YtajhgejhdalobaaGreatDoor
namespace Go.Proofs.YtajhgejhdalobaaGreatDoor
open Go.RowKit

abbrev Fld.val (f : Fld) : Value := .agg #[.int .i64 f.n, .string f.v]
theorem put1_any (f : Fld) (n : Int) (B : Nat) (w : World) (hc : w.cell? ⟨B, 0, none⟩ = some (.int .i64 n)) (hB : B < w.heap.size) :
    Calls Tryz.prog 182 #[f.val, .pointer (some ⟨B, 0, none⟩)] w fun e w' => e = .returned (.bool (decide (n < f.n))) ∧ Fr noBlock w w' := by
  have hf0 := (Fr.refl noBlock w).alloc (.cells #[.int .i64 f.n, .string f.v] 31)
  have hne : B ≠ w.heap.size := by omega
  go_enter Tryz.func182, Tryz.ntmps182
  go_wp2
  go_ret
  exact ⟨rfl, hf0⟩
structure Del2 (W : World) (A N K : Nat) (a n k : Int) : Prop where
  a : W.heap[A]? = some (.cells #[.int .i64 a] 3 (0, 0))
  n : W.heap[N]? = some (.cells #[.int .i64 n] 3 (0, 0))
  k : W.heap[K]? = some (.cells #[.int .i64 k] 3 (0, 0))
theorem Del2.fr {S : Nat → Prop} {W W' : World} {A N K : Nat} {a n k : Int} (h : Del2 W A N K a n k) (f : Fr S W W') (h1 : ¬ S A) (h2 : ¬ S N) (h3 : ¬ S K) : Del2 W' A N K a n k := ⟨f.obj h.a h1, f.obj h.n h2, f.obj h.k h3⟩
def Put2P (A N K : Nat) (fn a n k : Int) (W : World) (e : Ending) (w' : World) : Prop := e = .returned (.bool (decide (fn = n) && !decide (a = k))) ∧ Del2 w' A N K (a + 1) n k ∧ Fr (fun b => b = A) W w'
set_option maxHeartbeats 800000 in
theorem put2_any (f : Fld) {A N K : Nat} {a n k : Int} {W : World} (h : Del2 W A N K a n k) (hAN : A ≠ N) (hAK : A ≠ K) (ha : 0 ≤ a ∧ a ≤ 140737488355328) (hk : 0 ≤ k ∧ k ≤ 140737488355328) :
    Calls Tryz.prog 185 #[f.val, .pointer (some ⟨A, 0, none⟩), .pointer (some ⟨N, 0, none⟩), .pointer (some ⟨K, 0, none⟩)] W (Put2P A N K f.n a n k W) := by
  obtain ⟨fn, fv⟩ := f
  have hb := heap_set_eq (i := 0) (u := .int .i64 (a + 1)) h.a
  have HD := Lib.hid (show Del2 ((W.setCell ⟨A, 0, none⟩ (.int .i64 (a + 1))).alloc (.cells #[.int .i64 fn, .string fv] 31)) A N K (a + 1) n k from
    ⟨heap_old _ (by simpa using hb), heap_old _ (heap_set_ne h.n (Ne.symm hAN)), heap_old _ (heap_set_ne h.k (Ne.symm hAK))⟩)
  have HF := Lib.hid (((Fr.refl (fun b => b = A) W).setCell (p := ⟨A, 0, none⟩) (.inl rfl) (.int .i64 (a + 1))).alloc (.cells #[.int .i64 fn, .string fv] 31))
  have c1 := cell_of h.a 0
  have c2 := cell_of h.n 0
  have c3 := cell_of h.k 0
  have z1 := free_of h.a 0
  simp at c1 c2 c3
  have l1 := heap_lt h.a
  have l2 := heap_lt h.n
  have l3 := heap_lt h.k
  have d1 : A ≠ W.heap.size := by omega
  have d2 : N ≠ W.heap.size := by omega
  have d3 : K ≠ W.heap.size := by omega
  have hNA : N ≠ A := Ne.symm hAN
  have hKA : K ≠ A := Ne.symm hAK
  obtain ⟨a0, a1⟩ := ha
  obtain ⟨k0, k1⟩ := hk
  have hw1 : IntKind.i64.wrap (a + 1) = a + 1 := IntWalk.i64_in _ (by omega)
  have hw2 : IntKind.i64.wrap (k + 1) = k + 1 := IntWalk.i64_in _ (by omega)
  unfold Fld.val
  dsimp only
  clear hb h
  by_cases hn : fn = n
  · have hnb : (fn == n) = true := by simpa using hn
    have HE := Lib.hid (show Put2P A N K fn a n k W (.returned (.bool (a + 1 != k + 1))) ((W.setCell ⟨A, 0, none⟩ (.int .i64 (a + 1))).alloc (.cells #[.int .i64 fn, .string fv] 31)) from
      ⟨by congr 2; rw [decide_eq_true hn, Bool.true_and, Bool.eq_iff_iff]; simp, HD.out, HF.out⟩)
    clear hn
    go_enter Tryz.func185, Tryz.ntmps185
    go_wp2_with fail
    go_ret
    exact HE.out
  · have hnb : (fn == n) = false := by simpa using hn
    have HE := Lib.hid (show Put2P A N K fn a n k W (.returned (.bool false)) ((W.setCell ⟨A, 0, none⟩ (.int .i64 (a + 1))).alloc (.cells #[.int .i64 fn, .string fv] 31)) from
      ⟨by congr 2; rw [decide_eq_false hn]; rfl, HD.out, HF.out⟩)
    clear hn
    go_enter Tryz.func185, Tryz.ntmps185
    go_wp2_with fail
    go_ret
    exact HE.out
def IdxP (n : Nat) (p : Nat → Bool) (I : Nat → World → Prop) (e : Ending) (w' : World) : Prop :=
  (∃ i, i < n ∧ p i = true ∧ (∀ j, j < i → p j = false) ∧ e = .returned (.int .i64 (i : Int)) ∧ I (i + 1) w') ∨ ((∀ j, j < n → p j = false) ∧ e = .returned (.int .i64 (-1)) ∧ I n w')
set_option maxRecDepth 100000 in
set_option maxHeartbeats 800000 in
theorem indexF_any {ao : Option Addr} (cap : Nat) (xs : List Fld) (g : Nat) (lb : Array Value) (eg : ∀ args w, (callFunc g args).run Tryz.prog w = .ok (.enter g args) w) (p : Nat → Bool) (I : Nat → World → Prop) (hrow : ∀ i W, I i W → RowRd FldR W ao xs)
    (hp : ∀ (i : Nat) (hi : i < xs.length) (W : World), I i W → Calls Tryz.prog g (#[xs[i].val] ++ lb) W fun e w' => e = .returned (.bool (p i)) ∧ I (i + 1) w') (hl : xs.length ≤ maxLen) (w : World) (h0 : I 0 w) :
    Calls Tryz.prog 181 #[.slice ao xs.length cap, .func (.func g) #[] lb] w (IdxP xs.length p I) := by
  unfold maxLen at hl
  have Hp := Lib.hid hp
  have Hrow := Lib.hid hrow
  have H0 := Lib.hid h0
  clear hp hrow h0
  go_enter Tryz.func181, Tryz.ntmps181
  go_wp2_with fail
  go_loopw [5, 8] (fun s5 s8 wr => ∃ k : Nat, k ≤ xs.length ∧ s8 = .int .i64 k ∧ Hid (I k wr) ∧ Hid (∀ j, j < k → p j = false)) (fun _ s8 _ => xs.length - (intOf s8).toNat)
  case atStart => exact ⟨0, Nat.zero_le _, rfl, H0, Lib.hid (fun j hj => absurd hj (Nat.not_lt_zero _))⟩
  case round =>
    obtain ⟨k, hk, rfl, hI, hn⟩ := hrel
    by_cases hlt : k < xs.length
    · obtain ⟨b, off, rfl, hb, c0, c1⟩ := fld_cells (Hrow.out _ _ hI.out) hlt
      have h1 : (k : Int) < (xs.length : Int) := by omega
      have h0' : (0 : Int) ≤ (k : Int) := by omega
      have hk1 : k + 1 ≤ xs.length := hlt
      have hcall := Hp.out k hlt wr hI.out
      have Hlt := Lib.hid hlt
      cases hpk : p k with
      | true =>
        rw [hpk] at hcall
        have Hc := Lib.hid hcall
        have Hpk := Lib.hid hpk
        clear hcall hpk
        generalize xs[k] = x at *
        clear hlt
        go_wp2_with fail
        refine Hc.out.mono ?_
        rintro e w' ⟨rfl, hI'⟩
        have HI' := Lib.hid hI'
        clear hI'
        go_wp2_with fail
        go_ret
        exact .inl ⟨k, Hlt.out, Hpk.out, hn.out, rfl, HI'.out⟩
      | false =>
        rw [hpk] at hcall
        have Hc := Lib.hid hcall
        have Hn := Lib.hid (show ∀ j, j < k + 1 → p j = false from fun j hj => by
          by_cases e : j = k
          · rw [e]; exact hpk
          · exact hn.out j (by omega))
        clear hcall hpk
        generalize xs[k] = x at *
        clear hlt
        go_wp2_with fail
        refine Hc.out.mono ?_
        rintro e w' ⟨rfl, hI'⟩
        have HI' := Lib.hid hI'
        clear hI'
        go_wp2_with fail
        go_roundw
        case rel => exact ⟨k + 1, hk1, by go_num, HI', Hn⟩
        case measure => simp [intOf]; omega
    · have h1 : (xs.length : Int) ≤ (k : Int) := by omega
      have e : k = xs.length := by omega
      subst e
      clear hlt
      go_wp2_with fail
      go_ret
      exact .inr ⟨hn.out, rfl, hI.out⟩
def FCloneP (l : List Fld) (w : World) (e : Ending) (w' : World) : Prop := ∃ s : SV, e = .returned s.val ∧ s.n = l.length ∧ RowAt 31 FldR w' s.val l ∧ Fr noBlock w w' ∧ ∀ k, s.val.ownBlock = some k → w.heap.size ≤ k
set_option maxHeartbeats 800000 in
theorem fclone_any {w : World} {ao : Option Addr} {l : List Fld} (h : RowRd FldR w ao l) (cap : Nat) (hb : l.length * 24 ≤ 140737488355328) (hno : ao = none → cap = 0) : Calls Tryz.prog 180 #[.slice ao l.length cap] w (FCloneP l w) := by
  have q := fun (w : World) (a : Option Addr) (n c : Nat) => Lib.run_eql_slice_nil (P := Tryz.prog) w 23 31 a n c 0 0 Tryz.underlying23
  have H := Lib.hid h
  cases ao with
  | none =>
    have hl : l = [] := by
      cases l with
      | nil => rfl
      | cons f r =>
        obtain ⟨b, off, e, _⟩ := fld_cells h (i := 0) (by simp)
        cases e
    subst hl
    have hc := hno rfl
    subst hc
    clear h hno
    go_enter Tryz.func180, Tryz.ntmps180
    go_wp2_with fail
    go_ret
    exact ⟨⟨none, 0, 0⟩, rfl, rfl, RowAt.nil, Fr.refl _ _, fun k hk => by cases hk⟩
  | some a =>
    clear h hno
    go_enter Tryz.func180, Tryz.ntmps180
    go_wp2_with (at_builtin; apply stop_here)
    refine ⟨?_, trivial⟩
    refine wpList_app rfl _ _ rfl el_fld (v := .slice (some ⟨w.heap.size, 0, none⟩) 0 0) [] l l rfl w.heap.size 0 l.length rfl rfl (World.ownsRow_made w #[] 0 (Nat.le_refl _) (Nat.zero_le _) rfl) rfl (H.out.fr0 ((Fr.refl _ _).alloc _)) rfl (by unfold maxLen; omega) (by omega) (by simp) ?_
    intro ao2 cap2 w2 o2 g2 _
    go_frame
    have O2 := Lib.hid o2
    have hf := (((Fr.refl noBlock w).alloc (.cells #[] 31)).grown g2 (fun k hk => by simp [Value.ownBlock] at hk; subst hk; exact .inr (Nat.le_refl _)))
    have Hf := Lib.hid hf
    clear o2 g2 hf
    go_wp2_with fail
    go_ret
    exact ⟨⟨ao2, l.length, cap2⟩, rfl, rfl, RowAt.of_own O2.out rfl, Hf.out, fun k hk => (O2.out.lt k hk).1⟩
end Go.Proofs.YtajhgejhdalobaaGreatDoor
namespace Go.Proofs.YtajhgejhdalobaaGreatDoor
open Go.RowKit

section
variable {α : Type} {R : Rec α} {P : Program} {t E : TypeId} {bytes : Nat}
theorem run_copyR (el : Elem P t E R.k bytes) {w : World} {g : Nat} {cur : Array Value} (hg : w.heap[g]? = some (.cells cur E (0, 0))) {sp dp : Option Addr} {ys : List α} (hs : RowRd R w sp ys) (o dLen dCap sLen sCap : Nat) (hm : ys.length = min sLen dLen) (hdp : 0 < ys.length → dp = some ⟨g, o * R.k, none⟩) (hfit : (o + ys.length) * R.k ≤ cur.size) (ty : TypeId) :
    ∃ w' cur', (Builtin.copy_ #[t, t] ty #[.slice dp dLen dCap, .slice sp sLen sCap]).run P w = .ok (goInt ys.length) w' ∧ w'.heap[g]? = some (.cells cur' E (0, 0)) ∧ cur'.size = cur.size ∧ cur'.toList = cur.toList.take (o * R.k) ++ R.flat ys ++ cur.toList.drop ((o + ys.length) * R.k) ∧ Fr (fun k => k = g) w w' := by
  obtain ⟨i, z, hi, hz, hsz, hby, hzs⟩ := el.info
  by_cases h0 : ys.length = 0
  · have e := List.eq_nil_of_length_eq_zero h0
    subst e
    refine ⟨w, cur, ?_, hg, rfl, by simp [Rec.flat], Fr.refl _ _⟩
    have hm0 : min sLen dLen = 0 := hm.symm
    cases dp <;> cases sp <;> simp [Builtin.copy_, run_underlying el.ht, Builtin.lenOf, Builtin.firstCells, sizeOf, typeInfo, hi, hm0, loadCells, loadCellsFrom, storeCells]
  · obtain rfl := hdp (by omega)
    have hl := R.flat_len ys
    cases sp with
    | none =>
      exfalso
      obtain ⟨b, off, e, _⟩ := hs.at' 0 (by omega)
      cases e
    | some a =>
      have hload := run_loadCells_list (P := P) (w := w) a (R.flat ys) hs.cells
      rw [hl] at hload
      rw [Nat.add_mul] at hfit
      have hst := run_storeCells_at (P := P) g (o * R.k) E (R.flat ys) 0 cur w hg (by rw [hl]; omega) (R.flat_oneCell ys)
      refine ⟨w.setRow g (cur.toList.take (o * R.k + 0) ++ R.flat ys ++ cur.toList.drop (o * R.k + 0 + (R.flat ys).length)).toArray, _, ?_, setRow_heap w g cur _ E _ hg, ?_, ?_, ?_⟩
      · simp [Builtin.copy_, run_underlying el.ht, Builtin.lenOf, Builtin.firstCells, sizeOf, typeInfo, hi, hsz, ← hm, hload, hst]
      · simp only [Nat.add_zero, List.size_toArray, List.length_append, List.length_take, List.length_drop, hl, Array.length_toList]
        omega
      · simp only [Nat.add_zero, hl, Nat.add_mul]
      · refine ⟨rfl, rfl, rfl, by simp [World.setRow], fun k hk hn => ?_⟩
        simp only [World.setRow, Array.getElem?_modify]
        rw [if_neg (fun e => hn e.symm)]
theorem wp_copyR {o : Oper} {a : Act} {w : World} {K : Act → World → Prop} {Q : Exit → Act → World → Prop} (d s : Operand) (ho : o.op = .call { callee := .builtin .copy, args := #[d, s], argTypes := #[t, t] })
    (el : Elem P t E R.k bytes) {g : Nat} {cur : Array Value} (hg : w.heap[g]? = some (.cells cur E (0, 0))) {ys : List α} (q : Nat) {dLen dCap sLen sCap : Nat} {dp sp : Option Addr} (ed : a.eval d = .slice dp dLen dCap) (es : a.eval s = .slice sp sLen sCap) (hs : RowRd R w sp ys) (hm : ys.length = min sLen dLen) (hdp : 0 < ys.length → dp = some ⟨g, q * R.k, none⟩) (hfit : (q + ys.length) * R.k ≤ cur.size)
    (h : ∀ w' cur', w'.heap[g]? = some (.cells cur' E (0, 0)) → cur'.size = cur.size → cur'.toList = cur.toList.take (q * R.k) ++ R.flat ys ++ cur.toList.drop ((q + ys.length) * R.k) → Fr (fun k => k = g) w w' → K (a.put o.dst (.int .i64 (ys.length : Int))) w') : o.wp P a w K Q := by
  obtain ⟨w', cur', hrun, h2, h3, h4, h5⟩ := run_copyR el hg hs q dLen dCap sLen sCap hm hdp hfit o.type
  unfold Oper.wp execOp
  simp only [ho, resolve, invoke, builtin, Sem.run_bind, Sem.run_pure, Result.andThen_ok, List.map_toArray, List.map_cons, List.map_nil, ed, es, hrun]
  exact h w' cur' h2 h3 h4 h5
theorem wpList_copyR {ops : Array Oper} {rest : List Oper} {o : Oper} {a : Act} {w : World} {Q : Exit → Act → World → Prop} (hgd : o.guard = none) (d s : Operand) (ho : o.op = .call { callee := .builtin .copy, args := #[d, s], argTypes := #[t, t] })
    (el : Elem P t E R.k bytes) {g : Nat} {cur : Array Value} (hg : w.heap[g]? = some (.cells cur E (0, 0))) {ys : List α} (q : Nat) {dLen dCap sLen sCap : Nat} {dp sp : Option Addr} (ed : a.eval d = .slice dp dLen dCap) (es : a.eval s = .slice sp sLen sCap) (hs : RowRd R w sp ys) (hm : ys.length = min sLen dLen) (hdp : 0 < ys.length → dp = some ⟨g, q * R.k, none⟩) (hfit : (q + ys.length) * R.k ≤ cur.size)
    (h : ∀ w' cur', w'.heap[g]? = some (.cells cur' E (0, 0)) → cur'.size = cur.size → cur'.toList = cur.toList.take (q * R.k) ++ R.flat ys ++ cur.toList.drop ((q + ys.length) * R.k) → Fr (fun k => k = g) w w' → wpList P ops Q rest (a.put o.dst (.int .i64 (ys.length : Int))) w') : wpList P ops Q (o :: rest) a w :=
  wpList_plain hgd fun _ hK => wp_copyR d s ho el hg q ed es hs hm hdp hfit fun w' cur' h2 h3 h4 h5 => hK _ _ (h w' cur' h2 h3 h4 h5)
theorem step_copyR {ops : Array Oper} {o : Oper} {a : Act} {w : World} {K : Act → World → Prop} {Q : Exit → Act → World → Prop} {G : Prop} (hgd : o.guard = none) (d s : Operand) (ho : o.op = .call { callee := .builtin .copy, args := #[d, s], argTypes := #[t, t] })
    (el : Elem P t E R.k bytes) {g : Nat} {cur : Array Value} (hg : w.heap[g]? = some (.cells cur E (0, 0))) {ys : List α} (q : Nat) {dLen dCap sLen sCap : Nat} {dp sp : Option Addr} (ed : a.eval d = .slice dp dLen dCap) (es : a.eval s = .slice sp sLen sCap) (hs : RowRd R w sp ys) (hm : ys.length = min sLen dLen) (hdp : 0 < ys.length → dp = some ⟨g, q * R.k, none⟩) (hfit : (q + ys.length) * R.k ≤ cur.size)
    (h : ∀ w' cur', w'.heap[g]? = some (.cells cur' E (0, 0)) → cur'.size = cur.size → cur'.toList = cur.toList.take (q * R.k) ++ R.flat ys ++ cur.toList.drop ((q + ys.length) * R.k) → Fr (fun k => k = g) w w' → K (a.put o.dst (.int .i64 (ys.length : Int))) w') :
    if Region.wanted o (yielded ops a.tmps) = true then Oper.wp P o a w K Q else G := by
  have hw : Region.wanted o (yielded ops a.tmps) = true := by simp [Region.wanted, hgd]
  rw [if_pos hw]
  exact wp_copyR d s ho el hg q ed es hs hm hdp hfit h
end
end Go.Proofs.YtajhgejhdalobaaGreatDoor
namespace Go.Proofs.YtajhgejhdalobaaGreatDoor
open Go.RowKit Go.Lib

def insF (xs : List Fld) (k : Nat) (f : Fld) : List Fld := xs.take k ++ [f] ++ xs.drop k
theorem insF_len (xs : List Fld) {k : Nat} (hk : k ≤ xs.length) (f : Fld) : (insF xs k f).length = xs.length + 1 := by unfold insF; simp; omega
def GrewP (E : TypeId) (v : Value) (ys : List Fld) (w : World) (e : Ending) (w' : World) : Prop := ∃ s : SV, e = .returned s.val ∧ s.n = ys.length ∧ RowAt E FldR w' s.val ys ∧ Fr (fun k => v.ownBlock = some k) w w' ∧ ∀ k, s.val.ownBlock = some k → v.ownBlock = some k ∨ w.heap.size ≤ k
theorem row_blk {w : World} {g n cap : Nat} {xs : List Fld} (h : RowAt 31 FldR w (.slice (some ⟨g, 0, none⟩) n cap) xs) : ∃ cur, w.heap[g]? = some (.cells cur 31 (0, 0)) ∧ n = xs.length ∧ n ≤ cap ∧ cap ≤ maxLen ∧ cur.size = cap * 2 ∧ cur.toList.take (n * 2) = FldR.flat xs := by
  obtain ⟨cur, hg, h1, h2, h3, h4, h5⟩ := h.block
  exact ⟨cur, hg, h1, h2, h3, h4, h5⟩
set_option maxRecDepth 100000 in
set_option maxHeartbeats 3200000 in
theorem insert_end {w : World} {so : Option Addr} {n cap vb : Nat} {xs : List Fld} {f : Fld} (h : RowAt 31 FldR w (.slice so n cap) xs) (hv : w.heap[vb]? = some (.cells #[.int .i64 f.n, .string f.v] 31 (0, 0))) (hl : xs.length * 24 + 24 ≤ 140737488355328) :
    Calls Tryz.prog 183 #[.slice so n cap, .int .i64 (n : Int), .slice (some ⟨vb, 0, none⟩) 1 1] w (GrewP 31 (.slice so n cap) (xs ++ [f]) w) := by
  have hn := h.len
  subst hn
  obtain ⟨ao, cap', e, h1, h2, _, _⟩ := h.shape
  simp only [Value.slice.injEq] at e
  obtain ⟨rfl, -, rfl⟩ := e
  have H := Lib.hid h
  have HV := Lib.hid (RowRd.one (R := FldR) hv f rfl)
  have hlI : (xs.length : Int) ≤ (cap : Int) := by omega
  unfold maxLen at h2
  have hc63 : (cap : Int) ≤ 9223372036854775807 := by omega
  clear h hv
  by_cases hcn : cap = xs.length
  · subst hcn
    go_enter Tryz.func183, Tryz.ntmps183
    go_wp2_with (at_builtin; apply stop_here)
    refine ⟨?_, trivial⟩
    refine wpList_app rfl _ _ rfl el_fld (v := .slice so xs.length xs.length) xs [f] (xs ++ [f]) rfl 0 xs.length (xs.length + 1) (by simp) rfl H.out rfl HV.out rfl (by unfold maxLen; omega) (by omega) (Nat.zero_le _) ?_
    intro ao2 cap2 w2 o2 g2 a2
    go_frame
    have HG := Lib.hid (show RowAt 31 FldR w2 (.slice ao2 (xs.length + 1) cap2) (xs ++ [f]) ∧ Fr (fun k => (Value.slice so xs.length xs.length).ownBlock = some k) w w2 ∧ ∀ k, (Value.slice ao2 (xs.length + 1) cap2).ownBlock = some k → (Value.slice so xs.length xs.length).ownBlock = some k ∨ w.heap.size ≤ k from
      ⟨RowAt.of_own o2 (by simp), (Fr.refl _ w).grown g2 (fun k hk => .inl hk), fun k hk => by
        rcases a2 with e | e
        · exact .inl (e ▸ hk)
        · rw [e] at hk; cases hk; exact .inr (Nat.le_refl _)⟩)
    clear o2 g2 a2
    go_wp2_with fail
    go_ret
    exact ⟨⟨ao2, xs.length + 1, cap2⟩, rfl, by simp, HG.out.1, HG.out.2.1, HG.out.2.2⟩
  · go_enter Tryz.func183, Tryz.ntmps183
    go_wp2_with (at_builtin; apply stop_here)
    refine ⟨?_, trivial⟩
    refine wpList_app rfl _ _ rfl el_fld (v := .slice so xs.length cap) xs [f] (xs ++ [f]) rfl 0 xs.length (xs.length + 1) (by simp) rfl H.out rfl HV.out rfl (by unfold maxLen; omega) (by omega) (Nat.zero_le _) ?_
    intro ao2 cap2 w2 o2 g2 a2
    go_frame
    have HG := Lib.hid (show RowAt 31 FldR w2 (.slice ao2 (xs.length + 1) cap2) (xs ++ [f]) ∧ Fr (fun k => (Value.slice so xs.length cap).ownBlock = some k) w w2 ∧ ∀ k, (Value.slice ao2 (xs.length + 1) cap2).ownBlock = some k → (Value.slice so xs.length cap).ownBlock = some k ∨ w.heap.size ≤ k from
      ⟨RowAt.of_own o2 (by simp), (Fr.refl _ w).grown g2 (fun k hk => .inl hk), fun k hk => by
        rcases a2 with e | e
        · exact .inl (e ▸ hk)
        · rw [e] at hk; cases hk; exact .inr (Nat.le_refl _)⟩)
    clear o2 g2 a2
    go_wp2_with fail
    go_ret
    exact ⟨⟨ao2, xs.length + 1, cap2⟩, rfl, by simp, HG.out.1, HG.out.2.1, HG.out.2.2⟩
theorem fld_len (xs : List Fld) : (FldR.flat xs).length = xs.length * 2 := FldR.flat_len xs
theorem ins_mid {L : List Value} {xs : List Fld} {k cap : Nat} {f : Fld} (hL : L.length = cap * 2) (ht : L.take (xs.length * 2) = FldR.flat xs) (hk : k ≤ xs.length) (hc : xs.length + 1 ≤ cap) :
    ((L.take ((k + 1) * 2) ++ FldR.flat (xs.drop k) ++ L.drop ((k + 1 + (xs.drop k).length) * 2)).take (k * 2) ++ FldR.flat [f] ++ (L.take ((k + 1) * 2) ++ FldR.flat (xs.drop k) ++ L.drop ((k + 1 + (xs.drop k).length) * 2)).drop ((k + [f].length) * 2)).take ((xs.length + 1) * 2) = FldR.flat (insF xs k f) := by
  have h1 : (L.take ((k + 1) * 2)).length = (k + 1) * 2 := by rw [List.length_take]; omega
  have e1 : (L.take ((k + 1) * 2) ++ FldR.flat (xs.drop k) ++ L.drop ((k + 1 + (xs.drop k).length) * 2)).take (k * 2) = FldR.flat (xs.take k) := by
    rw [List.append_assoc, List.take_append_of_le_length (by omega), List.take_take, Nat.min_eq_left (by omega)]
    have := congrArg (List.take (k * 2)) ht
    rw [List.take_take, Nat.min_eq_left (by omega)] at this
    rw [this]
    exact FldR.flat_take xs k
  have e2 : (L.take ((k + 1) * 2) ++ FldR.flat (xs.drop k) ++ L.drop ((k + 1 + (xs.drop k).length) * 2)).drop ((k + [f].length) * 2) = FldR.flat (xs.drop k) ++ L.drop ((k + 1 + (xs.drop k).length) * 2) := by
    rw [List.append_assoc, List.drop_left' (by rw [h1]; rfl)]
  rw [e1, e2, ← List.append_assoc]
  unfold insF
  rw [FldR.flat_append, FldR.flat_append]
  rw [List.take_left']
  simp only [List.length_append, fld_len, List.length_take, List.length_drop, List.length_cons, List.length_nil]
  omega
set_option maxRecDepth 100000 in
set_option maxHeartbeats 3200000 in
theorem insert_room {w : World} {g cap vb k : Nat} {xs : List Fld} {f : Fld} (h : RowAt 31 FldR w (.slice (some ⟨g, 0, none⟩) xs.length cap) xs) (hv : w.heap[vb]? = some (.cells #[.int .i64 f.n, .string f.v] 31 (0, 0))) (hvg : vb ≠ g) (hk : k < xs.length) (hc : xs.length + 1 ≤ cap) :
    Calls Tryz.prog 183 #[.slice (some ⟨g, 0, none⟩) xs.length cap, .int .i64 (k : Int), .slice (some ⟨vb, 0, none⟩) 1 1] w (GrewP 31 (.slice (some ⟨g, 0, none⟩) xs.length cap) (insF xs k f) w) := by
  obtain ⟨cur, hg, -, _, hcm, hcs, htk⟩ := row_blk h
  unfold maxLen at hcm
  have HV := Lib.hid (RowRd.one (R := FldR) hv f rfl)
  have HS := Lib.hid (RowRd.piece (RowAt.rd h) k (xs.length - k))
  have hsa : w.shape? vb = some (31, 2) := by simp [World.shape?, hv]
  have hsb : w.shape? g = some (31, cap * 2) := by simp [World.shape?, hg, hcs]
  have hz : ∀ w, (Go.sizeOf 31).run Tryz.prog w = .ok 2 w := fun w => by kernel_rfl
  have hov : ∀ lb cb, (callFunc 244 #[.slice (some ⟨vb, 0, none⟩) 1 1, .slice (some ⟨g, (k + 1) * 2, none⟩) lb cb]).run Tryz.prog w = .ok (.value (.bool false)) w := fun lb cb => by
    rw [run_callFunc_extern Tryz.func244 (by kernel_rfl) (by kernel_rfl) (by kernel_rfl) (e := Extern.SlicesOverlaps.overlaps #[23, 23] #[4]) (by kernel_rfl),
      Lib.run_overlaps_apart w 23 4 31 Tryz.underlying23 2 hz ⟨vb, 0, none⟩ ⟨g, (k + 1) * 2, none⟩ 1 1 lb cb hvg 31 31 2 (cap * 2) hsa hsb (by omega) (free_of hv 0) (free_of hv 2)]
    rfl
  have Hg := Lib.hid hg
  have Hcur := Lib.hid (And.intro hcs htk)
  have hkI : (k : Int) < (xs.length : Int) := by omega
  have hcI : (xs.length : Int) + 1 ≤ (cap : Int) := by omega
  have hc63 : (cap : Int) ≤ 9223372036854775807 := by omega
  have hw1 : IntKind.i64.wrap ((k : Int) + 1) = (k : Int) + 1 := IntWalk.i64_in _ (by omega)
  have hb1 : (0 : Int) ≤ (k : Int) + 1 := by omega
  have htn : ((k : Int) + 1).toNat = k + 1 := by omega
  have hne : ((k : Int) == (xs.length : Int)) = false := by simp; omega
  have hcn1 : ¬ cap = k + 1 := by omega
  have hcn0 : ¬ cap = k := by omega
  have H := Lib.hid h
  have HFr := Lib.hid hv
  clear hg hcs htk hsa hsb hz h hv
  go_enter Tryz.func183, Tryz.ntmps183
  go_wp2_with (simp only [hov])
  have hdl : (xs.drop k).length = xs.length - k := List.length_drop
  have HS2 := Lib.hid (show RowRd FldR w.drew (some ⟨g, k * 2, none⟩) (xs.drop k) by
    have := HS.out.fr0 ((Fr.refl noBlock w).drew)
    rw [List.take_of_length_le (by rw [List.length_drop]; omega), fldK, Nat.zero_add] at this
    exact this)
  have Hg2 := Lib.hid (show w.drew.heap[g]? = some (.cells cur 31 (0, 0)) from Hg.out)
  have Hdl := Lib.hid hdl
  have hkle : k ≤ xs.length := by omega
  have hkle2 : (k : Int) ≤ (xs.length : Int) + 1 := by omega
  have hkle3 : k ≤ xs.length + 1 := by omega
  clear hdl hov
  go_region_law (refine step_copyR (by rfl) (.tmp 73) (.tmp 76) (by rfl) el_fld Hg2.out (k + 1) (dLen := xs.length - k) (dCap := cap - (k + 1)) (sLen := xs.length + 1 - k) (sCap := cap - k) (dp := some ⟨g, (k + 1) * 2, none⟩) (sp := some ⟨g, k * 2, none⟩) (by simp [Act.eval, Act.put]) (by simp [Act.eval, Act.put]) HS2.out (by rw [Hdl.out]; omega) (fun _ => rfl) (by rw [Hdl.out, fldK, Hcur.out.1]; omega) ?_; intro w1 cur1 g1 s1 l1 f1)
  have hf1 : Fr (fun k => k = g) w w1 := ((Fr.refl (fun k => k = g) w).drew).trans' f1
  have HV1 := Lib.hid (HV.out.fr hf1 (fun _ a ea => by cases ea; exact hvg))
  have HG1 := Lib.hid g1
  have HL1 := Lib.hid (And.intro s1 (And.intro l1 hf1))
  clear g1 s1 l1 f1 hf1
  go_wp2_with (with_reducible refine wpList_copyR rfl _ _ rfl el_fld HG1.out (ys := [f]) k (dLen := xs.length + 1 - k) (dCap := cap - k) (sLen := 1) (sCap := 1) (dp := some ⟨g, k * 2, none⟩) (sp := some ⟨vb, 0, none⟩) rfl rfl HV1.out (by simp; omega) (fun _ => rfl) (by rw [HL1.out.1, Hcur.out.1, fldK]; simp; omega) ?_)
  intro w2 cur2 g2 s2 l2 f2
  have hrow : RowAt 31 FldR w2 (.slice (some ⟨g, 0, none⟩) (insF xs k f).length cap) (insF xs k f) := by
    refine RowAt.of_block g2 (by rw [insF_len xs (by omega)]; omega) (by unfold maxLen; omega) (by rw [s2, HL1.out.1, Hcur.out.1]; rfl) ?_
    rw [l2, HL1.out.2.1, fldK, insF_len xs (by omega)]
    have hm := ins_mid (f := f) (L := cur.toList) (cap := cap) (by rw [Array.length_toList]; exact Hcur.out.1) Hcur.out.2 hkle hc
    first | exact hm | (rw [← List.append_assoc]; exact hm)
  rw [insF_len xs (by omega)] at hrow
  have HRow := Lib.hid hrow
  have HF := Lib.hid (show Fr (fun q => (Value.slice (some ⟨g, 0, none⟩) xs.length cap).ownBlock = some q) w w2 from (HL1.out.2.2.trans' f2).mono (fun q hq => by subst hq; rfl))
  clear g2 s2 l2 f2 hrow
  go_wp2_with fail
  go_ret
  exact ⟨⟨some ⟨g, 0, none⟩, xs.length + 1, cap⟩, rfl, (insF_len xs hkle f).symm, HRow.out, HF.out, fun q hq => .inl hq⟩
theorem ins_new {L : List Value} {xs : List Fld} {k G : Nat} {f : Fld} (hL : L.length = G * 2) (ht : L.take (k * 2) = FldR.flat (xs.take k)) (hk : k ≤ xs.length) (hc : xs.length + 1 ≤ G) :
    ((L.take (k * 2) ++ FldR.flat [f] ++ L.drop ((k + [f].length) * 2)).take ((k + 1) * 2) ++ FldR.flat (xs.drop k) ++ (L.take (k * 2) ++ FldR.flat [f] ++ L.drop ((k + [f].length) * 2)).drop ((k + 1 + (xs.drop k).length) * 2)).take ((xs.length + 1) * 2) = FldR.flat (insF xs k f) := by
  have h1 : (L.take (k * 2)).length = k * 2 := by rw [List.length_take]; omega
  have hf : (FldR.flat [f]).length = 2 := rfl
  have e1 : (L.take (k * 2) ++ FldR.flat [f] ++ L.drop ((k + [f].length) * 2)).take ((k + 1) * 2) = FldR.flat (xs.take k) ++ FldR.flat [f] := by
    rw [List.take_left' (by rw [List.length_append, h1, hf]; omega), ht]
  rw [e1]
  unfold insF
  rw [FldR.flat_append, FldR.flat_append]
  rw [List.take_left']
  simp only [List.length_append, fld_len, List.length_take, List.length_drop, List.length_cons, List.length_nil]
  omega
set_option maxRecDepth 100000 in
set_option maxHeartbeats 3200000 in
theorem insert_grow {w : World} {g vb k : Nat} {xs : List Fld} {f : Fld} (h : RowAt 31 FldR w (.slice (some ⟨g, 0, none⟩) xs.length xs.length) xs) (hv : w.heap[vb]? = some (.cells #[.int .i64 f.n, .string f.v] 31 (0, 0))) (hk : k < xs.length) (hl : xs.length * 24 + 24 ≤ 140737488355328) :
    Calls Tryz.prog 183 #[.slice (some ⟨g, 0, none⟩) xs.length xs.length, .int .i64 (k : Int), .slice (some ⟨vb, 0, none⟩) 1 1] w (GrewP 31 (.slice (some ⟨g, 0, none⟩) xs.length xs.length) (insF xs k f) w) := by
  obtain ⟨i0, hi0, hz0, hz1, hz2⟩ := info_parts infoFld
  obtain ⟨G, hG⟩ : ∃ G, grownCap w (xs.length + 1) xs.length 31 = G := ⟨_, rfl⟩
  have hGn := grownCap_ge w (xs.length + 1) xs.length 31
  have hG63 := grownCap_le_maxLen w (xs.length + 1) xs.length 31 (by unfold maxLen; omega)
  rw [hG] at hGn hG63
  have hcells : ∀ j v, (FldR.flat (xs.take k))[j]? = some v → w.drew.cell? ((⟨g, 0, none⟩ : Addr).add j) = some v := ((RowRd.takeN (RowAt.rd h) k).fr0 ((Fr.refl noBlock w).drew)).cells
  have hld := run_loadCells_list (P := Tryz.prog) (w := w.drew) ⟨g, 0, none⟩ (FldR.flat (xs.take k)) hcells
  have hfl : (FldR.flat (xs.take k)).length = k * 2 := by rw [fld_len, List.length_take]; omega
  rw [hfl] at hld
  have hold : (Builtin.firstCells i0.size k (.slice (some ⟨g, 0, none⟩) k xs.length)).run Tryz.prog w.drew = .ok (FldR.flat (xs.take k)).toArray w.drew := by
    rw [hz1]
    simp [Builtin.firstCells, hld]
  obtain ⟨C, hC⟩ : ∃ C, ((FldR.flat (xs.take k)).toArray ++ Builtin.zeroCells (Value.agg #[.int .i64 0, .string ⟨#[]⟩]).cells (xs.length + 1 - k) ++ Builtin.zeroCells (Value.agg #[.int .i64 0, .string ⟨#[]⟩]).cells (G - (xs.length + 1)) : Array Value) = C := ⟨_, rfl⟩
  have h2c : (Value.agg #[Value.int .i64 0, .string ⟨#[]⟩]).cells.size = 2 := rfl
  have hCs : C.size = G * 2 := by
    rw [← hC]
    simp only [Array.size_append, size_zeroCells, h2c, List.size_toArray, hfl]
    omega
  have hCt : C.toList.take (k * 2) = FldR.flat (xs.take k) := by
    rw [← hC, Array.toList_append, Array.toList_append, List.append_assoc, List.take_left' (by simpa using hfl)]
  have hrz : ∀ ty, (Builtin.append_ #[23, 3] ty #[.slice (some ⟨g, 0, none⟩) k xs.length, .int .i64 ((xs.length : Int) + 1 - (k : Int))]).run Tryz.prog w =
      .ok (.slice (some ⟨w.heap.size, 0, none⟩) (xs.length + 1) G) (w.drew.alloc (.cells C 31)) := fun ty => by
    have h := Lib.run_append_grow_zeros w 23 3 ty 31 i0 _ .i64 .i64 Tryz.underlying23 Tryz.underlying3 hi0 hz0 (some ⟨g, 0, none⟩) k xs.length _ hold (xs.length + 1 - k) (by omega) (by rw [hz1]; omega) (by omega) (by omega) (by rw [hz2]; omega) (by
      rw [hz2, show k + (xs.length + 1 - k) = xs.length + 1 by omega]
      exact growslice_fits (by omega) (by omega))
    rw [show k + (xs.length + 1 - k) = xs.length + 1 by omega, hG, hC, show ((xs.length + 1 - k : Nat) : Int) = (xs.length : Int) + 1 - (k : Int) by omega] at h
    exact h
  have HV := Lib.hid (RowRd.one (R := FldR) hv f rfl)
  have HS := Lib.hid (RowRd.piece (RowAt.rd h) k (xs.length - k))
  have HC := Lib.hid (And.intro hCs hCt)
  have hgw : g < w.heap.size := h.lt g rfl
  have hvw := heap_lt hv
  have hkI : (k : Int) < (xs.length : Int) := by omega
  have hk0 : (0 : Int) ≤ (k : Int) := by omega
  have hlI : (xs.length : Int) ≤ 140737488355328 := by omega
  have hne : ((k : Int) == (xs.length : Int)) = false := by simp; omega
  have hw1 : IntKind.i64.wrap ((k : Int) + 1) = (k : Int) + 1 := IntWalk.i64_in _ (by omega)
  have hb1 : (0 : Int) ≤ (k : Int) + 1 := by omega
  have htn : ((k : Int) + 1).toNat = k + 1 := by omega
  have hGk : ¬ G = k := by omega
  have hGk1 : ¬ G = k + 1 := by omega
  have hnk : ¬ xs.length = k := by omega
  have hkle : k ≤ xs.length := by omega
  have hkle2 : k ≤ xs.length + 1 := by omega
  have H0 := Lib.hid (heap_new w.drew (.cells C 31))
  unfold maxLen at hG63
  clear hC hG hCs hCt hld hold hcells hfl hi0 hz0 hz1 hz2 h2c h hv
  go_enter Tryz.func183, Tryz.ntmps183
  go_wp2_with (at_builtin; apply stop_here)
  refine ⟨?_, trivial⟩
  refine Lib.wpList_append_run _ rfl _ _ _ _ rfl _ _ rfl rfl _ _ (hrz _) ?_
  have HFA := Lib.hid (show Fr noBlock w (w.drew.alloc (.cells C 31)) from ((Fr.refl noBlock w).drew).alloc _)
  have HA := Lib.hid (show (w.drew.alloc (.cells C 31)).heap[w.heap.size]? = some (.cells C 31 (0, 0)) from H0.out)
  generalize w.drew.alloc (.cells C 31) = wA at *
  obtain ⟨b2, hb2⟩ : ∃ b2, w.heap.size = b2 := ⟨_, rfl⟩
  have Hb2 := Lib.hid hb2
  rw [hb2] at HA hgw hvw ⊢
  clear hrz H0 hb2
  have HV1 := Lib.hid (HV.out.fr0 HFA.out)
  go_wp2_with (with_reducible refine wpList_copyR rfl _ _ rfl el_fld HA.out (ys := [f]) k (dLen := xs.length + 1 - k) (dCap := G - k) (sLen := 1) (sCap := 1) (dp := some ⟨b2, k * 2, none⟩) (sp := some ⟨vb, 0, none⟩) rfl rfl HV1.out (by simp; omega) (fun _ => rfl) (by rw [HC.out.1, fldK]; simp; omega) ?_)
  intro w1 cur1 g1 s1 l1 f1
  have hdl : (xs.drop k).length = xs.length - k := List.length_drop
  have hf1 : Fr (fun q => q = b2) w w1 := (HFA.out.mono (fun _ x => x.elim)).trans' f1
  have HS2 := Lib.hid (show RowRd FldR w1.drew (some ⟨g, k * 2, none⟩) (xs.drop k) by
    have := (HS.out.fr hf1 (fun _ a ea => by cases ea; show ¬ g = b2; omega)).fr0 ((Fr.refl noBlock w1).drew)
    rw [List.take_of_length_le (by rw [List.length_drop]; omega), fldK, Nat.zero_add] at this
    exact this)
  have Hg2 := Lib.hid (show w1.drew.heap[b2]? = some (.cells cur1 31 (0, 0)) from g1)
  have HL1 := Lib.hid (And.intro s1 (And.intro l1 hf1))
  have Hdl := Lib.hid hdl
  clear g1 s1 l1 f1 hf1 hdl
  go_wp2_with fail
  go_region_law (refine step_copyR (by rfl) (.tmp 50) (.tmp 53) (by rfl) el_fld Hg2.out (k + 1) (dLen := xs.length + 1 - (k + 1)) (dCap := G - (k + 1)) (sLen := xs.length - k) (sCap := xs.length - k) (dp := some ⟨b2, (k + 1) * 2, none⟩) (sp := some ⟨g, k * 2, none⟩) (by simp [Act.eval, Act.put]) (by simp [Act.eval, Act.put]) HS2.out (by rw [Hdl.out]; omega) (fun _ => rfl) (by rw [Hdl.out, fldK, HL1.out.1, HC.out.1]; omega) ?_; intro w2 cur2 g2 s2 l2 f2)
  have hrow : RowAt 31 FldR w2 (.slice (some ⟨b2, 0, none⟩) (insF xs k f).length G) (insF xs k f) := by
    refine RowAt.of_block g2 (by rw [insF_len xs (by omega)]; omega) (by unfold maxLen; omega) (by rw [s2, HL1.out.1, HC.out.1]; rfl) ?_
    rw [l2, HL1.out.2.1, fldK, insF_len xs (by omega)]
    have hm := ins_new (f := f) (L := C.toList) (G := G) (by rw [Array.length_toList]; exact HC.out.1) HC.out.2 hkle (by omega)
    first | exact hm | (rw [← List.append_assoc]; exact hm)
  rw [insF_len xs (by omega)] at hrow
  have HRow := Lib.hid hrow
  have HF := Lib.hid (show Fr (fun q => (Value.slice (some ⟨g, 0, none⟩) xs.length xs.length).ownBlock = some q) w w2 from by
    have := HL1.out.2.2.drew.trans' f2
    exact (Fr.refl _ w).trans this (fun q hq => by subst hq; exact .inr (by rw [Hb2.out]; exact Nat.le_refl _)))
  clear g2 s2 l2 f2 hrow
  go_wp2_with fail
  go_ret
  exact ⟨⟨some ⟨b2, 0, none⟩, xs.length + 1, G⟩, rfl, (insF_len xs hkle f).symm, HRow.out, HF.out, fun q hq => by cases hq; exact .inr (by rw [Hb2.out]; exact Nat.le_refl _)⟩
theorem insert_any {w : World} {so : Option Addr} {n cap vb k : Nat} {xs : List Fld} {f : Fld} (h : RowAt 31 FldR w (.slice so n cap) xs) (hv : w.heap[vb]? = some (.cells #[.int .i64 f.n, .string f.v] 31 (0, 0))) (hvg : (Value.slice so n cap).ownBlock ≠ some vb) (hk : k ≤ xs.length) (hl : xs.length * 24 + 24 ≤ 140737488355328) :
    Calls Tryz.prog 183 #[.slice so n cap, .int .i64 (k : Int), .slice (some ⟨vb, 0, none⟩) 1 1] w (GrewP 31 (.slice so n cap) (insF xs k f) w) := by
  have hn := h.len
  subst hn
  by_cases e : k = xs.length
  · subst e
    have e2 : insF xs xs.length f = xs ++ [f] := by unfold insF; rw [List.take_length, List.drop_length, List.append_nil]
    rw [e2]
    exact insert_end h hv hl
  · obtain ⟨g, cp, eg, hcp, _⟩ := h.block' (by omega)
    simp only [Value.slice.injEq] at eg
    obtain ⟨rfl, -, rfl⟩ := eg
    have hne : vb ≠ g := fun e => hvg (by rw [e]; rfl)
    by_cases hr : xs.length + 1 ≤ cap
    · exact insert_room h hv hne (by omega) hr
    · have e2 : cap = xs.length := by omega
      subst e2
      exact insert_grow h hv (by omega) hl
end Go.Proofs.YtajhgejhdalobaaGreatDoor
