/-
  THE WALK of slices.DeleteFunc at fields.
-/
import Derived.Test.YthckgkghmlkcnaaDoorIsP2
namespace Go.Proofs.YthckgkghmlkcnaaDoor
open Go.RowKit

/-- what is kept, of the first j -/
def keepL (p : Nat → Bool) (xs : List Fld) (j : Nat) : List Fld := ((List.range j).filter (fun i => !p i)).map (fun i => xs.getD i ⟨0, ⟨#[]⟩⟩)
theorem keepL_succ (p : Nat → Bool) (xs : List Fld) {j : Nat} (hj : j < xs.length) : keepL p xs (j + 1) = keepL p xs j ++ (if p j = true then [] else [xs[j]]) := by
  unfold keepL
  rw [List.range_succ, List.filter_append, List.map_append]
  congr 1
  cases h : p j with
  | true => simp [h]
  | false => simp [h, hj]
theorem keepL_len (p : Nat → Bool) (xs : List Fld) (j : Nat) : (keepL p xs j).length ≤ j := by
  unfold keepL
  rw [List.length_map]
  have := List.length_filter_le (fun i => !p i) (List.range j)
  simpa using this
theorem keepL_none {p : Nat → Bool} {xs : List Fld} : ∀ j, j ≤ xs.length → (∀ i, i < j → p i = false) → keepL p xs j = xs.take j
  | 0, _, _ => rfl
  | j + 1, hj, h => by
    rw [keepL_succ p xs (by omega), keepL_none j (by omega) (fun i hi => h i (by omega)), h j (by omega), List.take_succ_eq_append_getElem (by omega)]
    rfl
/-- the row while it is struck: the kept ahead, the rest as it was -/
def MidP (p : Nat → Bool) (xs ys : List Fld) (i j : Nat) : Prop := ys.length = xs.length ∧ i = (keepL p xs j).length ∧ ys.take i = keepL p xs j ∧ ys.drop j = xs.drop j
theorem MidP.skip {p : Nat → Bool} {xs ys : List Fld} {i j : Nat} (h : MidP p xs ys i j) (hj : j < xs.length) (hp : p j = true) : MidP p xs ys i (j + 1) := by
  obtain ⟨h1, h2, h3, h4⟩ := h
  have e : keepL p xs (j + 1) = keepL p xs j := by rw [keepL_succ p xs hj, hp]; simp
  refine ⟨h1, by rw [e]; exact h2, by rw [e]; exact h3, ?_⟩
  have := congrArg (List.drop 1) h4
  rwa [List.drop_drop, List.drop_drop] at this
theorem MidP.get {p : Nat → Bool} {xs ys : List Fld} {i j : Nat} (h : MidP p xs ys i j) (hj : j < xs.length) : ∃ h' : j < ys.length, ys[j] = xs[j] := by
  obtain ⟨h1, _, _, h4⟩ := h
  refine ⟨by omega, ?_⟩
  have := congrArg (fun l => l[0]?) h4
  simp only [List.getElem?_drop, Nat.add_zero] at this
  rw [List.getElem?_eq_getElem (by omega), List.getElem?_eq_getElem hj] at this
  exact Option.some.inj this
theorem MidP.keep {p : Nat → Bool} {xs ys : List Fld} {i j : Nat} (h : MidP p xs ys i j) (hj : j < xs.length) (hp : p j = false) : MidP p xs (ys.set i xs[j]) (i + 1) (j + 1) := by
  obtain ⟨h1, h2, h3, h4⟩ := h
  have hij : i ≤ j := by rw [h2]; exact keepL_len p xs j
  have e : keepL p xs (j + 1) = keepL p xs j ++ [xs[j]] := by rw [keepL_succ p xs hj, hp]; simp
  refine ⟨by rw [List.length_set]; exact h1, by rw [e, List.length_append, ← h2]; rfl, ?_, ?_⟩
  · rw [e, ← h3, List.take_succ_eq_append_getElem (by rw [List.length_set]; omega), List.getElem_set_self, List.take_set_of_le (Nat.le_refl _)]
  · rw [List.drop_set_of_lt (by omega)]
    have := congrArg (List.drop 1) h4
    rwa [List.drop_drop, List.drop_drop] at this
theorem zero_fld (w : World) : (zeroValue 41).run Tryd.prog w = .ok (.agg #[.int .i64 0, .string .empty]) w := by kernel_rfl
def DelP (p : Nat → Bool) (xs : List Fld) (g cap : Nat) (T : Nat → Prop) (w : World) (e : Ending) (w' : World) : Prop := ∃ m, m = (keepL p xs xs.length).length ∧ e = .returned (.slice (some ⟨g, 0, none⟩) m cap) ∧ RowAt 41 FldR w' (.slice (some ⟨g, 0, none⟩) m cap) (keepL p xs xs.length) ∧ Fr (fun k => k = g ∨ T k) w w'
/-- what stands while it is struck -/
structure DelS (p : Nat → Bool) (xs : List Fld) (g cap : Nat) (T : Nat → Prop) (J : Nat → World → Prop) (w : World) (i j : Nat) (ys : List Fld) (W : World) : Prop where
  mid : MidP p xs ys i j
  row : RowAt 41 FldR W (.slice (some ⟨g, 0, none⟩) xs.length cap) ys
  j : J j W
  fr : Fr (fun k => k = g ∨ T k) w W
set_option maxRecDepth 100000 in
set_option maxHeartbeats 3200000 in
theorem deleteF_any {g cap : Nat} (xs : List Fld) (c : Nat) (lb : Array Value) (eg : ∀ args w, (callFunc c args).run Tryd.prog w = .ok (.enter c args) w) (p : Nat → Bool) (J : Nat → World → Prop) (T : Nat → Prop) (hT : ¬ T g)
    (hJ : ∀ i W W', J i W → Fr (fun k => k = g) W W' → J i W')
    (hp : ∀ (i : Nat) (hi : i < xs.length) (W : World), J i W → Calls Tryd.prog c (#[xs[i].val] ++ lb) W fun e w' => e = .returned (.bool (p i)) ∧ J (i + 1) w' ∧ Fr T W w') (hl : xs.length ≤ 140737488355328) (w : World) (hTw : ∀ k, T k → k < w.heap.size) (h : RowAt 41 FldR w (.slice (some ⟨g, 0, none⟩) xs.length cap) xs) (h0 : J 0 w) :
    Calls Tryd.prog 44 #[.slice (some ⟨g, 0, none⟩) xs.length cap, .func (.func c) #[] lb] w (DelP p xs g cap T w) := by
  have hgw : g < w.heap.size := h.lt g rfl
  obtain ⟨cur0, hg0, -, hncap, hcm, -, -⟩ := row_blk h
  unfold maxLen at hcm
  have HI := Lib.hid (indexF_any cap xs c lb eg p (fun i W => J i W ∧ RowAt 41 FldR W (.slice (some ⟨g, 0, none⟩) xs.length cap) xs ∧ Fr (fun k => k = g ∨ T k) w W) (fun i W hI => RowAt.rd hI.2.1) (fun i hi W hI => (hp i hi W hI.1).mono fun e w' ⟨h1, h2, h3⟩ => ⟨h1, h2, hI.2.1.fr h3 (fun k hk => by cases hk; exact hT), hI.2.2.trans h3 (fun k hk => .inl (.inr hk))⟩) (by unfold maxLen; omega) w ⟨h0, h, Fr.refl _ _⟩)
  have Hp := Lib.hid hp
  have HJ := Lib.hid hJ
  have HTw := Lib.hid hTw
  have hlI : (xs.length : Int) ≤ 140737488355328 := by omega
  have hcI : (xs.length : Int) ≤ (cap : Int) := by omega
  have hc63 : (cap : Int) ≤ 9223372036854775807 := by omega
  unfold IdxP at HI
  clear h0 h hp hJ hTw hg0
  go_enter Tryd.func44, Tryd.ntmps44
  go_wp2_with fail
  refine HI.out.mono ?_
  rintro e w1 (⟨i0, hi0, hpi, hno, rfl, hj1, hr1, hf1⟩ | ⟨hno, rfl, hj1, hr1, hf1⟩)
  · have HS0 := Lib.hid (show DelS p xs g cap T J w i0 (i0 + 1) xs w1 from ⟨⟨rfl, by
        rw [keepL_succ p xs hi0, hpi, keepL_none i0 (by omega) hno]
        simp
        first | done | omega, by rw [keepL_succ p xs hi0, hpi, keepL_none i0 (by omega) hno]; simp, rfl⟩, hr1, hj1, hf1⟩)
    have hi0I : (i0 : Int) < (xs.length : Int) := by omega
    have hi00 : (0 : Int) ≤ (i0 : Int) := by omega
    have hm1 : ((i0 : Int) == -1) = false := by rw [beq_eq_false_iff_ne]; omega
    have hi1 : i0 + 1 ≤ xs.length := hi0
    clear hpi hno hj1 hr1 hf1 HI hi0
    go_wp2_with fail
    go_loopw [5, 6] (fun s5 s6 wr => ∃ (i j : Nat) (ys : List Fld), j ≤ xs.length ∧ i < j ∧ s5 = .int .i64 i ∧ s6 = .int .i64 j ∧ Hid (DelS p xs g cap T J w i j ys wr)) (fun _ s6 _ => xs.length - (intOf s6).toNat)
    case atStart => exact ⟨i0, i0 + 1, xs, hi1, Nat.lt_succ_self _, rfl, by go_num, HS0⟩
    case round =>
      obtain ⟨i, j, ys, hj, hij, rfl, rfl, HS⟩ := hrel
      have iI : (i : Int) < (j : Int) := by omega
      have i0' : (0 : Int) ≤ (i : Int) := by omega
      by_cases hlt : j < xs.length
      · have r1 : (j : Int) < (xs.length : Int) := by omega
        have r0 : (0 : Int) ≤ (j : Int) := by omega
        have hj1 : j + 1 ≤ xs.length := hlt
        have hij1 : i < j + 1 := by omega
        have hij2 : i + 1 < j + 1 := by omega
        have iN : (i : Int) < (xs.length : Int) := by omega
        obtain ⟨hjy, hjx⟩ := HS.out.mid.get hlt
        obtain ⟨gb, go, ego, -, p0, p1⟩ := fld_cells (RowAt.rd HS.out.row) hjy
        simp only [Option.some.injEq, Addr.mk.injEq] at ego
        obtain ⟨rfl, rfl, -⟩ := ego
        rw [hjx] at p0 p1
        have Hcall := Lib.hid (fun (W : World) (hf : Fr noBlock wr W) => Hp.out j hlt W (HJ.out _ _ _ HS.out.j (hf.mono (fun _ x => x.elim))))
        have HMs := Lib.hid (fun h => HS.out.mid.skip hlt h)
        have HMk := Lib.hid (fun h => HS.out.mid.keep hlt h)
        have Hin := Lib.hid (show i < ys.length by omega)
        have hbx : wr.heap.size ≥ w.heap.size := HS.out.fr.size
        rw [Nat.zero_add] at p0 p1
        generalize xs[j] = x at *
        obtain ⟨fn, fv⟩ := x
        simp only at p0 p1
        unfold Fld.val at Hcall
        dsimp only at Hcall
        clear hjy hjx hlt
        have HB := Lib.hid (heap_new wr (.cells #[.int .i64 fn, .string fv] 41))
        cases hpj : p j with
        | true =>
          rw [hpj] at Hcall
          have HM := Lib.hid (HMs.out hpj)
          clear hpj HMk HMs
          go_wp2_with fail
          refine (Hcall.out _ ((Fr.refl noBlock wr).alloc (.cells #[.int .i64 fn, .string fv] 41))).mono ?_
          rintro e w5 ⟨rfl, hJ5, f5⟩
          have HG := Lib.hid (show DelS p xs g cap T J w i (j + 1) ys w5 from ⟨HM.out, (HS.out.row.fr0 ((Fr.refl noBlock wr).alloc (.cells #[.int .i64 fn, .string fv] 41))).fr f5 (fun k hk => by cases hk; exact hT), hJ5, (HS.out.fr.alloc (.cells #[.int .i64 fn, .string fv] 41)).trans f5 (fun k hk => .inl (.inr hk))⟩)
          clear hJ5 f5 p0 p1
          go_wp2_with fail
          go_roundw
          case rel => exact ⟨i, j + 1, ys, hj1, hij1, rfl, by go_num, HG⟩
          case measure => simp [intOf]; omega
        | false =>
          rw [hpj] at Hcall
          have HM := Lib.hid (HMk.out hpj)
          clear hpj HMk HMs
          go_wp2_with fail
          refine (Hcall.out _ ((Fr.refl noBlock wr).alloc (.cells #[.int .i64 fn, .string fv] 41))).mono ?_
          rintro e w5 ⟨rfl, hJ5, f5⟩
          have hr5 := (HS.out.row.fr0 ((Fr.refl noBlock wr).alloc (.cells #[.int .i64 fn, .string fv] 41))).fr f5 (fun k hk => by cases hk; exact hT)
          have hbox := f5.obj HB.out (fun h => by have := HTw.out _ h; omega)
          have b0 := cell_of hbox 0
          have b1 := cell_of hbox 1
          simp at b0 b1
          obtain ⟨cur, hgb⟩ := hr5.kind (k := g) rfl
          obtain ⟨gb2, go2, ego2, -, q0, q1⟩ := fld_cells (RowAt.rd hr5) Hin.out
          simp only [Option.some.injEq, Addr.mk.injEq] at ego2
          obtain ⟨rfl, rfl, -⟩ := ego2
          rw [Nat.zero_add] at q0 q1
          have zf0 := free_of hgb (i * 2)
          have zf1 := free_of hgb (i * 2 + 1)
          have s1 := hr5.set (i := i) (j := 0) (u := .int .i64 fn) Hin.out (by decide) ⟨fn, ys[i].v⟩ rfl
          have s2 := s1.set (i := i) (j := 1) (u := .string fv) (by rw [List.length_set]; exact Hin.out) (by decide) ⟨fn, fv⟩ (by rw [List.getElem_set_self]; rfl)
          rw [List.set_set, fldK, Nat.add_zero] at s2
          have hfs : Fr (fun k => k = g) w5 ((w5.setCell ⟨g, i * 2, none⟩ (.int .i64 fn)).setCell ⟨g, i * 2 + 1, none⟩ (.string fv)) := ((Fr.refl (fun k => k = g) w5).setCell (p := ⟨g, _, none⟩) (.inl rfl) _).setCell (p := ⟨g, _, none⟩) (.inl rfl) _
          have HG := Lib.hid (show DelS p xs g cap T J w (i + 1) (j + 1) (ys.set i ⟨fn, fv⟩) ((w5.setCell ⟨g, i * 2, none⟩ (.int .i64 fn)).setCell ⟨g, i * 2 + 1, none⟩ (.string fv)) from
            ⟨HM.out, s2, HJ.out _ _ _ hJ5 hfs, ((HS.out.fr.alloc (.cells #[.int .i64 fn, .string fv] 41)).trans f5 (fun k hk => .inl (.inr hk))).trans hfs (fun k hk => .inl (.inl hk))⟩)
          clear hJ5 f5 p0 p1 hr5 hbox hgb s1 s2 hfs
          go_wp2_with fail
          go_roundw
          case rel => exact ⟨i + 1, j + 1, ys.set i ⟨fn, fv⟩, hj1, hij2, by go_num, by go_num, HG⟩
          case measure => simp [intOf]; omega
      · have r1 : (xs.length : Int) ≤ (j : Int) := by omega
        have ej : j = xs.length := by omega
        subst ej
        obtain ⟨m1, m2, m3, m4⟩ := HS.out.mid
        obtain ⟨cur, hgb, -, -, -, hcs, htk⟩ := row_blk HS.out.row
        have hcl : ((xs.length - i) * 2 : Nat) = (xs.length - i) * 2 := rfl
        obtain ⟨W', cur', hcl', hg', hs', ht', hf2⟩ := run_clear_row (P := Tryd.prog) (t := 25) (n := xs.length - i) (c := cap - i) Tryd.underlying25 zero_fld hgb (o := i * 2) (by omega) (by rw [hcs]; simp [Value.cells]; omega) (by intro v hv; simp [Value.cells] at hv; rcases hv with rfl | rfl <;> rfl)
        have hci : ¬ cap = i := by omega
        have hrow : RowAt 41 FldR W' (.slice (some ⟨g, 0, none⟩) (keepL p xs xs.length).length cap) (keepL p xs xs.length) := by
          refine RowAt.of_block hg' (by omega) (by unfold maxLen; omega) (by rw [hs', hcs]; rfl) ?_
          rw [← m2, fldK, ht', ← m3]
          have := congrArg (List.take (i * 2)) htk
          rw [List.take_take, Nat.min_eq_left (by omega)] at this
          rw [this]
          exact FldR.flat_take ys i
        have HRow := Lib.hid hrow
        have Hm2 := Lib.hid m2
        have HF := Lib.hid (HS.out.fr.trans hf2 (fun k hk => .inl (.inl hk)))
        have hile : i ≤ xs.length := by omega
        have hilc : i ≤ cap := by omega
        have hilcI : (i : Int) ≤ (cap : Int) := by omega
        clear m1 m2 m3 m4 hgb hcs htk hg' hs' ht' hf2 hrow hcl
        go_wp2_with fail
        go_ret
        exact ⟨i, Hm2.out, rfl, by have := HRow.out; rw [← Hm2.out] at this; exact this, HF.out⟩
  · have HR := Lib.hid (show RowAt 41 FldR w1 (.slice (some ⟨g, 0, none⟩) xs.length cap) (keepL p xs xs.length) by rw [keepL_none xs.length (Nat.le_refl _) hno, List.take_length]; exact hr1)
    have HL := Lib.hid (show xs.length = (keepL p xs xs.length).length by rw [keepL_none xs.length (Nat.le_refl _) hno, List.take_length])
    have HF := Lib.hid hf1
    clear hno hj1 hr1 hf1 HI
    go_wp2_with fail
    go_ret
    exact ⟨xs.length, HL.out, rfl, HR.out, HF.out⟩
end Go.Proofs.YthckgkghmlkcnaaDoor
