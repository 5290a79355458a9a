/-
  THE WALK of iso.Put.
-/
import Derived.Test.YtajhgejhdalobaaGreatDoorIsP2
namespace Go.Proofs.YtajhgejhdalobaaGreatDoor
open Go.RowKit

def keepL (p : Nat → Bool) (xs : List Fld) (j : Nat) : List Fld := ((List.range j).filter (fun i => !p i)).map (fun i => xs.getD i ⟨0, ⟨#[]⟩⟩)
theorem keepL_succ (p : Nat → Bool) (xs : List Fld) {j : Nat} (hj : j < xs.length) : keepL p xs (j + 1) = keepL p xs j ++ (if p j = true then [] else [xs[j]]) := by
  unfold keepL
  rw [List.range_succ, List.filter_append, List.map_append]
  congr 1
  cases h : p j with
  | true => simp [h]
  | false => simp [h, hj]
theorem keepL_len (p : Nat → Bool) (xs : List Fld) (j : Nat) : (keepL p xs j).length ≤ j := by
  unfold keepL
  rw [List.length_map]
  have := List.length_filter_le (fun i => !p i) (List.range j)
  simpa using this
theorem keepL_none {p : Nat → Bool} {xs : List Fld} : ∀ j, j ≤ xs.length → (∀ i, i < j → p i = false) → keepL p xs j = xs.take j
  | 0, _, _ => rfl
  | j + 1, hj, h => by
    rw [keepL_succ p xs (by omega), keepL_none j (by omega) (fun i hi => h i (by omega)), h j (by omega), List.take_succ_eq_append_getElem (by omega)]
    rfl
def MidP (p : Nat → Bool) (xs ys : List Fld) (i j : Nat) : Prop := ys.length = xs.length ∧ i = (keepL p xs j).length ∧ ys.take i = keepL p xs j ∧ ys.drop j = xs.drop j
theorem MidP.skip {p : Nat → Bool} {xs ys : List Fld} {i j : Nat} (h : MidP p xs ys i j) (hj : j < xs.length) (hp : p j = true) : MidP p xs ys i (j + 1) := by
  obtain ⟨h1, h2, h3, h4⟩ := h
  have e : keepL p xs (j + 1) = keepL p xs j := by rw [keepL_succ p xs hj, hp]; simp
  refine ⟨h1, by rw [e]; exact h2, by rw [e]; exact h3, ?_⟩
  have := congrArg (List.drop 1) h4
  rwa [List.drop_drop, List.drop_drop] at this
theorem MidP.get {p : Nat → Bool} {xs ys : List Fld} {i j : Nat} (h : MidP p xs ys i j) (hj : j < xs.length) : ∃ h' : j < ys.length, ys[j] = xs[j] := by
  obtain ⟨h1, _, _, h4⟩ := h
  refine ⟨by omega, ?_⟩
  have := congrArg (fun l => l[0]?) h4
  simp only [List.getElem?_drop, Nat.add_zero] at this
  rw [List.getElem?_eq_getElem (by omega), List.getElem?_eq_getElem hj] at this
  exact Option.some.inj this
theorem MidP.keep {p : Nat → Bool} {xs ys : List Fld} {i j : Nat} (h : MidP p xs ys i j) (hj : j < xs.length) (hp : p j = false) : MidP p xs (ys.set i xs[j]) (i + 1) (j + 1) := by
  obtain ⟨h1, h2, h3, h4⟩ := h
  have hij : i ≤ j := by rw [h2]; exact keepL_len p xs j
  have e : keepL p xs (j + 1) = keepL p xs j ++ [xs[j]] := by rw [keepL_succ p xs hj, hp]; simp
  refine ⟨by rw [List.length_set]; exact h1, by rw [e, List.length_append, ← h2]; rfl, ?_, ?_⟩
  · rw [e, ← h3, List.take_succ_eq_append_getElem (by rw [List.length_set]; omega), List.getElem_set_self, List.take_set_of_le (Nat.le_refl _)]
  · rw [List.drop_set_of_lt (by omega)]
    have := congrArg (List.drop 1) h4
    rwa [List.drop_drop, List.drop_drop] at this
theorem zero_fld (w : World) : (zeroValue 31).run Tryz.prog w = .ok (.agg #[.int .i64 0, .string .empty]) w := by kernel_rfl
def DelP (p : Nat → Bool) (xs : List Fld) (g cap : Nat) (T : Nat → Prop) (w : World) (e : Ending) (w' : World) : Prop := ∃ m, m = (keepL p xs xs.length).length ∧ e = .returned (.slice (some ⟨g, 0, none⟩) m cap) ∧ RowAt 31 FldR w' (.slice (some ⟨g, 0, none⟩) m cap) (keepL p xs xs.length) ∧ Fr (fun k => k = g ∨ T k) w w'
structure DelS (p : Nat → Bool) (xs : List Fld) (g cap : Nat) (T : Nat → Prop) (J : Nat → World → Prop) (w : World) (i j : Nat) (ys : List Fld) (W : World) : Prop where
  mid : MidP p xs ys i j
  row : RowAt 31 FldR W (.slice (some ⟨g, 0, none⟩) xs.length cap) ys
  j : J j W
  fr : Fr (fun k => k = g ∨ T k) w W
set_option maxRecDepth 100000 in
set_option maxHeartbeats 3200000 in
theorem deleteF_any {g cap : Nat} (xs : List Fld) (c : Nat) (lb : Array Value) (eg : ∀ args w, (callFunc c args).run Tryz.prog w = .ok (.enter c args) w) (p : Nat → Bool) (J : Nat → World → Prop) (T : Nat → Prop) (hT : ¬ T g)
    (hJ : ∀ i W W', J i W → Fr (fun k => k = g) W W' → J i W')
    (hp : ∀ (i : Nat) (hi : i < xs.length) (W : World), J i W → Calls Tryz.prog c (#[xs[i].val] ++ lb) W fun e w' => e = .returned (.bool (p i)) ∧ J (i + 1) w' ∧ Fr T W w') (hl : xs.length ≤ 140737488355328) (w : World) (hTw : ∀ k, T k → k < w.heap.size) (h : RowAt 31 FldR w (.slice (some ⟨g, 0, none⟩) xs.length cap) xs) (h0 : J 0 w) :
    Calls Tryz.prog 184 #[.slice (some ⟨g, 0, none⟩) xs.length cap, .func (.func c) #[] lb] w (DelP p xs g cap T w) := by
  have hgw : g < w.heap.size := h.lt g rfl
  obtain ⟨cur0, hg0, -, hncap, hcm, -, -⟩ := row_blk h
  unfold maxLen at hcm
  have HI := Lib.hid (indexF_any cap xs c lb eg p (fun i W => J i W ∧ RowAt 31 FldR W (.slice (some ⟨g, 0, none⟩) xs.length cap) xs ∧ Fr (fun k => k = g ∨ T k) w W) (fun i W hI => RowAt.rd hI.2.1) (fun i hi W hI => (hp i hi W hI.1).mono fun e w' ⟨h1, h2, h3⟩ => ⟨h1, h2, hI.2.1.fr h3 (fun k hk => by cases hk; exact hT), hI.2.2.trans h3 (fun k hk => .inl (.inr hk))⟩) (by unfold maxLen; omega) w ⟨h0, h, Fr.refl _ _⟩)
  have Hp := Lib.hid hp
  have HJ := Lib.hid hJ
  have HTw := Lib.hid hTw
  have hlI : (xs.length : Int) ≤ 140737488355328 := by omega
  have hcI : (xs.length : Int) ≤ (cap : Int) := by omega
  have hc63 : (cap : Int) ≤ 9223372036854775807 := by omega
  unfold IdxP at HI
  clear h0 h hp hJ hTw hg0
  go_enter Tryz.func184, Tryz.ntmps184
  go_wp2_with fail
  refine HI.out.mono ?_
  rintro e w1 (⟨i0, hi0, hpi, hno, rfl, hj1, hr1, hf1⟩ | ⟨hno, rfl, hj1, hr1, hf1⟩)
  · have HS0 := Lib.hid (show DelS p xs g cap T J w i0 (i0 + 1) xs w1 from ⟨⟨rfl, by
        rw [keepL_succ p xs hi0, hpi, keepL_none i0 (by omega) hno]
        simp
        first | done | omega, by rw [keepL_succ p xs hi0, hpi, keepL_none i0 (by omega) hno]; simp, rfl⟩, hr1, hj1, hf1⟩)
    have hi0I : (i0 : Int) < (xs.length : Int) := by omega
    have hi00 : (0 : Int) ≤ (i0 : Int) := by omega
    have hm1 : ((i0 : Int) == -1) = false := by rw [beq_eq_false_iff_ne]; omega
    have hi1 : i0 + 1 ≤ xs.length := hi0
    clear hpi hno hj1 hr1 hf1 HI hi0
    go_wp2_with fail
    go_loopw [5, 6] (fun s5 s6 wr => ∃ (i j : Nat) (ys : List Fld), j ≤ xs.length ∧ i < j ∧ s5 = .int .i64 i ∧ s6 = .int .i64 j ∧ Hid (DelS p xs g cap T J w i j ys wr)) (fun _ s6 _ => xs.length - (intOf s6).toNat)
    case atStart => exact ⟨i0, i0 + 1, xs, hi1, Nat.lt_succ_self _, rfl, by go_num, HS0⟩
    case round =>
      obtain ⟨i, j, ys, hj, hij, rfl, rfl, HS⟩ := hrel
      have iI : (i : Int) < (j : Int) := by omega
      have i0' : (0 : Int) ≤ (i : Int) := by omega
      by_cases hlt : j < xs.length
      · have r1 : (j : Int) < (xs.length : Int) := by omega
        have r0 : (0 : Int) ≤ (j : Int) := by omega
        have hj1 : j + 1 ≤ xs.length := hlt
        have hij1 : i < j + 1 := by omega
        have hij2 : i + 1 < j + 1 := by omega
        have iN : (i : Int) < (xs.length : Int) := by omega
        obtain ⟨hjy, hjx⟩ := HS.out.mid.get hlt
        obtain ⟨gb, go, ego, -, p0, p1⟩ := fld_cells (RowAt.rd HS.out.row) hjy
        simp only [Option.some.injEq, Addr.mk.injEq] at ego
        obtain ⟨rfl, rfl, -⟩ := ego
        rw [hjx] at p0 p1
        have Hcall := Lib.hid (fun (W : World) (hf : Fr noBlock wr W) => Hp.out j hlt W (HJ.out _ _ _ HS.out.j (hf.mono (fun _ x => x.elim))))
        have HMs := Lib.hid (fun h => HS.out.mid.skip hlt h)
        have HMk := Lib.hid (fun h => HS.out.mid.keep hlt h)
        have Hin := Lib.hid (show i < ys.length by omega)
        have hbx : wr.heap.size ≥ w.heap.size := HS.out.fr.size
        rw [Nat.zero_add] at p0 p1
        generalize xs[j] = x at *
        obtain ⟨fn, fv⟩ := x
        simp only at p0 p1
        unfold Fld.val at Hcall
        dsimp only at Hcall
        clear hjy hjx hlt
        have HB := Lib.hid (heap_new wr (.cells #[.int .i64 fn, .string fv] 31))
        cases hpj : p j with
        | true =>
          rw [hpj] at Hcall
          have HM := Lib.hid (HMs.out hpj)
          clear hpj HMk HMs
          go_wp2_with fail
          refine (Hcall.out _ ((Fr.refl noBlock wr).alloc (.cells #[.int .i64 fn, .string fv] 31))).mono ?_
          rintro e w5 ⟨rfl, hJ5, f5⟩
          have HG := Lib.hid (show DelS p xs g cap T J w i (j + 1) ys w5 from ⟨HM.out, (HS.out.row.fr0 ((Fr.refl noBlock wr).alloc (.cells #[.int .i64 fn, .string fv] 31))).fr f5 (fun k hk => by cases hk; exact hT), hJ5, (HS.out.fr.alloc (.cells #[.int .i64 fn, .string fv] 31)).trans f5 (fun k hk => .inl (.inr hk))⟩)
          clear hJ5 f5 p0 p1
          go_wp2_with fail
          go_roundw
          case rel => exact ⟨i, j + 1, ys, hj1, hij1, rfl, by go_num, HG⟩
          case measure => simp [intOf]; omega
        | false =>
          rw [hpj] at Hcall
          have HM := Lib.hid (HMk.out hpj)
          clear hpj HMk HMs
          go_wp2_with fail
          refine (Hcall.out _ ((Fr.refl noBlock wr).alloc (.cells #[.int .i64 fn, .string fv] 31))).mono ?_
          rintro e w5 ⟨rfl, hJ5, f5⟩
          have hr5 := (HS.out.row.fr0 ((Fr.refl noBlock wr).alloc (.cells #[.int .i64 fn, .string fv] 31))).fr f5 (fun k hk => by cases hk; exact hT)
          have hbox := f5.obj HB.out (fun h => by have := HTw.out _ h; omega)
          have b0 := cell_of hbox 0
          have b1 := cell_of hbox 1
          simp at b0 b1
          obtain ⟨cur, hgb⟩ := hr5.kind (k := g) rfl
          obtain ⟨gb2, go2, ego2, -, q0, q1⟩ := fld_cells (RowAt.rd hr5) Hin.out
          simp only [Option.some.injEq, Addr.mk.injEq] at ego2
          obtain ⟨rfl, rfl, -⟩ := ego2
          rw [Nat.zero_add] at q0 q1
          have zf0 := free_of hgb (i * 2)
          have zf1 := free_of hgb (i * 2 + 1)
          have s1 := hr5.set (i := i) (j := 0) (u := .int .i64 fn) Hin.out (by decide) ⟨fn, ys[i].v⟩ rfl
          have s2 := s1.set (i := i) (j := 1) (u := .string fv) (by rw [List.length_set]; exact Hin.out) (by decide) ⟨fn, fv⟩ (by rw [List.getElem_set_self]; rfl)
          rw [List.set_set, fldK, Nat.add_zero] at s2
          have hfs : Fr (fun k => k = g) w5 ((w5.setCell ⟨g, i * 2, none⟩ (.int .i64 fn)).setCell ⟨g, i * 2 + 1, none⟩ (.string fv)) := ((Fr.refl (fun k => k = g) w5).setCell (p := ⟨g, _, none⟩) (.inl rfl) _).setCell (p := ⟨g, _, none⟩) (.inl rfl) _
          have HG := Lib.hid (show DelS p xs g cap T J w (i + 1) (j + 1) (ys.set i ⟨fn, fv⟩) ((w5.setCell ⟨g, i * 2, none⟩ (.int .i64 fn)).setCell ⟨g, i * 2 + 1, none⟩ (.string fv)) from
            ⟨HM.out, s2, HJ.out _ _ _ hJ5 hfs, ((HS.out.fr.alloc (.cells #[.int .i64 fn, .string fv] 31)).trans f5 (fun k hk => .inl (.inr hk))).trans hfs (fun k hk => .inl (.inl hk))⟩)
          clear hJ5 f5 p0 p1 hr5 hbox hgb s1 s2 hfs
          go_wp2_with fail
          go_roundw
          case rel => exact ⟨i + 1, j + 1, ys.set i ⟨fn, fv⟩, hj1, hij2, by go_num, by go_num, HG⟩
          case measure => simp [intOf]; omega
      · have r1 : (xs.length : Int) ≤ (j : Int) := by omega
        have ej : j = xs.length := by omega
        subst ej
        obtain ⟨m1, m2, m3, m4⟩ := HS.out.mid
        obtain ⟨cur, hgb, -, -, -, hcs, htk⟩ := row_blk HS.out.row
        have hcl : ((xs.length - i) * 2 : Nat) = (xs.length - i) * 2 := rfl
        obtain ⟨W', cur', hcl', hg', hs', ht', hf2⟩ := run_clear_row (P := Tryz.prog) (t := 23) (n := xs.length - i) (c := cap - i) Tryz.underlying23 zero_fld hgb (o := i * 2) (by omega) (by rw [hcs]; simp [Value.cells]; omega) (by intro v hv; simp [Value.cells] at hv; rcases hv with rfl | rfl <;> rfl)
        have hci : ¬ cap = i := by omega
        have hrow : RowAt 31 FldR W' (.slice (some ⟨g, 0, none⟩) (keepL p xs xs.length).length cap) (keepL p xs xs.length) := by
          refine RowAt.of_block hg' (by omega) (by unfold maxLen; omega) (by rw [hs', hcs]; rfl) ?_
          rw [← m2, fldK, ht', ← m3]
          have := congrArg (List.take (i * 2)) htk
          rw [List.take_take, Nat.min_eq_left (by omega)] at this
          rw [this]
          exact FldR.flat_take ys i
        have HRow := Lib.hid hrow
        have Hm2 := Lib.hid m2
        have HF := Lib.hid (HS.out.fr.trans hf2 (fun k hk => .inl (.inl hk)))
        have hile : i ≤ xs.length := by omega
        have hilc : i ≤ cap := by omega
        have hilcI : (i : Int) ≤ (cap : Int) := by omega
        clear m1 m2 m3 m4 hgb hcs htk hg' hs' ht' hf2 hrow hcl
        go_wp2_with fail
        go_ret
        exact ⟨i, Hm2.out, rfl, by have := HRow.out; rw [← Hm2.out] at this; exact this, HF.out⟩
  · have HR := Lib.hid (show RowAt 31 FldR w1 (.slice (some ⟨g, 0, none⟩) xs.length cap) (keepL p xs xs.length) by rw [keepL_none xs.length (Nat.le_refl _) hno, List.take_length]; exact hr1)
    have HL := Lib.hid (show xs.length = (keepL p xs xs.length).length by rw [keepL_none xs.length (Nat.le_refl _) hno, List.take_length])
    have HF := Lib.hid hf1
    clear hno hj1 hr1 hf1 HI
    go_wp2_with fail
    go_ret
    exact ⟨xs.length, HL.out, rfl, HR.out, HF.out⟩
end Go.Proofs.YtajhgejhdalobaaGreatDoor
namespace Go.Proofs.YtajhgejhdalobaaGreatDoor
open Go.RowKit

def putK (l : List Fld) (n : Int) : Nat := l.findIdx (fun f => decide (n < f.n))
theorem putK_le (l : List Fld) (n : Int) : putK l n ≤ l.length := List.findIdx_le_length
theorem putK_hit {l : List Fld} {n : Int} {i : Nat} (hi : i < l.length) (hp : n < l[i].n) (hno : ∀ j (hj : j < i), ¬ n < (l[j]'(by omega)).n) : putK l n = i := by
  unfold putK
  rw [List.findIdx_eq hi]
  exact ⟨by simpa using hp, fun j hj => by simpa using hno j hj⟩
theorem putK_miss {l : List Fld} {n : Int} (hno : ∀ j (hj : j < l.length), ¬ n < l[j].n) : putK l n = l.length := by
  unfold putK
  rw [List.findIdx_eq_length]
  intro f hf
  obtain ⟨j, hj, rfl⟩ := List.mem_iff_getElem.1 hf
  simpa using hno j hj
def notN (n : Int) (f : Fld) : Bool := !decide (f.n = n)
def putL (l : List Fld) (n : Int) (s : ByteArray) : List Fld := (l.take (putK l n)).filter (notN n) ++ [⟨n, s⟩] ++ (l.drop (putK l n)).filter (notN n)
def putP (l : List Fld) (n : Int) (k i : Nat) : Bool := decide ((l.getD i ⟨0, ⟨#[]⟩⟩).n = n) && !decide (i = k)
theorem insF_lt {l : List Fld} {k j : Nat} {f : Fld} (hk : k ≤ l.length) (hj : j < k) : (insF l k f)[j]? = l[j]? := by
  unfold insF
  rw [List.append_assoc, List.getElem?_append_left (by rw [List.length_take]; omega), List.getElem?_take_of_lt hj]
theorem insF_at {l : List Fld} {k : Nat} {f : Fld} (hk : k ≤ l.length) : (insF l k f)[k]? = some f := by
  unfold insF
  rw [List.append_assoc, List.getElem?_append_right (by rw [List.length_take]; omega), List.length_take, Nat.min_eq_left hk, Nat.sub_self]
  rfl
theorem insF_gt {l : List Fld} {k d : Nat} {f : Fld} (hk : k ≤ l.length) : (insF l k f)[k + 1 + d]? = (l.drop k)[d]? := by
  unfold insF
  rw [List.append_assoc, List.getElem?_append_right (by rw [List.length_take]; omega), List.length_take, Nat.min_eq_left hk, show k + 1 + d - k = d + 1 by omega]
  rfl
theorem get_of {α : Type} {a b : List α} {i j : Nat} (hi : i < a.length) (hj : j < b.length) (h : a[i]? = b[j]?) : a[i] = b[j] := by
  rw [List.getElem?_eq_getElem hi, List.getElem?_eq_getElem hj] at h
  exact Option.some.inj h
theorem keep_ins (l : List Fld) (k : Nat) (hk : k ≤ l.length) (n : Int) (f : Fld) (p : Nat → Bool) (hp : ∀ i, i < (insF l k f).length → p i = (decide (((insF l k f).getD i ⟨0, ⟨#[]⟩⟩).n = n) && !decide (i = k))) : keepL p (insF l k f) (insF l k f).length = (l.take k).filter (notN n) ++ [f] ++ (l.drop k).filter (notN n) := by
  have hlen := insF_len l hk f
  have hA : ∀ j, j ≤ k → keepL p (insF l k f) j = (l.take j).filter (notN n) := by
    intro j
    induction j with
    | zero => intro _; rfl
    | succ j ih =>
      intro hj
      have hjl : j < (insF l k f).length := by omega
      have hg : (insF l k f)[j] = l[j]'(by omega) := get_of hjl (by omega) (insF_lt hk (by omega))
      rw [keepL_succ _ _ hjl, ih (by omega), hp j hjl, List.take_succ_eq_append_getElem (by omega), List.filter_append]
      congr 1
      rw [List.getD_eq_getElem?_getD, List.getElem?_eq_getElem hjl, Option.getD_some, hg, decide_eq_false (show ¬ j = k by omega)]
      by_cases h : (l[j]'(by omega)).n = n
      · simp [h, notN]
      · simp [h, notN]
  have hB : ∀ d, d ≤ l.length - k → keepL p (insF l k f) (k + 1 + d) = (l.take k).filter (notN n) ++ [f] ++ ((l.drop k).take d).filter (notN n) := by
    intro d
    induction d with
    | zero =>
      intro _
      have hkl : k < (insF l k f).length := by omega
      have hg : (insF l k f)[k] = f := by
        have := insF_at (f := f) hk
        rw [List.getElem?_eq_getElem hkl] at this
        exact Option.some.inj this
      rw [Nat.add_zero, keepL_succ _ _ hkl, hA k (Nat.le_refl _), hp k hkl, hg]
      simp
    | succ d ih =>
      intro hd
      have hjl : k + 1 + d < (insF l k f).length := by omega
      have hdl : d < (l.drop k).length := by rw [List.length_drop]; omega
      have hg : (insF l k f)[k + 1 + d] = (l.drop k)[d] := get_of hjl hdl (insF_gt hk)
      rw [← Nat.add_assoc, keepL_succ _ _ hjl, ih (by omega), hp _ hjl, List.take_succ_eq_append_getElem hdl, List.filter_append, ← List.append_assoc]
      congr 1
      rw [List.getD_eq_getElem?_getD, List.getElem?_eq_getElem hjl, Option.getD_some, hg, decide_eq_false (show ¬ k + 1 + d = k by omega)]
      generalize (l.drop k)[d] = x
      by_cases h : x.n = n
      · simp [h, notN]
      · simp [h, notN]
  have := hB (l.length - k) (Nat.le_refl _)
  have e : (l.drop k).take (l.length - k) = l.drop k := List.take_of_length_le (by rw [List.length_drop]; omega)
  rw [show k + 1 + (l.length - k) = (insF l k f).length by omega, e] at this
  exact this
def PutIdxP (l : List Fld) (n : Int) (w : World) (e : Ending) (w' : World) : Prop := ∃ x : Int, e = .returned (.int .i64 x) ∧ (0 ≤ x ∧ x = (putK l n : Int) ∨ x = -1 ∧ putK l n = l.length) ∧ Fr noBlock w w'
theorem put_idx {w : World} {so : Option Addr} {cap B : Nat} {l : List Fld} {n : Int} (h : RowRd FldR w so l) (hB : w.heap[B]? = some (.cells #[.int .i64 n] 3 (0, 0))) (hl : l.length ≤ maxLen) : Calls Tryz.prog 181 #[.slice so l.length cap, .func (.func 182) #[] #[.pointer (some ⟨B, 0, none⟩)]] w (PutIdxP l n w) := by
  refine (indexF_any cap l 182 #[.pointer (some ⟨B, 0, none⟩)] (enters_of Tryz.func182 (by kernel_rfl) rfl) (fun i => decide (n < (l.getD i ⟨0, ⟨#[]⟩⟩).n)) (fun _ W => Fr noBlock w W) (fun i W hf => h.fr0 hf) (fun i hi W hf => ?_) hl w (Fr.refl _ _)).mono ?_
  · have hb := hf.obj hB (fun x => x)
    have c := cell_of hb 0
    simp at c
    have hc := put1_any l[i] n B W c (heap_lt hb)
    refine hc.mono fun e w' ⟨h1, h2⟩ => ⟨?_, hf.trans' h2⟩
    rw [h1, List.getD_eq_getElem?_getD, List.getElem?_eq_getElem hi, Option.getD_some]
  · rintro e w' (⟨i, hi, hp, hno, rfl, hf⟩ | ⟨hno, rfl, hf⟩)
    · refine ⟨(i : Int), rfl, .inl ⟨by omega, ?_⟩, hf⟩
      rw [putK_hit hi (by simpa [List.getD_eq_getElem?_getD, List.getElem?_eq_getElem hi] using hp) (fun j hj => by
        have := hno j hj
        simpa [List.getD_eq_getElem?_getD, List.getElem?_eq_getElem (show j < l.length by omega)] using this)]
    · refine ⟨-1, rfl, .inr ⟨rfl, putK_miss (fun j hj => by
        have := hno j hj
        simpa [List.getD_eq_getElem?_getD, List.getElem?_eq_getElem hj] using this)⟩, hf⟩
def PutDelP (l : List Fld) (n : Int) (s : ByteArray) (g cap A : Nat) (w : World) (e : Ending) (w' : World) : Prop := e = .returned (.slice (some ⟨g, 0, none⟩) (putL l n s).length cap) ∧ RowAt 31 FldR w' (.slice (some ⟨g, 0, none⟩) (putL l n s).length cap) (putL l n s) ∧ Fr (fun q => q = g ∨ q = A) w w'
theorem put_del {w : World} {g cap A N K : Nat} {l : List Fld} {n : Int} {s : ByteArray} (h : RowAt 31 FldR w (.slice (some ⟨g, 0, none⟩) (insF l (putK l n) ⟨n, s⟩).length cap) (insF l (putK l n) ⟨n, s⟩)) (hd : Del2 w A N K 0 n (putK l n : Int)) (hAN : A ≠ N) (hAK : A ≠ K) (hgA : g ≠ A) (hgN : g ≠ N) (hgK : g ≠ K) (hl : l.length ≤ 140737488350000) :
    Calls Tryz.prog 184 #[.slice (some ⟨g, 0, none⟩) (insF l (putK l n) ⟨n, s⟩).length cap, .func (.func 185) #[] #[.pointer (some ⟨A, 0, none⟩), .pointer (some ⟨N, 0, none⟩), .pointer (some ⟨K, 0, none⟩)]] w (PutDelP l n s g cap A w) := by
  have hkl := putK_le l n
  have hil := insF_len l hkl ⟨n, s⟩
  refine (deleteF_any (cap := cap) (insF l (putK l n) ⟨n, s⟩) 185 #[.pointer (some ⟨A, 0, none⟩), .pointer (some ⟨N, 0, none⟩), .pointer (some ⟨K, 0, none⟩)] (enters_of Tryz.func185 (by kernel_rfl) rfl) (putP (insF l (putK l n) ⟨n, s⟩) n (putK l n)) (fun i W => Del2 W A N K (i : Int) n (putK l n : Int)) (fun q => q = A) (fun e => hgA e) (fun i W W' hJ hf => hJ.fr hf (fun e => hgA e.symm) (fun e => hgN e.symm) (fun e => hgK e.symm)) (fun i hi W hJ => ?_) (by omega) w (fun k hk => by subst hk; exact heap_lt hd.a) h hd).mono ?_
  · have hc := put2_any ((insF l (putK l n) ⟨n, s⟩)[i]) hJ hAN hAK (by omega) (by omega)
    refine hc.mono fun e w' ⟨h1, h2, h3⟩ => ⟨?_, h2, h3⟩
    rw [h1]
    unfold putP
    rw [List.getD_eq_getElem?_getD, List.getElem?_eq_getElem hi, Option.getD_some]
    congr 3
    rw [Bool.eq_iff_iff]
    simp
    omega
  · rintro e w' ⟨m, rfl, rfl, hr, hf⟩
    have hk : keepL (putP (insF l (putK l n) ⟨n, s⟩) n (putK l n)) (insF l (putK l n) ⟨n, s⟩) (insF l (putK l n) ⟨n, s⟩).length = putL l n s := keep_ins l (putK l n) hkl n ⟨n, s⟩ _ (fun i hi => rfl)
    rw [hk] at hr ⊢
    exact ⟨rfl, hr, hf⟩
def PutP (t : ByteArray) (l : List Fld) (n : Int) (s : ByteArray) (w : World) (e : Ending) (w' : World) : Prop := ∃ sv : SV, e = .returned (.agg #[.string t, sv.val]) ∧ sv.n = (putL l n s).length ∧ RowAt 31 FldR w' sv.val (putL l n s) ∧ Fr noBlock w w' ∧ ∀ k, sv.val.ownBlock = some k → w.heap.size ≤ k
structure PutB (w W : World) (t : ByteArray) (ao : Option Addr) (ln cap : Nat) (n : Int) : Prop where
  m : W.heap[w.heap.size]? = some (.cells #[.string t, .slice ao ln cap] 25 (0, 0))
  n : W.heap[w.heap.size + 1]? = some (.cells #[.int .i64 n] 3 (0, 0))
  r : W.heap[w.heap.size + 1 + 1]? = some (.cells #[.string ⟨#[]⟩, .slice none 0 0] 25 (0, 0))
  fr : Fr noBlock w W
namespace PutB
variable {w W W' : World} {t : ByteArray} {ao : Option Addr} {ln cap : Nat} {n : Int}
theorem turn {S : Nat → Prop} (h : PutB w W t ao ln cap n) (f : Fr S W W') (hS : ∀ k, S k → w.heap.size + 1 + 1 < k) : PutB w W' t ao ln cap n :=
  ⟨f.obj h.m (fun e => by have := hS _ e; omega), f.obj h.n (fun e => by have := hS _ e; omega), f.obj h.r (fun e => by have := hS _ e; omega), h.fr.trans f (fun k hk => .inr (by have := hS k hk; omega))⟩
theorem on (h : PutB w W t ao ln cap n) (f : Fr noBlock W W') : PutB w W' t ao ln cap n := h.turn f (fun _ hk => hk.elim)
theorem lt (h : PutB w W t ao ln cap n) : w.heap.size + 1 + 1 < W.heap.size := heap_lt h.r
end PutB
set_option maxRecDepth 100000 in
set_option maxHeartbeats 3200000 in
theorem put_any {w : World} (t : ByteArray) {ao : Option Addr} {cap : Nat} {l : List Fld} (n : Int) (s : ByteArray) (h : RowRd FldR w ao l) (hno : ao = none → cap = 0) (hl : l.length * 24 ≤ 140737488351232) : Calls Tryz.prog 119 #[.agg #[.string t, .slice ao l.length cap], .int .i64 n, .string s] w (PutP t l n s w) := by
  have HB0 := Lib.hid (show PutB w (((w.alloc (.cells #[.string t, .slice ao l.length cap] 25)).alloc (.cells #[.int .i64 n] 3)).alloc (.cells #[.string ⟨#[]⟩, .slice none 0 0] 25)) t ao l.length cap n from
    ⟨heap_old _ (heap_old _ (heap_new w _)), heap_old _ (by have := heap_new (w.alloc (.cells #[.string t, .slice ao l.length cap] 25)) (.cells #[.int .i64 n] 3); simpa using this), by have := heap_new ((w.alloc (.cells #[.string t, .slice ao l.length cap] 25)).alloc (.cells #[.int .i64 n] 3)) (.cells #[.string ⟨#[]⟩, .slice none 0 0] 25); simpa using this, (((Fr.refl noBlock w).alloc _).alloc _).alloc _⟩)
  have HCl := Lib.hid (fclone_any (h.fr0 HB0.out.fr) cap (by omega) hno)
  unfold FCloneP at HCl
  have hkl := putK_le l n
  have hlI : (l.length : Int) ≤ 5864062014801 := by omega
  clear h hno
  go_enter Tryz.func119, Tryz.ntmps119
  go_wp2_with fail
  refine HCl.out.mono ?_
  rintro e w1 ⟨⟨sa, sn, sc⟩, rfl, h1, h2, h3, h4⟩
  simp only at h1
  subst h1
  have HB1 := Lib.hid (HB0.out.on h3)
  have HR1 := Lib.hid (And.intro (show RowAt 31 FldR w1 (.slice sa l.length sc) l from h2) (show ∀ k, (Value.slice sa l.length sc).ownBlock = some k → w.heap.size + 1 + 1 < k from fun k hk => by have := h4 k hk; have := HB0.out.lt; omega))
  unfold SV.val
  dsimp only
  clear h2 h3 h4 HCl HB0
  have HIx := Lib.hid (put_idx (cap := sc) (B := w.heap.size + 1) (n := n) (RowAt.rd HR1.out.1) HB1.out.n (by unfold maxLen; omega))
  unfold PutIdxP at HIx
  go_wp2_with fail
  refine HIx.out.mono ?_
  rintro e w2 ⟨x, rfl, hx, f2⟩
  have HB2 := Lib.hid (HB1.out.on f2)
  have HR2 := Lib.hid (And.intro (HR1.out.1.fr0 f2) HR1.out.2)
  have HX := Lib.hid hx
  clear hx f2 HIx HB1 HR1
  have HK2 := Lib.hid (heap_new w2 (.cells #[.int .i64 x] 3))
  have hk2 := cell_of HK2.out 0
  have hz2 := free_of HK2.out 0
  simp at hk2
  go_upto_if 17 with fail
  go_cut [18, 19] from 18 to 19 (fun s18 s19 wx => Hid (wx.heap[w2.heap.size]? = some (.cells #[.int .i64 (putK l n : Int)] 3 (0, 0)) ∧ Fr noBlock w2 wx))
  case first =>
    by_cases hx0 : 0 ≤ x
    · have hxk : x = (putK l n : Int) := by
        rcases HX.out with h | h
        · exact h.2
        · omega
      have HF := Lib.hid (show ((w2.alloc (.cells #[.int .i64 x] 3)).heap[w2.heap.size]? = some (.cells #[.int .i64 (putK l n : Int)] 3 (0, 0)) ∧ Fr noBlock w2 (w2.alloc (.cells #[.int .i64 x] 3))) by rw [← hxk]; exact ⟨HK2.out, (Fr.refl noBlock w2).alloc _⟩)
      clear hxk
      go_wp2_with fail
      go_meet
      exact HF
    · have hx1 : x < 0 := by omega
      have hxk : putK l n = l.length := by
        rcases HX.out with h | h
        · omega
        · exact h.2
      have HF := Lib.hid (show ((w2.alloc (.cells #[.int .i64 (l.length : Int)] 3)).heap[w2.heap.size]? = some (.cells #[.int .i64 (putK l n : Int)] 3 (0, 0)) ∧ Fr noBlock w2 (w2.alloc (.cells #[.int .i64 (l.length : Int)] 3))) by rw [hxk]; exact ⟨heap_new w2 _, (Fr.refl noBlock w2).alloc _⟩)
      clear hxk hx0
      go_wp2_with fail
      go_meet
      exact HF
  have HB3 := Lib.hid (HB2.out.on hcut.out.2)
  have HR3 := Lib.hid (And.intro (HR2.out.1.fr0 hcut.out.2) HR2.out.2)
  have HK3 := Lib.hid hcut.out.1
  have hw2s : w.heap.size + 1 + 1 < w2.heap.size := HB2.out.lt
  have hrow2 : ∀ k, (Value.slice sa l.length sc).ownBlock = some k → k < w2.heap.size := fun k hk => HR2.out.1.lt k hk
  have HLt := Lib.hid hrow2
  clear hcut HB2 HR2 HK2 HX hk2 hz2 hrow2
  generalize w2.heap.size = K at *
  have kk := cell_of HK3.out 0
  have nn := cell_of HB3.out.n 0
  simp at kk nn
  have hKw := heap_lt HK3.out
  have HIns := Lib.hid (insert_any (vb := wc.heap.size) (k := putK l n) (f := ⟨n, s⟩) (HR3.out.1.fr0 ((Fr.refl noBlock wc).alloc (.cells #[.int .i64 n, .string s] 31))) (heap_new wc _) (fun e => by have := HLt.out _ e; omega) hkl (by omega))
  unfold GrewP at HIns
  go_wp2_with fail
  refine HIns.out.mono ?_
  rintro e w4 ⟨⟨ga, gn, gc⟩, rfl, h1, h2, h3, h4⟩
  simp only at h1
  subst h1
  unfold SV.val at h2 h4 ⊢
  dsimp only at h2 h4 ⊢
  have hf4 : Fr (fun k => (Value.slice sa l.length sc).ownBlock = some k) wc w4 := ((Fr.refl (fun k => (Value.slice sa l.length sc).ownBlock = some k) wc).alloc (.cells #[.int .i64 n, .string s] 31)).trans' h3
  have HB4 := Lib.hid (HB3.out.turn hf4 (fun k hk => HR3.out.2 k hk))
  have HK4 := Lib.hid (hf4.obj HK3.out (fun e => by have := HLt.out _ e; omega))
  have hil := insF_len l hkl ⟨n, s⟩
  obtain ⟨g, gcap, eg, -, hown⟩ := h2.block' (by omega)
  simp only [Value.slice.injEq] at eg
  obtain ⟨rfl, -, rfl⟩ := eg
  have hgK : g ≠ K := fun e => by
    rcases h4 g rfl with h | h
    · have := HLt.out _ h; omega
    · simp at h; omega
  have hgw : w.heap.size + 1 + 1 < g := by
    rcases h4 g rfl with h | h
    · exact HR3.out.2 _ h
    · simp at h; omega
  have HR4 := Lib.hid h2
  have hgl : g < w4.heap.size := h2.lt g rfl
  have hKl : K < w4.heap.size := heap_lt HK4.out
  clear h2 h3 h4 hf4 hown HIns HK3 HB3 HR3 kk nn hKw HLt
  have HF5 := Lib.hid ((Fr.refl noBlock w4).alloc (.cells #[.int .i64 0] 3))
  have HD := Lib.hid (put_del (A := w4.heap.size) (N := w.heap.size + 1) (K := K) (HR4.out.fr0 HF5.out) ⟨heap_new w4 _, HF5.out.obj HB4.out.n (fun x => x), HF5.out.obj HK4.out (fun x => x)⟩ (by omega) (by omega) (by omega) (by omega) hgK (by omega))
  unfold PutDelP at HD
  rw [hil] at HD ⊢
  have HB5 := Lib.hid (HB4.out.on HF5.out)
  have hA : w.heap.size + 1 + 1 < w4.heap.size := HB4.out.lt
  go_wp2_with fail
  refine HD.out.mono ?_
  rintro e w6 ⟨rfl, hr6, f6⟩
  have HB6 := Lib.hid (HB5.out.turn f6 (fun k hk => by rcases hk with rfl | rfl; exact hgw; exact hA))
  have HR6 := Lib.hid hr6
  have m0 := cell_of HB6.out.m 0
  have m1 := cell_of HB6.out.m 1
  have mz := free_of HB6.out.m 1
  have q0 := cell_of HB6.out.r 0
  have q1 := cell_of HB6.out.r 1
  have qz0 := free_of HB6.out.r 0
  have qz1 := free_of HB6.out.r 1
  simp at m0 m1 q0 q1
  have hm2 := heap_set_ne (b := w.heap.size) (i := 1) (u := .slice (some ⟨g, 0, none⟩) (putL l n s).length gc) HB6.out.r (by omega)
  obtain ⟨e1, e2, e3⟩ := set_cells hm2 (.string t) (.slice (some ⟨g, 0, none⟩) (putL l n s).length gc)
  have HE := Lib.hid (And.intro e2 e3)
  have HFin := Lib.hid (show PutP t l n s w (.returned (.agg #[.string t, .slice (some ⟨g, 0, none⟩) (putL l n s).length gc])) (((w6.setCell ⟨w.heap.size, 1, none⟩ (.slice (some ⟨g, 0, none⟩) (putL l n s).length gc)).setCell ⟨w.heap.size + 1 + 1, 0, none⟩ (.string t)).setCell ⟨w.heap.size + 1 + 1, 1, none⟩ (.slice (some ⟨g, 0, none⟩) (putL l n s).length gc)) from by
    have hf : Fr (fun k => k = w.heap.size ∨ k = w.heap.size + 1 + 1) w6 (((w6.setCell ⟨w.heap.size, 1, none⟩ (.slice (some ⟨g, 0, none⟩) (putL l n s).length gc)).setCell ⟨w.heap.size + 1 + 1, 0, none⟩ (.string t)).setCell ⟨w.heap.size + 1 + 1, 1, none⟩ (.slice (some ⟨g, 0, none⟩) (putL l n s).length gc)) :=
      (((Fr.refl (fun k => k = w.heap.size ∨ k = w.heap.size + 1 + 1) w6).setCell (p := ⟨w.heap.size, 1, none⟩) (.inl (.inl rfl)) _).setCell (p := ⟨w.heap.size + 1 + 1, 0, none⟩) (.inl (.inr rfl)) _).setCell (p := ⟨w.heap.size + 1 + 1, 1, none⟩) (.inl (.inr rfl)) _
    refine ⟨⟨some ⟨g, 0, none⟩, (putL l n s).length, gc⟩, rfl, rfl, HR6.out.fr hf (fun k hk e => ?_), HB6.out.fr.trans hf (fun k hk => .inr (by rcases hk with rfl | rfl <;> omega)), fun k hk => ?_⟩
    · have ek : g = k := by simpa [SV.val, Value.ownBlock] using hk
      rcases e with e | e <;> omega
    · have ek : g = k := by simpa [SV.val, Value.ownBlock] using hk
      omega)
  clear hm2 e1 e2 e3 HB6 HR6
  go_wp2_with fail
  obtain ⟨e2, e3⟩ := HE.out
  exact bodyPost_ret (v := .agg #[.string t, .slice (some ⟨g, 0, none⟩) (putL l n s).length gc]) (by simp [results, Tryz.results119, go_sem, e2, e3]) rfl HFin.out
end Go.Proofs.YtajhgejhdalobaaGreatDoor
