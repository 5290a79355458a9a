/-
  THE WALK of the document's Put.
-/
import Derived.Test.YthckgkghmlkcnaaDoorIsPuts
namespace Go.Proofs.YthckgkghmlkcnaaDoor
open Go.RowKit

/-- what is put ahead of the i-th field, and what then stays -/
def rpA (n : Int) (s : ByteArray) (st : Bool × List Fld) (f : Fld) : Bool × List Fld := if st.1 = false ∧ n < f.n then (true, st.2 ++ [⟨n, s⟩]) else st
def rpB (n : Int) (st : Bool × List Fld) (f : Fld) : Bool × List Fld := if f.n = n then st else (st.1, st.2 ++ [f])
def rpL (n : Int) (s : ByteArray) : Bool × List Fld → List Fld → Bool × List Fld
  | st, [] => st
  | st, f :: l => rpL n s (rpB n (rpA n s st f) f) l
def rpE (n : Int) (s : ByteArray) (st : Bool × List Fld) : List Fld := if st.1 = true then st.2 else st.2 ++ [⟨n, s⟩]
theorem rp_done (n : Int) (s : ByteArray) : ∀ (l a : List Fld), rpL n s (true, a) l = (true, a ++ l.filter (notN n)) := by
  intro l
  induction l with
  | nil => intro a; simp [rpL]
  | cons f l ih =>
    intro a
    have e : rpA n s (true, a) f = (true, a) := by unfold rpA; rw [if_neg (by simp)]
    unfold rpL
    rw [e]
    unfold rpB
    by_cases h : f.n = n
    · rw [if_pos h, ih, List.filter_cons, if_neg (by simp [notN, h])]
    · rw [if_neg h, ih, List.filter_cons, if_pos (by simp [notN, h])]
      simp
theorem put_cons_lt {n : Int} {f : Fld} (h : n < f.n) (l : List Fld) (s : ByteArray) : putL (f :: l) n s = [⟨n, s⟩] ++ (f :: l).filter (notN n) := by
  have e : putK (f :: l) n = 0 := by unfold putK; rw [List.findIdx_cons]; simp [h]
  unfold putL
  rw [e]
  rfl
theorem put_cons_ge {n : Int} {f : Fld} (h : ¬ n < f.n) (l : List Fld) (s : ByteArray) : putL (f :: l) n s = [f].filter (notN n) ++ putL l n s := by
  have e : putK (f :: l) n = putK l n + 1 := by unfold putK; rw [List.findIdx_cons]; simp [h]
  unfold putL
  rw [e, List.take_succ_cons, List.drop_succ_cons, List.filter_cons]
  by_cases hn : f.n = n
  · simp [notN, hn]
  · simp [notN, hn]
theorem rp_put (n : Int) (s : ByteArray) : ∀ (l a : List Fld), rpE n s (rpL n s (false, a) l) = a ++ putL l n s := by
  intro l
  induction l with
  | nil => intro a; rfl
  | cons f l ih =>
    intro a
    unfold rpL
    by_cases h : n < f.n
    · have e : rpA n s (false, a) f = (true, a ++ [⟨n, s⟩]) := by unfold rpA; rw [if_pos ⟨rfl, h⟩]
      have e2 : rpB n (true, a ++ [⟨n, s⟩]) f = (true, a ++ [⟨n, s⟩] ++ [f]) := by unfold rpB; rw [if_neg (by omega)]
      rw [e, e2, rp_done, put_cons_lt h]
      unfold rpE
      rw [if_pos rfl, List.filter_cons, if_pos (by simp [notN]; omega)]
      simp
    · have e : rpA n s (false, a) f = (false, a) := by unfold rpA; rw [if_neg (fun x => h x.2)]
      rw [e, put_cons_ge h]
      unfold rpB
      by_cases hn : f.n = n
      · rw [if_pos hn, ih]
        simp [notN, hn]
      · rw [if_neg hn, ih]
        simp [notN, hn]
theorem rp_len (n : Int) (s : ByteArray) (st : Bool × List Fld) (f : Fld) : (rpB n (rpA n s st f) f).2.length ≤ st.2.length + 2 ∧ ((rpA n s st f).1 = st.1 → (rpB n (rpA n s st f) f).2.length ≤ st.2.length + 1) := by
  unfold rpB rpA
  constructor
  · split <;> split <;> simp
  · split
    · rename_i h
      intro e
      rw [h.1] at e
      cases e
    · intro _
      split <;> simp
/-- how the document's Put stands -/
structure RPSt (w wr : World) (t : ByteArray) (ao : Option Addr) (ln cap : Nat) (fo : Option Addr) (fn fc : Nat) (fs : List Fld) : Prop where
  m : wr.heap[w.heap.size]? = some (.cells #[.string t, .slice ao ln cap] 27 (0, 0))
  r : wr.heap[w.heap.size + 1]? = some (.cells #[.string ⟨#[]⟩, .slice none 0 0] 27 (0, 0))
  own : wr.ownsRow (w.heap.size + 1 + 1) 41 FldR.k (.slice fo fn fc) fn (FldR.flat fs)
  len : fs.length = fn
  fr : Fr noBlock w wr
namespace RPSt
variable {w wr w5 w6 : World} {t : ByteArray} {ao : Option Addr} {ln cap : Nat} {fo fo2 : Option Addr} {fn fc fn2 fc2 : Nat} {fs : List Fld}
theorem base (h : RPSt w wr t ao ln cap fo fn fc fs) : w.heap.size + 1 + 1 ≤ wr.heap.size := heap_lt h.r
theorem grow (h : RPSt w wr t ao ln cap fo fn fc fs) (f : Fr noBlock wr w5) (f2 : Fld) (o6 : w6.ownsRow (w.heap.size + 1 + 1) 41 FldR.k (.slice fo2 fn2 fc2) fn2 (FldR.flat (fs ++ [f2]))) (hn : fn2 = fn + 1) (g6 : w5.grownBy w6 (Value.slice fo fn fc).ownBlock) :
    RPSt w w6 t ao ln cap fo2 fn2 fc2 (fs ++ [f2]) := by
  have hlt : ∀ k, (Value.slice fo fn fc).ownBlock = some k → w.heap.size + 1 + 1 ≤ k := fun k hk => (h.own.lt k hk).1
  have m5 := f.obj h.m (fun x => x)
  have r5 := f.obj h.r (fun x => x)
  exact ⟨(g6.block _ (heap_lt m5) (fun e => by have := hlt _ e.symm; omega)).trans m5, (g6.block _ (heap_lt r5) (fun e => by have := hlt _ e.symm; omega)).trans r5, o6, by rw [List.length_append, h.len, hn]; rfl, (h.fr.trans f (fun _ hk => hk.elim)).grown g6 (fun k hk => .inr (by have := hlt k hk; omega))⟩
theorem ownA (h : RPSt w wr t ao ln cap fo fn fc fs) (o : Obj) : (wr.alloc o).ownsRow (w.heap.size + 1 + 1) 41 FldR.k (.slice fo fn fc) fn (FldR.flat fs) := ownsRow_fr h.own ((Fr.refl noBlock wr).alloc o) (fun _ _ x => x)
theorem fin (h : RPSt w wr t ao ln cap fo fn fc fs) :
    (((wr.setCell ⟨w.heap.size + 1, 0, none⟩ (.string t)).setCell ⟨w.heap.size + 1, 1, none⟩ (.slice fo fn fc)).cell? ⟨w.heap.size + 1, 0, none⟩ = some (.string t) ∧ ((wr.setCell ⟨w.heap.size + 1, 0, none⟩ (.string t)).setCell ⟨w.heap.size + 1, 1, none⟩ (.slice fo fn fc)).cell? ⟨w.heap.size + 1, 1, none⟩ = some (.slice fo fn fc)) ∧
    ∀ {l : List Fld} {n : Int} {s : ByteArray}, fs = putL l n s → PutP t l n s w (.returned (.agg #[.string t, .slice fo fn fc])) ((wr.setCell ⟨w.heap.size + 1, 0, none⟩ (.string t)).setCell ⟨w.heap.size + 1, 1, none⟩ (.slice fo fn fc)) := by
  have hf : Fr (fun k => k = w.heap.size + 1) wr ((wr.setCell ⟨w.heap.size + 1, 0, none⟩ (.string t)).setCell ⟨w.heap.size + 1, 1, none⟩ (.slice fo fn fc)) :=
    ((Fr.refl (fun k => k = w.heap.size + 1) wr).setCell (p := ⟨w.heap.size + 1, 0, none⟩) (.inl rfl) _).setCell (p := ⟨w.heap.size + 1, 1, none⟩) (.inl rfl) _
  refine ⟨(set_cells h.r (.string t) (.slice fo fn fc)).2, ?_⟩
  rintro l n s rfl
  have hl := h.len
  refine ⟨⟨fo, fn, fc⟩, rfl, hl.symm, ?_, h.fr.trans hf (fun k hk => .inr (by subst hk; omega)), fun k hk => ?_⟩
  · exact RowAt.of_own (ownsRow_fr h.own hf (fun k hk e => by have := (h.own.lt k hk).1; have e' : k = w.heap.size + 1 := e; omega)) hl.symm
  · have := (h.own.lt k hk).1
    omega
end RPSt
set_option maxRecDepth 100000 in
set_option maxHeartbeats 3200000 in
theorem rput_any {w : World} (t : ByteArray) {ao : Option Addr} (cap : Nat) {l : List Fld} (n : Int) (s : ByteArray) (h : RowRd FldR w ao l) (hl : l.length * 24 ≤ 140737488351232) : Calls Tryd.prog 22 #[.agg #[.string t, .slice ao l.length cap], .int .i64 n, .string s] w (PutP t l n s w) := by
  have HR := Lib.hid h
  have HS0 := Lib.hid (show RPSt w ((w.alloc (.cells #[.string t, .slice ao l.length cap] 27)).alloc (.cells #[.string ⟨#[]⟩, .slice none 0 0] 27)) t ao l.length cap none 0 0 [] from
    ⟨heap_old _ (heap_new w _), by have := heap_new (w.alloc (.cells #[.string t, .slice ao l.length cap] 27)) (.cells #[.string ⟨#[]⟩, .slice none 0 0] 27); simpa using this, World.ownsRow_nil _ _ _ _, rfl, ((Fr.refl noBlock w).alloc _).alloc _⟩)
  have hlI : l.length ≤ 5864062014634 := by omega
  clear h
  go_enter Tryd.func22, Tryd.ntmps22
  go_wp2_with fail
  go_loopw [7, 8, 9] (fun s7 s8 s9 wr => ∃ (i fn fc : Nat) (fo : Option Addr) (d : Bool) (fs : List Fld), i ≤ l.length ∧ fn ≤ i + d.toNat ∧ s9 = .int .i64 i ∧ s8 = .bool d ∧ s7 = .slice fo fn fc ∧ Hid (RPSt w wr t ao l.length cap fo fn fc fs) ∧ Hid (rpE n s (rpL n s (d, fs) (l.drop i)) = putL l n s)) (fun _ _ s9 _ => l.length - (intOf s9).toNat)
  case atStart => exact ⟨0, 0, 0, none, false, [], Nat.zero_le _, Nat.zero_le _, rfl, rfl, rfl, HS0, Lib.hid (rp_put n s l [])⟩
  case round =>
    clear HS0
    obtain ⟨i, fn, fc, fo, d, fs, hi, hfn, rfl, rfl, rfl, HS, HI⟩ := hrel
    have x0 := cell_of HS.out.m 0
    have x1 := cell_of HS.out.m 1
    simp at x0 x1
    by_cases hlt : i < l.length
    · have q1 : (i : Int) < (l.length : Int) := by omega
      have q0 : (0 : Int) ≤ (i : Int) := by omega
      have hi' : i + 1 ≤ l.length := hlt
      obtain ⟨b, off, rfl, hb, y0, y1⟩ := fld_cells (HR.out.fr0 HS.out.fr) hlt
      have HY := Lib.hid (show ∀ W, Fr noBlock w W → W.cell? ⟨b, off + i * 2, none⟩ = some (.int .i64 l[i].n) ∧ W.cell? ⟨b, off + i * 2 + 1, none⟩ = some (.string l[i].v) from fun W hf => by
        obtain ⟨b', off', e, _, z0, z1⟩ := fld_cells (HR.out.fr0 hf) hlt
        cases e
        exact ⟨z0, z1⟩)
      have hdr : l.drop i = l[i] :: l.drop (i + 1) := (List.drop_eq_getElem_cons hlt)
      generalize l[i] = f at *
      obtain ⟨gn, gv⟩ := f
      simp only at y0 y1 HY
      have hI := HI.out
      rw [hdr] at hI
      unfold rpL at hI
      have HI2 := Lib.hid hI
      clear hdr hlt hI HI
      by_cases hc : d = false ∧ n < gn
      · obtain ⟨rfl, hng⟩ := hc
        have e1 : rpB n (rpA n s (false, fs) ⟨gn, gv⟩) ⟨gn, gv⟩ = (true, fs ++ [⟨n, s⟩] ++ [⟨gn, gv⟩]) := by
          unfold rpA
          rw [if_pos ⟨rfl, hng⟩]
          unfold rpB
          rw [if_neg (by show ¬ gn = n; omega)]
        have HI3 := Lib.hid (by have := HI2.out; rw [e1] at this; exact this)
        have hne : (gn != n) = true := by simp; omega
        have hfn0 : fn ≤ i := hfn
        clear e1 HI2
        go_wp2_with (at_builtin; apply stop_here)
        refine ⟨?_, trivial⟩
        refine wpList_app rfl _ _ rfl el_fld (v := .slice fo fn fc) fs [(⟨n, s⟩ : Fld)] (fs ++ [(⟨n, s⟩ : Fld)]) rfl (w.heap.size + 1 + 1) fn (fn + 1) (by rw [List.length_append, HS.out.len]; rfl) rfl (HS.out.ownA _) rfl (RowRd.one (heap_new wr _) (⟨n, s⟩ : Fld) rfl) rfl (by unfold maxLen; omega) (by omega) (by have := HS.out.base; simp; omega) ?_
        intro ao6 cap6 w6 o6 g6 _
        go_frame
        have HS6 := Lib.hid (HS.out.grow ((Fr.refl noBlock wr).alloc _) ⟨n, s⟩ o6 rfl g6)
        clear o6 g6
        clear x0 x1 y0 y1
        have x0 := cell_of HS6.out.m 0
        have x1 := cell_of HS6.out.m 1
        simp at x0 x1
        obtain ⟨y0, y1⟩ := HY.out _ HS6.out.fr
        go_wp2_with (at_builtin; apply stop_here)
        refine ⟨?_, trivial⟩
        refine wpList_app rfl _ _ rfl el_fld (v := .slice ao6 (fn + 1) cap6) (fs ++ [(⟨n, s⟩ : Fld)]) [(⟨gn, gv⟩ : Fld)] ((fs ++ [(⟨n, s⟩ : Fld)]) ++ [(⟨gn, gv⟩ : Fld)]) rfl (w.heap.size + 1 + 1) (fn + 1) ((fn + 1) + 1) (by rw [List.length_append, HS6.out.len]; rfl) rfl (HS6.out.ownA _) rfl (RowRd.one (heap_new w6 _) (⟨gn, gv⟩ : Fld) rfl) rfl (by unfold maxLen; omega) (by omega) (by have := HS6.out.base; simp; omega) ?_
        intro ao7 cap7 w7 o7 g7 _
        go_frame
        have HS7 := Lib.hid (HS6.out.grow ((Fr.refl noBlock w6).alloc _) ⟨gn, gv⟩ o7 rfl g7)
        clear o7 g7
        have hf2 : fn + 1 + 1 ≤ i + 1 + true.toNat := by simp; omega
        clear x0 x1 y0 y1
        go_wp2_with fail
        go_roundw
        case rel => exact ⟨i + 1, fn + 1 + 1, cap7, ao7, true, _, hi', hf2, by go_num, rfl, rfl, HS7, HI3⟩
        case measure => simp [intOf]; omega
      · have e0 : rpA n s (d, fs) ⟨gn, gv⟩ = (d, fs) := if_neg (fun x => hc x)
        have hI3 := HI2.out
        rw [e0] at hI3
        have hd : d = true ∨ (d = false ∧ gn ≤ n) := by
          cases d
          · exact .inr ⟨rfl, by exact Int.not_lt.1 (fun x => hc ⟨rfl, x⟩)⟩
          · exact .inl rfl
        have hfn1 : fn ≤ i + 1 := by have : d.toNat ≤ 1 := Bool.toNat_le d; omega
        by_cases he : gn = n
        · have e1 : rpB n (d, fs) ⟨gn, gv⟩ = (d, fs) := if_pos he
          rw [e1] at hI3
          have HI3 := Lib.hid hI3
          have hne : (gn != n) = false := by simpa using he
          have hf2 : fn ≤ i + 1 + d.toNat := by omega
          clear e0 e1 HI2 hI3 hc he
          rcases hd with rfl | ⟨rfl, hle⟩
          all_goals
            go_wp2_with fail
            go_roundw
            case rel => exact ⟨i + 1, fn, fc, fo, _, _, hi', hf2, by go_num, rfl, rfl, HS, HI3⟩
            case measure => simp [intOf]; omega
        · have e1 : rpB n (d, fs) ⟨gn, gv⟩ = (d, fs ++ [(⟨gn, gv⟩ : Fld)]) := if_neg he
          rw [e1] at hI3
          have HI3 := Lib.hid hI3
          have hne : (gn != n) = true := by simpa using he
          have hf2 : fn + 1 ≤ i + 1 + d.toNat := by omega
          clear e0 e1 HI2 hI3 hc he
          rcases hd with rfl | ⟨rfl, hle⟩
          all_goals
            go_wp2_with (at_builtin; apply stop_here)
            refine ⟨?_, trivial⟩
            refine wpList_app rfl _ _ rfl el_fld (v := .slice fo fn fc) fs [(⟨gn, gv⟩ : Fld)] (fs ++ [(⟨gn, gv⟩ : Fld)]) rfl (w.heap.size + 1 + 1) fn (fn + 1) (by rw [List.length_append, HS.out.len]; rfl) rfl (HS.out.ownA _) rfl (RowRd.one (heap_new wr _) (⟨gn, gv⟩ : Fld) rfl) rfl (by unfold maxLen; omega) (by omega) (by have := HS.out.base; simp; omega) ?_
            intro ao6 cap6 w6 o6 g6 _
            go_frame
            have HS6 := Lib.hid (HS.out.grow ((Fr.refl noBlock wr).alloc _) ⟨gn, gv⟩ o6 rfl g6)
            clear o6 g6
            clear x0 x1 y0 y1
            go_wp2_with fail
            go_roundw
            case rel => exact ⟨i + 1, fn + 1, cap6, ao6, _, _, hi', hf2, by go_num, rfl, rfl, HS6, HI3⟩
            case measure => simp [intOf]; omega
    · have q1 : (l.length : Int) ≤ (i : Int) := by omega
      have hI := HI.out
      rw [List.drop_eq_nil_of_le (by omega)] at hI
      have hfn1 : fn ≤ i + 1 := by have : d.toNat ≤ 1 := Bool.toNat_le d; omega
      clear hlt HI
      cases d with
      | true =>
        have HE := Lib.hid (show fs = putL l n s from hI)
        obtain ⟨h1, h2⟩ := HS.out.fin
        obtain ⟨f1, f2⟩ := h1
        have HF := Lib.hid (h2 HE.out)
        have HFs := Lib.hid (And.intro f1 f2)
        have z0 := free_of HS.out.r 0
        have z1 := free_of HS.out.r 1
        have u0 := cell_of HS.out.r 0
        have u1 := cell_of HS.out.r 1
        simp at u0 u1
        clear h2 hI f1 f2
        go_wp2_with fail
        obtain ⟨f1, f2⟩ := HFs.out
        exact bodyPost_ret (v := .agg #[.string t, .slice fo fn fc]) (by simp [results, Tryd.results22, go_sem, f1, f2]) rfl HF.out
      | false =>
        have HE := Lib.hid (show fs ++ [(⟨n, s⟩ : Fld)] = putL l n s from hI)
        clear hI
        go_wp2_with (at_builtin; apply stop_here)
        refine ⟨?_, trivial⟩
        refine wpList_app rfl _ _ rfl el_fld (v := .slice fo fn fc) fs [(⟨n, s⟩ : Fld)] (fs ++ [(⟨n, s⟩ : Fld)]) rfl (w.heap.size + 1 + 1) fn (fn + 1) (by rw [List.length_append, HS.out.len]; rfl) rfl (HS.out.ownA _) rfl (RowRd.one (heap_new wr _) (⟨n, s⟩ : Fld) rfl) rfl (by unfold maxLen; omega) (by omega) (by have := HS.out.base; simp; omega) ?_
        intro ao6 cap6 w6 o6 g6 _
        go_frame
        have HS6 := Lib.hid (HS.out.grow ((Fr.refl noBlock wr).alloc _) ⟨n, s⟩ o6 rfl g6)
        clear o6 g6
        clear x0 x1
        have x0 := cell_of HS6.out.m 0
        have x1 := cell_of HS6.out.m 1
        obtain ⟨h1, h2⟩ := HS6.out.fin
        obtain ⟨f1, f2⟩ := h1
        have HF := Lib.hid (h2 HE.out)
        have HFs := Lib.hid (And.intro f1 f2)
        have z0 := free_of HS6.out.r 0
        have z1 := free_of HS6.out.r 1
        have u0 := cell_of HS6.out.r 0
        have u1 := cell_of HS6.out.r 1
        simp at u0 u1 x0 x1
        clear h2 f1 f2
        go_wp2_with fail
        obtain ⟨f1, f2⟩ := HFs.out
        exact bodyPost_ret (v := .agg #[.string t, .slice ao6 (fn + 1) cap6]) (by simp [results, Tryd.results22, go_sem, f1, f2]) rfl HF.out
end Go.Proofs.YthckgkghmlkcnaaDoor
