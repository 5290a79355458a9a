/-
  THE WALK of iso.Parse.
-/
import Derived.StillTailTactics
import Derived.Test.YthckgkghmlkcnaaDoorIsM
import Derived.Test.YthckgkghmlkcnaaDoorIsF
import Derived.Test.YthckgkghmlkcnaaDoorIsR
namespace Go.Proofs.YthckgkghmlkcnaaDoor
open Go.RowKit

theorem readL_app : ∀ (l l' : List Nat) (b : Bs), readL (l ++ l') b = if (readL l b).1 ≠ 0 then ((readL l b).1, [], []) else if (readL l' (readL l b).2.2).1 ≠ 0 then ((readL l' (readL l b).2.2).1, [], []) else (0, (readL l b).2.1 ++ (readL l' (readL l b).2.2).2.1, (readL l' (readL l b).2.2).2.2)
  | [], l', b => by
    have h0 : readL [] b = (0, [], b) := rfl
    rw [List.nil_append, h0, if_neg (by simp)]
    dsimp only
    by_cases h : (readL l' b).1 = 0
    · rw [if_neg (by simpa using h), List.nil_append]
      have : readL l' b = ((readL l' b).1, (readL l' b).2.1, (readL l' b).2.2) := rfl
      rw [this, h]
    · rw [if_pos h]
      cases l' with
      | nil => exact absurd rfl h
      | cons n ns =>
        unfold readL at h ⊢
        by_cases h1 : (readF b n).1 ≠ 0
        · rw [if_pos h1]
        · rw [if_neg h1] at h ⊢
          by_cases h2 : (readL ns (readF b n).2.2).1 ≠ 0
          · rw [if_pos h2]
          · rw [if_neg h2] at h
            exact absurd rfl h
  | n :: l, l', b => by
    rw [List.cons_append]
    have e1 : readL (n :: (l ++ l')) b = if (readF b n).1 ≠ 0 then ((readF b n).1, [], []) else if (readL (l ++ l') (readF b n).2.2).1 ≠ 0 then ((readL (l ++ l') (readF b n).2.2).1, [], []) else (0, (n, (readF b n).2.1) :: (readL (l ++ l') (readF b n).2.2).2.1, (readL (l ++ l') (readF b n).2.2).2.2) := rfl
    have e2 : readL (n :: l) b = if (readF b n).1 ≠ 0 then ((readF b n).1, [], []) else if (readL l (readF b n).2.2).1 ≠ 0 then ((readL l (readF b n).2.2).1, [], []) else (0, (n, (readF b n).2.1) :: (readL l (readF b n).2.2).2.1, (readL l (readF b n).2.2).2.2) := rfl
    rw [e1, e2, readL_app l l']
    by_cases h1 : (readF b n).1 ≠ 0
    · rw [if_pos h1, if_pos h1, if_pos h1]
    · rw [if_neg h1, if_neg h1]
      by_cases h2 : (readL l (readF b n).2.2).1 ≠ 0
      · simp only [if_pos h2]
      · simp only [if_neg h2]
        by_cases h3 : (readL l' (readL l (readF b n).2.2).2.2).1 ≠ 0
        · simp only [if_pos h3, ne_eq, not_true_eq_false, if_false]
        · simp only [if_neg h3, ne_eq, not_true_eq_false, if_false, List.cons_append]
/-- what goes on from an error is that error -/
theorem readL_bad {l l' : List Nat} {b : Bs} (h : (readL l b).1 ≠ 0) : (readL (l ++ l') b).1 = (readL l b).1 := by rw [readL_app, if_pos h]
theorem readL_snoc {l : List Nat} {b : Bs} (h : (readL l b).1 = 0) (n : Nat) : (readL (l ++ [n]) b).1 = (readF (readL l b).2.2 n).1 ∧ ((readF (readL l b).2.2 n).1 = 0 → (readL (l ++ [n]) b).2.1 = (readL l b).2.1 ++ [(n, (readF (readL l b).2.2 n).2.1)] ∧ (readL (l ++ [n]) b).2.2 = (readF (readL l b).2.2 n).2.2) := by
  rw [readL_app, if_neg (by simpa using h)]
  have e : readL [n] (readL l b).2.2 = if (readF (readL l b).2.2 n).1 ≠ 0 then ((readF (readL l b).2.2 n).1, [], []) else (0, [(n, (readF (readL l b).2.2 n).2.1)], (readF (readL l b).2.2 n).2.2) := by
    show (if (readF (readL l b).2.2 n).1 ≠ 0 then ((readF (readL l b).2.2 n).1, [], []) else if ((0 : Int), ([] : List (Nat × Bs)), (readF (readL l b).2.2 n).2.2).1 ≠ 0 then _ else _) = _
    split
    · rfl
    · rw [if_neg (by simp)]
      rfl
  rw [e]
  by_cases h1 : (readF (readL l b).2.2 n).1 ≠ 0
  · simp only [if_pos h1]
    exact ⟨trivial, fun h => absurd h h1⟩
  · simp only [if_neg h1, ne_eq, not_true_eq_false, if_false]
    refine ⟨?_, fun _ => ?_⟩
    · simpa using (show (readF (readL l b).2.2 n).1 = 0 by simpa using h1).symm
    · simp
/-- the first error of a parse: ahead of the fields -/
def parF (b : Bs) : Int := mapsF (b.drop (unpN b 4)) (unpE b 4)
def parNs (b : Bs) : List Nat := numsOf (mapsR (b.drop 2)).2.1
def parB (b : Bs) : Bs := (mapsR (b.drop 2)).2.2
theorem par_maps {b : Bs} (h0 : unpE b 4 = 0) : mapsE (b.drop (unpN b 4)) (unpE b 4) = (mapsR (b.drop 2)).1 ∧ b.drop (unpN b 4) = b.drop 2 := by
  have hn : unpN b 4 = 2 := by unfold unpN; rw [if_pos h0]
  unfold mapsE
  rw [hn, if_neg (by simpa using h0)]
  exact ⟨rfl, rfl⟩
theorem par_bad {b : Bs} (h : parF b ≠ 0) : parseM b = (parF b, [], [], []) := by
  unfold parseM
  by_cases h0 : unpE b 4 = 0
  · obtain ⟨e1, e2⟩ := par_maps h0
    unfold parF mapsF at h ⊢
    rw [e1, e2] at h ⊢
    rw [if_neg (by simpa using h0)]
    by_cases h1 : (mapsR (b.drop 2)).1 ≠ 0
    · rw [if_pos h1, if_pos h1]
    · rw [if_neg h1] at h ⊢
      rw [if_neg h1]
      by_cases h2 : allOk (numsOf (mapsR (b.drop 2)).2.1) = true
      · rw [if_pos h2] at h
        exact absurd rfl h
      · rw [if_neg h2]
        have h3 : parseR (mapsR (b.drop 2)).2.1 (mapsR (b.drop 2)).2.2 = (13, [], []) := by
          unfold parseR
          rw [if_pos (by unfold allOk at h2; simpa using h2)]
        rw [h3, if_pos (by decide)]
  · have e : mapsE (b.drop (unpN b 4)) (unpE b 4) = unpE b 4 := if_pos h0
    unfold parF mapsF
    rw [e, if_pos h0, if_pos h0]
theorem par_good {b : Bs} (h : parF b = 0) : unpE b 4 = 0 ∧ (mapsF (b.drop (unpN b 4)) (unpE b 4) = 0 ∧ b.drop (unpN b 4) = b.drop 2) ∧ (∀ n ∈ parNs b, fmtOk (n : Int) = true) ∧
    parseM b = if (readL (parNs b) (parB b)).1 ≠ 0 then ((readL (parNs b) (parB b)).1, [], [], []) else (0, unpS b 4, (readL (parNs b) (parB b)).2.1, (readL (parNs b) (parB b)).2.2) := by
  have hp := h
  by_cases h0 : unpE b 4 = 0
  · obtain ⟨e1, e2⟩ := par_maps h0
    refine ⟨h0, ⟨hp, e2⟩, ?_⟩
    unfold parF mapsF at h
    rw [e1, e2] at h
    by_cases h1 : (mapsR (b.drop 2)).1 ≠ 0
    · rw [if_pos h1] at h
      exact absurd h h1
    · rw [if_neg h1] at h
      by_cases h2 : allOk (numsOf (mapsR (b.drop 2)).2.1) = true
      · refine ⟨fun n hm => ?_, ?_⟩
        · unfold allOk at h2
          rw [List.all_eq_true] at h2
          exact h2 n hm
        · have h3 : parseR (mapsR (b.drop 2)).2.1 (mapsR (b.drop 2)).2.2 = readL (parNs b) (parB b) := by
            unfold parseR
            rw [if_neg (by unfold allOk at h2; simpa using h2)]
            rfl
          unfold parseM
          rw [if_neg (by simpa using h0), if_neg h1, h3]
      · rw [if_neg h2] at h
        exact absurd h (by decide)
  · have e : mapsE (b.drop (unpN b 4)) (unpE b 4) = unpE b 4 := if_pos h0
    unfold parF mapsF at h
    rw [e, if_pos h0] at h
    exact absurd h h0
def parE (b : Bs) : Int := (parseM b).1
def parT (b : Bs) : ByteArray := strB (parseM b).2.1
def parL (b : Bs) : List Fld := fldsOf (parseM b).2.2.1
def parN (b : Bs) : Int := if parE b = 0 then (b.length : Int) - ((parseM b).2.2.2.length : Int) else 0
/-- what stands at the head of a round -/
def Inv (b : Bs) (i : Nat) (err : Int) (fs : List Fld) (bi : Bs) : Prop := (parF b ≠ 0 → err = parF b) ∧ (parF b = 0 → err = (readL ((parNs b).take i) (parB b)).1 ∧ (err = 0 → fs = fldsOf (readL ((parNs b).take i) (parB b)).2.1 ∧ bi = (readL ((parNs b).take i) (parB b)).2.2))
theorem inv_bad {b : Bs} {i : Nat} {err : Int} {fs : List Fld} {bi : Bs} (h : Inv b i err fs bi) (he : err ≠ 0) : Inv b (i + 1) err fs bi := by
  refine ⟨h.1, fun h0 => ?_⟩
  obtain ⟨h1, _⟩ := h.2 h0
  refine ⟨?_, fun h => absurd h he⟩
  have e : (parNs b).take (i + 1) = (parNs b).take i ++ ((parNs b)[i]?).toList := List.take_add_one
  rw [e, readL_bad (by rw [← h1]; exact he), ← h1]
theorem inv_good {b : Bs} {i : Nat} {fs : List Fld} {bi : Bs} (h : Inv b i 0 fs bi) (h0 : parF b = 0) (hi : i < (parNs b).length) {s : ByteArray} {b' : Bs} (hv : (readF bi ((parNs b)[i] : Nat)).1 = 0 → s = strB (readF bi ((parNs b)[i] : Nat)).2.1 ∧ b' = (readF bi ((parNs b)[i] : Nat)).2.2) :
    Inv b (i + 1) (readF bi ((parNs b)[i] : Nat)).1 (fs ++ [⟨((parNs b)[i] : Nat), s⟩]) b' := by
  refine ⟨fun h => absurd h0 h, fun _ => ?_⟩
  obtain ⟨h1, h2⟩ := h.2 h0
  obtain ⟨rfl, rfl⟩ := h2 rfl
  have e : (parNs b).take (i + 1) = (parNs b).take i ++ [(parNs b)[i]] := List.take_succ_eq_append_getElem hi
  obtain ⟨g1, g2⟩ := readL_snoc h1.symm (parNs b)[i]
  rw [e, g1]
  refine ⟨rfl, fun hz => ?_⟩
  obtain ⟨g3, g4⟩ := g2 hz
  obtain ⟨rfl, rfl⟩ := hv hz
  rw [g3, g4]
  refine ⟨?_, rfl⟩
  unfold fldsOf
  rw [List.map_append]
  rfl
theorem inv_end {b : Bs} {i : Nat} {err : Int} {fs : List Fld} {bi : Bs} (h : Inv b i err fs bi) (hi : parF b = 0 → i = (parNs b).length) : (err ≠ 0 → parE b = err ∧ parT b = ⟨#[]⟩ ∧ parL b = [] ∧ parN b = 0) ∧ (err = 0 → parE b = 0 ∧ parT b = strB (unpT b 4) ∧ parL b = fs ∧ parN b = (b.length : Int) - (bi.length : Int) ∧ bi.length ≤ b.length) := by
  unfold parT parL parN parE
  by_cases h0 : parF b = 0
  · obtain ⟨h1, h2⟩ := h.2 h0
    obtain ⟨g0, _, _, g1⟩ := par_good h0
    rw [hi h0, List.take_length] at h1 h2
    rw [g1]
    by_cases he : err = 0
    · obtain ⟨rfl, rfl⟩ := h2 he
      refine ⟨fun h => absurd he h, fun _ => ?_⟩
      rw [he] at h1
      rw [if_neg (by rw [← h1]; simp)]
      refine ⟨rfl, by unfold unpT; rw [if_pos g0], rfl, by rw [if_pos rfl], ?_⟩
      have hq : parseM b = (0, unpS b 4, (readL (parNs b) (parB b)).2.1, (readL (parNs b) (parB b)).2.2) := by rw [g1, if_neg (by rw [← h1]; simp)]
      have hx := (bytes_parse hq).2
      have := congrArg List.length hx
      rw [List.length_append] at this
      omega
    · refine ⟨fun _ => ?_, fun h => absurd h he⟩
      rw [if_pos (by rw [← h1]; exact he)]
      refine ⟨h1.symm, rfl, rfl, ?_⟩
      rw [if_neg (by rw [← h1]; exact he)]
  · have h1 := h.1 h0
    rw [par_bad h0]
    refine ⟨fun _ => ⟨h1.symm, rfl, rfl, if_neg h0⟩, fun he => absurd (h1.symm.trans he) h0⟩
theorem infoFld : (Tryd.prog.info? 41).map (fun i => (i.zero, i.size, i.bytes)) = some (some (.agg #[.int .i64 0, .string ⟨#[]⟩]), 2, 24) := by kernel_rfl
theorem el_fld : Elem Tryd.prog 25 41 FldR.k 24 := Elem.mk' Tryd.underlying25 infoFld (by decide) rfl
/-- the message that grows -/
structure PSt (w2 wr : World) (r m : Nat) (t : ByteArray) (fo : Option Addr) (fn fc : Nat) (fs : List Fld) : Prop where
  box : wr.heap[m]? = some (.cells #[.string t, .slice fo fn fc] 27 (0, 0))
  own : wr.ownsRow w2.heap.size 41 FldR.k (.slice fo fn fc) fn (FldR.flat fs)
  len : fs.length = fn
  fr : Fr (fun k => k = r ∨ k = m) w2 wr
namespace PSt
variable {w0 w2 wr w5 w6 : World} {r m : Nat} {t : ByteArray} {fo fo2 : Option Addr} {fn fc fn2 fc2 : Nat} {fs : List Fld}
theorem cells (h : PSt w2 wr r m t fo fn fc fs) : wr.cell? ⟨m, 0, none⟩ = some (.string t) ∧ wr.cell? ⟨m, 1, none⟩ = some (.slice fo fn fc) ∧ wr.frozen? ⟨m, 1, none⟩ = false := by
  have c0 := cell_of h.box 0
  have c1 := cell_of h.box 1
  simp at c0 c1
  exact ⟨c0, c1, free_of h.box 1⟩
/-- the reader went on -/
theorem turn (h : PSt w2 wr r m t fo fn fc fs) (hr : r < w2.heap.size) (hrm : r ≠ m) (f : Fr (fun k => k = r) wr w5) : PSt w2 w5 r m t fo fn fc fs :=
  ⟨f.obj h.box (fun e => hrm e.symm), ownsRow_fr h.own f (fun k hk e => by have := (h.own.lt k hk).1; have e' : k = r := e; omega), h.len, h.fr.trans f (fun k hk => .inl (.inl hk))⟩
theorem grow (h : PSt w2 wr r m t fo fn fc fs) (hm : m < w2.heap.size) (f : Fr noBlock wr w5) (f2 : Fld) (o6 : w6.ownsRow w2.heap.size 41 FldR.k (.slice fo2 fn2 fc2) fn2 (FldR.flat (fs ++ [f2]))) (hn : fn2 = fn + 1) (g6 : w5.grownBy w6 (Value.slice fo fn fc).ownBlock) :
    PSt w2 (w6.setCell ⟨m, 1, none⟩ (.slice fo2 fn2 fc2)) r m t fo2 fn2 fc2 (fs ++ [f2]) := by
  have hne : ∀ k, (Value.slice fo fn fc).ownBlock = some k → k ≠ m := fun k hk => by have := (h.own.lt k hk).1; omega
  have hb5 := f.obj h.box (fun x => x)
  have hb6 : w6.heap[m]? = _ := (g6.block m (heap_lt hb5) (fun e => hne m e.symm rfl)).trans hb5
  have hb := heap_set_eq (i := 1) (u := .slice fo2 fn2 fc2) hb6
  refine ⟨by simpa using hb, ownsRow_fr o6 ((Fr.refl (fun k => k = m) w6).setCell (p := ⟨m, 1, none⟩) (.inl rfl) _) (fun k hk e => by have := (o6.lt k hk).1; have e' : k = m := e; omega), by rw [List.length_append, h.len, hn]; rfl, ((h.fr.trans f (fun _ hk => hk.elim)).grown g6 (fun k hk => .inr (h.own.lt k hk).1)).setCell (p := ⟨m, 1, none⟩) (.inl (.inr rfl)) _⟩
theorem rdr (h : PSt w2 wr r m t fo fn fc fs) (hr : r < w2.heap.size) (hrm : r ≠ m) (hm : w0.heap.size ≤ m) (h02 : w0.heap.size ≤ w2.heap.size) {b : Bs} {e : Int} (hd : Rdr w0 r b e w5) (g6 : w5.grownBy w6 (Value.slice fo fn fc).ownBlock) (u : Value) : Rdr w0 r b e (w6.setCell ⟨m, 1, none⟩ u) := by
  have h6 := hd.turn (S := fun k => (Value.slice fo fn fc).ownBlock = some k) ((Fr.refl _ w5).grown g6 (fun k hk => .inl hk)) (fun hk => by have := (h.own.lt r hk).1; omega) (fun k hk => by have := (h.own.lt k hk).1; omega)
  exact h6.turn (S := fun k => k = m) ((Fr.refl (fun k => k = m) w6).setCell (p := ⟨m, 1, none⟩) (.inl rfl) u) hrm (fun k hk => by subst hk; exact hm)
end PSt
theorem set_cells {wr : World} {p : Nat} {a b : Value} {T : TypeId} {f : Nat × Nat} (h : wr.heap[p]? = some (.cells #[a, b] T f)) (u v : Value) : (wr.setCell ⟨p, 0, none⟩ u).cell? ⟨p, 0, none⟩ = some u ∧ ((wr.setCell ⟨p, 0, none⟩ u).setCell ⟨p, 1, none⟩ v).cell? ⟨p, 0, none⟩ = some u ∧ ((wr.setCell ⟨p, 0, none⟩ u).setCell ⟨p, 1, none⟩ v).cell? ⟨p, 1, none⟩ = some v := by
  have h1 := heap_set_eq (i := 0) (u := u) h
  have h2 := heap_set_eq (i := 1) (u := v) h1
  refine ⟨?_, ?_, ?_⟩
  · have := cell_of h1 0
    simpa using this
  · have := cell_of h2 0
    simpa using this
  · have := cell_of h2 1
    simpa using this
def ParseP (b : Bs) (w : World) (en : Ending) (w' : World) : Prop := ∃ s : SV, en = .returned (.tuple #[.agg #[.string (parT b), s.val], .int .i64 (parN b), .int .i64 (parE b)]) ∧ s.n = (parL b).length ∧ RowAt 41 FldR w' s.val (parL b) ∧ Fr noBlock w w' ∧ ∀ k, s.val.ownBlock = some k → w.heap.size ≤ k
set_option maxRecDepth 100000 in
set_option maxHeartbeats 3200000 in
theorem parse_any {w : World} {ao : Option Addr} {b : Bs} (h : RowRd ByteR w ao b) (cap : Nat) (hc : b.length ≤ cap) (hb63 : cap ≤ 9223372036854775807) (hno : ao = none → cap = 0) : Calls Tryd.prog 11 #[.slice ao b.length cap] w (ParseP b w) := by
  have H := Lib.hid h
  have hbl : (b.length : Int) ≤ 9223372036854775807 := by omega
  have hb0 : (0 : Int) ≤ (b.length : Int) := by omega
  have HR0 := Lib.hid (show Rdr w (w.heap.size + 1) b 0 ((w.alloc (.cells #[.string ⟨#[]⟩, .slice none 0 0] 27)).alloc (Robj ao b.length cap 0)) from
    ⟨⟨ao, cap, by have := heap_new (w.alloc (.cells #[.string ⟨#[]⟩, .slice none 0 0] 27)) (Robj ao b.length cap 0); simpa using this, h, hc, hb63, hno⟩, by omega, ((Fr.refl noBlock w).alloc _).alloc _⟩)
  clear h hc hno
  go_enter Tryd.func11, Tryd.ntmps11
  go_wp2_with fail
  have HD := Lib.hid (rdigits_any HR0.out 4 (by omega) (by omega))
  unfold DigP at HD
  obtain ⟨bd, hbd⟩ : ∃ x, b.drop (unpN b 4) = x := ⟨_, rfl⟩
  obtain ⟨ed, hed⟩ : ∃ x, unpE b 4 = x := ⟨_, rfl⟩
  obtain ⟨t0, ht0⟩ : ∃ x, strB (unpT b 4) = x := ⟨_, rfl⟩
  rw [hbd, hed, ht0] at HD
  have HE := Lib.hid (And.intro hbd (And.intro hed ht0))
  clear hbd hed ht0
  refine HD.out.mono ?_
  rintro en w1 ⟨rfl, hR1, hF1⟩
  have hlt := hR1.lt
  have HR1 := Lib.hid hR1
  have HF1 := Lib.hid (show Fr noBlock w w1 from hR1.fr)
  have hD2 := hF1
  clear hR1 hF1
  go_upto_region 3 with fail
  have hbox := hD2.obj (heap_old _ (heap_new w (.cells #[.string ⟨#[]⟩, .slice none 0 0] 27))) (by intro e; omega)
  refine wp_at (φ := fun W => Rdr w (w.heap.size + 1) bd ed W ∧ W.heap[w1.heap.size]? = some (.cells #[.string t0, .slice none 0 0] 27 (0, 0)) ∧ W.heap[w.heap.size]? = some (.cells #[.string ⟨#[]⟩, .slice none 0 0] 27 (0, 0))) ⟨HR1.out.on ((Fr.refl noBlock w1).alloc _), heap_new w1 _, heap_old _ hbox⟩ ?_
  rintro W1 ⟨hR1, hm1, hb1⟩
  have hwr : w.heap.size < w.heap.size + 1 := by omega
  have hmlt := heap_lt hm1
  have HR2 := Lib.hid hR1
  have HM1 := Lib.hid (And.intro hm1 hb1)
  clear hR1 hm1 hb1 hbox hD2 HR1 HF1
  generalize w.heap.size + 1 = r at *
  generalize w1.heap.size = m at *
  have HMs := Lib.hid (maps_any HR2.out)
  go_wp2_with fail
  refine HMs.out.mono ?_
  rintro en w2 ⟨oo, oc, ns, b2, rfl, h1, h2, h3, h4, h5, h6⟩
  have HPF := Lib.hid (show mapsF bd ed = parF b by obtain ⟨rfl, rfl, _⟩ := HE.out; rfl)
  rw [HPF.out] at h4 h6
  have hw12 := h5.size
  have hr2 : r < w2.heap.size := by omega
  have hm2 : m < w2.heap.size := by omega
  have hrm : r ≠ m := by omega
  have hw2 : w.heap.size < r := hwr
  have HInv0 := Lib.hid (show Inv b 0 (parF b) [] b2 from ⟨fun _ => rfl, fun h0 => by
    obtain ⟨g0, ⟨_, g1⟩, _⟩ := par_good h0
    obtain ⟨e1, e2, _⟩ := HE.out
    obtain ⟨e3, e4⟩ := h6 h0
    rw [h0, List.take_zero]
    refine ⟨rfl, fun _ => ⟨rfl, ?_⟩⟩
    rw [e4, ← e1, g1]
    rfl⟩)
  have HNs := Lib.hid (show parF b = 0 → ns = (parNs b).map (fun (n : Nat) => (n : Int)) from fun h0 => by
    obtain ⟨g0, ⟨_, g1⟩, _⟩ := par_good h0
    obtain ⟨e1, e2, _⟩ := HE.out
    obtain ⟨e3, e4⟩ := h6 h0
    rw [e3, ← e1, g1]
    rfl)
  have HRow := Lib.hid (And.intro h1 h2)
  have HRd := Lib.hid h4
  have HP0 := Lib.hid (show PSt w2 w2 r m t0 none 0 0 [] from ⟨h5.obj HM1.out.1 (fun e => hrm e.symm), World.ownsRow_nil _ _ _ _, rfl, Fr.refl _ _⟩)
  have HBox := Lib.hid (h5.obj HM1.out.2 (fun e => by omega))
  clear h1 h2 h4 h5 h6 hw12 HM1 HMs HR2 HD
  go_wp2_with fail
  go_loopw [18] (fun s18 wr => ∃ (i : Nat) (fo : Option Addr) (fn fc : Nat) (fs : List Fld) (err : Int) (bi : Bs), i ≤ ns.length ∧ fn ≤ i ∧ s18 = .int .i64 i ∧ Hid (PSt w2 wr r m t0 fo fn fc fs ∧ Rdr w r bi err wr) ∧ Hid (Inv b i err fs bi)) (fun s18 _ => ns.length - (intOf s18).toNat)
  case atStart => exact ⟨0, none, 0, 0, [], parF b, b2, Nat.zero_le _, Nat.le_refl _, rfl, Lib.hid ⟨HP0.out, HRd.out⟩, HInv0⟩
  case round =>
    obtain ⟨i, fo, fn, fc, fs, err, bi, hi, hfn, rfl, HS, HI⟩ := hrel
    obtain ⟨ao1, cap1, d0, d1, z, -⟩ := HS.out.2.cells
    obtain ⟨y0, y1, yz⟩ := HS.out.1.cells
    by_cases hlt : i < ns.length
    · have q1 : (i : Int) < (ns.length : Int) := by omega
      have q0 : (0 : Int) ≤ (i : Int) := by omega
      have hi1 : i + 1 ≤ ns.length := hlt
      have hfn1 : fn + 1 ≤ i + 1 := by omega
      obtain ⟨nb, nf, eoo, -, -⟩ := HRow.out.1.at' i hlt
      obtain ⟨hn1, hn2⟩ := HRow.out.2 _ (by omega) eoo
      simp only at hn1 hn2
      subst eoo
      have hx := int_rd (HRow.out.1.fr HS.out.1.fr (fun _ a ea => by cases ea; show ¬ (nb = r ∨ nb = m); omega)) hlt
      by_cases he : err = 0
      · subst he
        have h0 : parF b = 0 := by
          by_cases h : parF b = 0
          · exact h
          · exact absurd (HI.out.1 h).symm h
        have hnl : ns.length = (parNs b).length := by rw [HNs.out h0, List.length_map]
        have hlt2 : i < (parNs b).length := by omega
        have hni : ns[i] = ((parNs b)[i] : Int) := by
          have : ns[i]? = some ((parNs b)[i] : Int) := by rw [HNs.out h0, List.getElem?_map, List.getElem?_eq_getElem hlt2]; rfl
          rw [List.getElem?_eq_getElem hlt] at this
          exact Option.some.inj this
        have hok : fmtOk ns[i] = true := by rw [hni]; exact (par_good h0).2.2.1 _ (List.getElem_mem hlt2)
        have HNx := Lib.hid (fun (s : ByteArray) (b' : Bs) (hv : (readF bi ns[i]).1 = 0 → s = strB (readF bi ns[i]).2.1 ∧ b' = (readF bi ns[i]).2.2) => show Inv b (i + 1) (readF bi ns[i]).1 (fs ++ [⟨ns[i], s⟩]) b' by
          rw [hni] at hv ⊢
          exact inv_good HI.out h0 hlt2 hv)
        have HOk := Lib.hid hok
        clear h0 hnl hlt2 hni hok
        generalize ns[i] = nn at *
        clear hlt d0 y0 z
        have hmo : m < wr.heap.size := heap_lt HS.out.1.box
        have HV := Lib.hid (fun (W : World) (hf : Fr noBlock wr W) => rvalue_any (HS.out.2.on hf) nn HOk.out)
        unfold ValP at HV
        go_upto_region 7 with fail
        have hmr : ¬ m = r := fun e => hrm e.symm
        have hfn64 : fn + 1 ≤ 128 := by omega
        have HP := Lib.hid (fun (W : World) (hf : Fr (fun k => k = r) wr W) => HS.out.1.turn hr2 hrm hf)
        go_region_law (first
          | (refine step_app (by rfl) _ _ (by rfl) el_fld (v := .slice fo fn fc) fs [(⟨nn, s⟩ : Fld)] (fs ++ [(⟨nn, s⟩ : Fld)]) rfl w2.heap.size fn (fn + 1) (by rw [List.length_append, HS.out.1.len]; rfl) (by rfl) (ownsRow_fr (HP.out _ hF5).own ((Fr.refl noBlock w5).alloc _) (fun _ _ x => x)) (by rfl) (RowRd.one (heap_new w5 _) (⟨nn, s⟩ : Fld) rfl) rfl (by unfold maxLen; omega) (by omega) (by have := (HP.out _ hF5).fr.size; simp; omega) ?_; intro ao6 cap6 w6 o6 g6 a6; have hnm : (Value.slice fo fn fc).ownBlock ≠ some m := (fun e => by have := (HS.out.1.own.lt m e).1; omega); have hob : w6.cell? ⟨m, 1, none⟩ = some (.slice fo fn fc) := (g6.cell_far _ (by simp; omega) (Ne.symm hnm)).trans (y5a _); have hof : w6.frozen? ⟨m, 1, none⟩ = false := (g6.frozen_far _ (by simp; omega) (Ne.symm hnm)).trans ((World.frozen?_alloc_past _ _ _ hm5).trans y5z))
          | (go_simp; go_at_call 29; (with_reducible refine (HV.out _ ((Fr.refl _ _).drew)).mono ?_); rintro en5 w5 ⟨s, b5, rfl, hR5, hF5', hV5⟩; have hF5 : Fr (fun k => k = r) wr w5 := ((Fr.refl _ wr).drew).trans' hF5'; have y5 := (hF5.cell (p := ⟨m, 1, none⟩) hmo hmr).trans y1; have y5z := (hF5.frozen (p := ⟨m, 1, none⟩) hmo hmr).trans yz; have hm5 : m < w5.heap.size := Nat.lt_of_lt_of_le hmo hF5.size; have y5a := fun o => (World.cell?_alloc_lt w5 o ⟨m, 1, none⟩ hm5).trans y5))
        all_goals
          have HG := Lib.hid (And.intro ((HP.out _ hF5).grow hm2 ((Fr.refl noBlock w5).alloc _) ⟨nn, s⟩ o6 rfl g6) ((HP.out _ hF5).rdr hr2 hrm (by omega) (by omega) (hR5.on ((Fr.refl noBlock w5).alloc _)) g6 (.slice ao6 (fn + 1) cap6)))
          have HN := Lib.hid (HNx.out s b5 hV5)
          clear o6 g6 a6 hob hof hnm y5 y5z y5a hF5 hF5' hR5 hV5 hx d1 y1 yz
          go_wp2_with fail
          go_roundw
          case rel => exact ⟨i + 1, ao6, fn + 1, cap6, _, _, b5, hi1, hfn1, by go_num, HG, HN⟩
          case measure => simp [intOf]; omega
      · have hne : (err == 0) = false := by simpa using he
        have HN := Lib.hid (inv_bad HI.out he)
        generalize ns[i] = nn at *
        clear he d0 y0 y1 yz z hlt
        go_wp2_with fail
        go_roundw
        case rel => exact ⟨i + 1, fo, fn, fc, fs, err, bi, hi1, by omega, by go_num, HS, HN⟩
        case measure => simp [intOf]; omega
    · have q1 : (ns.length : Int) ≤ (i : Int) := by omega
      have hend := inv_end HI.out (fun h0 => by have := HNs.out h0; have h2 := congrArg List.length this; rw [List.length_map] at h2; omega)
      have hbox := HS.out.1.fr.obj HBox.out (by intro e; omega)
      have x0 := cell_of hbox 0
      have x1 := cell_of hbox 1
      have xf := fun i => free_of hbox i
      have xf0 := xf 0
      have xf1 := xf 1
      simp at x0 x1
      by_cases he : err = 0
      · subst he
        have hE := hend.2 rfl
        have HE2 := Lib.hid hE
        clear hend hE xf
        have hbi : (bi.length : Int) ≤ (b.length : Int) := by have := HE2.out.2.2.2.2; omega
        have hbi0 : (0 : Int) ≤ (bi.length : Int) := by omega
        have HW := Lib.hid (show Fr noBlock w wr from HS.out.2.fr)
        have HSet := Lib.hid (set_cells hbox (.string t0) (.slice fo fn fc))
        have HFin := Lib.hid (show ParseP b w (.returned (.tuple #[.agg #[.string t0, .slice fo fn fc], .int .i64 ((b.length : Int) - (bi.length : Int)), .int .i64 0])) (((wr.setCell ⟨w.heap.size, 0, none⟩ (.string t0)).setCell ⟨w.heap.size, 1, none⟩ (.slice fo fn fc)).drew) from by
          obtain ⟨e0, e1, e2, e3, _⟩ := HE2.out
          obtain ⟨_, _, e5⟩ := HE.out
          have hf : Fr (fun k => k = w.heap.size) wr (((wr.setCell ⟨w.heap.size, 0, none⟩ (.string t0)).setCell ⟨w.heap.size, 1, none⟩ (.slice fo fn fc)).drew) := (((Fr.refl (fun k => k = w.heap.size) wr).setCell (p := ⟨w.heap.size, 0, none⟩) (.inl rfl) _).setCell (p := ⟨w.heap.size, 1, none⟩) (.inl rfl) _).drew
          refine ⟨⟨fo, fn, fc⟩, by rw [e0, e1, e5, e3]; rfl, by rw [e2]; exact HS.out.1.len.symm, ?_, HW.out.trans hf (fun k hk => by subst hk; exact .inr (Nat.le_refl _)), fun k hk => by have := (HS.out.1.own.lt k hk).1; omega⟩
          rw [e2]
          exact RowAt.of_own (ownsRow_fr HS.out.1.own hf (fun k hk e => by have := (HS.out.1.own.lt k hk).1; have e' : k = w.heap.size := e; omega)) HS.out.1.len.symm)
        have hwr2 : IntKind.i64.wrap ((b.length : Int) - (bi.length : Int)) = (b.length : Int) - (bi.length : Int) := IntWalk.i64_in _ (by omega)
        obtain ⟨f1, f2, f3⟩ := HSet.out
        clear hbox
        go_upto_region 11 with fail
        go_region_law (fail)
        all_goals go_wp2
        all_goals exact bodyPost_ret (v := .tuple #[.agg #[.string t0, .slice fo fn fc], .int .i64 ((b.length : Int) - (bi.length : Int)), .int .i64 0]) (by simp [results, Tryd.results11, go_sem, f1, f2, f3]) rfl HFin.out
      · have hne : (err != 0) = true := by simpa using he
        have HE2 := Lib.hid (hend.1 he)
        have HSet := Lib.hid (set_cells hbox (.string ⟨#[]⟩) (.slice none 0 0))
        clear hend he hbox xf
        have HW := Lib.hid (show Fr noBlock w wr from HS.out.2.fr)
        have HFin := Lib.hid (show ParseP b w (.returned (.tuple #[.agg #[.string ⟨#[]⟩, .slice none 0 0], .int .i64 0, .int .i64 err])) (((wr.setCell ⟨w.heap.size, 0, none⟩ (.string ⟨#[]⟩)).setCell ⟨w.heap.size, 1, none⟩ (.slice none 0 0)).drew) from by
          obtain ⟨e0, e1, e2, e3⟩ := HE2.out
          have hf : Fr (fun k => k = w.heap.size) wr (((wr.setCell ⟨w.heap.size, 0, none⟩ (.string ⟨#[]⟩)).setCell ⟨w.heap.size, 1, none⟩ (.slice none 0 0)).drew) := (((Fr.refl (fun k => k = w.heap.size) wr).setCell (p := ⟨w.heap.size, 0, none⟩) (.inl rfl) _).setCell (p := ⟨w.heap.size, 1, none⟩) (.inl rfl) _).drew
          refine ⟨⟨none, 0, 0⟩, by rw [e0, e1, e3]; rfl, by rw [e2]; rfl, ?_, HW.out.trans hf (fun k hk => by subst hk; exact .inr (Nat.le_refl _)), fun k hk => by cases hk⟩
          rw [e2]
          exact RowAt.nil)
        obtain ⟨f1, f2, f3⟩ := HSet.out
        go_upto_region 10 with fail
        go_region_law (fail)
        all_goals go_wp2
        all_goals exact bodyPost_ret (v := .tuple #[.agg #[.string ⟨#[]⟩, .slice none 0 0], .int .i64 0, .int .i64 err]) (by simp [results, Tryd.results11, go_sem, f1, f2, f3]) rfl HFin.out
end Go.Proofs.YthckgkghmlkcnaaDoor
