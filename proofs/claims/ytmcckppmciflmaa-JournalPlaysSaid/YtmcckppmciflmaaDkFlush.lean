/-
  THE WALKS of disk.Flush, Boot.
-/
import Derived.Test.YtmcckppmciflmaaDkLand
import Derived.Test.YtmcckppmciflmaaDkDirty
namespace Go.Proofs.Ytmcckppmciflmaa
open Go.RowKit

theorem landL_snoc (safe : List Bs) (l : List (Nat × Bs × Nat)) (x : Nat × Bs × Nat) : landL safe (l ++ [x]) = (landL safe l).set x.1 (x.2.1.take x.2.2 ++ ((landL safe l).getD x.1 []).drop x.2.2) := by
  induction l generalizing safe with
  | nil => rfl
  | cons y l ih => obtain ⟨n, b, k⟩ := y; rw [List.cons_append, landL, landL, ih]
theorem drop_cons {α : Type} {l : List α} {i : Nat} (h : i < l.length) : l.drop i = l[i] :: l.drop (i + 1) := (List.drop_eq_getElem_cons h)

/-- some have landed -/
def DK.fl (d : DK) (i : Nat) : DK := { d with safe := landL d.safe ((d.dirty.take i).map (fun p => (p.1, p.2, d.size))), dirty := d.dirty.drop i }
theorem fl_zero (d : DK) : d.fl 0 = d := by simp [DK.fl, landL]
theorem fl_step (d : DK) {i : Nat} (h : i < d.dirty.length) : d.fl (i + 1) = { d.fl i with safe := (d.fl i).safe.set d.dirty[i].1 (d.dirty[i].2.take d.size ++ ((d.fl i).safe.getD d.dirty[i].1 []).drop d.size), dirty := d.dirty.drop (i + 1) } := by
  unfold DK.fl
  rw [List.take_succ_eq_append_getElem h, List.map_append, List.map_singleton, landL_snoc]
theorem fl_flush {d : DK} (h : d.off = false) : d.flush = d.cut.fl d.flushN := by
  obtain ⟨e1, e2, e3⟩ := d.cut_same
  unfold DK.flush DK.fl
  rw [if_neg (by simp [h])]
  simp only [e1, e2, e3]
theorem bootL_len (size : Nat) (keep : List Int) (l : Dirt) (i : Nat) : (bootL size keep i l).length = l.length := by
  induction l generalizing i with
  | nil => rfl
  | cons p l ih => rw [bootL, List.length_cons, ih, List.length_cons]
theorem bootL_get (size : Nat) (keep : List Int) (l : Dirt) (i j : Nat) (h : j < l.length) : (bootL size keep i l)[j]'(by rw [bootL_len]; exact h) = (l[j].1, l[j].2, keepN size keep (i + j)) := by
  induction l generalizing i j with
  | nil => simp at h
  | cons p l ih =>
    cases j with
    | zero => rfl
    | succ j =>
      simp only [bootL, List.getElem_cons_succ]
      rw [ih (i + 1) j (by simpa using h)]
      rw [show i + 1 + j = i + (j + 1) by omega]
def DK.bt (d : DK) (keep : List Int) (i : Nat) : DK := { d with safe := landL d.safe ((bootL d.size keep 0 d.dirty).take i), dirty := d.dirty.drop i }
theorem bt_zero (d : DK) (keep : List Int) : d.bt keep 0 = d := by simp [DK.bt, landL]
theorem bt_step (d : DK) (keep : List Int) {i : Nat} (h : i < d.dirty.length) : d.bt keep (i + 1) = { d.bt keep i with safe := (d.bt keep i).safe.set d.dirty[i].1 (d.dirty[i].2.take (keepN d.size keep i) ++ ((d.bt keep i).safe.getD d.dirty[i].1 []).drop (keepN d.size keep i)), dirty := d.dirty.drop (i + 1) } := by
  unfold DK.bt
  rw [List.take_succ_eq_append_getElem (by rw [bootL_len]; exact h), landL_snoc, bootL_get _ _ _ _ _ h, Nat.zero_add]
theorem bt_boot (d : DK) (keep : List Int) : d.boot keep = { d.bt keep d.dirty.length with off := false, arm := none } := by
  unfold DK.boot DK.bt
  rw [List.take_of_length_le (by rw [bootL_len]; exact Nat.le_refl _), List.drop_length]

/-- a row beside a disk, while the disk makes steps -/
structure Beside (ao : Option Addr) (xs : List Int) (w : World) (F : Nat → Prop) : Prop where
  rd : RowRd IntR w ao xs
  ap : 0 < xs.length → ∀ a, ao = some a → ¬ F a.block ∧ a.block < w.heap.size
theorem Beside.step {ao : Option Addr} {xs : List Int} {w w' : World} {F F' : Nat → Prop} (h : Beside ao xs w F) (s : Step F F' w w') : Beside ao xs w' F' := by
  rcases Nat.eq_zero_or_pos xs.length with h0 | h0
  · have e : xs = [] := List.eq_nil_of_length_eq_zero h0
    subst e
    exact ⟨RowRd.nil, fun h => by simp at h⟩
  · exact ⟨h.rd.fr s.fr (fun _ _ e => (h.ap h0 _ e).1), fun _ a e => ⟨(s.keep (h.ap h0 a e).2 (h.ap h0 a e).1).2.2, (s.keep (h.ap h0 a e).2 (h.ap h0 a e).1).2.1⟩⟩
/-- ints that came in, beside things of our own -/
theorem Beside.arg {w0 w : World} {A : Thing} {F : Nat → Prop} {ao : Option Addr} {xs : List Int} (h : RowRd IntR w0 ao xs) (m : Mine w0 A w F) : Beside ao xs w F :=
  ⟨h.below m.below, fun h0 a e => by
    obtain ⟨b, off, e', h1, _⟩ := h.at' 0 h0
    rw [e] at e'
    cases e'
    exact ⟨fun hf => by have h2 : w0.heap.size ≤ b := m.base _ hf; omega, Nat.lt_of_lt_of_le h1 m.size⟩⟩
theorem DiskAt.size_cell {l : Nat} {d : DK} {w : World} {F : Nat → Prop} (h : DiskAt l d w F) : w.cell? ⟨l, 4, none⟩ = some (.int .i64 d.size) ∧ w.cell? ⟨l, 0, none⟩ = some (.bool d.off) ∧ l < w.heap.size := by
  obtain ⟨acts, part, sv, ss, bm, g, hin⟩ := h
  exact ⟨hin.cells.2.2.2.2.1, hin.cells.1, heap_lt hin.box⟩

def FlushP (l : Nat) (d' : DK) (x : Int) (F : Nat → Prop) (w : World) (e : Ending) (w' : World) : Prop := ∃ F', e = .returned (.int .i64 x) ∧ DiskAt l d' w' F' ∧ Step F F' w w'
set_option maxRecDepth 100000 in
set_option maxHeartbeats 1600000 in
theorem flush_any {l : Nat} {d : DK} {w : World} {F : Nat → Prop} (h : DiskAt l d w F) : Calls Try.prog 15 #[.pointer (some ⟨l, 0, none⟩)] w (FlushP l d.flush d.flushE F w) := by
  have H := Lib.hid h
  have hgood := h.good
  have hs1 := hgood.s1
  have hdl := dirt_len hgood
  obtain ⟨c4, c0, hl⟩ := h.size_cell
  cases hoff : d.off with
  | true =>
    rw [hoff] at c0
    have Hd := Lib.hid (show d.flush = d ∧ d.flushE = 30 by simp [DK.flush, DK.flushE, hoff])
    clear hgood h hoff c4
    go_enter Try.func15, Try.ntmps15
    go_wp2_with fail
    go_ret
    exact ⟨F, ret_int Hd.out.2.symm, by rw [Hd.out.1]; exact H.out, Step.refl _ _⟩
  | false =>
    rw [hoff] at c0
    have Hd := Lib.hid (show d.flush = d.cut.fl d.flushN ∧ d.flushE = if d.gone then 30 else 0 from ⟨fl_flush hoff, by simp [DK.flushE, hoff]⟩)
    have hdirty := dirty_any h
    have Hcut := Lib.hid (fun W (hW : Fr noBlock w W) => cut_any (DiskAt.ok.fr0 h hW))
    -- the part: what stands in the cell
    have hpart : ∃ part, w.cell? ⟨l, 3, none⟩ = some (.int .i64 part) ∧ (d.gone = true → d.flushN = (part % ((d.dirty.length : Int) + 1)).toNat) ∧ (d.gone = false → d.flushN = d.dirty.length) := by
      obtain ⟨acts, part, sv, ss, bm, g, hin⟩ := h
      refine ⟨part, hin.cells.2.2.2.1, fun hg => ?_, fun hg => ?_⟩
      · unfold DK.gone at hg
        unfold DK.flushN
        split at hg
        · rename_i p hp
          obtain ⟨_, e⟩ := hin.arm _ _ hp
          first | rw [e] | (rw [hp]; simp [e])
        · cases hg
      · unfold DK.gone at hg
        unfold DK.flushN
        split
        · rename_i p hp; first | (rw [hp] at hg; cases hg) | cases hg
        · rfl
    obtain ⟨part, c3, hp1, hp2⟩ := hpart
    have hFl := DiskAt.ok.lt h
    obtain ⟨e1, e2, e3⟩ := d.cut_same
    obtain ⟨K, hK⟩ : ∃ K, d.flushN = K := ⟨_, rfl⟩
    have hKl : K ≤ d.dirty.length := by rw [← hK]; exact d.flushN_le
    obtain ⟨dc, hdc⟩ : ∃ dc, d.cut = dc := ⟨_, rfl⟩
    rw [hK] at Hd hp1 hp2
    rw [hdc] at Hd e1 e2 e3
    unfold CutP at Hcut
    rw [hdc] at Hcut
    have Hs := Lib.hid e1
    have Hdl := Lib.hid e3
    have Hkl := Lib.hid hKl
    have HFl := Lib.hid hFl
    have hK0 : (0 : Int) ≤ (K : Int) := by omega
    have hKl' : (K : Int) ≤ (d.dirty.length : Int) := by omega
    have Hp1 := Lib.hid hp1
    have Hp2 := Lib.hid hp2
    have C3 := Lib.hid c3
    clear hgood h hoff e1 e2 e3 hK hdc hp1 hp2 c3 hKl
    cases hg : d.gone
    all_goals
      rw [hg] at Hd Hcut Hp1 Hp2
      go_enter Try.func15, Try.ntmps15
      go_wp2_with fail
      refine hdirty.mono ?_
      rintro e w1 ⟨ao, cap, rfl, r1, f1, n1⟩
      have hcap : d.dirty.length ≤ cap := by obtain ⟨_, _, e, h1, _⟩ := r1.shape; simp only [Value.slice.injEq] at e; obtain ⟨_, _, rfl⟩ := e; simpa [dirtNs] using h1
      have hcapI : (d.dirty.length : Int) ≤ (cap : Int) := by omega
      have B1 := Lib.hid (Beside.mk (ao := ao) (xs := dirtNs d.dirty) (w := w1) (F := F) (RowAt.rd r1) (fun _ a e => by
        have hk : (Value.slice ao d.dirty.length cap).ownBlock = some a.block := by rw [e]; rfl
        have h1 := n1 _ hk
        exact ⟨fun hf => by have := HFl.out _ hf; omega, r1.lt _ hk⟩))
      have Hf1 := Lib.hid f1
      have y3 := (f1.cell (p := ⟨l, 3, none⟩) hl (fun x => x)).trans C3.out
      clear r1 f1 n1 hdirty
      go_wp2_with fail
      refine (Hcut.out _ Hf1.out).mono ?_
      rintro e w2 ⟨rfl, h2, s2, k2⟩
      have s12 : Step F F w w2 := (Step.same Hf1.out).trans s2
      have B2 := Lib.hid (B1.out.step s2)
      have x3 := (k2 3 (by omega)).trans y3
      have H2 := Lib.hid (And.intro h2 s12)
      clear h2 s2 k2 y3 s12
      go_wp2_with fail
    · have hk : K = d.dirty.length := by first | exact Hp2.out rfl | exact Hp2.out trivial
      have hdk : (d.dirty.length : Int) ≤ (K : Int) := by omega
      clear hk
      have hx := x3
      clear hx x3 c4 c0
      go_loopw [32] (fun s32 wr => ∃ (i : Nat) (G : Nat → Prop), i ≤ K ∧ s32 = .int .i64 i ∧ DiskAt l (dc.fl i) wr G ∧ Step F G w wr ∧ Beside ao (dirtNs d.dirty) wr G) (fun s32 _ => K - (intOf s32).toNat)
      case atStart => exact ⟨0, F, Nat.zero_le _, rfl, by rw [fl_zero]; exact H2.out.1, H2.out.2, B2.out⟩
      case round =>
        obtain ⟨i, G, hi, rfl, hA, hS, hB⟩ := hrel
        have HA := Lib.hid (And.intro hA (And.intro hS hB))
        by_cases hlt : i < K
        · have q1 : (i : Int) < (K : Int) := by omega
          have q2 : (i : Int) < (d.dirty.length : Int) := by omega
          have q0 : (0 : Int) ≤ (i : Int) := by omega
          have hid : i < d.dirty.length := by omega
          have hin : i < (dirtNs d.dirty).length := by simpa [dirtNs] using hid
          obtain ⟨bb, off, e, _⟩ := hB.rd.at' i hin
          subst e
          have y0 := int_rd hB.rd hin
          have hnum : (dirtNs d.dirty)[i] = (d.dirty[i].1 : Int) := by simp [dirtNs]
          rw [hnum] at y0
          have y4 := hA.size_cell.1
          have hsz : (dc.fl i).size = d.size := Hs.out
          rw [hsz] at y4
          have hdd : (dc.fl i).dirty = (d.dirty[i].1, d.dirty[i].2) :: d.dirty.drop (i + 1) := by show dc.dirty.drop i = _; rw [Hdl.out]; exact drop_cons hid
          have hland := Lib.hid (land_any hA hdd d.size (by rw [hsz]; exact Nat.le_refl _))
          have hst := fl_step dc (i := i) (by rw [Hdl.out]; exact hid)
          simp only [Hdl.out, Hs.out] at hst
          have Hst := Lib.hid hst
          generalize d.dirty[i] = p at *
          clear hA hS hB hnum hsz hdd hst hlt
          go_wp2_with fail
          refine hland.out.mono ?_
          rintro e w5 ⟨G', rfl, h5, s5⟩
          have H5 := Lib.hid (And.intro h5 s5)
          clear h5 s5
          go_wp2_with fail
          go_roundw
          case rel => exact ⟨i + 1, G', by omega, by go_num, by rw [Hst.out]; exact H5.out.1, HA.out.2.1.trans H5.out.2, HA.out.2.2.step H5.out.2⟩
          case measure => simp [intOf]; omega
        · have q1 : (K : Int) ≤ (i : Int) := by omega
          have q2 : i = K := by omega
          have hF := HA.out
          rw [q2] at hF
          have HF := Lib.hid hF
          clear hA hS hB hlt q2 hF
          first
            | (have q3 : (d.dirty.length : Int) ≤ (i : Int) := by omega)
            | skip
          go_wp2_with fail
          go_ret
          exact ⟨G, ret_int (by rw [Hd.out.2]; rfl), by rw [Hd.out.1]; exact HF.out.1, HF.out.2.1⟩
    · have hk : K = (part % ((d.dirty.length : Int) + 1)).toNat := by first | exact Hp1.out rfl | exact Hp1.out trivial
      have hkk : part % ((d.dirty.length : Int) + 1) = (K : Int) := by
        have := Int.emod_nonneg part (show ((d.dirty.length : Int) + 1) ≠ 0 by omega)
        omega
      have Hkk := Lib.hid hkk
      clear hk hkk
      have hkc : (K : Int) ≤ (cap : Int) := by omega
      refine (modulo_any part ((d.dirty.length : Int) + 1) _ (by omega) (by omega)).mono ?_
      rintro e w3 ⟨rfl, rfl⟩
      rw [Hkk.out]
      go_wp2_with fail
      have hdk : (K : Int) ≤ (K : Int) := Int.le_refl _
      have hx := x3
      clear hx x3 c4 c0
      go_loopw [32] (fun s32 wr => ∃ (i : Nat) (G : Nat → Prop), i ≤ K ∧ s32 = .int .i64 i ∧ DiskAt l (dc.fl i) wr G ∧ Step F G w wr ∧ Beside ao (dirtNs d.dirty) wr G) (fun s32 _ => K - (intOf s32).toNat)
      case atStart => exact ⟨0, F, Nat.zero_le _, rfl, by rw [fl_zero]; exact H2.out.1, H2.out.2, B2.out⟩
      case round =>
        obtain ⟨i, G, hi, rfl, hA, hS, hB⟩ := hrel
        have HA := Lib.hid (And.intro hA (And.intro hS hB))
        by_cases hlt : i < K
        · have q1 : (i : Int) < (K : Int) := by omega
          have q2 : (i : Int) < (d.dirty.length : Int) := by omega
          have q0 : (0 : Int) ≤ (i : Int) := by omega
          have hid : i < d.dirty.length := by omega
          have hin : i < (dirtNs d.dirty).length := by simpa [dirtNs] using hid
          obtain ⟨bb, off, e, _⟩ := hB.rd.at' i hin
          subst e
          have y0 := int_rd hB.rd hin
          have hnum : (dirtNs d.dirty)[i] = (d.dirty[i].1 : Int) := by simp [dirtNs]
          rw [hnum] at y0
          have y4 := hA.size_cell.1
          have hsz : (dc.fl i).size = d.size := Hs.out
          rw [hsz] at y4
          have hdd : (dc.fl i).dirty = (d.dirty[i].1, d.dirty[i].2) :: d.dirty.drop (i + 1) := by show dc.dirty.drop i = _; rw [Hdl.out]; exact drop_cons hid
          have hland := Lib.hid (land_any hA hdd d.size (by rw [hsz]; exact Nat.le_refl _))
          have hst := fl_step dc (i := i) (by rw [Hdl.out]; exact hid)
          simp only [Hdl.out, Hs.out] at hst
          have Hst := Lib.hid hst
          generalize d.dirty[i] = p at *
          clear hA hS hB hnum hsz hdd hst hlt
          go_wp2_with fail
          refine hland.out.mono ?_
          rintro e w5 ⟨G', rfl, h5, s5⟩
          have H5 := Lib.hid (And.intro h5 s5)
          clear h5 s5
          go_wp2_with fail
          go_roundw
          case rel => exact ⟨i + 1, G', by omega, by go_num, by rw [Hst.out]; exact H5.out.1, HA.out.2.1.trans H5.out.2, HA.out.2.2.step H5.out.2⟩
          case measure => simp [intOf]; omega
        · have q1 : (K : Int) ≤ (i : Int) := by omega
          have q2 : i = K := by omega
          have hF := HA.out
          rw [q2] at hF
          have HF := Lib.hid hF
          clear hA hS hB hlt q2 hF
          first
            | (have q3 : (d.dirty.length : Int) ≤ (i : Int) := by omega)
            | skip
          go_wp2_with fail
          go_ret
          exact ⟨G, ret_int (by rw [Hd.out.2]; rfl), by rw [Hd.out.1]; exact HF.out.1, HF.out.2.1⟩
end Go.Proofs.Ytmcckppmciflmaa
