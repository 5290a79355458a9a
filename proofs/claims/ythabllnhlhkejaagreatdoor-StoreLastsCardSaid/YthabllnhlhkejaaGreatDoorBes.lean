/-
  ROWS BESIDE THINGS, while these make steps; a row of numbers: read, written.
-/
import Derived.Test.YthabllnhlhkejaaGreatDoorDkLand
import Derived.Test.YthabllnhlhkejaaGreatDoorInts
namespace Go.Proofs.YthabllnhlhkejaaGreatDoor
open Go.RowKit

def dirtNs (l : Dirt) : List Int := l.map (fun p => (p.1 : Int))
theorem met_sorted {l : Dirt} (hl : Rise l) {f : Int → Option Value} {xs : List Int} (hn : xs.Nodup) (hx : ∀ a, a ∈ xs ↔ (f a).isSome = true) (hf : ∀ a, (f a).isSome = (lookD l a).isSome) : xs.mergeSort leI = dirtNs l ∧ xs.length = l.length := by
  have hs : (dirtNs l).Pairwise (fun a b => a < b) := by
    unfold dirtNs
    rw [List.pairwise_map]
    exact hl.imp (fun {a b} h => by omega)
  have hnd : (dirtNs l).Nodup := hs.imp (fun {a b} h e => by omega)
  have hp : xs.Perm (dirtNs l) := by
    refine (List.perm_ext_iff_of_nodup hn hnd).2 fun x => ?_
    rw [hx x, hf x]
    unfold dirtNs
    rw [List.mem_map]
    constructor
    · intro h
      obtain ⟨b, hb⟩ := Option.isSome_iff_exists.1 h
      obtain ⟨p, hp, e, _⟩ := lookD_mem hb
      exact ⟨p, hp, e⟩
    · rintro ⟨p, hp, rfl⟩
      rw [lookD_of_mem hl hp]; rfl
  refine ⟨?_, by rw [hp.length_eq]; unfold dirtNs; simp⟩
  have tr : ∀ a b c : Int, leI a b = true → leI b c = true → leI a c = true := fun a b c h1 h2 => by simp only [leI, decide_eq_true_eq] at *; omega
  have to : ∀ a b : Int, (leI a b || leI b a) = true := fun a b => by simp only [leI, Bool.or_eq_true, decide_eq_true_eq]; omega
  refine List.Perm.eq_of_pairwise (le := fun a b => leI a b = true) (fun a b _ _ h1 h2 => ?_) (List.pairwise_mergeSort tr to xs) (hs.imp (fun {a b} h => by simp only [leI, decide_eq_true_eq]; omega)) ((List.mergeSort_perm xs leI).trans hp)
  simp only [leI, decide_eq_true_eq] at h1 h2
  omega

def DirtyP (l : Dirt) (w : World) (e : Ending) (w' : World) : Prop := ∃ ao cap, e = .returned (.slice ao l.length cap) ∧ RowAt 3 IntR w' (.slice ao l.length cap) (dirtNs l) ∧ Fr noBlock w w' ∧ ∀ k, (Value.slice ao l.length cap).ownBlock = some k → w.heap.size ≤ k
theorem rangeFr {w w' : World} {b : Nat} (h : w.grownBy w' (some b)) {w0 : World} (hf : Fr noBlock w0 w) (hb : w0.heap.size ≤ b) : Fr noBlock w0 w' := hf.grown h (fun k hk => by cases hk; exact .inr hb)

set_option maxRecDepth 100000 in
set_option maxHeartbeats 1000000 in
theorem dirty_any {l : Nat} {d : DK} {w : World} {F : Nat → Prop} (h : DiskAt l d w F) : Calls Tryz.prog 27 #[.pointer (some ⟨l, 0, none⟩)] w (DirtyP d.dirty w) := by
  obtain ⟨acts, part, sv, ss, bm, g, hin⟩ := h
  obtain ⟨_, _, _, _, _, _, c6⟩ := hin.cells
  have hdl := dirt_len hin.good
  obtain ⟨D, hown, hD⟩ := hin.map
  have hbm := hin.map.lt
  have HD := Lib.hid hD
  have hDs := hD.size
  have Hfin := Lib.hid (fun (xs : List Int) (hn : xs.Nodup) (hx : ∀ a, a ∈ xs ↔ ((fun n => (g n).map SV.val) a).isSome = true) => met_sorted hin.good.rise hn hx (fun a => by simp only [Option.isSome_map]; exact hin.dirt a))
  generalize (fun n => (g n).map SV.val) = f at *
  generalize d.dirty = dl at *
  clear hin hD
  go_enter Tryz.func27, Tryz.ntmps27
  go_wp2_with (first
    | (at_range; refine wpList_range_own _ rfl _ 44 rfl 3 28 kI.law Tryz.underlying44 _ bm dl.length _ rfl hown ?_; intro w0 hrg0 hg0 hs0)
    | go_in)
  go_frame
  go_loopw [3] (fun v wr => ∃ (left : Lit → Bool) (cnt : Nat) (xs : List Int) (ao : Option Addr) (cap : Nat), wr.ranges Tryz.prog 3 heldR bm w.heap.size dl.length D left cnt ∧ xs.length + cnt ≤ dl.length ∧ v = .slice ao xs.length cap ∧
      wr.ownsRow w.heap.size 3 IntR.k v xs.length (IntR.flat xs) ∧ Hid (Met kI f left xs) ∧ Fr noBlock w wr) (fun _ wr => wr.rangeLeft bm w.heap.size)
  case atStart =>
    exact ⟨_, _, [], none, 0, hrg0, by simp [hDs], rfl, World.ownsRow_nil _ _ _ _, Lib.hid (Met.start HD.out), (Fr.refl noBlock w).grown hg0 (fun j hj => by cases hj)⟩
  case round =>
    obtain ⟨left, cnt, xs, ao, cap, hrg, hcs, rfl, hrow, hC, hf⟩ := hrel
    clear hs0 hg0 hrg0
    go_wp2_with (first
      | (at_next; refine wpList_next_ranges _ rfl _ rfl 3 kI.law heldR (Value.int .i64) (fun v : Value => v) (fun key kl hk => by obtain ⟨x, _, hx, _⟩ := kI.back hk; exact ⟨x, hx⟩) (fun v y hv => ⟨v, rfl⟩) bm w.heap.size dl.length _ _ _ rfl hrg ?_ ?_)
      | go_in)
    · intro hc0 hl0
      obtain ⟨hsd, hln⟩ := Hfin.out xs hC.out.1 (hC.out.done hl0)
      have hc := sortI_any hrow (by omega)
      rw [hsd] at hc
      have Hf := Lib.hid hf
      have Hlow := Lib.hid (fun k hk => (hrow.lt k hk).1)
      have Hln := Lib.hid hln
      clear hsd hrg hf hC hrow hown hDs hdl hcs hc0 hl0 hln
      go_wp2_with fail
      refine hc.mono ?_
      rintro e w2 ⟨rfl, hrow2, hg2⟩
      have hf2 : Fr noBlock w w2 := Hf.out.grown hg2 (fun j hj => .inr (Hlow.out j hj))
      have Hrow2 := Lib.hid hrow2
      have Hf2 := Lib.hid hf2
      clear hrow2 hg2 hc hf2
      go_wp2_with fail
      go_ret
      refine ⟨ao, cap, by rw [← Hln.out]; rfl, ?_, Hf2.out, fun k hk => Hlow.out k (by rw [← Hln.out] at hk; exact hk)⟩
      rw [← Hln.out]
      exact RowAt.of_own Hrow2.out (by rw [Hln.out]; simp [dirtNs])
    · intro x c kl yd yp w2 cnt2 hkey hlk hv hat hrg2 hlt hg2 hs2 hen
      obtain ⟨x', _, ex, rfl⟩ := kI.back hkey
      obtain rfl : x = x' := by simpa [kI, keyI] using ex
      obtain ⟨_, _, hC2⟩ := hC.out.step HD.out hlk hat
      have hrow2 := hrow.kept hg2 (Or.inr (row_ne_iter hrow hrg).symm)
      have HC2 := Lib.hid hC2
      have hf2 := rangeFr hg2 hf (Nat.le_refl _)
      have Hf2 := Lib.hid hf2
      have hsz := hf2.size
      have hx1 : xs.length + 1 ≤ 4096 := by omega
      clear hs2 hC hC2 hf2 hf ex
      go_wp2_with (at_builtin; apply stop_here)
      refine ⟨?_, trivial⟩
      refine wpList_app rfl _ _ rfl el_ints (v := .slice ao xs.length cap) xs [x] (xs ++ [x]) rfl w.heap.size xs.length (xs.length + 1) (by simp) rfl (hrow2.alloc _) rfl (RowRd.one (heap_new w2 _) x rfl) rfl (by unfold maxLen; omega) (by omega) (by simp; omega) ?_
      intro ao3 cap3 w3 o3 g3 _
      go_frame
      have hrg3 := (hrg2.alloc _).kept g3 (row_ne_low hrow2 hbm) (row_ne_iter hrow2 hrg2)
      have O3 := Lib.hid o3
      have Hf3 := Lib.hid ((Hf2.out.alloc _).grown g3 (fun k hk => .inr (hrow2.lt k hk).1))
      clear o3 g3 hrg2
      go_wp2_with fail
      go_roundw
      case rel => exact ⟨_, cnt2, xs ++ [x], ao3, cap3, hrg3, by simp; omega, by simp, by simpa using O3.out, HC2, Hf3.out⟩
      case measure => rw [hrg3.left_eq, hrg.left_eq]; exact hlt
end Go.Proofs.YthabllnhlhkejaaGreatDoor
namespace Go.Proofs.YthabllnhlhkejaaGreatDoor
open Go.RowKit

theorem landL_snoc (safe : List Bs) (l : List (Nat × Bs × Nat)) (x : Nat × Bs × Nat) : landL safe (l ++ [x]) = (landL safe l).set x.1 (x.2.1.take x.2.2 ++ ((landL safe l).getD x.1 []).drop x.2.2) := by
  induction l generalizing safe with
  | nil => rfl
  | cons y l ih => obtain ⟨n, b, k⟩ := y; rw [List.cons_append, landL, landL, ih]
theorem drop_cons {α : Type} {l : List α} {i : Nat} (h : i < l.length) : l.drop i = l[i] :: l.drop (i + 1) := (List.drop_eq_getElem_cons h)

/-- some have landed -/
def DK.fl (d : DK) (i : Nat) : DK := { d with safe := landL d.safe ((d.dirty.take i).map (fun p => (p.1, p.2, d.size))), dirty := d.dirty.drop i }
theorem fl_zero (d : DK) : d.fl 0 = d := by simp [DK.fl, landL]
theorem fl_step (d : DK) {i : Nat} (h : i < d.dirty.length) : d.fl (i + 1) = { d.fl i with safe := (d.fl i).safe.set d.dirty[i].1 (d.dirty[i].2.take d.size ++ ((d.fl i).safe.getD d.dirty[i].1 []).drop d.size), dirty := d.dirty.drop (i + 1) } := by
  unfold DK.fl
  rw [List.take_succ_eq_append_getElem h, List.map_append, List.map_singleton, landL_snoc]
theorem fl_flush {d : DK} (h : d.off = false) : d.flush = d.cut.fl d.flushN := by
  obtain ⟨e1, e2, e3⟩ := d.cut_same
  unfold DK.flush DK.fl
  rw [if_neg (by simp [h])]
  simp only [e1, e2, e3]
theorem bootL_len (size : Nat) (keep : List Int) (l : Dirt) (i : Nat) : (bootL size keep i l).length = l.length := by
  induction l generalizing i with
  | nil => rfl
  | cons p l ih => rw [bootL, List.length_cons, ih, List.length_cons]
theorem bootL_get (size : Nat) (keep : List Int) (l : Dirt) (i j : Nat) (h : j < l.length) : (bootL size keep i l)[j]'(by rw [bootL_len]; exact h) = (l[j].1, l[j].2, keepN size keep (i + j)) := by
  induction l generalizing i j with
  | nil => simp at h
  | cons p l ih =>
    cases j with
    | zero => rfl
    | succ j =>
      simp only [bootL, List.getElem_cons_succ]
      rw [ih (i + 1) j (by simpa using h)]
      rw [show i + 1 + j = i + (j + 1) by omega]
def DK.bt (d : DK) (keep : List Int) (i : Nat) : DK := { d with safe := landL d.safe ((bootL d.size keep 0 d.dirty).take i), dirty := d.dirty.drop i }
theorem bt_zero (d : DK) (keep : List Int) : d.bt keep 0 = d := by simp [DK.bt, landL]
theorem bt_step (d : DK) (keep : List Int) {i : Nat} (h : i < d.dirty.length) : d.bt keep (i + 1) = { d.bt keep i with safe := (d.bt keep i).safe.set d.dirty[i].1 (d.dirty[i].2.take (keepN d.size keep i) ++ ((d.bt keep i).safe.getD d.dirty[i].1 []).drop (keepN d.size keep i)), dirty := d.dirty.drop (i + 1) } := by
  unfold DK.bt
  rw [List.take_succ_eq_append_getElem (by rw [bootL_len]; exact h), landL_snoc, bootL_get _ _ _ _ _ h, Nat.zero_add]
theorem bt_boot (d : DK) (keep : List Int) : d.boot keep = { d.bt keep d.dirty.length with off := false, arm := none } := by
  unfold DK.boot DK.bt
  rw [List.take_of_length_le (by rw [bootL_len]; exact Nat.le_refl _), List.drop_length]

/-- a row beside a disk, while the disk makes steps -/
structure Beside (ao : Option Addr) (xs : List Int) (w : World) (F : Nat → Prop) : Prop where
  rd : RowRd IntR w ao xs
  ap : 0 < xs.length → ∀ a, ao = some a → ¬ F a.block ∧ a.block < w.heap.size
theorem Beside.step {ao : Option Addr} {xs : List Int} {w w' : World} {F F' : Nat → Prop} (h : Beside ao xs w F) (s : Step F F' w w') : Beside ao xs w' F' := by
  rcases Nat.eq_zero_or_pos xs.length with h0 | h0
  · have e : xs = [] := List.eq_nil_of_length_eq_zero h0
    subst e
    exact ⟨RowRd.nil, fun h => by simp at h⟩
  · exact ⟨h.rd.fr s.fr (fun _ _ e => (h.ap h0 _ e).1), fun _ a e => ⟨(s.keep (h.ap h0 a e).2 (h.ap h0 a e).1).2.2, (s.keep (h.ap h0 a e).2 (h.ap h0 a e).1).2.1⟩⟩
/-- ints that came in, beside things of our own -/
theorem Beside.arg {w0 w : World} {A : Thing} {F : Nat → Prop} {ao : Option Addr} {xs : List Int} (h : RowRd IntR w0 ao xs) (m : Mine w0 A w F) : Beside ao xs w F :=
  ⟨h.below m.below, fun h0 a e => by
    obtain ⟨b, off, e', h1, _⟩ := h.at' 0 h0
    rw [e] at e'
    cases e'
    exact ⟨fun hf => by have h2 : w0.heap.size ≤ b := m.base _ hf; omega, Nat.lt_of_lt_of_le h1 m.size⟩⟩
theorem DiskAt.size_cell {l : Nat} {d : DK} {w : World} {F : Nat → Prop} (h : DiskAt l d w F) : w.cell? ⟨l, 4, none⟩ = some (.int .i64 d.size) ∧ w.cell? ⟨l, 0, none⟩ = some (.bool d.off) ∧ l < w.heap.size := by
  obtain ⟨acts, part, sv, ss, bm, g, hin⟩ := h
  exact ⟨hin.cells.2.2.2.2.1, hin.cells.1, heap_lt hin.box⟩

def FlushP (l : Nat) (d' : DK) (x : Int) (F : Nat → Prop) (w : World) (e : Ending) (w' : World) : Prop := ∃ F', e = .returned (.int .i64 x) ∧ DiskAt l d' w' F' ∧ Step F F' w w'
set_option maxRecDepth 100000 in
set_option maxHeartbeats 1600000 in
theorem flush_any {l : Nat} {d : DK} {w : World} {F : Nat → Prop} (h : DiskAt l d w F) : Calls Tryz.prog 44 #[.pointer (some ⟨l, 0, none⟩)] w (FlushP l d.flush d.flushE F w) := by
  have H := Lib.hid h
  have hgood := h.good
  have hs1 := hgood.s1
  have hdl := dirt_len hgood
  obtain ⟨c4, c0, hl⟩ := h.size_cell
  cases hoff : d.off with
  | true =>
    rw [hoff] at c0
    have Hd := Lib.hid (show d.flush = d ∧ d.flushE = 30 by simp [DK.flush, DK.flushE, hoff])
    clear hgood h hoff c4
    go_enter Tryz.func44, Tryz.ntmps44
    go_wp2_with fail
    go_ret
    exact ⟨F, ret_int Hd.out.2.symm, by rw [Hd.out.1]; exact H.out, Step.refl _ _⟩
  | false =>
    rw [hoff] at c0
    have Hd := Lib.hid (show d.flush = d.cut.fl d.flushN ∧ d.flushE = if d.gone then 30 else 0 from ⟨fl_flush hoff, by simp [DK.flushE, hoff]⟩)
    have hdirty := dirty_any h
    have Hcut := Lib.hid (fun W (hW : Fr noBlock w W) => cut_any (DiskAt.ok.fr0 h hW))
    -- the part: what stands in the cell
    have hpart : ∃ part, w.cell? ⟨l, 3, none⟩ = some (.int .i64 part) ∧ (d.gone = true → d.flushN = (part % ((d.dirty.length : Int) + 1)).toNat) ∧ (d.gone = false → d.flushN = d.dirty.length) := by
      obtain ⟨acts, part, sv, ss, bm, g, hin⟩ := h
      refine ⟨part, hin.cells.2.2.2.1, fun hg => ?_, fun hg => ?_⟩
      · unfold DK.gone at hg
        unfold DK.flushN
        split at hg
        · rename_i p hp
          obtain ⟨_, e⟩ := hin.arm _ _ hp
          first | rw [e] | (rw [hp]; simp [e])
        · cases hg
      · unfold DK.gone at hg
        unfold DK.flushN
        split
        · rename_i p hp; first | (rw [hp] at hg; cases hg) | cases hg
        · rfl
    obtain ⟨part, c3, hp1, hp2⟩ := hpart
    have hFl := DiskAt.ok.lt h
    obtain ⟨e1, e2, e3⟩ := d.cut_same
    obtain ⟨K, hK⟩ : ∃ K, d.flushN = K := ⟨_, rfl⟩
    have hKl : K ≤ d.dirty.length := by rw [← hK]; exact d.flushN_le
    obtain ⟨dc, hdc⟩ : ∃ dc, d.cut = dc := ⟨_, rfl⟩
    rw [hK] at Hd hp1 hp2
    rw [hdc] at Hd e1 e2 e3
    unfold CutP at Hcut
    rw [hdc] at Hcut
    have Hs := Lib.hid e1
    have Hdl := Lib.hid e3
    have Hkl := Lib.hid hKl
    have HFl := Lib.hid hFl
    have hK0 : (0 : Int) ≤ (K : Int) := by omega
    have hKl' : (K : Int) ≤ (d.dirty.length : Int) := by omega
    have Hp1 := Lib.hid hp1
    have Hp2 := Lib.hid hp2
    have C3 := Lib.hid c3
    clear hgood h hoff e1 e2 e3 hK hdc hp1 hp2 c3 hKl
    cases hg : d.gone
    all_goals
      rw [hg] at Hd Hcut Hp1 Hp2
      go_enter Tryz.func44, Tryz.ntmps44
      go_wp2_with fail
      refine hdirty.mono ?_
      rintro e w1 ⟨ao, cap, rfl, r1, f1, n1⟩
      have hcap : d.dirty.length ≤ cap := by obtain ⟨_, _, e, h1, _⟩ := r1.shape; simp only [Value.slice.injEq] at e; obtain ⟨_, _, rfl⟩ := e; simpa [dirtNs] using h1
      have hcapI : (d.dirty.length : Int) ≤ (cap : Int) := by omega
      have B1 := Lib.hid (Beside.mk (ao := ao) (xs := dirtNs d.dirty) (w := w1) (F := F) (RowAt.rd r1) (fun _ a e => by
        have hk : (Value.slice ao d.dirty.length cap).ownBlock = some a.block := by rw [e]; rfl
        have h1 := n1 _ hk
        exact ⟨fun hf => by have := HFl.out _ hf; omega, r1.lt _ hk⟩))
      have Hf1 := Lib.hid f1
      have y3 := (f1.cell (p := ⟨l, 3, none⟩) hl (fun x => x)).trans C3.out
      clear r1 f1 n1 hdirty
      go_wp2_with fail
      refine (Hcut.out _ Hf1.out).mono ?_
      rintro e w2 ⟨rfl, h2, s2, k2⟩
      have s12 : Step F F w w2 := (Step.same Hf1.out).trans s2
      have B2 := Lib.hid (B1.out.step s2)
      have x3 := (k2 3 (by omega)).trans y3
      have H2 := Lib.hid (And.intro h2 s12)
      clear h2 s2 k2 y3 s12
      go_wp2_with fail
    · have hk : K = d.dirty.length := by first | exact Hp2.out rfl | exact Hp2.out trivial
      have hdk : (d.dirty.length : Int) ≤ (K : Int) := by omega
      clear hk
      have hx := x3
      clear hx x3 c4 c0
      go_loopw [32] (fun s32 wr => ∃ (i : Nat) (G : Nat → Prop), i ≤ K ∧ s32 = .int .i64 i ∧ DiskAt l (dc.fl i) wr G ∧ Step F G w wr ∧ Beside ao (dirtNs d.dirty) wr G) (fun s32 _ => K - (intOf s32).toNat)
      case atStart => exact ⟨0, F, Nat.zero_le _, rfl, by rw [fl_zero]; exact H2.out.1, H2.out.2, B2.out⟩
      case round =>
        obtain ⟨i, G, hi, rfl, hA, hS, hB⟩ := hrel
        have HA := Lib.hid (And.intro hA (And.intro hS hB))
        by_cases hlt : i < K
        · have q1 : (i : Int) < (K : Int) := by omega
          have q2 : (i : Int) < (d.dirty.length : Int) := by omega
          have q0 : (0 : Int) ≤ (i : Int) := by omega
          have hid : i < d.dirty.length := by omega
          have hin : i < (dirtNs d.dirty).length := by simpa [dirtNs] using hid
          obtain ⟨bb, off, e, _⟩ := hB.rd.at' i hin
          subst e
          have y0 := int_rd hB.rd hin
          have hnum : (dirtNs d.dirty)[i] = (d.dirty[i].1 : Int) := by simp [dirtNs]
          rw [hnum] at y0
          have y4 := hA.size_cell.1
          have hsz : (dc.fl i).size = d.size := Hs.out
          rw [hsz] at y4
          have hdd : (dc.fl i).dirty = (d.dirty[i].1, d.dirty[i].2) :: d.dirty.drop (i + 1) := by show dc.dirty.drop i = _; rw [Hdl.out]; exact drop_cons hid
          have hland := Lib.hid (land_any hA hdd d.size (by rw [hsz]; exact Nat.le_refl _))
          have hst := fl_step dc (i := i) (by rw [Hdl.out]; exact hid)
          simp only [Hdl.out, Hs.out] at hst
          have Hst := Lib.hid hst
          generalize d.dirty[i] = p at *
          clear hA hS hB hnum hsz hdd hst hlt
          go_wp2_with fail
          refine hland.out.mono ?_
          rintro e w5 ⟨G', rfl, h5, s5⟩
          have H5 := Lib.hid (And.intro h5 s5)
          clear h5 s5
          go_wp2_with fail
          go_roundw
          case rel => exact ⟨i + 1, G', by omega, by go_num, by rw [Hst.out]; exact H5.out.1, HA.out.2.1.trans H5.out.2, HA.out.2.2.step H5.out.2⟩
          case measure => simp [intOf]; omega
        · have q1 : (K : Int) ≤ (i : Int) := by omega
          have q2 : i = K := by omega
          have hF := HA.out
          rw [q2] at hF
          have HF := Lib.hid hF
          clear hA hS hB hlt q2 hF
          first
            | (have q3 : (d.dirty.length : Int) ≤ (i : Int) := by omega)
            | skip
          go_wp2_with fail
          go_ret
          exact ⟨G, ret_int (by rw [Hd.out.2]; rfl), by rw [Hd.out.1]; exact HF.out.1, HF.out.2.1⟩
    · have hk : K = (part % ((d.dirty.length : Int) + 1)).toNat := by first | exact Hp1.out rfl | exact Hp1.out trivial
      have hkk : part % ((d.dirty.length : Int) + 1) = (K : Int) := by
        have := Int.emod_nonneg part (show ((d.dirty.length : Int) + 1) ≠ 0 by omega)
        omega
      have Hkk := Lib.hid hkk
      clear hk hkk
      have hkc : (K : Int) ≤ (cap : Int) := by omega
      refine (modulo_any part ((d.dirty.length : Int) + 1) _ (by omega) (by omega)).mono ?_
      rintro e w3 ⟨rfl, rfl⟩
      rw [Hkk.out]
      go_wp2_with fail
      have hdk : (K : Int) ≤ (K : Int) := Int.le_refl _
      have hx := x3
      clear hx x3 c4 c0
      go_loopw [32] (fun s32 wr => ∃ (i : Nat) (G : Nat → Prop), i ≤ K ∧ s32 = .int .i64 i ∧ DiskAt l (dc.fl i) wr G ∧ Step F G w wr ∧ Beside ao (dirtNs d.dirty) wr G) (fun s32 _ => K - (intOf s32).toNat)
      case atStart => exact ⟨0, F, Nat.zero_le _, rfl, by rw [fl_zero]; exact H2.out.1, H2.out.2, B2.out⟩
      case round =>
        obtain ⟨i, G, hi, rfl, hA, hS, hB⟩ := hrel
        have HA := Lib.hid (And.intro hA (And.intro hS hB))
        by_cases hlt : i < K
        · have q1 : (i : Int) < (K : Int) := by omega
          have q2 : (i : Int) < (d.dirty.length : Int) := by omega
          have q0 : (0 : Int) ≤ (i : Int) := by omega
          have hid : i < d.dirty.length := by omega
          have hin : i < (dirtNs d.dirty).length := by simpa [dirtNs] using hid
          obtain ⟨bb, off, e, _⟩ := hB.rd.at' i hin
          subst e
          have y0 := int_rd hB.rd hin
          have hnum : (dirtNs d.dirty)[i] = (d.dirty[i].1 : Int) := by simp [dirtNs]
          rw [hnum] at y0
          have y4 := hA.size_cell.1
          have hsz : (dc.fl i).size = d.size := Hs.out
          rw [hsz] at y4
          have hdd : (dc.fl i).dirty = (d.dirty[i].1, d.dirty[i].2) :: d.dirty.drop (i + 1) := by show dc.dirty.drop i = _; rw [Hdl.out]; exact drop_cons hid
          have hland := Lib.hid (land_any hA hdd d.size (by rw [hsz]; exact Nat.le_refl _))
          have hst := fl_step dc (i := i) (by rw [Hdl.out]; exact hid)
          simp only [Hdl.out, Hs.out] at hst
          have Hst := Lib.hid hst
          generalize d.dirty[i] = p at *
          clear hA hS hB hnum hsz hdd hst hlt
          go_wp2_with fail
          refine hland.out.mono ?_
          rintro e w5 ⟨G', rfl, h5, s5⟩
          have H5 := Lib.hid (And.intro h5 s5)
          clear h5 s5
          go_wp2_with fail
          go_roundw
          case rel => exact ⟨i + 1, G', by omega, by go_num, by rw [Hst.out]; exact H5.out.1, HA.out.2.1.trans H5.out.2, HA.out.2.2.step H5.out.2⟩
          case measure => simp [intOf]; omega
        · have q1 : (K : Int) ≤ (i : Int) := by omega
          have q2 : i = K := by omega
          have hF := HA.out
          rw [q2] at hF
          have HF := Lib.hid hF
          clear hA hS hB hlt q2 hF
          first
            | (have q3 : (d.dirty.length : Int) ≤ (i : Int) := by omega)
            | skip
          go_wp2_with fail
          go_ret
          exact ⟨G, ret_int (by rw [Hd.out.2]; rfl), by rw [Hd.out.1]; exact HF.out.1, HF.out.2.1⟩
end Go.Proofs.YthabllnhlhkejaaGreatDoor
namespace Go.Proofs.YthabllnhlhkejaaGreatDoor
open Go.RowKit

def DirtR : Rec (Int × SV) := ⟨2, fun p => [.int .i64 p.1, p.2.val], fun _ => rfl, fun p u hu => by
  simp at hu
  rcases hu with rfl | rfl <;> rfl⟩
theorem dirtK : DirtR.k = 2 := rfl
theorem dirt_rd {w : World} {b off : Nat} {ps : List (Int × SV)} (h : RowRd DirtR w (some ⟨b, off, none⟩) ps) {i : Nat} (hi : i < ps.length) : w.cell? ⟨b, off + i * 2, none⟩ = some (.int .i64 ps[i].1) ∧ w.cell? ⟨b, off + i * 2 + 1, none⟩ = some ps[i].2.val := by
  obtain ⟨b', off', e, _, h3⟩ := h.at' i hi
  cases e
  have h0 := h3 0 (.int .i64 ps[i].1) rfl
  have h1 := h3 1 ps[i].2.val rfl
  rw [dirtK] at h0 h1
  exact ⟨h0, h1⟩
end Go.Proofs.YthabllnhlhkejaaGreatDoor
namespace Go.Proofs.YthabllnhlhkejaaGreatDoor
open Go.RowKit

/-- rows beside things, while these make steps -/
structure Bes {α : Type} (R : Rec α) (ao : Option Addr) (xs : List α) (w : World) (F : Nat → Prop) : Prop where
  rd : RowRd R w ao xs
  ap : 0 < xs.length → ∀ a, ao = some a → ¬ F a.block ∧ a.block < w.heap.size
namespace Bes
variable {α : Type} {R : Rec α} {ao : Option Addr} {xs : List α} {w w' : World} {F F' : Nat → Prop}
theorem step (h : Bes R ao xs w F) (s : Step F F' w w') : Bes R ao xs w' F' := by
  rcases Nat.eq_zero_or_pos xs.length with h0 | h0
  · have e : xs = [] := List.eq_nil_of_length_eq_zero h0
    subst e
    exact ⟨RowRd.nil, fun h => by simp at h⟩
  · exact ⟨h.rd.fr s.fr (fun _ _ e => (h.ap h0 _ e).1), fun _ a e => ⟨(s.keep (h.ap h0 a e).2 (h.ap h0 a e).1).2.2, (s.keep (h.ap h0 a e).2 (h.ap h0 a e).1).2.1⟩⟩
theorem fr (h : Bes R ao xs w F) (f : Fr noBlock w w') : Bes R ao xs w' F := h.step (Step.same f)
theorem arg {w0 : World} {A : Thing} (h : RowRd R w0 ao xs) (m : Mine w0 A w F) : Bes R ao xs w F :=
  ⟨h.below m.below, fun h0 a e => by
    obtain ⟨b, off, e', h1, _⟩ := h.at' 0 h0
    rw [e] at e'
    cases e'
    exact ⟨fun hf => by have h2 : w0.heap.size ≤ b := m.base _ hf; omega, Nat.lt_of_lt_of_le h1 m.size⟩⟩
theorem sub (h : Bes R ao xs w F) {G : Nat → Prop} (hg : ∀ k, G k → F k) : Bes R ao xs w G := ⟨h.rd, fun h0 a e => ⟨fun hk => (h.ap h0 a e).1 (hg _ hk), (h.ap h0 a e).2⟩⟩
/-- a new row -/
theorem new {E : TypeId} {n cap : Nat} {w0 : World} (h : RowAt E R w (.slice ao n cap) xs) (hn : ∀ k, (Value.slice ao n cap).ownBlock = some k → w0.heap.size ≤ k) (hF : ∀ k, F k → k < w0.heap.size) : Bes R ao xs w F :=
  ⟨RowAt.rd h, fun _ a e => by
    subst e
    exact ⟨fun hf => by have := hn a.block rfl; have := hF _ hf; omega, h.lt a.block rfl⟩⟩
end Bes
theorem Beside.of {ao : Option Addr} {xs : List Int} {w : World} {F : Nat → Prop} (h : Bes IntR ao xs w F) : Beside ao xs w F := ⟨h.rd, h.ap⟩

theorem int_set {w : World} {g n cap : Nat} {xs : List Int} (h : RowAt 3 IntR w (.slice (some ⟨g, 0, none⟩) n cap) xs) {i : Nat} (hi : i < xs.length) (c : Int) : RowAt 3 IntR (w.setCell ⟨g, i, none⟩ (.int .i64 c)) (.slice (some ⟨g, 0, none⟩) n cap) (xs.set i c) := by
  have hk : IntR.k = 1 := rfl
  have := h.set (u := .int .i64 c) hi (j := 0) (by decide) c rfl
  simpa [hk] using this
theorem int_at {w : World} {g n cap : Nat} {xs : List Int} (h : RowAt 3 IntR w (.slice (some ⟨g, 0, none⟩) n cap) xs) {i : Nat} (hi : i < xs.length) : w.cell? ⟨g, i, none⟩ = some (.int .i64 xs[i]) ∧ w.frozen? ⟨g, i, none⟩ = false := by
  obtain ⟨g', e, _, _, _, h3, h4⟩ := h.elem hi
  cases e
  have hk : IntR.k = 1 := rfl
  have := h3 0 (.int .i64 xs[i]) rfl
  exact ⟨by simpa [hk] using this, h4 _⟩
end Go.Proofs.YthabllnhlhkejaaGreatDoor
