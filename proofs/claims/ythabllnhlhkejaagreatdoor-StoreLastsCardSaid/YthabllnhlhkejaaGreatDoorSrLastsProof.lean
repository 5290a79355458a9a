/-
  PROVED: StoreLasts, for every input: behind a crash the new bytes, or the old ones. Condition: the listed tables of the library read as the program lays them (tied).
-/
import Derived.Lay
import Derived.LaidOnce
import Derived.SevenTiedAt
import Derived.Test.YthabllnhlhkejaaGreatDoorTie
import Derived.Test.YthabllnhlhkejaaGreatDoorCards
import Derived.Test.YthabllnhlhkejaaGreatDoorSrC
namespace Go.Proofs.YthabllnhlhkejaaGreatDoor
open Go.RowKit

theorem keepN_at {size : Nat} {keep : List Int} {i : Nat} (h : i < keep.length) : ((keepN size keep i : Nat) : Int) = keep[i] % ((size : Int) + 1) := by
  unfold keepN
  rw [List.getElem?_eq_getElem h]
  have := Int.emod_nonneg keep[i] (show ((size : Int) + 1) ≠ 0 by omega)
  simp only
  omega
theorem keepN_none {size : Nat} {keep : List Int} {i : Nat} (h : ¬ i < keep.length) : keepN size keep i = 0 := by
  unfold keepN
  rw [List.getElem?_eq_none (by omega)]

def BootP (l : Nat) (d' : DK) (F : Nat → Prop) (w : World) (e : Ending) (w' : World) : Prop := ∃ F', e = .returned (.tuple #[]) ∧ DiskAt l d' w' F' ∧ Step F F' w w'
set_option maxRecDepth 100000 in
set_option maxHeartbeats 1600000 in
theorem boot_any {l : Nat} {d : DK} {w : World} {F : Nat → Prop} (h : DiskAt l d w F) {ak : Option Addr} {keep : List Int} (hk : Beside ak keep w F) (ck : Nat) (hkl : keep.length ≤ 9223372036854775807) :
    Calls Tryz.prog 14 #[.pointer (some ⟨l, 0, none⟩), .slice ak keep.length ck] w (BootP l (d.boot keep) F w) := by
  have H := Lib.hid h
  have hgood := h.good
  have hs1 := hgood.s1
  have hdl := dirt_len hgood
  have hdirty := dirty_any h
  have HFl := Lib.hid (DiskAt.ok.lt h)
  have HK := Lib.hid hk
  clear hgood h hk
  go_enter Tryz.func14, Tryz.ntmps14
  go_wp2_with fail
  refine hdirty.mono ?_
  rintro e w1 ⟨ao, cap, rfl, r1, f1, n1⟩
  have B1 := Lib.hid (Beside.mk (ao := ao) (xs := dirtNs d.dirty) (w := w1) (F := F) (RowAt.rd r1) (fun _ a e => by
    have hk : (Value.slice ao d.dirty.length cap).ownBlock = some a.block := by rw [e]; rfl
    have h1 := n1 _ hk
    exact ⟨fun hf => by have := HFl.out _ hf; omega, r1.lt _ hk⟩))
  have K1 := Lib.hid (HK.out.step (Step.same (F := F) f1))
  have Hf1 := Lib.hid f1
  clear r1 f1 n1 hdirty
  go_wp2_with fail
  go_loopw [10] (fun s10 wr => ∃ (i : Nat) (G : Nat → Prop), i ≤ d.dirty.length ∧ s10 = .int .i64 i ∧ DiskAt l (d.bt keep i) wr G ∧ Step F G w wr ∧ Beside ao (dirtNs d.dirty) wr G ∧ Beside ak keep wr G) (fun s10 _ => d.dirty.length - (intOf s10).toNat)
  case atStart => exact ⟨0, F, Nat.zero_le _, rfl, by rw [bt_zero]; exact DiskAt.ok.fr0 H.out Hf1.out, Step.same Hf1.out, B1.out, K1.out⟩
  case round =>
    obtain ⟨i, G, hi, rfl, hA, hS, hB, hK⟩ := hrel
    have HA := Lib.hid (And.intro hA (And.intro hS (And.intro hB hK)))
    by_cases hlt : i < d.dirty.length
    · have q2 : (i : Int) < (d.dirty.length : Int) := by omega
      have q0 : (0 : Int) ≤ (i : Int) := by omega
      have hin : i < (dirtNs d.dirty).length := by simpa [dirtNs] using hlt
      obtain ⟨bb, off, e, _⟩ := hB.rd.at' i hin
      subst e
      have y0 := int_rd hB.rd hin
      have hnum : (dirtNs d.dirty)[i] = (d.dirty[i].1 : Int) := by simp [dirtNs]
      rw [hnum] at y0
      have y4 : wr.cell? ⟨l, 4, none⟩ = some (.int .i64 d.size) := hA.size_cell.1
      have hdd : (d.bt keep i).dirty = (d.dirty[i].1, d.dirty[i].2) :: d.dirty.drop (i + 1) := drop_cons hlt
      have hland := Lib.hid (fun (W : World) (hW : Fr noBlock wr W) => land_any (DiskAt.ok.fr0 hA hW) hdd (keepN d.size keep i) (keepN_le _ _ _))
      have Hst := Lib.hid (bt_step d keep (i := i) hlt)
      by_cases hkk : i < keep.length
      · have qk : (i : Int) < (keep.length : Int) := by omega
        obtain ⟨bk, ofk, ek, _⟩ := hK.rd.at' i hkk
        subst ek
        have z0 := int_rd hK.rd hkk
        have Hkn := Lib.hid (keepN_at (size := d.size) hkk)
        generalize keepN d.size keep i = kn at *
        generalize keep[i] = kv at *
        generalize d.dirty[i] = p at *
        clear hA hS hB hK hnum hdd hlt hkk
        have hwp : IntKind.i64.wrap ((d.size : Int) + 1) = (d.size : Int) + 1 := IntWalk.i64_in _ (by omega)
        go_wp2_with fail
        go_region_held3 (fun W => W.cell? ⟨bk, ofk + i, none⟩ = some (.int .i64 kv) ∧ W.cell? ⟨l, 4, none⟩ = some (.int .i64 d.size)) (go_keep)
          ((go_at_call 28; (with_reducible refine (modulo_any _ _ _ (by omega) (by omega)).mono ?_); rintro e w5 ⟨rfl, rfl⟩))
        clear hwp
        go_wp2_with fail
        rw [← Hkn.out]
        refine (hland.out _ ((Fr.refl _ _).drew)).mono ?_
        rintro e w5 ⟨G', rfl, h5, s5⟩
        have H5 := Lib.hid (And.intro h5 s5)
        clear h5 s5
        go_wp2_with fail
        go_roundw
        case rel => exact ⟨i + 1, G', by omega, by go_num, by rw [Hst.out]; exact H5.out.1, HA.out.2.1.trans ((Step.same ((Fr.refl noBlock _).drew)).trans H5.out.2), HA.out.2.2.1.step ((Step.same ((Fr.refl noBlock _).drew)).trans H5.out.2), HA.out.2.2.2.step ((Step.same ((Fr.refl noBlock _).drew)).trans H5.out.2)⟩
        case measure => simp [intOf]; omega
      · have qk : (keep.length : Int) ≤ (i : Int) := by omega
        have Hkn := Lib.hid (keepN_none (size := d.size) hkk)
        generalize keepN d.size keep i = kn at *
        generalize d.dirty[i] = p at *
        clear hA hS hB hK hnum hdd hlt hkk
        go_wp2_with fail
        rw [show (0 : Int) = ((kn : Nat) : Int) by rw [Hkn.out]; rfl]
        refine (hland.out _ (Fr.refl _ _)).mono ?_
        rintro e w5 ⟨G', rfl, h5, s5⟩
        have H5 := Lib.hid (And.intro h5 s5)
        clear h5 s5
        go_wp2_with fail
        go_roundw
        case rel => exact ⟨i + 1, G', by omega, by go_num, by rw [Hst.out]; exact H5.out.1, HA.out.2.1.trans H5.out.2, HA.out.2.2.1.step H5.out.2, HA.out.2.2.2.step H5.out.2⟩
        case measure => simp [intOf]; omega
    · have q2 : (d.dirty.length : Int) ≤ (i : Int) := by omega
      have e : i = d.dirty.length := by omega
      have hF := HA.out
      rw [e] at hF
      obtain ⟨acts, part, sv, ss, bm, g, hin⟩ := hF.1
      obtain ⟨c0, c1, c2, c3, _, _, _⟩ := hin.cells
      have z0 := free_of hin.box 0
      have z1 := free_of hin.box 1
      have z2 := free_of hin.box 2
      have z3 := free_of hin.box 3
      have HF := Lib.hid hF
      have Hin := Lib.hid hin
      have Hbox := Lib.hid hin.box
      have Hne := Lib.hid ((hin.foot l).2 (.inl rfl))
      have Hg := Lib.hid (hin.good)
      clear hA hS hB hK hlt e hF hin
      go_wp2_with fail
      go_end0
      have hfr := ((((Fr.refl (fun k => k = l) wr).setCell (p := ⟨l, 0, none⟩) (.inl rfl) (.bool false)).setCell (p := ⟨l, 1, none⟩) (.inl rfl) (.bool false)).setCell (p := ⟨l, 2, none⟩) (.inl rfl) (.int .i64 0)).setCell (p := ⟨l, 3, none⟩) (.inl rfl) (.int .i64 0)
      have hbx := heap_set_eq (i := 3) (u := .int .i64 0) (heap_set_eq (i := 2) (u := .int .i64 0) (heap_set_eq (i := 1) (u := .bool false) (heap_set_eq (i := 0) (u := .bool false) Hbox.out)))
      have hg := Hg.out
      refine ⟨G, rfl, ?_, HF.out.2.1.trans ⟨hfr.mono (fun k hk => by subst hk; exact Hne.out), fun _ hk => .inl hk⟩⟩
      rw [bt_boot]
      exact ⟨_, _, _, _, _, _, Hin.out.power hfr (off := false) (arm := none) (acts' := 0) (part' := 0) (by simpa using hbx) (fun _ _ h => by cases h) ⟨hg.s0, hg.s1, hg.n1, hg.sizes, hg.rise, hg.there, fun _ _ h => by cases h⟩⟩
end Go.Proofs.YthabllnhlhkejaaGreatDoor
namespace Go.Proofs.YthabllnhlhkejaaGreatDoor

variable [Dim] {l : List JW} {was : Nat → Bs} {d : DK}
theorem partsB_ok (hv : VL l) (h : Cl (A2 l was) d) : ∀ n b, some (n, b) ∈ partsB l → d.isS n = true ∧ b.length = d.size := by
  intro n b hm
  unfold partsB at hm
  rcases List.mem_append.1 hm with hm | hm
  · obtain ⟨v, hv', e⟩ := List.mem_map.1 (mem_acts hm)
    cases e
    have h3 := hv.all v hv'
    exact ⟨isS_of h.1.len (by omega) (by omega), by rw [h.1.size]; exact h3.2.2⟩
  · have h2 := mem_acts hm
    simp at h2
    obtain ⟨rfl, rfl⟩ := h2
    exact ⟨isS_of h.1.len (by simp) (by have := Dim.n9; simp; omega), by rw [h.1.size]; exact head64 hv 0⟩
/-- a booted disk opens -/
theorem open_un (h : Bt l was d) (ha : d.arm = none) (h1 : 1 ≤ l.length) : (openR d).2 = 0 ∧ (openR d).1.arm = none ∧ (Cl (A0 (thnF l was)) (openR d).1 ∨ Cl (A0 was) (openR d).1) := by
  rcases h with (h | ⟨hv, h⟩) | h
  · rw [open_Cl0 h]
    exact ⟨rfl, ha, .inl h⟩
  · rw [open_Cl2 hv h1 h]
    obtain ⟨r1, r2, r3, r4, r5⟩ := jrun_unarmed (partsB l) d h.2.1 ha (partsB_ok hv h)
    rcases run_home hv h with ⟨_, hc⟩ | ⟨e, _⟩
    · exact ⟨r1, r3, .inl hc⟩
    · rw [r1] at e
      cases e
  · rw [open_Cl0 h]
    exact ⟨rfl, ha, .inr h⟩
variable {X : Nat → Bs} {S : Saves} {master : Bs} {T P : Nat}
theorem partR_armed (d : DK) (a p b : Int) (k : Nat) : partR (d.armed a p) b k = partR d b k := by
  have _z := Dim.n9
  induction k with
  | zero => rfl
  | succ k ih =>
    show (if (partR (d.armed a p) b k).2 ≠ 0 then ([], (partR (d.armed a p) b k).2) else if jreadE (d.armed a p) (b + k) ≠ 0 then ([], jreadE (d.armed a p) (b + k)) else ((partR (d.armed a p) b k).1 ++ jreadB (d.armed a p) (b + k), 0) : Bs × Int) = _
    rw [ih]
    rfl
theorem mayL_armed (d : DK) (a p : Int) : ∀ (l pre : List JW), mayL (d.armed a p) pre l = mayL d pre l
  | [], _ => rfl
  | w :: l, pre => by
    have _z := Dim.n9
    show (if w.2.length ≠ d.size then (1 : Int) else if isJ d w.1 = false then 31 else if pre.any (fun v => v.1 == w.1) then 1 else mayL (d.armed a p) (pre ++ [w]) l) = _
    rw [mayL_armed d a p l]
    rfl
theorem mayE_armed (d : DK) (a p : Int) (l : List JW) : mayE (d.armed a p) l = mayE d l := by
  unfold mayE
  rw [mayL_armed]
/-- the disk of a store may be another one -/
theorem StoreX.moved (h : StoreX master T P S X d) {d' : DK} (hc : Cl (A0 X) d') (ha : d'.arm = none) : StoreX master T P S X d' := ⟨⟨hc, ha⟩, h.parts, h.fine, h.room, h.p1, h.p8⟩
theorem boot_open (h : Pr (A0 X) B0 d) (keep : List Int) : (openR (d.boot keep)).2 = 0 ∧ (openR (d.boot keep)).1.arm = none ∧ Cl (A0 X) (openR (d.boot keep)).1 ∧ (d.boot keep).safe.length = Dim.N := by
  obtain ⟨a, b, c, e⟩ := h.boot mix0 keep
  have hc : Cl (A0 X) (d.boot keep) := ⟨a, b, c⟩
  rw [open_Cl0 hc]
  exact ⟨rfl, e, hc, a.len⟩
theorem Bt.len (h : Bt l was d) : d.safe.length = Dim.N := by
  rcases h with (h | ⟨_, h⟩) | h <;> exact h.1.len
open StoreX in
/-- A SAVE WITH THE DISK ARMED, A BOOT, AN OPENING: the new bytes, or the old ones. -/
theorem StoreX.lasts (h : StoreX master T P S X d) {t : Nat} (h1 : 1 ≤ t) (hT : t ≤ T) (b : Bs) (hk : numS (S t) < 999999) {a p : Int} (ha : a ≤ 9223372036854775807) (hp0 : -9223372036854775808 ≤ p) (hp1 : p ≤ 9223372036854775807) (keep : List Int) :
    ∃ (r : DK × Int × Int) (S' : Saves) (X' : Nat → Bs), saveR (keyK master t 2 1) (keyK master t 3 1) (aboutB t) (d.armed a p) 0 P t b = r ∧ (openR (r.1.boot keep)).2 = 0 ∧ (r.1.boot keep).safe.length = Dim.N ∧ StoreX master T P S' X' (openR (r.1.boot keep)).1 ∧
      ((r.2.2 = 14 ∧ P * Dim.Z - 28 < b.length ∧ S' = S) ∨ (r.2.2 = 0 ∧ S' = upd S t (numS (S t) + 1, b)) ∨ (r.2.2 = 30 ∧ (S' = S ∨ S' = upd S t (numS (S t) + 1, b)))) := by
  have hb := h.big
  have hsz : (d.armed a p).size = Dim.Z := h.jn.cl.1.size
  have hcl : Cl (A0 X) (d.armed a p) := h.jn.cl.armed ha hp0 hp1
  unfold saveR
  rw [hsz]
  by_cases hr : P * Dim.Z - 28 < b.length
  · rw [if_pos hr]
    obtain ⟨o1, o2, o3, o4⟩ := boot_open (hcl.tr) keep
    exact ⟨_, S, X, rfl, o1, o4, h.moved o3 o2, .inl ⟨rfl, hr, rfl⟩⟩
  · rw [if_neg hr, partR_armed, h.load h1 hT]
    have e1 : ¬ ((told (S t)).2.2 ≠ 0 ∧ (told (S t)).2.2 ≠ 15) := by
      cases S t with
      | none => rintro ⟨_, h2⟩; exact h2 rfl
      | some q => rintro ⟨h2, _⟩; exact h2 rfl
    have e2 : (told (S t)).2.1 = numS (S t) := by
      cases S t with
      | none => rfl
      | some q => rfl
    rw [if_neg e1, e2, if_neg (by omega)]
    have hl := sealB_len (keyK_len master t 2 1) (keyK master t 3 1) (numS (S t) + 1) (aboutB t) b
    have hal := allB_len (s := sealB (keyK master t 2 1) (keyK master t 3 1) (numS (S t) + 1) (aboutB t) b) (m := P * Dim.Z) (by omega)
    obtain ⟨all, hall⟩ : ∃ all, allB (sealB (keyK master t 2 1) (keyK master t 3 1) (numS (S t) + 1) (aboutB t) b) (P * Dim.Z) = all := ⟨_, rfl⟩
    rw [hall] at hal ⊢
    have hm := mayE_save h.jn ((t - 1) * P) P all h.p8 (h.low h1 hT) (by rw [hal]; exact Nat.le_refl _)
    rw [← mayE_armed d a p] at hm
    have hnew : ∀ d' : DK, Cl (A0 (thnF (saveL ((t - 1) * P) P Dim.Z all) X)) d' → d'.arm = none → StoreX master T P (upd S t (numS (S t) + 1, b)) (thnF (saveL ((t - 1) * P) P Dim.Z all) X) d' := by
      intro d' c3 ca
      refine ⟨⟨c3, ca⟩, fun u hu1 huT => ?_, fun u k b' hS => ?_, h.room, h.p1, h.p8⟩
      · unfold upd
        by_cases e : u = t
        · subst e
          rw [if_pos rfl, secsX_save _ _ _ _ hal, ← hall]
          rfl
        · rw [if_neg e, secsX_other, h.parts u hu1 huT]
          rcases Nat.lt_or_gt_of_ne e with hlt | hgt
          · have h3 : (u - 1 + 1) * P ≤ (t - 1) * P := Nat.mul_le_mul_right _ (by omega)
            rw [Nat.succ_mul] at h3
            exact .inl h3
          · have h3 : (t - 1 + 1) * P ≤ (u - 1) * P := Nat.mul_le_mul_right _ (by omega)
            rw [Nat.succ_mul] at h3
            exact .inr h3
      · unfold upd at hS
        by_cases e : u = t
        · rw [if_pos e] at hS
          cases hS
          exact ⟨by omega, by omega, by omega⟩
        · rw [if_neg e] at hS
          exact h.fine u k b' hS
    rcases commit_after (l := saveL ((t - 1) * P) P Dim.Z all) hcl with ⟨_, _, _, _, hm'⟩ | ⟨_, e0, _, hc⟩ | ⟨e0, hl1, hc⟩
    · exact absurd hm hm'
    · obtain ⟨o1, o2, o3, o4⟩ := boot_open (hc.tr) keep
      exact ⟨_, _, _, rfl, o1, o4, hnew _ o3 o2, .inr (.inl ⟨e0, rfl⟩)⟩
    · obtain ⟨b1, b2⟩ := boot_Tr hc keep
      obtain ⟨o1, o2, o3 | o3⟩ := open_un b1 b2 hl1
      · exact ⟨_, _, _, rfl, o1, b1.len, hnew _ o3 o2, .inr (.inr ⟨e0, .inr rfl⟩)⟩
      · exact ⟨_, _, _, rfl, o1, b1.len, h.moved o3 o2, .inr (.inr ⟨e0, .inl rfl⟩)⟩
end Go.Proofs.YthabllnhlhkejaaGreatDoor
namespace Go.Proofs.YthabllnhlhkejaaGreatDoor
open Go.RowKit
open StoreX

theorem i64_and15 (n : Int) : bits .and .i64 n 15 = n % 16 := by
  show IntKind.i64.wrap ((BitVec.ofInt 64 n &&& BitVec.ofInt 64 15).toNat : Int) = _
  have e : (BitVec.ofInt 64 n &&& BitVec.ofInt 64 15).toNat = (BitVec.ofInt 64 n).toNat % 16 := by
    rw [BitVec.toNat_and]
    exact Nat.and_two_pow_sub_one_eq_mod _ 4
  rw [e, IntKind.wrap_i64, BitVec.toNat_ofInt]
  omega
/-- bytes of our own, beside a thing -/
structure WasOk (v : Value) (l : Bs) (F : Nat → Prop) (W : World) : Prop where
  row : RowAt 5 ByteR W v l
  na : ∀ k, v.ownBlock = some k → ¬ F k
namespace WasOk
variable {v : Value} {l : Bs} {F F' : Nat → Prop} {W W' : World}
theorem on (h : WasOk v l F W) (f : Fr noBlock W W') : WasOk v l F W' := ⟨h.row.fr0 f, h.na⟩
theorem step (h : WasOk v l F W) (s : Step F F' W W') : WasOk v l F' W' := ⟨h.row.fr s.fr (fun k hk => h.na k hk), fun k hk e => (s.foot k e).elim (h.na k hk) (fun hle => by have := h.row.lt k hk; omega)⟩
theorem sub (h : WasOk v l F W) (hs : ∀ k, F' k → F k) : WasOk v l F' W := ⟨h.row, fun k hk e => h.na k hk (hs k e)⟩
end WasOk
/-- a disk of our own, since w -/
structure OwnD (w W : World) (L : Nat) (d : DK) (F : Nat → Prop) : Prop where
  it : DiskAt L d W F
  fr : Fr noBlock w W
  new : ∀ k, F k → w.heap.size ≤ k
theorem OwnD.step {w W W' : World} {L : Nat} {d d' : DK} {F F' : Nat → Prop} (h : OwnD w W L d F) (h' : DiskAt L d' W' F') (s : Step F F' W W') : OwnD w W' L d' F' :=
  ⟨h', h.fr.trans s.fr (fun k hk => .inr (h.new k hk)), fun k hk => (s.foot k hk).elim (h.new k) (fun hle => Nat.le_trans h.fr.size hle)⟩
theorem OwnD.on {w W W' : World} {L : Nat} {d : DK} {F : Nat → Prop} (h : OwnD w W L d F) (f : Fr noBlock W W') : OwnD w W' L d F := ⟨DiskAt.ok.fr0 h.it f, h.fr.trans' f, h.new⟩
theorem load_17w {w W : World} {sp j rg sg L q : Nat} {d : DK} {F : Nat → Prop} {S : Saves} {X : Nat → Bs} (h : OwnS w W sp j rg sg L d F) (hX : @StoreX d17 masterB 4 2 S X d) (hq : q < 4) :
    Calls Tryz.prog 11 #[.pointer (some ⟨sp, 0, none⟩), .int .i64 (1 + (q : Int))] W fun e w' => ∃ (s : SV) (F' : Nat → Prop), e = .returned (.tuple #[s.val, .int .i64 ((told (S (q + 1))).2.1 : Int), .int .i64 (told (S (q + 1))).2.2]) ∧ s.n = (told (S (q + 1))).1.length ∧ WasOk s.val (told (S (q + 1))).1 F' w' ∧ OwnS w w' sp j rg sg L d F' ∧ Step F F' W w' := by
  have e : (1 + (q : Int)) = ((q + 1 : Nat) : Int) := by omega
  rw [e]
  refine (@load_in d17 _ sp j rg sg L 4 2 (q + 1) _ _ _ _ _ h.it hX (by decide) (by omega) (by omega) (by decide)).mono ?_
  rintro e w' ⟨s, F', rfl, k1, k2, k3, k4, k5⟩
  exact ⟨s, F', rfl, k1, ⟨k2, fun k hk => (k5 k hk).2⟩, h.step k3 k4, k4⟩
theorem arm_17 {w W : World} {sp j rg sg L : Nat} {d : DK} {F : Nat → Prop} (h : OwnS w W sp j rg sg L d F) {a p : Int} (ha : a ≤ 9223372036854775807) (hp0 : -9223372036854775808 ≤ p) (hp1 : p ≤ 9223372036854775807) :
    Calls Tryz.prog 13 #[.pointer (some ⟨L, 0, none⟩), .int .i64 a, .int .i64 p] W fun e w' => ∃ F', e = .returned (.tuple #[]) ∧ OwnS w w' sp j rg sg L (d.armed a p) F' ∧ Step F F' W w' := by
  obtain ⟨G, H, k1, k2, k3, k4⟩ := h.it
  obtain ⟨D, m1, m2, m3⟩ := k1.disk
  refine (arm_any m1 a p ha hp0 hp1).mono ?_
  rintro e w' ⟨rfl, n1, n2⟩
  obtain ⟨H', p1, p2⟩ := m3 _ _ _ n1 n2
  have hst : Step F (fun k => G k ∨ H' k) W w' := ⟨p2.fr.mono (fun k hk => (k4 k).2 (.inr hk)), fun k hk => hk.elim (fun hk => .inl ((k4 k).2 (.inl hk))) (fun hk => (p2.foot k hk).imp (fun z => (k4 k).2 (.inr z)) id)⟩
  exact ⟨_, rfl, h.step ⟨G, H', p1, SealsT.ok.fr k2 p2.fr (fun k hg hh => k3 k hg hh), fun k hg hh => (p2.foot k hh).elim (k3 k hg) (fun hle => by have := SealsT.ok.lt k2 k hg; omega), fun k => Iff.rfl⟩ hst, hst⟩
/-- what a Save, a boot, an opening leave -/
def Lasts (S S' : Saves) (q : Nat) (b : Bs) (er : Int) : Prop :=
  (er = 14 ∧ 100 < b.length ∧ S' = S) ∨ (er = 0 ∧ S' = upd S (q + 1) (numS (S (q + 1)) + 1, b)) ∨ (er = 30 ∧ (S' = S ∨ S' = upd S (q + 1) (numS (S (q + 1)) + 1, b)))
theorem cut_17 {w W : World} {sp j rg sg L q : Nat} {d : DK} {F : Nat → Prop} {S : Saves} {X : Nat → Bs} {a p : Int} (h : OwnS w W sp j rg sg L (d.armed a p) F) (hX : @StoreX d17 masterB 4 2 S X d) (ha : a ≤ 9223372036854775807) (hp0 : -9223372036854775808 ≤ p) (hp1 : p ≤ 9223372036854775807) (hq : q < 4) (hk : numS (S (q + 1)) < 999999) {bo : Option Addr} {b : Bs} (hb : RowRd ByteR w bo b) (bc : Nat) (keep : List Int) :
    Calls Tryz.prog 9 #[.pointer (some ⟨sp, 0, none⟩), .int .i64 (1 + (q : Int)), .slice bo b.length bc] W fun e w' => ∃ (er : Int) (d' : DK) (S' : Saves) (X' : Nat → Bs) (F' : Nat → Prop), e = .returned (.int .i64 er) ∧ OwnD w w' L d' F' ∧ Step F F' W w' ∧ (openR (d'.boot keep)).2 = 0 ∧ (d'.boot keep).safe.length = 17 ∧ @StoreX d17 masterB 4 2 S' X' (openR (d'.boot keep)).1 ∧ Lasts S S' q b er := by
  have e : (1 + (q : Int)) = ((q + 1 : Nat) : Int) := by omega
  rw [e]
  have hap := h.apart hb
  have hb' := hb.fr0 h.fr
  have hfr := h.fr
  have hnew := h.new
  obtain ⟨G, H, k1, k2, k3, k4⟩ := h.it
  obtain ⟨r, S', X', hr, r1, r4, r2, r3⟩ := @StoreX.lasts d17 d X S masterB 4 2 hX (q + 1) (by omega) (by omega) b hk a p ha hp0 hp1 keep
  have hs := ssave_any (n := q + 1) k1 k2 k3 (show masterB.length ≤ 64 by decide) (by omega) (by omega) (by omega) (by omega) (by omega) hb' (fun h0 a e hg => hap h0 a e ((k4 _).2 (.inl hg))) bc
  rw [hr] at hs
  refine hs.mono ?_
  rintro e w' ⟨G', H', rfl, m1, m2, m3, m4⟩
  obtain ⟨D, n1, n2, -⟩ := m1.disk
  have hst : Step F D W w' := ⟨m4.fr.mono (fun k hk => (k4 k).2 hk), fun k hk => (m4.foot k (.inr (n2 k hk))).imp (fun h => (k4 k).2 h) id⟩
  exact ⟨r.2.2, r.1, S', X', D, rfl, ⟨n1, hfr.trans hst.fr (fun k hk => .inr (hnew k hk)), fun k hk => (hst.foot k hk).elim (hnew k) (fun hle => Nat.le_trans hfr.size hle)⟩, hst, r1, r4, r2, r3⟩
theorem boot_17 {w W : World} {L : Nat} {d : DK} {F : Nat → Prop} (h : OwnD w W L d F) {ko : Option Addr} {keep : List Int} (hk : RowRd IntR w ko keep) (kc : Nat) :
    Calls Tryz.prog 14 #[.pointer (some ⟨L, 0, none⟩), .slice ko keep.length kc] W fun e w' => ∃ F', e = .returned (.tuple #[]) ∧ OwnD w w' L (d.boot keep) F' ∧ Step F F' W w' := by
  have hkl := hk.len
  unfold maxLen at hkl
  refine (boot_any h.it ⟨hk.fr0 h.fr, fun h0 a e => ?_⟩ kc (by omega)).mono ?_
  · obtain ⟨g, off, e', hg, _⟩ := hk.at' 0 h0
    rw [e] at e'
    cases e'
    exact ⟨fun hf => by have := h.new _ hf; dsimp only at this; omega, Nat.lt_of_lt_of_le hg h.fr.size⟩
  · rintro e w' ⟨F', rfl, k1, k2⟩
    exact ⟨F', rfl, h.step k1 k2, k2⟩
theorem open_17 {w W : World} {L : Nat} {d : DK} {F : Nat → Prop} (h : OwnD w W L d F) (h0 : (openR d).2 = 0) (hs : d.safe.length = 17) {mo : Option Addr} (hm : RowRd ByteR W mo masterB) :
    Calls Tryz.prog 15 #[.pointer (some ⟨L, 0, none⟩), .slice mo masterB.length 16, .int .i64 4, .int .i64 2] W fun e w' => ∃ (sp j rg sg : Nat) (F' : Nat → Prop), e = .returned (.tuple #[.pointer (some ⟨sp, 0, none⟩), .int .i64 0]) ∧ OwnS w w' sp j rg sg L (openR d).1 F' ∧ Step F F' W w' := by
  refine (sopen_any (tenants := 4) (pages := 2) h.it hm 16 (by decide) (by decide) (by omega) (by omega) (by omega) (by omega) (by omega)).mono ?_
  rintro e w' (⟨_, sp, j, rg, sg, F', rfl, m1, m2⟩ | ⟨h1, _⟩)
  · exact ⟨sp, j, rg, sg, F', rfl, ⟨m1, h.fr.trans m2.fr (fun k hk => .inr (h.new k hk)), fun k hk => (m2.foot k hk).elim (h.new k) (fun hle => Nat.le_trans h.fr.size hle)⟩, m2⟩
  · exact absurd h0 h1
set_option maxRecDepth 100000 in
set_option maxHeartbeats 6400000 in
theorem lasts_walk {w : World} {ao bo ko : Option Addr} {xs : List DAct} {b : Bs} {keep : List Int} (hx : RowRd DActR w ao xs) (hok : ∀ y ∈ xs, y.Ok w) (cap : Nat) (t : Int) (hb : RowRd ByteR w bo b) (bc : Nat) (n p : Int) (hp : i64B p) (hkp : RowRd IntR w ko keep) (kc : Nat) :
    Calls Tryz.prog 6 #[.slice ao xs.length cap, .int .i64 t, .slice bo b.length bc, .int .i64 n, .int .i64 p, .slice ko keep.length kc] w fun e w' => e = .returned (.bool true) ∧ Below w.heap.size w w' := by
  have HX := Lib.hid (And.intro hx hok)
  have HB := Lib.hid hb
  have HKp := Lib.hid hkp
  have HP := Lib.hid hp
  obtain ⟨q, hq, hand⟩ := who_is t
  have hn16 := i64_and15 n
  obtain ⟨a, ha⟩ : ∃ a : Int, n % 16 = a := ⟨_, rfl⟩
  have HA := Lib.hid (show 0 ≤ a ∧ a < 16 by omega)
  rw [ha] at hn16
  have HSm := Lib.hid (ssmall_any w)
  have HM := Lib.hid (fun W => master_any W)
  have q1 : wrap64 (1 + (q : Int)) = 1 + (q : Int) := by unfold wrap64; omega
  clear hx hok hb hkp hp ha
  go_enter Tryz.func6, Tryz.ntmps6
  go_wp2_with fail
  refine HSm.out.mono ?_
  rintro e w0 ⟨rfl, f0⟩
  have HOp := Lib.hid (opened_17 f0)
  clear f0 HSm
  go_wp2_with fail
  refine HOp.out.mono ?_
  rintro e w1 ⟨sp, j, rg, sg, L, F1, rfl, h1⟩
  have H1 := Lib.hid (show St17 w w1 sp j rg sg L (DK.new 17 64) F1 (fun _ => none) (fun _ => List.replicate 64 0) 0 from ⟨h1, new17, fun _ => Nat.le_refl _⟩)
  clear h1 HOp
  go_upto_block 0 with fail
  go_cut [] from 43 to 66 (fun wx => ∃ (d : DK) (F : Nat → Prop) (S : Saves) (X : Nat → Bs), St17 w wx sp j rg sg L d F S X 12)
  case first =>
    clear hand q1
    go_wp2_with fail
    go_loopw [17] (fun s17 W => ∃ (i : Nat) (d : DK) (F : Nat → Prop) (S : Saves) (X : Nat → Bs), i ≤ xs.length ∧ i ≤ 12 ∧ s17 = .int .i64 i ∧ Hid (St17 w W sp j rg sg L d F S X i)) (fun s17 _ => 12 - (intOf s17).toNat)
    case atStart => exact ⟨0, _, F1, _, _, Nat.zero_le _, by omega, rfl, Lib.hid H1.out⟩
    case round =>
      clear H1
      obtain ⟨i, d, F, S, X, hi, hi12, rfl, HI⟩ := hrel
      by_cases hlt : i < xs.length ∧ i < 12
      · obtain ⟨hlt, hi11⟩ := hlt
        have q1 : (i : Int) < (xs.length : Int) := by omega
        have q2 : (i : Int) < 12 := by omega
        have q0 : (0 : Int) ≤ (i : Int) := by omega
        obtain ⟨g, off, rfl, hgw, -, y1, -, y3, -⟩ := dact_cells HX.out.1 hlt
        have hav := HX.out.2 xs[i] (List.getElem_mem hlt)
        generalize xs[i] = av at *
        obtain ⟨op, an, am, ro, rc, rb, xo, xc, xk⟩ := av
        dsimp only at y1 y3
        have HBy := Lib.hid (show RowRd ByteR w ro rb from hav.b)
        have z1 := (HI.out.own.fr.cell (p := ⟨g, _, none⟩) hgw (fun z => z)).trans y1
        have z3 := (HI.out.own.fr.cell (p := ⟨g, _, none⟩) hgw (fun z => z)).trans y3
        obtain ⟨q', hq', hand'⟩ := who_is an
        have p1 : wrap64 (1 + (q' : Int)) = 1 + (q' : Int) := by unfold wrap64; omega
        have HSv := Lib.hid (save_17 (q := q') (HI.out.own.on ((Fr.refl noBlock wr).drew)) HI.out.st hq' (by have := HI.out.few (q' + 1); omega) HBy.out rc)
        have HF := Lib.hid HI.out.few
        clear y1 y3 hav hgw HI
        go_wp2_with fail
        go_still_tail 13, (by kernel_rfl)
        change wpList _ _ _ _ _ wr.drew
        go_wp2_with fail
        refine HSv.out.mono ?_
        rintro e w2 ⟨d2, X2, F2, rfl, h2, x2⟩
        obtain ⟨S2, hS2⟩ : ∃ S2, (if 100 < rb.length then S else upd S (q' + 1) (numS (S (q' + 1)) + 1, rb)) = S2 := ⟨_, rfl⟩
        rw [hS2] at x2
        have H2 := Lib.hid (show St17 w w2 sp j rg sg L d2 F2 S2 X2 (i + 1) from ⟨h2, x2, fun u => by
          rw [← hS2]
          have h0 := HF.out u
          have h1 := HF.out (q' + 1)
          split
          · omega
          · rw [numS_upd]
            split
            · show numS (S (q' + 1)) + 1 ≤ i + 1
              omega
            · omega⟩)
        clear h2 x2 HSv HF hS2
        go_wp2_with fail
        go_roundw
        case rel => exact ⟨i + 1, d2, F2, S2, X2, hlt, by omega, by go_num, H2⟩
        case measure => simp [intOf]; omega
      · have hcs : (xs.length : Int) ≤ (i : Int) ∨ ((i : Int) < (xs.length : Int) ∧ (12 : Int) ≤ (i : Int)) := by omega
        clear hlt
        rcases hcs with q | ⟨q, q'⟩
        all_goals
          go_wp2_with fail
          go_meet
          exact ⟨d, F, S, X, HI.out.own, HI.out.st, fun u => Nat.le_trans (HI.out.few u) hi12⟩
  case rest =>
    obtain ⟨d, F, S, X, hS⟩ := hcut
    have HLd := Lib.hid (load_17w (q := q) hS.own hS.st hq)
    have HX2 := Lib.hid hS.st
    have hfew : numS (S (q + 1)) < 999999 := by have := hS.few (q + 1); omega
    have HFw := Lib.hid hfew
    clear hS H1 HX hfew
    go_wp2_with fail
    refine HLd.out.mono ?_
    rintro e w3 ⟨⟨xa, xn, xc⟩, F3, rfl, k1, k2, k3, -⟩
    unfold SV.val at k2 ⊢
    dsimp only at k1 k2 ⊢
    subst k1
    have HAr := Lib.hid (arm_17 (a := a) (p := p) k3 (by have := HA.out; omega) HP.out.1 HP.out.2)
    have HWs := Lib.hid k2
    clear k2 k3 HLd
    go_wp2_with fail
    refine HAr.out.mono ?_
    rintro e w4 ⟨F4, rfl, k3, k4⟩
    have HWs4 := Lib.hid (HWs.out.step k4)
    have HSv := Lib.hid (cut_17 (q := q) k3 HX2.out (by have := HA.out; omega) HP.out.1 HP.out.2 hq HFw.out HB.out bc keep)
    clear k3 k4 HAr HWs
    go_wp2_with fail
    refine HSv.out.mono ?_
    rintro e w5 ⟨er, d5, S5, X5, F5, rfl, k1, k2, k3, k4, k5, k6⟩
    have HWs5 := Lib.hid (HWs4.out.step k2)
    have HBt := Lib.hid (boot_17 k1 HKp.out kc)
    have H5 := Lib.hid (And.intro k3 (And.intro k4 (And.intro k5 k6)))
    clear k1 k2 k3 k4 k5 k6 HWs4 HSv
    go_wp2_with fail
    refine HBt.out.mono ?_
    rintro e w6 ⟨F6, rfl, k1, k2⟩
    have HWs6 := Lib.hid (HWs5.out.step k2)
    have H6 := Lib.hid k1
    clear k1 k2 HWs5 HBt
    go_wp2_with fail
    refine (HM.out _).mono ?_
    rintro e w7 ⟨mg, rfl, k1, k2, -⟩
    have HOp := Lib.hid (open_17 (H6.out.on k2) H5.out.1 H5.out.2.1 k1)
    have HWs7 := Lib.hid (HWs6.out.on k2)
    clear k1 k2 H6 HWs6 HM
    go_wp2_with fail
    refine HOp.out.mono ?_
    rintro e w8 ⟨sp8, j8, rg8, sg8, F8, rfl, k1, k2⟩
    have HWs8 := Lib.hid (HWs7.out.step k2)
    have HLd := Lib.hid (load_17w (q := q) k1 H5.out.2.2.1 hq)
    clear k1 k2 HWs7 HOp
    go_wp2_with fail
    refine HLd.out.mono ?_
    rintro e w9 ⟨⟨ya, yn, yc⟩, F9, rfl, k1, k2, k3, k4⟩
    unfold SV.val at k2 ⊢
    dsimp only at k1 k2 ⊢
    subst k1
    have hcy := conv_rd k2.row.rd yc
    have hcx := conv_rd (HWs8.out.step k4).row.rd xc
    have hcb := conv_rd (HB.out.fr0 k3.fr) bc
    have HRm := Lib.hid (room_17 k3 H5.out.2.2.1)
    have H9 := Lib.hid k3.fr
    have HLs := Lib.hid H5.out.2.2.2
    clear k2 k3 k4 HWs8 HLd H5 HX2 HB HKp HP HA hand
    obtain ⟨⟨l0, k0, e0⟩, hT0⟩ : ∃ T0, told (S (q + 1)) = T0 := ⟨_, rfl⟩
    obtain ⟨⟨l5, k5, e5⟩, hT5⟩ : ∃ T5, told (S5 (q + 1)) = T5 := ⟨_, rfl⟩
    have he0 : (e0 = 15 ∨ e0 = 0) ∧ k0 < 1000000 ∧ k0 = numS (S (q + 1)) := by
      have hF := HFw.out
      cases hS : S (q + 1) with
      | none =>
        rw [hS] at hT0
        cases hT0
        exact ⟨.inl rfl, by omega, rfl⟩
      | some r =>
        obtain ⟨k, b'⟩ := r
        rw [hS] at hT0 hF
        cases hT0
        exact ⟨.inr rfl, by unfold numS at hF; dsimp only at hF; omega, rfl⟩
    have hcase : ((l5, k5, e5) = (l0, k0, e0) ∧ ((er = 14 ∧ 100 < b.length) ∨ er = 30)) ∨ ((l5, k5, e5) = (b, k0 + 1, 0) ∧ (er = 0 ∨ er = 30)) := by
      have hu : told (upd S (q + 1) (numS (S (q + 1)) + 1, b) (q + 1)) = (b, k0 + 1, 0) := by
        unfold upd
        rw [if_pos rfl, he0.2.2]
        rfl
      rcases HLs.out with ⟨h1, h2, h3⟩ | ⟨h1, h3⟩ | ⟨h1, h3 | h3⟩
      · rw [h3, hT0] at hT5
        exact .inl ⟨hT5.symm, .inl ⟨h1, h2⟩⟩
      · rw [h3, hu] at hT5
        exact .inr ⟨hT5.symm, .inl h1⟩
      · rw [h3, hT0] at hT5
        exact .inl ⟨hT5.symm, .inr h1⟩
      · rw [h3, hu] at hT5
        exact .inr ⟨hT5.symm, .inr h1⟩
    rw [hT0] at hcx ⊢
    rw [hT5] at hcy ⊢
    dsimp only at hcx hcy ⊢
    have p2 : wrap64 ((k0 : Int) + 1) = (k0 : Int) + 1 := by unfold wrap64; omega
    have p3 : ((k0 : Int) == (k0 : Int) + 1) = false := by simp; omega
    have p4 : ((k0 : Int) + 1 == (k0 : Int)) = false := by simp; omega
    have p5 : ((k0 + 1 : Nat) : Int) = (k0 : Int) + 1 := by omega
    obtain ⟨he, -, -⟩ := he0
    clear hT0 hT5 HLs HFw
    rcases hcase with ⟨h5, her⟩ | ⟨h5, her⟩
    · cases h5
      rcases her with ⟨rfl, hr⟩ | rfl
      · have p6 : (100 : Int) < (b.length : Int) := by omega
        rcases he with rfl | rfl
        all_goals
          go_wp2_with fail
          refine HRm.out.mono ?_
          rintro e w10 ⟨rfl, hf⟩
          have H10 := Lib.hid (H9.out.trans' hf)
          clear hf HRm
          go_wp2_with fail
          go_ret
          exact ⟨rfl, H10.out.below (Nat.le_refl _) (fun _ h => h.elim)⟩
      · rcases he with rfl | rfl
        all_goals
          go_wp2_with fail
          go_ret
          exact ⟨rfl, H9.out.below (Nat.le_refl _) (fun _ h => h.elim)⟩
    · cases h5
      rw [p5]
      rcases her with rfl | rfl
      all_goals
        rcases he with rfl | rfl
        all_goals
          go_wp2_with fail
          go_ret
          exact ⟨rfl, H9.out.below (Nat.le_refl _) (fun _ h => h.elim)⟩
end Go.Proofs.YthabllnhlhkejaaGreatDoor
namespace Go.Proofs.YthabllnhlhkejaaGreatDoor.slasts
open Go.ChangeShapes Go.WideShapes Go.ChangeAt Go.RowKit
open Go.ChangeMaps (open_string shut_string)

theorem own : ownKnob Tryz.prog.godebug = none := by kernel_rfl
theorem laidOut : laidOutB Tryz.prog = true := by kernel_rfl

set_option maxRecDepth 100000 in
theorem lifted (os : Os) (started : os.Started) (H : Type) (enc : TypeId × Value → H) :
    ReturnsInHanded {} Tryz.checked os 6 .any (fun w args => (Rows.storeLastsSpec.pre enc Tryz.prog Tryz.f6 [] false w args ∧ laidMetH Tryz.prog Rows.storeLastsRow.laid w) ∧ sizedMet enc Tryz.prog Tryz.f6 (OpenSpec.ofChange Rows.storeLastsSpec) false w args)
      (Rows.storeLastsSpec.post enc Tryz.prog Tryz.f6 false true false false) := by
  refine returnsInHanded_of_change_and (C := Tryz.checked) (X := fun w _ => laidMetH Tryz.prog Rows.storeLastsRow.laid w) (fun _ _ _ hh h => h.of_heap hh) own started (by kernel_rfl) Tryz.func6
    (ChangeSpec.witness_shaped (enc := enc) (C := Tryz.checked) (os := os) (X := fun w _ => laidMetH Tryz.prog Rows.storeLastsRow.laid w) false (World.laidAll Tryz.prog os Rows.storeLastsRow.laid) #[.slice none 0 0, .int .i64 0, .slice none 0 0, .int .i64 0, .int .i64 0, .slice none 0 0] 8 (World.laidAll_os _ _ _)
      (World.shaped_of_ZipB (by kernel_rfl) (by kernel_rfl)) (by kernel_rfl) (by kernel_rfl) (by kernel_rfl)
      (by rw [MakeChecks.laidMetH_plain _ _ _ (by kernel_rfl)]; exact laidMet_laidAll _ (by kernel_rfl) (by kernel_rfl))) ?_
  intro W base args ds gs before hval0 hW _ hsz0 _ _
  have hval : ∀ (j : Nat) t v, Tryz.f6.params[j]? = some t → args[j]? = some v → Value.okWide Tryz.prog W .any base t v := hval0
  have hW' := hW
  obtain ⟨p, q, hA0, hV, rfl, hfz, hnd⟩ := hW
  have hA : DataW.TrodAll enc Tryz.prog W 0 (fun _ => true) true Tryz.f6.params.toList args.toList ds p := hA0
  have hsz : (DataW.weightsEach Tryz.prog (Tryz.f6.params.toList ++ Rows.storeLastsSpec.plain.varTypes Tryz.prog) (ds ++ gs)).all (· ≤ reachBytes) = true := hsz0
  rw [Tryz.params6] at hA hval hsz
  obtain ⟨v0, vs0, d0, ds0, p0, q0, hargs, rfl, rfl, h0, r0⟩ := trodAll_cons hA
  obtain ⟨v1, vs1, d1, ds1, p1, q1, rfl, rfl, rfl, h1, r1⟩ := trodAll_cons r0
  obtain ⟨v2, vs2, d2, ds2, p2, q2, rfl, rfl, rfl, h2, r2⟩ := trodAll_cons r1
  obtain ⟨v3, vs3, d3, ds3, p3, q3, rfl, rfl, rfl, h3, r3⟩ := trodAll_cons r2
  obtain ⟨v4, vs4, d4, ds4, p4, q4, rfl, rfl, rfl, h4, r4⟩ := trodAll_cons r3
  obtain ⟨v5, vs5, d5, ds5, p5, q5, rfl, rfl, rfl, h5, r5⟩ := trodAll_cons r4
  obtain ⟨rfl, rfl, rfl⟩ := trodAll_nil r5
  obtain rfl : args = #[v0, v1, v2, v3, v4, v5] := by cases args; simp_all
  obtain ⟨rfl, rfl⟩ := trodVars_none hV
  have k0 := h0
  have lt0 : ∀ x ∈ p0, x.block < W.heap.size := by obtain ⟨m, hm⟩ := k0; exact DataW.trod_lt m _ _ _ hm
  have k1 := h1
  have lt1 : ∀ x ∈ p1, x.block < W.heap.size := by obtain ⟨m, hm⟩ := k1; exact DataW.trod_lt m _ _ _ hm
  have k2 := h2
  have lt2 : ∀ x ∈ p2, x.block < W.heap.size := by obtain ⟨m, hm⟩ := k2; exact DataW.trod_lt m _ _ _ hm
  have k3 := h3
  have lt3 : ∀ x ∈ p3, x.block < W.heap.size := by obtain ⟨m, hm⟩ := k3; exact DataW.trod_lt m _ _ _ hm
  have k4 := h4
  have lt4 : ∀ x ∈ p4, x.block < W.heap.size := by obtain ⟨m, hm⟩ := k4; exact DataW.trod_lt m _ _ _ hm
  have k5 := h5
  have lt5 : ∀ x ∈ p5, x.block < W.heap.size := by obtain ⟨m, hm⟩ := k5; exact DataW.trod_lt m _ _ _ hm
  obtain ⟨ao, cap, xs, rfl, hx, hx_s⟩ := open_dacts (hval 0 22 v0 rfl rfl) h0
  obtain ⟨t, rfl, _, _, ht⟩ := open_int Tryz.underlying3 (hval 1 3 v1 rfl rfl) h1
  obtain ⟨bo, bc, b, rfl, hb⟩ := open_bytes (hval 2 28 v2 rfl rfl) h2
  obtain ⟨n, rfl, _, _, hn⟩ := open_int Tryz.underlying3 (hval 3 3 v3 rfl rfl) h3
  obtain ⟨p, rfl, _, _, hp⟩ := open_int Tryz.underlying3 (hval 4 3 v4 rfl rfl) h4
  obtain ⟨ko, kc, ks, rfl, hk, _⟩ := open_ints (hval 5 29 v5 rfl rfl) h5
  clear hA0 hval0 hsz0
  refine (lasts_walk hx hx_s cap t hb bc n p (i64_wf hp) hk kc).mono fun e W' ⟨he, bel⟩ => ?_
  subst he
  exact ⟨_, rfl, _, _, _, [], _, [], hW', trodAll_mk1 (shut_bool Tryz.underlying4 _),
    (trodAll_cons_mk (Below.trod laidOut (by kernel_rfl) (of_decide_eq_true (by kernel_rfl)) k0 bel lt0) (trodAll_cons_mk (Below.trod laidOut (by kernel_rfl) (of_decide_eq_true (by kernel_rfl)) k1 bel lt1) (trodAll_cons_mk (Below.trod laidOut (by kernel_rfl) (of_decide_eq_true (by kernel_rfl)) k2 bel lt2) (trodAll_cons_mk (Below.trod laidOut (by kernel_rfl) (of_decide_eq_true (by kernel_rfl)) k3 bel lt3) (trodAll_cons_mk (Below.trod laidOut (by kernel_rfl) (of_decide_eq_true (by kernel_rfl)) k4 bel lt4) (trodAll_cons_mk (Below.trod laidOut (by kernel_rfl) (of_decide_eq_true (by kernel_rfl)) k5 bel lt5) trodAll_mk0)))))), rfl, bel.frame _, fun h => by cases h⟩

theorem over : Rows.storeLastsRow.holds Tryz.pinned (OpenSpec.ofChange Rows.storeLastsSpec) :=
  OpenClaim.holds_of_wide 6 Tryz.f6 rfl rfl rfl rfl rfl rfl rfl ⟨rfl, rfl, rfl, rfl, rfl⟩ rfl rfl rfl rfl rfl (by kernel_rfl) Tryz.func6 (by kernel_rfl)
    (of_decide_eq_true (by kernel_rfl)) (by unfold Func.isWrapper; first | (rw [if_pos (by decide +kernel)]; kernel_rfl) | (rw [if_neg (by decide +kernel)]; exact ⟨rfl, rfl⟩))
    (fun os started H enc _ => lifted os started H enc)

/-- THE STATEMENT: the tied card. -/
theorem proved : Rows.StoreLastsCardSaid :=
  Claim7.holds_tied_plain_at .later [] [.data, .data, .data] true _ false over (fun _ h => by cases h) (by kernel_rfl) (fun _ h => by cases h) storeLasts_row_tie rfl ⟨rfl, rfl⟩ (by kernel_rfl) rfl
    (fun f fn hf hfn => by
      obtain rfl : f = 6 := Option.some.inj ((show Tryz.prog.funcNamed "moneyer/moneyerlaw22.StoreLasts" = some 6 by kernel_rfl).symm.trans hf) |>.symm
      obtain rfl : fn = Tryz.f6 := (Option.some.inj (Tryz.func6.symm.trans hfn)).symm
      exact ⟨by kernel_rfl, fun j t ht => by
        rw [Tryz.params6] at ht
        have hm : t ∈ ([22, 3, 28, 3, 3, 29] : List Nat) := by simpa using Array.mem_of_getElem? ht
        have hall : (([22, 3, 28, 3, 3, 29] : List Nat).all fun u => !Tryz.prog.wantsStandIn u) = true := by kernel_rfl
        exact (show Tryz.prog.wantsStandIn t = false by simpa using List.all_eq_true.1 hall t hm)⟩)
    (by kernel_rfl)
end Go.Proofs.YthabllnhlhkejaaGreatDoor.slasts
