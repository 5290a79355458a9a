/-
  THE WALK of Encrypt: a block under a key.
-/
import Derived.Deep.MidRow
import Derived.Test.YtajhgejhdalobaaGreatDoorAeF
import Derived.Test.YtajhgejhdalobaaGreatDoorOnce
namespace Go.Proofs.YtajhgejhdalobaaGreatDoor
open Go.RowKit

theorem key_lock {w : World} {b : Nat} {v rv : Value} {X Y : List UInt8} (h : w.heap[b]? = some (keyO v 0 0 0 X Y rv)) : (w.setCell ⟨b, 2, none⟩ (.int .i32 1)).heap[b]? = some (keyO v 0 1 0 X Y rv) := by
  rw [heap_set_eq (i := 2) (u := .int .i32 1) h]
  rfl
theorem key_done {w : World} {b : Nat} {v rv : Value} {X Y : List UInt8} (h : w.heap[b]? = some (keyO v 0 1 0 X Y rv)) : (onceEnd b 1 w).heap[b]? = some (keyO v 1 0 0 X Y rv) := by
  unfold onceEnd
  have h1 := heap_set_eq (w := w.drew) (i := 1) (u := .int .u32 1) h
  have h2 := heap_set_eq (i := 2) (u := .int .i32 0) h1
  rw [h2]
  rfl
def AFresh (ka : Nat) (key : List UInt8) : Thing := fun W F => ∃ (ro : Option Addr) (rc : Nat), W.heap[ka]? = some (keyO (.slice ro key.length rc) 0 0 0 zeros256 zeros256 (.slice none 0 0)) ∧ RowRd ByteR W ro key ∧ (∀ a, ro = some a → a.block ≠ ka) ∧ ∀ k, F k ↔ (k = ka ∨ ∃ a, ro = some a ∧ a.block = k)
def AReady (ka : Nat) (key : List UInt8) : Thing := fun W F => ∃ (v : Value) (Y : List UInt8) (vo : Option Addr) (vc : Nat), Y.length = 256 ∧ W.heap[ka]? = some (keyO v 1 0 0 boxAll Y (.slice vo 15 vc)) ∧ RowAt 421 BlkR W (.slice vo 15 vc) (roundsN (expW key 8) 15) ∧ (Value.slice vo 15 vc).ownBlock ≠ some ka ∧ ∀ k, F k ↔ (k = ka ∨ (Value.slice vo 15 vc).ownBlock = some k)
def AKeyT (ka : Nat) (key : List UInt8) : Thing := fun W F => AFresh ka key W F ∨ AReady ka key W F
theorem AKeyT.ok {ka : Nat} {key : List UInt8} (hl : key.length = 32) : (AKeyT ka key).Ok := by
  refine ⟨?_, ?_⟩
  · rintro w F (⟨ro, rc, h1, h2, h3, h4⟩ | ⟨v, Y, vo, vc, h0, h1, h2, h3, h4⟩) k hk
    · rcases (h4 k).1 hk with rfl | ⟨a, rfl, rfl⟩
      · exact heap_lt h1
      · obtain ⟨b, off, e, hb, _⟩ := h2.at' 0 (by omega)
        cases e
        exact hb
    · rcases (h4 k).1 hk with rfl | hk
      · exact heap_lt h1
      · exact h2.lt k hk
  · rintro w w' F S (⟨ro, rc, h1, h2, h3, h4⟩ | ⟨v, Y, vo, vc, h0, h1, h2, h3, h4⟩) hf hs
    · exact .inl ⟨ro, rc, hf.obj h1 (hs _ ((h4 _).2 (.inl rfl))), h2.fr hf (fun b off e => hs _ ((h4 _).2 (.inr ⟨_, e, rfl⟩))), h3, h4⟩
    · exact .inr ⟨v, Y, vo, vc, h0, hf.obj h1 (hs _ ((h4 _).2 (.inl rfl))), h2.fr hf (fun k hk => hs _ ((h4 _).2 (.inr hk))), h3, h4⟩
def AClP (ka : Nat) (v : Value) (key : List UInt8) (w w' : World) : Prop := ∃ (Y : List UInt8) (vo : Option Addr) (vc : Nat), Y.length = 256 ∧ w'.heap[ka]? = some (keyO v 0 1 0 boxAll Y (.slice vo 15 vc)) ∧ RowAt 421 BlkR w' (.slice vo 15 vc) (roundsN (expW key 8) 15) ∧ (∀ k, (Value.slice vo 15 vc).ownBlock = some k → w.heap.size ≤ k) ∧ Fr (fun k => k = ka) w w'
set_option maxRecDepth 100000 in
set_option maxHeartbeats 1600000 in
theorem ready1_any {w : World} {ka p0 : Nat} {ro : Option Addr} {rc : Nat} {key : List UInt8} (hb : w.heap[ka]? = some (keyO (.slice ro key.length rc) 0 1 0 zeros256 zeros256 (.slice none 0 0))) (hk : RowRd ByteR w ro key) (hne : ∀ a, ro = some a → a.block ≠ ka) (hl : key.length = 32)
    (h0 : w.cell? ⟨p0, 0, none⟩ = some (.pointer (some ⟨ka, 0, none⟩))) (n0 : p0 ≠ ka) : Calls Tryz.prog 391 #[.pointer (some ⟨p0, 0, none⟩)] w fun e w' => e = .returned (.tuple #[]) ∧ AClP ka (.slice ro key.length rc) key w w' := by
  have HM := Lib.hid (maps_any hb)
  have HK := Lib.hid (And.intro hk hne)
  have hp := World.block_lt_of_cell? _ _ h0
  have HL := Lib.hid hl
  clear hb hk hne hl
  go_enter Tryz.func391, Tryz.ntmps391
  go_wp2_with fail
  refine HM.out.mono ?_
  rintro e w1 ⟨rfl, ⟨Y, hY, h1⟩, f1⟩
  have HE := Lib.hid (expand_any h1 hY (HK.out.1.fr f1 (fun b off e => HK.out.2 _ e)) HL.out)
  have HF := Lib.hid (And.intro f1 hY)
  have k0 := (f1.cell (p := ⟨p0, 0, none⟩) hp n0).trans h0
  clear h1 f1 HM h0 hY
  go_wp2_with fail
  refine HE.out.mono ?_
  rintro e w2 ⟨rfl, ⟨vo, vc, h1, h2, h3⟩, f2⟩
  have HR := Lib.hid (And.intro h1 (And.intro h2 (And.intro h3 f2)))
  clear h1 h2 h3 f2 HE
  go_wp2_with fail
  go_end0
  exact ⟨rfl, Y, vo, vc, HF.out.2, HR.out.1, HR.out.2.1, fun k hk => Nat.le_trans HF.out.1.size (HR.out.2.2.1 k hk), HF.out.1.trans' HR.out.2.2.2⟩
set_option maxRecDepth 100000 in
set_option maxHeartbeats 1600000 in
theorem ready_any {w : World} {F : Nat → Prop} {ka : Nat} {key : List UInt8} (h : AKeyT ka key w F) (hl : key.length = 32) : Calls Tryz.prog 367 #[.pointer (some ⟨ka, 0, none⟩)] w fun e w' => e = .returned (.tuple #[]) ∧ ∃ F', AReady ka key w' F' ∧ Step F F' w w' := by
  obtain ⟨p0, hp0⟩ : ∃ p0, w.heap.size = p0 := ⟨_, rfl⟩
  rcases h with h | h
  · obtain ⟨ro, rc, h1, h2, h3, h4⟩ := h
    have hka := heap_lt h1
    have ha := (Fr.refl noBlock w).alloc (.cells #[.pointer (some ⟨ka, 0, none⟩)] 352)
    have hD := Lib.hid (show Calls Tryz.prog 188 #[.pointer (some ⟨ka, 1, none⟩), .func (.func 391) #[] #[.pointer (some ⟨p0, 0, none⟩)]] (w.alloc (.cells #[.pointer (some ⟨ka, 0, none⟩)] 352)) fun e w' => e = .returned (.tuple #[]) ∧ ∃ W, AClP ka (.slice ro key.length rc) key (w.alloc (.cells #[.pointer (some ⟨ka, 0, none⟩)] 352)) W ∧ w' = onceEnd ka 1 W from by
      have eg := enters_of Tryz.func391 (by kernel_rfl) rfl
      have hb := ha.obj h1 (fun z => z)
      obtain ⟨m0, m1, m2, m3, m4⟩ := key_head hb
      have hf1 : Fr (fun k => k = ka) (w.alloc (.cells #[.pointer (some ⟨ka, 0, none⟩)] 352)) ((w.alloc (.cells #[.pointer (some ⟨ka, 0, none⟩)] 352)).setCell ⟨ka, 2, none⟩ (.int .i32 1)) := fr_set_at (Fr.refl _ _) 2 _
      have hc := cell_of (heap_new w (.cells #[.pointer (some ⟨ka, 0, none⟩)] 352)) 0
      rw [hp0] at hc
      have hr := ready1_any (p0 := p0) (key_lock hb) ((h2.fr0 ha).fr hf1 (fun b off e => h3 _ e)) h3 hl ((hf1.cell (p := ⟨p0, 0, none⟩) (by rw [← hp0]; exact heap_lt (heap_new w _)) (by simp <;> omega)).trans hc) (by omega)
      refine do_first (off := 1) (fa := #[]) (ca := #[.pointer (some ⟨p0, 0, none⟩)]) eg ⟨m1, m2, m3, m4⟩ (fun W => AClP ka (.slice ro key.length rc) key (w.alloc (.cells #[.pointer (some ⟨ka, 0, none⟩)] 352)) W) ?_
      refine hr.mono ?_
      rintro e w' ⟨rfl, Y, vo, vc, k1, k2, k3, k4, k5⟩
      obtain ⟨n0, n1, n2, n3, n4⟩ := key_head k2
      exact ⟨rfl, ⟨Y, vo, vc, k1, k2, k3, fun k hk => by have := k4 k hk; simpa using this, hf1.trans' k5⟩, n1, n2, n3, n4⟩)
    have HK := Lib.hid (And.intro h4 ha)
    clear h1 h2 h3 h4 ha
    go_enter Tryz.func367, Tryz.ntmps367
    go_wp2_with fail
    refine hD.out.mono ?_
    rintro e w1 ⟨rfl, W, ⟨Y, vo, vc, k1, k2, k3, k4, k5⟩, rfl⟩
    have fe : Fr (fun k => k = ka) W (onceEnd ka 1 W) := by
      unfold onceEnd
      exact fr_set_at (fr_set_at (Fr.refl _ W).drew 1 _) (1 + 1) _
    have hne : ∀ k, (Value.slice vo 15 vc).ownBlock = some k → w.heap.size < k := fun k hk => by have := k4 k hk; simp at this; omega
    have HE := Lib.hid (show AReady ka key (onceEnd ka 1 W) (fun k => k = ka ∨ (Value.slice vo 15 vc).ownBlock = some k) ∧ Step F (fun k => k = ka ∨ (Value.slice vo 15 vc).ownBlock = some k) w (onceEnd ka 1 W) from
      ⟨⟨_, Y, vo, vc, k1, key_done k2, k3.fr fe (fun k hk e => by have := hne k hk; omega), fun e => by have := hne ka e; omega, fun _ => Iff.rfl⟩,
        ⟨(((HK.out.2.mono (fun _ z => z.elim)).trans' (k5.trans' fe))).mono (fun k hk => (HK.out.1 k).2 (.inl hk)), fun k hk => hk.elim (fun hk => .inl ((HK.out.1 k).2 (.inl hk))) (fun hk => .inr (Nat.le_of_lt (hne k hk)))⟩⟩)
    clear k1 k2 k3 k4 k5 fe hne hD HK
    go_wp2_with fail
    go_end0
    exact ⟨rfl, _, HE.out.1, HE.out.2⟩
  · obtain ⟨v, Y, vo, vc, h0, h1, h2, h3, h4⟩ := h
    have ha := (Fr.refl noBlock w).alloc (.cells #[.pointer (some ⟨ka, 0, none⟩)] 352)
    have hD := Lib.hid (do_done ⟨ka, 1, none⟩ 1 (by decide) (.func (.func 391) #[] #[.pointer (some ⟨p0, 0, none⟩)]) (w.alloc (.cells #[.pointer (some ⟨ka, 0, none⟩)] 352)) (key_head (ha.obj h1 (fun z => z))).2.1)
    have HE := Lib.hid (show AReady ka key (w.alloc (.cells #[.pointer (some ⟨ka, 0, none⟩)] 352)) F ∧ Step F F w (w.alloc (.cells #[.pointer (some ⟨ka, 0, none⟩)] 352)) from
      ⟨⟨v, Y, vo, vc, h0, ha.obj h1 (fun z => z), h2.fr0 ha, h3, h4⟩, Step.same ha⟩)
    clear h0 h1 h2 h3 h4 ha
    go_enter Tryz.func367, Tryz.ntmps367
    go_wp2_with fail
    refine hD.out.mono ?_
    rintro e w1 ⟨rfl, rfl⟩
    go_wp2_with fail
    go_end0
    exact ⟨rfl, _, HE.out.1, HE.out.2⟩
end Go.Proofs.YtajhgejhdalobaaGreatDoor
namespace Go.Proofs.YtajhgejhdalobaaGreatDoor
open Go.RowKit

theorem roundsL_blk {K : List UInt8} (hK : K.length = 240) : roundsL K = (roundsN K 15).map Blk.l := by
  unfold roundsL roundsN
  rw [hK, List.map_map]
  refine List.map_congr_left fun i hi => ?_
  have := List.mem_range.1 hi
  exact (mkBlk_l (by rw [List.length_take, List.length_drop, hK]; omega)).symm
theorem encR_step (R : List (List UInt8)) (p : List UInt8) (i : Nat) (h1 : 1 ≤ i) : encR R 14 p i = layF (if i < 14 then mixF (turnF (encR R 14 p (i - 1))) else turnF (encR R 14 p (i - 1))) (R.getD i []) := by
  obtain ⟨j, rfl⟩ : ∃ j, i = j + 1 := ⟨i - 1, by omega⟩
  rfl
theorem blk_range {w : World} {vo : Option Addr} {n vc : Nat} {bs : List Blk} (h : RowAt 421 BlkR w (.slice vo n vc) bs) {i : Nat} (hi : i < bs.length) : ∃ g, vo = some ⟨g, 0, none⟩ ∧ w.rangeAt g (i * 16) (bs[i].l.map byteV) := by
  obtain ⟨g, e, _, _, _, h1, _⟩ := h.elem hi
  exact ⟨g, e, fun j v hv => h1 j v hv⟩
theorem rangeAt_fr {S : Nat → Prop} {w w' : World} {g o : Nat} {cs : List Value} (h : w.rangeAt g o cs) (hg : g < w.heap.size) (hf : Fr S w w') (hn : ¬ S g) : w'.rangeAt g o cs := fun j v hv => (hf.cell (p := ⟨g, o + j, none⟩) hg hn).trans (h j v hv)
set_option maxRecDepth 100000 in
set_option maxHeartbeats 6400000 in
theorem encrypt_any {w : World} {F : Nat → Prop} {ka : Nat} {key p : List UInt8} (h : AKeyT ka key w F) (hl : key.length = 32) {po : Option Addr} (hp : RowRd ByteR w po p) (hpl : p.length = 16) (pc : Nat) (_hpc : 16 ≤ pc) (hpF : ∀ a, po = some a → ¬ F a.block) :
    Calls Tryz.prog 334 #[.pointer (some ⟨ka, 0, none⟩), .slice po 16 pc] w fun e w' => ∃ (s : SV) (w1 : World) (F' : Nat → Prop), e = .returned (.tuple #[s.val, .int .i64 0]) ∧ s.n = 16 ∧ RowAt 5 ByteR w' s.val (aesE key p) ∧ AReady ka key w1 F' ∧ Step F F' w w1 ∧ Fr noBlock w1 w' ∧ ∀ k, s.val.ownBlock = some k → w1.heap.size ≤ k := by
  have HR := Lib.hid (ready_any h hl)
  obtain ⟨pg, po', rfl, -⟩ := byte_addr hp (i := 0) (by omega)
  have HP := Lib.hid (And.intro hp hpF)
  have HL := Lib.hid hl
  clear h hp hpF hl
  have hat : ∀ W, (Instr.arrayAt 421 (.slice (some ⟨pg, po', none⟩) 16 pc)).run Tryz.prog W = .ok (.pointer (some ⟨pg, po', none⟩)) W := fun W => run_arrayAt W 421 _ 16 _ _ _ Tryz.underlying421 (Nat.le_refl 16)
  have hinfo : (Tryz.prog.info? 421).map (·.size) = some 16 := by kernel_rfl
  go_enter Tryz.func334, Tryz.ntmps334
  go_wp2_with fail
  refine HR.out.mono ?_
  rintro e w1 ⟨rfl, F', ⟨v, Y, vo, vc, h0, h1, h2, h3, h4⟩, hs⟩
  have HP1 := Lib.hid (HP.out.1.fr hs.fr (fun b off e => HP.out.2 _ e))
  have HR1 := Lib.hid (show AReady ka key w1 F' ∧ Step F F' w w1 from ⟨⟨v, Y, vo, vc, h0, h1, h2, h3, h4⟩, hs⟩)
  obtain ⟨K, hK⟩ : ∃ K, expW key 8 = K := ⟨_, rfl⟩
  have hKl : K.length = 240 := by rw [← hK]; exact expW_len HL.out
  have HA := Lib.hid (show aesE key p = encR ((roundsN K 15).map Blk.l) 14 p 14 by
    unfold aesE
    have h8 : key.length / 4 = 8 := by have := HL.out; omega
    rw [h8, hK, roundsL_blk hKl])
  rw [hK] at h2
  have hrl := roundsN_len K 15
  have HRl := Lib.hid (show ∀ r ∈ (roundsN K 15).map Blk.l, r.length = 16 from fun r hr => by obtain ⟨b, _, rfl⟩ := List.mem_map.1 hr; exact b.len)
  obtain ⟨R, hR⟩ : ∃ R, roundsN K 15 = R := ⟨_, rfl⟩
  rw [hR] at h2 hrl HA HRl
  have HX := Lib.hid (And.intro h0 (And.intro h1 h2))
  obtain ⟨rg, hrg, -⟩ := blk_range h2 (i := 0) (by omega)
  subst hrg
  have HRg := Lib.hid (show ∀ i (hi : i < R.length), w1.rangeAt rg (i * 16) (R[i].l.map byteV) from fun i hi => by
    obtain ⟨g, e, hh⟩ := blk_range h2 hi
    cases e
    exact hh)
  have hrgs : rg < w1.heap.size := h2.lt rg rfl
  have hks := heap_lt h1
  clear h0 h1 h2 h3 h4 hs HR HP hK hR
  obtain ⟨y0, y1, y2, y3, y4, y5, y6, y7, y8, y9, y10, y11, y12, y13, y14, y15, rfl⟩ := list16 hpl
  have hp1 := HP1.out
  have c0 : w1.cell? ⟨pg, po', none⟩ = some (.int .u8 (y0.toNat : Int)) := byte_rd hp1 (i := 0) (by simp)
  have c1 : w1.cell? ⟨pg, po' + 1, none⟩ = some (.int .u8 (y1.toNat : Int)) := byte_rd hp1 (i := 1) (by simp)
  have c2 : w1.cell? ⟨pg, po' + 2, none⟩ = some (.int .u8 (y2.toNat : Int)) := byte_rd hp1 (i := 2) (by simp)
  have c3 : w1.cell? ⟨pg, po' + 3, none⟩ = some (.int .u8 (y3.toNat : Int)) := byte_rd hp1 (i := 3) (by simp)
  have c4 : w1.cell? ⟨pg, po' + 4, none⟩ = some (.int .u8 (y4.toNat : Int)) := byte_rd hp1 (i := 4) (by simp)
  have c5 : w1.cell? ⟨pg, po' + 5, none⟩ = some (.int .u8 (y5.toNat : Int)) := byte_rd hp1 (i := 5) (by simp)
  have c6 : w1.cell? ⟨pg, po' + 6, none⟩ = some (.int .u8 (y6.toNat : Int)) := byte_rd hp1 (i := 6) (by simp)
  have c7 : w1.cell? ⟨pg, po' + 7, none⟩ = some (.int .u8 (y7.toNat : Int)) := byte_rd hp1 (i := 7) (by simp)
  have c8 : w1.cell? ⟨pg, po' + 8, none⟩ = some (.int .u8 (y8.toNat : Int)) := byte_rd hp1 (i := 8) (by simp)
  have c9 : w1.cell? ⟨pg, po' + 9, none⟩ = some (.int .u8 (y9.toNat : Int)) := byte_rd hp1 (i := 9) (by simp)
  have c10 : w1.cell? ⟨pg, po' + 10, none⟩ = some (.int .u8 (y10.toNat : Int)) := byte_rd hp1 (i := 10) (by simp)
  have c11 : w1.cell? ⟨pg, po' + 11, none⟩ = some (.int .u8 (y11.toNat : Int)) := byte_rd hp1 (i := 11) (by simp)
  have c12 : w1.cell? ⟨pg, po' + 12, none⟩ = some (.int .u8 (y12.toNat : Int)) := byte_rd hp1 (i := 12) (by simp)
  have c13 : w1.cell? ⟨pg, po' + 13, none⟩ = some (.int .u8 (y13.toNat : Int)) := byte_rd hp1 (i := 13) (by simp)
  have c14 : w1.cell? ⟨pg, po' + 14, none⟩ = some (.int .u8 (y14.toNat : Int)) := byte_rd hp1 (i := 14) (by simp)
  have c15 : w1.cell? ⟨pg, po' + 15, none⟩ = some (.int .u8 (y15.toNat : Int)) := byte_rd hp1 (i := 15) (by simp)
  have k4 := (key_rv HX.out.2.1 HX.out.1).1
  clear hp1
  go_upto_region 5 with fail
  obtain ⟨p, hpy⟩ : ∃ p, [y0, y1, y2, y3, y4, y5, y6, y7, y8, y9, y10, y11, y12, y13, y14, y15] = p := ⟨_, rfl⟩
  rw [hpy] at HA hpl
  obtain ⟨bb, hbb⟩ : ∃ bb, w1.heap.size = bb := ⟨_, rfl⟩
  refine wp_at (fun W => W.heap[bb]? = some (bytesO p 421) ∧ Fr noBlock w1 W) ⟨by rw [← hbb, ← hpy]; exact heap_new w1 _, (Fr.refl noBlock w1).alloc _⟩ ?_
  rw [hbb]
  clear c0 c1 c2 c3 c4 c5 c6 c7 c8 c9 c10 c11 c12 c13 c14 c15 hat HP1 k4
  have HPy := Lib.hid hpy
  clear hpy
  rintro w2 ⟨k1, k2⟩
  have H2 := Lib.hid (And.intro k1 k2)
  have hx2 := k2.obj HX.out.2.1 (fun z => z)
  have k4 := (key_rv hx2 HX.out.1).1
  have hr0 := rangeAt_fr (HRg.out 0 (by omega)) hrgs k2 (fun z => z)
  have hi0 : (Tryz.prog.info? 421).map (·.size) = some (R[0].l.map byteV).length := by rw [List.length_map, R[0].len]; exact hinfo
  have HY := Lib.hid (lay_any (k := R[0].l) k1 hpl R[0].len)
  clear k1 k2 hx2
  go_upto_region 6 with fail
  go_wp2_with (first | refine wpList_load_mid rfl _ _ rfl rg 0 rfl (R[0].l.map byteV) _ hr0 Tryz.underlying421 rfl hi0 ?_)
  refine HY.out.mono ?_
  rintro e w3 ⟨rfl, k1, k2⟩
  have hbw : w1.heap.size ≤ bb := by omega
  have H3 := Lib.hid (show w3.heap[bb]? = some (bytesO (encR (R.map Blk.l) 14 p (1 - 1)) 421) ∧ Fr noBlock w1 w3 from by
    refine ⟨?_, H2.out.2.trans k2 (fun k hk => .inr (by rw [hk]; exact hbw))⟩
    rw [k1]
    show _ = some (bytesO (layF p ((R.map Blk.l).getD 0 [])) 421)
    rw [List.getD_eq_getElem?_getD, List.getElem?_map, List.getElem?_eq_getElem (by omega)]
    rfl)
  clear k1 k2 HY hr0 hi0 k4 H2
  go_wp2_with fail
  go_loopw [8] (fun s8 W => ∃ i : Nat, 1 ≤ i ∧ i ≤ 15 ∧ s8 = .int .i64 i ∧ Hid (W.heap[bb]? = some (bytesO (encR (R.map Blk.l) 14 p (i - 1)) 421) ∧ Fr noBlock w1 W)) (fun s8 _ => 15 - (intOf s8).toNat)
  case atStart => exact ⟨1, by omega, by omega, rfl, H3⟩
  case round =>
    clear H3
    obtain ⟨i, h1, h15, rfl, HI⟩ := hrel
    by_cases hi : i < 15
    · have q1 : (i : Int) ≤ 14 := by omega
      have q0 : (0 : Int) ≤ (i : Int) := by omega
      have q15 : (i : Int) < 15 := by omega
      have hx := HI.out.2.obj HX.out.2.1 (fun z => z)
      have k4 := (key_rv hx HX.out.1).1
      have hel : (encR (R.map Blk.l) 14 p (i - 1)).length = 16 := encR_len hpl HRl.out (by rw [List.length_map]; omega)
      have HT := Lib.hid (turn_any (a := ka) (o := 4) HI.out.1 hel (fun c => (keyX hx (boxAll_at c)).1) (heap_lt hx) (by omega))
      have HS := Lib.hid (encR_step (R.map Blk.l) p i h1)
      obtain ⟨E, hE⟩ : ∃ E, encR (R.map Blk.l) 14 p (i - 1) = E := ⟨_, rfl⟩
      rw [hE] at HT HS HI
      have HG : Hid ((R.map Blk.l).getD i [] = R[i].l) := Lib.hid (by
        rw [List.getD_eq_getElem?_getD, List.getElem?_map, List.getElem?_eq_getElem (by omega)]
        rfl)
      rw [HG.out] at HS
      clear hx hE hel
      go_wp2_with fail
      refine HT.out.mono ?_
      rintro e w4 ⟨rfl, k1, k2⟩
      have H4 := Lib.hid (show w4.heap[bb]? = some (bytesO (turnF E) 421) ∧ Fr noBlock w1 w4 from ⟨k1, HI.out.2.trans k2 (fun k hk => .inr (by rw [hk]; exact hbw))⟩)
      clear k1 k2 k4 HT HI
      have hir : i < R.length := by omega
      have hi0 : (Tryz.prog.info? 421).map (·.size) = some (R[i].l.map byteV).length := by rw [List.length_map, R[i].len]; exact hinfo
      by_cases hi14 : i < 14
      · have q2 : (i : Int) < 14 := by omega
        have HM := Lib.hid (mix_any H4.out.1 (turnF_len E))
        go_wp2_with fail
        refine HM.out.mono ?_
        rintro e w5 ⟨rfl, k1, k2⟩
        have hf5 := H4.out.2.trans k2 (fun k hk => .inr (by rw [hk]; exact hbw))
        have HY := Lib.hid (lay_any (k := R[i].l) k1 (mixF_len _) R[i].len)
        have H5 := Lib.hid hf5
        have hr0 := rangeAt_fr (HRg.out i hir) hrgs hf5 (fun z => z)
        have k4 := (key_rv (hf5.obj HX.out.2.1 (fun z => z)) HX.out.1).1
        clear k1 k2 hf5 HM
        go_wp2_with (first | refine wpList_load_mid rfl _ _ rfl rg (i * 16) rfl (R[i].l.map byteV) _ hr0 Tryz.underlying421 rfl hi0 ?_)
        refine HY.out.mono ?_
        rintro e w6 ⟨rfl, k1, k2⟩
        have H6 := Lib.hid (show w6.heap[bb]? = some (bytesO (encR (R.map Blk.l) 14 p (i + 1 - 1)) 421) ∧ Fr noBlock w1 w6 from by
          rw [show i + 1 - 1 = i by omega, HS.out, if_pos hi14]
          exact ⟨k1, H5.out.trans k2 (fun k hk => .inr (by rw [hk]; exact hbw))⟩)
        clear k1 k2 HY hr0 k4
        go_wp2_with fail
        go_roundw
        case rel => exact ⟨i + 1, by omega, by omega, by go_num, H6⟩
        case measure => simp [intOf]; omega
      · have q2 : (14 : Int) ≤ (i : Int) := by omega
        have HY := Lib.hid (lay_any (k := R[i].l) H4.out.1 (turnF_len E) R[i].len)
        have hr0 := rangeAt_fr (HRg.out i hir) hrgs H4.out.2 (fun z => z)
        have k4 := (key_rv (H4.out.2.obj HX.out.2.1 (fun z => z)) HX.out.1).1
        go_wp2_with (first | refine wpList_load_mid rfl _ _ rfl rg (i * 16) rfl (R[i].l.map byteV) _ hr0 Tryz.underlying421 rfl hi0 ?_)
        refine HY.out.mono ?_
        rintro e w6 ⟨rfl, k1, k2⟩
        have H6 := Lib.hid (show w6.heap[bb]? = some (bytesO (encR (R.map Blk.l) 14 p (i + 1 - 1)) 421) ∧ Fr noBlock w1 w6 from by
          rw [show i + 1 - 1 = i by omega, HS.out, if_neg hi14]
          exact ⟨k1, H4.out.2.trans k2 (fun k hk => .inr (by rw [hk]; exact hbw))⟩)
        clear k1 k2 HY hr0 k4
        go_wp2_with fail
        go_roundw
        case rel => exact ⟨i + 1, by omega, by omega, by go_num, H6⟩
        case measure => simp [intOf]; omega
    · have q1 : (14 : Int) < (i : Int) := by omega
      obtain rfl : i = 15 := by omega
      have hE : encR (R.map Blk.l) 14 p (15 - 1) = aesE key p := HA.out.symm
      rw [hE] at HI
      have hal : (aesE key p).length = 16 := aesE_len HL.out hpl
      have HC := Lib.hid (clone_any (RowRd.of_flat (R := ByteR) HI.out.1 (by rw [flat_bytes]) (by rw [hal]; unfold maxLen; omega)) 16 (by omega))
      unfold CloneP at HC
      rw [hal] at HC
      clear hE
      go_wp2_with fail
      refine HC.out.mono ?_
      rintro e w6 ⟨⟨xa, xn, xc⟩, rfl, k1, k2, k3, k4⟩
      unfold SV.val at k2 k4 ⊢
      dsimp only at k1 k2 k4 ⊢
      subst k1
      have H6 := Lib.hid (And.intro k2 (And.intro k3 k4))
      clear k2 k3 k4 HC
      go_wp2_with fail
      go_ret2
      exact ⟨⟨xa, 16, xc⟩, w1, F', rfl, rfl, by rw [HPy.out]; exact H6.out.1, HR1.out.1, HR1.out.2, HI.out.2.trans' H6.out.2.1, fun k hk => Nat.le_trans HI.out.2.size (H6.out.2.2 k hk)⟩
end Go.Proofs.YtajhgejhdalobaaGreatDoor
