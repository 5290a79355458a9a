/-
  THE WALKS of box.eight and of keys.Name.
-/
import Derived.Test.YthabllnhlhkejaaGreatDoorAeB
import Derived.Test.YthabllnhlhkejaaGreatDoorOnce
namespace Go.Proofs.YthabllnhlhkejaaGreatDoor
open Go.RowKit

def zeros64 : List UInt8 := List.replicate 64 0
def MNewP (key : List UInt8) (w : World) (e : Ending) (w' : World) : Prop := ∃ (mk : Nat) (ko : Option Addr) (kc : Nat), e = .returned (.pointer (some ⟨mk, 0, none⟩)) ∧ w'.heap[mk]? = some (makerO (.slice ko key.length kc) 0 0 0 zeros64 zeros64) ∧ RowRd ByteR w' ko key ∧ (0 < key.length → ∀ a, ko = some a → a.block ≠ mk) ∧ Fr noBlock w w' ∧ w.heap.size ≤ mk
set_option maxRecDepth 100000 in
set_option maxHeartbeats 1600000 in
theorem mnew_any {w : World} {ao : Option Addr} {key : List UInt8} (h : RowRd ByteR w ao key) (cap : Nat) (hl : key.length ≤ 1099511627776) : Calls Tryz.prog 86 #[.slice ao key.length cap] w (MNewP key w) := by
  have HC := Lib.hid (clone_any h cap (by omega))
  unfold CloneP at HC
  clear h
  unfold MNewP
  go_enter Tryz.func86, Tryz.ntmps86
  go_wp2_with fail
  refine HC.out.mono ?_
  rintro e w1 ⟨⟨xa, xn, xc⟩, rfl, h1, h2, h3, h4⟩
  unfold SV.val at h2 h4 ⊢
  dsimp only at h1 h2 h4 ⊢
  subst h1
  have H1 := Lib.hid (And.intro h2 (And.intro h3 h4))
  clear h2 h3 h4 HC
  go_wp2_with fail
  go_ret
  refine ⟨w1.heap.size, xa, xc, rfl, heap_new w1 _, RowAt.rd (H1.out.1.fr0 ((Fr.refl noBlock w1).alloc _)), fun _ a e eb => ?_, H1.out.2.1.alloc _, H1.out.2.1.size⟩
  subst e
  have := H1.out.1.lt a.block rfl
  omega
theorem makerX_rd {w : World} {b : Nat} {v : Value} {d s q : Int} {X Y : List UInt8} (h : w.heap[b]? = some (makerO v d s q X Y)) (hX : X.length = 64) : RowRd ByteR w (some ⟨b, 4, none⟩) X := by
  refine ⟨by rw [hX]; unfold maxLen; omega, fun i hi => ⟨b, 4, rfl, heap_lt h, fun j u hu => ?_⟩⟩
  have hj : j = 0 := by
    have := (List.getElem?_eq_some_iff.1 hu).1
    rw [ByteR.len] at this
    have e : ByteR.k = 1 := byteK
    omega
  subst hj
  rw [byteK, Nat.mul_one, Nat.add_zero, (makerX h hX (List.getElem?_eq_getElem hi)).1, ← hu]
  rfl
theorem makerY_rd {w : World} {b : Nat} {v : Value} {d s q : Int} {X Y : List UInt8} (h : w.heap[b]? = some (makerO v d s q X Y)) (hX : X.length = 64) (hY : Y.length = 64) : RowRd ByteR w (some ⟨b, 68, none⟩) Y := by
  refine ⟨by rw [hY]; unfold maxLen; omega, fun i hi => ⟨b, 68, rfl, heap_lt h, fun j u hu => ?_⟩⟩
  have hj : j = 0 := by
    have := (List.getElem?_eq_some_iff.1 hu).1
    rw [ByteR.len] at this
    have e : ByteR.k = 1 := byteK
    omega
  subst hj
  rw [byteK, Nat.mul_one, Nat.add_zero, (makerY h hX (List.getElem?_eq_getElem hi)).1, ← hu]
  rfl
theorem maker_done {w : World} {b : Nat} {v : Value} {X Y : List UInt8} (h : w.heap[b]? = some (makerO v 0 1 0 X Y)) : (onceEnd b 1 w).heap[b]? = some (makerO v 1 0 0 X Y) := by
  unfold onceEnd
  have h1 := heap_set_eq (w := w.drew) (i := 1) (u := .int .u32 1) h
  have h2 := heap_set_eq (i := 2) (u := .int .i32 0) h1
  rw [h2]
  rfl
theorem maker_lock {w : World} {b : Nat} {v : Value} {X Y : List UInt8} (h : w.heap[b]? = some (makerO v 0 0 0 X Y)) : (w.setCell ⟨b, 2, none⟩ (.int .i32 1)).heap[b]? = some (makerO v 0 1 0 X Y) := by
  rw [heap_set_eq (i := 2) (u := .int .i32 1) h]
  rfl
def MacP (S : Nat → Prop) (x : List UInt8) (w : World) (e : Ending) (w' : World) : Prop := ∃ sv : SV, e = .returned sv.val ∧ sv.n = x.length ∧ RowAt 5 ByteR w' sv.val x ∧ Fr S w w' ∧ ∀ k, sv.val.ownBlock = some k → w.heap.size ≤ k
/-- the halves are made -/
theorem mdo_any {w : World} {mk : Nat} {ko : Option Addr} {kc : Nat} {key : List UInt8} (hb : w.heap[mk]? = some (makerO (.slice ko key.length kc) 0 0 0 zeros64 zeros64)) (hk : RowRd ByteR w ko key) (hne : 0 < key.length → ∀ a, ko = some a → a.block ≠ mk) (hl : key.length ≤ 1099511627776) :
    Calls Tryz.prog 33 #[.pointer (some ⟨mk, 1, none⟩), .func (.func 114) #[.pointer (some ⟨mk, 0, none⟩)] #[]] w fun e w' => e = .returned (.tuple #[]) ∧ w'.heap[mk]? = some (makerO (.slice ko key.length kc) 1 0 0 (macX 0x36 key) (macX 0x5c key)) ∧ Fr (fun k => k = mk) w w' := by
  obtain ⟨m0, m1, m2, m3, m4⟩ := maker_head hb
  have eg := enters_of Tryz.func114 (by kernel_rfl) rfl
  have hf1 : Fr (fun k => k = mk) w (w.setCell ⟨mk, 2, none⟩ (.int .i32 1)) := fr_set_at (Fr.refl _ w) 2 _
  have hh := halves_any (maker_lock hb) (hk.keep hf1 hne) rfl hne hl
  refine (do_first (off := 1) (fa := #[.pointer (some ⟨mk, 0, none⟩)]) (ca := #[]) eg ⟨m1, m2, m3, m4⟩ (fun W => W.heap[mk]? = some (makerO (.slice ko key.length kc) 0 1 0 (macX 0x36 key) (macX 0x5c key)) ∧ Fr (fun k => k = mk) w W) ?_).mono ?_
  · refine hh.mono ?_
    rintro e w' ⟨rfl, h1, h2⟩
    obtain ⟨n0, n1, n2, n3, n4⟩ := maker_head h1
    exact ⟨rfl, ⟨h1, hf1.trans' h2⟩, n1, n2, n3, n4⟩
  · rintro e w' ⟨rfl, W, ⟨h1, h2⟩, rfl⟩
    refine ⟨rfl, maker_done h1, ?_⟩
    unfold onceEnd
    exact fr_set_at (fr_set_at h2.drew 1 _) (1 + 1) _
theorem PBes.parts {w : World} {F : Nat → Prop} {ao : Option Addr} {ss : List SV} {ps : List Bs} (h : PBes w F ao ss ps) : PartsRd w ss ps := ⟨h.len, fun i s p a b => ⟨(h.each i s p a b).1, (h.each i s p a b).2.rd⟩⟩
theorem eat_two (l m : List UInt8) : eat (eat sha0 ([] ++ l)).1 ((eat sha0 ([] ++ l)).2 ++ m) = eat sha0 (l ++ m) := (eat_append sha0 l m).symm
set_option maxRecDepth 100000 in
set_option maxHeartbeats 3200000 in
theorem mmac_any {w : World} {mk : Nat} {ko : Option Addr} {kc : Nat} {key : List UInt8} (hb : w.heap[mk]? = some (makerO (.slice ko key.length kc) 0 0 0 zeros64 zeros64)) (hk : RowRd ByteR w ko key) (hne : 0 < key.length → ∀ a, ko = some a → a.block ≠ mk) (hl : key.length ≤ 1099511627776)
    {pa : Option Addr} {ss : List SV} {ps : List Bs} (hp : PBes w (fun k => k = mk) pa ss ps) (pc : Nat) (hpl : ps.flatten.length ≤ 1000000000000) (hps : ps.length ≤ 1000000) :
    Calls Tryz.prog 87 #[.pointer (some ⟨mk, 0, none⟩), .slice pa ps.length pc] w (MacP (fun k => k = mk) (mac key ps.flatten) w) := by
  have HD := Lib.hid (mdo_any hb hk hne hl)
  have hmk := heap_lt hb
  have HP := Lib.hid hp
  obtain ⟨X, hX⟩ : ∃ X, macX 0x36 key = X := ⟨_, rfl⟩
  obtain ⟨Y, hY⟩ : ∃ Y, macX 0x5c key = Y := ⟨_, rfl⟩
  have hXl : X.length = 64 := by rw [← hX]; exact macX_len _ _
  have hYl : Y.length = 64 := by rw [← hY]; exact macX_len _ _
  have HM := Lib.hid (show mac key ps.flatten = sha (Y ++ sha (X ++ ps.flatten)) by unfold mac; rw [hX, hY])
  rw [hX, hY] at HD
  clear hX hY hb hk hne hp
  unfold MacP
  go_enter Tryz.func87, Tryz.ntmps87
  go_wp2_with fail
  refine HD.out.mono ?_
  rintro e w1 ⟨rfl, h1, f1⟩
  have HB1 := Lib.hid h1
  have HF1 := Lib.hid f1
  have HP1 := Lib.hid (HP.out.step ⟨f1, fun _ z => .inl z⟩)
  have HN := Lib.hid (newhash_any w1)
  unfold NewHashP at HN
  clear h1 f1 HD HP
  go_wp2_with fail
  refine HN.out.mono ?_
  rintro e w2 ⟨h, rfl, h2, f2, hh⟩
  have HH2 := Lib.hid h2
  have HB2 := Lib.hid (f2.obj HB1.out (fun z => z))
  have HF2 := Lib.hid (HF1.out.trans' (f2.mono (fun _ z => z.elim)))
  have hmh : mk < h := Nat.lt_of_lt_of_le (heap_lt HB1.out) hh
  have HW := Lib.hid (show Calls Tryz.prog 116 #[.pointer (some ⟨h, 0, none⟩), .slice (some ⟨w2.heap.size, 0, none⟩) 1 1] (w2.alloc (.cells #[.slice (some ⟨mk, 4, none⟩) 64 64] 28)) (HWriteP h sha0 [] 0 (hashF h none 0 0) X (w2.alloc (.cells #[.slice (some ⟨mk, 4, none⟩) 64 64] 28))) by
    have ha := (Fr.refl noBlock w2).alloc (.cells #[.slice (some ⟨mk, 4, none⟩) 64 64] 28)
    have hlt := heap_lt h2.box
    have hpb : PBes (w2.alloc (.cells #[.slice (some ⟨mk, 4, none⟩) 64 64] 28)) (hashF h none 0 0) (some ⟨w2.heap.size, 0, none⟩) [⟨some ⟨mk, 4, none⟩, 64, 64⟩] [X] := by
      refine ⟨⟨RowRd.one (heap_new w2 _) _ rfl, fun _ a e => ?_⟩, rfl, fun i sv b h1 h2 => ?_⟩
      · cases e
        exact ⟨fun hf => by have := hashF_new _ hf; dsimp only at this; omega, by simp⟩
      · obtain rfl : i = 0 := by
          have := (List.getElem?_eq_some_iff.1 h1).1
          simpa using this
        simp at h1 h2
        subst h1 h2
        refine ⟨hXl.symm, (makerX_rd HB2.out hXl).fr0 ha, fun _ a e => ?_⟩
        cases e
        exact ⟨fun hf => by have := hashF_new _ hf; dsimp only at this; omega, by have := heap_lt HB2.out; simp; omega⟩
    have := hwrite_any (h2.fr0 ha) (by simp) hpb 1 (by simp [hXl]) (by simp) (by omega) (by omega)
    simpa using this)
  unfold HWriteP at HW
  clear h2 HN
  go_wp2_with fail
  refine HW.out.mono ?_
  rintro e w3 ⟨ao, m, cap, rfl, h3, s3⟩
  have F13 : Fr noBlock w1 w3 := (f2.alloc (.cells #[.slice (some ⟨mk, 4, none⟩) 64 64] 28)).trans s3.fr (fun k hk => .inr (by rw [hashF_new k hk]; exact hh))
  have hF3 : ∀ k, hashF h ao m cap k → w1.heap.size ≤ k := fun k hk => (s3.foot k hk).elim (fun z => by rw [hashF_new k z]; exact hh) (fun z => by have := (f2.alloc (.cells #[.slice (some ⟨mk, 4, none⟩) 64 64] 28)).size; omega)
  have hr3 := eat_rest sha0 ([] ++ X)
  have HW2 := Lib.hid (hwrite_any h3 hr3 (PBes.arg HP1.out.rows.rd HP1.out.parts F13 hF3) pc (by omega) hps (by omega) (by rw [hXl]; omega))
  unfold HWriteP at HW2
  have HF13 := Lib.hid F13
  have HF3 := Lib.hid hF3
  clear h3 s3 f2 F13 hF3 HW
  go_wp2_with fail
  refine HW2.out.mono ?_
  rintro e w4 ⟨ao4, m4, cap4, rfl, h4, s4⟩
  rw [eat_two] at h4
  have e4 : (0 : Int) + (X.length : Int) + (ps.flatten.length : Int) = ((64 + ps.flatten.length : Nat) : Int) := by rw [hXl]; omega
  rw [e4] at h4
  have HF14 := Lib.hid (show Fr noBlock w1 w4 from HF13.out.trans s4.fr (fun k hk => .inr (HF3.out k hk)))
  have HB4 := Lib.hid (HF14.out.obj HB1.out (fun z => z))
  have hsh : shaEnd (eat sha0 (X ++ ps.flatten)).1 (eat sha0 (X ++ ps.flatten)).2 (64 + ps.flatten.length) = sha (X ++ ps.flatten) := by
    unfold sha
    rw [List.length_append, hXl]
  have HS := Lib.hid (fun (W : World) (hf : Fr noBlock w4 W) => hsum_any (h4.fr0 hf) (eat_rest _ _) (by omega))
  rw [hsh] at HS
  unfold ShaP at HS
  have HSu := Lib.hid (show ∀ (U : World) (xa : Option Addr) (xc : Nat), Fr noBlock w1 U → RowRd ByteR U xa (sha (X ++ ps.flatten)) → Calls Tryz.prog 117 #[.slice (some ⟨U.heap.size, 0, none⟩) 2 2] (U.alloc (.cells #[.slice (some ⟨mk, 68, none⟩) 64 64, .slice xa 32 xc] 28)) (ShaP (sha (Y ++ sha (X ++ ps.flatten))) (U.alloc (.cells #[.slice (some ⟨mk, 68, none⟩) 64 64, .slice xa 32 xc] 28))) from fun U xa xc hU hx => by
    have ha := (Fr.refl noBlock U).alloc (.cells #[.slice (some ⟨mk, 68, none⟩) 64 64, .slice xa 32 xc] 28)
    have hr : RowRd SliceR (U.alloc (.cells #[.slice (some ⟨mk, 68, none⟩) 64 64, .slice xa 32 xc] 28)) (some ⟨U.heap.size, 0, none⟩) [(⟨some ⟨mk, 68, none⟩, 64, 64⟩ : SV), ⟨xa, 32, xc⟩] := RowRd.of_flat (heap_new U _) rfl (by unfold maxLen; simp)
    have hp : PartsRd (U.alloc (.cells #[.slice (some ⟨mk, 68, none⟩) 64 64, .slice xa 32 xc] 28)) [(⟨some ⟨mk, 68, none⟩, 64, 64⟩ : SV), ⟨xa, 32, xc⟩] [Y, sha (X ++ ps.flatten)] := by
      refine ⟨rfl, fun i sv p h1 h2 => ?_⟩
      have hi : i < 2 := (List.getElem?_eq_some_iff.1 h1).1
      rcases (show i = 0 ∨ i = 1 by omega) with rfl | rfl
      · simp at h1 h2
        subst h1 h2
        exact ⟨hYl.symm, (makerY_rd (hU.obj HB1.out (fun z => z)) hXl hYl).fr0 ha⟩
      · simp at h1 h2
        subst h1 h2
        exact ⟨(sha_len _).symm, hx.fr0 ha⟩
    have := shasum_any hr hp 2 (by simp [hYl, sha_len]) (by simp)
    simpa using this)
  unfold ShaP at HSu
  have HKm := Lib.hid (show ∀ W, Fr noBlock w1 W → W.cell? ⟨mk, 0, none⟩ = some (.slice ko key.length kc) from fun W hf => (maker_head (hf.obj HB1.out (fun z => z))).1)
  clear h4 s4 HW2 e4 hsh
  go_upto_region 5 with fail
  go_region_held3 (fun W => W.cell? ⟨mk, 0, none⟩ = some (.slice ko key.length kc))
    (exact HKm.out _ (by repeat (first | (with_reducible exact HF14.out) | (with_reducible exact Fr.refl _ _) | (with_reducible refine Fr.drew ?_) | (with_reducible refine Fr.alloc ?_ _) | (with_reducible refine Fr.trans' ?_ k3) | (with_reducible refine Fr.trans' ?_ j3))))
    (first
      | (go_at_call 118; (with_reducible refine (HS.out _ (by repeat (first | (with_reducible exact Fr.refl _ _) | (with_reducible refine Fr.drew ?_)))).mono ?_); rintro e w5 ⟨⟨xa, xn, xc⟩, rfl, k1, k2, k3, k4⟩; unfold SV.val at k2 k4 ⊢; dsimp only at k1 k2 k4 ⊢; rw [sha_len] at k1; subst k1)
      | (go_at_call 117; (with_reducible refine (HSu.out _ _ _ (by repeat (first | (with_reducible exact HF14.out) | (with_reducible exact Fr.refl _ _) | (with_reducible refine Fr.drew ?_) | (with_reducible refine Fr.trans' ?_ k3))) (RowRd.fr0 (RowAt.rd k2) (by repeat (first | (with_reducible exact Fr.refl _ _) | (with_reducible refine Fr.drew ?_))))).mono ?_); rintro e w6 ⟨sv, rfl, j1, j2, j3, j4⟩)
      | fail "noarm")
  have f6 : Fr noBlock w1 w6 := by repeat (first | (with_reducible exact HF14.out) | (with_reducible exact Fr.refl _ _) | (with_reducible refine Fr.drew ?_) | (with_reducible refine Fr.alloc ?_ _) | (with_reducible refine Fr.trans' ?_ k3) | (with_reducible refine Fr.trans' ?_ j3))
  have hz5 : w1.heap.size ≤ w5.heap.size := Nat.le_trans HF14.out.size k3.size
  have HE := Lib.hid (And.intro j1 (And.intro j2 (And.intro f6 j4)))
  clear k2 k3 k4 j1 j2 j3 j4 f6 HSu HS
  go_wp2_with fail
  go_ret
  rw [HM.out]
  refine ⟨sv, rfl, HE.out.1, HE.out.2.1, HF1.out.trans' (HE.out.2.2.1.mono (fun _ z => z.elim)), fun k hk => ?_⟩
  have h1 := HE.out.2.2.2 k hk
  have h3 := HF1.out.size
  simp at h1
  omega
end Go.Proofs.YthabllnhlhkejaaGreatDoor
namespace Go.Proofs.YthabllnhlhkejaaGreatDoor
open Go.RowKit

theorem mac_any {w : World} {ko : Option Addr} {key : List UInt8} (hk : RowRd ByteR w ko key) (kc : Nat) (hl : key.length ≤ 1099511627776) {pa : Option Addr} {ss : List SV} {ps : List Bs} (hr : RowRd SliceR w pa ss) (hp : PartsRd w ss ps) (pc : Nat) (hpl : ps.flatten.length ≤ 1000000000000) (hps : ps.length ≤ 1000000) :
    Calls Tryz.prog 65 #[.slice ko key.length kc, .slice pa ps.length pc] w (ShaP (mac key ps.flatten) w) := by
  have HN := Lib.hid (mnew_any hk kc hl)
  unfold MNewP at HN
  have HR := Lib.hid (And.intro hr hp)
  clear hr hp hk
  unfold ShaP
  go_enter Tryz.func65, Tryz.ntmps65
  go_wp2_with fail
  refine HN.out.mono ?_
  rintro e w1 ⟨mk, xo, xc, rfl, h1, h2, h3, h4, h5⟩
  have HM := Lib.hid (mmac_any h1 h2 h3 hl (PBes.arg HR.out.1 HR.out.2 h4 (fun k hk => by rw [hk]; exact h5)) pc hpl hps)
  unfold MacP at HM
  have H1 := Lib.hid (And.intro h4 h5)
  clear h1 h2 h3 h4 h5 HN
  go_wp2_with fail
  refine HM.out.mono ?_
  rintro e w2 ⟨sv, rfl, k1, k2, k3, k4⟩
  have HE := Lib.hid (And.intro k1 (And.intro k2 (And.intro k3 k4)))
  clear k1 k2 k3 k4 HM
  go_wp2_with fail
  go_ret
  exact ⟨sv, rfl, HE.out.1, HE.out.2.1, H1.out.1.trans HE.out.2.2.1 (fun k hk => .inr (by rw [hk]; exact H1.out.2)), fun k hk => Nat.le_trans H1.out.1.size (HE.out.2.2.2 k hk)⟩
theorem be8_cell1 (n i : Nat) (hi : i < 8) : ((n : Int) / 2 ^ (56 - 8 * i)) % 256 = (((be8 n).getD i 0).toNat : Int) := by
  have e : (be8 n).getD i 0 = UInt8.ofNat (n >>> (56 - 8 * i)) := by
    unfold be8
    rw [List.getD_eq_getElem?_getD, List.getElem?_map, List.getElem?_range hi]
    rfl
  rw [e, u8_shift]
  generalize 56 - 8 * i = k
  rw [show (2 : Int) ^ k = ((2 ^ k : Nat) : Int) from (Int.natCast_pow 2 k).symm]
  rfl
set_option maxRecDepth 100000 in
set_option maxHeartbeats 1600000 in
theorem eight_any (n : Nat) (hn : n < 9223372036854775808) (w : World) : Calls Tryz.prog 81 #[.int .i64 (n : Int)] w (ShaP (be8 n) w) := by
  have HN := Lib.hid hn
  clear hn
  unfold ShaP
  go_enter Tryz.func81, Tryz.ntmps81
  go_wp2_with fail
  go_loopw [3, 4] (fun s3 s4 W => ∃ (i : Nat) (po : Option Addr) (pc : Nat), i ≤ 8 ∧ s4 = .int .i64 (56 - 8 * (i : Int)) ∧ s3 = .slice po i pc ∧ Hid (OwnB w W po i pc ((be8 n).take i))) (fun _ s4 _ => (intOf s4 + 8).toNat)
  case atStart => exact ⟨0, none, 0, by omega, rfl, rfl, Lib.hid (OwnB.nil (Fr.refl _ _))⟩
  case round =>
    obtain ⟨i, po, pc, hi, rfl, rfl, HO⟩ := hrel
    by_cases hlt : i < 8
    · have q1 : (0 : Int) ≤ 56 - 8 * (i : Int) := by omega
      have q3 : 56 - 8 * (i : Int) = ((56 - 8 * i : Nat) : Int) := by omega
      have q4 : wrap64 (56 - 8 * (i : Int) - 8) = 56 - 8 * ((i + 1 : Nat) : Int) := by unfold wrap64; omega
      obtain ⟨b, hb⟩ : ∃ b, (be8 n).getD i 0 = b := ⟨_, rfl⟩
      have HV := Lib.hid (be8_cell1 n i hlt)
      have HTk := Lib.hid (be8_take n i hlt)
      rw [hb] at HV HTk
      clear hb
      go_wp2_with (at_builtin; apply stop_here)
      refine ⟨?_, trivial⟩
      refine wpList_app rfl _ _ rfl el_bytes _ [b] _ rfl w.heap.size i (i + 1) (by rw [List.length_append, HO.out.len]; rfl) rfl (HO.out.own' ((Fr.refl noBlock wr).alloc _)) rfl (RowRd.one (heap_new wr _) b (by rw [HV.out]; rfl)) rfl (by unfold maxLen; omega) (by omega) (HO.out.base ((Fr.refl noBlock wr).alloc _)) ?_
      intro ao2 cap2 w5 o5 g5 a5
      go_frame
      have HO5 := Lib.hid (HO.out.grown ((Fr.refl noBlock wr).alloc _) o5 (by rw [List.length_append, HO.out.len]; rfl) g5)
      rw [← HTk.out] at HO5
      clear o5 g5 a5 HO HV HTk
      go_wp2_with fail
      go_roundw
      case rel => exact ⟨i + 1, ao2, cap2, hlt, by go_num, rfl, HO5⟩
      case measure => simp [intOf]; omega
    · obtain rfl : i = 8 := by omega
      have hl := HO.out.len
      rw [List.take_of_length_le (by rw [be8_len]; omega)] at HO
      have q1 : (56 : Int) - 8 * ((8 : Nat) : Int) < 0 := by omega
      go_wp2_with fail
      go_ret
      exact ⟨⟨po, 8, pc⟩, rfl, (be8_len n).symm, HO.out.row, HO.out.fr, HO.out.new⟩
def orX : List UInt8 → List UInt8 → UInt8 → UInt8
  | x :: l, y :: m, p => orX l m (p ||| (x ^^^ y))
  | _, _, p => p
theorem orX_take (a b : List UInt8) (p : UInt8) {i : Nat} (ha : i < a.length) (hb : i < b.length) : orX (a.take (i + 1)) (b.take (i + 1)) p = orX (a.take i) (b.take i) p ||| (a[i] ^^^ b[i]) := by
  induction i generalizing a b p with
  | zero =>
    cases a with
    | nil => simp at ha
    | cons x a =>
      cases b with
      | nil => simp at hb
      | cons y b => simp [orX]
  | succ i ih =>
    cases a with
    | nil => simp at ha
    | cons x a =>
      cases b with
      | nil => simp at hb
      | cons y b =>
        simp only [List.take_succ_cons, orX, List.getElem_cons_succ]
        exact ih a b _ (by simpa using ha) (by simpa using hb)
theorem orX_same (a : List UInt8) : orX a a 0 = 0 := by
  induction a with
  | nil => rfl
  | cons x a ih => simp [orX, ih]
theorem u8o0 (p : UInt8) : ((p.toNat : Int) == 0) = (p == 0) := by
  cases h : p == 0 with
  | true => rw [beq_iff_eq] at h; subst h; rfl
  | false =>
    rw [beq_eq_false_iff_ne] at h ⊢
    intro e
    exact h (UInt8.toNat_inj.1 (by simpa using e))
set_option maxRecDepth 100000 in
set_option maxHeartbeats 1600000 in
theorem same_any {w : World} {ao bo : Option Addr} {a b : List UInt8} (ha : RowRd ByteR w ao a) (hb : RowRd ByteR w bo b) (ac bc : Nat) : Calls Tryz.prog 50 #[.slice ao a.length ac, .slice bo b.length bc] w fun e w' => e = .returned (.bool (decide (a.length = b.length) && (orX a b 0 == 0))) ∧ Fr noBlock w w' := by
  have HA := Lib.hid ha
  have HB := Lib.hid hb
  have hm := ha.len
  unfold maxLen at hm
  clear ha hb
  by_cases hl : a.length = b.length
  · have q1 : ((a.length : Int) != (b.length : Int)) = false := by rw [hl]; simp
    rw [decide_eq_true hl, Bool.true_and]
    go_enter Tryz.func50, Tryz.ntmps50
    go_wp2_with fail
    go_loopw [5, 14] (fun s5 s14 W => ∃ i : Nat, i ≤ a.length ∧ s14 = .int .i64 i ∧ s5 = .int .u8 ((orX (a.take i) (b.take i) 0).toNat : Int) ∧ Fr noBlock w W) (fun _ s14 _ => a.length - (intOf s14).toNat)
    case atStart => exact ⟨0, by omega, rfl, rfl, Fr.refl _ _⟩
    case round =>
      obtain ⟨i, hi, rfl, rfl, hf⟩ := hrel
      have HF := Lib.hid hf
      clear hf
      by_cases hlt : i < a.length
      · have q2 : (i : Int) < (a.length : Int) := by omega
        have q0 : (0 : Int) ≤ (i : Int) := by omega
        have hlb : i < b.length := by omega
        have q3 : (i : Int) < (b.length : Int) := by omega
        obtain ⟨g1, o1, rfl, -⟩ := byte_addr HA.out hlt
        obtain ⟨g2, o2, rfl, -⟩ := byte_addr HB.out hlb
        have c1 := byte_rd (HA.out.fr0 HF.out) hlt
        have c2 := byte_rd (HB.out.fr0 HF.out) hlb
        have HT := Lib.hid (orX_take a b 0 hlt hlb)
        unfold byteV at c1 c2
        generalize a[i] = x at *
        generalize b[i] = y at *
        obtain ⟨p, hp⟩ : ∃ p, orX (a.take i) (b.take i) 0 = p := ⟨_, rfl⟩
        rw [hp] at HT ⊢
        clear hp
        have HV := Lib.hid (show bits .or .u8 (p.toNat : Int) (bits .xor .u8 (x.toNat : Int) (y.toNat : Int)) = ((p ||| (x ^^^ y)).toNat : Int) by rw [u8x, u8o])
        go_wp2_with fail
        go_quiet (fail)
        go_wp2_with fail
        go_roundw
        case rel => exact ⟨i + 1, hlt, by go_num, by rw [HT.out, ← HV.out], HF.out.drewN _⟩
        case measure => simp [intOf]; omega
      · have q2 : (a.length : Int) ≤ (i : Int) := by omega
        obtain rfl : i = a.length := by omega
        rw [List.take_length, hl, List.take_length]
        have q4 := u8o0 (orX a b 0)
        go_wp2_with fail
        go_ret
        exact ⟨by rw [← q4]; rfl, HF.out⟩
  · have q1 : ((a.length : Int) != (b.length : Int)) = true := by simp; omega
    rw [decide_eq_false hl, Bool.false_and]
    go_enter Tryz.func50, Tryz.ntmps50
    go_wp2_with fail
    go_ret
    exact ⟨rfl, Fr.refl _ _⟩
end Go.Proofs.YthabllnhlhkejaaGreatDoor
namespace Go.Proofs.YthabllnhlhkejaaGreatDoor
open Go.RowKit

set_option maxRecDepth 100000 in
set_option maxHeartbeats 1600000 in
theorem beight_any (n : Nat) (hn : n < 9223372036854775808) (w : World) : Calls Tryz.prog 38 #[.int .i64 (n : Int)] w (ShaP (be8 n) w) := by
  have HN := Lib.hid hn
  clear hn
  have hlen : (be8 n).length = (List.replicate 8 (0 : UInt8)).length := by rw [be8_len]; rfl
  obtain ⟨Z, hZ, hmk⟩ := mk_bytes 8 8 (Nat.le_refl _) (by omega)
  have hmk8 : ∀ W : World, (Instr.makeSlice 28 (.int .i64 8) (.int .i64 8)).run Tryz.prog W = .ok (.slice (some ⟨W.heap.size, 0, none⟩) 8 8) (W.alloc (.cells Z 5)) := hmk
  have HZ := Lib.hid hZ
  clear hmk hZ
  unfold ShaP
  go_enter Tryz.func38, Tryz.ntmps38
  go_upto_region 2 with fail
  refine wp_at (fun W => OwnB w W (some ⟨w.heap.size, 0, none⟩) 8 8 (overL (be8 n) (List.replicate 8 0) 0)) (by rw [overL_zero]; exact OwnB.room w HZ.out (Nat.le_refl _) (by unfold maxLen; omega)) ?_
  clear hmk8
  rintro w1 ho
  have HO := Lib.hid ho
  clear ho
  go_wp2_with fail
  go_loopw [8] (fun s8 W => ∃ i : Nat, i ≤ 8 ∧ s8 = .int .i64 i ∧ Hid (OwnB w W (some ⟨w.heap.size, 0, none⟩) 8 8 (overL (be8 n) (List.replicate 8 0) i))) (fun s8 _ => 8 - (intOf s8).toNat)
  case atStart => exact ⟨0, by omega, rfl, HO⟩
  case round =>
    clear HO
    obtain ⟨i, hi, rfl, HO⟩ := hrel
    by_cases hlt : i < 8
    · have q1 : (i : Int) < 8 := by omega
      have q0 : (0 : Int) ≤ (i : Int) := by omega
      have q2 : (0 : Int) ≤ 56 - 8 * (i : Int) := by omega
      have q3 : wrap64 (8 * (i : Int)) = 8 * (i : Int) := by unfold wrap64; omega
      have q4 : wrap64 (56 - 8 * (i : Int)) = ((56 - 8 * i : Nat) : Int) := by unfold wrap64; omega
      have hol : (overL (be8 n) (List.replicate 8 0) i).length = 8 := HO.out.len
      obtain ⟨x0, x1⟩ := byte_at HO.out.row (i := i) (by omega)
      have HO2 := Lib.hid (HO.out.put (i := i) (by omega) ((be8 n).getD i 0))
      have hc : (be8 n)[i]? = some ((be8 n).getD i 0) := by
        rw [List.getD_eq_getElem?_getD, List.getElem?_eq_getElem (by rw [be8_len]; exact hlt)]
        rfl
      rw [overL_set hlen (by simpa using hlt) _ hc, ← be8_cell1 n i hlt] at HO2
      clear hc
      generalize (overL (be8 n) (List.replicate 8 0) i)[i] = xx at *
      go_wp2_with fail
      go_roundw
      case rel => exact ⟨i + 1, hlt, by go_num, HO2⟩
      case measure => simp [intOf]; omega
    · have q1 : (8 : Int) ≤ (i : Int) := by omega
      obtain rfl : i = 8 := by omega
      rw [overL_all hlen (by simp)] at HO
      go_wp2_with fail
      go_ret
      exact ⟨⟨some ⟨w.heap.size, 0, none⟩, 8, 8⟩, rfl, (be8_len n).symm, HO.out.row, HO.out.fr, HO.out.new⟩
def nameOf (p : Int) : ByteArray := if p = 2 then ⟨#[115, 116, 111, 114, 101]⟩ else ⟨#[116, 97, 103]⟩
set_option maxRecDepth 100000 in
theorem name_any (p : Int) (hp : p = 2 ∨ p = 3) (w : World) : Calls Tryz.prog 59 #[.int .i64 p] w fun e w' => e = .returned (.tuple #[.string (nameOf p), .bool true]) ∧ Fr noBlock w w' := by
  rcases hp with rfl | rfl
  · go_enter Tryz.func59, Tryz.ntmps59
    go_wp2_with fail
    go_ret2
    exact ⟨rfl, (Fr.refl noBlock w).alloc _⟩
  · go_enter Tryz.func59, Tryz.ntmps59
    go_wp2_with fail
    go_ret2
    exact ⟨rfl, (Fr.refl noBlock w).alloc _⟩
end Go.Proofs.YthabllnhlhkejaaGreatDoor
