/-
  THE WALK of mac.Fold: keys of keys.
-/
import Derived.Laws.IdiomStrings
import Derived.Test.YtajhgejhdalobaaGreatDoorMcA
import Derived.Test.YtajhgejhdalobaaGreatDoorOnce
namespace Go.Proofs.YtajhgejhdalobaaGreatDoor
open Go.RowKit

def zeros64 : List UInt8 := List.replicate 64 0
def MNewP (key : List UInt8) (w : World) (e : Ending) (w' : World) : Prop := ∃ (mk : Nat) (ko : Option Addr) (kc : Nat), e = .returned (.pointer (some ⟨mk, 0, none⟩)) ∧ w'.heap[mk]? = some (makerO (.slice ko key.length kc) 0 0 0 zeros64 zeros64) ∧ RowRd ByteR w' ko key ∧ (0 < key.length → ∀ a, ko = some a → a.block ≠ mk) ∧ Fr noBlock w w' ∧ w.heap.size ≤ mk
set_option maxRecDepth 100000 in
set_option maxHeartbeats 1600000 in
theorem mnew_any {w : World} {ao : Option Addr} {key : List UInt8} (h : RowRd ByteR w ao key) (cap : Nat) (hl : key.length ≤ 1099511627776) : Calls Tryz.prog 315 #[.slice ao key.length cap] w (MNewP key w) := by
  have HC := Lib.hid (clone_any h cap (by omega))
  unfold CloneP at HC
  clear h
  unfold MNewP
  go_enter Tryz.func315, Tryz.ntmps315
  go_wp2_with fail
  refine HC.out.mono ?_
  rintro e w1 ⟨⟨xa, xn, xc⟩, rfl, h1, h2, h3, h4⟩
  unfold SV.val at h2 h4 ⊢
  dsimp only at h1 h2 h4 ⊢
  subst h1
  have H1 := Lib.hid (And.intro h2 (And.intro h3 h4))
  clear h2 h3 h4 HC
  go_wp2_with fail
  go_ret
  refine ⟨w1.heap.size, xa, xc, rfl, heap_new w1 _, RowAt.rd (H1.out.1.fr0 ((Fr.refl noBlock w1).alloc _)), fun _ a e eb => ?_, H1.out.2.1.alloc _, H1.out.2.1.size⟩
  subst e
  have := H1.out.1.lt a.block rfl
  omega
theorem makerX_rd {w : World} {b : Nat} {v : Value} {d s q : Int} {X Y : List UInt8} (h : w.heap[b]? = some (makerO v d s q X Y)) (hX : X.length = 64) : RowRd ByteR w (some ⟨b, 4, none⟩) X := by
  refine ⟨by rw [hX]; unfold maxLen; omega, fun i hi => ⟨b, 4, rfl, heap_lt h, fun j u hu => ?_⟩⟩
  have hj : j = 0 := by
    have := (List.getElem?_eq_some_iff.1 hu).1
    rw [ByteR.len] at this
    have e : ByteR.k = 1 := byteK
    omega
  subst hj
  rw [byteK, Nat.mul_one, Nat.add_zero, (makerX h hX (List.getElem?_eq_getElem hi)).1, ← hu]
  rfl
theorem makerY_rd {w : World} {b : Nat} {v : Value} {d s q : Int} {X Y : List UInt8} (h : w.heap[b]? = some (makerO v d s q X Y)) (hX : X.length = 64) (hY : Y.length = 64) : RowRd ByteR w (some ⟨b, 68, none⟩) Y := by
  refine ⟨by rw [hY]; unfold maxLen; omega, fun i hi => ⟨b, 68, rfl, heap_lt h, fun j u hu => ?_⟩⟩
  have hj : j = 0 := by
    have := (List.getElem?_eq_some_iff.1 hu).1
    rw [ByteR.len] at this
    have e : ByteR.k = 1 := byteK
    omega
  subst hj
  rw [byteK, Nat.mul_one, Nat.add_zero, (makerY h hX (List.getElem?_eq_getElem hi)).1, ← hu]
  rfl
theorem maker_done {w : World} {b : Nat} {v : Value} {X Y : List UInt8} (h : w.heap[b]? = some (makerO v 0 1 0 X Y)) : (onceEnd b 1 w).heap[b]? = some (makerO v 1 0 0 X Y) := by
  unfold onceEnd
  have h1 := heap_set_eq (w := w.drew) (i := 1) (u := .int .u32 1) h
  have h2 := heap_set_eq (i := 2) (u := .int .i32 0) h1
  rw [h2]
  rfl
theorem maker_lock {w : World} {b : Nat} {v : Value} {X Y : List UInt8} (h : w.heap[b]? = some (makerO v 0 0 0 X Y)) : (w.setCell ⟨b, 2, none⟩ (.int .i32 1)).heap[b]? = some (makerO v 0 1 0 X Y) := by
  rw [heap_set_eq (i := 2) (u := .int .i32 1) h]
  rfl
def MacP (S : Nat → Prop) (x : List UInt8) (w : World) (e : Ending) (w' : World) : Prop := ∃ sv : SV, e = .returned sv.val ∧ sv.n = x.length ∧ RowAt 5 ByteR w' sv.val x ∧ Fr S w w' ∧ ∀ k, sv.val.ownBlock = some k → w.heap.size ≤ k
theorem mdo_any {w : World} {mk : Nat} {ko : Option Addr} {kc : Nat} {key : List UInt8} (hb : w.heap[mk]? = some (makerO (.slice ko key.length kc) 0 0 0 zeros64 zeros64)) (hk : RowRd ByteR w ko key) (hne : 0 < key.length → ∀ a, ko = some a → a.block ≠ mk) (hl : key.length ≤ 1099511627776) :
    Calls Tryz.prog 188 #[.pointer (some ⟨mk, 1, none⟩), .func (.func 352) #[.pointer (some ⟨mk, 0, none⟩)] #[]] w fun e w' => e = .returned (.tuple #[]) ∧ w'.heap[mk]? = some (makerO (.slice ko key.length kc) 1 0 0 (macX 0x36 key) (macX 0x5c key)) ∧ Fr (fun k => k = mk) w w' := by
  obtain ⟨m0, m1, m2, m3, m4⟩ := maker_head hb
  have eg := enters_of Tryz.func352 (by kernel_rfl) rfl
  have hf1 : Fr (fun k => k = mk) w (w.setCell ⟨mk, 2, none⟩ (.int .i32 1)) := fr_set_at (Fr.refl _ w) 2 _
  have hh := halves_any (maker_lock hb) (hk.keep hf1 hne) rfl hne hl
  refine (do_first (off := 1) (fa := #[.pointer (some ⟨mk, 0, none⟩)]) (ca := #[]) eg ⟨m1, m2, m3, m4⟩ (fun W => W.heap[mk]? = some (makerO (.slice ko key.length kc) 0 1 0 (macX 0x36 key) (macX 0x5c key)) ∧ Fr (fun k => k = mk) w W) ?_).mono ?_
  · refine hh.mono ?_
    rintro e w' ⟨rfl, h1, h2⟩
    obtain ⟨n0, n1, n2, n3, n4⟩ := maker_head h1
    exact ⟨rfl, ⟨h1, hf1.trans' h2⟩, n1, n2, n3, n4⟩
  · rintro e w' ⟨rfl, W, ⟨h1, h2⟩, rfl⟩
    refine ⟨rfl, maker_done h1, ?_⟩
    unfold onceEnd
    exact fr_set_at (fr_set_at h2.drew 1 _) (1 + 1) _
theorem PBes.parts {w : World} {F : Nat → Prop} {ao : Option Addr} {ss : List SV} {ps : List Bs} (h : PBes w F ao ss ps) : PartsRd w ss ps := ⟨h.len, fun i s p a b => ⟨(h.each i s p a b).1, (h.each i s p a b).2.rd⟩⟩
theorem eat_two (l m : List UInt8) : eat (eat sha0 ([] ++ l)).1 ((eat sha0 ([] ++ l)).2 ++ m) = eat sha0 (l ++ m) := (eat_append sha0 l m).symm
set_option maxRecDepth 100000 in
set_option maxHeartbeats 3200000 in
theorem mmac_any {w : World} {mk : Nat} {ko : Option Addr} {kc : Nat} {key : List UInt8} (hb : w.heap[mk]? = some (makerO (.slice ko key.length kc) 0 0 0 zeros64 zeros64)) (hk : RowRd ByteR w ko key) (hne : 0 < key.length → ∀ a, ko = some a → a.block ≠ mk) (hl : key.length ≤ 1099511627776)
    {pa : Option Addr} {ss : List SV} {ps : List Bs} (hp : PBes w (fun k => k = mk) pa ss ps) (pc : Nat) (hpl : ps.flatten.length ≤ 1000000000000) (hps : ps.length ≤ 1000000) :
    Calls Tryz.prog 316 #[.pointer (some ⟨mk, 0, none⟩), .slice pa ps.length pc] w (MacP (fun k => k = mk) (mac key ps.flatten) w) := by
  have HD := Lib.hid (mdo_any hb hk hne hl)
  have hmk := heap_lt hb
  have HP := Lib.hid hp
  obtain ⟨X, hX⟩ : ∃ X, macX 0x36 key = X := ⟨_, rfl⟩
  obtain ⟨Y, hY⟩ : ∃ Y, macX 0x5c key = Y := ⟨_, rfl⟩
  have hXl : X.length = 64 := by rw [← hX]; exact macX_len _ _
  have hYl : Y.length = 64 := by rw [← hY]; exact macX_len _ _
  have HM := Lib.hid (show mac key ps.flatten = sha (Y ++ sha (X ++ ps.flatten)) by unfold mac; rw [hX, hY])
  rw [hX, hY] at HD
  clear hX hY hb hk hne hp
  unfold MacP
  go_enter Tryz.func316, Tryz.ntmps316
  go_wp2_with fail
  refine HD.out.mono ?_
  rintro e w1 ⟨rfl, h1, f1⟩
  have HB1 := Lib.hid h1
  have HF1 := Lib.hid f1
  have HP1 := Lib.hid (HP.out.step ⟨f1, fun _ z => .inl z⟩)
  have HN := Lib.hid (newhash_any w1)
  unfold NewHashP at HN
  clear h1 f1 HD HP
  go_wp2_with fail
  refine HN.out.mono ?_
  rintro e w2 ⟨h, rfl, h2, f2, hh⟩
  have HH2 := Lib.hid h2
  have HB2 := Lib.hid (f2.obj HB1.out (fun z => z))
  have HF2 := Lib.hid (HF1.out.trans' (f2.mono (fun _ z => z.elim)))
  have hmh : mk < h := Nat.lt_of_lt_of_le (heap_lt HB1.out) hh
  have HW := Lib.hid (show Calls Tryz.prog 354 #[.pointer (some ⟨h, 0, none⟩), .slice (some ⟨w2.heap.size, 0, none⟩) 1 1] (w2.alloc (.cells #[.slice (some ⟨mk, 4, none⟩) 64 64] 34)) (HWriteP h sha0 [] 0 (hashF h none 0 0) X (w2.alloc (.cells #[.slice (some ⟨mk, 4, none⟩) 64 64] 34))) by
    have ha := (Fr.refl noBlock w2).alloc (.cells #[.slice (some ⟨mk, 4, none⟩) 64 64] 34)
    have hlt := heap_lt h2.box
    have hpb : PBes (w2.alloc (.cells #[.slice (some ⟨mk, 4, none⟩) 64 64] 34)) (hashF h none 0 0) (some ⟨w2.heap.size, 0, none⟩) [⟨some ⟨mk, 4, none⟩, 64, 64⟩] [X] := by
      refine ⟨⟨RowRd.one (heap_new w2 _) _ rfl, fun _ a e => ?_⟩, rfl, fun i sv b h1 h2 => ?_⟩
      · cases e
        exact ⟨fun hf => by have := hashF_new _ hf; dsimp only at this; omega, by simp⟩
      · obtain rfl : i = 0 := by
          have := (List.getElem?_eq_some_iff.1 h1).1
          simpa using this
        simp at h1 h2
        subst h1 h2
        refine ⟨hXl.symm, (makerX_rd HB2.out hXl).fr0 ha, fun _ a e => ?_⟩
        cases e
        exact ⟨fun hf => by have := hashF_new _ hf; dsimp only at this; omega, by have := heap_lt HB2.out; simp; omega⟩
    have := hwrite_any (h2.fr0 ha) (by simp) hpb 1 (by simp [hXl]) (by simp) (by omega) (by omega)
    simpa using this)
  unfold HWriteP at HW
  clear h2 HN
  go_wp2_with fail
  refine HW.out.mono ?_
  rintro e w3 ⟨ao, m, cap, rfl, h3, s3⟩
  have F13 : Fr noBlock w1 w3 := (f2.alloc (.cells #[.slice (some ⟨mk, 4, none⟩) 64 64] 34)).trans s3.fr (fun k hk => .inr (by rw [hashF_new k hk]; exact hh))
  have hF3 : ∀ k, hashF h ao m cap k → w1.heap.size ≤ k := fun k hk => (s3.foot k hk).elim (fun z => by rw [hashF_new k z]; exact hh) (fun z => by have := (f2.alloc (.cells #[.slice (some ⟨mk, 4, none⟩) 64 64] 34)).size; omega)
  have hr3 := eat_rest sha0 ([] ++ X)
  have HW2 := Lib.hid (hwrite_any h3 hr3 (PBes.arg HP1.out.rows.rd HP1.out.parts F13 hF3) pc (by omega) hps (by omega) (by rw [hXl]; omega))
  unfold HWriteP at HW2
  have HF13 := Lib.hid F13
  have HF3 := Lib.hid hF3
  clear h3 s3 f2 F13 hF3 HW
  go_wp2_with fail
  refine HW2.out.mono ?_
  rintro e w4 ⟨ao4, m4, cap4, rfl, h4, s4⟩
  rw [eat_two] at h4
  have e4 : (0 : Int) + (X.length : Int) + (ps.flatten.length : Int) = ((64 + ps.flatten.length : Nat) : Int) := by rw [hXl]; omega
  rw [e4] at h4
  have HF14 := Lib.hid (show Fr noBlock w1 w4 from HF13.out.trans s4.fr (fun k hk => .inr (HF3.out k hk)))
  have HB4 := Lib.hid (HF14.out.obj HB1.out (fun z => z))
  have hsh : shaEnd (eat sha0 (X ++ ps.flatten)).1 (eat sha0 (X ++ ps.flatten)).2 (64 + ps.flatten.length) = sha (X ++ ps.flatten) := by
    unfold sha
    rw [List.length_append, hXl]
  have HS := Lib.hid (fun (W : World) (hf : Fr noBlock w4 W) => hsum_any (h4.fr0 hf) (eat_rest _ _) (by omega))
  rw [hsh] at HS
  unfold ShaP at HS
  have HSu := Lib.hid (show ∀ (U : World) (xa : Option Addr) (xc : Nat), Fr noBlock w1 U → RowRd ByteR U xa (sha (X ++ ps.flatten)) → Calls Tryz.prog 355 #[.slice (some ⟨U.heap.size, 0, none⟩) 2 2] (U.alloc (.cells #[.slice (some ⟨mk, 68, none⟩) 64 64, .slice xa 32 xc] 34)) (ShaP (sha (Y ++ sha (X ++ ps.flatten))) (U.alloc (.cells #[.slice (some ⟨mk, 68, none⟩) 64 64, .slice xa 32 xc] 34))) from fun U xa xc hU hx => by
    have ha := (Fr.refl noBlock U).alloc (.cells #[.slice (some ⟨mk, 68, none⟩) 64 64, .slice xa 32 xc] 34)
    have hr : RowRd SliceR (U.alloc (.cells #[.slice (some ⟨mk, 68, none⟩) 64 64, .slice xa 32 xc] 34)) (some ⟨U.heap.size, 0, none⟩) [(⟨some ⟨mk, 68, none⟩, 64, 64⟩ : SV), ⟨xa, 32, xc⟩] := RowRd.of_flat (heap_new U _) rfl (by unfold maxLen; simp)
    have hp : PartsRd (U.alloc (.cells #[.slice (some ⟨mk, 68, none⟩) 64 64, .slice xa 32 xc] 34)) [(⟨some ⟨mk, 68, none⟩, 64, 64⟩ : SV), ⟨xa, 32, xc⟩] [Y, sha (X ++ ps.flatten)] := by
      refine ⟨rfl, fun i sv p h1 h2 => ?_⟩
      have hi : i < 2 := (List.getElem?_eq_some_iff.1 h1).1
      rcases (show i = 0 ∨ i = 1 by omega) with rfl | rfl
      · simp at h1 h2
        subst h1 h2
        exact ⟨hYl.symm, (makerY_rd (hU.obj HB1.out (fun z => z)) hXl hYl).fr0 ha⟩
      · simp at h1 h2
        subst h1 h2
        exact ⟨(sha_len _).symm, hx.fr0 ha⟩
    have := shasum_any hr hp 2 (by simp [hYl, sha_len]) (by simp)
    simpa using this)
  unfold ShaP at HSu
  have HKm := Lib.hid (show ∀ W, Fr noBlock w1 W → W.cell? ⟨mk, 0, none⟩ = some (.slice ko key.length kc) from fun W hf => (maker_head (hf.obj HB1.out (fun z => z))).1)
  clear h4 s4 HW2 e4 hsh
  go_upto_region 5 with fail
  go_region_held3 (fun W => W.cell? ⟨mk, 0, none⟩ = some (.slice ko key.length kc))
    (exact HKm.out _ (by repeat (first | (with_reducible exact HF14.out) | (with_reducible exact Fr.refl _ _) | (with_reducible refine Fr.drew ?_) | (with_reducible refine Fr.alloc ?_ _) | (with_reducible refine Fr.trans' ?_ k3) | (with_reducible refine Fr.trans' ?_ j3))))
    (first
      | (go_at_call 356; (with_reducible refine (HS.out _ (by repeat (first | (with_reducible exact Fr.refl _ _) | (with_reducible refine Fr.drew ?_)))).mono ?_); rintro e w5 ⟨⟨xa, xn, xc⟩, rfl, k1, k2, k3, k4⟩; unfold SV.val at k2 k4 ⊢; dsimp only at k1 k2 k4 ⊢; rw [sha_len] at k1; subst k1)
      | (go_at_call 355; (with_reducible refine (HSu.out _ _ _ (by repeat (first | (with_reducible exact HF14.out) | (with_reducible exact Fr.refl _ _) | (with_reducible refine Fr.drew ?_) | (with_reducible refine Fr.trans' ?_ k3))) (RowRd.fr0 (RowAt.rd k2) (by repeat (first | (with_reducible exact Fr.refl _ _) | (with_reducible refine Fr.drew ?_))))).mono ?_); rintro e w6 ⟨sv, rfl, j1, j2, j3, j4⟩)
      | fail "noarm")
  have f6 : Fr noBlock w1 w6 := by repeat (first | (with_reducible exact HF14.out) | (with_reducible exact Fr.refl _ _) | (with_reducible refine Fr.drew ?_) | (with_reducible refine Fr.alloc ?_ _) | (with_reducible refine Fr.trans' ?_ k3) | (with_reducible refine Fr.trans' ?_ j3))
  have hz5 : w1.heap.size ≤ w5.heap.size := Nat.le_trans HF14.out.size k3.size
  have HE := Lib.hid (And.intro j1 (And.intro j2 (And.intro f6 j4)))
  clear k2 k3 k4 j1 j2 j3 j4 f6 HSu HS
  go_wp2_with fail
  go_ret
  rw [HM.out]
  refine ⟨sv, rfl, HE.out.1, HE.out.2.1, HF1.out.trans' (HE.out.2.2.1.mono (fun _ z => z.elim)), fun k hk => ?_⟩
  have h1 := HE.out.2.2.2 k hk
  have h3 := HF1.out.size
  simp at h1
  omega
end Go.Proofs.YtajhgejhdalobaaGreatDoor
namespace Go.Proofs.YtajhgejhdalobaaGreatDoor
open Go.RowKit

theorem mac_any {w : World} {ko : Option Addr} {key : List UInt8} (hk : RowRd ByteR w ko key) (kc : Nat) (hl : key.length ≤ 1099511627776) {pa : Option Addr} {ss : List SV} {ps : List Bs} (hr : RowRd SliceR w pa ss) (hp : PartsRd w ss ps) (pc : Nat) (hpl : ps.flatten.length ≤ 1000000000000) (hps : ps.length ≤ 1000000) :
    Calls Tryz.prog 248 #[.slice ko key.length kc, .slice pa ps.length pc] w (ShaP (mac key ps.flatten) w) := by
  have HN := Lib.hid (mnew_any hk kc hl)
  unfold MNewP at HN
  have HR := Lib.hid (And.intro hr hp)
  clear hr hp hk
  unfold ShaP
  go_enter Tryz.func248, Tryz.ntmps248
  go_wp2_with fail
  refine HN.out.mono ?_
  rintro e w1 ⟨mk, xo, xc, rfl, h1, h2, h3, h4, h5⟩
  have HM := Lib.hid (mmac_any h1 h2 h3 hl (PBes.arg HR.out.1 HR.out.2 h4 (fun k hk => by rw [hk]; exact h5)) pc hpl hps)
  unfold MacP at HM
  have H1 := Lib.hid (And.intro h4 h5)
  clear h1 h2 h3 h4 h5 HN
  go_wp2_with fail
  refine HM.out.mono ?_
  rintro e w2 ⟨sv, rfl, k1, k2, k3, k4⟩
  have HE := Lib.hid (And.intro k1 (And.intro k2 (And.intro k3 k4)))
  clear k1 k2 k3 k4 HM
  go_wp2_with fail
  go_ret
  exact ⟨sv, rfl, HE.out.1, HE.out.2.1, H1.out.1.trans HE.out.2.2.1 (fun k hk => .inr (by rw [hk]; exact H1.out.2)), fun k hk => Nat.le_trans H1.out.1.size (HE.out.2.2.2 k hk)⟩
theorem be8_cell1 (n i : Nat) (hi : i < 8) : ((n : Int) / 2 ^ (56 - 8 * i)) % 256 = (((be8 n).getD i 0).toNat : Int) := by
  have e : (be8 n).getD i 0 = UInt8.ofNat (n >>> (56 - 8 * i)) := by
    unfold be8
    rw [List.getD_eq_getElem?_getD, List.getElem?_map, List.getElem?_range hi]
    rfl
  rw [e, u8_shift]
  generalize 56 - 8 * i = k
  rw [show (2 : Int) ^ k = ((2 ^ k : Nat) : Int) from (Int.natCast_pow 2 k).symm]
  rfl
set_option maxRecDepth 100000 in
set_option maxHeartbeats 1600000 in
theorem eight_any (n : Nat) (hn : n < 9223372036854775808) (w : World) : Calls Tryz.prog 249 #[.int .i64 (n : Int)] w (ShaP (be8 n) w) := by
  have HN := Lib.hid hn
  clear hn
  unfold ShaP
  go_enter Tryz.func249, Tryz.ntmps249
  go_wp2_with fail
  go_loopw [3, 4] (fun s3 s4 W => ∃ (i : Nat) (po : Option Addr) (pc : Nat), i ≤ 8 ∧ s4 = .int .i64 (56 - 8 * (i : Int)) ∧ s3 = .slice po i pc ∧ Hid (OwnB w W po i pc ((be8 n).take i))) (fun _ s4 _ => (intOf s4 + 8).toNat)
  case atStart => exact ⟨0, none, 0, by omega, rfl, rfl, Lib.hid (OwnB.nil (Fr.refl _ _))⟩
  case round =>
    obtain ⟨i, po, pc, hi, rfl, rfl, HO⟩ := hrel
    by_cases hlt : i < 8
    · have q1 : (0 : Int) ≤ 56 - 8 * (i : Int) := by omega
      have q3 : 56 - 8 * (i : Int) = ((56 - 8 * i : Nat) : Int) := by omega
      have q4 : wrap64 (56 - 8 * (i : Int) - 8) = 56 - 8 * ((i + 1 : Nat) : Int) := by unfold wrap64; omega
      obtain ⟨b, hb⟩ : ∃ b, (be8 n).getD i 0 = b := ⟨_, rfl⟩
      have HV := Lib.hid (be8_cell1 n i hlt)
      have HTk := Lib.hid (be8_take n i hlt)
      rw [hb] at HV HTk
      clear hb
      go_wp2_with (at_builtin; apply stop_here)
      refine ⟨?_, trivial⟩
      refine wpList_app rfl _ _ rfl el_bytes _ [b] _ rfl w.heap.size i (i + 1) (by rw [List.length_append, HO.out.len]; rfl) rfl (HO.out.own' ((Fr.refl noBlock wr).alloc _)) rfl (RowRd.one (heap_new wr _) b (by rw [HV.out]; rfl)) rfl (by unfold maxLen; omega) (by omega) (HO.out.base ((Fr.refl noBlock wr).alloc _)) ?_
      intro ao2 cap2 w5 o5 g5 a5
      go_frame
      have HO5 := Lib.hid (HO.out.grown ((Fr.refl noBlock wr).alloc _) o5 (by rw [List.length_append, HO.out.len]; rfl) g5)
      rw [← HTk.out] at HO5
      clear o5 g5 a5 HO HV HTk
      go_wp2_with fail
      go_roundw
      case rel => exact ⟨i + 1, ao2, cap2, hlt, by go_num, rfl, HO5⟩
      case measure => simp [intOf]; omega
    · obtain rfl : i = 8 := by omega
      have hl := HO.out.len
      rw [List.take_of_length_le (by rw [be8_len]; omega)] at HO
      have q1 : (56 : Int) - 8 * ((8 : Nat) : Int) < 0 := by omega
      go_wp2_with fail
      go_ret
      exact ⟨⟨po, 8, pc⟩, rfl, (be8_len n).symm, HO.out.row, HO.out.fr, HO.out.new⟩
end Go.Proofs.YtajhgejhdalobaaGreatDoor
namespace Go.Proofs.YtajhgejhdalobaaGreatDoor
open Go.RowKit

def LabR : Rec ByteArray := ⟨1, fun s => [.string s], fun _ => rfl, fun s u hu => by simp at hu; subst hu; rfl⟩
theorem labK : LabR.k = 1 := rfl
theorem lab_rd {w : World} {b off : Nat} {ls : List ByteArray} (h : RowRd LabR w (some ⟨b, off, none⟩) ls) {i : Nat} (hi : i < ls.length) : w.cell? ⟨b, off + i, none⟩ = some (.string ls[i]) := by
  obtain ⟨b', off', e, _, h3⟩ := h.at' i hi
  cases e
  have h0 := h3 0 (.string ls[i]) rfl
  rw [labK, Nat.mul_one, Nat.add_zero] at h0
  exact h0
theorem foldK_snoc (key : List UInt8) (l : List (List UInt8)) (s : List UInt8) : foldK key (l ++ [s]) = mac (foldK key l) (be8 s.length ++ s) := by
  induction l generalizing key with
  | nil => rfl
  | cons x l ih => exact ih _
def labB (s : ByteArray) : List UInt8 := s.data.toList
theorem labB_len (s : ByteArray) : (labB s).length = s.size := by unfold labB; rw [Array.length_toList]; rfl
theorem conv_str (W : World) (s : ByteArray) (hs : s.size ≤ maxLen) : ∃ ao cap w', (convert 9 34 (.string s)).run Tryz.prog W = .ok (.slice ao s.size cap) w' ∧ RowRd ByteR w' ao (labB s) ∧ Fr noBlock W w' := by
  refine ⟨_, _, _, run_bytes_of_string W 9 34 5 s Tryz.underlying9 Tryz.underlying34 Tryz.underlying5, ?_, (Fr.refl noBlock W).drew.alloc _⟩
  refine ⟨by rw [labB_len]; exact hs, fun i hi => ⟨W.heap.size, 0, rfl, heap_lt (heap_new W.drew _), fun j u hu => ?_⟩⟩
  have hj : j = 0 := by
    have := (List.getElem?_eq_some_iff.1 hu).1
    have e : (ByteR.cells (labB s)[i]).length = 1 := rfl
    omega
  subst hj
  rw [byteK, Nat.mul_one, Nat.zero_add, Nat.add_zero]
  have hsz : i < s.data.size := by have := hi; rw [labB_len] at this; exact this
  have c := cell_of (heap_new W.drew (.cells (bytesRow s (grownCap W s.size 0 5)) 5 ((bytesRow s (grownCap W s.size 0 5)).size, (bytesRow s (grownCap W s.size 0 5)).size + 1))) i
  rw [bytesRow_at s _ i hsz] at c
  have hu2 : u = .int .u8 (s.data[i].toNat : Int) := (Option.some.inj hu).symm
  rw [hu2]
  exact c
theorem foldK_len (key : List UInt8) (l : List (List UInt8)) (h : key.length ≤ 1099511627776) : (foldK key l).length ≤ 1099511627776 := by
  induction l generalizing key with
  | nil => exact h
  | cons x l ih => exact ih _ (by rw [mac_len]; omega)
set_option maxRecDepth 100000 in
set_option maxHeartbeats 3200000 in
theorem fold_any {w : World} {ko : Option Addr} {key : List UInt8} (hk : RowRd ByteR w ko key) (kc : Nat) (hl : key.length ≤ 1099511627776) {la : Option Addr} {ls : List ByteArray} (hr : RowRd LabR w la ls) (lc : Nat) (hsz : ∀ s ∈ ls, s.size ≤ 100000000000) (hls : ls.length ≤ 1000000) :
    Calls Tryz.prog 190 #[.slice ko key.length kc, .slice la ls.length lc] w (ShaP (foldK key (ls.map labB)) w) := by
  have HC := Lib.hid (clone_any hk kc (by omega))
  unfold CloneP at HC
  have HR := Lib.hid hr
  have HSz := Lib.hid hsz
  have HL := Lib.hid hl
  clear hr hk hsz hl
  unfold ShaP
  go_enter Tryz.func190, Tryz.ntmps190
  go_wp2_with fail
  refine HC.out.mono ?_
  rintro e w1 ⟨⟨xa, xn, xc⟩, rfl, h1, h2, h3, h4⟩
  unfold SV.val at h2 h4 ⊢
  dsimp only at h1 h2 h4 ⊢
  subst h1
  have H1 := Lib.hid (And.intro h2 (And.intro h3 h4))
  clear h2 h3 h4 HC
  go_wp2_with fail
  go_loopw [5, 12] (fun s5 s12 W => ∃ (i : Nat) (xo : Option Addr) (xn xc : Nat), i ≤ ls.length ∧ s12 = .int .i64 i ∧ s5 = .slice xo xn xc ∧ xn = (foldK key ((ls.take i).map labB)).length ∧ Hid (RowAt 5 ByteR W (.slice xo xn xc) (foldK key ((ls.take i).map labB)) ∧ Fr noBlock w W ∧ ∀ k, (Value.slice xo xn xc).ownBlock = some k → w.heap.size ≤ k)) (fun _ s12 _ => ls.length - (intOf s12).toNat)
  case atStart => exact ⟨0, xa, key.length, xc, by omega, rfl, rfl, rfl, H1⟩
  case round =>
    clear H1
    obtain ⟨i, xo, xn, xc, hi, rfl, rfl, hxn, HI⟩ := hrel
    by_cases hlt : i < ls.length
    · have q1 : (i : Int) < (ls.length : Int) := by omega
      have q0 : (0 : Int) ≤ (i : Int) := by omega
      obtain ⟨b, off, rfl, -, -⟩ := HR.out.at' i hlt
      have c0 := lab_rd (HR.out.fr0 HI.out.2.1) hlt
      obtain ⟨s, hs⟩ : ∃ s, ls[i] = s := ⟨_, rfl⟩
      have hsl := HSz.out ls[i] (List.getElem_mem hlt)
      rw [hs] at c0 hsl
      have HS := Lib.hid (show foldK key ((ls.take (i + 1)).map labB) = mac (foldK key ((ls.take i).map labB)) (be8 s.size ++ labB s) by
        rw [List.take_succ_eq_append_getElem hlt, hs, List.map_append, List.map_cons, List.map_nil, foldK_snoc]
        rfl)
      clear hs
      obtain ⟨K, hK⟩ : ∃ K, foldK key ((ls.take i).map labB) = K := ⟨_, rfl⟩
      have HKl := Lib.hid (foldK_len key ((ls.take i).map labB) HL.out)
      rw [hK] at HI HS hxn HKl
      clear hK
      have H8 := Lib.hid (fun W => eight_any s.size (by omega) W)
      unfold ShaP at H8
      go_wp2_with fail
      refine (H8.out _).mono ?_
      rintro e w2 ⟨⟨ea, en, ec⟩, rfl, h1, h2, h3, h4⟩
      unfold SV.val at h2 h4 ⊢
      dsimp only at h1 h2 h4 ⊢
      rw [be8_len] at h1
      subst h1
      have H2 := Lib.hid (And.intro (RowAt.rd h2) h3)
      clear h2 h3 h4 c0
      obtain ⟨ba, bc, w3, hcv, hcr, hcf⟩ := conv_str w2 s (by unfold maxLen; omega)
      have HC3 := Lib.hid (And.intro hcr hcf)
      have HM := Lib.hid (show Calls Tryz.prog 248 #[.slice xo K.length xc, .slice (some ⟨w3.heap.size, 0, none⟩) 2 2] (w3.alloc (.cells #[.slice ea 8 ec, .slice ba s.size bc] 34)) (ShaP (mac K (be8 s.size ++ labB s)) (w3.alloc (.cells #[.slice ea 8 ec, .slice ba s.size bc] 34))) by
        have ha := (Fr.refl noBlock w3).alloc (.cells #[.slice ea 8 ec, .slice ba s.size bc] 34)
        have hr : RowRd SliceR (w3.alloc (.cells #[.slice ea 8 ec, .slice ba s.size bc] 34)) (some ⟨w3.heap.size, 0, none⟩) [(⟨ea, 8, ec⟩ : SV), ⟨ba, s.size, bc⟩] := RowRd.of_flat (heap_new w3 _) rfl (by unfold maxLen; simp)
        have hp : PartsRd (w3.alloc (.cells #[.slice ea 8 ec, .slice ba s.size bc] 34)) [(⟨ea, 8, ec⟩ : SV), ⟨ba, s.size, bc⟩] [be8 s.size, labB s] := by
          refine ⟨rfl, fun i sv p h1 h2 => ?_⟩
          have hi : i < 2 := (List.getElem?_eq_some_iff.1 h1).1
          rcases (show i = 0 ∨ i = 1 by omega) with rfl | rfl
          · simp at h1 h2
            subst h1 h2
            exact ⟨(be8_len _).symm, (H2.out.1.fr0 hcf).fr0 ha⟩
          · simp at h1 h2
            subst h1 h2
            exact ⟨(labB_len s).symm, hcr.fr0 ha⟩
        have := mac_any ((RowAt.rd HI.out.1).fr0 (H2.out.2.trans' (hcf.trans' ha))) xc HKl.out hr hp 2 (by simp [be8_len, labB_len]; omega) (by simp)
        simpa using this)
      unfold ShaP at HM
      clear hcr hcf
      go_wp2_with fail
      refine HM.out.mono ?_
      rintro e w4 ⟨⟨ya, yn, yc⟩, rfl, h1, h2, h3, h4⟩
      unfold SV.val at h2 h4 ⊢
      dsimp only at h1 h2 h4 ⊢
      have f4 := HI.out.2.1.trans' (H2.out.2.trans' ((HC3.out.2.alloc (.cells #[.slice ea 8 ec, .slice ba s.size bc] 34)).trans' h3))
      have HE := Lib.hid (show RowAt 5 ByteR w4 (.slice ya yn yc) (foldK key ((ls.take (i + 1)).map labB)) ∧ Fr noBlock w w4 ∧ ∀ k, (Value.slice ya yn yc).ownBlock = some k → w.heap.size ≤ k from ⟨by rw [HS.out]; exact h2, f4, fun k hk => by
        have a1 := h4 k hk
        have a2 := HI.out.2.1.size
        have a3 := H2.out.2.size
        have a4 := HC3.out.2.size
        simp at a1
        omega⟩)
      have hyn : yn = (foldK key ((ls.take (i + 1)).map labB)).length := by rw [HS.out]; exact h1
      clear h1 h2 h3 h4 f4 HM hcv
      go_wp2_with fail
      go_roundw
      case rel => exact ⟨i + 1, ya, yn, yc, hlt, by go_num, rfl, hyn, HE⟩
      case measure => simp [intOf]; omega
    · have q1 : (ls.length : Int) ≤ (i : Int) := by omega
      obtain rfl : i = ls.length := by omega
      rw [List.take_length] at HI hxn
      go_wp2_with fail
      go_ret
      exact ⟨⟨xo, xn, xc⟩, rfl, hxn, HI.out.1, HI.out.2.1, HI.out.2.2⟩
end Go.Proofs.YtajhgejhdalobaaGreatDoor
