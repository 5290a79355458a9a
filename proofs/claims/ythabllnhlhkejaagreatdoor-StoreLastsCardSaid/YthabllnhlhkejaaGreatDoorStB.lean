/-
  THE WALKS of stream.blocks and of its closure: a block of the pad.
-/
import Derived.Deep.RegionHeld3
import Derived.Test.YthabllnhlhkejaaGreatDoorAeH
import Derived.Test.YthabllnhlhkejaaGreatDoorBxA
namespace Go.Proofs.YthabllnhlhkejaaGreatDoor
open Go.RowKit

def zeros8 : List UInt8 := List.replicate 8 0
def cntL (a b : List UInt8) (i : Nat) : List UInt8 := overL a zeros8 i ++ overL b zeros8 i
theorem cnt_set {a b : List UInt8} (ha : a.length = 8) (hb : b.length = 8) {i : Nat} (hi : i < 8) : ((cntL a b i).set i (a.getD i 0)).set (8 + i) (b.getD i 0) = cntL a b (i + 1) := by
  have hz : zeros8.length = 8 := rfl
  have h1 : (overL a zeros8 i).length = 8 := by rw [overL_len (by rw [ha, hz]) (by omega), hz]
  have h2 : (overL a zeros8 (i + 1)).length = 8 := by rw [overL_len (by rw [ha, hz]) (by omega), hz]
  unfold cntL
  rw [List.set_append_left _ _ (by omega), overL_set (by rw [ha, hz]) (by omega) _ (by rw [List.getD_eq_getElem?_getD, List.getElem?_eq_getElem (by omega)]; rfl), List.set_append_right _ _ (by omega), h2, show 8 + i - 8 = i by omega, overL_set (by rw [hb, hz]) (by omega) _ (by rw [List.getD_eq_getElem?_getD, List.getElem?_eq_getElem (by omega)]; rfl)]
set_option maxRecDepth 100000 in
set_option maxHeartbeats 3200000 in
theorem counter_any (n k : Nat) (_ : n < 9223372036854775808) (_ : k < 9223372036854775808) (w : World) : Calls Tryz.prog 85 #[.int .i64 (n : Int), .int .i64 (k : Int)] w (ShaP (be8 n ++ be8 k) w) := by
  have hz : zeros8.length = 8 := rfl
  obtain ⟨Z, hZ, hmk⟩ := mk_bytes 16 16 (Nat.le_refl _) (by omega)
  have hmk8 : ∀ W : World, (Instr.makeSlice 28 (.int .i64 16) (.int .i64 16)).run Tryz.prog W = .ok (.slice (some ⟨W.heap.size, 0, none⟩) 16 16) (W.alloc (.cells Z 5)) := hmk
  have HZ := Lib.hid hZ
  clear hmk hZ
  unfold ShaP
  go_enter Tryz.func85, Tryz.ntmps85
  go_upto_region 2 with fail
  refine wp_at (fun W => OwnB w W (some ⟨w.heap.size, 0, none⟩) 16 16 (cntL (be8 n) (be8 k) 0)) (by unfold cntL; rw [overL_zero, overL_zero]; exact OwnB.room w HZ.out (Nat.le_refl _) (by unfold maxLen; omega)) ?_
  clear hmk8
  rintro w1 ho
  have HO := Lib.hid ho
  clear ho
  obtain ⟨p, hp⟩ : ∃ p, w.heap.size = p := ⟨_, rfl⟩
  rw [hp] at HO ⊢
  go_wp2_with fail
  go_loopw [8] (fun s8 W => ∃ i : Nat, i ≤ 8 ∧ s8 = .int .i64 i ∧ Hid (OwnB w W (some ⟨p, 0, none⟩) 16 16 (cntL (be8 n) (be8 k) i))) (fun s8 _ => 8 - (intOf s8).toNat)
  case atStart => exact ⟨0, by omega, rfl, HO⟩
  case round =>
    clear HO
    obtain ⟨i, hi, rfl, HO⟩ := hrel
    by_cases hlt : i < 8
    · have q1 : (i : Int) < 8 := by omega
      have q0 : (0 : Int) ≤ (i : Int) := by omega
      have q2 : (0 : Int) ≤ 56 - 8 * (i : Int) := by omega
      have q3 : IntKind.i64.wrap (8 * (i : Int)) = 8 * (i : Int) := by rw [IntKind.wrap_i64]; omega
      have q4 : IntKind.i64.wrap (56 - 8 * (i : Int)) = ((56 - 8 * i : Nat) : Int) := by rw [IntKind.wrap_i64]; omega
      have q5 : IntKind.i64.wrap (8 + (i : Int)) = 8 + (i : Int) := by rw [IntKind.wrap_i64]; omega
      have q6 : 8 + (i : Int) < 16 := by omega
      have q7 : (0 : Int) ≤ 8 + (i : Int) := by omega
      have q8 : (i : Int) < 16 := by omega
      have q9 : (8 + (i : Int)).toNat = 8 + i := by omega
      have hne : ¬ (i = 8 + i) := by omega
      have hol : (cntL (be8 n) (be8 k) i).length = 16 := HO.out.len
      obtain ⟨xa0, x1⟩ := byte_at HO.out.row (i := i) (by omega)
      obtain ⟨ya0, y1⟩ := byte_at HO.out.row (i := 8 + i) (by omega)
      have f0 := (byte_at HO.out.row (i := 0) (by omega)).2
      have h1 := HO.out.put (i := i) (by omega) ((be8 n).getD i 0)
      have HO2 := Lib.hid (h1.put (i := 8 + i) (by rw [List.length_set]; omega) ((be8 k).getD i 0))
      rw [cnt_set (be8_len n) (be8_len k) hlt, ← be8_cell1 n i hlt, ← be8_cell1 k i hlt, ← IntKind.wrap_u8', ← IntKind.wrap_u8'] at HO2
      obtain ⟨xv, x0⟩ : ∃ xv, wr.cell? ⟨p, i, none⟩ = some xv := ⟨_, xa0⟩
      obtain ⟨yv, y0⟩ : ∃ yv, wr.cell? ⟨p, 8 + i, none⟩ = some yv := ⟨_, ya0⟩
      clear xa0 ya0 h1 hol
      go_upto_region 5 with fail
      go_region_held3 (fun W => W.frozen? ⟨p, 0, none⟩ = false)
        (first | exact f0 | simpa using f0 | fail "nokeep")
        (fail "noarm")
      have HO3 := Lib.hid (HO2.out.to (Fr.refl noBlock _).drew)
      clear HO2
      go_wp2_with fail
      go_roundw
      case rel => exact ⟨i + 1, hlt, by go_num, HO3⟩
      case measure => simp [intOf]; omega
    · have q1 : (8 : Int) ≤ (i : Int) := by omega
      obtain rfl : i = 8 := by omega
      have e : cntL (be8 n) (be8 k) 8 = be8 n ++ be8 k := by
        unfold cntL
        rw [overL_all (by rw [be8_len, hz]) hz.symm, overL_all (by rw [be8_len, hz]) hz.symm]
      rw [e] at HO
      go_wp2_with fail
      go_ret
      exact ⟨⟨some ⟨p, 0, none⟩, 16, 16⟩, rfl, by rw [List.length_append, be8_len, be8_len], HO.out.row, HO.out.fr, HO.out.new⟩
end Go.Proofs.YthabllnhlhkejaaGreatDoor
namespace Go.Proofs.YthabllnhlhkejaaGreatDoor

def padB (key : List UInt8) (nonce k : Nat) : List UInt8 := aesE key (be8 nonce ++ be8 k)
theorem padB_len {key : List UInt8} (hk : key.length = 32) (nonce k : Nat) : (padB key nonce k).length = 16 := aesE_len hk (by rw [List.length_append, be8_len, be8_len])
def padsB (key : List UInt8) (nonce : Nat) : Nat → List UInt8
  | 0 => []
  | m + 1 => padsB key nonce m ++ padB key nonce m
theorem padsB_len {key : List UInt8} (hk : key.length = 32) (nonce m : Nat) : (padsB key nonce m).length = 16 * m := by
  induction m with
  | zero => rfl
  | succ m ih =>
    show (padsB key nonce m ++ padB key nonce m).length = _
    rw [List.length_append, ih, padB_len hk]
    omega
/-- bytes under a key -/
def xorB (key : List UInt8) (nonce : Nat) (p : List UInt8) : List UInt8 := List.zipWith (· ^^^ ·) p (padsB key nonce ((p.length + 15) / 16))
theorem xorB_len {key : List UInt8} (hk : key.length = 32) (nonce : Nat) (p : List UInt8) : (xorB key nonce p).length = p.length := by
  unfold xorB
  rw [List.length_zipWith, padsB_len hk]
  omega
theorem xorB_back {key : List UInt8} (hk : key.length = 32) (nonce : Nat) (p : List UInt8) : xorB key nonce (xorB key nonce p) = p := by
  have h : xorB key nonce (xorB key nonce p) = List.zipWith (· ^^^ ·) (xorB key nonce p) (padsB key nonce ((p.length + 15) / 16)) := by
    show List.zipWith (· ^^^ ·) (xorB key nonce p) (padsB key nonce (((xorB key nonce p).length + 15) / 16)) = _
    rw [xorB_len hk]
  rw [h]
  exact zip_back p _ (by rw [padsB_len hk]; omega)
/-- the tag of what is sealed so far -/
def tagB (tag about rest : List UInt8) : List UInt8 := (mac tag (be8 about.length ++ about ++ rest)).take 16
theorem tagB_len (tag about rest : List UInt8) : (tagB tag about rest).length = 16 := by
  unfold tagB
  rw [List.length_take, mac_len]
  rfl
def sealB (enc tag : List UInt8) (nonce : Nat) (about p : List UInt8) : List UInt8 := (be8 nonce ++ xorB enc nonce p) ++ tagB tag about (be8 nonce ++ xorB enc nonce p)
theorem sealB_len {enc : List UInt8} (he : enc.length = 32) (tag : List UInt8) (nonce : Nat) (about p : List UInt8) : (sealB enc tag nonce about p).length = p.length + 24 := by
  unfold sealB
  rw [List.length_append, List.length_append, be8_len, xorB_len he, tagB_len]
  omega
/-- opened: the bytes and the nonce; none: the tag is another one, or too short -/
def openB (enc tag about b : List UInt8) : Option (List UInt8 × Nat) :=
  if b.length < 24 then none
  else if tagB tag about (b.take (b.length - 16)) = b.drop (b.length - 16) then some (xorB enc (num8 (b.take 8)) ((b.take (b.length - 16)).drop 8), num8 (b.take 8)) else none
theorem open_seal {enc : List UInt8} (he : enc.length = 32) (tag : List UInt8) {nonce : Nat} (hn : nonce < 2 ^ 64) (about p : List UInt8) : openB enc tag about (sealB enc tag nonce about p) = some (p, nonce) := by
  have hl := sealB_len he tag nonce about p
  have hb : (be8 nonce ++ xorB enc nonce p).length = p.length + 8 := by rw [List.length_append, be8_len, xorB_len he]; omega
  have h1 : (sealB enc tag nonce about p).take ((sealB enc tag nonce about p).length - 16) = be8 nonce ++ xorB enc nonce p := by
    rw [hl]
    unfold sealB
    rw [List.take_append_of_le_length (by omega), List.take_of_length_le (by omega)]
  have h2 : (sealB enc tag nonce about p).drop ((sealB enc tag nonce about p).length - 16) = tagB tag about (be8 nonce ++ xorB enc nonce p) := by
    rw [hl]
    unfold sealB
    rw [List.drop_append, List.drop_of_length_le (by omega), List.nil_append, hb, show p.length + 24 - 16 - (p.length + 8) = 0 by omega, List.drop_zero]
  have h3 : (sealB enc tag nonce about p).take 8 = be8 nonce := by
    unfold sealB
    rw [List.append_assoc, List.take_append_of_le_length (by rw [be8_len]; exact Nat.le_refl _), List.take_of_length_le (by rw [be8_len]; exact Nat.le_refl _)]
  unfold openB
  rw [if_neg (by omega), h1, h2, h3, if_pos rfl, num8_be8 hn, List.drop_append, List.drop_of_length_le (by rw [be8_len]; exact Nat.le_refl _), be8_len, Nat.sub_self, List.drop_zero, List.nil_append, xorB_back he]
end Go.Proofs.YthabllnhlhkejaaGreatDoor
namespace Go.Proofs.YthabllnhlhkejaaGreatDoor
open Go.RowKit

theorem RowAt.room {α : Type} {E : TypeId} {R : Rec α} {w : World} {ao : Option Addr} {n cap : Nat} {xs : List α} (h : RowAt E R w (.slice ao n cap) xs) : n ≤ cap := by
  obtain ⟨ao', cap', e, h1, _⟩ := h.shape
  simp only [Value.slice.injEq] at e
  omega
/-- what the closure holds: the key's variable, the nonce's, the key -/
structure PadIn (b6 b3 ka : Nat) (key : List UInt8) (nonce : Nat) (W : World) (F : Nat → Prop) : Prop where
  kp : W.heap[b6]? = some (.cells #[.pointer (some ⟨ka, 0, none⟩)] 132 (0, 0))
  np : W.heap[b3]? = some (.cells #[.int .i64 (nonce : Int)] 3 (0, 0))
  key : AKeyT ka key W F
  n6 : ¬ F b6
  n3 : ¬ F b3
theorem PadIn.fr {S : Nat → Prop} {b6 b3 ka nonce : Nat} {key : List UInt8} {W W' : World} {F : Nat → Prop} (h : PadIn b6 b3 ka key nonce W F) (hl : key.length = 32) (hf : Fr S W W') (h6 : ¬ S b6) (h3 : ¬ S b3) (hF : ∀ k, F k → ¬ S k) : PadIn b6 b3 ka key nonce W' F :=
  ⟨hf.obj h.kp h6, hf.obj h.np h3, (AKeyT.ok hl).fr h.key hf hF, h.n6, h.n3⟩
theorem PadIn.fr0 {b6 b3 ka nonce : Nat} {key : List UInt8} {W W' : World} {F : Nat → Prop} (h : PadIn b6 b3 ka key nonce W F) (hl : key.length = 32) (hf : Fr noBlock W W') : PadIn b6 b3 ka key nonce W' F := h.fr hl hf (fun z => z) (fun z => z) (fun _ _ z => z)
def BlocksP (key : List UInt8) (nonce : Nat) (w : World) (e : Ending) (w' : World) : Prop := ∃ (b6 b3 ka : Nat) (F : Nat → Prop), e = .returned (.tuple #[.func (.func 83) #[] #[.pointer (some ⟨b6, 0, none⟩), .pointer (some ⟨b3, 0, none⟩)], .int .i64 0]) ∧ PadIn b6 b3 ka key nonce w' F ∧ (∀ k, F k → w.heap.size ≤ k) ∧ w.heap.size ≤ b6 ∧ w.heap.size ≤ b3 ∧ Fr noBlock w w'
set_option maxRecDepth 100000 in
set_option maxHeartbeats 1600000 in
theorem blocks_any {w : World} {ao : Option Addr} {key : List UInt8} (h : RowRd ByteR w ao key) (cap : Nat) (hl : key.length = 32) (nonce : Nat) : Calls Tryz.prog 63 #[.slice ao key.length cap, .int .i64 (nonce : Int)] w (BlocksP key nonce w) := by
  have ha := (Fr.refl noBlock w).alloc (.cells #[.int .i64 (nonce : Int)] 3)
  have HN := Lib.hid (knew_any (h.fr0 ha) cap hl)
  unfold KNewP at HN
  have HA := Lib.hid (And.intro ha hl)
  have q0 : (0 : Int) ≤ (nonce : Int) := by omega
  obtain ⟨b3, hb3⟩ : ∃ b3, w.heap.size = b3 := ⟨_, rfl⟩
  have HB := Lib.hid (show (w.alloc (.cells #[.int .i64 (nonce : Int)] 3)).heap[b3]? = some (.cells #[.int .i64 (nonce : Int)] 3 (0, 0)) by rw [← hb3]; exact heap_new w _)
  clear h ha hl
  unfold BlocksP
  go_enter Tryz.func63, Tryz.ntmps63
  go_wp2_with fail
  refine HN.out.mono ?_
  rintro e w1 ⟨ka, ko, kc, rfl, h1, h2, h3, h4, h5⟩
  have hsa : (w.alloc (.cells #[.int .i64 (nonce : Int)] 3)).heap.size = w.heap.size + 1 := by simp
  rw [hsa] at h5
  have h5' : w.heap.size < ka := h5
  obtain ⟨F, HK⟩ : ∃ F : Nat → Prop, Hid (AKeyT ka key w1 F ∧ ∀ k, F k → b3 < k) := by
    have h3' : ∀ a, ko = some a → a.block ≠ ka ∧ w.heap.size < a.block := fun a e => by
      have := h3 (by rw [HA.out.2]; omega) a e
      rw [hsa] at this
      exact ⟨this.1, by omega⟩
    refine ⟨fun k => k = ka ∨ ∃ a, ko = some a ∧ a.block = k, Lib.hid ⟨.inl ⟨ko, kc, h1, h2, fun a e => (h3' a e).1, fun _ => Iff.rfl⟩, ?_⟩⟩
    rintro k (rfl | ⟨a, e, rfl⟩)
    · omega
    · have := (h3' a e).2
      omega
  have HF := Lib.hid h4
  have c3 := cell_of (h4.obj HB.out (fun z => z)) 0
  clear h1 h2 h3 h4 h5 HN
  simp only [List.getElem?_toArray, List.getElem?_cons_zero] at c3
  have c3' := fun o => (World.cell?_alloc_lt w1 o ⟨b3, 0, none⟩ (World.block_lt_of_cell? _ _ c3)).trans c3
  go_wp2_with fail
  go_ret2
  have hs1 := HF.out.size
  rw [hsa] at hs1
  have hF1 := (Fr.refl noBlock w1).alloc (.cells #[.pointer (some ⟨ka, 0, none⟩)] 132)
  have hb3' := hF1.obj (HF.out.obj HB.out (fun z => z)) (fun z => z)
  have hk1 := (AKeyT.ok HA.out.2).fr0 HK.out.1 hF1
  have hn6 : ¬ F w1.heap.size := (AKeyT.ok HA.out.2).new HK.out.1
  have hn3 : ¬ F b3 := fun e => Nat.lt_irrefl _ (HK.out.2 _ e)
  have hfr := HA.out.1.trans' (HF.out.trans' hF1)
  exact ⟨w1.heap.size, b3, ka, F, rfl, ⟨heap_new w1 _, hb3', hk1, hn6, hn3⟩, fun k hk => by have := HK.out.2 k hk; omega, by omega, by omega, hfr⟩
def PadP (b6 b3 ka : Nat) (key : List UInt8) (nonce n : Nat) (F : Nat → Prop) (w : World) (e : Ending) (w' : World) : Prop := ∃ (s : SV) (F' : Nat → Prop), e = .returned s.val ∧ s.n = 16 ∧ RowAt 5 ByteR w' s.val (padB key nonce n) ∧ PadIn b6 b3 ka key nonce w' F' ∧ Step F F' w w' ∧ ∀ k, s.val.ownBlock = some k → w.heap.size ≤ k ∧ ¬ F' k
set_option maxRecDepth 100000 in
set_option maxHeartbeats 1600000 in
theorem blocks1_any {w : World} {b6 b3 ka nonce n : Nat} {key : List UInt8} {F : Nat → Prop} (h : PadIn b6 b3 ka key nonce w F) (hl : key.length = 32) (hn : nonce < 9223372036854775808) (hk : n < 9223372036854775808) :
    Calls Tryz.prog 83 #[.int .i64 (n : Int), .pointer (some ⟨b6, 0, none⟩), .pointer (some ⟨b3, 0, none⟩)] w (PadP b6 b3 ka key nonce n F w) := by
  have HC := Lib.hid (fun W => counter_any nonce n hn hk W)
  unfold ShaP at HC
  have HP := Lib.hid (And.intro h hl)
  have HKp := Lib.hid (show ∀ S W, Fr S w W → ¬ S b6 → ¬ S b3 → W.cell? ⟨b6, 0, none⟩ = some (.pointer (some ⟨ka, 0, none⟩)) ∧ W.cell? ⟨b3, 0, none⟩ = some (.int .i64 (nonce : Int)) from fun S W hf h6 h3 => ⟨cell_of (hf.obj HP.out.1.kp h6) 0, cell_of (hf.obj HP.out.1.np h3) 0⟩)
  obtain ⟨c6, c3⟩ := HKp.out _ _ (Fr.refl noBlock w) (fun z => z) (fun z => z)
  clear h hl
  unfold PadP
  go_enter Tryz.func83, Tryz.ntmps83
  go_wp2_with fail
  go_region_held3 (fun W => W.cell? ⟨b6, 0, none⟩ = some (.pointer (some ⟨ka, 0, none⟩)) ∧ W.cell? ⟨b3, 0, none⟩ = some (.int .i64 (nonce : Int)))
    (first | exact ⟨c6, c3⟩ | exact HKp.out _ _ (by repeat (first | (with_reducible exact Fr.refl _ _) | (with_reducible refine Fr.drew ?_) | (with_reducible exact f5) | (with_reducible exact f7))) (by first | exact fun z => z | exact HP.out.1.n6) (by first | exact fun z => z | exact HP.out.1.n3) | fail "nokeep")
    (first
      | (go_at_call 85; (with_reducible refine (HC.out _).mono ?_); rintro e w5 ⟨⟨xa, xn, xc⟩, rfl, k1, k2, k3, k4⟩; unfold SV.val at k2 k4 ⊢; dsimp only at k1 k2 k4 ⊢; rw [List.length_append, be8_len, be8_len] at k1; subst k1; have f5 : Fr noBlock w w5 := ((Fr.refl noBlock w).drew).trans' k3; have HR5 := Lib.hid (And.intro k2 k4); clear k2 k3 k4)
      | (go_at_call 84; (with_reducible refine (encrypt_any (w := w5) ((AKeyT.ok HP.out.2).fr0 HP.out.1.key f5) HP.out.2 (RowAt.rd HR5.out.1) (by rw [List.length_append, be8_len, be8_len]) xc (RowAt.room HR5.out.1) (fun a e hF => by subst e; have h1 := HR5.out.2 a.block rfl; have h2 := (AKeyT.ok HP.out.2).lt HP.out.1.key _ hF; simp at h1; omega)).mono ?_); rintro e w7 ⟨⟨ya, yn, yc⟩, w6, F', rfl, j1, j2, j3, j4, j5, j6⟩; unfold SV.val at j2 j6 ⊢; dsimp only at j1 j2 j6 ⊢; subst j1; have f7 : Fr F w w7 := ((f5.mono (T := F) (fun _ z => z.elim)).trans' j4.fr).trans' (j5.mono (fun _ z => z.elim)); have HE := Lib.hid (And.intro j2 (And.intro j3 (And.intro j4 (And.intro j5 j6)))); clear j2 j3 j4 j5 j6)
      | fail "noarm")
  all_goals
    have HG := Lib.hid (show RowAt 5 ByteR w7 (.slice ya 16 yc) (padB key nonce n) ∧ PadIn b6 b3 ka key nonce w7 F' ∧ Step F F' w w7 ∧ ∀ k, (Value.slice ya 16 yc).ownBlock = some k → w.heap.size ≤ k ∧ ¬ F' k from by
      have hs5 := f5.size
      have hst : Step F F' w w7 := ⟨f7, fun k hk => (HE.out.2.2.1.foot k hk).imp id (fun hle => Nat.le_trans hs5 hle)⟩
      have hk7 : AKeyT ka key w7 F' := (AKeyT.ok HP.out.2).fr0 (.inr HE.out.2.1) HE.out.2.2.2.1
      refine ⟨HE.out.1, ⟨f7.obj HP.out.1.kp HP.out.1.n6, f7.obj HP.out.1.np HP.out.1.n3, hk7, fun e => ?_, fun e => ?_⟩, hst, fun k hk => ⟨?_, fun e => ?_⟩⟩
      · exact (hst.foot _ e).elim HP.out.1.n6 (fun hle => by have := heap_lt HP.out.1.kp; omega)
      · exact (hst.foot _ e).elim HP.out.1.n3 (fun hle => by have := heap_lt HP.out.1.np; omega)
      · exact Nat.le_trans hs5 (Nat.le_trans HE.out.2.2.1.size (HE.out.2.2.2.2 k hk))
      · have h1 := HE.out.2.2.2.2 k hk
        have h2 := (AKeyT.ok HP.out.2).lt (.inr HE.out.2.1) k e
        omega)
    clear f5 f7 HE HR5
    go_wp2_with fail
    go_ret
    exact ⟨⟨ya, 16, yc⟩, F', rfl, rfl, HG.out.1, HG.out.2.1, HG.out.2.2.1, HG.out.2.2.2⟩
end Go.Proofs.YthabllnhlhkejaaGreatDoor
