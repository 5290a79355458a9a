/-
  THE WALK of expand: the round keys of a key of 32 bytes.
-/
import Derived.StillTailTactics
import Derived.Deep.CutBlock
import Derived.Deep.DeepCutAuto
import Derived.Deep.CutRange
import Derived.Test.YthabllnhlhkejaaGreatDoorAeE
namespace Go.Proofs.YthabllnhlhkejaaGreatDoor

/-- the four bytes that the i-th word is made of -/
def expT (w : List UInt8) (p : UInt8) (n i : Nat) : List UInt8 :=
  if i % n = 0 then [fBox (w.getD (4 * i - 4 + 1) 0) ^^^ p, fBox (w.getD (4 * i - 4 + 2) 0), fBox (w.getD (4 * i - 4 + 3) 0), fBox (w.getD (4 * i - 4) 0)]
  else if n = 8 ∧ i % n = 4 then [fBox (w.getD (4 * i - 4) 0), fBox (w.getD (4 * i - 4 + 1) 0), fBox (w.getD (4 * i - 4 + 2) 0), fBox (w.getD (4 * i - 4 + 3) 0)]
  else [w.getD (4 * i - 4) 0, w.getD (4 * i - 4 + 1) 0, w.getD (4 * i - 4 + 2) 0, w.getD (4 * i - 4 + 3) 0]
theorem expT_len (w : List UInt8) (p : UInt8) (n i : Nat) : (expT w p n i).length = 4 := by
  unfold expT
  split
  · rfl
  · split <;> rfl
/-- the i-th word -/
def expN (w : List UInt8) (p : UInt8) (n i : Nat) : List UInt8 := (List.range 4).map (fun j => (expT w p n i).getD j 0 ^^^ w.getD (4 * (i - n) + j) 0)
theorem expN_len (w : List UInt8) (p : UInt8) (n i : Nat) : (expN w p n i).length = 4 := by simp [expN]
/-- the words and the power, k words behind the key -/
def expL (key : List UInt8) (n : Nat) : Nat → List UInt8 × UInt8
  | 0 => (key, 1)
  | k + 1 => ((expL key n k).1 ++ expN (expL key n k).1 (expL key n k).2 n (n + k), if (n + k) % n = 0 then fMul (expL key n k).2 2 else (expL key n k).2)
theorem expL_len {key : List UInt8} {n : Nat} (h : key.length = 4 * n) (k : Nat) : (expL key n k).1.length = 4 * (n + k) := by
  induction k with
  | zero => exact h
  | succ k ih =>
    show ((expL key n k).1 ++ expN _ _ _ _).length = _
    rw [List.length_append, ih, expN_len]
    omega
def expW (key : List UInt8) (n : Nat) : List UInt8 := (expL key n (3 * n + 28)).1
theorem expW_len {key : List UInt8} {n : Nat} (h : key.length = 4 * n) : (expW key n).length = 16 * (n + 7) := by
  unfold expW
  rw [expL_len h]
  omega
/-- the round keys -/
def roundsL (w : List UInt8) : List (List UInt8) := (List.range (w.length / 16)).map (fun i => (w.drop (16 * i)).take 16)
theorem roundsL_len (w : List UInt8) : (roundsL w).length = w.length / 16 := by simp [roundsL]
theorem roundsL_each {w : List UInt8} {r : List UInt8} (h : r ∈ roundsL w) : r.length = 16 := by
  unfold roundsL at h
  obtain ⟨i, hi, rfl⟩ := List.mem_map.1 h
  have := List.mem_range.1 hi
  rw [List.length_take, List.length_drop]
  omega
/-- i rounds of 'last' -/
def encR (R : List (List UInt8)) (last : Nat) (p : List UInt8) : Nat → List UInt8
  | 0 => layF p (R.getD 0 [])
  | i + 1 => layF (if i + 1 < last then mixF (turnF (encR R last p i)) else turnF (encR R last p i)) (R.getD (i + 1) [])
/-- a block under a key -/
def aesE (key p : List UInt8) : List UInt8 := encR (roundsL (expW key (key.length / 4))) (key.length / 4 + 6) p (key.length / 4 + 6)
theorem encR_len {R : List (List UInt8)} {last : Nat} {p : List UInt8} (hp : p.length = 16) (hR : ∀ r ∈ R, r.length = 16) {i : Nat} (hi : i < R.length) : (encR R last p i).length = 16 := by
  induction i with
  | zero =>
    have h : (R.getD 0 []).length = 16 := by
      rw [List.getD_eq_getElem?_getD, List.getElem?_eq_getElem hi]
      exact hR _ (List.getElem_mem hi)
    show (layF p (R.getD 0 [])).length = 16
    rw [layF_len (by omega), hp]
  | succ i ih =>
    have h : (R.getD (i + 1) []).length = 16 := by
      rw [List.getD_eq_getElem?_getD, List.getElem?_eq_getElem hi]
      exact hR _ (List.getElem_mem hi)
    have hx : (if i + 1 < last then mixF (turnF (encR R last p i)) else turnF (encR R last p i)).length = 16 := by
      split
      · exact mixF_len _
      · exact turnF_len _
    show (layF _ (R.getD (i + 1) [])).length = 16
    rw [layF_len (by omega), hx]
theorem aesE_len {key p : List UInt8} (hk : key.length = 32) (hp : p.length = 16) : (aesE key p).length = 16 := by
  unfold aesE
  have h8 : key.length / 4 = 8 := by omega
  rw [h8]
  refine encR_len hp (fun r hr => roundsL_each hr) ?_
  rw [roundsL_len, expW_len (by omega)]
  omega
end Go.Proofs.YthabllnhlhkejaaGreatDoor
namespace Go.Proofs.YthabllnhlhkejaaGreatDoor
open Go.RowKit

/-- a block, of 16 bytes always -/
structure Blk where
  l : List UInt8
  len : l.length = 16
def mkBlk (l : List UInt8) : Blk := ⟨(l ++ List.replicate 16 0).take 16, by simp⟩
theorem mkBlk_l {l : List UInt8} (h : l.length = 16) : (mkBlk l).l = l := by
  unfold mkBlk
  simp only
  rw [List.take_append_of_le_length (by omega), List.take_of_length_le (by omega)]
def BlkR : Rec Blk := ⟨16, fun b => b.l.map byteV, fun b => by rw [List.length_map, b.len], fun b u hu => by obtain ⟨c, _, rfl⟩ := List.mem_map.1 hu; rfl⟩
theorem blkK : BlkR.k = 16 := rfl
def roundsN (w : List UInt8) (m : Nat) : List Blk := (List.range m).map (fun i => mkBlk ((w.drop (16 * i)).take 16))
theorem roundsN_len (w : List UInt8) (m : Nat) : (roundsN w m).length = m := by simp [roundsN]
theorem roundsN_succ (w : List UInt8) (m : Nat) : roundsN w (m + 1) = roundsN w m ++ [mkBlk ((w.drop (16 * m)).take 16)] := by simp [roundsN, List.range_succ]
theorem infoBlk : (Tryz.prog.info? 175).map (fun i => (i.zero, i.size, i.bytes)) = some (some (.agg (List.replicate 16 (Value.int .u8 0)).toArray), 16, 16) := by kernel_rfl
theorem el_blk : Elem Tryz.prog 153 175 BlkR.k 16 := Elem.mk' Tryz.underlying153 infoBlk (by decide) (by simp [Value.cells, blkK])
theorem boxAll_at (c : UInt8) : boxAll[c.toNat]? = some (fBox c) := by
  rw [boxAll_get c.toNat_lt]
  simp

/-- what the words' loop holds -/
def ExpIn (w : World) (key : List UInt8) (i : Nat) (W : World) (xo : Option Addr) (n xc : Nat) (p : UInt8) : Prop := OwnB w W xo n xc (expL key 8 (i - 8)).1 ∧ (expL key 8 (i - 8)).2 = p ∧ n = 4 * i
theorem bytesO_range {w : World} {b : Nat} {l : List UInt8} {t : TypeId} (h : w.heap[b]? = some (bytesO l t)) {i : Nat} (hi : i < l.length) : w.cell? ⟨b, i, none⟩ = some (.int .u8 ((l.getD i 0).toNat : Int)) ∧ w.frozen? ⟨b, i, none⟩ = false := by
  refine bytesO_cell h ?_
  rw [List.getD_eq_getElem?_getD, List.getElem?_eq_getElem hi]
  rfl
theorem ownB_cell {w W : World} {g n cap : Nat} {x : List UInt8} (h : OwnB w W (some ⟨g, 0, none⟩) n cap x) {i : Nat} (hi : i < n) : W.cell? ⟨g, i, none⟩ = some (.int .u8 ((x.getD i 0).toNat : Int)) := by
  have hl := h.len
  rw [(byte_at h.row (i := i) (by omega)).1, List.getD_eq_getElem?_getD, List.getElem?_eq_getElem (by omega)]
  rfl
theorem ownB_some {w W : World} {ao : Option Addr} {n cap : Nat} {x : List UInt8} (h : OwnB w W ao n cap x) (h0 : 0 < n) : ∃ g, ao = some ⟨g, 0, none⟩ := by
  obtain ⟨g, c, e, _⟩ := h.row.block' (by rw [h.len]; exact h0)
  simp only [Value.slice.injEq] at e
  exact ⟨g, e.1⟩
/-- a block of another kind is not the row's -/
theorem ownB_ne {w W : World} {ao : Option Addr} {n cap : Nat} {x l : List UInt8} {b : Nat} (h : OwnB w W ao n cap x) (hb : W.heap[b]? = some (bytesO l 204)) : (Value.slice ao n cap).ownBlock ≠ some b := fun e => by
  obtain ⟨cur, hc⟩ := h.row.kind e
  rw [hc] at hb
  have := Obj.cells.inj (Option.some.inj hb)
  exact absurd this.2.1 (by decide)
theorem list16 {l : List UInt8} (h : l.length = 16) : ∃ y0 y1 y2 y3 y4 y5 y6 y7 y8 y9 y10 y11 y12 y13 y14 y15, l = [y0, y1, y2, y3, y4, y5, y6, y7, y8, y9, y10, y11, y12, y13, y14, y15] := by
  refine ⟨l[0], l[1], l[2], l[3], l[4], l[5], l[6], l[7], l[8], l[9], l[10], l[11], l[12], l[13], l[14], l[15], List.ext_getElem (h.trans rfl) fun i h1 h2 => ?_⟩
  have hi : i < 16 := by omega
  rcases (show i = 0 ∨ i = 1 ∨ i = 2 ∨ i = 3 ∨ i = 4 ∨ i = 5 ∨ i = 6 ∨ i = 7 ∨ i = 8 ∨ i = 9 ∨ i = 10 ∨ i = 11 ∨ i = 12 ∨ i = 13 ∨ i = 14 ∨ i = 15 by omega) with rfl | rfl | rfl | rfl | rfl | rfl | rfl | rfl | rfl | rfl | rfl | rfl | rfl | rfl | rfl | rfl <;> rfl
theorem OwnB.far {w0 w w' : World} {ao : Option Addr} {n cap b : Nat} {x l : List UInt8} (h : OwnB w0 w ao n cap x) (hb : w.heap[b]? = some (bytesO l 204)) (hwb : w0.heap.size ≤ b) (hf : Fr (fun k => k = b) w w') : OwnB w0 w' ao n cap x :=
  ⟨ownsRow_fr h.own hf (fun k hk e => ownB_ne h hb (by rw [hk, e])), h.len, h.fr.trans hf (fun k hk => .inr (by rw [hk]; exact hwb))⟩
theorem exp_four {W : World} {tb : Nat} {x0 x1 x2 x3 y0 y1 y2 y3 : UInt8} (h : W.heap[tb]? = some (bytesO [x0, x1, x2, x3] 204)) :
    ((((W.setCell ⟨tb, 0, none⟩ (.int .u8 (y0.toNat : Int))).setCell ⟨tb, 1, none⟩ (.int .u8 (y1.toNat : Int))).setCell ⟨tb, 2, none⟩ (.int .u8 (y2.toNat : Int))).setCell ⟨tb, 3, none⟩ (.int .u8 (y3.toNat : Int))).heap[tb]? = some (bytesO [y0, y1, y2, y3] 204) ∧
    Fr (fun k => k = tb) W ((((W.setCell ⟨tb, 0, none⟩ (.int .u8 (y0.toNat : Int))).setCell ⟨tb, 1, none⟩ (.int .u8 (y1.toNat : Int))).setCell ⟨tb, 2, none⟩ (.int .u8 (y2.toNat : Int))).setCell ⟨tb, 3, none⟩ (.int .u8 (y3.toNat : Int))) :=
  ⟨bytesO_set (bytesO_set (bytesO_set (bytesO_set h 0 y0) 1 y1) 2 y2) 3 y3, fr_set_at (fr_set_at (fr_set_at (fr_set_at (Fr.refl _ W) 0 _) 1 _) 2 _) 3 _⟩
/-- 'j of four bytes are mapped' -/
theorem exp_box {x0 x1 x2 x3 : UInt8} {j : Nat} (hj : j < 4) (c : UInt8) (hc : [x0, x1, x2, x3][j]? = some c) : (overL [fBox x0, fBox x1, fBox x2, fBox x3] [x0, x1, x2, x3] j).set j (fBox c) = overL [fBox x0, fBox x1, fBox x2, fBox x3] [x0, x1, x2, x3] (j + 1) := by
  refine overL_set (n := [fBox x0, fBox x1, fBox x2, fBox x3]) (o := [x0, x1, x2, x3]) rfl hj _ ?_
  rcases (show j = 0 ∨ j = 1 ∨ j = 2 ∨ j = 3 by omega) with rfl | rfl | rfl | rfl <;> simp at hc <;> subst hc <;> rfl
/-- what the round keys' loop holds -/
structure KeyX (w : World) (ka : Nat) (v : Value) (d s q : Int) (Y : List UInt8) (xo : Option Addr) (xc : Nat) (K : List UInt8) (W : World) (m : Nat) (vo : Option Addr) (vc : Nat) : Prop where
  box : W.heap[ka]? = some (keyO v d s q boxAll Y (.slice vo m vc))
  row : RowAt 5 ByteR W (.slice xo 240 xc) K
  new : ∀ k, (Value.slice xo 240 xc).ownBlock = some k → w.heap.size ≤ k
  rounds : W.ownsRow w.heap.size 175 BlkR.k (.slice vo m vc) m (BlkR.flat (roundsN K m))
  fr : Fr (fun k => k = ka) w W
theorem key_rv {w : World} {b : Nat} {v rv : Value} {d s q : Int} {Y : List UInt8} (h : w.heap[b]? = some (keyO v d s q boxAll Y rv)) (hY : Y.length = 256) : w.cell? ⟨b, 516, none⟩ = some rv ∧ w.frozen? ⟨b, 516, none⟩ = false := by
  refine ⟨?_, free_of h _⟩
  rw [cell_of h, List.getElem?_toArray]
  unfold keyL
  have e : ([v, Value.int .u32 d, Value.int .i32 s, Value.int .u32 q] ++ boxAll.map byteV ++ Y.map byteV).length = 516 := by simp [hY, boxAll_len]
  rw [List.getElem?_append_right (by rw [e]; exact Nat.le_refl _), e]
  rfl
theorem key_set_rv {w : World} {b : Nat} {v rv : Value} {d s q : Int} {Y : List UInt8} (h : w.heap[b]? = some (keyO v d s q boxAll Y rv)) (hY : Y.length = 256) (rv' : Value) : (w.setCell ⟨b, 516, none⟩ rv').heap[b]? = some (keyO v d s q boxAll Y rv') := by
  rw [heap_set_eq h]
  unfold keyO keyL
  congr 2
  have e : ([v, Value.int .u32 d, Value.int .i32 s, Value.int .u32 q] ++ boxAll.map byteV ++ Y.map byteV).length = 516 := by simp [hY, boxAll_len]
  rw [List.setIfInBounds_toArray, List.set_append_right _ _ (by rw [e]; exact Nat.le_refl _), e]
  rfl
theorem KeyX.grow {w W W1 W2 : World} {ka m cap2 vc xc : Nat} {v : Value} {d s q : Int} {Y K : List UInt8} {xo vo ao2 : Option Addr} (h : KeyX w ka v d s q Y xo xc K W m vo vc) (hka : ka < w.heap.size) (hY : Y.length = 256) (hf : Fr noBlock W W1) (g6 : W1.grownBy W2 (Value.slice vo m vc).ownBlock)
    (o6 : W2.ownsRow w.heap.size 175 BlkR.k (.slice ao2 (m + 1) cap2) (m + 1) (BlkR.flat (roundsN K (m + 1)))) : W2.cell? ⟨ka, 516, none⟩ = some (.slice vo m vc) ∧ W2.frozen? ⟨ka, 516, none⟩ = false ∧ KeyX w ka v d s q Y xo xc K (W2.setCell ⟨ka, 516, none⟩ (.slice ao2 (m + 1) cap2)) (m + 1) ao2 cap2 := by
  have hr : ∀ k, (Value.slice vo m vc).ownBlock = some k → w.heap.size ≤ k := fun k hk => (h.rounds.lt k hk).1
  have f2 : Fr (fun k => (Value.slice vo m vc).ownBlock = some k) W W2 := (hf.mono (fun _ z => z.elim)).grown g6 (fun k hk => .inl hk)
  have hb2 := f2.obj h.box (fun e => by have := hr _ e; omega)
  have hne : ∀ k, (Value.slice xo 240 xc).ownBlock = some k → ¬ (Value.slice vo m vc).ownBlock = some k := fun k hk e => by
    obtain ⟨c1, h1⟩ := h.row.kind hk
    obtain ⟨c2, h2⟩ := (RowAt.of_own h.rounds (roundsN_len _ _).symm).kind e
    rw [h1] at h2
    have := Obj.cells.inj (Option.some.inj h2)
    exact absurd this.2.1 (by decide)
  obtain ⟨k1, k2⟩ := key_rv hb2 hY
  have fs : Fr (fun k => k = ka) W2 (W2.setCell ⟨ka, 516, none⟩ (.slice ao2 (m + 1) cap2)) := fr_set_at (Fr.refl _ _) 516 _
  refine ⟨k1, k2, key_set_rv hb2 hY _, (h.row.fr f2 hne).fr fs (fun k hk e => by have := h.new k hk; omega), h.new, ownsRow_fr o6 fs (fun k hk e => by have := (o6.lt k hk).1; omega), ?_⟩
  exact (h.fr.trans f2 (fun k hk => .inr (hr k hk))).trans' fs
set_option maxRecDepth 100000 in
set_option maxHeartbeats 6400000 in
theorem expand_any {w : World} {ka : Nat} {ro : Option Addr} {rc : Nat} {d s q : Int} {key Y : List UInt8} (hb : w.heap[ka]? = some (keyO (.slice ro key.length rc) d s q boxAll Y (.slice none 0 0))) (hY : Y.length = 256) (hk : RowRd ByteR w ro key) (hl : key.length = 32) :
    Calls Tryz.prog 140 #[.pointer (some ⟨ka, 0, none⟩)] w fun e w' => e = .returned (.tuple #[]) ∧ (∃ (vo : Option Addr) (vc : Nat), w'.heap[ka]? = some (keyO (.slice ro key.length rc) d s q boxAll Y (.slice vo 15 vc)) ∧ RowAt 175 BlkR w' (.slice vo 15 vc) (roundsN (expW key 8) 15) ∧ ∀ k, (Value.slice vo 15 vc).ownBlock = some k → w.heap.size ≤ k) ∧ Fr (fun k => k = ka) w w' := by
  have HC := Lib.hid (clone_any hk rc (by omega))
  unfold CloneP at HC
  have HB := Lib.hid hb
  have hka := heap_lt hb
  have k0 := (key_head hb).1
  have HL := Lib.hid hl
  have HY := Lib.hid hY
  have qd : Int.tdiv ((key.length : Nat) : Int) 4 = 8 := by rw [hl]; rfl
  clear hb hk hl hY
  go_enter Tryz.func140, Tryz.ntmps140
  go_wp2_with fail
  refine HC.out.mono ?_
  rintro e w1 ⟨⟨xa, xn, xc⟩, rfl, h1, h2, h3, h4⟩
  unfold SV.val at h2 h4 ⊢
  dsimp only at h1 h2 h4 ⊢
  subst h1
  have H1 := Lib.hid (show ExpIn w key 8 w1 xa key.length xc 1 from ⟨OwnB.of_row h2 h4 h3, rfl, HL.out⟩)
  clear h2 h3 h4 HC k0 qd
  go_wp2_with fail
  go_loopw [3, 4, 5] (fun s3 s4 s5 W => ∃ (i n : Nat) (xo : Option Addr) (xc : Nat) (p : UInt8), 8 ≤ i ∧ i ≤ 60 ∧ s3 = .slice xo n xc ∧ s4 = .int .u8 (p.toNat : Int) ∧ s5 = .int .i64 (i : Int) ∧ Hid (ExpIn w key i W xo n xc p)) (fun _ _ s5 _ => 60 - (intOf s5).toNat)
  case atStart => exact ⟨8, _, xa, xc, 1, by omega, by omega, rfl, rfl, rfl, H1⟩
  case round =>
    clear H1
    obtain ⟨i, n, xo, xc, p, h8, h60, rfl, rfl, rfl, HI⟩ := hrel
    by_cases hlt : i < 60
    · have q1 : (i : Int) < 60 := by omega
      have hn := HI.out.2.2
      have hcap := HI.out.1.cap'
      obtain ⟨g, rfl⟩ := ownB_some HI.out.1 (by omega)
      subst hn
      have q2 : wrap64 (4 * (i : Int)) = 4 * (i : Int) := by unfold wrap64; omega
      have q3 : wrap64 (4 * (i : Int) - 4) = 4 * (i : Int) - 4 := by unfold wrap64; omega
      have q4 : 4 * (i : Int) - 4 ≤ 4 * (i : Int) := by omega
      have q5 : 4 * (i : Int) ≤ (xc : Int) := by omega
      have q7 : ¬ xc = 4 * i - 4 := by omega
      have q8 : (0 : Int) ≤ 4 * (i : Int) - 4 := by omega
      have q9 : (0 : Int) ≤ 4 * (i : Int) := by omega
      obtain ⟨x0, e0⟩ : ∃ x0, (expL key 8 (i - 8)).1.getD (4 * i - 4) 0 = x0 := ⟨_, rfl⟩
      obtain ⟨x1, e1⟩ : ∃ x1, (expL key 8 (i - 8)).1.getD (4 * i - 4 + 1) 0 = x1 := ⟨_, rfl⟩
      obtain ⟨x2, e2⟩ : ∃ x2, (expL key 8 (i - 8)).1.getD (4 * i - 4 + 2) 0 = x2 := ⟨_, rfl⟩
      obtain ⟨x3, e3⟩ : ∃ x3, (expL key 8 (i - 8)).1.getD (4 * i - 4 + 3) 0 = x3 := ⟨_, rfl⟩
      have c0 := ownB_cell HI.out.1 (i := 4 * i - 4) (by omega)
      have c1 := ownB_cell HI.out.1 (i := 4 * i - 4 + 1) (by omega)
      have c2 := ownB_cell HI.out.1 (i := 4 * i - 4 + 2) (by omega)
      have c3 := ownB_cell HI.out.1 (i := 4 * i - 4 + 3) (by omega)
      rw [e0] at c0
      rw [e1] at c1
      rw [e2] at c2
      rw [e3] at c3
      have HE := Lib.hid (And.intro e0 (And.intro e1 (And.intro e2 e3)))
      have HM := Lib.hid hcap
      have hat : ∀ W, (Instr.arrayAt 204 (.slice (some ⟨g, 4 * i - 4, none⟩) (4 * i - (4 * i - 4)) (xc - (4 * i - 4)))).run Tryz.prog W = .ok (.pointer (some ⟨g, 4 * i - 4, none⟩)) W := fun W => run_arrayAt W 204 _ 4 _ _ _ Tryz.underlying204 (by omega)
      clear e0 e1 e2 e3 hcap
      go_upto_block 2 with fail
      obtain ⟨tb, htb⟩ : ∃ tb, wr.heap.size = tb := ⟨_, rfl⟩
      obtain ⟨L, hL⟩ : ∃ L, (expL key 8 (i - 8)).1 = L := ⟨_, rfl⟩
      have HS := Lib.hid (show (expL key 8 (i + 1 - 8)).1 = L ++ expN L p 8 i ∧ (expL key 8 (i + 1 - 8)).2 = if i % 8 = 0 then fMul p 2 else p by
        rw [show i + 1 - 8 = (i - 8) + 1 by omega]
        show (expL key 8 (i - 8)).1 ++ expN (expL key 8 (i - 8)).1 (expL key 8 (i - 8)).2 8 (8 + (i - 8)) = _ ∧ (if (8 + (i - 8)) % 8 = 0 then fMul (expL key 8 (i - 8)).2 2 else (expL key 8 (i - 8)).2) = _
        rw [show 8 + (i - 8) = i by omega, hL, HI.out.2.1]
        exact ⟨rfl, rfl⟩)
      rw [hL] at HE
      refine wp_at (fun W => W.heap[tb]? = some (bytesO [x0, x1, x2, x3] 204) ∧ OwnB w W (some ⟨g, 0, none⟩) (4 * i) xc L) ⟨by rw [← htb]; exact heap_new wr _, by rw [← hL]; exact HI.out.1.to ((Fr.refl noBlock wr).alloc _)⟩ ?_
      have hwt : w.heap.size ≤ tb := by rw [← htb]; exact HI.out.1.fr.size
      rw [htb]
      clear c0 c1 c2 c3 hat HI q2 q3 q4 q5 q7 q8 q9 htb hL
      rintro w5 ⟨k1, k2⟩
      have H5 := Lib.hid (And.intro k1 k2)
      clear k1 k2
      obtain ⟨r, hr⟩ : ∃ r, i % 8 = r := ⟨_, rfl⟩
      have q3 : Int.tmod (i : Int) 8 = (r : Int) := by rw [Int.tmod_eq_emod_of_nonneg (by omega)]; omega
      rw [hr] at HS
      go_cut [4, 7] from 22 to 118 (fun s4 s7 W => ∃ p2 : UInt8, s4 = .int .u8 (p2.toNat : Int) ∧ Hid (p2 = (if r = 0 then fMul p 2 else p) ∧ W.heap[tb]? = some (bytesO (expT L p 8 i) 204) ∧ OwnB w W (some ⟨g, 0, none⟩) (4 * i) xc L))
      case first =>
        have hk5 := H5.out.2.fr.obj HB.out (fun z => z)
        obtain ⟨y0, z0⟩ := bytesO_cell H5.out.1 (i := 0) rfl
        obtain ⟨y1, z1⟩ := bytesO_cell H5.out.1 (i := 1) rfl
        obtain ⟨y2, z2⟩ := bytesO_cell H5.out.1 (i := 2) rfl
        obtain ⟨y3, z3⟩ := bytesO_cell H5.out.1 (i := 3) rfl
        have b0 := (keyX hk5 (boxAll_at x0)).1
        have b1 := (keyX hk5 (boxAll_at x1)).1
        have b2 := (keyX hk5 (boxAll_at x2)).1
        have b3 := (keyX hk5 (boxAll_at x3)).1
        have l0 : ((x0.toNat : Nat) : Int) < 256 := by have := x0.toNat_lt; omega
        have l1 : ((x1.toNat : Nat) : Int) < 256 := by have := x1.toNat_lt; omega
        have l2 : ((x2.toNat : Nat) : Int) < 256 := by have := x2.toNat_lt; omega
        have l3 : ((x3.toNat : Nat) : Int) < 256 := by have := x3.toNat_lt; omega
        by_cases hr0 : r = 0
        · have qr : ((r : Int) == 0) = true := by rw [hr0]; rfl
          have HT : Hid (expT L p 8 i = [fBox x1 ^^^ p, fBox x2, fBox x3, fBox x0]) := Lib.hid (by
            unfold expT
            rw [if_pos (by omega), HE.out.1, HE.out.2.1, HE.out.2.2.1, HE.out.2.2.2])
          have HFm := Lib.hid (show ∀ W, Calls Tryz.prog 157 #[.int .u8 (p.toNat : Int), .int .u8 2] W fun e w' => e = .returned (.int .u8 ((fMul p 2).toNat : Int)) ∧ W = w' from fun W => mul_any p 2 W)
          obtain ⟨g1, g2⟩ := exp_four (y0 := fBox x1 ^^^ p) (y1 := fBox x2) (y2 := fBox x3) (y3 := fBox x0) H5.out.1
          have HG := Lib.hid (And.intro ((Fr.refl noBlock _).drew.obj g1 (fun z => z)) (((H5.out.2.far H5.out.1 hwt g2)).to (Fr.refl noBlock _).drew))
          rw [← u8x] at HG
          have HQ := Lib.hid (show fMul p 2 = (if r = 0 then fMul p 2 else p) from (if_pos hr0).symm)
          clear hk5 g1 g2
          go_upto_region 8 with fail
          go_still_tail 31, (by kernel_rfl)
          change wpList _ _ _ _ _ w5.drew
          go_wp2_with fail
          refine (HFm.out _).mono ?_
          rintro e w6 ⟨rfl, rfl⟩
          go_wp2_with fail
          go_meet
          exact ⟨fMul p 2, rfl, Lib.hid ⟨HQ.out, by rw [HT.out]; exact HG.out.1, HG.out.2⟩⟩
        · have qr : ((r : Int) == 0) = false := by simp; omega
          have HQ := Lib.hid (show p = (if r = 0 then fMul p 2 else p) from (if_neg hr0).symm)
          clear y0 y1 y2 y3 z0 z1 z2 z3
          by_cases hr4 : r = 4
          · have qr4 : ((r : Int) == 4) = true := by rw [hr4]; rfl
            have HT : Hid (expT L p 8 i = [fBox x0, fBox x1, fBox x2, fBox x3]) := Lib.hid (by
              unfold expT
              rw [if_neg (by omega), if_pos (by omega), HE.out.1, HE.out.2.1, HE.out.2.2.1, HE.out.2.2.2])
            clear hk5 b0 b1 b2 b3 l0 l1 l2 l3
            have H6 := Lib.hid (show w5.heap[tb]? = some (bytesO (overL [fBox x0, fBox x1, fBox x2, fBox x3] [x0, x1, x2, x3] 0) 204) ∧ OwnB w w5 (some ⟨g, 0, none⟩) (4 * i) xc L from H5.out)
            go_wp2_with fail
            go_loopw [85, 7] (fun s85 _ W => ∃ j : Nat, j ≤ 4 ∧ s85 = .int .i64 j ∧ Hid (W.heap[tb]? = some (bytesO (overL [fBox x0, fBox x1, fBox x2, fBox x3] [x0, x1, x2, x3] j) 204) ∧ OwnB w W (some ⟨g, 0, none⟩) (4 * i) xc L)) (fun s85 _ _ => 4 - (intOf s85).toNat)
            case atStart => exact ⟨0, by omega, rfl, H6⟩
            case round =>
              clear H6
              obtain ⟨j, hj, rfl, HI⟩ := hrel
              by_cases hj4 : j < 4
              · have q1 : (j : Int) < 4 := by omega
                have q0 : (0 : Int) ≤ (j : Int) := by omega
                obtain ⟨c, hc⟩ : ∃ c, [x0, x1, x2, x3][j]? = some c := ⟨_, List.getElem?_eq_getElem (by simpa using hj4)⟩
                have hcc : (overL [fBox x0, fBox x1, fBox x2, fBox x3] [x0, x1, x2, x3] j)[j]? = some c := by rw [overL_get (n := [fBox x0, fBox x1, fBox x2, fBox x3]) (i := j) (o := [x0, x1, x2, x3]) rfl hj4, ← hc, List.getElem?_eq_getElem]
                obtain ⟨y0, z0⟩ := bytesO_cell HI.out.1 hcc
                have b0 := (keyX (HI.out.2.fr.obj HB.out (fun z => z)) (boxAll_at c)).1
                have l0 : ((c.toNat : Nat) : Int) < 256 := by have := c.toNat_lt; omega
                have g1 := bytesO_set HI.out.1 j (fBox c)
                rw [exp_box hj4 c hc] at g1
                have HG := Lib.hid (And.intro ((Fr.refl noBlock _).drew.obj g1 (fun z => z)) ((HI.out.2.far HI.out.1 hwt (fr_set_at (Fr.refl _ wr) j (.int .u8 ((fBox c).toNat : Int)))).to (Fr.refl noBlock _).drew))
                clear hc hcc g1
                go_wp2_with fail
                go_still_tail 10, (by kernel_rfl)
                change wpList _ _ _ _ _ wr.drew
                go_wp2_with fail
                go_roundw
                case rel => exact ⟨j + 1, hj4, by go_num, HG⟩
                case measure => simp [intOf]; omega
              · have q1 : (4 : Int) ≤ (j : Int) := by omega
                obtain rfl : j = 4 := by omega
                go_wp2_with fail
                go_meet
                exact ⟨p, rfl, Lib.hid ⟨HQ.out, by rw [HT.out]; exact HI.out.1, HI.out.2⟩⟩
          · have qr4 : ((r : Int) == 4) = false := by simp; omega
            have HT : Hid (expT L p 8 i = [x0, x1, x2, x3]) := Lib.hid (by
              unfold expT
              rw [if_neg (by omega), if_neg (by omega), HE.out.1, HE.out.2.1, HE.out.2.2.1, HE.out.2.2.2])
            clear hk5 b0 b1 b2 b3 l0 l1 l2 l3
            go_wp2_with fail
            go_meet
            exact ⟨p, rfl, Lib.hid ⟨HQ.out, by rw [HT.out]; exact H5.out.1, H5.out.2⟩⟩
      obtain ⟨p2, rfl, HI⟩ := hcut
      clear H5 q3 hr
      obtain ⟨T, hT⟩ : ∃ T, expT L p 8 i = T := ⟨_, rfl⟩
      have hTl : T.length = 4 := by rw [← hT]; exact expT_len _ _ _ _
      have HS2 := Lib.hid (show (expL key 8 (i + 1 - 8)).1 = L ++ (List.range 4).map (fun j => T.getD j 0 ^^^ L.getD (4 * (i - 8) + j) 0) ∧ (expL key 8 (i + 1 - 8)).2 = p2 by
        rw [HS.out.1, HS.out.2, HI.out.1]
        unfold expN
        rw [hT]
        exact ⟨rfl, rfl⟩)
      rw [hT] at HI
      have hLl := HI.out.2.2.len
      have HE2 := Lib.hid (show ∀ j, j ≤ 4 → (L ++ ((List.range 4).map (fun j => T.getD j 0 ^^^ L.getD (4 * (i - 8) + j) 0)).take j).length = 4 * i + j from fun j hj => by rw [List.length_append, List.length_take, List.length_map, List.length_range, hLl]; omega)
      obtain ⟨N, hN⟩ : ∃ N, (List.range 4).map (fun j => T.getD j 0 ^^^ L.getD (4 * (i - 8) + j) 0) = N := ⟨_, rfl⟩
      have HN := Lib.hid (show ∀ j, j < 4 → N.take (j + 1) = N.take j ++ [T.getD j 0 ^^^ L.getD (4 * (i - 8) + j) 0] from fun j hj => by
        have hl : j < N.length := by rw [← hN, List.length_map, List.length_range]; exact hj
        rw [List.take_succ_eq_append_getElem hl]
        congr 2
        subst hN
        rw [List.getElem_map, List.getElem_range])
      have HNl := Lib.hid (show N.length = 4 by rw [← hN, List.length_map, List.length_range])
      rw [hN] at HS2 HE2
      have H6 := Lib.hid (show wc.heap[tb]? = some (bytesO T 204) ∧ OwnB w wc (some ⟨g, 0, none⟩) (4 * i + 0) xc (L ++ N.take 0) by
        rw [List.take_zero, List.append_nil]
        exact HI.out.2)
      clear hN hT HI HS HE HM
      go_wp2_with fail
      go_loopw [99, 3, 8] (fun s99 s3 _ W => ∃ (j n : Nat) (xo : Option Addr) (xc : Nat), j ≤ 4 ∧ n = 4 * i + j ∧ s99 = .int .i64 j ∧ s3 = .slice xo n xc ∧ Hid (W.heap[tb]? = some (bytesO T 204) ∧ OwnB w W xo n xc (L ++ N.take j))) (fun s99 _ _ _ => 4 - (intOf s99).toNat)
      case atStart => exact ⟨0, 4 * i, _, xc, by omega, rfl, rfl, rfl, H6⟩
      case round =>
        clear H6
        obtain ⟨j, n, xo, xc, hj, hn, rfl, rfl, HI⟩ := hrel
        by_cases hj4 : j < 4
        · have q1 : (j : Int) < 4 := by omega
          have q0 : (0 : Int) ≤ (j : Int) := by omega
          obtain ⟨g, rfl⟩ := ownB_some HI.out.2 (by omega)
          have qa : IntKind.i64.wrap ((i : Int) - 8) = (i : Int) - 8 := by rw [IntKind.wrap_i64]; omega
          have qb : IntKind.i64.wrap (4 * ((i : Int) - 8)) = 4 * ((i : Int) - 8) := by rw [IntKind.wrap_i64]; omega
          obtain ⟨m, hm⟩ : ∃ m, 4 * (i - 8) + j = m := ⟨_, rfl⟩
          have qc : IntKind.i64.wrap (4 * ((i : Int) - 8) + (j : Int)) = (m : Int) := by rw [IntKind.wrap_i64]; omega
          have qd : (m : Int) < (n : Int) := by omega
          have qe : (0 : Int) ≤ (m : Int) := by omega
          obtain ⟨y0, -⟩ := bytesO_range HI.out.1 (i := j) (by omega)
          have y1 := ownB_cell HI.out.2 (i := m) (by omega)
          have hLm : (L ++ N.take j).getD m 0 = L.getD m 0 := by
            rw [List.getD_eq_getElem?_getD, List.getElem?_append_left (by omega), ← List.getD_eq_getElem?_getD]
          rw [hLm] at y1
          have HV := Lib.hid (HN.out j hj4)
          rw [hm] at HV
          obtain ⟨a, ha⟩ : ∃ a, T.getD j 0 = a := ⟨_, rfl⟩
          obtain ⟨b, hb⟩ : ∃ b, L.getD m 0 = b := ⟨_, rfl⟩
          rw [ha] at y0 HV
          rw [hb] at y1 HV
          have HX := Lib.hid (u8x a b)
          have HNn := Lib.hid hn
          clear ha hb hLm hn hm
          go_wp2_with fail
          have HFx := Lib.hid (show ∀ cs : Array Value, Fr noBlock wr ((wr.alloc (.cells cs 5)).drew) from fun cs => (((Fr.refl noBlock wr).alloc _).drew))
          have HLn := Lib.hid (show (L ++ N.take (j + 1)).length = n + 1 by rw [List.length_append, List.length_take, HNl.out, hLl, HNn.out]; omega)
          have hn240 : n < 300 := by have := HNn.out; omega
          have HOn := Lib.hid (show RowRd ByteR ((wr.alloc (.cells #[.int .u8 (bits .xor .u8 (a.toNat : Int) (b.toNat : Int))] 5)).drew) (some ⟨wr.heap.size, 0, none⟩) [a ^^^ b] from
            (RowRd.one (heap_new wr _) (a ^^^ b) (by show [Value.int .u8 (bits .xor .u8 (a.toNat : Int) (b.toNat : Int))] = _; rw [HX.out]; rfl)).fr0 (Fr.refl noBlock _).drew)
          go_region_law
            ((refine step_app (by rfl) _ _ (by rfl) el_bytes (v := .slice (some ⟨g, 0, none⟩) n xc) (L ++ N.take j) [a ^^^ b] (L ++ N.take (j + 1)) (by rw [HV.out, List.append_assoc]) w.heap.size n (n + 1) HLn.out.symm (by rfl) (HI.out.2.own' (HFx.out _)) (by rfl) HOn.out rfl (by unfold maxLen; omega) (by omega) (HI.out.2.base (HFx.out _)) ?_; intro ao2 cap2 w6 o6 g6 a6))
          all_goals
            have HG := Lib.hid (show w6.heap[tb]? = some (bytesO T 204) ∧ OwnB w w6 ao2 (n + 1) cap2 (L ++ N.take (j + 1)) from
              ⟨((Fr.refl (fun k => (Value.slice (some ⟨g, 0, none⟩) n xc).ownBlock = some k) _).grown g6 (fun k hk => .inl hk)).obj ((HFx.out _).obj HI.out.1 (fun z => z)) (fun e => ownB_ne HI.out.2 HI.out.1 e), HI.out.2.grown (HFx.out _) o6 HLn.out g6⟩)
            clear o6 g6 a6
            go_wp2_with fail
            go_roundw
            case rel => exact ⟨j + 1, n + 1, ao2, cap2, hj4, by have := HNn.out; omega, by go_num, rfl, HG⟩
            case measure => simp [intOf]; omega
        · have q1 : (4 : Int) ≤ (j : Int) := by omega
          obtain rfl : j = 4 := by omega
          have HE := Lib.hid (show ExpIn w key (i + 1) wr xo n xc p2 by
            refine ⟨?_, HS2.out.2, by omega⟩
            rw [HS2.out.1]
            have h := HI.out.2
            rw [List.take_of_length_le (by rw [HNl.out]; exact Nat.le_refl _)] at h
            exact h)
          go_wp2_with fail
          go_roundw
          case rel => exact ⟨i + 1, n, xo, xc, p2, by omega, hlt, rfl, rfl, by go_num, HE⟩
          case measure => simp [intOf]; omega
    · have q1 : (60 : Int) ≤ (i : Int) := by omega
      obtain rfl : i = 60 := by omega
      have hn := HI.out.2.2
      obtain rfl : n = 240 := by omega
      obtain ⟨K, hK⟩ : ∃ K, expW key 8 = K := ⟨_, rfl⟩
      have HW := Lib.hid (show OwnB w wr xo 240 xc K ∧ wr.heap[ka]? = some (keyO (.slice ro key.length rc) d s q boxAll Y (.slice none 0 0)) by
        rw [← hK]
        exact ⟨HI.out.1, HI.out.1.fr.obj HB.out (fun z => z)⟩)
      clear HI HB
      go_wp2_with fail
      go_loopw [9] (fun s9 W => ∃ (m : Nat) (vo : Option Addr) (vc : Nat), m ≤ 15 ∧ s9 = .int .i64 (16 * (m : Int)) ∧ Hid (KeyX w ka (.slice ro key.length rc) d s q Y xo xc K W m vo vc)) (fun s9 _ => 240 - (intOf s9).toNat)
      case atStart => exact ⟨0, none, 0, by omega, rfl, Lib.hid ⟨HW.out.2, HW.out.1.row, HW.out.1.new, World.ownsRow_nil _ _ _ _, HW.out.1.fr.mono (fun _ z => z.elim)⟩⟩
      case round =>
        clear HW
        obtain ⟨m, vo, vc, hm, rfl, HI⟩ := hrel
        by_cases hm15 : m < 15
        · have q1 : 16 * (m : Int) < 240 := by omega
          have q0 : (0 : Int) ≤ 16 * (m : Int) := by omega
          obtain ⟨g, xc', e, hxc, -⟩ := HI.out.row.block' (by rw [← HI.out.row.len]; omega)
          rw [← HI.out.row.len] at hxc
          simp only [Value.slice.injEq] at e
          obtain ⟨rfl, -, rfl⟩ := e
          have q2 : IntKind.i64.wrap (16 * (m : Int) + 16) = 16 * (m : Int) + 16 := by rw [IntKind.wrap_i64]; omega
          have q2' : wrap64 (16 * (m : Int) + 16) = 16 * (m : Int) + 16 := by unfold wrap64; omega
          have q3 : 16 * (m : Int) ≤ 16 * (m : Int) + 16 := by omega
          have q4 : 16 * (m : Int) + 16 ≤ (xc : Int) := by omega
          have q5 : ¬ xc = 16 * m := by omega
          have qn1 : (16 * (m : Int)).toNat = 16 * m := by omega
          have qn2 : (16 * (m : Int) + 16).toNat = 16 * m + 16 := by omega
          have qn3 : 16 * m + 16 - 16 * m = 16 := by omega
          have k4 : wr.cell? ⟨ka, 516, none⟩ = some (.slice vo m vc) ∧ wr.frozen? ⟨ka, 516, none⟩ = false := key_rv HI.out.box HY.out
          obtain ⟨hk4, hk5⟩ := k4
          have hp := (HI.out.row.rd.piece (16 * m) 16)
          rw [byteK, Nat.mul_one, Nat.zero_add] at hp
          have hpl : ((K.drop (16 * m)).take 16).length = 16 := by rw [List.length_take, List.length_drop, ← HI.out.row.len]; omega
          have hN := roundsN_succ K m
          have hM := mkBlk_l hpl
          generalize mkBlk ((K.drop (16 * m)).take 16) = B at hN hM
          generalize (K.drop (16 * m)).take 16 = z at hp hpl hM
          obtain ⟨y0, y1, y2, y3, y4, y5, y6, y7, y8, y9, y10, y11, y12, y13, y14, y15, rfl⟩ := list16 hpl
          have c0 : wr.cell? ⟨g, 16 * m, none⟩ = some (.int .u8 (y0.toNat : Int)) := byte_rd hp (i := 0) (by simp)
          have c1 : wr.cell? ⟨g, 16 * m + 1, none⟩ = some (.int .u8 (y1.toNat : Int)) := byte_rd hp (i := 1) (by simp)
          have c2 : wr.cell? ⟨g, 16 * m + 2, none⟩ = some (.int .u8 (y2.toNat : Int)) := byte_rd hp (i := 2) (by simp)
          have c3 : wr.cell? ⟨g, 16 * m + 3, none⟩ = some (.int .u8 (y3.toNat : Int)) := byte_rd hp (i := 3) (by simp)
          have c4 : wr.cell? ⟨g, 16 * m + 4, none⟩ = some (.int .u8 (y4.toNat : Int)) := byte_rd hp (i := 4) (by simp)
          have c5 : wr.cell? ⟨g, 16 * m + 5, none⟩ = some (.int .u8 (y5.toNat : Int)) := byte_rd hp (i := 5) (by simp)
          have c6 : wr.cell? ⟨g, 16 * m + 6, none⟩ = some (.int .u8 (y6.toNat : Int)) := byte_rd hp (i := 6) (by simp)
          have c7 : wr.cell? ⟨g, 16 * m + 7, none⟩ = some (.int .u8 (y7.toNat : Int)) := byte_rd hp (i := 7) (by simp)
          have c8 : wr.cell? ⟨g, 16 * m + 8, none⟩ = some (.int .u8 (y8.toNat : Int)) := byte_rd hp (i := 8) (by simp)
          have c9 : wr.cell? ⟨g, 16 * m + 9, none⟩ = some (.int .u8 (y9.toNat : Int)) := byte_rd hp (i := 9) (by simp)
          have c10 : wr.cell? ⟨g, 16 * m + 10, none⟩ = some (.int .u8 (y10.toNat : Int)) := byte_rd hp (i := 10) (by simp)
          have c11 : wr.cell? ⟨g, 16 * m + 11, none⟩ = some (.int .u8 (y11.toNat : Int)) := byte_rd hp (i := 11) (by simp)
          have c12 : wr.cell? ⟨g, 16 * m + 12, none⟩ = some (.int .u8 (y12.toNat : Int)) := byte_rd hp (i := 12) (by simp)
          have c13 : wr.cell? ⟨g, 16 * m + 13, none⟩ = some (.int .u8 (y13.toNat : Int)) := byte_rd hp (i := 13) (by simp)
          have c14 : wr.cell? ⟨g, 16 * m + 14, none⟩ = some (.int .u8 (y14.toNat : Int)) := byte_rd hp (i := 14) (by simp)
          have c15 : wr.cell? ⟨g, 16 * m + 15, none⟩ = some (.int .u8 (y15.toNat : Int)) := byte_rd hp (i := 15) (by simp)
          have HN := Lib.hid hN
          have HMl := Lib.hid hM
          have hat : ∀ W, (Instr.arrayAt 175 (.slice (some ⟨g, 16 * m, none⟩) 16 (xc - 16 * m))).run Tryz.prog W = .ok (.pointer (some ⟨g, 16 * m, none⟩)) W := fun W => run_arrayAt W 175 _ 16 _ _ _ Tryz.underlying175 (Nat.le_refl 16)
          clear hN hM hp hpl
          have HK := Lib.hid HI
          have HFx := Lib.hid (show ∀ cs : Array Value, Fr noBlock wr ((wr.alloc (.cells cs 175)).drew) from fun cs => (((Fr.refl noBlock wr).alloc _).drew))
          have HOn := Lib.hid (show RowRd BlkR ((wr.alloc (.cells #[.int .u8 (y0.toNat : Int), .int .u8 (y1.toNat : Int), .int .u8 (y2.toNat : Int), .int .u8 (y3.toNat : Int), .int .u8 (y4.toNat : Int), .int .u8 (y5.toNat : Int), .int .u8 (y6.toNat : Int), .int .u8 (y7.toNat : Int), .int .u8 (y8.toNat : Int), .int .u8 (y9.toNat : Int), .int .u8 (y10.toNat : Int), .int .u8 (y11.toNat : Int), .int .u8 (y12.toNat : Int), .int .u8 (y13.toNat : Int), .int .u8 (y14.toNat : Int), .int .u8 (y15.toNat : Int)] 175)).drew) (some ⟨wr.heap.size, 0, none⟩) [B] from
            (RowRd.one (heap_new wr _) B (by show _ = B.l.map byteV; rw [HMl.out]; rfl)).fr0 (Fr.refl noBlock _).drew)
          have hkw := heap_lt HI.out.box
          have ha1 := fun o => (World.cell?_alloc_lt wr o ⟨ka, 516, none⟩ hkw).trans hk4
          clear HI
          go_wp2_with fail
          go_region_law
            ((refine step_app (by rfl) _ _ (by rfl) el_blk (v := .slice vo m vc) (roundsN K m) [B] (roundsN K (m + 1)) HN.out.symm w.heap.size m (m + 1) (roundsN_len _ _).symm (by rfl) (ownsRow_fr HK.out.out.rounds (HFx.out _) (fun _ _ z => z)) (by rfl) HOn.out rfl (by unfold maxLen; omega) (by omega) (Nat.le_trans HK.out.out.fr.size (HFx.out _).size) ?_; intro ao2 cap2 w6 o6 g6 a6; obtain ⟨k6, z6, HG0⟩ := HK.out.out.grow hka HY.out (HFx.out _) g6 o6; have HG := Lib.hid HG0; clear HG0))
          all_goals
            clear o6 g6 a6 k6 z6
            go_wp2_with fail
            go_roundw
            case rel => exact ⟨m + 1, ao2, cap2, hm15, by go_num, HG⟩
            case measure => simp [intOf]; omega
        · have q1 : (240 : Int) ≤ 16 * (m : Int) := by omega
          obtain rfl : m = 15 := by omega
          go_wp2_with fail
          go_end0
          refine ⟨rfl, ⟨vo, vc, HI.out.box, ?_, fun k hk => (HI.out.rounds.lt k hk).1⟩, HI.out.fr⟩
          rw [hK]
          exact RowAt.of_own HI.out.rounds (roundsN_len _ _).symm
end Go.Proofs.YthabllnhlhkejaaGreatDoor
