/-
  THE WALK of expand: the round keys of a key of 32 bytes.
-/
import Derived.Laws.Cover3
import Derived.Deep.RegionHeld3
import Derived.Deep.RegionWith
import Derived.StillTailTactics
import Derived.Deep.CutBlock
import Derived.Deep.DeepCutAuto
import Derived.Deep.CutRange
import Derived.Test.YtajhgejhdalobaaGreatDoorAeB
namespace Go.Proofs.YtajhgejhdalobaaGreatDoor
open Go.RowKit

def mixB (l : List UInt8) (i : Nat) : UInt8 :=
  l.getD i 0 ^^^ ((((l.getD (4 * (i / 4)) 0 ^^^ l.getD (4 * (i / 4) + 1) 0) ^^^ l.getD (4 * (i / 4) + 2) 0) ^^^ l.getD (4 * (i / 4) + 3) 0) ^^^ fMul (l.getD (4 * (i / 4) + i % 4) 0 ^^^ l.getD (4 * (i / 4) + (i % 4 + 1) % 4) 0) 2)
def mixF (l : List UInt8) : List UInt8 := (List.range 16).map (mixB l)
theorem mixF_len (l : List UInt8) : (mixF l).length = 16 := by simp [mixF]
theorem mixF_get (l : List UInt8) {i : Nat} (h : i < 16) : (mixF l)[i]? = some (mixB l i) := by
  unfold mixF
  rw [List.getElem?_map, List.getElem?_range h]
  rfl
theorem overL_late {n o : List UInt8} (h : n.length = o.length) {i j : Nat} (hi : i ≤ j) (hj : j < o.length) : (overL n o i)[j]? = some o[j] := by
  unfold overL
  have e : (n.take i).length = i := by rw [List.length_take]; omega
  rw [List.getElem?_append_right (by omega), e, List.getElem?_drop, show i + (j - i) = j by omega, List.getElem?_eq_getElem hj]
set_option maxRecDepth 100000 in
set_option maxHeartbeats 3200000 in
theorem mix_any {w : World} {b : Nat} {l : List UInt8} (hb : w.heap[b]? = some (bytesO l 421)) (hl : l.length = 16) : Calls Tryz.prog 370 #[.pointer (some ⟨b, 0, none⟩)] w fun e w' => e = .returned (.tuple #[]) ∧ w'.heap[b]? = some (bytesO (mixF l) 421) ∧ Fr (fun q => q = b) w w' := by
  have hblt := heap_lt hb
  have hlen : (mixF l).length = l.length := by rw [mixF_len, hl]
  have H0 := Lib.hid (show w.heap[b]? = some (bytesO (overL (mixF l) l 0) 421) by rw [overL_zero]; exact hb)
  clear hb
  go_enter Tryz.func370, Tryz.ntmps370
  go_wp2_with fail
  go_loopw [2] (fun s2 W => ∃ m : Nat, m ≤ 4 ∧ s2 = .int .i64 (4 * (m : Int)) ∧ Hid (W.heap[b]? = some (bytesO (overL (mixF l) l (4 * m)) 421) ∧ Fr (fun q => q = b) w W)) (fun s2 _ => 16 - (intOf s2).toNat)
  case atStart => exact ⟨0, by omega, rfl, Lib.hid ⟨H0.out, Fr.refl _ _⟩⟩
  case round =>
    clear H0
    obtain ⟨m, hm, rfl, HI⟩ := hrel
    by_cases hlt : m < 4
    · have q1 : 4 * (m : Int) < 16 := by omega
      have q0 : (0 : Int) ≤ 4 * (m : Int) := by omega
      have q4 : wrap64 (4 * (m : Int) + 4) = 4 * (m : Int) + 4 := by unfold wrap64; omega
      have q5 : 4 * (m : Int) ≤ 4 * (m : Int) + 4 := by omega
      have q6 : 4 * (m : Int) + 4 ≤ 16 := by omega
      have g : ∀ r, r < 4 → ∃ c, l.getD (4 * m + r) 0 = c ∧ wr.cell? ⟨b, 4 * m + r, none⟩ = some (.int .u8 (c.toNat : Int)) := by
        intro r hr
        refine ⟨_, rfl, ?_⟩
        rw [List.getD_eq_getElem?_getD, List.getElem?_eq_getElem (by omega)]
        exact (bytesO_cell HI.out.1 (overL_late hlen (by omega) (by omega))).1
      obtain ⟨x0, e0, c0⟩ := g 0 (by omega)
      obtain ⟨x1, e1, c1⟩ := g 1 (by omega)
      obtain ⟨x2, e2, c2⟩ := g 2 (by omega)
      obtain ⟨x3, e3, c3⟩ := g 3 (by omega)
      rw [Nat.add_zero] at e0 c0
      have HE := Lib.hid (And.intro e0 (And.intro e1 (And.intro e2 e3)))
      clear g e0 e1 e2 e3
      have hat : ∀ W, (Instr.arrayAt 447 (.slice (some ⟨b, 4 * m, none⟩) 4 (16 - 4 * m))).run Tryz.prog W = .ok (.pointer (some ⟨b, 4 * m, none⟩)) W := fun W => run_arrayAt W 447 _ 4 _ _ _ Tryz.underlying447 (Nat.le_refl 4)
      go_upto_region 4 with fail
      obtain ⟨xb, hxb⟩ : ∃ xb, wr.heap.size = xb := ⟨_, rfl⟩
      refine wp_at (fun W => W.heap[xb]? = some (bytesO [x0, x1, x2, x3] 447) ∧ W.heap[b]? = some (bytesO (overL (mixF l) l (4 * m + 0)) 421) ∧ Fr (fun q => q = b) w W) ⟨by rw [← hxb]; exact heap_new wr _, heap_old _ HI.out.1, HI.out.2.alloc _⟩ ?_
      have hbx : xb ≠ b := by have := heap_lt HI.out.1; omega
      have hwx : w.heap.size ≤ xb := by have := HI.out.2.size; omega
      rw [hxb]
      clear c0 c1 c2 c3 hat HI q1 q5 q6
      rintro w5 ⟨k1, k2, k3⟩
      have H5 := Lib.hid (And.intro k1 (And.intro k2 k3))
      obtain ⟨y0, -⟩ := bytesO_cell k1 (i := 0) rfl
      obtain ⟨y1, -⟩ := bytesO_cell k1 (i := 1) rfl
      obtain ⟨y2, -⟩ := bytesO_cell k1 (i := 2) rfl
      obtain ⟨y3, -⟩ := bytesO_cell k1 (i := 3) rfl
      clear k1 k2 k3
      have HAl := Lib.hid (show bits .xor .u8 (bits .xor .u8 (bits .xor .u8 (x0.toNat : Int) (x1.toNat : Int)) (x2.toNat : Int)) (x3.toNat : Int) = ((((x0 ^^^ x1) ^^^ x2) ^^^ x3).toNat : Int) by rw [u8x, u8x, u8x])
      go_upto_region 5 with fail
      rw [HAl.out]
      obtain ⟨A, hA⟩ : ∃ A, ((x0 ^^^ x1) ^^^ x2) ^^^ x3 = A := ⟨_, rfl⟩
      rw [hA]
      have HA := Lib.hid hA
      clear hA HAl y0 y1 y2 y3
      go_wp2_with fail
      rw [show 4 * m + 4 - 4 * m = 4 by omega]
      go_loopw [29] (fun s29 W => ∃ r : Nat, r ≤ 4 ∧ s29 = .int .i64 r ∧ Hid (W.heap[xb]? = some (bytesO [x0, x1, x2, x3] 447) ∧ W.heap[b]? = some (bytesO (overL (mixF l) l (4 * m + r)) 421) ∧ Fr (fun q => q = b) w W)) (fun s29 _ => 4 - (intOf s29).toNat)
      case atStart => exact ⟨0, by omega, rfl, H5⟩
      case round =>
        clear H5
        obtain ⟨r, hr, rfl, HI⟩ := hrel
        by_cases hr4 : r < 4
        · have q1 : (r : Int) < 4 := by omega
          have qr0 : (0 : Int) ≤ (r : Int) := by omega
          obtain ⟨s, hs⟩ : ∃ s, (r + 1) % 4 = s := ⟨_, rfl⟩
          have hs4 : s < 4 := by omega
          have qs : (s : Int) < 4 := by omega
          have q7 : Int.tmod ((r : Int) + 1) 4 = (s : Int) := by rw [Int.tmod_eq_emod_of_nonneg (by omega)]; omega
          have q8 : IntKind.i64.wrap ((r : Int) + 1) = (r : Int) + 1 := by rw [IntKind.wrap_i64]; omega
          have q9 : IntKind.i64.wrap (4 * (m : Int) + (r : Int)) = 4 * (m : Int) + (r : Int) := by rw [IntKind.wrap_i64]; omega
          have q10 : 4 * (m : Int) + (r : Int) < 16 := by omega
          have q11 : (0 : Int) ≤ 4 * (m : Int) + (r : Int) := by omega
          have qa : (4 * (m : Int) + (r : Int)).toNat = 4 * m + r := by omega
          have hil : 4 * m + r < l.length := by omega
          obtain ⟨p, hp⟩ : ∃ p, [x0, x1, x2, x3][r]? = some p := ⟨_, List.getElem?_eq_getElem (by simpa using hr4)⟩
          obtain ⟨q, hq⟩ : ∃ q, [x0, x1, x2, x3][s]? = some q := ⟨_, List.getElem?_eq_getElem (by simpa using hs4)⟩
          have HMx := Lib.hid (show mixB l (4 * m + r) = l[4 * m + r] ^^^ (A ^^^ fMul (p ^^^ q) 2) by
            have d1 : (4 * m + r) / 4 = m := by omega
            have d2 : (4 * m + r) % 4 = r := by omega
            have gp : ∀ t, t < 4 → ∀ c, [x0, x1, x2, x3][t]? = some c → l.getD (4 * m + t) 0 = c := by
              intro t ht c hc
              rcases (show t = 0 ∨ t = 1 ∨ t = 2 ∨ t = 3 by omega) with rfl | rfl | rfl | rfl
              · rw [Nat.add_zero, HE.out.1]; simpa using hc
              · rw [HE.out.2.1]; simpa using hc
              · rw [HE.out.2.2.1]; simpa using hc
              · rw [HE.out.2.2.2]; simpa using hc
            unfold mixB
            rw [d1, d2, hs, gp r hr4 p hp, gp s hs4 q hq, HE.out.1, HE.out.2.1, HE.out.2.2.1, HE.out.2.2.2, HA.out]
            rw [← gp r hr4 p hp, List.getD_eq_getElem?_getD, List.getElem?_eq_getElem hil]
            rfl)
          obtain ⟨d0, d3⟩ := bytesO_cell HI.out.2.1 (overL_get hlen hil)
          have d1 := (bytesO_cell HI.out.1 hp).1
          have d2 := (bytesO_cell HI.out.1 hq).1
          have HT := Lib.hid (show ∀ W, Calls Tryz.prog 394 #[.int .u8 (bits .xor .u8 (p.toNat : Int) (q.toNat : Int))] W fun e w' => e = .returned (.int .u8 ((fMul (p ^^^ q) 2).toNat : Int)) ∧ W = w' from fun W => by
            rw [u8x]
            exact atwice_any (p ^^^ q) W)
          clear hp hq
          have HR := Lib.hid (show ((wr.setCell ⟨b, 4 * m + r, none⟩ (.int .u8 (bits .xor .u8 (l[4 * m + r].toNat : Int) (bits .xor .u8 (A.toNat : Int) ((fMul (p ^^^ q) 2).toNat : Int))))).drew).heap[xb]? = some (bytesO [x0, x1, x2, x3] 447) ∧ ((wr.setCell ⟨b, 4 * m + r, none⟩ (.int .u8 (bits .xor .u8 (l[4 * m + r].toNat : Int) (bits .xor .u8 (A.toNat : Int) ((fMul (p ^^^ q) 2).toNat : Int))))).drew).heap[b]? = some (bytesO (overL (mixF l) l (4 * m + (r + 1))) 421) ∧ Fr (fun q => q = b) w ((wr.setCell ⟨b, 4 * m + r, none⟩ (.int .u8 (bits .xor .u8 (l[4 * m + r].toNat : Int) (bits .xor .u8 (A.toNat : Int) ((fMul (p ^^^ q) 2).toNat : Int))))).drew) by
            have hv : bits .xor .u8 (l[4 * m + r].toNat : Int) (bits .xor .u8 (A.toNat : Int) ((fMul (p ^^^ q) 2).toNat : Int)) = ((mixB l (4 * m + r)).toNat : Int) := by rw [u8x, u8x, HMx.out]
            rw [hv]
            have g1 := bytesO_set HI.out.2.1 (4 * m + r) (mixB l (4 * m + r))
            rw [overL_set hlen hil _ (mixF_get l (by omega))] at g1
            exact ⟨heap_set_ne (b := b) (i := 4 * m + r) HI.out.1 hbx, g1, (fr_set_at HI.out.2.2 (4 * m + r) _).drew⟩)
          go_upto_region 8 with fail
          go_region_with (first
              | (go_at_call 394; (with_reducible refine (HT.out _).mono ?_); rintro e w' ⟨rfl, rfl⟩)
              | fail "noarm")
          all_goals
            clear HT d0 d1 d2 d3
            go_wp2_with fail
            exact ⟨⟨r + 1, hr4, by go_num, HR⟩, by simp [intOf]; omega⟩
        · have q1 : (4 : Int) ≤ (r : Int) := by omega
          obtain rfl : r = 4 := by omega
          have q2 : wrap64 (4 * (m : Int) + 4) = 4 * ((m + 1 : Nat) : Int) := by unfold wrap64; omega
          clear q4
          go_wp2_with fail
          refine ⟨⟨m + 1, hlt, rfl, Lib.hid ⟨?_, HI.out.2.2⟩⟩, by simp [intOf]; omega⟩
          exact HI.out.2.1
    · have q1 : (16 : Int) ≤ 4 * (m : Int) := by omega
      obtain rfl : m = 4 := by omega
      go_wp2_with fail
      go_end0
      refine ⟨rfl, ?_, HI.out.2⟩
      have h := HI.out.1
      rw [overL_all hlen (by omega)] at h
      exact h
end Go.Proofs.YtajhgejhdalobaaGreatDoor
namespace Go.Proofs.YtajhgejhdalobaaGreatDoor

def expT (w : List UInt8) (p : UInt8) (n i : Nat) : List UInt8 :=
  if i % n = 0 then [fBox (w.getD (4 * i - 4 + 1) 0) ^^^ p, fBox (w.getD (4 * i - 4 + 2) 0), fBox (w.getD (4 * i - 4 + 3) 0), fBox (w.getD (4 * i - 4) 0)]
  else if n = 8 ∧ i % n = 4 then [fBox (w.getD (4 * i - 4) 0), fBox (w.getD (4 * i - 4 + 1) 0), fBox (w.getD (4 * i - 4 + 2) 0), fBox (w.getD (4 * i - 4 + 3) 0)]
  else [w.getD (4 * i - 4) 0, w.getD (4 * i - 4 + 1) 0, w.getD (4 * i - 4 + 2) 0, w.getD (4 * i - 4 + 3) 0]
theorem expT_len (w : List UInt8) (p : UInt8) (n i : Nat) : (expT w p n i).length = 4 := by
  unfold expT
  split
  · rfl
  · split <;> rfl
def expN (w : List UInt8) (p : UInt8) (n i : Nat) : List UInt8 := (List.range 4).map (fun j => (expT w p n i).getD j 0 ^^^ w.getD (4 * (i - n) + j) 0)
theorem expN_len (w : List UInt8) (p : UInt8) (n i : Nat) : (expN w p n i).length = 4 := by simp [expN]
def expL (key : List UInt8) (n : Nat) : Nat → List UInt8 × UInt8
  | 0 => (key, 1)
  | k + 1 => ((expL key n k).1 ++ expN (expL key n k).1 (expL key n k).2 n (n + k), if (n + k) % n = 0 then fMul (expL key n k).2 2 else (expL key n k).2)
theorem expL_len {key : List UInt8} {n : Nat} (h : key.length = 4 * n) (k : Nat) : (expL key n k).1.length = 4 * (n + k) := by
  induction k with
  | zero => exact h
  | succ k ih =>
    show ((expL key n k).1 ++ expN _ _ _ _).length = _
    rw [List.length_append, ih, expN_len]
    omega
def expW (key : List UInt8) (n : Nat) : List UInt8 := (expL key n (3 * n + 28)).1
theorem expW_len {key : List UInt8} {n : Nat} (h : key.length = 4 * n) : (expW key n).length = 16 * (n + 7) := by
  unfold expW
  rw [expL_len h]
  omega
def roundsL (w : List UInt8) : List (List UInt8) := (List.range (w.length / 16)).map (fun i => (w.drop (16 * i)).take 16)
theorem roundsL_len (w : List UInt8) : (roundsL w).length = w.length / 16 := by simp [roundsL]
theorem roundsL_each {w : List UInt8} {r : List UInt8} (h : r ∈ roundsL w) : r.length = 16 := by
  unfold roundsL at h
  obtain ⟨i, hi, rfl⟩ := List.mem_map.1 h
  have := List.mem_range.1 hi
  rw [List.length_take, List.length_drop]
  omega
def encR (R : List (List UInt8)) (last : Nat) (p : List UInt8) : Nat → List UInt8
  | 0 => layF p (R.getD 0 [])
  | i + 1 => layF (if i + 1 < last then mixF (turnF (encR R last p i)) else turnF (encR R last p i)) (R.getD (i + 1) [])
def aesE (key p : List UInt8) : List UInt8 := encR (roundsL (expW key (key.length / 4))) (key.length / 4 + 6) p (key.length / 4 + 6)
theorem encR_len {R : List (List UInt8)} {last : Nat} {p : List UInt8} (hp : p.length = 16) (hR : ∀ r ∈ R, r.length = 16) {i : Nat} (hi : i < R.length) : (encR R last p i).length = 16 := by
  induction i with
  | zero =>
    have h : (R.getD 0 []).length = 16 := by
      rw [List.getD_eq_getElem?_getD, List.getElem?_eq_getElem hi]
      exact hR _ (List.getElem_mem hi)
    show (layF p (R.getD 0 [])).length = 16
    rw [layF_len (by omega), hp]
  | succ i ih =>
    have h : (R.getD (i + 1) []).length = 16 := by
      rw [List.getD_eq_getElem?_getD, List.getElem?_eq_getElem hi]
      exact hR _ (List.getElem_mem hi)
    have hx : (if i + 1 < last then mixF (turnF (encR R last p i)) else turnF (encR R last p i)).length = 16 := by
      split
      · exact mixF_len _
      · exact turnF_len _
    show (layF _ (R.getD (i + 1) [])).length = 16
    rw [layF_len (by omega), hx]
theorem aesE_len {key p : List UInt8} (hk : key.length = 32) (hp : p.length = 16) : (aesE key p).length = 16 := by
  unfold aesE
  have h8 : key.length / 4 = 8 := by omega
  rw [h8]
  refine encR_len hp (fun r hr => roundsL_each hr) ?_
  rw [roundsL_len, expW_len (by omega)]
  omega
end Go.Proofs.YtajhgejhdalobaaGreatDoor
namespace Go.Proofs.YtajhgejhdalobaaGreatDoor
open Go.RowKit

def keyL (v : Value) (d s q : Int) (X Y : List UInt8) (rv : Value) : List Value := [v, .int .u32 d, .int .i32 s, .int .u32 q] ++ X.map byteV ++ Y.map byteV ++ [rv]
def keyO (v : Value) (d s q : Int) (X Y : List UInt8) (rv : Value) : Obj := .cells (keyL v d s q X Y rv).toArray 393 (0, 0)
def zeros256 : List UInt8 := List.replicate 256 0
section
variable {w : World} {b : Nat} {v rv : Value} {d s q : Int} {X Y : List UInt8}
theorem keyX (h : w.heap[b]? = some (keyO v d s q X Y rv)) {i : Nat} {c : UInt8} (hc : X[i]? = some c) : w.cell? ⟨b, 4 + i, none⟩ = some (.int .u8 (c.toNat : Int)) ∧ w.frozen? ⟨b, 4 + i, none⟩ = false := by
  refine ⟨?_, free_of h _⟩
  have hi := (List.getElem?_eq_some_iff.1 hc).1
  rw [cell_of h, List.getElem?_toArray]
  unfold keyL
  rw [List.append_assoc, List.append_assoc, List.getElem?_append_right (by simp), List.getElem?_append_left (by simp <;> omega)]
  simp [hc, byteV]
theorem keyY (h : w.heap[b]? = some (keyO v d s q X Y rv)) (hX : X.length = 256) {i : Nat} {c : UInt8} (hc : Y[i]? = some c) : w.cell? ⟨b, 260 + i, none⟩ = some (.int .u8 (c.toNat : Int)) ∧ w.frozen? ⟨b, 260 + i, none⟩ = false := by
  refine ⟨?_, free_of h _⟩
  have hi := (List.getElem?_eq_some_iff.1 hc).1
  rw [cell_of h, List.getElem?_toArray]
  unfold keyL
  rw [List.append_assoc, List.getElem?_append_right (by simp [hX] <;> omega), List.getElem?_append_left (by simp [hX] <;> omega)]
  have e : 260 + i - ([v, .int .u32 d, .int .i32 s, .int .u32 q] ++ X.map byteV).length = i := by simp [hX]
  rw [e]
  simp [hc, byteV]
theorem key_setX (h : w.heap[b]? = some (keyO v d s q X Y rv)) {i : Nat} (hi : i < X.length) (c : UInt8) : (w.setCell ⟨b, 4 + i, none⟩ (.int .u8 (c.toNat : Int))).heap[b]? = some (keyO v d s q (X.set i c) Y rv) := by
  rw [heap_set_eq h]
  unfold keyO keyL
  congr 2
  rw [List.setIfInBounds_toArray]
  simp only [List.append_assoc]
  rw [List.set_append_right _ _ (by simp), List.set_append_left _ _ (by simp <;> omega), List.map_set]
  congr 3
  simp [byteV]
theorem key_setY (h : w.heap[b]? = some (keyO v d s q X Y rv)) (hX : X.length = 256) {i : Nat} (hi : i < Y.length) (c : UInt8) : (w.setCell ⟨b, 260 + i, none⟩ (.int .u8 (c.toNat : Int))).heap[b]? = some (keyO v d s q X (Y.set i c) rv) := by
  rw [heap_set_eq h]
  unfold keyO keyL
  congr 2
  have e0 : ([v, Value.int .u32 d, Value.int .i32 s, Value.int .u32 q] ++ X.map byteV).length = 260 := by simp [hX]
  rw [List.setIfInBounds_toArray]
  show (((([v, Value.int .u32 d, Value.int .i32 s, Value.int .u32 q] ++ X.map byteV) ++ Y.map byteV) ++ [rv]).set (260 + i) _).toArray = _
  rw [List.append_assoc, List.set_append_right _ _ (by rw [e0]; omega), e0, Nat.add_sub_cancel_left, List.set_append_left _ _ (by simpa using hi), ← List.append_assoc, List.map_set]
theorem key_head (h : w.heap[b]? = some (keyO v d s q X Y rv)) : w.cell? ⟨b, 0, none⟩ = some v ∧ w.cell? ⟨b, 1, none⟩ = some (.int .u32 d) ∧ w.cell? ⟨b, 2, none⟩ = some (.int .i32 s) ∧ w.frozen? ⟨b, 1, none⟩ = false ∧ w.frozen? ⟨b, 2, none⟩ = false :=
  ⟨cell_of h 0, cell_of h 1, cell_of h 2, free_of h 1, free_of h 2⟩
end
def KNewP (key : List UInt8) (w : World) (e : Ending) (w' : World) : Prop := ∃ (ka : Nat) (ko : Option Addr) (kc : Nat), e = .returned (.tuple #[.pointer (some ⟨ka, 0, none⟩), .int .i64 0]) ∧ w'.heap[ka]? = some (keyO (.slice ko key.length kc) 0 0 0 zeros256 zeros256 (.slice none 0 0)) ∧ RowRd ByteR w' ko key ∧ (0 < key.length → ∀ a, ko = some a → a.block ≠ ka ∧ w.heap.size ≤ a.block) ∧ Fr noBlock w w' ∧ w.heap.size ≤ ka
set_option maxRecDepth 100000 in
set_option maxHeartbeats 3200000 in
theorem knew_any {w : World} {ao : Option Addr} {key : List UInt8} (h : RowRd ByteR w ao key) (cap : Nat) (hl : key.length = 32) : Calls Tryz.prog 284 #[.slice ao key.length cap] w (KNewP key w) := by
  have HC := Lib.hid (clone_any h cap (by omega))
  unfold CloneP at HC
  clear h
  unfold KNewP
  have q1 : ((key.length : Int) != 16) = true := by rw [hl]; rfl
  have q2 : ((key.length : Int) != 32) = false := by rw [hl]; rfl
  clear hl
  go_enter Tryz.func284, Tryz.ntmps284
  go_wp2_with fail
  refine HC.out.mono ?_
  rintro e w1 ⟨⟨xa, xn, xc⟩, rfl, h1, h2, h3, h4⟩
  unfold SV.val at h2 h4 ⊢
  dsimp only at h1 h2 h4 ⊢
  subst h1
  have H1 := Lib.hid (And.intro h2 (And.intro h3 h4))
  clear h2 h3 h4 HC
  go_wp2_with fail
  go_ret2
  refine ⟨w1.heap.size, xa, xc, rfl, heap_new w1 _, RowAt.rd (H1.out.1.fr0 ((Fr.refl noBlock w1).alloc _)), fun _ a e => ?_, H1.out.2.1.alloc _, H1.out.2.1.size⟩
  subst e
  have h5 := H1.out.1.lt a.block rfl
  exact ⟨by omega, H1.out.2.2 a.block rfl⟩
end Go.Proofs.YtajhgejhdalobaaGreatDoor
namespace Go.Proofs.YtajhgejhdalobaaGreatDoor
open Go.RowKit

def boxAll : List UInt8 := (List.range 256).map (fun i => fBox (UInt8.ofNat i))
theorem boxAll_len : boxAll.length = 256 := by simp [boxAll]
theorem boxAll_get {i : Nat} (h : i < 256) : boxAll[i]? = some (fBox (UInt8.ofNat i)) := by
  unfold boxAll
  rw [List.getElem?_map, List.getElem?_range h]
  rfl
set_option maxRecDepth 100000 in
set_option maxHeartbeats 3200000 in
theorem maps_any {w : World} {ka : Nat} {v rv : Value} {d s q : Int} (hb : w.heap[ka]? = some (keyO v d s q zeros256 zeros256 rv)) : Calls Tryz.prog 392 #[.pointer (some ⟨ka, 0, none⟩)] w fun e w' => e = .returned (.tuple #[]) ∧ (∃ Y, Y.length = 256 ∧ w'.heap[ka]? = some (keyO v d s q boxAll Y rv)) ∧ Fr (fun k => k = ka) w w' := by
  have hz : zeros256.length = 256 := by simp [zeros256]
  have hlen : boxAll.length = zeros256.length := by rw [boxAll_len, hz]
  have H0 := Lib.hid (show w.heap[ka]? = some (keyO v d s q (overL boxAll zeros256 0) zeros256 rv) by rw [overL_zero]; exact hb)
  clear hb
  go_enter Tryz.func392, Tryz.ntmps392
  go_wp2_with fail
  go_loopw [4] (fun s4 W => ∃ (i : Nat) (Y : List UInt8), i ≤ 256 ∧ s4 = .int .i64 i ∧ Y.length = 256 ∧ Hid (W.heap[ka]? = some (keyO v d s q (overL boxAll zeros256 i) Y rv) ∧ Fr (fun k => k = ka) w W)) (fun s4 _ => 256 - (intOf s4).toNat)
  case atStart => exact ⟨0, zeros256, by omega, rfl, hz, Lib.hid ⟨H0.out, Fr.refl _ _⟩⟩
  case round =>
    clear H0
    obtain ⟨i, Y, hi, rfl, hY, HI⟩ := hrel
    by_cases hlt : i < 256
    · have q1 : (i : Int) < 256 := by omega
      have q0 : (0 : Int) ≤ (i : Int) := by omega
      have q2 : (i : Int) % 256 = (i : Int) := by omega
      have q3 : IntKind.u8.wrap (i : Int) = (i : Int) := by rw [IntKind.wrap_u8']; omega
      obtain ⟨c, hc⟩ : ∃ c, UInt8.ofNat i = c := ⟨_, rfl⟩
      have hci : c.toNat = i := by rw [← hc, UInt8.toNat_ofNat']; omega
      obtain ⟨z, hzz⟩ : ∃ z, fBox c = z := ⟨_, rfl⟩
      have HBx := Lib.hid (show ∀ W, Calls Tryz.prog 405 #[.int .u8 (i : Int)] W fun e w' => e = .returned (.int .u8 (z.toNat : Int)) ∧ W = w' from fun W => by
        have h := box_any c W
        unfold byteV at h
        rw [hci, hzz] at h
        exact h)
      have hX : (overL boxAll zeros256 i).length = 256 := by rw [overL_len hlen (by omega), hz]
      have hgb : boxAll[i]? = some z := by rw [boxAll_get hlt, hc, hzz]
      obtain ⟨xa0, x1⟩ := keyX HI.out.1 (overL_get hlen (i := i) (by omega))
      have hzl : z.toNat < 256 := z.toNat_lt
      obtain ⟨ya0, y1⟩ := keyY HI.out.1 hX (i := z.toNat) (List.getElem?_eq_getElem (by omega))
      have k0 := (key_head HI.out.1).1
      have qz : (z.toNat : Int) < 256 := by omega
      have hne : ¬ (4 + i = 260 + z.toNat) := by omega
      have hne2 : ¬ (260 + z.toNat = 4 + i) := by omega
      have HX1 := key_setX HI.out.1 (i := i) (by omega) z
      rw [overL_set hlen (by omega) z hgb] at HX1
      have hX2 : (overL boxAll zeros256 (i + 1)).length = 256 := by rw [overL_len hlen (by omega), hz]
      have HX2 := Lib.hid (key_setY HX1 hX2 (i := z.toNat) (by omega) c)
      rw [hci] at HX2
      have HFa := Lib.hid (fr_set_at (fr_set_at HI.out.2 (4 + i) (.int .u8 (z.toNat : Int))) (260 + z.toNat) (.int .u8 (i : Int)))
      obtain ⟨xv, x0⟩ : ∃ xv, wr.cell? ⟨ka, 4 + i, none⟩ = some xv := ⟨_, xa0⟩
      obtain ⟨yv, y0⟩ : ∃ yv, wr.cell? ⟨ka, 260 + z.toNat, none⟩ = some yv := ⟨_, ya0⟩
      clear xa0 ya0 HX1 hgb hc hzz hci
      go_wp2_with fail
      refine (HBx.out _).mono ?_
      rintro e w' ⟨rfl, rfl⟩
      go_upto_region 4 with fail
      go_region_held3 (fun W => W.cell? ⟨ka, 0, none⟩ = some v)
        (repeat (first | exact k0 | (rw [World.cell?_drew]) | (refine (World.cell?_setCell_other _ ⟨_, _, none⟩ ⟨_, _, none⟩ _ (by simp)).trans ?_)))
        (fail "noarm")
      go_wp2_with fail
      go_roundw
      case rel => exact ⟨i + 1, Y.set z.toNat c, hlt, by go_num, by rw [List.length_set]; exact hY, Lib.hid ⟨HX2.out, HFa.out.drew⟩⟩
      case measure => simp [intOf]; omega
    · have q1 : (256 : Int) ≤ (i : Int) := by omega
      obtain rfl : i = 256 := by omega
      have h := HI.out.1
      rw [overL_all hlen (by omega)] at h
      have HE := Lib.hid h
      clear h
      go_wp2_with fail
      go_end0
      exact ⟨rfl, ⟨Y, hY, HE.out⟩, HI.out.2⟩
end Go.Proofs.YtajhgejhdalobaaGreatDoor
namespace Go.Proofs.YtajhgejhdalobaaGreatDoor
open Go.RowKit

structure Blk where
  l : List UInt8
  len : l.length = 16
def mkBlk (l : List UInt8) : Blk := ⟨(l ++ List.replicate 16 0).take 16, by simp⟩
theorem mkBlk_l {l : List UInt8} (h : l.length = 16) : (mkBlk l).l = l := by
  unfold mkBlk
  simp only
  rw [List.take_append_of_le_length (by omega), List.take_of_length_le (by omega)]
def BlkR : Rec Blk := ⟨16, fun b => b.l.map byteV, fun b => by rw [List.length_map, b.len], fun b u hu => by obtain ⟨c, _, rfl⟩ := List.mem_map.1 hu; rfl⟩
theorem blkK : BlkR.k = 16 := rfl
def roundsN (w : List UInt8) (m : Nat) : List Blk := (List.range m).map (fun i => mkBlk ((w.drop (16 * i)).take 16))
theorem roundsN_len (w : List UInt8) (m : Nat) : (roundsN w m).length = m := by simp [roundsN]
theorem roundsN_succ (w : List UInt8) (m : Nat) : roundsN w (m + 1) = roundsN w m ++ [mkBlk ((w.drop (16 * m)).take 16)] := by simp [roundsN, List.range_succ]
theorem infoBlk : (Tryz.prog.info? 421).map (fun i => (i.zero, i.size, i.bytes)) = some (some (.agg (List.replicate 16 (Value.int .u8 0)).toArray), 16, 16) := by kernel_rfl
theorem el_blk : Elem Tryz.prog 391 421 BlkR.k 16 := Elem.mk' Tryz.underlying391 infoBlk (by decide) (by simp [Value.cells, blkK])
theorem boxAll_at (c : UInt8) : boxAll[c.toNat]? = some (fBox c) := by
  rw [boxAll_get c.toNat_lt]
  simp

def ExpIn (w : World) (key : List UInt8) (i : Nat) (W : World) (xo : Option Addr) (n xc : Nat) (p : UInt8) : Prop := OwnB w W xo n xc (expL key 8 (i - 8)).1 ∧ (expL key 8 (i - 8)).2 = p ∧ n = 4 * i
theorem bytesO_range {w : World} {b : Nat} {l : List UInt8} {t : TypeId} (h : w.heap[b]? = some (bytesO l t)) {i : Nat} (hi : i < l.length) : w.cell? ⟨b, i, none⟩ = some (.int .u8 ((l.getD i 0).toNat : Int)) ∧ w.frozen? ⟨b, i, none⟩ = false := by
  refine bytesO_cell h ?_
  rw [List.getD_eq_getElem?_getD, List.getElem?_eq_getElem hi]
  rfl
theorem ownB_cell {w W : World} {g n cap : Nat} {x : List UInt8} (h : OwnB w W (some ⟨g, 0, none⟩) n cap x) {i : Nat} (hi : i < n) : W.cell? ⟨g, i, none⟩ = some (.int .u8 ((x.getD i 0).toNat : Int)) := by
  have hl := h.len
  rw [(byte_at h.row (i := i) (by omega)).1, List.getD_eq_getElem?_getD, List.getElem?_eq_getElem (by omega)]
  rfl
theorem ownB_some {w W : World} {ao : Option Addr} {n cap : Nat} {x : List UInt8} (h : OwnB w W ao n cap x) (h0 : 0 < n) : ∃ g, ao = some ⟨g, 0, none⟩ := by
  obtain ⟨g, c, e, _⟩ := h.row.block' (by rw [h.len]; exact h0)
  simp only [Value.slice.injEq] at e
  exact ⟨g, e.1⟩
theorem ownB_ne {w W : World} {ao : Option Addr} {n cap : Nat} {x l : List UInt8} {b : Nat} (h : OwnB w W ao n cap x) (hb : W.heap[b]? = some (bytesO l 447)) : (Value.slice ao n cap).ownBlock ≠ some b := fun e => by
  obtain ⟨cur, hc⟩ := h.row.kind e
  rw [hc] at hb
  have := Obj.cells.inj (Option.some.inj hb)
  exact absurd this.2.1 (by decide)
theorem list16 {l : List UInt8} (h : l.length = 16) : ∃ y0 y1 y2 y3 y4 y5 y6 y7 y8 y9 y10 y11 y12 y13 y14 y15, l = [y0, y1, y2, y3, y4, y5, y6, y7, y8, y9, y10, y11, y12, y13, y14, y15] := by
  refine ⟨l[0], l[1], l[2], l[3], l[4], l[5], l[6], l[7], l[8], l[9], l[10], l[11], l[12], l[13], l[14], l[15], List.ext_getElem (h.trans rfl) fun i h1 h2 => ?_⟩
  have hi : i < 16 := by omega
  rcases (show i = 0 ∨ i = 1 ∨ i = 2 ∨ i = 3 ∨ i = 4 ∨ i = 5 ∨ i = 6 ∨ i = 7 ∨ i = 8 ∨ i = 9 ∨ i = 10 ∨ i = 11 ∨ i = 12 ∨ i = 13 ∨ i = 14 ∨ i = 15 by omega) with rfl | rfl | rfl | rfl | rfl | rfl | rfl | rfl | rfl | rfl | rfl | rfl | rfl | rfl | rfl | rfl <;> rfl
theorem OwnB.far {w0 w w' : World} {ao : Option Addr} {n cap b : Nat} {x l : List UInt8} (h : OwnB w0 w ao n cap x) (hb : w.heap[b]? = some (bytesO l 447)) (hwb : w0.heap.size ≤ b) (hf : Fr (fun k => k = b) w w') : OwnB w0 w' ao n cap x :=
  ⟨ownsRow_fr h.own hf (fun k hk e => ownB_ne h hb (by rw [hk, e])), h.len, h.fr.trans hf (fun k hk => .inr (by rw [hk]; exact hwb))⟩
theorem exp_four {W : World} {tb : Nat} {x0 x1 x2 x3 y0 y1 y2 y3 : UInt8} (h : W.heap[tb]? = some (bytesO [x0, x1, x2, x3] 447)) :
    ((((W.setCell ⟨tb, 0, none⟩ (.int .u8 (y0.toNat : Int))).setCell ⟨tb, 1, none⟩ (.int .u8 (y1.toNat : Int))).setCell ⟨tb, 2, none⟩ (.int .u8 (y2.toNat : Int))).setCell ⟨tb, 3, none⟩ (.int .u8 (y3.toNat : Int))).heap[tb]? = some (bytesO [y0, y1, y2, y3] 447) ∧
    Fr (fun k => k = tb) W ((((W.setCell ⟨tb, 0, none⟩ (.int .u8 (y0.toNat : Int))).setCell ⟨tb, 1, none⟩ (.int .u8 (y1.toNat : Int))).setCell ⟨tb, 2, none⟩ (.int .u8 (y2.toNat : Int))).setCell ⟨tb, 3, none⟩ (.int .u8 (y3.toNat : Int))) :=
  ⟨bytesO_set (bytesO_set (bytesO_set (bytesO_set h 0 y0) 1 y1) 2 y2) 3 y3, fr_set_at (fr_set_at (fr_set_at (fr_set_at (Fr.refl _ W) 0 _) 1 _) 2 _) 3 _⟩
theorem exp_box {x0 x1 x2 x3 : UInt8} {j : Nat} (hj : j < 4) (c : UInt8) (hc : [x0, x1, x2, x3][j]? = some c) : (overL [fBox x0, fBox x1, fBox x2, fBox x3] [x0, x1, x2, x3] j).set j (fBox c) = overL [fBox x0, fBox x1, fBox x2, fBox x3] [x0, x1, x2, x3] (j + 1) := by
  refine overL_set (n := [fBox x0, fBox x1, fBox x2, fBox x3]) (o := [x0, x1, x2, x3]) rfl hj _ ?_
  rcases (show j = 0 ∨ j = 1 ∨ j = 2 ∨ j = 3 by omega) with rfl | rfl | rfl | rfl <;> simp at hc <;> subst hc <;> rfl
structure KeyX (w : World) (ka : Nat) (v : Value) (d s q : Int) (Y : List UInt8) (xo : Option Addr) (xc : Nat) (K : List UInt8) (W : World) (m : Nat) (vo : Option Addr) (vc : Nat) : Prop where
  box : W.heap[ka]? = some (keyO v d s q boxAll Y (.slice vo m vc))
  row : RowAt 5 ByteR W (.slice xo 240 xc) K
  new : ∀ k, (Value.slice xo 240 xc).ownBlock = some k → w.heap.size ≤ k
  rounds : W.ownsRow w.heap.size 421 BlkR.k (.slice vo m vc) m (BlkR.flat (roundsN K m))
  fr : Fr (fun k => k = ka) w W
theorem key_rv {w : World} {b : Nat} {v rv : Value} {d s q : Int} {Y : List UInt8} (h : w.heap[b]? = some (keyO v d s q boxAll Y rv)) (hY : Y.length = 256) : w.cell? ⟨b, 516, none⟩ = some rv ∧ w.frozen? ⟨b, 516, none⟩ = false := by
  refine ⟨?_, free_of h _⟩
  rw [cell_of h, List.getElem?_toArray]
  unfold keyL
  have e : ([v, Value.int .u32 d, Value.int .i32 s, Value.int .u32 q] ++ boxAll.map byteV ++ Y.map byteV).length = 516 := by simp [hY, boxAll_len]
  rw [List.getElem?_append_right (by rw [e]; exact Nat.le_refl _), e]
  rfl
theorem key_set_rv {w : World} {b : Nat} {v rv : Value} {d s q : Int} {Y : List UInt8} (h : w.heap[b]? = some (keyO v d s q boxAll Y rv)) (hY : Y.length = 256) (rv' : Value) : (w.setCell ⟨b, 516, none⟩ rv').heap[b]? = some (keyO v d s q boxAll Y rv') := by
  rw [heap_set_eq h]
  unfold keyO keyL
  congr 2
  have e : ([v, Value.int .u32 d, Value.int .i32 s, Value.int .u32 q] ++ boxAll.map byteV ++ Y.map byteV).length = 516 := by simp [hY, boxAll_len]
  rw [List.setIfInBounds_toArray, List.set_append_right _ _ (by rw [e]; exact Nat.le_refl _), e]
  rfl
theorem KeyX.grow {w W W1 W2 : World} {ka m cap2 vc xc : Nat} {v : Value} {d s q : Int} {Y K : List UInt8} {xo vo ao2 : Option Addr} (h : KeyX w ka v d s q Y xo xc K W m vo vc) (hka : ka < w.heap.size) (hY : Y.length = 256) (hf : Fr noBlock W W1) (g6 : W1.grownBy W2 (Value.slice vo m vc).ownBlock)
    (o6 : W2.ownsRow w.heap.size 421 BlkR.k (.slice ao2 (m + 1) cap2) (m + 1) (BlkR.flat (roundsN K (m + 1)))) : W2.cell? ⟨ka, 516, none⟩ = some (.slice vo m vc) ∧ W2.frozen? ⟨ka, 516, none⟩ = false ∧ KeyX w ka v d s q Y xo xc K (W2.setCell ⟨ka, 516, none⟩ (.slice ao2 (m + 1) cap2)) (m + 1) ao2 cap2 := by
  have hr : ∀ k, (Value.slice vo m vc).ownBlock = some k → w.heap.size ≤ k := fun k hk => (h.rounds.lt k hk).1
  have f2 : Fr (fun k => (Value.slice vo m vc).ownBlock = some k) W W2 := (hf.mono (fun _ z => z.elim)).grown g6 (fun k hk => .inl hk)
  have hb2 := f2.obj h.box (fun e => by have := hr _ e; omega)
  have hne : ∀ k, (Value.slice xo 240 xc).ownBlock = some k → ¬ (Value.slice vo m vc).ownBlock = some k := fun k hk e => by
    obtain ⟨c1, h1⟩ := h.row.kind hk
    obtain ⟨c2, h2⟩ := (RowAt.of_own h.rounds (roundsN_len _ _).symm).kind e
    rw [h1] at h2
    have := Obj.cells.inj (Option.some.inj h2)
    exact absurd this.2.1 (by decide)
  obtain ⟨k1, k2⟩ := key_rv hb2 hY
  have fs : Fr (fun k => k = ka) W2 (W2.setCell ⟨ka, 516, none⟩ (.slice ao2 (m + 1) cap2)) := fr_set_at (Fr.refl _ _) 516 _
  refine ⟨k1, k2, key_set_rv hb2 hY _, (h.row.fr f2 hne).fr fs (fun k hk e => by have := h.new k hk; omega), h.new, ownsRow_fr o6 fs (fun k hk e => by have := (o6.lt k hk).1; omega), ?_⟩
  exact (h.fr.trans f2 (fun k hk => .inr (hr k hk))).trans' fs
set_option maxRecDepth 100000 in
set_option maxHeartbeats 6400000 in
theorem expand_any {w : World} {ka : Nat} {ro : Option Addr} {rc : Nat} {d s q : Int} {key Y : List UInt8} (hb : w.heap[ka]? = some (keyO (.slice ro key.length rc) d s q boxAll Y (.slice none 0 0))) (hY : Y.length = 256) (hk : RowRd ByteR w ro key) (hl : key.length = 32) :
    Calls Tryz.prog 393 #[.pointer (some ⟨ka, 0, none⟩)] w fun e w' => e = .returned (.tuple #[]) ∧ (∃ (vo : Option Addr) (vc : Nat), w'.heap[ka]? = some (keyO (.slice ro key.length rc) d s q boxAll Y (.slice vo 15 vc)) ∧ RowAt 421 BlkR w' (.slice vo 15 vc) (roundsN (expW key 8) 15) ∧ ∀ k, (Value.slice vo 15 vc).ownBlock = some k → w.heap.size ≤ k) ∧ Fr (fun k => k = ka) w w' := by
  have HC := Lib.hid (clone_any hk rc (by omega))
  unfold CloneP at HC
  have HB := Lib.hid hb
  have hka := heap_lt hb
  have k0 := (key_head hb).1
  have HL := Lib.hid hl
  have HY := Lib.hid hY
  have qd : Int.tdiv ((key.length : Nat) : Int) 4 = 8 := by rw [hl]; rfl
  clear hb hk hl hY
  go_enter Tryz.func393, Tryz.ntmps393
  go_wp2_with fail
  refine HC.out.mono ?_
  rintro e w1 ⟨⟨xa, xn, xc⟩, rfl, h1, h2, h3, h4⟩
  unfold SV.val at h2 h4 ⊢
  dsimp only at h1 h2 h4 ⊢
  subst h1
  have H1 := Lib.hid (show ExpIn w key 8 w1 xa key.length xc 1 from ⟨OwnB.of_row h2 h4 h3, rfl, HL.out⟩)
  clear h2 h3 h4 HC k0 qd
  go_wp2_with fail
  go_loopw [3, 4, 5] (fun s3 s4 s5 W => ∃ (i n : Nat) (xo : Option Addr) (xc : Nat) (p : UInt8), 8 ≤ i ∧ i ≤ 60 ∧ s3 = .slice xo n xc ∧ s4 = .int .u8 (p.toNat : Int) ∧ s5 = .int .i64 (i : Int) ∧ Hid (ExpIn w key i W xo n xc p)) (fun _ _ s5 _ => 60 - (intOf s5).toNat)
  case atStart => exact ⟨8, _, xa, xc, 1, by omega, by omega, rfl, rfl, rfl, H1⟩
  case round =>
    clear H1
    obtain ⟨i, n, xo, xc, p, h8, h60, rfl, rfl, rfl, HI⟩ := hrel
    by_cases hlt : i < 60
    · have q1 : (i : Int) < 60 := by omega
      have hn := HI.out.2.2
      have hcap := HI.out.1.cap'
      obtain ⟨g, rfl⟩ := ownB_some HI.out.1 (by omega)
      subst hn
      have q2 : wrap64 (4 * (i : Int)) = 4 * (i : Int) := by unfold wrap64; omega
      have q3 : wrap64 (4 * (i : Int) - 4) = 4 * (i : Int) - 4 := by unfold wrap64; omega
      have q4 : 4 * (i : Int) - 4 ≤ 4 * (i : Int) := by omega
      have q5 : 4 * (i : Int) ≤ (xc : Int) := by omega
      have q7 : ¬ xc = 4 * i - 4 := by omega
      have q8 : (0 : Int) ≤ 4 * (i : Int) - 4 := by omega
      have q9 : (0 : Int) ≤ 4 * (i : Int) := by omega
      obtain ⟨x0, e0⟩ : ∃ x0, (expL key 8 (i - 8)).1.getD (4 * i - 4) 0 = x0 := ⟨_, rfl⟩
      obtain ⟨x1, e1⟩ : ∃ x1, (expL key 8 (i - 8)).1.getD (4 * i - 4 + 1) 0 = x1 := ⟨_, rfl⟩
      obtain ⟨x2, e2⟩ : ∃ x2, (expL key 8 (i - 8)).1.getD (4 * i - 4 + 2) 0 = x2 := ⟨_, rfl⟩
      obtain ⟨x3, e3⟩ : ∃ x3, (expL key 8 (i - 8)).1.getD (4 * i - 4 + 3) 0 = x3 := ⟨_, rfl⟩
      have c0 := ownB_cell HI.out.1 (i := 4 * i - 4) (by omega)
      have c1 := ownB_cell HI.out.1 (i := 4 * i - 4 + 1) (by omega)
      have c2 := ownB_cell HI.out.1 (i := 4 * i - 4 + 2) (by omega)
      have c3 := ownB_cell HI.out.1 (i := 4 * i - 4 + 3) (by omega)
      rw [e0] at c0
      rw [e1] at c1
      rw [e2] at c2
      rw [e3] at c3
      have HE := Lib.hid (And.intro e0 (And.intro e1 (And.intro e2 e3)))
      have HM := Lib.hid hcap
      have hat : ∀ W, (Instr.arrayAt 447 (.slice (some ⟨g, 4 * i - 4, none⟩) (4 * i - (4 * i - 4)) (xc - (4 * i - 4)))).run Tryz.prog W = .ok (.pointer (some ⟨g, 4 * i - 4, none⟩)) W := fun W => run_arrayAt W 447 _ 4 _ _ _ Tryz.underlying447 (by omega)
      clear e0 e1 e2 e3 hcap
      go_upto_block 2 with fail
      obtain ⟨tb, htb⟩ : ∃ tb, wr.heap.size = tb := ⟨_, rfl⟩
      obtain ⟨L, hL⟩ : ∃ L, (expL key 8 (i - 8)).1 = L := ⟨_, rfl⟩
      have HS := Lib.hid (show (expL key 8 (i + 1 - 8)).1 = L ++ expN L p 8 i ∧ (expL key 8 (i + 1 - 8)).2 = if i % 8 = 0 then fMul p 2 else p by
        rw [show i + 1 - 8 = (i - 8) + 1 by omega]
        show (expL key 8 (i - 8)).1 ++ expN (expL key 8 (i - 8)).1 (expL key 8 (i - 8)).2 8 (8 + (i - 8)) = _ ∧ (if (8 + (i - 8)) % 8 = 0 then fMul (expL key 8 (i - 8)).2 2 else (expL key 8 (i - 8)).2) = _
        rw [show 8 + (i - 8) = i by omega, hL, HI.out.2.1]
        exact ⟨rfl, rfl⟩)
      rw [hL] at HE
      refine wp_at (fun W => W.heap[tb]? = some (bytesO [x0, x1, x2, x3] 447) ∧ OwnB w W (some ⟨g, 0, none⟩) (4 * i) xc L) ⟨by rw [← htb]; exact heap_new wr _, by rw [← hL]; exact HI.out.1.to ((Fr.refl noBlock wr).alloc _)⟩ ?_
      have hwt : w.heap.size ≤ tb := by rw [← htb]; exact HI.out.1.fr.size
      rw [htb]
      clear c0 c1 c2 c3 hat HI q2 q3 q4 q5 q7 q8 q9 htb hL
      rintro w5 ⟨k1, k2⟩
      have H5 := Lib.hid (And.intro k1 k2)
      clear k1 k2
      obtain ⟨r, hr⟩ : ∃ r, i % 8 = r := ⟨_, rfl⟩
      have q3 : Int.tmod (i : Int) 8 = (r : Int) := by rw [Int.tmod_eq_emod_of_nonneg (by omega)]; omega
      rw [hr] at HS
      go_cut [4, 7] from 22 to 118 (fun s4 s7 W => ∃ p2 : UInt8, s4 = .int .u8 (p2.toNat : Int) ∧ Hid (p2 = (if r = 0 then fMul p 2 else p) ∧ W.heap[tb]? = some (bytesO (expT L p 8 i) 447) ∧ OwnB w W (some ⟨g, 0, none⟩) (4 * i) xc L))
      case first =>
        have hk5 := H5.out.2.fr.obj HB.out (fun z => z)
        obtain ⟨y0, z0⟩ := bytesO_cell H5.out.1 (i := 0) rfl
        obtain ⟨y1, z1⟩ := bytesO_cell H5.out.1 (i := 1) rfl
        obtain ⟨y2, z2⟩ := bytesO_cell H5.out.1 (i := 2) rfl
        obtain ⟨y3, z3⟩ := bytesO_cell H5.out.1 (i := 3) rfl
        have b0 := (keyX hk5 (boxAll_at x0)).1
        have b1 := (keyX hk5 (boxAll_at x1)).1
        have b2 := (keyX hk5 (boxAll_at x2)).1
        have b3 := (keyX hk5 (boxAll_at x3)).1
        have l0 : ((x0.toNat : Nat) : Int) < 256 := by have := x0.toNat_lt; omega
        have l1 : ((x1.toNat : Nat) : Int) < 256 := by have := x1.toNat_lt; omega
        have l2 : ((x2.toNat : Nat) : Int) < 256 := by have := x2.toNat_lt; omega
        have l3 : ((x3.toNat : Nat) : Int) < 256 := by have := x3.toNat_lt; omega
        by_cases hr0 : r = 0
        · have qr : ((r : Int) == 0) = true := by rw [hr0]; rfl
          have HT : Hid (expT L p 8 i = [fBox x1 ^^^ p, fBox x2, fBox x3, fBox x0]) := Lib.hid (by
            unfold expT
            rw [if_pos (by omega), HE.out.1, HE.out.2.1, HE.out.2.2.1, HE.out.2.2.2])
          have HFm := Lib.hid (show ∀ W, Calls Tryz.prog 406 #[.int .u8 (p.toNat : Int), .int .u8 2] W fun e w' => e = .returned (.int .u8 ((fMul p 2).toNat : Int)) ∧ W = w' from fun W => mul_any p 2 W)
          obtain ⟨g1, g2⟩ := exp_four (y0 := fBox x1 ^^^ p) (y1 := fBox x2) (y2 := fBox x3) (y3 := fBox x0) H5.out.1
          have HG := Lib.hid (And.intro ((Fr.refl noBlock _).drew.obj g1 (fun z => z)) (((H5.out.2.far H5.out.1 hwt g2)).to (Fr.refl noBlock _).drew))
          rw [← u8x] at HG
          have HQ := Lib.hid (show fMul p 2 = (if r = 0 then fMul p 2 else p) from (if_pos hr0).symm)
          clear hk5 g1 g2
          go_upto_region 8 with fail
          go_still_tail 31, (by kernel_rfl)
          change wpList _ _ _ _ _ w5.drew
          go_wp2_with fail
          refine (HFm.out _).mono ?_
          rintro e w6 ⟨rfl, rfl⟩
          go_wp2_with fail
          go_meet
          exact ⟨fMul p 2, rfl, Lib.hid ⟨HQ.out, by rw [HT.out]; exact HG.out.1, HG.out.2⟩⟩
        · have qr : ((r : Int) == 0) = false := by simp; omega
          have HQ := Lib.hid (show p = (if r = 0 then fMul p 2 else p) from (if_neg hr0).symm)
          clear y0 y1 y2 y3 z0 z1 z2 z3
          by_cases hr4 : r = 4
          · have qr4 : ((r : Int) == 4) = true := by rw [hr4]; rfl
            have HT : Hid (expT L p 8 i = [fBox x0, fBox x1, fBox x2, fBox x3]) := Lib.hid (by
              unfold expT
              rw [if_neg (by omega), if_pos (by omega), HE.out.1, HE.out.2.1, HE.out.2.2.1, HE.out.2.2.2])
            clear hk5 b0 b1 b2 b3 l0 l1 l2 l3
            have H6 := Lib.hid (show w5.heap[tb]? = some (bytesO (overL [fBox x0, fBox x1, fBox x2, fBox x3] [x0, x1, x2, x3] 0) 447) ∧ OwnB w w5 (some ⟨g, 0, none⟩) (4 * i) xc L from H5.out)
            go_wp2_with fail
            go_loopw [85, 7] (fun s85 _ W => ∃ j : Nat, j ≤ 4 ∧ s85 = .int .i64 j ∧ Hid (W.heap[tb]? = some (bytesO (overL [fBox x0, fBox x1, fBox x2, fBox x3] [x0, x1, x2, x3] j) 447) ∧ OwnB w W (some ⟨g, 0, none⟩) (4 * i) xc L)) (fun s85 _ _ => 4 - (intOf s85).toNat)
            case atStart => exact ⟨0, by omega, rfl, H6⟩
            case round =>
              clear H6
              obtain ⟨j, hj, rfl, HI⟩ := hrel
              by_cases hj4 : j < 4
              · have q1 : (j : Int) < 4 := by omega
                have q0 : (0 : Int) ≤ (j : Int) := by omega
                obtain ⟨c, hc⟩ : ∃ c, [x0, x1, x2, x3][j]? = some c := ⟨_, List.getElem?_eq_getElem (by simpa using hj4)⟩
                have hcc : (overL [fBox x0, fBox x1, fBox x2, fBox x3] [x0, x1, x2, x3] j)[j]? = some c := by rw [overL_get (n := [fBox x0, fBox x1, fBox x2, fBox x3]) (i := j) (o := [x0, x1, x2, x3]) rfl hj4, ← hc, List.getElem?_eq_getElem]
                obtain ⟨y0, z0⟩ := bytesO_cell HI.out.1 hcc
                have b0 := (keyX (HI.out.2.fr.obj HB.out (fun z => z)) (boxAll_at c)).1
                have l0 : ((c.toNat : Nat) : Int) < 256 := by have := c.toNat_lt; omega
                have g1 := bytesO_set HI.out.1 j (fBox c)
                rw [exp_box hj4 c hc] at g1
                have HG := Lib.hid (And.intro ((Fr.refl noBlock _).drew.obj g1 (fun z => z)) ((HI.out.2.far HI.out.1 hwt (fr_set_at (Fr.refl _ wr) j (.int .u8 ((fBox c).toNat : Int)))).to (Fr.refl noBlock _).drew))
                clear hc hcc g1
                go_wp2_with fail
                go_still_tail 10, (by kernel_rfl)
                change wpList _ _ _ _ _ wr.drew
                go_wp2_with fail
                go_roundw
                case rel => exact ⟨j + 1, hj4, by go_num, HG⟩
                case measure => simp [intOf]; omega
              · have q1 : (4 : Int) ≤ (j : Int) := by omega
                obtain rfl : j = 4 := by omega
                go_wp2_with fail
                go_meet
                exact ⟨p, rfl, Lib.hid ⟨HQ.out, by rw [HT.out]; exact HI.out.1, HI.out.2⟩⟩
          · have qr4 : ((r : Int) == 4) = false := by simp; omega
            have HT : Hid (expT L p 8 i = [x0, x1, x2, x3]) := Lib.hid (by
              unfold expT
              rw [if_neg (by omega), if_neg (by omega), HE.out.1, HE.out.2.1, HE.out.2.2.1, HE.out.2.2.2])
            clear hk5 b0 b1 b2 b3 l0 l1 l2 l3
            go_wp2_with fail
            go_meet
            exact ⟨p, rfl, Lib.hid ⟨HQ.out, by rw [HT.out]; exact H5.out.1, H5.out.2⟩⟩
      obtain ⟨p2, rfl, HI⟩ := hcut
      clear H5 q3 hr
      obtain ⟨T, hT⟩ : ∃ T, expT L p 8 i = T := ⟨_, rfl⟩
      have hTl : T.length = 4 := by rw [← hT]; exact expT_len _ _ _ _
      have HS2 := Lib.hid (show (expL key 8 (i + 1 - 8)).1 = L ++ (List.range 4).map (fun j => T.getD j 0 ^^^ L.getD (4 * (i - 8) + j) 0) ∧ (expL key 8 (i + 1 - 8)).2 = p2 by
        rw [HS.out.1, HS.out.2, HI.out.1]
        unfold expN
        rw [hT]
        exact ⟨rfl, rfl⟩)
      rw [hT] at HI
      have hLl := HI.out.2.2.len
      have HE2 := Lib.hid (show ∀ j, j ≤ 4 → (L ++ ((List.range 4).map (fun j => T.getD j 0 ^^^ L.getD (4 * (i - 8) + j) 0)).take j).length = 4 * i + j from fun j hj => by rw [List.length_append, List.length_take, List.length_map, List.length_range, hLl]; omega)
      obtain ⟨N, hN⟩ : ∃ N, (List.range 4).map (fun j => T.getD j 0 ^^^ L.getD (4 * (i - 8) + j) 0) = N := ⟨_, rfl⟩
      have HN := Lib.hid (show ∀ j, j < 4 → N.take (j + 1) = N.take j ++ [T.getD j 0 ^^^ L.getD (4 * (i - 8) + j) 0] from fun j hj => by
        have hl : j < N.length := by rw [← hN, List.length_map, List.length_range]; exact hj
        rw [List.take_succ_eq_append_getElem hl]
        congr 2
        subst hN
        rw [List.getElem_map, List.getElem_range])
      have HNl := Lib.hid (show N.length = 4 by rw [← hN, List.length_map, List.length_range])
      rw [hN] at HS2 HE2
      have H6 := Lib.hid (show wc.heap[tb]? = some (bytesO T 447) ∧ OwnB w wc (some ⟨g, 0, none⟩) (4 * i + 0) xc (L ++ N.take 0) by
        rw [List.take_zero, List.append_nil]
        exact HI.out.2)
      clear hN hT HI HS HE HM
      go_wp2_with fail
      go_loopw [99, 3, 8] (fun s99 s3 _ W => ∃ (j n : Nat) (xo : Option Addr) (xc : Nat), j ≤ 4 ∧ n = 4 * i + j ∧ s99 = .int .i64 j ∧ s3 = .slice xo n xc ∧ Hid (W.heap[tb]? = some (bytesO T 447) ∧ OwnB w W xo n xc (L ++ N.take j))) (fun s99 _ _ _ => 4 - (intOf s99).toNat)
      case atStart => exact ⟨0, 4 * i, _, xc, by omega, rfl, rfl, rfl, H6⟩
      case round =>
        clear H6
        obtain ⟨j, n, xo, xc, hj, hn, rfl, rfl, HI⟩ := hrel
        by_cases hj4 : j < 4
        · have q1 : (j : Int) < 4 := by omega
          have q0 : (0 : Int) ≤ (j : Int) := by omega
          obtain ⟨g, rfl⟩ := ownB_some HI.out.2 (by omega)
          have qa : IntKind.i64.wrap ((i : Int) - 8) = (i : Int) - 8 := by rw [IntKind.wrap_i64]; omega
          have qb : IntKind.i64.wrap (4 * ((i : Int) - 8)) = 4 * ((i : Int) - 8) := by rw [IntKind.wrap_i64]; omega
          obtain ⟨m, hm⟩ : ∃ m, 4 * (i - 8) + j = m := ⟨_, rfl⟩
          have qc : IntKind.i64.wrap (4 * ((i : Int) - 8) + (j : Int)) = (m : Int) := by rw [IntKind.wrap_i64]; omega
          have qd : (m : Int) < (n : Int) := by omega
          have qe : (0 : Int) ≤ (m : Int) := by omega
          obtain ⟨y0, -⟩ := bytesO_range HI.out.1 (i := j) (by omega)
          have y1 := ownB_cell HI.out.2 (i := m) (by omega)
          have hLm : (L ++ N.take j).getD m 0 = L.getD m 0 := by
            rw [List.getD_eq_getElem?_getD, List.getElem?_append_left (by omega), ← List.getD_eq_getElem?_getD]
          rw [hLm] at y1
          have HV := Lib.hid (HN.out j hj4)
          rw [hm] at HV
          obtain ⟨a, ha⟩ : ∃ a, T.getD j 0 = a := ⟨_, rfl⟩
          obtain ⟨b, hb⟩ : ∃ b, L.getD m 0 = b := ⟨_, rfl⟩
          rw [ha] at y0 HV
          rw [hb] at y1 HV
          have HX := Lib.hid (u8x a b)
          have HNn := Lib.hid hn
          clear ha hb hLm hn hm
          go_wp2_with fail
          have HFx := Lib.hid (show ∀ cs : Array Value, Fr noBlock wr ((wr.alloc (.cells cs 5)).drew) from fun cs => (((Fr.refl noBlock wr).alloc _).drew))
          have HLn := Lib.hid (show (L ++ N.take (j + 1)).length = n + 1 by rw [List.length_append, List.length_take, HNl.out, hLl, HNn.out]; omega)
          have hn240 : n < 300 := by have := HNn.out; omega
          have HOn := Lib.hid (show RowRd ByteR ((wr.alloc (.cells #[.int .u8 (bits .xor .u8 (a.toNat : Int) (b.toNat : Int))] 5)).drew) (some ⟨wr.heap.size, 0, none⟩) [a ^^^ b] from
            (RowRd.one (heap_new wr _) (a ^^^ b) (by show [Value.int .u8 (bits .xor .u8 (a.toNat : Int) (b.toNat : Int))] = _; rw [HX.out]; rfl)).fr0 (Fr.refl noBlock _).drew)
          go_region_law
            ((refine step_app (by rfl) _ _ (by rfl) el_bytes (v := .slice (some ⟨g, 0, none⟩) n xc) (L ++ N.take j) [a ^^^ b] (L ++ N.take (j + 1)) (by rw [HV.out, List.append_assoc]) w.heap.size n (n + 1) HLn.out.symm (by rfl) (HI.out.2.own' (HFx.out _)) (by rfl) HOn.out rfl (by unfold maxLen; omega) (by omega) (HI.out.2.base (HFx.out _)) ?_; intro ao2 cap2 w6 o6 g6 a6))
          all_goals
            have HG := Lib.hid (show w6.heap[tb]? = some (bytesO T 447) ∧ OwnB w w6 ao2 (n + 1) cap2 (L ++ N.take (j + 1)) from
              ⟨((Fr.refl (fun k => (Value.slice (some ⟨g, 0, none⟩) n xc).ownBlock = some k) _).grown g6 (fun k hk => .inl hk)).obj ((HFx.out _).obj HI.out.1 (fun z => z)) (fun e => ownB_ne HI.out.2 HI.out.1 e), HI.out.2.grown (HFx.out _) o6 HLn.out g6⟩)
            clear o6 g6 a6
            go_wp2_with fail
            go_roundw
            case rel => exact ⟨j + 1, n + 1, ao2, cap2, hj4, by have := HNn.out; omega, by go_num, rfl, HG⟩
            case measure => simp [intOf]; omega
        · have q1 : (4 : Int) ≤ (j : Int) := by omega
          obtain rfl : j = 4 := by omega
          have HE := Lib.hid (show ExpIn w key (i + 1) wr xo n xc p2 by
            refine ⟨?_, HS2.out.2, by omega⟩
            rw [HS2.out.1]
            have h := HI.out.2
            rw [List.take_of_length_le (by rw [HNl.out]; exact Nat.le_refl _)] at h
            exact h)
          go_wp2_with fail
          go_roundw
          case rel => exact ⟨i + 1, n, xo, xc, p2, by omega, hlt, rfl, rfl, by go_num, HE⟩
          case measure => simp [intOf]; omega
    · have q1 : (60 : Int) ≤ (i : Int) := by omega
      obtain rfl : i = 60 := by omega
      have hn := HI.out.2.2
      obtain rfl : n = 240 := by omega
      obtain ⟨K, hK⟩ : ∃ K, expW key 8 = K := ⟨_, rfl⟩
      have HW := Lib.hid (show OwnB w wr xo 240 xc K ∧ wr.heap[ka]? = some (keyO (.slice ro key.length rc) d s q boxAll Y (.slice none 0 0)) by
        rw [← hK]
        exact ⟨HI.out.1, HI.out.1.fr.obj HB.out (fun z => z)⟩)
      clear HI HB
      go_wp2_with fail
      go_loopw [9] (fun s9 W => ∃ (m : Nat) (vo : Option Addr) (vc : Nat), m ≤ 15 ∧ s9 = .int .i64 (16 * (m : Int)) ∧ Hid (KeyX w ka (.slice ro key.length rc) d s q Y xo xc K W m vo vc)) (fun s9 _ => 240 - (intOf s9).toNat)
      case atStart => exact ⟨0, none, 0, by omega, rfl, Lib.hid ⟨HW.out.2, HW.out.1.row, HW.out.1.new, World.ownsRow_nil _ _ _ _, HW.out.1.fr.mono (fun _ z => z.elim)⟩⟩
      case round =>
        clear HW
        obtain ⟨m, vo, vc, hm, rfl, HI⟩ := hrel
        by_cases hm15 : m < 15
        · have q1 : 16 * (m : Int) < 240 := by omega
          have q0 : (0 : Int) ≤ 16 * (m : Int) := by omega
          obtain ⟨g, xc', e, hxc, -⟩ := HI.out.row.block' (by rw [← HI.out.row.len]; omega)
          rw [← HI.out.row.len] at hxc
          simp only [Value.slice.injEq] at e
          obtain ⟨rfl, -, rfl⟩ := e
          have q2 : IntKind.i64.wrap (16 * (m : Int) + 16) = 16 * (m : Int) + 16 := by rw [IntKind.wrap_i64]; omega
          have q2' : wrap64 (16 * (m : Int) + 16) = 16 * (m : Int) + 16 := by unfold wrap64; omega
          have q3 : 16 * (m : Int) ≤ 16 * (m : Int) + 16 := by omega
          have q4 : 16 * (m : Int) + 16 ≤ (xc : Int) := by omega
          have q5 : ¬ xc = 16 * m := by omega
          have qn1 : (16 * (m : Int)).toNat = 16 * m := by omega
          have qn2 : (16 * (m : Int) + 16).toNat = 16 * m + 16 := by omega
          have qn3 : 16 * m + 16 - 16 * m = 16 := by omega
          have k4 : wr.cell? ⟨ka, 516, none⟩ = some (.slice vo m vc) ∧ wr.frozen? ⟨ka, 516, none⟩ = false := key_rv HI.out.box HY.out
          obtain ⟨hk4, hk5⟩ := k4
          have hp := (HI.out.row.rd.piece (16 * m) 16)
          rw [byteK, Nat.mul_one, Nat.zero_add] at hp
          have hpl : ((K.drop (16 * m)).take 16).length = 16 := by rw [List.length_take, List.length_drop, ← HI.out.row.len]; omega
          have hN := roundsN_succ K m
          have hM := mkBlk_l hpl
          generalize mkBlk ((K.drop (16 * m)).take 16) = B at hN hM
          generalize (K.drop (16 * m)).take 16 = z at hp hpl hM
          obtain ⟨y0, y1, y2, y3, y4, y5, y6, y7, y8, y9, y10, y11, y12, y13, y14, y15, rfl⟩ := list16 hpl
          have c0 : wr.cell? ⟨g, 16 * m, none⟩ = some (.int .u8 (y0.toNat : Int)) := byte_rd hp (i := 0) (by simp)
          have c1 : wr.cell? ⟨g, 16 * m + 1, none⟩ = some (.int .u8 (y1.toNat : Int)) := byte_rd hp (i := 1) (by simp)
          have c2 : wr.cell? ⟨g, 16 * m + 2, none⟩ = some (.int .u8 (y2.toNat : Int)) := byte_rd hp (i := 2) (by simp)
          have c3 : wr.cell? ⟨g, 16 * m + 3, none⟩ = some (.int .u8 (y3.toNat : Int)) := byte_rd hp (i := 3) (by simp)
          have c4 : wr.cell? ⟨g, 16 * m + 4, none⟩ = some (.int .u8 (y4.toNat : Int)) := byte_rd hp (i := 4) (by simp)
          have c5 : wr.cell? ⟨g, 16 * m + 5, none⟩ = some (.int .u8 (y5.toNat : Int)) := byte_rd hp (i := 5) (by simp)
          have c6 : wr.cell? ⟨g, 16 * m + 6, none⟩ = some (.int .u8 (y6.toNat : Int)) := byte_rd hp (i := 6) (by simp)
          have c7 : wr.cell? ⟨g, 16 * m + 7, none⟩ = some (.int .u8 (y7.toNat : Int)) := byte_rd hp (i := 7) (by simp)
          have c8 : wr.cell? ⟨g, 16 * m + 8, none⟩ = some (.int .u8 (y8.toNat : Int)) := byte_rd hp (i := 8) (by simp)
          have c9 : wr.cell? ⟨g, 16 * m + 9, none⟩ = some (.int .u8 (y9.toNat : Int)) := byte_rd hp (i := 9) (by simp)
          have c10 : wr.cell? ⟨g, 16 * m + 10, none⟩ = some (.int .u8 (y10.toNat : Int)) := byte_rd hp (i := 10) (by simp)
          have c11 : wr.cell? ⟨g, 16 * m + 11, none⟩ = some (.int .u8 (y11.toNat : Int)) := byte_rd hp (i := 11) (by simp)
          have c12 : wr.cell? ⟨g, 16 * m + 12, none⟩ = some (.int .u8 (y12.toNat : Int)) := byte_rd hp (i := 12) (by simp)
          have c13 : wr.cell? ⟨g, 16 * m + 13, none⟩ = some (.int .u8 (y13.toNat : Int)) := byte_rd hp (i := 13) (by simp)
          have c14 : wr.cell? ⟨g, 16 * m + 14, none⟩ = some (.int .u8 (y14.toNat : Int)) := byte_rd hp (i := 14) (by simp)
          have c15 : wr.cell? ⟨g, 16 * m + 15, none⟩ = some (.int .u8 (y15.toNat : Int)) := byte_rd hp (i := 15) (by simp)
          have HN := Lib.hid hN
          have HMl := Lib.hid hM
          have hat : ∀ W, (Instr.arrayAt 421 (.slice (some ⟨g, 16 * m, none⟩) 16 (xc - 16 * m))).run Tryz.prog W = .ok (.pointer (some ⟨g, 16 * m, none⟩)) W := fun W => run_arrayAt W 421 _ 16 _ _ _ Tryz.underlying421 (Nat.le_refl 16)
          clear hN hM hp hpl
          have HK := Lib.hid HI
          have HFx := Lib.hid (show ∀ cs : Array Value, Fr noBlock wr ((wr.alloc (.cells cs 421)).drew) from fun cs => (((Fr.refl noBlock wr).alloc _).drew))
          have HOn := Lib.hid (show RowRd BlkR ((wr.alloc (.cells #[.int .u8 (y0.toNat : Int), .int .u8 (y1.toNat : Int), .int .u8 (y2.toNat : Int), .int .u8 (y3.toNat : Int), .int .u8 (y4.toNat : Int), .int .u8 (y5.toNat : Int), .int .u8 (y6.toNat : Int), .int .u8 (y7.toNat : Int), .int .u8 (y8.toNat : Int), .int .u8 (y9.toNat : Int), .int .u8 (y10.toNat : Int), .int .u8 (y11.toNat : Int), .int .u8 (y12.toNat : Int), .int .u8 (y13.toNat : Int), .int .u8 (y14.toNat : Int), .int .u8 (y15.toNat : Int)] 421)).drew) (some ⟨wr.heap.size, 0, none⟩) [B] from
            (RowRd.one (heap_new wr _) B (by show _ = B.l.map byteV; rw [HMl.out]; rfl)).fr0 (Fr.refl noBlock _).drew)
          have hkw := heap_lt HI.out.box
          have ha1 := fun o => (World.cell?_alloc_lt wr o ⟨ka, 516, none⟩ hkw).trans hk4
          clear HI
          go_wp2_with fail
          go_region_law
            ((refine step_app (by rfl) _ _ (by rfl) el_blk (v := .slice vo m vc) (roundsN K m) [B] (roundsN K (m + 1)) HN.out.symm w.heap.size m (m + 1) (roundsN_len _ _).symm (by rfl) (ownsRow_fr HK.out.out.rounds (HFx.out _) (fun _ _ z => z)) (by rfl) HOn.out rfl (by unfold maxLen; omega) (by omega) (Nat.le_trans HK.out.out.fr.size (HFx.out _).size) ?_; intro ao2 cap2 w6 o6 g6 a6; obtain ⟨k6, z6, HG0⟩ := HK.out.out.grow hka HY.out (HFx.out _) g6 o6; have HG := Lib.hid HG0; clear HG0))
          all_goals
            clear o6 g6 a6 k6 z6
            go_wp2_with fail
            go_roundw
            case rel => exact ⟨m + 1, ao2, cap2, hm15, by go_num, HG⟩
            case measure => simp [intOf]; omega
        · have q1 : (240 : Int) ≤ 16 * (m : Int) := by omega
          obtain rfl : m = 15 := by omega
          go_wp2_with fail
          go_end0
          refine ⟨rfl, ⟨vo, vc, HI.out.box, ?_, fun k hk => (HI.out.rounds.lt k hk).1⟩, HI.out.fr⟩
          rw [hK]
          exact RowAt.of_own HI.out.rounds (roundsN_len _ _).symm
end Go.Proofs.YtajhgejhdalobaaGreatDoor
