/-
  THE WALK of maps: the byte maps of a key.
-/
import Derived.Laws.Cover3
import Derived.Deep.RegionHeld3
import Derived.Deep.RegionWith
import Derived.Test.YthabllnhlhkejaaGreatDoorAeB
namespace Go.Proofs.YthabllnhlhkejaaGreatDoor
open Go.RowKit

def mixB (l : List UInt8) (i : Nat) : UInt8 :=
  l.getD i 0 ^^^ ((((l.getD (4 * (i / 4)) 0 ^^^ l.getD (4 * (i / 4) + 1) 0) ^^^ l.getD (4 * (i / 4) + 2) 0) ^^^ l.getD (4 * (i / 4) + 3) 0) ^^^ fMul (l.getD (4 * (i / 4) + i % 4) 0 ^^^ l.getD (4 * (i / 4) + (i % 4 + 1) % 4) 0) 2)
def mixF (l : List UInt8) : List UInt8 := (List.range 16).map (mixB l)
theorem mixF_len (l : List UInt8) : (mixF l).length = 16 := by simp [mixF]
theorem mixF_get (l : List UInt8) {i : Nat} (h : i < 16) : (mixF l)[i]? = some (mixB l i) := by
  unfold mixF
  rw [List.getElem?_map, List.getElem?_range h]
  rfl
def selN (W : World) (p : Addr) : Int := match W.cell? p with | some (.int .u8 n) => n | _ => 0
theorem selN_of {W : World} {p : Addr} {n : Int} (h : W.cell? p = some (.int .u8 n)) : selN W p = n := by unfold selN; rw [h]
theorem sel_cell {W : World} {p : Addr} {n : Int} (h : W.cell? p = some (.int .u8 n)) : W.cell? p = some (.int .u8 (selN W p)) := by rw [selN_of h]; exact h
theorem keep_x {W : World} {b i xb r s : Nat} {v P Q : Value} (h2 : W.cell? ⟨xb, r, none⟩ = some P) (h3 : W.cell? ⟨xb, s, none⟩ = some Q) (hne : xb ≠ b) :
    ((W.setCell ⟨b, i, none⟩ v).drew).cell? ⟨xb, r, none⟩ = some P ∧ ((W.setCell ⟨b, i, none⟩ v).drew).cell? ⟨xb, s, none⟩ = some Q :=
  ⟨(World.cell?_setCell_other _ ⟨b, i, none⟩ ⟨xb, r, none⟩ _ (by simp <;> omega)).trans h2, (World.cell?_setCell_other _ ⟨b, i, none⟩ ⟨xb, s, none⟩ _ (by simp <;> omega)).trans h3⟩
theorem overL_late {n o : List UInt8} (h : n.length = o.length) {i j : Nat} (hi : i ≤ j) (hj : j < o.length) : (overL n o i)[j]? = some o[j] := by
  unfold overL
  have e : (n.take i).length = i := by rw [List.length_take]; omega
  rw [List.getElem?_append_right (by omega), e, List.getElem?_drop, show i + (j - i) = j by omega, List.getElem?_eq_getElem hj]
set_option maxRecDepth 100000 in
set_option maxHeartbeats 3200000 in
theorem mix_any {w : World} {b : Nat} {l : List UInt8} (hb : w.heap[b]? = some (bytesO l 175)) (hl : l.length = 16) : Calls Tryz.prog 113 #[.pointer (some ⟨b, 0, none⟩)] w fun e w' => e = .returned (.tuple #[]) ∧ w'.heap[b]? = some (bytesO (mixF l) 175) ∧ Fr (fun q => q = b) w w' := by
  have hblt := heap_lt hb
  have hlen : (mixF l).length = l.length := by rw [mixF_len, hl]
  have H0 := Lib.hid (show w.heap[b]? = some (bytesO (overL (mixF l) l 0) 175) by rw [overL_zero]; exact hb)
  clear hb
  go_enter Tryz.func113, Tryz.ntmps113
  go_wp2_with fail
  go_loopw [2] (fun s2 W => ∃ m : Nat, m ≤ 4 ∧ s2 = .int .i64 (4 * (m : Int)) ∧ Hid (W.heap[b]? = some (bytesO (overL (mixF l) l (4 * m)) 175) ∧ Fr (fun q => q = b) w W)) (fun s2 _ => 16 - (intOf s2).toNat)
  case atStart => exact ⟨0, by omega, rfl, Lib.hid ⟨H0.out, Fr.refl _ _⟩⟩
  case round =>
    clear H0
    obtain ⟨m, hm, rfl, HI⟩ := hrel
    by_cases hlt : m < 4
    · have q1 : 4 * (m : Int) < 16 := by omega
      have q0 : (0 : Int) ≤ 4 * (m : Int) := by omega
      have q4 : wrap64 (4 * (m : Int) + 4) = 4 * (m : Int) + 4 := by unfold wrap64; omega
      have q5 : 4 * (m : Int) ≤ 4 * (m : Int) + 4 := by omega
      have q6 : 4 * (m : Int) + 4 ≤ 16 := by omega
      have g : ∀ r, r < 4 → ∃ c, l.getD (4 * m + r) 0 = c ∧ wr.cell? ⟨b, 4 * m + r, none⟩ = some (.int .u8 (c.toNat : Int)) := by
        intro r hr
        refine ⟨_, rfl, ?_⟩
        rw [List.getD_eq_getElem?_getD, List.getElem?_eq_getElem (by omega)]
        exact (bytesO_cell HI.out.1 (overL_late hlen (by omega) (by omega))).1
      obtain ⟨x0, e0, c0⟩ := g 0 (by omega)
      obtain ⟨x1, e1, c1⟩ := g 1 (by omega)
      obtain ⟨x2, e2, c2⟩ := g 2 (by omega)
      obtain ⟨x3, e3, c3⟩ := g 3 (by omega)
      rw [Nat.add_zero] at e0 c0
      have HE := Lib.hid (And.intro e0 (And.intro e1 (And.intro e2 e3)))
      clear g e0 e1 e2 e3
      have hat : ∀ W, (Instr.arrayAt 204 (.slice (some ⟨b, 4 * m, none⟩) 4 (16 - 4 * m))).run Tryz.prog W = .ok (.pointer (some ⟨b, 4 * m, none⟩)) W := fun W => run_arrayAt W 204 _ 4 _ _ _ Tryz.underlying204 (Nat.le_refl 4)
      go_upto_region 4 with fail
      obtain ⟨xb, hxb⟩ : ∃ xb, wr.heap.size = xb := ⟨_, rfl⟩
      refine wp_at (fun W => W.heap[xb]? = some (bytesO [x0, x1, x2, x3] 204) ∧ W.heap[b]? = some (bytesO (overL (mixF l) l (4 * m + 0)) 175) ∧ Fr (fun q => q = b) w W) ⟨by rw [← hxb]; exact heap_new wr _, heap_old _ HI.out.1, HI.out.2.alloc _⟩ ?_
      have hbx : xb ≠ b := by have := heap_lt HI.out.1; omega
      have hwx : w.heap.size ≤ xb := by have := HI.out.2.size; omega
      rw [hxb]
      clear c0 c1 c2 c3 hat HI q1 q5 q6
      rintro w5 ⟨k1, k2, k3⟩
      have H5 := Lib.hid (And.intro k1 (And.intro k2 k3))
      obtain ⟨y0, -⟩ := bytesO_cell k1 (i := 0) rfl
      obtain ⟨y1, -⟩ := bytesO_cell k1 (i := 1) rfl
      obtain ⟨y2, -⟩ := bytesO_cell k1 (i := 2) rfl
      obtain ⟨y3, -⟩ := bytesO_cell k1 (i := 3) rfl
      clear k1 k2 k3
      have HAl := Lib.hid (show bits .xor .u8 (bits .xor .u8 (bits .xor .u8 (x0.toNat : Int) (x1.toNat : Int)) (x2.toNat : Int)) (x3.toNat : Int) = ((((x0 ^^^ x1) ^^^ x2) ^^^ x3).toNat : Int) by rw [u8x, u8x, u8x])
      go_upto_region 5 with fail
      rw [HAl.out]
      obtain ⟨A, hA⟩ : ∃ A, ((x0 ^^^ x1) ^^^ x2) ^^^ x3 = A := ⟨_, rfl⟩
      rw [hA]
      have HA := Lib.hid hA
      clear hA HAl y0 y1 y2 y3
      go_wp2_with fail
      rw [show 4 * m + 4 - 4 * m = 4 by omega]
      go_loopw [29] (fun s29 W => ∃ r : Nat, r ≤ 4 ∧ s29 = .int .i64 r ∧ Hid (W.heap[xb]? = some (bytesO [x0, x1, x2, x3] 204) ∧ W.heap[b]? = some (bytesO (overL (mixF l) l (4 * m + r)) 175) ∧ Fr (fun q => q = b) w W)) (fun s29 _ => 4 - (intOf s29).toNat)
      case atStart => exact ⟨0, by omega, rfl, H5⟩
      case round =>
        clear H5
        obtain ⟨r, hr, rfl, HI⟩ := hrel
        by_cases hr4 : r < 4
        · have q1 : (r : Int) < 4 := by omega
          have qr0 : (0 : Int) ≤ (r : Int) := by omega
          obtain ⟨s, hs⟩ : ∃ s, (r + 1) % 4 = s := ⟨_, rfl⟩
          have hs4 : s < 4 := by omega
          have qs : (s : Int) < 4 := by omega
          have q7 : Int.tmod ((r : Int) + 1) 4 = (s : Int) := by rw [Int.tmod_eq_emod_of_nonneg (by omega)]; omega
          have q8 : IntKind.i64.wrap ((r : Int) + 1) = (r : Int) + 1 := by rw [IntKind.wrap_i64]; omega
          have q9 : IntKind.i64.wrap (4 * (m : Int) + (r : Int)) = 4 * (m : Int) + (r : Int) := by rw [IntKind.wrap_i64]; omega
          have q10 : 4 * (m : Int) + (r : Int) < 16 := by omega
          have q11 : (0 : Int) ≤ 4 * (m : Int) + (r : Int) := by omega
          have qa : (4 * (m : Int) + (r : Int)).toNat = 4 * m + r := by omega
          have hil : 4 * m + r < l.length := by omega
          obtain ⟨p, hp⟩ : ∃ p, [x0, x1, x2, x3][r]? = some p := ⟨_, List.getElem?_eq_getElem (by simpa using hr4)⟩
          obtain ⟨q, hq⟩ : ∃ q, [x0, x1, x2, x3][s]? = some q := ⟨_, List.getElem?_eq_getElem (by simpa using hs4)⟩
          have HMx := Lib.hid (show mixB l (4 * m + r) = l[4 * m + r] ^^^ (A ^^^ fMul (p ^^^ q) 2) by
            have d1 : (4 * m + r) / 4 = m := by omega
            have d2 : (4 * m + r) % 4 = r := by omega
            have gp : ∀ t, t < 4 → ∀ c, [x0, x1, x2, x3][t]? = some c → l.getD (4 * m + t) 0 = c := by
              intro t ht c hc
              rcases (show t = 0 ∨ t = 1 ∨ t = 2 ∨ t = 3 by omega) with rfl | rfl | rfl | rfl
              · rw [Nat.add_zero, HE.out.1]; simpa using hc
              · rw [HE.out.2.1]; simpa using hc
              · rw [HE.out.2.2.1]; simpa using hc
              · rw [HE.out.2.2.2]; simpa using hc
            unfold mixB
            rw [d1, d2, hs, gp r hr4 p hp, gp s hs4 q hq, HE.out.1, HE.out.2.1, HE.out.2.2.1, HE.out.2.2.2, HA.out]
            rw [← gp r hr4 p hp, List.getD_eq_getElem?_getD, List.getElem?_eq_getElem hil]
            rfl)
          obtain ⟨d0, d3⟩ := bytesO_cell HI.out.2.1 (overL_get hlen hil)
          have d1 := (bytesO_cell HI.out.1 hp).1
          have d2 := (bytesO_cell HI.out.1 hq).1
          have HT := Lib.hid (show ∀ W, Calls Tryz.prog 141 #[.int .u8 (bits .xor .u8 (p.toNat : Int) (q.toNat : Int))] W fun e w' => e = .returned (.int .u8 ((fMul (p ^^^ q) 2).toNat : Int)) ∧ W = w' from fun W => by
            rw [u8x]
            exact atwice_any (p ^^^ q) W)
          clear hp hq
          have HR := Lib.hid (show ((wr.setCell ⟨b, 4 * m + r, none⟩ (.int .u8 (bits .xor .u8 (l[4 * m + r].toNat : Int) (bits .xor .u8 (A.toNat : Int) ((fMul (p ^^^ q) 2).toNat : Int))))).drew).heap[xb]? = some (bytesO [x0, x1, x2, x3] 204) ∧ ((wr.setCell ⟨b, 4 * m + r, none⟩ (.int .u8 (bits .xor .u8 (l[4 * m + r].toNat : Int) (bits .xor .u8 (A.toNat : Int) ((fMul (p ^^^ q) 2).toNat : Int))))).drew).heap[b]? = some (bytesO (overL (mixF l) l (4 * m + (r + 1))) 175) ∧ Fr (fun q => q = b) w ((wr.setCell ⟨b, 4 * m + r, none⟩ (.int .u8 (bits .xor .u8 (l[4 * m + r].toNat : Int) (bits .xor .u8 (A.toNat : Int) ((fMul (p ^^^ q) 2).toNat : Int))))).drew) by
            have hv : bits .xor .u8 (l[4 * m + r].toNat : Int) (bits .xor .u8 (A.toNat : Int) ((fMul (p ^^^ q) 2).toNat : Int)) = ((mixB l (4 * m + r)).toNat : Int) := by rw [u8x, u8x, HMx.out]
            rw [hv]
            have g1 := bytesO_set HI.out.2.1 (4 * m + r) (mixB l (4 * m + r))
            rw [overL_set hlen hil _ (mixF_get l (by omega))] at g1
            exact ⟨heap_set_ne (b := b) (i := 4 * m + r) HI.out.1 hbx, g1, (fr_set_at HI.out.2.2 (4 * m + r) _).drew⟩)
          go_upto_region 8 with fail
          go_region_with (first
              | (go_at_call 141; (with_reducible refine (HT.out _).mono ?_); rintro e w' ⟨rfl, rfl⟩)
              | fail "noarm")
          all_goals
            clear HT d0 d1 d2 d3
            go_wp2_with fail
            exact ⟨⟨r + 1, hr4, by go_num, HR⟩, by simp [intOf]; omega⟩
        · have q1 : (4 : Int) ≤ (r : Int) := by omega
          obtain rfl : r = 4 := by omega
          have q2 : wrap64 (4 * (m : Int) + 4) = 4 * ((m + 1 : Nat) : Int) := by unfold wrap64; omega
          clear q4
          go_wp2_with fail
          refine ⟨⟨m + 1, hlt, rfl, Lib.hid ⟨?_, HI.out.2.2⟩⟩, by simp [intOf]; omega⟩
          exact HI.out.2.1
    · have q1 : (16 : Int) ≤ 4 * (m : Int) := by omega
      obtain rfl : m = 4 := by omega
      go_wp2_with fail
      go_end0
      refine ⟨rfl, ?_, HI.out.2⟩
      have h := HI.out.1
      rw [overL_all hlen (by omega)] at h
      exact h
end Go.Proofs.YthabllnhlhkejaaGreatDoor
namespace Go.Proofs.YthabllnhlhkejaaGreatDoor
open Go.RowKit

/-- a key's block: its bytes, its Once (done, the lock), its maps, its round keys -/
def keyL (v : Value) (d s q : Int) (X Y : List UInt8) (rv : Value) : List Value := [v, .int .u32 d, .int .i32 s, .int .u32 q] ++ X.map byteV ++ Y.map byteV ++ [rv]
def keyO (v : Value) (d s q : Int) (X Y : List UInt8) (rv : Value) : Obj := .cells (keyL v d s q X Y rv).toArray 155 (0, 0)
def zeros256 : List UInt8 := List.replicate 256 0
section
variable {w : World} {b : Nat} {v rv : Value} {d s q : Int} {X Y : List UInt8}
theorem keyX (h : w.heap[b]? = some (keyO v d s q X Y rv)) {i : Nat} {c : UInt8} (hc : X[i]? = some c) : w.cell? ⟨b, 4 + i, none⟩ = some (.int .u8 (c.toNat : Int)) ∧ w.frozen? ⟨b, 4 + i, none⟩ = false := by
  refine ⟨?_, free_of h _⟩
  have hi := (List.getElem?_eq_some_iff.1 hc).1
  rw [cell_of h, List.getElem?_toArray]
  unfold keyL
  rw [List.append_assoc, List.append_assoc, List.getElem?_append_right (by simp), List.getElem?_append_left (by simp <;> omega)]
  simp [hc, byteV]
theorem keyY (h : w.heap[b]? = some (keyO v d s q X Y rv)) (hX : X.length = 256) {i : Nat} {c : UInt8} (hc : Y[i]? = some c) : w.cell? ⟨b, 260 + i, none⟩ = some (.int .u8 (c.toNat : Int)) ∧ w.frozen? ⟨b, 260 + i, none⟩ = false := by
  refine ⟨?_, free_of h _⟩
  have hi := (List.getElem?_eq_some_iff.1 hc).1
  rw [cell_of h, List.getElem?_toArray]
  unfold keyL
  rw [List.append_assoc, List.getElem?_append_right (by simp [hX] <;> omega), List.getElem?_append_left (by simp [hX] <;> omega)]
  have e : 260 + i - ([v, .int .u32 d, .int .i32 s, .int .u32 q] ++ X.map byteV).length = i := by simp [hX]
  rw [e]
  simp [hc, byteV]
theorem key_setX (h : w.heap[b]? = some (keyO v d s q X Y rv)) {i : Nat} (hi : i < X.length) (c : UInt8) : (w.setCell ⟨b, 4 + i, none⟩ (.int .u8 (c.toNat : Int))).heap[b]? = some (keyO v d s q (X.set i c) Y rv) := by
  rw [heap_set_eq h]
  unfold keyO keyL
  congr 2
  rw [List.setIfInBounds_toArray]
  simp only [List.append_assoc]
  rw [List.set_append_right _ _ (by simp), List.set_append_left _ _ (by simp <;> omega), List.map_set]
  congr 3
  simp [byteV]
theorem key_setY (h : w.heap[b]? = some (keyO v d s q X Y rv)) (hX : X.length = 256) {i : Nat} (hi : i < Y.length) (c : UInt8) : (w.setCell ⟨b, 260 + i, none⟩ (.int .u8 (c.toNat : Int))).heap[b]? = some (keyO v d s q X (Y.set i c) rv) := by
  rw [heap_set_eq h]
  unfold keyO keyL
  congr 2
  have e0 : ([v, Value.int .u32 d, Value.int .i32 s, Value.int .u32 q] ++ X.map byteV).length = 260 := by simp [hX]
  rw [List.setIfInBounds_toArray]
  show (((([v, Value.int .u32 d, Value.int .i32 s, Value.int .u32 q] ++ X.map byteV) ++ Y.map byteV) ++ [rv]).set (260 + i) _).toArray = _
  rw [List.append_assoc, List.set_append_right _ _ (by rw [e0]; omega), e0, Nat.add_sub_cancel_left, List.set_append_left _ _ (by simpa using hi), ← List.append_assoc, List.map_set]
theorem key_head (h : w.heap[b]? = some (keyO v d s q X Y rv)) : w.cell? ⟨b, 0, none⟩ = some v ∧ w.cell? ⟨b, 1, none⟩ = some (.int .u32 d) ∧ w.cell? ⟨b, 2, none⟩ = some (.int .i32 s) ∧ w.frozen? ⟨b, 1, none⟩ = false ∧ w.frozen? ⟨b, 2, none⟩ = false :=
  ⟨cell_of h 0, cell_of h 1, cell_of h 2, free_of h 1, free_of h 2⟩
end
def KNewP (key : List UInt8) (w : World) (e : Ending) (w' : World) : Prop := ∃ (ka : Nat) (ko : Option Addr) (kc : Nat), e = .returned (.tuple #[.pointer (some ⟨ka, 0, none⟩), .int .i64 0]) ∧ w'.heap[ka]? = some (keyO (.slice ko key.length kc) 0 0 0 zeros256 zeros256 (.slice none 0 0)) ∧ RowRd ByteR w' ko key ∧ (0 < key.length → ∀ a, ko = some a → a.block ≠ ka ∧ w.heap.size ≤ a.block) ∧ Fr noBlock w w' ∧ w.heap.size ≤ ka
set_option maxRecDepth 100000 in
set_option maxHeartbeats 3200000 in
theorem knew_any {w : World} {ao : Option Addr} {key : List UInt8} (h : RowRd ByteR w ao key) (cap : Nat) (hl : key.length = 32) : Calls Tryz.prog 73 #[.slice ao key.length cap] w (KNewP key w) := by
  have HC := Lib.hid (clone_any h cap (by omega))
  unfold CloneP at HC
  clear h
  unfold KNewP
  have q1 : ((key.length : Int) != 16) = true := by rw [hl]; rfl
  have q2 : ((key.length : Int) != 32) = false := by rw [hl]; rfl
  clear hl
  go_enter Tryz.func73, Tryz.ntmps73
  go_wp2_with fail
  refine HC.out.mono ?_
  rintro e w1 ⟨⟨xa, xn, xc⟩, rfl, h1, h2, h3, h4⟩
  unfold SV.val at h2 h4 ⊢
  dsimp only at h1 h2 h4 ⊢
  subst h1
  have H1 := Lib.hid (And.intro h2 (And.intro h3 h4))
  clear h2 h3 h4 HC
  go_wp2_with fail
  go_ret2
  refine ⟨w1.heap.size, xa, xc, rfl, heap_new w1 _, RowAt.rd (H1.out.1.fr0 ((Fr.refl noBlock w1).alloc _)), fun _ a e => ?_, H1.out.2.1.alloc _, H1.out.2.1.size⟩
  subst e
  have h5 := H1.out.1.lt a.block rfl
  exact ⟨by omega, H1.out.2.2 a.block rfl⟩
end Go.Proofs.YthabllnhlhkejaaGreatDoor
namespace Go.Proofs.YthabllnhlhkejaaGreatDoor
open Go.RowKit

def boxAll : List UInt8 := (List.range 256).map (fun i => fBox (UInt8.ofNat i))
theorem boxAll_len : boxAll.length = 256 := by simp [boxAll]
theorem boxAll_get {i : Nat} (h : i < 256) : boxAll[i]? = some (fBox (UInt8.ofNat i)) := by
  unfold boxAll
  rw [List.getElem?_map, List.getElem?_range h]
  rfl
set_option maxRecDepth 100000 in
set_option maxHeartbeats 3200000 in
theorem maps_any {w : World} {ka : Nat} {v rv : Value} {d s q : Int} (hb : w.heap[ka]? = some (keyO v d s q zeros256 zeros256 rv)) : Calls Tryz.prog 139 #[.pointer (some ⟨ka, 0, none⟩)] w fun e w' => e = .returned (.tuple #[]) ∧ (∃ Y, Y.length = 256 ∧ w'.heap[ka]? = some (keyO v d s q boxAll Y rv)) ∧ Fr (fun k => k = ka) w w' := by
  have hz : zeros256.length = 256 := by simp [zeros256]
  have hlen : boxAll.length = zeros256.length := by rw [boxAll_len, hz]
  have H0 := Lib.hid (show w.heap[ka]? = some (keyO v d s q (overL boxAll zeros256 0) zeros256 rv) by rw [overL_zero]; exact hb)
  clear hb
  go_enter Tryz.func139, Tryz.ntmps139
  go_wp2_with fail
  go_loopw [4] (fun s4 W => ∃ (i : Nat) (Y : List UInt8), i ≤ 256 ∧ s4 = .int .i64 i ∧ Y.length = 256 ∧ Hid (W.heap[ka]? = some (keyO v d s q (overL boxAll zeros256 i) Y rv) ∧ Fr (fun k => k = ka) w W)) (fun s4 _ => 256 - (intOf s4).toNat)
  case atStart => exact ⟨0, zeros256, by omega, rfl, hz, Lib.hid ⟨H0.out, Fr.refl _ _⟩⟩
  case round =>
    clear H0
    obtain ⟨i, Y, hi, rfl, hY, HI⟩ := hrel
    by_cases hlt : i < 256
    · have q1 : (i : Int) < 256 := by omega
      have q0 : (0 : Int) ≤ (i : Int) := by omega
      have q2 : (i : Int) % 256 = (i : Int) := by omega
      have q3 : IntKind.u8.wrap (i : Int) = (i : Int) := by rw [IntKind.wrap_u8']; omega
      obtain ⟨c, hc⟩ : ∃ c, UInt8.ofNat i = c := ⟨_, rfl⟩
      have hci : c.toNat = i := by rw [← hc, UInt8.toNat_ofNat']; omega
      obtain ⟨z, hzz⟩ : ∃ z, fBox c = z := ⟨_, rfl⟩
      have HBx := Lib.hid (show ∀ W, Calls Tryz.prog 156 #[.int .u8 (i : Int)] W fun e w' => e = .returned (.int .u8 (z.toNat : Int)) ∧ W = w' from fun W => by
        have h := box_any c W
        unfold byteV at h
        rw [hci, hzz] at h
        exact h)
      have hX : (overL boxAll zeros256 i).length = 256 := by rw [overL_len hlen (by omega), hz]
      have hgb : boxAll[i]? = some z := by rw [boxAll_get hlt, hc, hzz]
      obtain ⟨xa0, x1⟩ := keyX HI.out.1 (overL_get hlen (i := i) (by omega))
      have hzl : z.toNat < 256 := z.toNat_lt
      obtain ⟨ya0, y1⟩ := keyY HI.out.1 hX (i := z.toNat) (List.getElem?_eq_getElem (by omega))
      have k0 := (key_head HI.out.1).1
      have qz : (z.toNat : Int) < 256 := by omega
      have hne : ¬ (4 + i = 260 + z.toNat) := by omega
      have hne2 : ¬ (260 + z.toNat = 4 + i) := by omega
      have HX1 := key_setX HI.out.1 (i := i) (by omega) z
      rw [overL_set hlen (by omega) z hgb] at HX1
      have hX2 : (overL boxAll zeros256 (i + 1)).length = 256 := by rw [overL_len hlen (by omega), hz]
      have HX2 := Lib.hid (key_setY HX1 hX2 (i := z.toNat) (by omega) c)
      rw [hci] at HX2
      have HFa := Lib.hid (fr_set_at (fr_set_at HI.out.2 (4 + i) (.int .u8 (z.toNat : Int))) (260 + z.toNat) (.int .u8 (i : Int)))
      obtain ⟨xv, x0⟩ : ∃ xv, wr.cell? ⟨ka, 4 + i, none⟩ = some xv := ⟨_, xa0⟩
      obtain ⟨yv, y0⟩ : ∃ yv, wr.cell? ⟨ka, 260 + z.toNat, none⟩ = some yv := ⟨_, ya0⟩
      clear xa0 ya0 HX1 hgb hc hzz hci
      go_wp2_with fail
      refine (HBx.out _).mono ?_
      rintro e w' ⟨rfl, rfl⟩
      go_upto_region 4 with fail
      go_region_held3 (fun W => W.cell? ⟨ka, 0, none⟩ = some v)
        (repeat (first | exact k0 | (rw [World.cell?_drew]) | (refine (World.cell?_setCell_other _ ⟨_, _, none⟩ ⟨_, _, none⟩ _ (by simp)).trans ?_)))
        (fail "noarm")
      go_wp2_with fail
      go_roundw
      case rel => exact ⟨i + 1, Y.set z.toNat c, hlt, by go_num, by rw [List.length_set]; exact hY, Lib.hid ⟨HX2.out, HFa.out.drew⟩⟩
      case measure => simp [intOf]; omega
    · have q1 : (256 : Int) ≤ (i : Int) := by omega
      obtain rfl : i = 256 := by omega
      have h := HI.out.1
      rw [overL_all hlen (by omega)] at h
      have HE := Lib.hid h
      clear h
      go_wp2_with fail
      go_end0
      exact ⟨rfl, ⟨Y, hY, HE.out⟩, HI.out.2⟩
end Go.Proofs.YthabllnhlhkejaaGreatDoor
