/-
  A VAULT in memory: its cells. THE WALK of its closure: a version's key.
-/
import Derived.Deep.RegionHeld3
import Derived.StillTailTactics
import Derived.Test.YtajhgejhdalobaaGreatDoorMcD
import Derived.Test.YtajhgejhdalobaaGreatDoorDkShelf
import Derived.Test.YtajhgejhdalobaaGreatDoorAeB
namespace Go.Proofs.YtajhgejhdalobaaGreatDoor
open Go.RowKit

def nameOf (p : Int) : ByteArray := if p = 2 then ⟨#[115, 116, 111, 114, 101]⟩ else if p = 1 then ⟨#[116, 111, 107, 101, 110]⟩ else if p = 4 then ⟨#[97, 117, 100, 105, 116]⟩ else ⟨#[116, 97, 103]⟩
set_option maxRecDepth 100000 in
theorem name_any (p : Int) (hp : 1 ≤ p ∧ p ≤ 4) (w : World) : Calls Tryz.prog 187 #[.int .i64 p] w fun e w' => e = .returned (.tuple #[.string (nameOf p), .bool true]) ∧ Fr noBlock w w' := by
  rcases (show p = 1 ∨ p = 2 ∨ p = 3 ∨ p = 4 by omega) with rfl | rfl | rfl | rfl
  all_goals
    go_enter Tryz.func187, Tryz.ntmps187
    go_wp2_with fail
    go_ret2
    exact ⟨rfl, (Fr.refl noBlock w).alloc _⟩
end Go.Proofs.YtajhgejhdalobaaGreatDoor
namespace Go.Proofs.YtajhgejhdalobaaGreatDoor
open Go.RowKit

structure Ten where
  d : Int
  s : Int
  q : Int
  v : Value
def Ten.cells (t : Ten) : List Value := [.int .u32 t.d, .int .i32 t.s, .int .u32 t.q, t.v]
def ringL (v : Value) (ts : List Ten) : List Value := v :: ts.flatMap Ten.cells
def ringO (v : Value) (ts : List Ten) : Obj := .cells (ringL v ts).toArray 275 (0, 0)
def tens0 : List Ten := List.replicate 65 ⟨0, 0, 0, .slice none 0 0⟩
def RNewP (key : List UInt8) (w : World) (e : Ending) (w' : World) : Prop := ∃ (rg : Nat) (ko : Option Addr) (kc : Nat), e = .returned (.tuple #[.pointer (some ⟨rg, 0, none⟩), .int .i64 0]) ∧ w'.heap[rg]? = some (ringO (.slice ko key.length kc) tens0) ∧ RowRd ByteR w' ko key ∧ (0 < key.length → ∀ a, ko = some a → a.block ≠ rg ∧ w.heap.size ≤ a.block) ∧ Fr noBlock w w' ∧ w.heap.size ≤ rg
set_option maxRecDepth 100000 in
set_option maxHeartbeats 6400000 in
theorem rnew_any {w : World} {ao : Option Addr} {key : List UInt8} (h : RowRd ByteR w ao key) (cap : Nat) (h16 : 16 ≤ key.length) (h64 : key.length ≤ 64) : Calls Tryz.prog 122 #[.slice ao key.length cap] w (RNewP key w) := by
  have HC := Lib.hid (clone_any h cap (by omega))
  unfold CloneP at HC
  clear h
  unfold RNewP
  have q1 : (16 : Int) ≤ (key.length : Int) := by omega
  have q2 : (key.length : Int) ≤ 64 := by omega
  go_enter Tryz.func122, Tryz.ntmps122
  go_wp2_with fail
  refine HC.out.mono ?_
  rintro e w1 ⟨⟨xa, xn, xc⟩, rfl, h1, h2, h3, h4⟩
  unfold SV.val at h2 h4 ⊢
  dsimp only at h1 h2 h4 ⊢
  subst h1
  have H1 := Lib.hid (And.intro h2 (And.intro h3 h4))
  clear h2 h3 h4 HC
  go_wp2_with fail
  go_ret2
  refine ⟨w1.heap.size, xa, xc, rfl, heap_new w1 _, RowAt.rd (H1.out.1.fr0 ((Fr.refl noBlock w1).alloc _)), fun _ a e => ?_, H1.out.2.1.alloc _, H1.out.2.1.size⟩
  subst e
  have h5 := H1.out.1.lt a.block rfl
  exact ⟨by omega, H1.out.2.2 a.block rfl⟩
end Go.Proofs.YtajhgejhdalobaaGreatDoor
namespace Go.Proofs.YtajhgejhdalobaaGreatDoor
open Go.RowKit

theorem ten_flat_get {ts : List Ten} {i : Nat} (hi : i < ts.length) {j : Nat} (hj : j < 4) : (ts.flatMap Ten.cells)[i * 4 + j]? = (ts[i].cells)[j]? := by
  induction ts generalizing i with
  | nil => simp at hi
  | cons t ts ih =>
    have hl : t.cells.length = 4 := rfl
    rw [List.flatMap_cons]
    cases i with
    | zero => rw [List.getElem?_append_left (by omega)]; simp
    | succ i =>
      rw [show (i + 1) * 4 + j = t.cells.length + (i * 4 + j) by omega, List.getElem?_append_right (by omega), Nat.add_sub_cancel_left, ih (by simpa using hi)]
      simp
theorem ten_flat_set {ts : List Ten} {i : Nat} (hi : i < ts.length) {j : Nat} (hj : j < 4) (u : Value) (y : Ten) (hy : y.cells = (ts[i].cells).set j u) : (ts.flatMap Ten.cells).set (i * 4 + j) u = (ts.set i y).flatMap Ten.cells := by
  induction ts generalizing i with
  | nil => simp at hi
  | cons t ts ih =>
    have hl : t.cells.length = 4 := rfl
    rw [List.flatMap_cons]
    cases i with
    | zero =>
      rw [List.set_append_left _ _ (by omega), List.set_cons_zero, List.flatMap_cons, hy]
      simp
    | succ i =>
      rw [show (i + 1) * 4 + j = t.cells.length + (i * 4 + j) by omega, List.set_append_right _ _ (by omega), Nat.add_sub_cancel_left, ih (by simpa using hi) (by simpa using hy), List.set_cons_succ, List.flatMap_cons]
section
variable {w : World} {rg : Nat} {v : Value} {ts : List Ten}
theorem ring_key (h : w.heap[rg]? = some (ringO v ts)) : w.cell? ⟨rg, 0, none⟩ = some v := cell_of h 0
theorem ring_cell (h : w.heap[rg]? = some (ringO v ts)) {i : Nat} (hi : i < ts.length) {j : Nat} (hj : j < 4) : w.cell? ⟨rg, 1 + (i * 4 + j), none⟩ = (ts[i].cells)[j]? ∧ w.frozen? ⟨rg, 1 + (i * 4 + j), none⟩ = false := by
  refine ⟨?_, free_of h _⟩
  rw [cell_of h, List.getElem?_toArray]
  unfold ringL
  rw [Nat.add_comm 1, List.getElem?_cons_succ, ten_flat_get hi hj]
theorem ring_set (h : w.heap[rg]? = some (ringO v ts)) {i : Nat} (hi : i < ts.length) {j : Nat} (hj : j < 4) (u : Value) (y : Ten) (hy : y.cells = (ts[i].cells).set j u) : (w.setCell ⟨rg, 1 + (i * 4 + j), none⟩ u).heap[rg]? = some (ringO v (ts.set i y)) := by
  rw [heap_set_eq h]
  unfold ringO ringL
  congr 2
  rw [List.setIfInBounds_toArray, Nat.add_comm 1, List.set_cons_succ, ten_flat_set hi hj u y hy]
end
end Go.Proofs.YtajhgejhdalobaaGreatDoor
namespace Go.Proofs.YtajhgejhdalobaaGreatDoor
open Go.RowKit

def itoa (n : Nat) : ByteArray := ⟨(Lib.decDigits n).toArray⟩
def tenantW : ByteArray := ⟨#[116, 101, 110, 97, 110, 116]⟩
theorem itoa_size {n : Nat} (h : n < 256) : (itoa n).size ≤ 20 := by
  have g : ∀ m, m < 256 → (itoa m).size ≤ 20 := by decide +kernel
  exact g n h
def ItoAt (n : Nat) (F : Nat → Prop) (w : World) : Prop := ∀ W, Fr F w W → Calls Tryz.prog 61 #[.int .i64 (n : Int)] W fun e w' => e = .returned (.string (itoa n)) ∧ Fr noBlock W w'
theorem ItoAt.small {n : Nat} (h : n < 100) (F : Nat → Prop) (w : World) : ItoAt n F w := fun W _ => (Tryz.strconv_Itoa_small n h W).mono fun _ _ ⟨a, b⟩ => ⟨a, b ▸ Fr.refl _ _⟩
theorem ItoAt.fr {n : Nat} {F : Nat → Prop} {w W : World} (h : ItoAt n F w) (f : Fr F w W) : ItoAt n F W := fun W' f' => h W' (f.trans' f')
theorem ItoAt.fr0 {n : Nat} {F : Nat → Prop} {w W : World} (h : ItoAt n F w) (f : Fr noBlock w W) : ItoAt n F W := h.fr (f.mono (fun _ z => z.elim))
theorem ItoAt.sub {n : Nat} {F G : Nat → Prop} {w : World} (h : ItoAt n F w) (hs : ∀ k, G k → F k) : ItoAt n G w := fun W f => h W (f.mono hs)
theorem ItoAt.new {n : Nat} {F : Nat → Prop} {w W : World} (h : ItoAt n noBlock w) (f : Fr noBlock w W) (hn : ∀ k, F k → w.heap.size ≤ k) : ItoAt n F W := fun W' f' => h W' (f.trans f' (fun k hk => .inr (hn k hk)))
def tenantK (master : List UInt8) (n : Nat) : List UInt8 := foldK master [labB tenantW, labB (itoa n)]
theorem tenantK_len (master : List UInt8) (n : Nat) : (tenantK master n).length = 32 := by
  show (foldK master ([labB tenantW] ++ [labB (itoa n)])).length = 32
  rw [foldK_snoc, mac_len]
theorem keep_k {W : World} {rg o p0 p1 p2 : Nat} {a b c d v : Value} (h0 : W.cell? ⟨p0, 0, none⟩ = some a) (h1 : W.cell? ⟨p1, 0, none⟩ = some b) (h2 : W.cell? ⟨p2, 0, none⟩ = some c) (h3 : W.cell? ⟨rg, 0, none⟩ = some d) (_n0 : p0 ≠ rg) (_n1 : p1 ≠ rg) (_n2 : p2 ≠ rg) (n3 : o ≠ 0) :
    ((W.setCell ⟨rg, o, none⟩ v).drew).cell? ⟨p0, 0, none⟩ = some a ∧ ((W.setCell ⟨rg, o, none⟩ v).drew).cell? ⟨p1, 0, none⟩ = some b ∧ ((W.setCell ⟨rg, o, none⟩ v).drew).cell? ⟨p2, 0, none⟩ = some c ∧ ((W.setCell ⟨rg, o, none⟩ v).drew).cell? ⟨rg, 0, none⟩ = some d :=
  ⟨(World.cell?_setCell_other _ ⟨rg, o, none⟩ ⟨p0, 0, none⟩ _ (by simp <;> omega)).trans h0, (World.cell?_setCell_other _ ⟨rg, o, none⟩ ⟨p1, 0, none⟩ _ (by simp <;> omega)).trans h1, (World.cell?_setCell_other _ ⟨rg, o, none⟩ ⟨p2, 0, none⟩ _ (by simp <;> omega)).trans h2, (World.cell?_setCell_other _ ⟨rg, o, none⟩ ⟨rg, 0, none⟩ _ (by simp <;> omega)).trans h3⟩
set_option maxRecDepth 100000 in
set_option maxHeartbeats 3200000 in
theorem key1_any {w : World} {rg p0 p1 p2 n : Nat} {mo : Option Addr} {mc : Nat} {master : List UInt8} {ts : List Ten} (hb : w.heap[rg]? = some (ringO (.slice mo master.length mc) ts)) (hm : RowRd ByteR w mo master) (hml : master.length ≤ 64) (hn : n < ts.length) (hn100 : n < 100)
    (h0 : w.cell? ⟨p0, 0, none⟩ = some (.pointer (some ⟨rg, 0, none⟩))) (h1 : w.cell? ⟨p1, 0, none⟩ = some (.int .i64 (n : Int))) (h2 : w.cell? ⟨p2, 0, none⟩ = some (.pointer (some ⟨rg, 1 + n * 4, none⟩))) (n0 : p0 ≠ rg) (n1 : p1 ≠ rg) (n2 : p2 ≠ rg) :
    Calls Tryz.prog 189 #[.pointer (some ⟨p0, 0, none⟩), .pointer (some ⟨p1, 0, none⟩), .pointer (some ⟨p2, 0, none⟩)] w fun e w' => e = .returned (.tuple #[]) ∧ ∃ (ko : Option Addr) (kc : Nat), w'.heap[rg]? = some (ringO (.slice mo master.length mc) (ts.set n { ts[n] with v := .slice ko 32 kc })) ∧ RowAt 5 ByteR w' (.slice ko 32 kc) (tenantK master n) ∧ (∀ k, (Value.slice ko 32 kc).ownBlock = some k → w.heap.size ≤ k) ∧ Fr (fun k => k = rg) w w' := by
  have HB := Lib.hid hb
  have hrg := heap_lt hb
  have HI := Lib.hid (fun W => Tryz.strconv_Itoa_small n hn100 W)
  have HFo := Lib.hid (show ∀ (g : Nat) (W : World), Fr noBlock w W → W.heap[g]? = some (.cells #[.string tenantW, .string (itoa n)] 9 (0, 0)) → Calls Tryz.prog 190 #[.slice mo master.length mc, .slice (some ⟨g, 0, none⟩) 2 2] W (ShaP (tenantK master n) W) from fun g W hW hg => by
    have hr : RowRd LabR W (some ⟨g, 0, none⟩) [tenantW, itoa n] := RowRd.of_flat hg rfl (by unfold maxLen; simp)
    have hsz : ∀ s ∈ [tenantW, itoa n], s.size ≤ 100000000000 := by
      intro s hs
      have h1 := itoa_size (n := n) (by omega)
      have h2 : tenantW.size = 6 := rfl
      simp only [List.mem_cons, List.not_mem_nil, or_false] at hs
      rcases hs with rfl | rfl <;> omega
    exact fold_any (hm.fr0 hW) mc (by omega) hr 2 hsz (by simp))
  unfold ShaP at HFo
  have HKp := Lib.hid (show ∀ W, Fr noBlock w W → W.cell? ⟨p0, 0, none⟩ = some (.pointer (some ⟨rg, 0, none⟩)) ∧ W.cell? ⟨p1, 0, none⟩ = some (.int .i64 (n : Int)) ∧ W.cell? ⟨p2, 0, none⟩ = some (.pointer (some ⟨rg, 1 + n * 4, none⟩)) ∧ W.cell? ⟨rg, 0, none⟩ = some (.slice mo master.length mc) from fun W hf =>
    ⟨(hf.cell (p := ⟨p0, 0, none⟩) (World.block_lt_of_cell? _ _ h0) (fun z => z)).trans h0, (hf.cell (p := ⟨p1, 0, none⟩) (World.block_lt_of_cell? _ _ h1) (fun z => z)).trans h1, (hf.cell (p := ⟨p2, 0, none⟩) (World.block_lt_of_cell? _ _ h2) (fun z => z)).trans h2, ring_key (hf.obj HB.out (fun z => z))⟩)
  clear hb hm
  obtain ⟨c0, c1, c2, c3⟩ := HKp.out _ (Fr.refl noBlock w)
  clear h0 h1 h2
  unfold itoa tenantW at HFo
  go_enter Tryz.func189, Tryz.ntmps189
  go_region_held3 (fun W => W.cell? ⟨p0, 0, none⟩ = some (.pointer (some ⟨rg, 0, none⟩)) ∧ W.cell? ⟨p1, 0, none⟩ = some (.int .i64 (n : Int)) ∧ W.cell? ⟨p2, 0, none⟩ = some (.pointer (some ⟨rg, 1 + n * 4, none⟩)) ∧ W.cell? ⟨rg, 0, none⟩ = some (.slice mo master.length mc))
    (first | exact keep_k d0 d1 d2 d3 n0 n1 n2 (by omega) | exact HKp.out _ (by repeat (first | (with_reducible exact Fr.refl _ _) | (with_reducible refine Fr.drew ?_) | (with_reducible refine Fr.alloc ?_ _) | (with_reducible refine Fr.trans' ?_ k3))) | fail "nokeep")
    (first
      | (go_at_call 61; (with_reducible refine (HI.out _).mono ?_); rintro e w' ⟨rfl, rfl⟩)
      | (go_at_call 190; (with_reducible refine (HFo.out _ _ (by repeat (first | (with_reducible exact Fr.refl _ _) | (with_reducible refine Fr.drew ?_) | (with_reducible refine Fr.alloc ?_ _))) (((Fr.refl noBlock _).drew).obj (heap_new w _) (fun z => z))).mono ?_); rintro e w5 ⟨⟨xa, xn, xc⟩, rfl, k1, k2, k3, k4⟩; unfold SV.val at k2 k4 ⊢; dsimp only at k1 k2 k4 ⊢; rw [tenantK_len] at k1; subst k1; have F5 : Fr noBlock w w5 := (((Fr.refl noBlock w).alloc _).drew).trans' k3; have hb5 := F5.obj HB.out (fun z => z); obtain ⟨za, z1⟩ := ring_cell hb5 hn (j := 3) (by omega); have z0 : w5.cell? ⟨rg, 1 + n * 4 + 3, none⟩ = some ts[n].v := za; have z2 : w5.frozen? ⟨rg, 1 + n * 4 + 3, none⟩ = false := z1; obtain ⟨d0, d1, d2, d3⟩ := HKp.out _ F5; clear za z1)
      | fail "noarm")
  have HR := Lib.hid (ring_set hb5 hn (j := 3) (by omega) (.slice xa 32 xc) { ts[n] with v := .slice xa 32 xc } rfl)
  have hkn : ∀ k, (Value.slice xa 32 xc).ownBlock = some k → w.heap.size ≤ k := fun k hk => by
    have := k4 k hk
    simp at this
    omega
  have HK2 := Lib.hid (And.intro k2 hkn)
  have HF5 := Lib.hid F5
  clear k2 k3 k4 hb5 z0 z2 d0 d1 d2 d3 F5 hkn
  go_end0
  refine ⟨rfl, xa, xc, HR.out, HK2.out.1.fr (fr_set_at (Fr.refl _ w5) (1 + n * 4 + 3) _) (fun k hk e => ?_), HK2.out.2, ?_⟩
  · have := HK2.out.2 k hk
    omega
  · exact fr_set_at (HF5.out.mono (fun _ z => z.elim)) (1 + n * 4 + 3) _
end Go.Proofs.YtajhgejhdalobaaGreatDoor
namespace Go.Proofs.YtajhgejhdalobaaGreatDoor
open Go.RowKit

def TenOk (W : World) (rg : Nat) (master : List UInt8) (F : Nat → Prop) (n : Nat) (t : Ten) : Prop :=
  t = ⟨0, 0, 0, .slice none 0 0⟩ ∨ ∃ (ko : Option Addr) (kc : Nat), t.d = 1 ∧ t.v = .slice ko 32 kc ∧ RowAt 5 ByteR W (.slice ko 32 kc) (tenantK master n) ∧ ∀ k, (Value.slice ko 32 kc).ownBlock = some k → k ≠ rg ∧ F k
structure RingIn (rg : Nat) (master : List UInt8) (W : World) (F : Nat → Prop) (mo : Option Addr) (mc : Nat) (ts : List Ten) : Prop where
  box : W.heap[rg]? = some (ringO (.slice mo master.length mc) ts)
  mas : RowRd ByteR W mo master
  mne : ∀ a, mo = some a → a.block ≠ rg ∧ F a.block
  len : ts.length = 65
  each : ∀ n (h : n < ts.length), TenOk W rg master F n ts[n]
  self : F rg
  low : ∀ k, F k → k < W.heap.size
namespace RingIn
variable {rg : Nat} {master : List UInt8} {W W' : World} {F : Nat → Prop} {mo : Option Addr} {mc : Nat} {ts : List Ten}
theorem fr {S : Nat → Prop} (h : RingIn rg master W F mo mc ts) (hf : Fr S W W') (hs : ∀ k, F k → ¬ S k) : RingIn rg master W' F mo mc ts :=
  ⟨hf.obj h.box (hs _ h.self), h.mas.fr hf (fun b off e => hs _ (h.mne _ e).2), h.mne, h.len, fun n hn => (h.each n hn).imp id (by
    rintro ⟨ko, kc, h1, h2, h3, h4⟩
    exact ⟨ko, kc, h1, h2, h3.fr hf (fun k hk => hs _ (h4 k hk).2), h4⟩), h.self, fun k hk => Nat.lt_of_lt_of_le (h.low k hk) hf.size⟩
theorem fr0 (h : RingIn rg master W F mo mc ts) (hf : Fr noBlock W W') : RingIn rg master W' F mo mc ts := h.fr hf (fun _ _ z => z)
end RingIn
def RingT (rg : Nat) (master : List UInt8) : Thing := fun W F => ∃ mo mc ts, RingIn rg master W F mo mc ts
theorem RingT.ok {rg : Nat} {master : List UInt8} : (RingT rg master).Ok := by
  refine ⟨?_, ?_⟩
  · rintro w F ⟨mo, mc, ts, h⟩ k hk
    exact h.low k hk
  · rintro w w' F S ⟨mo, mc, ts, h⟩ hf hs
    exact ⟨mo, mc, ts, h.fr hf hs⟩
def RingMade (rg : Nat) (master : List UInt8) (n : Nat) (W : World) (F : Nat → Prop) : Prop := ∃ mo mc ts ko kc, RingIn rg master W F mo mc ts ∧ W.cell? ⟨rg, 1 + n * 4 + 3, none⟩ = some (.slice ko 32 kc) ∧ RowAt 5 ByteR W (.slice ko 32 kc) (tenantK master n)
theorem ring_do {w : World} {F : Nat → Prop} {rg p0 p1 p2 n : Nat} {master : List UInt8} (h : RingT rg master w F) (hml : master.length ≤ 64) (hn : n < 65)
    (h0 : w.cell? ⟨p0, 0, none⟩ = some (.pointer (some ⟨rg, 0, none⟩))) (h1 : w.cell? ⟨p1, 0, none⟩ = some (.int .i64 (n : Int))) (h2 : w.cell? ⟨p2, 0, none⟩ = some (.pointer (some ⟨rg, 1 + n * 4, none⟩))) (n0 : p0 ≠ rg) (n1 : p1 ≠ rg) (n2 : p2 ≠ rg) :
    Calls Tryz.prog 188 #[.pointer (some ⟨rg, 1 + n * 4, none⟩), .func (.func 189) #[] #[.pointer (some ⟨p0, 0, none⟩), .pointer (some ⟨p1, 0, none⟩), .pointer (some ⟨p2, 0, none⟩)]] w fun e w' => e = .returned (.tuple #[]) ∧ ∃ F', RingMade rg master n w' F' ∧ Step F F' w w' ∧ Fr (fun k => k = rg) w w' := by
  obtain ⟨mo, mc, ts, hr⟩ := h
  have hnl : n < ts.length := by rw [hr.len]; exact hn
  have hd0 := (ring_cell hr.box hnl (j := 0) (by omega))
  have hd1 := (ring_cell hr.box hnl (j := 1) (by omega))
  rcases hr.each n hnl with ht | ⟨ko, kc, t1, t2, t3, t4⟩
  · have eg := enters_of Tryz.func189 (by kernel_rfl) rfl
    rw [ht] at hd0 hd1
    have hf1 : Fr (fun k => k = rg) w (w.setCell ⟨rg, 1 + n * 4 + 1, none⟩ (.int .i32 1)) := fr_set_at (Fr.refl _ w) (1 + n * 4 + 1) _
    have hb1 : (w.setCell ⟨rg, 1 + n * 4 + 1, none⟩ (.int .i32 1)).heap[rg]? = some (ringO (.slice mo master.length mc) (ts.set n ⟨0, 1, 0, .slice none 0 0⟩)) := ring_set hr.box hnl (j := 1) (by omega) (.int .i32 1) ⟨0, 1, 0, .slice none 0 0⟩ (by rw [ht]; rfl)
    have hnl1 : n < (ts.set n ⟨0, 1, 0, .slice none 0 0⟩).length := by rw [List.length_set]; exact hnl
    have hk := key1_any (p0 := p0) (p1 := p1) (p2 := p2) hb1 (hr.mas.fr hf1 (fun b off e => (hr.mne _ e).1)) hml hnl1 (by omega)
      ((hf1.cell (p := ⟨p0, 0, none⟩) (World.block_lt_of_cell? _ _ h0) n0).trans h0) ((hf1.cell (p := ⟨p1, 0, none⟩) (World.block_lt_of_cell? _ _ h1) n1).trans h1) ((hf1.cell (p := ⟨p2, 0, none⟩) (World.block_lt_of_cell? _ _ h2) n2).trans h2) n0 n1 n2
    refine (do_first (off := 1 + n * 4) (fa := #[]) (ca := #[.pointer (some ⟨p0, 0, none⟩), .pointer (some ⟨p1, 0, none⟩), .pointer (some ⟨p2, 0, none⟩)]) eg ⟨hd0.1, hd1.1, hd0.2, hd1.2⟩
      (fun W => ∃ (ko : Option Addr) (kc : Nat), W.heap[rg]? = some (ringO (.slice mo master.length mc) (ts.set n ⟨0, 1, 0, .slice ko 32 kc⟩)) ∧ RowAt 5 ByteR W (.slice ko 32 kc) (tenantK master n) ∧ (∀ k, (Value.slice ko 32 kc).ownBlock = some k → w.heap.size ≤ k) ∧ Fr (fun k => k = rg) w W) ?_).mono ?_
    · refine hk.mono ?_
      rintro e w' ⟨rfl, ko, kc, k1, k2, k3, k4⟩
      have e1 : (ts.set n ⟨0, 1, 0, .slice none 0 0⟩)[n] = ⟨0, 1, 0, .slice none 0 0⟩ := by rw [List.getElem_set_self]
      rw [e1, List.set_set] at k1
      have hl2 : n < (ts.set n (⟨0, 1, 0, .slice ko 32 kc⟩ : Ten)).length := by rw [List.length_set]; exact hnl
      have g0 := ring_cell k1 hl2 (j := 0) (by omega)
      have g1 := ring_cell k1 hl2 (j := 1) (by omega)
      rw [List.getElem_set_self] at g0 g1
      exact ⟨rfl, ⟨ko, kc, k1, k2, fun k hk => by have := k3 k hk; simpa using this, hf1.trans' k4⟩, g0.1, g1.1, g0.2, g1.2⟩
    · rintro e w' ⟨rfl, W, ⟨ko, kc, k1, k2, k3, k4⟩, rfl⟩
      have hl2 : n < (ts.set n (⟨0, 1, 0, .slice ko 32 kc⟩ : Ten)).length := by rw [List.length_set]; exact hnl
      have fe : Fr (fun k => k = rg) W (onceEnd rg (1 + n * 4) W) := by
        unfold onceEnd
        exact fr_set_at (fr_set_at (Fr.refl _ W).drew (1 + n * 4) _) (1 + n * 4 + 1) _
      have b1 : ((W.drew).setCell ⟨rg, 1 + n * 4, none⟩ (.int .u32 1)).heap[rg]? = some (ringO (.slice mo master.length mc) (ts.set n ⟨1, 1, 0, .slice ko 32 kc⟩)) := by
        have := ring_set (w := W.drew) k1 hl2 (j := 0) (by omega) (.int .u32 1) ⟨1, 1, 0, .slice ko 32 kc⟩ (by rw [List.getElem_set_self]; rfl)
        rw [List.set_set] at this
        exact this
      have hl3 : n < (ts.set n (⟨1, 1, 0, .slice ko 32 kc⟩ : Ten)).length := by rw [List.length_set]; exact hnl
      have b2 : (onceEnd rg (1 + n * 4) W).heap[rg]? = some (ringO (.slice mo master.length mc) (ts.set n ⟨1, 0, 0, .slice ko 32 kc⟩)) := by
        have := ring_set b1 hl3 (j := 1) (by omega) (.int .i32 0) ⟨1, 0, 0, .slice ko 32 kc⟩ (by rw [List.getElem_set_self]; rfl)
        rw [List.set_set] at this
        exact this
      have fall : Fr (fun k => k = rg) w (onceEnd rg (1 + n * 4) W) := k4.trans' fe
      have hrg := hr.low _ hr.self
      have hkne : ∀ k, (Value.slice ko 32 kc).ownBlock = some k → k ≠ rg := fun k hk e => by have := k3 k hk; omega
      have hrow : RowAt 5 ByteR (onceEnd rg (1 + n * 4) W) (.slice ko 32 kc) (tenantK master n) := k2.fr fe (fun k hk e => hkne k hk e)
      have hl4 : n < (ts.set n (⟨1, 0, 0, .slice ko 32 kc⟩ : Ten)).length := by rw [List.length_set]; exact hnl
      have hc := (ring_cell b2 hl4 (j := 3) (by omega)).1
      rw [List.getElem_set_self] at hc
      refine ⟨rfl, fun k => F k ∨ (Value.slice ko 32 kc).ownBlock = some k, ⟨mo, mc, _, ko, kc, ⟨b2, hr.mas.fr fall (fun b off e => (hr.mne _ e).1), fun a e => ⟨(hr.mne a e).1, .inl (hr.mne a e).2⟩, by rw [List.length_set]; exact hr.len, fun i hi => ?_, .inl hr.self, ?_⟩, hc, hrow⟩, ⟨fall.mono (fun k hk => by rw [hk]; exact hr.self), fun k hk => hk.imp id (k3 k)⟩, fall⟩
      · by_cases e : i = n
        · subst e
          rw [List.getElem_set_self]
          exact .inr ⟨ko, kc, rfl, rfl, hrow, fun k hk => ⟨hkne k hk, .inr hk⟩⟩
        · rw [List.getElem_set_ne (fun z => e z.symm)]
          rw [List.length_set] at hi
          refine (hr.each i hi).imp id ?_
          rintro ⟨ko', kc', j1, j2, j3, j4⟩
          exact ⟨ko', kc', j1, j2, j3.fr fall (fun k hk => (j4 k hk).1), fun k hk => ⟨(j4 k hk).1, .inl (j4 k hk).2⟩⟩
      · rintro k (hk | hk)
        · exact Nat.lt_of_lt_of_le (hr.low k hk) fall.size
        · exact hrow.lt k hk
  · have hd : w.cell? ⟨rg, 1 + n * 4, none⟩ = some (.int .u32 1) := by
      have := hd0.1
      rw [show (ts[n].cells)[0]? = some (.int .u32 ts[n].d) from rfl, t1] at this
      exact this
    have hc := (ring_cell hr.box hnl (j := 3) (by omega)).1
    rw [show (ts[n].cells)[3]? = some ts[n].v from rfl, t2] at hc
    refine (do_done ⟨rg, 1 + n * 4, none⟩ 1 (by decide) _ w hd).mono ?_
    rintro e w' ⟨rfl, rfl⟩
    exact ⟨rfl, F, ⟨mo, mc, ts, ko, kc, hr, hc, t3⟩, Step.refl F w, Fr.refl _ w⟩
theorem ring_new {w' : World} {rg : Nat} {ko : Option Addr} {kc : Nat} {key : List UInt8} (h1 : w'.heap[rg]? = some (ringO (.slice ko key.length kc) tens0)) (h2 : RowRd ByteR w' ko key) (h0 : 0 < key.length) (h3 : ∀ a, ko = some a → a.block ≠ rg) : RingT rg key w' (fun k => k = rg ∨ ∃ a, ko = some a ∧ a.block = k) := by
  refine ⟨ko, kc, tens0, h1, h2, fun a e => ⟨h3 a e, .inr ⟨a, e, rfl⟩⟩, by simp [tens0], fun n hn => .inl ?_, .inl rfl, ?_⟩
  · exact List.getElem_replicate hn
  · rintro k (rfl | ⟨a, e, rfl⟩)
    · exact heap_lt h1
    · obtain ⟨b, off, e', hb, _⟩ := h2.at' 0 h0
      rw [e] at e'
      cases e'
      exact hb
end Go.Proofs.YtajhgejhdalobaaGreatDoor
namespace Go.Proofs.YtajhgejhdalobaaGreatDoor
open Go.RowKit

def versionW : ByteArray := ⟨#[118, 101, 114, 115, 105, 111, 110]⟩
def keyK (master : List UInt8) (n : Nat) (p : Int) (v : Nat) : List UInt8 := foldK (tenantK master n) [labB (nameOf p), labB versionW, labB (itoa v)]
theorem keyK_len (master : List UInt8) (n : Nat) (p : Int) (v : Nat) : (keyK master n p v).length = 32 := by
  show (foldK (tenantK master n) ([labB (nameOf p), labB versionW] ++ [labB (itoa v)])).length = 32
  rw [foldK_snoc, mac_len]
theorem nameOf_size (p : Int) : (nameOf p).size ≤ 5 := by
  unfold nameOf
  split
  · decide
  · split
    · decide
    · split <;> decide
def RKeyP (rg : Nat) (master x : List UInt8) (F : Nat → Prop) (w : World) (e : Ending) (w' : World) : Prop := ∃ (s : SV) (F' : Nat → Prop), e = .returned (.tuple #[s.val, .int .i64 0]) ∧ s.n = 32 ∧ RowAt 5 ByteR w' s.val x ∧ RingT rg master w' F' ∧ Step F F' w w' ∧ ∀ k, s.val.ownBlock = some k → w.heap.size ≤ k ∧ ¬ F' k
set_option maxRecDepth 100000 in
set_option maxHeartbeats 3200000 in
theorem rkey_gen {w : World} {F : Nat → Prop} {rg n v : Nat} {p : Int} {master : List UInt8} (h : RingT rg master w F) (hml : master.length ≤ 64) (h1 : 1 ≤ n) (hn : n ≤ 64) (hp : 1 ≤ p ∧ p ≤ 4) (hv1 : 1 ≤ v) (hv : v ≤ 255) (hI : ItoAt v F w) :
    Calls Tryz.prog 123 #[.pointer (some ⟨rg, 0, none⟩), .int .i64 (n : Int), .int .i64 p, .int .i64 (v : Int)] w (RKeyP rg master (keyK master n p v) F w) := by
  have HN := Lib.hid (fun W => name_any p hp W)
  have HR := Lib.hid h
  have HIto := Lib.hid hI
  clear hI
  obtain ⟨p0, hp0⟩ : ∃ p0, w.heap.size = p0 := ⟨_, rfl⟩
  have hrg : rg < p0 := by
    obtain ⟨mo, mc, ts, hr⟩ := h
    rw [← hp0]
    exact hr.low _ hr.self
  have hmt : ∀ W : World, (.makeFunc (.func 189) #[] #[.tmp 4, .tmp 5, .tmp 12] : Op) = (.makeFunc (.func 189) #[] #[.tmp 4, .tmp 5, .tmp 12] : Op) := fun _ => rfl
  clear hmt h
  have q1 : (1 : Int) ≤ (n : Int) := by omega
  have q2 : (n : Int) ≤ 64 := by omega
  have q3 : (1 : Int) ≤ (v : Int) := by omega
  have q4 : (v : Int) ≤ 255 := by omega
  have q5 : (n : Int) < 65 := by omega
  have q6 : (0 : Int) ≤ (n : Int) := by omega
  unfold RKeyP
  go_enter Tryz.func123, Tryz.ntmps123
  go_wp2_with fail
  refine (HN.out _).mono ?_
  rintro e w1 ⟨rfl, hf⟩
  have ha1 := (Fr.refl noBlock w).alloc (.cells #[.pointer (some ⟨rg, 0, none⟩)] 183)
  have hs1 : (w.alloc (.cells #[.pointer (some ⟨rg, 0, none⟩)] 183)).heap.size = p0 + 1 := by rw [← hp0]; simp
  have c0 : w1.cell? ⟨p0, 0, none⟩ = some (.pointer (some ⟨rg, 0, none⟩)) := by
    rw [← hp0]
    exact cell_of (hf.obj (heap_old _ (heap_new w _)) (fun z => z)) 0
  have c1 : w1.cell? ⟨p0 + 1, 0, none⟩ = some (.int .i64 (n : Int)) := by
    have := heap_new (w.alloc (.cells #[.pointer (some ⟨rg, 0, none⟩)] 183)) (.cells #[.int .i64 (n : Int)] 3)
    rw [hs1] at this
    exact cell_of (hf.obj this (fun z => z)) 0
  have H1 := Lib.hid (show Fr noBlock w w1 from (ha1.alloc _).trans' hf)
  have hs2 : p0 + 1 < w1.heap.size := World.block_lt_of_cell? _ _ c1
  clear hf ha1 HN
  go_upto_region 4 with fail
  have HKp := Lib.hid (show ∀ W, Fr noBlock w1 W → W.cell? ⟨p0, 0, none⟩ = some (.pointer (some ⟨rg, 0, none⟩)) ∧ W.cell? ⟨p0 + 1, 0, none⟩ = some (.int .i64 (n : Int)) from fun W hf => ⟨(hf.cell (p := ⟨p0, 0, none⟩) (World.block_lt_of_cell? _ _ c0) (fun z => z)).trans c0, (hf.cell (p := ⟨p0 + 1, 0, none⟩) (World.block_lt_of_cell? _ _ c1) (fun z => z)).trans c1⟩)
  go_region_held3 (fun W => W.cell? ⟨p0, 0, none⟩ = some (.pointer (some ⟨rg, 0, none⟩)) ∧ W.cell? ⟨p0 + 1, 0, none⟩ = some (.int .i64 (n : Int)))
    (first | exact HKp.out _ (by repeat (first | (with_reducible exact Fr.refl _ _) | (with_reducible refine Fr.drew ?_) | (with_reducible refine Fr.alloc ?_ _) | (with_reducible refine Fr.setCell ?_ (.inr (by simp)) _))) | fail "nokeep")
    (fail "noarm")
  all_goals
    obtain ⟨p2, hp2⟩ : ∃ p2, w1.heap.size = p2 := ⟨_, rfl⟩
    obtain ⟨w2, hw2⟩ : ∃ w2, (w1.alloc (.cells #[.pointer (some ⟨rg, 1 + n * 4, none⟩)] 277)).drew = w2 := ⟨_, rfl⟩
    rw [hp2, hw2]
    have hf2 : Fr noBlock w1 w2 := by rw [← hw2]; exact ((Fr.refl noBlock w1).alloc _).drew
    have d2 : w2.cell? ⟨p2, 0, none⟩ = some (.pointer (some ⟨rg, 1 + n * 4, none⟩)) := by
      rw [← hw2, World.cell?_drew, ← hp2]
      exact cell_of (heap_new w1 _) 0
    obtain ⟨d0, d1⟩ := HKp.out _ hf2
    have HD := Lib.hid (ring_do (p0 := p0) (p1 := p0 + 1) (p2 := p2) (n := n) (RingT.ok.fr0 HR.out (H1.out.trans' hf2)) hml (by omega) d0 d1 d2 (by omega) (by omega) (by omega))
    have H2 := Lib.hid (H1.out.trans' hf2)
    have hp2s := World.block_lt_of_cell? _ _ d2
    have hrw : rg < w.heap.size := by omega
    have hp2n : p2 ≠ rg := by omega
    have HD2 := Lib.hid d2
    clear c0 c1 d0 d1 HKp hf2 hw2 HR
    go_wp2_with fail
    refine HD.out.mono ?_
    rintro e w3 ⟨rfl, F', ⟨mo, mc, ts, ko, kc, k1, k2, k3⟩, k4, k5⟩
    have d2' := (k5.cell (p := ⟨p2, 0, none⟩) hp2s hp2n).trans HD2.out
    have HRr := Lib.hid (And.intro k1 (And.intro k3 (And.intro k4 (And.intro k5 (show 1 + n * 4 + 3 = 1 + n * 4 + 3 from rfl)))))
    clear k1 k3 k4 k5 HD d2 HD2
    go_upto_region 6 with fail
    have HI := Lib.hid (show ∀ W, Fr noBlock w3 W → Calls Tryz.prog 61 #[.int .i64 (v : Int)] W (fun e w' => e = .returned (.string (itoa v)) ∧ Fr noBlock W w') from fun W hW => HIto.out W (((H2.out.mono (fun _ z => z.elim)).trans' HRr.out.2.2.1.fr).trans' (hW.mono (fun _ z => z.elim))))
    clear HIto
    have HKq := Lib.hid (show ∀ W, Fr noBlock w3 W → W.cell? ⟨p2, 0, none⟩ = some (.pointer (some ⟨rg, 1 + n * 4, none⟩)) ∧ W.cell? ⟨rg, 1 + n * 4 + 3, none⟩ = some (.slice ko 32 kc) from fun W hf => ⟨(hf.cell (p := ⟨p2, 0, none⟩) (World.block_lt_of_cell? _ _ d2') (fun z => z)).trans d2', (hf.cell (p := ⟨rg, 1 + n * 4 + 3, none⟩) (World.block_lt_of_cell? _ _ k2) (fun z => z)).trans k2⟩)
    have HFo := Lib.hid (show ∀ (g : Nat) (W : World), Fr noBlock w3 W → W.heap[g]? = some (.cells #[.string (nameOf p), .string versionW, .string (itoa v)] 9 (0, 0)) → Calls Tryz.prog 190 #[.slice ko 32 kc, .slice (some ⟨g, 0, none⟩) 3 3] W (ShaP (keyK master n p v) W) from fun g W hW hg => by
      have hr : RowRd LabR W (some ⟨g, 0, none⟩) [nameOf p, versionW, itoa v] := RowRd.of_flat hg rfl (by unfold maxLen; simp)
      have hsz : ∀ s ∈ [nameOf p, versionW, itoa v], s.size ≤ 100000000000 := by
        intro s hs
        have h1 := itoa_size (n := v) (by omega)
        have h2 : versionW.size = 7 := rfl
        have h3 := nameOf_size p
        simp only [List.mem_cons, List.not_mem_nil, or_false] at hs
        rcases hs with rfl | rfl | rfl <;> omega
      have hkl : (tenantK master n).length = 32 := tenantK_len _ _
      have h := fold_any ((RowAt.rd HRr.out.2.1).fr0 hW) kc (by omega) hr 3 hsz (by simp)
      rw [hkl] at h
      exact h)
    unfold ShaP at HFo
    unfold versionW at HFo
    go_region_held3 (fun W => W.cell? ⟨p2, 0, none⟩ = some (.pointer (some ⟨rg, 1 + n * 4, none⟩)) ∧ W.cell? ⟨rg, 1 + n * 4 + 3, none⟩ = some (.slice ko 32 kc))
      (first | exact HKq.out _ (by repeat (first | (with_reducible exact Fr.refl _ _) | (with_reducible refine Fr.drew ?_) | (with_reducible refine Fr.alloc ?_ _) | (with_reducible exact F5) | (with_reducible refine Fr.trans' ?_ fI))) | fail "nokeep")
      (first
        | (go_at_call 61; (with_reducible refine (HI.out _ (by repeat (first | (with_reducible exact Fr.refl _ _) | (with_reducible refine Fr.drew ?_) | (with_reducible refine Fr.alloc ?_ _)))).mono ?_); rintro e w' ⟨rfl, fI⟩)
        | (go_at_call 190; (with_reducible refine (HFo.out _ _ (by repeat (first | (with_reducible exact Fr.refl _ _) | (with_reducible refine Fr.drew ?_) | (with_reducible refine Fr.alloc ?_ _) | (with_reducible refine Fr.trans' ?_ fI))) (Fr.obj (S := noBlock) (by repeat (first | (with_reducible exact Fr.refl _ _) | (with_reducible refine Fr.drew ?_))) (heap_new _ _) (fun z => z))).mono ?_); rintro e w5 ⟨⟨xa, xn, xc⟩, rfl, k1, k2, k3, k4⟩; unfold SV.val at k2 k4 ⊢; dsimp only at k1 k2 k4 ⊢; rw [keyK_len] at k1; subst k1; have F5 : Fr noBlock w3 w5 := Fr.trans' (by repeat (first | (with_reducible exact Fr.refl _ _) | (with_reducible refine Fr.drew ?_) | (with_reducible refine Fr.alloc ?_ _) | (with_reducible refine Fr.trans' ?_ fI))) k3)
        | fail "noarm")
    all_goals
      have hkn : ∀ k, (Value.slice xa 32 xc).ownBlock = some k → w3.heap.size ≤ k := fun k hk => Nat.le_trans (Fr.size (S := noBlock) (by repeat (first | (with_reducible exact Fr.refl _ _) | (with_reducible refine Fr.drew ?_) | (with_reducible refine Fr.alloc ?_ _) | (with_reducible refine Fr.trans' ?_ fI)))) (k4 k hk)
      have HE := Lib.hid (And.intro k2 (And.intro F5 hkn))
      clear k2 k3 k4 F5 hkn
      go_wp2_with fail
      go_ret2
      obtain ⟨hr3, hrow, hst, hfr, -⟩ := HRr.out
      have hst3 : Step F F' w w3 := ⟨(H2.out.mono (fun _ z => z.elim)).trans' hst.fr, fun k hk => (hst.foot k hk).imp id (fun hle => Nat.le_trans H2.out.size hle)⟩
      exact ⟨⟨xa, 32, xc⟩, F', rfl, rfl, HE.out.1, ⟨mo, mc, ts, hr3.fr0 HE.out.2.1⟩, hst3.news HE.out.2.1 (fun _ z => z.elim), fun k hk => ⟨Nat.le_trans hst3.size (HE.out.2.2 k hk), fun e => by have h1 := hr3.low k e; have h2 := HE.out.2.2 k hk; omega⟩⟩
end Go.Proofs.YtajhgejhdalobaaGreatDoor
namespace Go.Proofs.YtajhgejhdalobaaGreatDoor
open Go.RowKit

def vaultL (rg n v : Nat) (ts : List Ten) : List Value := .pointer (some ⟨rg, 0, none⟩) :: .int .i64 (n : Int) :: .int .i64 (v : Int) :: ts.flatMap Ten.cells
def vaultO (rg n v : Nat) (ts : List Ten) : Obj := .cells (vaultL rg n v ts).toArray 207 (0, 0)
section
variable {w : World} {vb rg n v : Nat} {ts : List Ten}
theorem vault_head (h : w.heap[vb]? = some (vaultO rg n v ts)) : w.cell? ⟨vb, 0, none⟩ = some (.pointer (some ⟨rg, 0, none⟩)) ∧ w.cell? ⟨vb, 1, none⟩ = some (.int .i64 (n : Int)) ∧ w.cell? ⟨vb, 2, none⟩ = some (.int .i64 (v : Int)) ∧ w.frozen? ⟨vb, 2, none⟩ = false := ⟨cell_of h 0, cell_of h 1, cell_of h 2, free_of h 2⟩
theorem vault_cell (h : w.heap[vb]? = some (vaultO rg n v ts)) {i : Nat} (hi : i < ts.length) {j : Nat} (hj : j < 4) : w.cell? ⟨vb, 3 + (i * 4 + j), none⟩ = (ts[i].cells)[j]? ∧ w.frozen? ⟨vb, 3 + (i * 4 + j), none⟩ = false := by
  refine ⟨?_, free_of h _⟩
  rw [cell_of h, List.getElem?_toArray]
  unfold vaultL
  rw [show 3 + (i * 4 + j) = (i * 4 + j) + 1 + 1 + 1 by omega, List.getElem?_cons_succ, List.getElem?_cons_succ, List.getElem?_cons_succ, ten_flat_get hi hj]
theorem vault_set (h : w.heap[vb]? = some (vaultO rg n v ts)) {i : Nat} (hi : i < ts.length) {j : Nat} (hj : j < 4) (u : Value) (y : Ten) (hy : y.cells = (ts[i].cells).set j u) : (w.setCell ⟨vb, 3 + (i * 4 + j), none⟩ u).heap[vb]? = some (vaultO rg n v (ts.set i y)) := by
  rw [heap_set_eq h]
  unfold vaultO vaultL
  congr 2
  rw [List.setIfInBounds_toArray, show 3 + (i * 4 + j) = (i * 4 + j) + 1 + 1 + 1 by omega, List.set_cons_succ, List.set_cons_succ, List.set_cons_succ, ten_flat_set hi hj u y hy]
theorem vault_now (h : w.heap[vb]? = some (vaultO rg n v ts)) (v' : Nat) : (w.setCell ⟨vb, 2, none⟩ (.int .i64 (v' : Int))).heap[vb]? = some (vaultO rg n v' ts) := by
  rw [heap_set_eq h]
  rfl
end
theorem keep_v {W : World} {vb o p0 p1 p2 : Nat} {a b c d e v : Value} (h0 : W.cell? ⟨p0, 0, none⟩ = some a) (h1 : W.cell? ⟨p1, 0, none⟩ = some b) (h2 : W.cell? ⟨p2, 0, none⟩ = some c) (h3 : W.cell? ⟨vb, 0, none⟩ = some d) (h4 : W.cell? ⟨vb, 1, none⟩ = some e) (_n0 : p0 ≠ vb) (_n1 : p1 ≠ vb) (_n2 : p2 ≠ vb) (n3 : 3 ≤ o) :
    ((W.setCell ⟨vb, o, none⟩ v).drew).cell? ⟨p0, 0, none⟩ = some a ∧ ((W.setCell ⟨vb, o, none⟩ v).drew).cell? ⟨p1, 0, none⟩ = some b ∧ ((W.setCell ⟨vb, o, none⟩ v).drew).cell? ⟨p2, 0, none⟩ = some c ∧ ((W.setCell ⟨vb, o, none⟩ v).drew).cell? ⟨vb, 0, none⟩ = some d ∧ ((W.setCell ⟨vb, o, none⟩ v).drew).cell? ⟨vb, 1, none⟩ = some e :=
  ⟨(World.cell?_setCell_other _ ⟨vb, o, none⟩ ⟨p0, 0, none⟩ _ (by simp <;> omega)).trans h0, (World.cell?_setCell_other _ ⟨vb, o, none⟩ ⟨p1, 0, none⟩ _ (by simp <;> omega)).trans h1, (World.cell?_setCell_other _ ⟨vb, o, none⟩ ⟨p2, 0, none⟩ _ (by simp <;> omega)).trans h2, (World.cell?_setCell_other _ ⟨vb, o, none⟩ ⟨vb, 0, none⟩ _ (by simp <;> omega)).trans h3, (World.cell?_setCell_other _ ⟨vb, o, none⟩ ⟨vb, 1, none⟩ _ (by simp <;> omega)).trans h4⟩
def VKey1P (vb rg n v i : Nat) (master : List UInt8) (ts : List Ten) (hi : i < ts.length) (G : Nat → Prop) (w w' : World) : Prop := ∃ (ko : Option Addr) (kc : Nat) (G' : Nat → Prop), w'.heap[vb]? = some (vaultO rg n v (ts.set i { ts[i] with v := .slice ko 32 kc })) ∧ RowAt 5 ByteR w' (.slice ko 32 kc) (keyK master n 1 i) ∧ (∀ k, (Value.slice ko 32 kc).ownBlock = some k → w.heap.size ≤ k ∧ ¬ G' k) ∧ RingT rg master w' G' ∧ Fr (fun k => k = vb ∨ G k) w w' ∧ ∀ k, G' k → G k ∨ w.heap.size ≤ k
set_option maxRecDepth 100000 in
set_option maxHeartbeats 3200000 in
theorem vkey1_any {w : World} {vb rg p0 p1 p2 n v i : Nat} {G : Nat → Prop} {master : List UInt8} {ts : List Ten} (hb : w.heap[vb]? = some (vaultO rg n v ts)) (hr : RingT rg master w G) (hG : ¬ G vb) (hml : master.length ≤ 64) (hn1 : 1 ≤ n) (hn : n ≤ 64) (hi1 : 1 ≤ i) (hi255 : i ≤ 255) (hI : ItoAt i G w) (hi : i < ts.length)
    (h0 : w.cell? ⟨p0, 0, none⟩ = some (.pointer (some ⟨vb, 0, none⟩))) (h1 : w.cell? ⟨p1, 0, none⟩ = some (.int .i64 (i : Int))) (h2 : w.cell? ⟨p2, 0, none⟩ = some (.pointer (some ⟨vb, 3 + i * 4, none⟩))) (n0 : p0 ≠ vb ∧ ¬ G p0) (n1 : p1 ≠ vb ∧ ¬ G p1) (n2 : p2 ≠ vb ∧ ¬ G p2) :
    Calls Tryz.prog 285 #[.pointer (some ⟨p0, 0, none⟩), .pointer (some ⟨p1, 0, none⟩), .pointer (some ⟨p2, 0, none⟩)] w fun e w' => e = .returned (.tuple #[]) ∧ VKey1P vb rg n v i master ts hi G w w' := by
  have HB := Lib.hid hb
  have hvb := heap_lt hb
  have HNe := Lib.hid (And.intro n0 (And.intro n1 (And.intro n2 hG)))
  have HRk := Lib.hid (show ∀ W, Fr noBlock w W → Calls Tryz.prog 123 #[.pointer (some ⟨rg, 0, none⟩), .int .i64 (n : Int), .int .i64 1, .int .i64 (i : Int)] W (RKeyP rg master (keyK master n 1 i) G W) from fun W hW => rkey_gen (RingT.ok.fr0 hr hW) hml hn1 hn (by decide) hi1 hi255 (hI.fr0 hW))
  unfold RKeyP at HRk
  have HKp := Lib.hid (show ∀ W, Fr G w W → W.cell? ⟨p0, 0, none⟩ = some (.pointer (some ⟨vb, 0, none⟩)) ∧ W.cell? ⟨p1, 0, none⟩ = some (.int .i64 (i : Int)) ∧ W.cell? ⟨p2, 0, none⟩ = some (.pointer (some ⟨vb, 3 + i * 4, none⟩)) ∧ W.cell? ⟨vb, 0, none⟩ = some (.pointer (some ⟨rg, 0, none⟩)) ∧ W.cell? ⟨vb, 1, none⟩ = some (.int .i64 (n : Int)) from fun W hf =>
    ⟨(hf.cell (p := ⟨p0, 0, none⟩) (World.block_lt_of_cell? _ _ h0) HNe.out.1.2).trans h0, (hf.cell (p := ⟨p1, 0, none⟩) (World.block_lt_of_cell? _ _ h1) HNe.out.2.1.2).trans h1, (hf.cell (p := ⟨p2, 0, none⟩) (World.block_lt_of_cell? _ _ h2) HNe.out.2.2.1.2).trans h2, (vault_head (hf.obj HB.out HNe.out.2.2.2)).1, (vault_head (hf.obj HB.out HNe.out.2.2.2)).2.1⟩)
  have m0 := n0.1
  have m1 := n1.1
  have m2 := n2.1
  clear hb hr hG n0 n1 n2 hI
  obtain ⟨c0, c1, c2, c3, c4⟩ := HKp.out _ (Fr.refl G w)
  clear h0 h1 h2
  unfold VKey1P
  go_enter Tryz.func285, Tryz.ntmps285
  go_region_held3 (fun W => W.cell? ⟨p0, 0, none⟩ = some (.pointer (some ⟨vb, 0, none⟩)) ∧ W.cell? ⟨p1, 0, none⟩ = some (.int .i64 (i : Int)) ∧ W.cell? ⟨p2, 0, none⟩ = some (.pointer (some ⟨vb, 3 + i * 4, none⟩)) ∧ W.cell? ⟨vb, 0, none⟩ = some (.pointer (some ⟨rg, 0, none⟩)) ∧ W.cell? ⟨vb, 1, none⟩ = some (.int .i64 (n : Int)))
    (first | exact keep_v d0 d1 d2 d3 d4 m0 m1 m2 (by omega) | exact HKp.out _ (by repeat (first | (with_reducible exact Fr.refl _ _) | (with_reducible refine Fr.drew ?_) | (with_reducible refine Fr.alloc ?_ _) | (with_reducible refine Fr.trans' ?_ k3))) | fail "nokeep")
    (first
      | (go_at_call 123; (with_reducible refine (HRk.out _ (by repeat (first | (with_reducible exact Fr.refl _ _) | (with_reducible refine Fr.drew ?_) | (with_reducible refine Fr.alloc ?_ _)))).mono ?_); rintro e w5 ⟨⟨xa, xn, xc⟩, G', rfl, k1, k2, k5, k6, k7⟩; unfold SV.val at k2 k7 ⊢; dsimp only at k1 k2 k7 ⊢; subst k1; have k3 := k6.fr; have F5 : Fr G w w5 := (((Fr.refl G w).drew)).trans' k3; have hb5 := F5.obj HB.out HNe.out.2.2.2; obtain ⟨za, z1⟩ := vault_cell hb5 hi (j := 3) (by omega); have z0 : w5.cell? ⟨vb, 3 + i * 4 + 3, none⟩ = some ts[i].v := za; have z2 : w5.frozen? ⟨vb, 3 + i * 4 + 3, none⟩ = false := z1; obtain ⟨d0, d1, d2, d3, d4⟩ := HKp.out _ F5; clear za z1)
      | fail "noarm")
  have HR := Lib.hid (vault_set hb5 hi (j := 3) (by omega) (.slice xa 32 xc) { ts[i] with v := .slice xa 32 xc } rfl)
  have HK2 := Lib.hid (And.intro k2 (And.intro k5 (And.intro k6 k7)))
  have HF5 := Lib.hid F5
  clear k2 k3 k5 k6 k7 hb5 z0 z2 d0 d1 d2 d3 d4 F5
  go_end0
  obtain ⟨k2, k5, k6, k7⟩ := HK2.out
  have fs : Fr (fun k => k = vb) w5 (w5.setCell ⟨vb, 3 + i * 4 + 3, none⟩ (.slice xa 32 xc)) := fr_set_at (Fr.refl _ w5) (3 + i * 4 + 3) _
  have hnew : ∀ k, (Value.slice xa 32 xc).ownBlock = some k → w.heap.size ≤ k ∧ ¬ G' k := fun k hk => k7 k hk
  have hvG : ¬ G' vb := fun h => (k6.foot _ h).elim HNe.out.2.2.2 (fun hle => by have : w.heap.size ≤ vb := hle; omega)
  refine ⟨rfl, xa, xc, G', HR.out, k2.fr fs (fun k hk e => ?_), hnew, RingT.ok.fr k5 fs (fun k hk e => hvG (e ▸ hk)), ?_, fun k hk => (k6.foot k hk).imp id (fun h => h)⟩
  · have := (hnew k hk).1
    omega
  · exact (HF5.out.mono (fun k hk => .inr hk)).trans' (fs.mono (fun k hk => .inl hk))
end Go.Proofs.YtajhgejhdalobaaGreatDoor
