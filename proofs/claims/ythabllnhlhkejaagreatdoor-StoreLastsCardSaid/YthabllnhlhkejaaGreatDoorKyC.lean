/-
  THE WALK of a ring's closure: what all of a tenant's keys begin with.
-/
import Derived.Laws.IdiomStrings
import Derived.Deep.RegionHeld3
import Derived.Test.YthabllnhlhkejaaGreatDoorBxA
namespace Go.Proofs.YthabllnhlhkejaaGreatDoor
open Go.RowKit

def LabR : Rec ByteArray := ⟨1, fun s => [.string s], fun _ => rfl, fun s u hu => by simp at hu; subst hu; rfl⟩
theorem labK : LabR.k = 1 := rfl
theorem lab_rd {w : World} {b off : Nat} {ls : List ByteArray} (h : RowRd LabR w (some ⟨b, off, none⟩) ls) {i : Nat} (hi : i < ls.length) : w.cell? ⟨b, off + i, none⟩ = some (.string ls[i]) := by
  obtain ⟨b', off', e, _, h3⟩ := h.at' i hi
  cases e
  have h0 := h3 0 (.string ls[i]) rfl
  rw [labK, Nat.mul_one, Nat.add_zero] at h0
  exact h0
theorem foldK_snoc (key : List UInt8) (l : List (List UInt8)) (s : List UInt8) : foldK key (l ++ [s]) = mac (foldK key l) (be8 s.length ++ s) := by
  induction l generalizing key with
  | nil => rfl
  | cons x l ih => exact ih _
def labB (s : ByteArray) : List UInt8 := s.data.toList
theorem labB_len (s : ByteArray) : (labB s).length = s.size := by unfold labB; rw [Array.length_toList]; rfl
theorem conv_str (W : World) (s : ByteArray) (hs : s.size ≤ maxLen) : ∃ ao cap w', (convert 9 28 (.string s)).run Tryz.prog W = .ok (.slice ao s.size cap) w' ∧ RowRd ByteR w' ao (labB s) ∧ Fr noBlock W w' := by
  refine ⟨_, _, _, run_bytes_of_string W 9 28 5 s Tryz.underlying9 Tryz.underlying28 Tryz.underlying5, ?_, (Fr.refl noBlock W).drew.alloc _⟩
  refine ⟨by rw [labB_len]; exact hs, fun i hi => ⟨W.heap.size, 0, rfl, heap_lt (heap_new W.drew _), fun j u hu => ?_⟩⟩
  have hj : j = 0 := by
    have := (List.getElem?_eq_some_iff.1 hu).1
    have e : (ByteR.cells (labB s)[i]).length = 1 := rfl
    omega
  subst hj
  rw [byteK, Nat.mul_one, Nat.zero_add, Nat.add_zero]
  have hsz : i < s.data.size := by have := hi; rw [labB_len] at this; exact this
  have c := cell_of (heap_new W.drew (.cells (bytesRow s (grownCap W s.size 0 5)) 5 ((bytesRow s (grownCap W s.size 0 5)).size, (bytesRow s (grownCap W s.size 0 5)).size + 1))) i
  rw [bytesRow_at s _ i hsz] at c
  have hu2 : u = .int .u8 (s.data[i].toNat : Int) := (Option.some.inj hu).symm
  rw [hu2]
  exact c
theorem foldK_len (key : List UInt8) (l : List (List UInt8)) (h : key.length ≤ 1099511627776) : (foldK key l).length ≤ 1099511627776 := by
  induction l generalizing key with
  | nil => exact h
  | cons x l ih => exact ih _ (by rw [mac_len]; omega)
set_option maxRecDepth 100000 in
set_option maxHeartbeats 3200000 in
theorem fold_any {w : World} {ko : Option Addr} {key : List UInt8} (hk : RowRd ByteR w ko key) (kc : Nat) (hl : key.length ≤ 1099511627776) {la : Option Addr} {ls : List ByteArray} (hr : RowRd LabR w la ls) (lc : Nat) (hsz : ∀ s ∈ ls, s.size ≤ 100000000000) (hls : ls.length ≤ 1000000) :
    Calls Tryz.prog 61 #[.slice ko key.length kc, .slice la ls.length lc] w (ShaP (foldK key (ls.map labB)) w) := by
  have HC := Lib.hid (clone_any hk kc (by omega))
  unfold CloneP at HC
  have HR := Lib.hid hr
  have HSz := Lib.hid hsz
  have HL := Lib.hid hl
  clear hr hk hsz hl
  unfold ShaP
  go_enter Tryz.func61, Tryz.ntmps61
  go_wp2_with fail
  refine HC.out.mono ?_
  rintro e w1 ⟨⟨xa, xn, xc⟩, rfl, h1, h2, h3, h4⟩
  unfold SV.val at h2 h4 ⊢
  dsimp only at h1 h2 h4 ⊢
  subst h1
  have H1 := Lib.hid (And.intro h2 (And.intro h3 h4))
  clear h2 h3 h4 HC
  go_wp2_with fail
  go_loopw [5, 12] (fun s5 s12 W => ∃ (i : Nat) (xo : Option Addr) (xn xc : Nat), i ≤ ls.length ∧ s12 = .int .i64 i ∧ s5 = .slice xo xn xc ∧ xn = (foldK key ((ls.take i).map labB)).length ∧ Hid (RowAt 5 ByteR W (.slice xo xn xc) (foldK key ((ls.take i).map labB)) ∧ Fr noBlock w W ∧ ∀ k, (Value.slice xo xn xc).ownBlock = some k → w.heap.size ≤ k)) (fun _ s12 _ => ls.length - (intOf s12).toNat)
  case atStart => exact ⟨0, xa, key.length, xc, by omega, rfl, rfl, rfl, H1⟩
  case round =>
    clear H1
    obtain ⟨i, xo, xn, xc, hi, rfl, rfl, hxn, HI⟩ := hrel
    by_cases hlt : i < ls.length
    · have q1 : (i : Int) < (ls.length : Int) := by omega
      have q0 : (0 : Int) ≤ (i : Int) := by omega
      obtain ⟨b, off, rfl, -, -⟩ := HR.out.at' i hlt
      have c0 := lab_rd (HR.out.fr0 HI.out.2.1) hlt
      obtain ⟨s, hs⟩ : ∃ s, ls[i] = s := ⟨_, rfl⟩
      have hsl := HSz.out ls[i] (List.getElem_mem hlt)
      rw [hs] at c0 hsl
      have HS := Lib.hid (show foldK key ((ls.take (i + 1)).map labB) = mac (foldK key ((ls.take i).map labB)) (be8 s.size ++ labB s) by
        rw [List.take_succ_eq_append_getElem hlt, hs, List.map_append, List.map_cons, List.map_nil, foldK_snoc]
        rfl)
      clear hs
      obtain ⟨K, hK⟩ : ∃ K, foldK key ((ls.take i).map labB) = K := ⟨_, rfl⟩
      have HKl := Lib.hid (foldK_len key ((ls.take i).map labB) HL.out)
      rw [hK] at HI HS hxn HKl
      clear hK
      have H8 := Lib.hid (fun W => eight_any s.size (by omega) W)
      unfold ShaP at H8
      go_wp2_with fail
      refine (H8.out _).mono ?_
      rintro e w2 ⟨⟨ea, en, ec⟩, rfl, h1, h2, h3, h4⟩
      unfold SV.val at h2 h4 ⊢
      dsimp only at h1 h2 h4 ⊢
      rw [be8_len] at h1
      subst h1
      have H2 := Lib.hid (And.intro (RowAt.rd h2) h3)
      clear h2 h3 h4 c0
      obtain ⟨ba, bc, w3, hcv, hcr, hcf⟩ := conv_str w2 s (by unfold maxLen; omega)
      have HC3 := Lib.hid (And.intro hcr hcf)
      have HM := Lib.hid (show Calls Tryz.prog 65 #[.slice xo K.length xc, .slice (some ⟨w3.heap.size, 0, none⟩) 2 2] (w3.alloc (.cells #[.slice ea 8 ec, .slice ba s.size bc] 28)) (ShaP (mac K (be8 s.size ++ labB s)) (w3.alloc (.cells #[.slice ea 8 ec, .slice ba s.size bc] 28))) by
        have ha := (Fr.refl noBlock w3).alloc (.cells #[.slice ea 8 ec, .slice ba s.size bc] 28)
        have hr : RowRd SliceR (w3.alloc (.cells #[.slice ea 8 ec, .slice ba s.size bc] 28)) (some ⟨w3.heap.size, 0, none⟩) [(⟨ea, 8, ec⟩ : SV), ⟨ba, s.size, bc⟩] := RowRd.of_flat (heap_new w3 _) rfl (by unfold maxLen; simp)
        have hp : PartsRd (w3.alloc (.cells #[.slice ea 8 ec, .slice ba s.size bc] 28)) [(⟨ea, 8, ec⟩ : SV), ⟨ba, s.size, bc⟩] [be8 s.size, labB s] := by
          refine ⟨rfl, fun i sv p h1 h2 => ?_⟩
          have hi : i < 2 := (List.getElem?_eq_some_iff.1 h1).1
          rcases (show i = 0 ∨ i = 1 by omega) with rfl | rfl
          · simp at h1 h2
            subst h1 h2
            exact ⟨(be8_len _).symm, (H2.out.1.fr0 hcf).fr0 ha⟩
          · simp at h1 h2
            subst h1 h2
            exact ⟨(labB_len s).symm, hcr.fr0 ha⟩
        have := mac_any ((RowAt.rd HI.out.1).fr0 (H2.out.2.trans' (hcf.trans' ha))) xc HKl.out hr hp 2 (by simp [be8_len, labB_len]; omega) (by simp)
        simpa using this)
      unfold ShaP at HM
      clear hcr hcf
      go_wp2_with fail
      refine HM.out.mono ?_
      rintro e w4 ⟨⟨ya, yn, yc⟩, rfl, h1, h2, h3, h4⟩
      unfold SV.val at h2 h4 ⊢
      dsimp only at h1 h2 h4 ⊢
      have f4 := HI.out.2.1.trans' (H2.out.2.trans' ((HC3.out.2.alloc (.cells #[.slice ea 8 ec, .slice ba s.size bc] 28)).trans' h3))
      have HE := Lib.hid (show RowAt 5 ByteR w4 (.slice ya yn yc) (foldK key ((ls.take (i + 1)).map labB)) ∧ Fr noBlock w w4 ∧ ∀ k, (Value.slice ya yn yc).ownBlock = some k → w.heap.size ≤ k from ⟨by rw [HS.out]; exact h2, f4, fun k hk => by
        have a1 := h4 k hk
        have a2 := HI.out.2.1.size
        have a3 := H2.out.2.size
        have a4 := HC3.out.2.size
        simp at a1
        omega⟩)
      have hyn : yn = (foldK key ((ls.take (i + 1)).map labB)).length := by rw [HS.out]; exact h1
      clear h1 h2 h3 h4 f4 HM hcv
      go_wp2_with fail
      go_roundw
      case rel => exact ⟨i + 1, ya, yn, yc, hlt, by go_num, rfl, hyn, HE⟩
      case measure => simp [intOf]; omega
    · have q1 : (ls.length : Int) ≤ (i : Int) := by omega
      obtain rfl : i = ls.length := by omega
      rw [List.take_length] at HI hxn
      go_wp2_with fail
      go_ret
      exact ⟨⟨xo, xn, xc⟩, rfl, hxn, HI.out.1, HI.out.2.1, HI.out.2.2⟩
end Go.Proofs.YthabllnhlhkejaaGreatDoor
namespace Go.Proofs.YthabllnhlhkejaaGreatDoor
open Go.RowKit

/-- a tenant's part of a ring: its Once (done, the lock), its key -/
structure Ten where
  d : Int
  s : Int
  q : Int
  v : Value
def Ten.cells (t : Ten) : List Value := [.int .u32 t.d, .int .i32 t.s, .int .u32 t.q, t.v]
def ringL (v : Value) (ts : List Ten) : List Value := v :: ts.flatMap Ten.cells
def ringO (v : Value) (ts : List Ten) : Obj := .cells (ringL v ts).toArray 118 (0, 0)
def tens0 : List Ten := List.replicate 65 ⟨0, 0, 0, .slice none 0 0⟩
def RNewP (key : List UInt8) (w : World) (e : Ending) (w' : World) : Prop := ∃ (rg : Nat) (ko : Option Addr) (kc : Nat), e = .returned (.tuple #[.pointer (some ⟨rg, 0, none⟩), .int .i64 0]) ∧ w'.heap[rg]? = some (ringO (.slice ko key.length kc) tens0) ∧ RowRd ByteR w' ko key ∧ (0 < key.length → ∀ a, ko = some a → a.block ≠ rg ∧ w.heap.size ≤ a.block) ∧ Fr noBlock w w' ∧ w.heap.size ≤ rg
set_option maxRecDepth 100000 in
set_option maxHeartbeats 6400000 in
theorem rnew_any {w : World} {ao : Option Addr} {key : List UInt8} (h : RowRd ByteR w ao key) (cap : Nat) (h16 : 16 ≤ key.length) (h64 : key.length ≤ 64) : Calls Tryz.prog 30 #[.slice ao key.length cap] w (RNewP key w) := by
  have HC := Lib.hid (clone_any h cap (by omega))
  unfold CloneP at HC
  clear h
  unfold RNewP
  have q1 : (16 : Int) ≤ (key.length : Int) := by omega
  have q2 : (key.length : Int) ≤ 64 := by omega
  go_enter Tryz.func30, Tryz.ntmps30
  go_wp2_with fail
  refine HC.out.mono ?_
  rintro e w1 ⟨⟨xa, xn, xc⟩, rfl, h1, h2, h3, h4⟩
  unfold SV.val at h2 h4 ⊢
  dsimp only at h1 h2 h4 ⊢
  subst h1
  have H1 := Lib.hid (And.intro h2 (And.intro h3 h4))
  clear h2 h3 h4 HC
  go_wp2_with fail
  go_ret2
  refine ⟨w1.heap.size, xa, xc, rfl, heap_new w1 _, RowAt.rd (H1.out.1.fr0 ((Fr.refl noBlock w1).alloc _)), fun _ a e => ?_, H1.out.2.1.alloc _, H1.out.2.1.size⟩
  subst e
  have h5 := H1.out.1.lt a.block rfl
  exact ⟨by omega, H1.out.2.2 a.block rfl⟩
end Go.Proofs.YthabllnhlhkejaaGreatDoor
namespace Go.Proofs.YthabllnhlhkejaaGreatDoor
open Go.RowKit

/-- a tenant's part of a ring is four cells (its key in one of them) -/
theorem ten_flat_len (ts : List Ten) : (ts.flatMap Ten.cells).length = ts.length * 4 := by
  induction ts with
  | nil => rfl
  | cons t ts ih =>
    rw [List.flatMap_cons, List.length_append, ih, List.length_cons]
    have : t.cells.length = 4 := rfl
    omega
theorem ten_flat_get {ts : List Ten} {i : Nat} (hi : i < ts.length) {j : Nat} (hj : j < 4) : (ts.flatMap Ten.cells)[i * 4 + j]? = (ts[i].cells)[j]? := by
  induction ts generalizing i with
  | nil => simp at hi
  | cons t ts ih =>
    have hl : t.cells.length = 4 := rfl
    rw [List.flatMap_cons]
    cases i with
    | zero => rw [List.getElem?_append_left (by omega)]; simp
    | succ i =>
      rw [show (i + 1) * 4 + j = t.cells.length + (i * 4 + j) by omega, List.getElem?_append_right (by omega), Nat.add_sub_cancel_left, ih (by simpa using hi)]
      simp
theorem ten_flat_set {ts : List Ten} {i : Nat} (hi : i < ts.length) {j : Nat} (hj : j < 4) (u : Value) (y : Ten) (hy : y.cells = (ts[i].cells).set j u) : (ts.flatMap Ten.cells).set (i * 4 + j) u = (ts.set i y).flatMap Ten.cells := by
  induction ts generalizing i with
  | nil => simp at hi
  | cons t ts ih =>
    have hl : t.cells.length = 4 := rfl
    rw [List.flatMap_cons]
    cases i with
    | zero =>
      rw [List.set_append_left _ _ (by omega), List.set_cons_zero, List.flatMap_cons, hy]
      simp
    | succ i =>
      rw [show (i + 1) * 4 + j = t.cells.length + (i * 4 + j) by omega, List.set_append_right _ _ (by omega), Nat.add_sub_cancel_left, ih (by simpa using hi) (by simpa using hy), List.set_cons_succ, List.flatMap_cons]
section
variable {w : World} {rg : Nat} {v : Value} {ts : List Ten}
theorem ring_key (h : w.heap[rg]? = some (ringO v ts)) : w.cell? ⟨rg, 0, none⟩ = some v := cell_of h 0
theorem ring_cell (h : w.heap[rg]? = some (ringO v ts)) {i : Nat} (hi : i < ts.length) {j : Nat} (hj : j < 4) : w.cell? ⟨rg, 1 + (i * 4 + j), none⟩ = (ts[i].cells)[j]? ∧ w.frozen? ⟨rg, 1 + (i * 4 + j), none⟩ = false := by
  refine ⟨?_, free_of h _⟩
  rw [cell_of h, List.getElem?_toArray]
  unfold ringL
  rw [Nat.add_comm 1, List.getElem?_cons_succ, ten_flat_get hi hj]
theorem ring_set (h : w.heap[rg]? = some (ringO v ts)) {i : Nat} (hi : i < ts.length) {j : Nat} (hj : j < 4) (u : Value) (y : Ten) (hy : y.cells = (ts[i].cells).set j u) : (w.setCell ⟨rg, 1 + (i * 4 + j), none⟩ u).heap[rg]? = some (ringO v (ts.set i y)) := by
  rw [heap_set_eq h]
  unfold ringO ringL
  congr 2
  rw [List.setIfInBounds_toArray, Nat.add_comm 1, List.set_cons_succ, ten_flat_set hi hj u y hy]
end
end Go.Proofs.YthabllnhlhkejaaGreatDoor
namespace Go.Proofs.YthabllnhlhkejaaGreatDoor
open Go.RowKit

def itoa (n : Nat) : ByteArray := ⟨(Lib.decDigits n).toArray⟩
def tenantW : ByteArray := ⟨#[116, 101, 110, 97, 110, 116]⟩
theorem itoa_size {n : Nat} (h : n < 100) : (itoa n).size ≤ 20 := by
  have g : ∀ m, m < 100 → (itoa m).size ≤ 20 := by decide +kernel
  exact g n h
/-- what all of a tenant's keys begin with -/
def tenantK (master : List UInt8) (n : Nat) : List UInt8 := foldK master [labB tenantW, labB (itoa n)]
theorem tenantK_len (master : List UInt8) (n : Nat) : (tenantK master n).length = 32 := by
  show (foldK master ([labB tenantW] ++ [labB (itoa n)])).length = 32
  rw [foldK_snoc, mac_len]
theorem keep_k {W : World} {rg o p0 p1 p2 : Nat} {a b c d v : Value} (h0 : W.cell? ⟨p0, 0, none⟩ = some a) (h1 : W.cell? ⟨p1, 0, none⟩ = some b) (h2 : W.cell? ⟨p2, 0, none⟩ = some c) (h3 : W.cell? ⟨rg, 0, none⟩ = some d) (_n0 : p0 ≠ rg) (_n1 : p1 ≠ rg) (_n2 : p2 ≠ rg) (n3 : o ≠ 0) :
    ((W.setCell ⟨rg, o, none⟩ v).drew).cell? ⟨p0, 0, none⟩ = some a ∧ ((W.setCell ⟨rg, o, none⟩ v).drew).cell? ⟨p1, 0, none⟩ = some b ∧ ((W.setCell ⟨rg, o, none⟩ v).drew).cell? ⟨p2, 0, none⟩ = some c ∧ ((W.setCell ⟨rg, o, none⟩ v).drew).cell? ⟨rg, 0, none⟩ = some d :=
  ⟨(World.cell?_setCell_other _ ⟨rg, o, none⟩ ⟨p0, 0, none⟩ _ (by simp <;> omega)).trans h0, (World.cell?_setCell_other _ ⟨rg, o, none⟩ ⟨p1, 0, none⟩ _ (by simp <;> omega)).trans h1, (World.cell?_setCell_other _ ⟨rg, o, none⟩ ⟨p2, 0, none⟩ _ (by simp <;> omega)).trans h2, (World.cell?_setCell_other _ ⟨rg, o, none⟩ ⟨rg, 0, none⟩ _ (by simp <;> omega)).trans h3⟩
set_option maxRecDepth 100000 in
set_option maxHeartbeats 3200000 in
theorem key1_any {w : World} {rg p0 p1 p2 n : Nat} {mo : Option Addr} {mc : Nat} {master : List UInt8} {ts : List Ten} (hb : w.heap[rg]? = some (ringO (.slice mo master.length mc) ts)) (hm : RowRd ByteR w mo master) (hml : master.length ≤ 64) (hn : n < ts.length) (hn100 : n < 100)
    (h0 : w.cell? ⟨p0, 0, none⟩ = some (.pointer (some ⟨rg, 0, none⟩))) (h1 : w.cell? ⟨p1, 0, none⟩ = some (.int .i64 (n : Int))) (h2 : w.cell? ⟨p2, 0, none⟩ = some (.pointer (some ⟨rg, 1 + n * 4, none⟩))) (n0 : p0 ≠ rg) (n1 : p1 ≠ rg) (n2 : p2 ≠ rg) :
    Calls Tryz.prog 60 #[.pointer (some ⟨p0, 0, none⟩), .pointer (some ⟨p1, 0, none⟩), .pointer (some ⟨p2, 0, none⟩)] w fun e w' => e = .returned (.tuple #[]) ∧ ∃ (ko : Option Addr) (kc : Nat), w'.heap[rg]? = some (ringO (.slice mo master.length mc) (ts.set n { ts[n] with v := .slice ko 32 kc })) ∧ RowAt 5 ByteR w' (.slice ko 32 kc) (tenantK master n) ∧ (∀ k, (Value.slice ko 32 kc).ownBlock = some k → w.heap.size ≤ k) ∧ Fr (fun k => k = rg) w w' := by
  have HB := Lib.hid hb
  have hrg := heap_lt hb
  have HI := Lib.hid (fun W => Tryz.strconv_Itoa_small n hn100 W)
  have HFo := Lib.hid (show ∀ (g : Nat) (W : World), Fr noBlock w W → W.heap[g]? = some (.cells #[.string tenantW, .string (itoa n)] 9 (0, 0)) → Calls Tryz.prog 61 #[.slice mo master.length mc, .slice (some ⟨g, 0, none⟩) 2 2] W (ShaP (tenantK master n) W) from fun g W hW hg => by
    have hr : RowRd LabR W (some ⟨g, 0, none⟩) [tenantW, itoa n] := RowRd.of_flat hg rfl (by unfold maxLen; simp)
    have hsz : ∀ s ∈ [tenantW, itoa n], s.size ≤ 100000000000 := by
      intro s hs
      have h1 := itoa_size hn100
      have h2 : tenantW.size = 6 := rfl
      simp only [List.mem_cons, List.not_mem_nil, or_false] at hs
      rcases hs with rfl | rfl <;> omega
    exact fold_any (hm.fr0 hW) mc (by omega) hr 2 hsz (by simp))
  unfold ShaP at HFo
  have HKp := Lib.hid (show ∀ W, Fr noBlock w W → W.cell? ⟨p0, 0, none⟩ = some (.pointer (some ⟨rg, 0, none⟩)) ∧ W.cell? ⟨p1, 0, none⟩ = some (.int .i64 (n : Int)) ∧ W.cell? ⟨p2, 0, none⟩ = some (.pointer (some ⟨rg, 1 + n * 4, none⟩)) ∧ W.cell? ⟨rg, 0, none⟩ = some (.slice mo master.length mc) from fun W hf =>
    ⟨(hf.cell (p := ⟨p0, 0, none⟩) (World.block_lt_of_cell? _ _ h0) (fun z => z)).trans h0, (hf.cell (p := ⟨p1, 0, none⟩) (World.block_lt_of_cell? _ _ h1) (fun z => z)).trans h1, (hf.cell (p := ⟨p2, 0, none⟩) (World.block_lt_of_cell? _ _ h2) (fun z => z)).trans h2, ring_key (hf.obj HB.out (fun z => z))⟩)
  clear hb hm
  obtain ⟨c0, c1, c2, c3⟩ := HKp.out _ (Fr.refl noBlock w)
  clear h0 h1 h2
  unfold itoa tenantW at HFo
  go_enter Tryz.func60, Tryz.ntmps60
  go_region_held3 (fun W => W.cell? ⟨p0, 0, none⟩ = some (.pointer (some ⟨rg, 0, none⟩)) ∧ W.cell? ⟨p1, 0, none⟩ = some (.int .i64 (n : Int)) ∧ W.cell? ⟨p2, 0, none⟩ = some (.pointer (some ⟨rg, 1 + n * 4, none⟩)) ∧ W.cell? ⟨rg, 0, none⟩ = some (.slice mo master.length mc))
    (first | exact keep_k d0 d1 d2 d3 n0 n1 n2 (by omega) | exact HKp.out _ (by repeat (first | (with_reducible exact Fr.refl _ _) | (with_reducible refine Fr.drew ?_) | (with_reducible refine Fr.alloc ?_ _) | (with_reducible refine Fr.trans' ?_ k3))) | fail "nokeep")
    (first
      | (go_at_call 36; (with_reducible refine (HI.out _).mono ?_); rintro e w' ⟨rfl, rfl⟩)
      | (go_at_call 61; (with_reducible refine (HFo.out _ _ (by repeat (first | (with_reducible exact Fr.refl _ _) | (with_reducible refine Fr.drew ?_) | (with_reducible refine Fr.alloc ?_ _))) (((Fr.refl noBlock _).drew).obj (heap_new w _) (fun z => z))).mono ?_); rintro e w5 ⟨⟨xa, xn, xc⟩, rfl, k1, k2, k3, k4⟩; unfold SV.val at k2 k4 ⊢; dsimp only at k1 k2 k4 ⊢; rw [tenantK_len] at k1; subst k1; have F5 : Fr noBlock w w5 := (((Fr.refl noBlock w).alloc _).drew).trans' k3; have hb5 := F5.obj HB.out (fun z => z); obtain ⟨za, z1⟩ := ring_cell hb5 hn (j := 3) (by omega); have z0 : w5.cell? ⟨rg, 1 + n * 4 + 3, none⟩ = some ts[n].v := za; have z2 : w5.frozen? ⟨rg, 1 + n * 4 + 3, none⟩ = false := z1; obtain ⟨d0, d1, d2, d3⟩ := HKp.out _ F5; clear za z1)
      | fail "noarm")
  have HR := Lib.hid (ring_set hb5 hn (j := 3) (by omega) (.slice xa 32 xc) { ts[n] with v := .slice xa 32 xc } rfl)
  have hkn : ∀ k, (Value.slice xa 32 xc).ownBlock = some k → w.heap.size ≤ k := fun k hk => by
    have := k4 k hk
    simp at this
    omega
  have HK2 := Lib.hid (And.intro k2 hkn)
  have HF5 := Lib.hid F5
  clear k2 k3 k4 hb5 z0 z2 d0 d1 d2 d3 F5 hkn
  go_end0
  refine ⟨rfl, xa, xc, HR.out, HK2.out.1.fr (fr_set_at (Fr.refl _ w5) (1 + n * 4 + 3) _) (fun k hk e => ?_), HK2.out.2, ?_⟩
  · have := HK2.out.2 k hk
    omega
  · exact fr_set_at (HF5.out.mono (fun _ z => z.elim)) (1 + n * 4 + 3) _
end Go.Proofs.YthabllnhlhkejaaGreatDoor
