/-
  THE WALKS of Put's two closures, slices.IndexFunc and Clone at fields.
-/
import Derived.Shelf.Abstract
import Derived.Lib.SliceRun
import Derived.Test.YthckgkghmlkcnaaDoorIsN
namespace Go.Proofs.YthckgkghmlkcnaaDoor
open Go.RowKit

abbrev Fld.val (f : Fld) : Value := .agg #[.int .i64 f.n, .string f.v]
theorem put1_any (f : Fld) (n : Int) (B : Nat) (w : World) (hc : w.cell? ⟨B, 0, none⟩ = some (.int .i64 n)) (hB : B < w.heap.size) :
    Calls Tryd.prog 42 #[f.val, .pointer (some ⟨B, 0, none⟩)] w fun e w' => e = .returned (.bool (decide (n < f.n))) ∧ Fr noBlock w w' := by
  have hf0 := (Fr.refl noBlock w).alloc (.cells #[.int .i64 f.n, .string f.v] 41)
  have hne : B ≠ w.heap.size := by omega
  go_enter Tryd.func42, Tryd.ntmps42
  go_wp2
  go_ret
  exact ⟨rfl, hf0⟩
/-- what the second closure holds: how many came, the number, where it was put -/
structure Del2 (W : World) (A N K : Nat) (a n k : Int) : Prop where
  a : W.heap[A]? = some (.cells #[.int .i64 a] 3 (0, 0))
  n : W.heap[N]? = some (.cells #[.int .i64 n] 3 (0, 0))
  k : W.heap[K]? = some (.cells #[.int .i64 k] 3 (0, 0))
theorem Del2.fr {S : Nat → Prop} {W W' : World} {A N K : Nat} {a n k : Int} (h : Del2 W A N K a n k) (f : Fr S W W') (h1 : ¬ S A) (h2 : ¬ S N) (h3 : ¬ S K) : Del2 W' A N K a n k := ⟨f.obj h.a h1, f.obj h.n h2, f.obj h.k h3⟩
def Put2P (A N K : Nat) (fn a n k : Int) (W : World) (e : Ending) (w' : World) : Prop := e = .returned (.bool (decide (fn = n) && !decide (a = k))) ∧ Del2 w' A N K (a + 1) n k ∧ Fr (fun b => b = A) W w'
set_option maxHeartbeats 800000 in
theorem put2_any (f : Fld) {A N K : Nat} {a n k : Int} {W : World} (h : Del2 W A N K a n k) (hAN : A ≠ N) (hAK : A ≠ K) (ha : 0 ≤ a ∧ a ≤ 140737488355328) (hk : 0 ≤ k ∧ k ≤ 140737488355328) :
    Calls Tryd.prog 45 #[f.val, .pointer (some ⟨A, 0, none⟩), .pointer (some ⟨N, 0, none⟩), .pointer (some ⟨K, 0, none⟩)] W (Put2P A N K f.n a n k W) := by
  obtain ⟨fn, fv⟩ := f
  have hb := heap_set_eq (i := 0) (u := .int .i64 (a + 1)) h.a
  have HD := Lib.hid (show Del2 ((W.setCell ⟨A, 0, none⟩ (.int .i64 (a + 1))).alloc (.cells #[.int .i64 fn, .string fv] 41)) A N K (a + 1) n k from
    ⟨heap_old _ (by simpa using hb), heap_old _ (heap_set_ne h.n (Ne.symm hAN)), heap_old _ (heap_set_ne h.k (Ne.symm hAK))⟩)
  have HF := Lib.hid (((Fr.refl (fun b => b = A) W).setCell (p := ⟨A, 0, none⟩) (.inl rfl) (.int .i64 (a + 1))).alloc (.cells #[.int .i64 fn, .string fv] 41))
  have c1 := cell_of h.a 0
  have c2 := cell_of h.n 0
  have c3 := cell_of h.k 0
  have z1 := free_of h.a 0
  simp at c1 c2 c3
  have l1 := heap_lt h.a
  have l2 := heap_lt h.n
  have l3 := heap_lt h.k
  have d1 : A ≠ W.heap.size := by omega
  have d2 : N ≠ W.heap.size := by omega
  have d3 : K ≠ W.heap.size := by omega
  have hNA : N ≠ A := Ne.symm hAN
  have hKA : K ≠ A := Ne.symm hAK
  obtain ⟨a0, a1⟩ := ha
  obtain ⟨k0, k1⟩ := hk
  have hw1 : IntKind.i64.wrap (a + 1) = a + 1 := IntWalk.i64_in _ (by omega)
  have hw2 : IntKind.i64.wrap (k + 1) = k + 1 := IntWalk.i64_in _ (by omega)
  unfold Fld.val
  dsimp only
  clear hb h
  by_cases hn : fn = n
  · have hnb : (fn == n) = true := by simpa using hn
    have HE := Lib.hid (show Put2P A N K fn a n k W (.returned (.bool (a + 1 != k + 1))) ((W.setCell ⟨A, 0, none⟩ (.int .i64 (a + 1))).alloc (.cells #[.int .i64 fn, .string fv] 41)) from
      ⟨by congr 2; rw [decide_eq_true hn, Bool.true_and, Bool.eq_iff_iff]; simp, HD.out, HF.out⟩)
    clear hn
    go_enter Tryd.func45, Tryd.ntmps45
    go_wp2_with fail
    go_ret
    exact HE.out
  · have hnb : (fn == n) = false := by simpa using hn
    have HE := Lib.hid (show Put2P A N K fn a n k W (.returned (.bool false)) ((W.setCell ⟨A, 0, none⟩ (.int .i64 (a + 1))).alloc (.cells #[.int .i64 fn, .string fv] 41)) from
      ⟨by congr 2; rw [decide_eq_false hn]; rfl, HD.out, HF.out⟩)
    clear hn
    go_enter Tryd.func45, Tryd.ntmps45
    go_wp2_with fail
    go_ret
    exact HE.out
def IdxP (n : Nat) (p : Nat → Bool) (I : Nat → World → Prop) (e : Ending) (w' : World) : Prop :=
  (∃ i, i < n ∧ p i = true ∧ (∀ j, j < i → p j = false) ∧ e = .returned (.int .i64 (i : Int)) ∧ I (i + 1) w') ∨ ((∀ j, j < n → p j = false) ∧ e = .returned (.int .i64 (-1)) ∧ I n w')
set_option maxRecDepth 100000 in
set_option maxHeartbeats 800000 in
theorem indexF_any {ao : Option Addr} (cap : Nat) (xs : List Fld) (g : Nat) (lb : Array Value) (eg : ∀ args w, (callFunc g args).run Tryd.prog w = .ok (.enter g args) w) (p : Nat → Bool) (I : Nat → World → Prop) (hrow : ∀ i W, I i W → RowRd FldR W ao xs)
    (hp : ∀ (i : Nat) (hi : i < xs.length) (W : World), I i W → Calls Tryd.prog g (#[xs[i].val] ++ lb) W fun e w' => e = .returned (.bool (p i)) ∧ I (i + 1) w') (hl : xs.length ≤ maxLen) (w : World) (h0 : I 0 w) :
    Calls Tryd.prog 41 #[.slice ao xs.length cap, .func (.func g) #[] lb] w (IdxP xs.length p I) := by
  unfold maxLen at hl
  have Hp := Lib.hid hp
  have Hrow := Lib.hid hrow
  have H0 := Lib.hid h0
  clear hp hrow h0
  go_enter Tryd.func41, Tryd.ntmps41
  go_wp2_with fail
  go_loopw [5, 8] (fun s5 s8 wr => ∃ k : Nat, k ≤ xs.length ∧ s8 = .int .i64 k ∧ Hid (I k wr) ∧ Hid (∀ j, j < k → p j = false)) (fun _ s8 _ => xs.length - (intOf s8).toNat)
  case atStart => exact ⟨0, Nat.zero_le _, rfl, H0, Lib.hid (fun j hj => absurd hj (Nat.not_lt_zero _))⟩
  case round =>
    obtain ⟨k, hk, rfl, hI, hn⟩ := hrel
    by_cases hlt : k < xs.length
    · obtain ⟨b, off, rfl, hb, c0, c1⟩ := fld_cells (Hrow.out _ _ hI.out) hlt
      have h1 : (k : Int) < (xs.length : Int) := by omega
      have h0' : (0 : Int) ≤ (k : Int) := by omega
      have hk1 : k + 1 ≤ xs.length := hlt
      have hcall := Hp.out k hlt wr hI.out
      have Hlt := Lib.hid hlt
      cases hpk : p k with
      | true =>
        rw [hpk] at hcall
        have Hc := Lib.hid hcall
        have Hpk := Lib.hid hpk
        clear hcall hpk
        generalize xs[k] = x at *
        clear hlt
        go_wp2_with fail
        refine Hc.out.mono ?_
        rintro e w' ⟨rfl, hI'⟩
        have HI' := Lib.hid hI'
        clear hI'
        go_wp2_with fail
        go_ret
        exact .inl ⟨k, Hlt.out, Hpk.out, hn.out, rfl, HI'.out⟩
      | false =>
        rw [hpk] at hcall
        have Hc := Lib.hid hcall
        have Hn := Lib.hid (show ∀ j, j < k + 1 → p j = false from fun j hj => by
          by_cases e : j = k
          · rw [e]; exact hpk
          · exact hn.out j (by omega))
        clear hcall hpk
        generalize xs[k] = x at *
        clear hlt
        go_wp2_with fail
        refine Hc.out.mono ?_
        rintro e w' ⟨rfl, hI'⟩
        have HI' := Lib.hid hI'
        clear hI'
        go_wp2_with fail
        go_roundw
        case rel => exact ⟨k + 1, hk1, by go_num, HI', Hn⟩
        case measure => simp [intOf]; omega
    · have h1 : (xs.length : Int) ≤ (k : Int) := by omega
      have e : k = xs.length := by omega
      subst e
      clear hlt
      go_wp2_with fail
      go_ret
      exact .inr ⟨hn.out, rfl, hI.out⟩
/-- a clone of fields -/
def FCloneP (l : List Fld) (w : World) (e : Ending) (w' : World) : Prop := ∃ s : SV, e = .returned s.val ∧ s.n = l.length ∧ RowAt 41 FldR w' s.val l ∧ Fr noBlock w w' ∧ ∀ k, s.val.ownBlock = some k → w.heap.size ≤ k
set_option maxHeartbeats 800000 in
theorem fclone_any {w : World} {ao : Option Addr} {l : List Fld} (h : RowRd FldR w ao l) (cap : Nat) (hb : l.length * 24 ≤ 140737488355328) (hno : ao = none → cap = 0) : Calls Tryd.prog 40 #[.slice ao l.length cap] w (FCloneP l w) := by
  have q := fun (w : World) (a : Option Addr) (n c : Nat) => Lib.run_eql_slice_nil (P := Tryd.prog) w 25 41 a n c 0 0 Tryd.underlying25
  have H := Lib.hid h
  cases ao with
  | none =>
    have hl : l = [] := by
      cases l with
      | nil => rfl
      | cons f r =>
        obtain ⟨b, off, e, _⟩ := fld_cells h (i := 0) (by simp)
        cases e
    subst hl
    have hc := hno rfl
    subst hc
    clear h hno
    go_enter Tryd.func40, Tryd.ntmps40
    go_wp2_with fail
    go_ret
    exact ⟨⟨none, 0, 0⟩, rfl, rfl, RowAt.nil, Fr.refl _ _, fun k hk => by cases hk⟩
  | some a =>
    clear h hno
    go_enter Tryd.func40, Tryd.ntmps40
    go_wp2_with (at_builtin; apply stop_here)
    refine ⟨?_, trivial⟩
    refine wpList_app rfl _ _ rfl el_fld (v := .slice (some ⟨w.heap.size, 0, none⟩) 0 0) [] l l rfl w.heap.size 0 l.length rfl rfl (World.ownsRow_made w #[] 0 (Nat.le_refl _) (Nat.zero_le _) rfl) rfl (H.out.fr0 ((Fr.refl _ _).alloc _)) rfl (by unfold maxLen; omega) (by omega) (by simp) ?_
    intro ao2 cap2 w2 o2 g2 _
    go_frame
    have O2 := Lib.hid o2
    have hf := (((Fr.refl noBlock w).alloc (.cells #[] 41)).grown g2 (fun k hk => by simp [Value.ownBlock] at hk; subst hk; exact .inr (Nat.le_refl _)))
    have Hf := Lib.hid hf
    clear o2 g2 hf
    go_wp2_with fail
    go_ret
    exact ⟨⟨ao2, l.length, cap2⟩, rfl, rfl, RowAt.of_own O2.out rfl, Hf.out, fun k hk => (O2.out.lt k hk).1⟩
end Go.Proofs.YthckgkghmlkcnaaDoor
