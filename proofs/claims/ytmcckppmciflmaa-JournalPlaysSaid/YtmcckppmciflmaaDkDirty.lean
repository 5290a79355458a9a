/-
  THE WALK of disk.Dirty.
-/
import Derived.Test.YtmcckppmciflmaaDkWrite
import Derived.Test.YtmcckppmciflmaaInts
namespace Go.Proofs.Ytmcckppmciflmaa
open Go.RowKit

def dirtNs (l : Dirt) : List Int := l.map (fun p => (p.1 : Int))
theorem met_sorted {l : Dirt} (hl : Rise l) {f : Int → Option Value} {xs : List Int} (hn : xs.Nodup) (hx : ∀ a, a ∈ xs ↔ (f a).isSome = true) (hf : ∀ a, (f a).isSome = (lookD l a).isSome) : xs.mergeSort leI = dirtNs l ∧ xs.length = l.length := by
  have hs : (dirtNs l).Pairwise (fun a b => a < b) := by
    unfold dirtNs
    rw [List.pairwise_map]
    exact hl.imp (fun {a b} h => by omega)
  have hnd : (dirtNs l).Nodup := hs.imp (fun {a b} h e => by omega)
  have hp : xs.Perm (dirtNs l) := by
    refine (List.perm_ext_iff_of_nodup hn hnd).2 fun x => ?_
    rw [hx x, hf x]
    unfold dirtNs
    rw [List.mem_map]
    constructor
    · intro h
      obtain ⟨b, hb⟩ := Option.isSome_iff_exists.1 h
      obtain ⟨p, hp, e, _⟩ := lookD_mem hb
      exact ⟨p, hp, e⟩
    · rintro ⟨p, hp, rfl⟩
      rw [lookD_of_mem hl hp]; rfl
  refine ⟨?_, by rw [hp.length_eq]; unfold dirtNs; simp⟩
  have tr : ∀ a b c : Int, leI a b = true → leI b c = true → leI a c = true := fun a b c h1 h2 => by simp only [leI, decide_eq_true_eq] at *; omega
  have to : ∀ a b : Int, (leI a b || leI b a) = true := fun a b => by simp only [leI, Bool.or_eq_true, decide_eq_true_eq]; omega
  refine List.Perm.eq_of_pairwise (le := fun a b => leI a b = true) (fun a b _ _ h1 h2 => ?_) (List.pairwise_mergeSort tr to xs) (hs.imp (fun {a b} h => by simp only [leI, decide_eq_true_eq]; omega)) ((List.mergeSort_perm xs leI).trans hp)
  simp only [leI, decide_eq_true_eq] at h1 h2
  omega

def DirtyP (l : Dirt) (w : World) (e : Ending) (w' : World) : Prop := ∃ ao cap, e = .returned (.slice ao l.length cap) ∧ RowAt 3 IntR w' (.slice ao l.length cap) (dirtNs l) ∧ Fr noBlock w w' ∧ ∀ k, (Value.slice ao l.length cap).ownBlock = some k → w.heap.size ≤ k
theorem rangeFr {w w' : World} {b : Nat} (h : w.grownBy w' (some b)) {w0 : World} (hf : Fr noBlock w0 w) (hb : w0.heap.size ≤ b) : Fr noBlock w0 w' := hf.grown h (fun k hk => by cases hk; exact .inr hb)

set_option maxRecDepth 100000 in
set_option maxHeartbeats 1000000 in
theorem dirty_any {l : Nat} {d : DK} {w : World} {F : Nat → Prop} (h : DiskAt l d w F) : Calls Try.prog 22 #[.pointer (some ⟨l, 0, none⟩)] w (DirtyP d.dirty w) := by
  obtain ⟨acts, part, sv, ss, bm, g, hin⟩ := h
  obtain ⟨_, _, _, _, _, _, c6⟩ := hin.cells
  have hdl := dirt_len hin.good
  obtain ⟨D, hown, hD⟩ := hin.map
  have hbm := hin.map.lt
  have HD := Lib.hid hD
  have hDs := hD.size
  have Hfin := Lib.hid (fun (xs : List Int) (hn : xs.Nodup) (hx : ∀ a, a ∈ xs ↔ ((fun n => (g n).map SV.val) a).isSome = true) => met_sorted hin.good.rise hn hx (fun a => by simp only [Option.isSome_map]; exact hin.dirt a))
  generalize (fun n => (g n).map SV.val) = f at *
  generalize d.dirty = dl at *
  clear hin hD
  go_enter Try.func22, Try.ntmps22
  go_wp2_with (first
    | (at_range; refine wpList_range_own _ rfl _ 41 rfl 3 23 kI.law Try.underlying41 _ bm dl.length _ rfl hown ?_; intro w0 hrg0 hg0 hs0)
    | go_in)
  go_frame
  go_loopw [3] (fun v wr => ∃ (left : Lit → Bool) (cnt : Nat) (xs : List Int) (ao : Option Addr) (cap : Nat), wr.ranges Try.prog 3 heldR bm w.heap.size dl.length D left cnt ∧ xs.length + cnt ≤ dl.length ∧ v = .slice ao xs.length cap ∧
      wr.ownsRow w.heap.size 3 IntR.k v xs.length (IntR.flat xs) ∧ Hid (Met kI f left xs) ∧ Fr noBlock w wr) (fun _ wr => wr.rangeLeft bm w.heap.size)
  case atStart =>
    exact ⟨_, _, [], none, 0, hrg0, by simp [hDs], rfl, World.ownsRow_nil _ _ _ _, Lib.hid (Met.start HD.out), (Fr.refl noBlock w).grown hg0 (fun j hj => by cases hj)⟩
  case round =>
    obtain ⟨left, cnt, xs, ao, cap, hrg, hcs, rfl, hrow, hC, hf⟩ := hrel
    clear hs0 hg0 hrg0
    go_wp2_with (first
      | (at_next; refine wpList_next_ranges _ rfl _ rfl 3 kI.law heldR (Value.int .i64) (fun v : Value => v) (fun key kl hk => by obtain ⟨x, _, hx, _⟩ := kI.back hk; exact ⟨x, hx⟩) (fun v y hv => ⟨v, rfl⟩) bm w.heap.size dl.length _ _ _ rfl hrg ?_ ?_)
      | go_in)
    · intro hc0 hl0
      obtain ⟨hsd, hln⟩ := Hfin.out xs hC.out.1 (hC.out.done hl0)
      have hc := sortI_any hrow (by omega)
      rw [hsd] at hc
      have Hf := Lib.hid hf
      have Hlow := Lib.hid (fun k hk => (hrow.lt k hk).1)
      have Hln := Lib.hid hln
      clear hsd hrg hf hC hrow hown hDs hdl hcs hc0 hl0 hln
      go_wp2_with fail
      refine hc.mono ?_
      rintro e w2 ⟨rfl, hrow2, hg2⟩
      have hf2 : Fr noBlock w w2 := Hf.out.grown hg2 (fun j hj => .inr (Hlow.out j hj))
      have Hrow2 := Lib.hid hrow2
      have Hf2 := Lib.hid hf2
      clear hrow2 hg2 hc hf2
      go_wp2_with fail
      go_ret
      refine ⟨ao, cap, by rw [← Hln.out]; rfl, ?_, Hf2.out, fun k hk => Hlow.out k (by rw [← Hln.out] at hk; exact hk)⟩
      rw [← Hln.out]
      exact RowAt.of_own Hrow2.out (by rw [Hln.out]; simp [dirtNs])
    · intro x c kl yd yp w2 cnt2 hkey hlk hv hat hrg2 hlt hg2 hs2 hen
      obtain ⟨x', _, ex, rfl⟩ := kI.back hkey
      obtain rfl : x = x' := by simpa [kI, keyI] using ex
      obtain ⟨_, _, hC2⟩ := hC.out.step HD.out hlk hat
      have hrow2 := hrow.kept hg2 (Or.inr (row_ne_iter hrow hrg).symm)
      have HC2 := Lib.hid hC2
      have hf2 := rangeFr hg2 hf (Nat.le_refl _)
      have Hf2 := Lib.hid hf2
      have hsz := hf2.size
      have hx1 : xs.length + 1 ≤ 4096 := by omega
      clear hs2 hC hC2 hf2 hf ex
      go_wp2_with (at_builtin; apply stop_here)
      refine ⟨?_, trivial⟩
      refine wpList_app rfl _ _ rfl el_ints (v := .slice ao xs.length cap) xs [x] (xs ++ [x]) rfl w.heap.size xs.length (xs.length + 1) (by simp) rfl (hrow2.alloc _) rfl (RowRd.one (heap_new w2 _) x rfl) rfl (by unfold maxLen; omega) (by omega) (by simp; omega) ?_
      intro ao3 cap3 w3 o3 g3 _
      go_frame
      have hrg3 := (hrg2.alloc _).kept g3 (row_ne_low hrow2 hbm) (row_ne_iter hrow2 hrg2)
      have O3 := Lib.hid o3
      have Hf3 := Lib.hid ((Hf2.out.alloc _).grown g3 (fun k hk => .inr (hrow2.lt k hk).1))
      clear o3 g3 hrg2
      go_wp2_with fail
      go_roundw
      case rel => exact ⟨_, cnt2, xs ++ [x], ao3, cap3, hrg3, by simp; omega, by simp, by simpa using O3.out, HC2, Hf3.out⟩
      case measure => rw [hrg3.left_eq, hrg.left_eq]; exact hlt
end Go.Proofs.Ytmcckppmciflmaa
