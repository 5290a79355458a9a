/-
  THE WALK of route.Find.
-/
import Derived.Test.YtpdkilfncflngaaRtWalk
namespace Go.Proofs.Ytpdkilfncflngaa
open Go.RowKit

theorem headS_size (s : ByteArray) (n : Nat) : (headS s n).size ≤ s.size := by
  unfold headS
  rw [ByteArray.size_extract]; omega
theorem ret_two {a : Int} {b : Bool} {o : Option Int} (ha : o.getD 0 = a) (hb : o.isSome = b) : Ending.returned (.tuple #[.int .i64 a, .bool b]) = .returned (.tuple #[.int .i64 (o.getD 0), .bool o.isSome]) := by rw [ha, hb]

set_option maxRecDepth 100000 in
set_option maxHeartbeats 800000 in
theorem find_any {l : Nat} {rs : List Route} {w : World} {F : Nat → Prop} (h : TableAt l rs w F) (s : ByteArray) (hs : s.size ≤ maxLen) :
    Calls Try.prog 11 #[.pointer (some ⟨l, 0, none⟩), .string s] w fun e w' => e = .returned (.tuple #[.int .i64 ((findR rs s).getD 0), .bool (findR rs s).isSome]) ∧ Fr noBlock w w' := by
  obtain ⟨bm, c0, hl, hne, hbm, hmap, _, _⟩ := h.opened
  have hsz := hs
  unfold maxLen at hsz
  have Hlook := Lib.hid (fun (W : World) (hW : Fr noBlock w W) (n : Nat) => (hmap.fr hW (fun x => x)).look (mt := 48) Try.underlying9 Try.underlying48 Try.underlying3 (zero_int _) (headS s n) (Nat.le_trans (headS_size s n) hs))
  obtain ⟨N, hN⟩ : ∃ N, N = min s.size 8 := ⟨_, rfl⟩
  have hR : findR rs s = findN rs s N := by rw [hN]; rfl
  have hN1 : min (s.size : Int) 8 = (N : Int) := by omega
  have hN2 : N ≤ s.size := by omega
  have hN3 : N ≤ 8 := by omega
  have HR := Lib.hid hR
  have hmin : ∀ (W : World) (ty : TypeId), (Builtin.min_ #[3, 3] ty #[.int .i64 (s.size : Int), .int .i64 8]).run Try.prog W = .ok (.int .i64 (N : Int)) W := by
    intro W ty
    by_cases h8 : s.size ≤ 8
    · have e : (N : Int) = (s.size : Int) := by omega
      have h8' : ¬ (8 : Int) < (s.size : Int) := by omega
      rw [e]
      simp only [Builtin.min_, List.foldlM_cons, List.foldlM_nil, Builtin.min2, if_neg h8', Sem.run_bind, Sem.run_pure, Result.andThen]
    · have e : (N : Int) = 8 := by omega
      have h8' : (8 : Int) < (s.size : Int) := by omega
      rw [e]
      simp only [Builtin.min_, List.foldlM_cons, List.foldlM_nil, Builtin.min2, if_pos h8', Sem.run_bind, Sem.run_pure, Result.andThen]
  clear hR h hmap hN hN1
  go_enter Try.func11, Try.ntmps11
  go_wp2_with fail
  go_loopw [6] (fun s6 wr => ∃ n : Nat, n ≤ N ∧ s6 = .int .i64 n ∧ Fr noBlock w wr ∧ Hid (∀ m, n < m → m ≤ N → lookR rs (headS s m) = none)) (fun s6 _ => (intOf s6).toNat)
  case atStart =>
    refine ⟨N, Nat.le_refl _, ?_, Fr.refl _ _, Lib.hid (fun m h1 h2 => by omega)⟩
    rfl
  case round =>
    obtain ⟨n, hn, rfl, hf, hno⟩ := hrel
    have c1 := (hf.cell (p := ⟨l, 0, none⟩) hl (fun x => x)).trans c0
    by_cases h0 : 0 < n
    · have hn0 : (0 : Int) < (n : Int) := by omega
      have hn1 : (n : Int) ≤ (s.size : Int) := by omega
      have hn8 : (n : Int) ≤ 8 := by omega
      have hlook := fun q => Hlook.out (wr.drewN q) (hf.drewN q) n
      unfold headS at hlook
      cases hlk : lookR rs (headS s n) with
      | some t =>
        unfold headS at hlk
        rw [hlk] at hlook
        simp only [Option.getD_some, Option.isSome_some] at hlook
        have Hres : Hid (findN rs s N = some t) := Lib.hid (findN_some.2 ⟨n, h0, hn, hlk, hno.out⟩)
        have Hf := Lib.hid hf
        clear hlk hf
        go_wp2_with fail
        go_quiet (fail)
        go_wp2_with fail
        go_ret2
        exact ⟨ret_two (by rw [HR.out, Hres.out]; rfl) (by rw [HR.out, Hres.out]; rfl), Hf.out.drewN _⟩
      | none =>
        have Hno : Hid (∀ m, n - 1 < m → m ≤ N → lookR rs (headS s m) = none) := Lib.hid (fun m h1 h2 => by
          by_cases e : m = n
          · subst e; exact hlk
          · exact hno.out m (by omega) h2)
        unfold headS at hlk
        rw [hlk] at hlook
        simp only [Option.getD_none, Option.isSome_none] at hlook
        have Hf := Lib.hid hf
        clear hlk hf
        go_wp2_with fail
        go_quiet (fail)
        go_wp2_with fail
        go_roundw
        case rel => exact ⟨n - 1, by omega, by go_num, Hf.out.drewN _, Hno⟩
        case measure => simp [intOf]; omega
    · have hn0 : (n : Int) ≤ 0 := by omega
      have Hres : Hid (findN rs s N = none) := Lib.hid (findN_none.2 (fun m h1 h2 => hno.out m (by omega) h2))
      have Hf := Lib.hid hf
      clear hf
      go_wp2_with fail
      go_ret2
      exact ⟨ret_two (by rw [HR.out, Hres.out]; rfl) (by rw [HR.out, Hres.out]; rfl), Hf.out⟩
end Go.Proofs.Ytpdkilfncflngaa
