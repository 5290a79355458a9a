/-
  THE WALK of route.List.
-/
import Derived.Test.YtpdkilfncflngaaRtSort
import Derived.Maps.AppendAt
import Derived.Deep.AppendLies
namespace Go.Proofs.Ytpdkilfncflngaa
open Go.RowKit Go.Sort

theorem info_str : (Try.prog.info? 9).map (fun i => (i.zero, i.size, i.bytes)) = some (some (.string ⟨#[]⟩), 1, 16) := by kernel_rfl
theorem info_route : (Try.prog.info? 42).map (fun i => (i.zero, i.size, i.bytes)) = some (some (.agg #[.string ⟨#[]⟩, .int .i64 0]), 2, 24) := by kernel_rfl
theorem law_str : Maps.Keyed Try.prog 9 := Maps.string_keyed Try.underlying9

theorem stopHere {X : Prop} (h : X ∧ True) : X := h.1
set_option maxRecDepth 100000 in
set_option maxHeartbeats 1000000 in
theorem list_any {l : Nat} {rs : List Route} {w : World} {F : Nat → Prop} (h : TableAt l rs w F) :
    Calls Try.prog 19 #[.pointer (some ⟨l, 0, none⟩)] w fun e w' => ∃ v, e = .returned v ∧ RowAt 42 RouteR w' v rs ∧ Fr noBlock w w' ∧ ∀ k, v.ownBlock = some k → w.heap.size ≤ k := by
  obtain ⟨bm, c0, hl, hne, hbm, hmap, _, _⟩ := h.opened
  have hgood := h.choose_spec.2.2.2.2
  have hmap' := hmap
  obtain ⟨D, hown, hD⟩ := hmap'
  have hlen := hgood.len
  have HD := Lib.hid hD
  have Hgood := Lib.hid hgood
  have Hmap := Lib.hid hmap
  have hDs := hD.size
  have C0 := Lib.hid c0
  obtain ⟨i1, hi1, hz1, hz2, hz3⟩ := info_parts info_str
  clear h hmap hgood hD
  go_enter Try.func19, Try.ntmps19
  go_wp2_with (first
    | (at_range; refine wpList_range_own _ rfl _ 48 rfl 9 3 law_str Try.underlying48 _ bm rs.length _ rfl hown ?_; intro w0 hrg0 hg0 hs0)
    | go_in)
  go_frame
  go_loopw [3] (fun v wr => ∃ (left : Lit → Bool) (cnt : Nat) (ss : List (List UInt8)), wr.ranges Try.prog 9 (plainElem Try.prog 3) bm w.heap.size rs.length D left cnt ∧ ss.length + cnt ≤ rs.length ∧
      wr.ownsRow w.heap.size 9 1 v ss.length (ss.map encStr) ∧ Hid (Collected D left ss) ∧ Fr noBlock w wr) (fun _ wr => wr.rangeLeft bm w.heap.size)
  case atStart =>
    exact ⟨_, _, [], hrg0, by simp [hDs], World.ownsRow_nil _ _ _ _, Lib.hid (Collected.start D), (Fr.refl noBlock w).grown hg0 (fun j hj => by cases hj)⟩
  case round =>
    obtain ⟨left, cnt, ss, hrg, hcs, hrow, hC, hf⟩ := hrel
    clear hs0 hg0 hrg0
    go_wp2_with (first
      | (at_next; refine wpList_next_ranges _ rfl _ rfl 9 law_str (plainElem Try.prog 3) encStr (Value.int .i64) (fun key kl hk => by obtain ⟨x, hx, _⟩ := Maps.keyOf_str Try.underlying9 hk; exact ⟨x, hx⟩) (fun v y hv => by obtain ⟨c, rfl, _⟩ := plainElem_int_inv Try.underlying3 hv; exact ⟨c, rfl⟩) bm w.heap.size rs.length _ _ _ rfl hrg ?_ ?_)
      | go_in)
    · intro hc0 hl0
      have hsorted := sorted_keys HD.out Hgood.out.sorted hC.out hl0
      have hln : ss.length = rs.length := by have := congrArg List.length hsorted; simpa using this
      have hc := sort_any hrow (by omega)
      rw [hsorted] at hc
      have Hf := Lib.hid hf
      clear hsorted hrg hf hC
      go_wp2_with fail
      refine hc.mono ?_
      rintro e w2 ⟨rfl, hrow2, hg2⟩
      have hf2 : Fr noBlock w w2 := Hf.out.grown hg2 (fun j hj => .inr (hrow.lt j hj).1)
      rw [hln] at hrow2
      have r2 := strs_row rfl hrow2
      obtain ⟨sa, scap, rfl, hsc1, hsc2, _, _⟩ := r2.shape
      rw [List.length_map] at r2 hsc1
      have R2 := Lib.hid r2
      have Hf2 := Lib.hid hf2
      obtain ⟨i0, hi0, hz0, hz1', hz2'⟩ := info_parts info_route
      clear hrow2 hg2 hc Hf hrow hf2 r2 hcs hc0 hl0 hln hbm hown HD hDs hi1 hz1 hz2 hz3
      rw [List.length_map]
      go_wp2_with fail
      go_loopw [5, 25] (fun s5 s25 wr => ∃ (i : Nat) (ao : Option Addr) (cap : Nat), i ≤ rs.length ∧ s25 = .int .i64 i ∧ s5 = .slice ao i cap ∧ wr.ownsRow w2.heap.size 42 2 s5 i (RouteR.flat (rs.take i)) ∧ Fr noBlock w2 wr) (fun _ s25 _ => rs.length - (intOf s25).toNat)
      case atStart => exact ⟨0, none, 0, Nat.zero_le _, rfl, rfl, World.ownsRow_nil _ _ _ _, Fr.refl _ _⟩
      case round =>
        obtain ⟨i, ao, cap, hi, rfl, rfl, hrow, hf⟩ := hrel
        have hfw := Hf2.out.trans' hf
        have c1 := (hfw.cell (p := ⟨l, 0, none⟩) hl (fun x => x)).trans C0.out
        by_cases hlt : i < rs.length
        · have hlt' : (i : Int) < (rs.length : Int) := by omega
          have hx := (R2.out.fr0 hf).elem (i := i) (by simpa using hlt)
          obtain ⟨g, rfl, hg, -, -, hcel, -⟩ := hx
          have y0 := hcel 0 (.string rs[i].pre) (by simp [StrR])
          have hlook := (Hmap.out.fr hfw (fun x => x)).look1 (mt := 48) Try.underlying9 Try.underlying48 Try.underlying3 (zero_int _) rs[i].pre (pre_len (Hgood.out.pre _ (List.getElem_mem hlt)))
          rw [lookR_of_mem Hgood.out.sorted (List.getElem_mem hlt), Option.getD_some] at hlook
          have y1 : wr.cell? ⟨g, i, none⟩ = some (.string rs[i].pre) := by
            rw [← y0]; congr 1; show _ = (⟨g, i * 1 + 0, none⟩ : Addr); simp
          have Hhp := Lib.hid (List.take_succ_eq_append_getElem hlt)
          have Hrow := Lib.hid hrow
          have Hf := Lib.hid hf
          clear hcel y0 hrow hf
          generalize rs[i] = r at *
          clear c0
          have Hsz := Lib.hid (Nat.le_trans Hf.out.size (Nat.le_refl _))
          go_wp2_with (at_builtin; apply stopHere)
          refine ⟨?_, trivial⟩
          refine wpList_append_own _ rfl _ _ 39 rfl w2.heap.size 42 i0 (.agg #[.string ⟨#[]⟩, .int .i64 0]) 2 24 Try.underlying39 hi0 hz0 hz1' hz2' rfl (by decide) _ _ _ rfl (Hrow.out.alloc _) ⟨wr.heap.size, 0, none⟩ 1 1 [.string r.pre, .int .i64 r.target] rfl rfl (World.news_of_block (heap_new wr _)) (by simp [Value.oneCell']) (by unfold maxLen at *; omega) (by omega) (by have := Hsz.out; simp; omega) ?_
          intro v' w5 hown5 hg5 hnil5; go_frame
          have hsh : ∃ ao' cap', v' = .slice ao' (i + 1) cap' := by
            rcases hown5.2 with ⟨q1, q2⟩ | ⟨g, cap', cur, q, _⟩
            · omega
            · exact ⟨_, _, q⟩
          obtain ⟨ao', cap', rfl⟩ := hsh
          clear hnil5
          go_wp2_with fail
          go_roundw
          case rel =>
            refine ⟨i + 1, ao', cap', by omega, by go_num, rfl, ?_, (Hf.out.alloc _).grown hg5 (fun j hj => .inr (Hrow.out.lt j hj).1)⟩
            rw [Hhp.out, RouteR.flat_append, RouteR.flat_one]
            exact hown5
          case measure => simp [intOf]; omega
        · have hlt' : (rs.length : Int) ≤ (i : Int) := by omega
          go_wp2_with fail
          go_ret
          have e : i = rs.length := by omega
          subst e
          rw [List.take_length] at hrow
          obtain ⟨q1, q2⟩ := hrow
          refine ⟨.slice ao rs.length cap, rfl, ⟨q1, ?_⟩, hfw, fun k hk => Nat.le_trans Hf2.out.size (World.ownsRow.lt ⟨q1, q2⟩ k hk).1⟩
          rcases q2 with q2 | ⟨g, cap', cur, q, hb, rest⟩
          · exact .inl q2
          · exact .inr ⟨g, cap', cur, q, Nat.zero_le _, rest⟩
    · intro x c kl yd yp w2 cnt2 hkey hlk hv hat hrg2 hlt hg2 hs2 hen
      obtain ⟨x', ex, rfl, _⟩ := Maps.keyOf_str Try.underlying9 hkey
      obtain rfl : x = x' := encStr_inj ex
      have hrow2 := hrow.kept hg2 (Or.inr (row_ne_iter hrow hrg).symm)
      clear hs2
      go_wp2_with (first
        | (at_builtin; refine wpList_append_own _ rfl _ _ 57 rfl w.heap.size 9 i1 (.string ⟨#[]⟩) 1 16 Try.underlying57 hi1 hz1 hz2 hz3 rfl (by decide) _ _ _ rfl (hrow2.alloc _) ⟨w2.heap.size, 0, none⟩ 1 1 [encStr x] rfl rfl (cell_one_new _ _ _) (by simp [Value.oneCell', encStr]) (by unfold maxLen at *; omega) (by omega) (by have := hf.size; have := hg2.size; simp; omega) ?_; intro v' w3 hown' hg3 hnil3; go_frame)
        | go_in)
      have hrg3 := (hrg2.alloc _).kept hg3 (row_ne_low hrow2 hbm) (row_ne_iter hrow2 hrg2)
      go_roundw
      case rel =>
        refine ⟨_, cnt2, ss ++ [x], hrg3, by simp; omega, by simpa using hown', Lib.hid (hC.out.step hlk hat), ?_⟩
        exact ((hf.grown hg2 (fun j hj => by cases hj; exact .inr (Nat.le_refl _))).alloc _).grown hg3 (fun j hj => .inr (hrow2.lt j hj).1)
      case measure => rw [hrg3.left_eq, hrg.left_eq]; exact hlt
end Go.Proofs.Ytpdkilfncflngaa
