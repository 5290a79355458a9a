/-
  The document's table: Drop.
-/
import Derived.Test.YtpdkilfncflngaaRtRef
namespace Go.Proofs.Ytpdkilfncflngaa
open Go.RowKit

theorem dropL_take {rs : List Route} {s : ByteArray} {i : Nat} (h : i < rs.length) : dropL (rs.take (i + 1)) s = if rs[i].pre = s then dropL (rs.take i) s else dropL (rs.take i) s ++ [rs[i]] := by
  rw [List.take_succ_eq_append_getElem h]
  unfold dropL
  rw [List.filter_append]
  by_cases e : rs[i].pre = s
  · rw [if_pos e, List.filter_cons_of_neg (by simpa using e)]; simp
  · rw [if_neg e, List.filter_cons_of_pos (by simpa using e)]; simp

set_option maxRecDepth 100000 in
set_option maxHeartbeats 1200000 in
theorem rdrop_any {l : Nat} {rs : List Route} {w : World} {F : Nat → Prop} (h : RTableAt l rs w F) (s : ByteArray) {x : Int} (hx : dropE rs s = x) {qs : List Route} (hq : dropR rs s = qs) :
    Calls Try.prog 15 #[.pointer (some ⟨l, 0, none⟩), .string s] w fun e w' => ∃ F', e = .returned (.int .i64 x) ∧ RTableAt l qs w' F' ∧ Step F F' w w' := by
  have H := Lib.hid h
  obtain ⟨hH, hgood⟩ := h
  obtain ⟨vo, cap, c0, fz, hl, hcap, hcm, hrow, _, _, _, _⟩ := hH.opened
  have hlen := hgood.len
  have Hgood := Lib.hid hgood
  have Hrow := Lib.hid hrow
  have C0 := Lib.hid c0
  have Fz := Lib.hid fz
  have HX := Lib.hid hx
  have HQ := Lib.hid hq
  obtain ⟨i0, hi0, hz0, hz1', hz2'⟩ := info_parts info_route
  clear hgood hrow c0 hH hcap hcm fz hx hq
  go_enter Try.func15, Try.ntmps15
  go_wp2_with fail
  go_loopw [5, 6] (fun s5 s6 wr => ∃ (i k : Nat) (ao : Option Addr) (cap : Nat), i ≤ rs.length ∧ s6 = .int .i64 i ∧ s5 = .slice ao k cap ∧ k ≤ i ∧ Hid (k = (dropL (rs.take i) s).length) ∧ wr.ownsRow w.heap.size 42 2 s5 k (RouteR.flat (dropL (rs.take i) s)) ∧ Fr noBlock w wr) (fun _ s6 _ => rs.length - (intOf s6).toNat)
  case atStart => exact ⟨0, 0, none, 0, Nat.zero_le _, rfl, rfl, Nat.le_refl _, Lib.hid rfl, World.ownsRow_nil _ _ _ _, Fr.refl _ _⟩
  case round =>
    obtain ⟨i, k, ao, cap2, hi, rfl, rfl, hk, hkl, hrow, hf⟩ := hrel
    have y0 := (hf.cell (p := ⟨l, 0, none⟩) hl (fun x => x)).trans C0.out
    have Hf := Lib.hid hf
    by_cases hlt : i < rs.length
    · have hlt' : (i : Int) < (rs.length : Int) := by omega
      have hi1 : i + 1 ≤ rs.length := by omega
      have Htk := Lib.hid (dropL_take (s := s) hlt)
      obtain ⟨g, rfl, hg, z0, z1⟩ := route_cells (Hrow.out.fr0 hf) hlt
      generalize rs[i] = r at *
      have Hr2 := Lib.hid hrow
      by_cases hq : r.pre = s
      · have hq' : (r.pre.toList == s.toList) = true := by rw [hq]; simp
        have Hb := Lib.hid (Htk.out.trans (if_pos hq))
        clear Htk hq hrow hf
        go_wp2_with fail
        go_roundw
        case rel => exact ⟨i + 1, k, ao, cap2, hi1, by go_num, rfl, by omega, Lib.hid (by rw [Hb.out]; exact hkl.out), by rw [Hb.out]; exact Hr2.out, Hf.out⟩
        case measure => simp [intOf]; omega
      · have hq' := str_ne hq
        have Hb := Lib.hid (Htk.out.trans (if_neg hq))
        have Hsz := Lib.hid hf.size
        clear Htk hq hrow hf
        go_wp2_with (at_builtin; refine wpList_append_own _ rfl _ _ 39 rfl w.heap.size 42 i0 (.agg #[.string ⟨#[]⟩, .int .i64 0]) 2 24 Try.underlying39 hi0 hz0 hz1' hz2' rfl (by decide) _ _ _ rfl (Hr2.out.alloc _) ⟨wr.heap.size, 0, none⟩ 1 1 [.string r.pre, .int .i64 r.target] rfl rfl (World.news_of_block (heap_new wr _)) (by simp [Value.oneCell']) (by unfold maxLen; omega) (by omega) (by have := Hsz.out; simp; omega) ?_; intro v' w5 hown5 hg5 hnil5; go_frame)
        have hsh : ∃ ao' cap', v' = .slice ao' (k + 1) cap' := by
          rcases hown5.2 with ⟨q1, q2⟩ | ⟨g, cap', cur, q, _⟩
          · omega
          · exact ⟨_, _, q⟩
        obtain ⟨ao', cap', rfl⟩ := hsh
        clear hnil5
        go_wp2_with fail
        go_roundw
        case rel =>
          refine ⟨i + 1, k + 1, ao', cap', hi1, by go_num, rfl, by omega, Lib.hid (by rw [Hb.out, List.length_append, ← hkl.out]; rfl), ?_, (Hf.out.alloc _).grown hg5 (fun j hj => .inr (Hr2.out.lt j hj).1)⟩
          rw [Hb.out, RouteR.flat_append, RouteR.flat_one]
          exact hown5
        case measure => simp [intOf]; omega
    · have hlt' : (rs.length : Int) ≤ (i : Int) := by omega
      have e : i = rs.length := by omega
      subst e
      rw [List.take_length] at hkl hrow
      have hkl' := hkl.out
      have hdl := dropL_len Hgood.out.sorted s
      have y1 := (hf.frozen (p := ⟨l, 0, none⟩) hl (fun x => x)).trans Fz.out
      have hrw : RowAt 42 RouteR wr (.slice ao k cap2) (dropL rs s) := by
        obtain ⟨q1, q2⟩ := hrow
        unfold RowAt
        rw [← hkl']
        refine ⟨q1, ?_⟩
        rcases q2 with q2 | ⟨g, cap', cur, q, hb, rest⟩
        · exact .inl q2
        · exact .inr ⟨g, cap', cur, q, Nat.zero_le _, rest⟩
      have hnew : ∀ g, (Value.slice ao k cap2).ownBlock = some g → w.heap.size ≤ g := fun g hg => (World.ownsRow.lt hrow g hg).1
      have Hrw := Lib.hid hrw
      have Hnew := Lib.hid hnew
      cases hs : (lookR rs s).isSome with
      | false =>
        rw [hs] at hdl
        have hx : x = 15 := by rw [← HX.out, dropE, if_neg (by simp [hs])]
        have hq : qs = rs := by rw [← HQ.out, dropR, if_neg (by simp [hs])]
        subst hx hq
        have hkn : k = qs.length := by rw [hkl', hdl]; simp
        subst hkn
        clear hdl hkl' hkl hrow hrw hnew hf hlt
        go_wp2_with fail
        go_ret
        exact ⟨F, rfl, RTableAt.ok.fr0 H.out Hf.out, Step.same Hf.out⟩
      | true =>
        rw [hs] at hdl
        have hN : 0 < rs.length := by
          rcases Nat.eq_zero_or_pos rs.length with h0 | h0
          · rw [List.eq_nil_of_length_eq_zero h0] at hs; simp [lookR_nil] at hs
          · exact h0
        have hx : x = 0 := by rw [← HX.out, dropE, if_pos hs]
        have hq : dropL rs s = qs := by rw [← HQ.out, dropR, if_pos hs]
        subst hx
        rw [if_pos rfl] at hdl
        have hkn : ¬ (k : Int) = (rs.length : Int) := by omega
        have hkn' : ¬ k = rs.length := by omega
        have Hq := Lib.hid hq
        have Hg2 := Lib.hid (show GoodR qs by rw [← HQ.out]; exact Hgood.out.drop s)
        clear hdl hkl' hkl hrow hrw hnew hf hlt hq hN hs
        go_wp2_with fail
        go_ret
        obtain ⟨r1, r2⟩ := Hold.replace (ys := qs) H.out.1 (Hf.out.mono (fun _ x => x.elim)) (Hf.out.block l hl (fun x => x)) (by rw [← Hq.out]; exact Hrw.out) (fun g hg => ⟨by have := Hnew.out g hg; omega, .inr (Hnew.out g hg)⟩)
        exact ⟨_, rfl, ⟨r1, Hg2.out⟩, r2⟩
end Go.Proofs.Ytpdkilfncflngaa
