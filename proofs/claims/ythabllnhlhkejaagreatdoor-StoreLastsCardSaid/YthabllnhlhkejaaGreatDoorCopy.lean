/-
  copy(dst, src) of bytes: dst a piece of a row that is owned, src whatever is read: at the operation, at a step of a region that draws.
-/
import Derived.Laws.CopyOwn
import Derived.Test.YthabllnhlhkejaaGreatDoorBytes
namespace Go.Proofs.YthabllnhlhkejaaGreatDoor
open Go.RowKit

theorem fr_setRow {w : World} (g : Nat) (cs : Array Value) : Fr (fun k => k = g) w (w.setRow g cs) := by
  refine ⟨rfl, rfl, rfl, by simp [World.setRow], fun k hk hn => ?_⟩
  simp only [World.setRow, Array.getElem?_modify]
  rw [if_neg (fun e => hn e.symm)]
theorem take_over {α : Type} (L A : List α) (n off : Nat) (h : off + A.length ≤ n) (hn : n ≤ L.length) : (L.take off ++ A ++ L.drop (off + A.length)).take n = (L.take n).take off ++ A ++ (L.take n).drop (off + A.length) := by
  have e1 : (L.take off ++ A).length = off + A.length := by simp; omega
  rw [List.take_append, List.take_of_length_le (by omega), e1, List.take_take, Nat.min_eq_left (by omega), List.drop_take]
theorem run_cp {w : World} {g n cap : Nat} {xs ys : List UInt8} (hd : RowAt 5 ByteR w (.slice (some ⟨g, 0, none⟩) n cap) xs) (off m dLen dCap sLen sCap : Nat) {dp sp : Option Addr} (hs : RowRd ByteR w sp ys) (hsl : sLen = ys.length) (hm : m = min sLen dLen) (hdp : 0 < m → dp = some ⟨g, off, none⟩) (hfit : off + m ≤ xs.length) (ty : TypeId) :
    ∃ w', (Builtin.copy_ #[28, 28] ty #[.slice dp dLen dCap, .slice sp sLen sCap]).run Tryz.prog w = .ok (goInt m) w' ∧ RowAt 5 ByteR w' (.slice (some ⟨g, 0, none⟩) n cap) (xs.take off ++ ys.take m ++ xs.drop (off + m)) ∧ Fr (fun k => k = g) w w' := by
  have hsz : (Tryz.prog.info? 5).map (·.size) = some 1 := by kernel_rfl
  by_cases h0 : m = 0
  · subst h0
    refine ⟨w, ?_, by simpa using hd, Fr.refl _ _⟩
    exact run_copy_none w 28 28 ty 5 dp sp dLen dCap sLen sCap Tryz.underlying28 hsz hm.symm
  · obtain rfl := hdp (by omega)
    obtain ⟨cur, hg, hn, hnc, hcm, hcs, htk⟩ := hd.block
    rw [byteK, Nat.mul_one] at hcs htk
    have hml : m ≤ ys.length := by omega
    have hl : ((ys.take m).map byteV).length = m := by simp; omega
    cases sp with
    | none =>
      exfalso
      obtain ⟨b, o, e, _⟩ := byte_addr hs (i := 0) (by omega)
      cases e
    | some a =>
      have hsrc : ∀ j v, ((ys.take m).map byteV)[j]? = some v → w.cell? (a.add j) = some v := by
        intro j v hj
        have hjl : j < m := by have := (List.getElem?_eq_some_iff.1 hj).1; omega
        obtain ⟨b, o, e, _⟩ := byte_addr hs (i := j) (by omega)
        cases e
        rw [Addr.add_lit, byte_rd hs (by omega)]
        rw [← hj]
        simp [hjl, List.getElem?_eq_getElem (show j < ys.length by omega)]
      have hrun := run_copy_row (P := Tryz.prog) w 28 28 ty 5 g off dLen dCap a sLen sCap cur 5 ((ys.take m).map byteV) Tryz.underlying28 hsz hg (by rw [hl, hm]) hsrc (by rw [hl]; omega) (by intro v hv; obtain ⟨c, _, rfl⟩ := List.mem_map.1 hv; rfl)
      rw [hl] at hrun
      refine ⟨_, hrun, ?_, fr_setRow g _⟩
      have hxs : (xs.take off ++ ys.take m ++ xs.drop (off + m)).length = n := by simp; omega
      have hcl : cur.toList.length = cap := by simpa using hcs
      have hfl : ByteR.flat xs = xs.map byteV := flat_bytes xs
      rw [hfl] at htk
      have hof := RowAt.of_block (E := 5) (R := ByteR) (w := w.setRow g (cur.toList.take off ++ (ys.take m).map byteV ++ cur.toList.drop (off + m)).toArray) (g := g) (cap := cap) (xs := xs.take off ++ ys.take m ++ xs.drop (off + m)) (setRow_heap w g cur _ 5 _ hg) (by omega) hcm (by rw [byteK, Nat.mul_one]; simp; omega) (by
        rw [byteK, Nat.mul_one, hxs, flat_bytes]
        have := take_over cur.toList ((ys.take m).map byteV) n off (by rw [hl]; omega) (by rw [hcl]; exact hnc)
        rw [hl, htk] at this
        rw [this]
        simp only [List.map_append, List.map_take, List.map_drop])
      rw [hxs] at hof
      exact hof

theorem wp_cp {o : Oper} {a : Act} {w : World} {K : Act → World → Prop} {Q : Exit → Act → World → Prop} (d s : Operand) (ho : o.op = .call { callee := .builtin .copy, args := #[d, s], argTypes := #[28, 28] })
    {g n cap : Nat} (xs ys : List UInt8) (hd : RowAt 5 ByteR w (.slice (some ⟨g, 0, none⟩) n cap) xs) (off m : Nat) {dLen dCap sLen sCap : Nat} {dp sp : Option Addr} (ed : a.eval d = .slice dp dLen dCap) (es : a.eval s = .slice sp sLen sCap) (hs : RowRd ByteR w sp ys) (hsl : sLen = ys.length) (hm : m = min sLen dLen) (hdp : 0 < m → dp = some ⟨g, off, none⟩) (hfit : off + m ≤ xs.length)
    (h : ∀ w', RowAt 5 ByteR w' (.slice (some ⟨g, 0, none⟩) n cap) (xs.take off ++ ys.take m ++ xs.drop (off + m)) → Fr (fun k => k = g) w w' → K (a.put o.dst (.int .i64 (m : Int))) w') : o.wp Tryz.prog a w K Q := by
  obtain ⟨w', hrun, h2, h3⟩ := run_cp hd off m dLen dCap sLen sCap hs hsl hm hdp hfit o.type
  unfold Oper.wp execOp
  simp only [ho, resolve, invoke, builtin, Sem.run_bind, Sem.run_pure, Result.andThen_ok, List.map_toArray, List.map_cons, List.map_nil, ed, es, hrun]
  exact h w' h2 h3
theorem wpList_cp {ops : Array Oper} {rest : List Oper} {o : Oper} {a : Act} {w : World} {Q : Exit → Act → World → Prop} (hgd : o.guard = none) (d s : Operand) (ho : o.op = .call { callee := .builtin .copy, args := #[d, s], argTypes := #[28, 28] })
    {g n cap : Nat} (xs ys : List UInt8) (hd : RowAt 5 ByteR w (.slice (some ⟨g, 0, none⟩) n cap) xs) (off m : Nat) {dLen dCap sLen sCap : Nat} {dp sp : Option Addr} (ed : a.eval d = .slice dp dLen dCap) (es : a.eval s = .slice sp sLen sCap) (hs : RowRd ByteR w sp ys) (hsl : sLen = ys.length) (hm : m = min sLen dLen) (hdp : 0 < m → dp = some ⟨g, off, none⟩) (hfit : off + m ≤ xs.length)
    (h : ∀ w', RowAt 5 ByteR w' (.slice (some ⟨g, 0, none⟩) n cap) (xs.take off ++ ys.take m ++ xs.drop (off + m)) → Fr (fun k => k = g) w w' → wpList Tryz.prog ops Q rest (a.put o.dst (.int .i64 (m : Int))) w') : wpList Tryz.prog ops Q (o :: rest) a w :=
  wpList_plain hgd fun _ hK => wp_cp d s ho xs ys hd off m ed es hs hsl hm hdp hfit fun w' h2 h3 => hK _ _ (h w' h2 h3)
theorem step_cp {ops : Array Oper} {o : Oper} {a : Act} {w : World} {K : Act → World → Prop} {Q : Exit → Act → World → Prop} {G : Prop} (hgd : o.guard = none) (d s : Operand) (ho : o.op = .call { callee := .builtin .copy, args := #[d, s], argTypes := #[28, 28] })
    {g n cap : Nat} (xs ys : List UInt8) (hd : RowAt 5 ByteR w (.slice (some ⟨g, 0, none⟩) n cap) xs) (off m : Nat) {dLen dCap sLen sCap : Nat} {dp sp : Option Addr} (ed : a.eval d = .slice dp dLen dCap) (es : a.eval s = .slice sp sLen sCap) (hs : RowRd ByteR w sp ys) (hsl : sLen = ys.length) (hm : m = min sLen dLen) (hdp : 0 < m → dp = some ⟨g, off, none⟩) (hfit : off + m ≤ xs.length)
    (h : ∀ w', RowAt 5 ByteR w' (.slice (some ⟨g, 0, none⟩) n cap) (xs.take off ++ ys.take m ++ xs.drop (off + m)) → Fr (fun k => k = g) w w' → K (a.put o.dst (.int .i64 (m : Int))) w') :
    if Region.wanted o (yielded ops a.tmps) = true then Oper.wp Tryz.prog o a w K Q else G := by
  have hw : Region.wanted o (yielded ops a.tmps) = true := by simp [Region.wanted, hgd]
  rw [if_pos hw]
  exact wp_cp d s ho xs ys hd off m ed es hs hsl hm hdp hfit h
end Go.Proofs.YthabllnhlhkejaaGreatDoor
