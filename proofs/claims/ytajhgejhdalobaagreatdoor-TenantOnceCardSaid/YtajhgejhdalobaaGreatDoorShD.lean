/-
  THE WALK of the digest's Write.
-/
import Derived.Deep.AppendSrc
import Derived.StillTailTactics
import Derived.Test.YtajhgejhdalobaaGreatDoorShB
namespace Go.Proofs.YtajhgejhdalobaaGreatDoor
open Go.RowKit

def IntR : Rec Int := ⟨1, fun n => [.int .i64 n], fun _ => rfl, fun s u hu => by simp at hu; subst hu; rfl⟩
theorem int_rd {w : World} {b off : Nat} {xs : List Int} (h : RowRd IntR w (some ⟨b, off, none⟩) xs) {i : Nat} (hi : i < xs.length) : w.cell? ⟨b, off + i, none⟩ = some (.int .i64 xs[i]) := by
  obtain ⟨b', off', e, _, h3⟩ := h.at' i hi
  cases e
  have := h3 0 (.int .i64 xs[i]) rfl
  have hk : IntR.k = 1 := rfl
  simpa [hk] using this
end Go.Proofs.YtajhgejhdalobaaGreatDoor
namespace Go.Proofs.YtajhgejhdalobaaGreatDoor
open Go.RowKit

structure OffB (w : World) (ao : Option Addr) (n cap : Nat) (x : List UInt8) : Prop where
  len : x.length = n
  nc : n ≤ cap
  cm : cap ≤ maxLen
  lie : (ao = none ∧ cap = 0) ∨ ∃ g off cur, ao = some ⟨g, off, none⟩ ∧ w.heap[g]? = some (.cells cur 5 (0, 0)) ∧ off + cap ≤ cur.size ∧ (cur.toList.drop off).take n = x.map byteV

namespace OffB
variable {w w' : World} {ao : Option Addr} {n cap : Nat} {x : List UInt8}
theorem nil (w : World) : OffB w none 0 0 [] := ⟨rfl, Nat.le_refl _, Nat.zero_le _, .inl ⟨rfl, rfl⟩⟩
theorem of_row (h : RowAt 5 ByteR w (.slice ao n cap) x) : OffB w ao n cap x := by
  rcases h.2 with ⟨h1, h2⟩ | ⟨g, cap', cur, h1, _, hg, hc, hm, hs, ht⟩
  · simp only [Value.slice.injEq] at h1
    obtain ⟨rfl, rfl, rfl⟩ := h1
    exact ⟨h2, Nat.le_refl _, Nat.zero_le _, .inl ⟨rfl, rfl⟩⟩
  · simp only [Value.slice.injEq] at h1
    obtain ⟨rfl, rfl, rfl⟩ := h1
    rw [byteK, Nat.mul_one] at hs ht
    exact ⟨rfl, hc, hm, .inr ⟨g, 0, cur, rfl, hg, by omega, by rw [List.drop_zero, ht, flat_bytes]⟩⟩
theorem fr {S : Nat → Prop} (h : OffB w ao n cap x) (hf : Fr S w w') (hn : ∀ k, (Value.slice ao n cap).ownBlock = some k → ¬ S k) : OffB w' ao n cap x := by
  refine ⟨h.len, h.nc, h.cm, h.lie.imp id ?_⟩
  rintro ⟨g, off, cur, rfl, hg, h1, h2⟩
  exact ⟨g, off, cur, rfl, hf.obj hg (hn g rfl), h1, h2⟩
theorem fr0 (h : OffB w ao n cap x) (hf : Fr noBlock w w') : OffB w' ao n cap x := h.fr hf (fun _ _ z => z)
theorem lt (h : OffB w ao n cap x) : ∀ k, (Value.slice ao n cap).ownBlock = some k → k < w.heap.size := by
  intro k hk
  rcases h.lie with ⟨rfl, _⟩ | ⟨g, off, cur, rfl, hg, _⟩
  · simp [Value.ownBlock] at hk
  · simp only [Value.ownBlock, Option.some.injEq] at hk
    subst hk
    exact heap_lt hg
theorem rd (h : OffB w ao n cap x) : RowRd ByteR w ao x := by
  refine ⟨by have := h.len; have := h.nc; have := h.cm; omega, fun i hi => ?_⟩
  have hl := h.len
  rcases h.lie with ⟨rfl, h0⟩ | ⟨g, off, cur, rfl, hg, h1, h2⟩
  · have := h.nc; omega
  · refine ⟨g, off, rfl, heap_lt hg, fun j u hu => ?_⟩
    have hj : j = 0 := by
      have := (List.getElem?_eq_some_iff.1 hu).1
      rw [ByteR.len] at this
      have e : ByteR.k = 1 := byteK
      omega
    subst hj
    have e : (x.map byteV)[i]? = some u := by
      rw [← hu, List.getElem?_map, List.getElem?_eq_getElem hi]
      rfl
    rw [← h2] at e
    rw [cell_of hg, byteK, Nat.mul_one, Nat.add_zero]
    rw [List.getElem?_take] at e
    rw [if_pos (by omega), List.getElem?_drop] at e
    rw [← Array.getElem?_toList]
    exact e
theorem cut {g off : Nat} (h : OffB w (some ⟨g, off, none⟩) n cap x) {k : Nat} (hk : k ≤ n) : OffB w (some ⟨g, off + k, none⟩) (n - k) (cap - k) (x.drop k) := by
  have hl := h.len
  have hnc := h.nc
  have hcm := h.cm
  refine ⟨by rw [List.length_drop]; omega, by omega, by omega, ?_⟩
  rcases h.lie with ⟨h0, _⟩ | ⟨g', off', cur, h0, hg, h1, h2⟩
  · cases h0
  · simp only [Option.some.injEq, Addr.mk.injEq, and_true] at h0
    obtain ⟨rfl, rfl⟩ := h0
    refine .inr ⟨g, off + k, cur, rfl, hg, by omega, ?_⟩
    rw [← List.drop_drop, ← List.drop_take, List.map_drop, ← h2]
theorem cut2 {g off : Nat} (h : OffB w (some ⟨g, off, none⟩) n cap x) {k : Nat} (hk : k ≤ n) : ∃ o, (if cap = k then some (⟨g, off, none⟩ : Addr) else some ⟨g, off + k, none⟩) = some ⟨g, o, none⟩ ∧ OffB w (some ⟨g, o, none⟩) (n - k) (cap - k) (x.drop k) := by
  by_cases e : cap = k
  · refine ⟨off, by rw [if_pos e], ?_⟩
    have hl := h.len
    have hnc := h.nc
    have hn : n - k = 0 := by omega
    have hc : cap - k = 0 := by omega
    have hx : x.drop k = [] := List.drop_of_length_le (by omega)
    rw [hn, hc, hx]
    refine ⟨rfl, Nat.le_refl _, Nat.zero_le _, ?_⟩
    rcases h.lie with ⟨h0, _⟩ | ⟨g', off', cur, h0, hg, h1, _⟩
    · cases h0
    · exact .inr ⟨g', off', cur, h0, hg, by omega, by simp⟩
  · exact ⟨off + k, by rw [if_neg e], h.cut hk⟩
theorem run_app (h : OffB w ao n cap x) {A : Option Addr} {y : List UInt8} (hy : RowRd ByteR w A y) (c : Nat) (h63 : n + y.length ≤ 140737488355328) (ty : TypeId) :
    ∃ ao' cap' w', (Builtin.append_ #[34, 34] ty #[.slice ao n cap, .slice A y.length c]).run Tryz.prog w = .ok (.slice ao' (n + y.length) cap') w' ∧ OffB w' ao' (n + y.length) cap' (x ++ y) ∧ w.grownBy w' (Value.slice ao n cap).ownBlock ∧
      ((Value.slice ao' (n + y.length) cap').ownBlock = (Value.slice ao n cap).ownBlock ∨ (Value.slice ao' (n + y.length) cap').ownBlock = some w.heap.size) := by
  have hl := h.len
  have hnc := h.nc
  have hcm := h.cm
  obtain ⟨i, z, hi, hz, hs, hby, hzs⟩ := el_bytes.info
  rw [byteK] at hs hzs
  by_cases hy0 : y = []
  · subst hy0
    refine ⟨ao, cap, w, ?_, by simpa using h, World.grownBy.refl w _, .inl rfl⟩
    have hf : (Builtin.firstCells i.size 0 (.slice A 0 c)).run Tryz.prog w = .ok #[] w := by
      cases A with
      | none => exact run_firstCells_none w i.size 0 0 c
      | some a => exact run_firstCells_some w i.size 0 a 0 c [] (by simp) (by simp)
    simp [Builtin.append_, run_underlying Tryz.underlying34, sizeOf, typeInfo, hi, Builtin.lenOf, hnc, hf, storeCells]
    cases ao <;> rfl
  · have hy1 : 0 < y.length := List.length_pos_iff.2 hy0
    cases A with
    | none => obtain ⟨b, o, e, _⟩ := hy.at' 0 hy1; cases e
    | some a =>
      have hfl : ByteR.flat y = y.map byteV := flat_bytes y
      have hsrc : Src Tryz.prog i.size 34 (.slice (some a) y.length c) y.length (y.map byteV) w := Src.ofSlice w Tryz.underlying34 a y.length c _ (by rw [hs, List.length_map, Nat.mul_one]) (fun j u hu => hy.cells j u (by rw [hfl]; exact hu)) (fun u hu => by obtain ⟨q, _, rfl⟩ := List.mem_map.1 hu; rfl)
      by_cases hr : n + y.length ≤ cap
      · rcases h.lie with ⟨rfl, h0⟩ | ⟨g, off, cur, rfl, hg, h1, h2⟩
        · omega
        · have hrun := run_append_room_src (P := Tryz.prog) w 34 34 ty 5 i Tryz.underlying34 hi g off n cap _ _ _ hsrc hr
            (by intro j hj; rw [hs, Nat.mul_one, cell_of hg]; rw [List.length_map] at hj; rw [Array.getElem?_eq_getElem (by omega)]; rfl) (by intro j _; exact free_of hg _)
          rw [hs, Nat.mul_one] at hrun
          obtain ⟨cur', g1, g2, g3⟩ := heap_setCells (y.map byteV) (off + n) w cur hg (by rw [List.length_map]; omega)
          refine ⟨_, cap, _, hrun, ⟨by simp [hl], hr, hcm, .inr ⟨g, off, cur', rfl, g1, by omega, ?_⟩⟩, ?_, .inl rfl⟩
          · have hcs : cur.toList.length = cur.size := by simp
            rw [g3, List.append_assoc, List.drop_append_of_le_length (by rw [List.length_take]; omega), List.drop_take, show off + n - off = n by omega, h2, List.map_append, List.take_append, List.length_map, hl, List.take_of_length_le (by rw [List.length_map]; omega), show n + y.length - n = y.length by omega, List.take_append_of_le_length (by simp), List.take_of_length_le (by simp)]
          · have hf : Fr (fun k => k = g) w (w.setCells g (off + n) (y.map byteV)) := fr_setCells (S := fun k => k = g) (Fr.refl _ _) (.inl rfl) _
            exact ⟨hf.os, hf.tape, hf.output, hf.size, fun k hk hn => hf.block k hk (fun e => hn (by rw [e]; rfl))⟩
      · have hm : maxLen = 9223372036854775807 := rfl
        have hold : (Builtin.firstCells i.size n (.slice ao n cap)).run Tryz.prog w.drew = .ok (x.map byteV).toArray w.drew := by
          cases ao with
          | none =>
            have h0 : n = 0 := by
              rcases h.lie with ⟨_, h0⟩ | ⟨g, off, cur, h0, _⟩
              · omega
              · cases h0
            subst h0
            obtain rfl := List.eq_nil_of_length_eq_zero hl
            exact run_firstCells_none w.drew i.size 0 0 cap
          | some b =>
            have hrd := (h.fr0 (Fr.refl noBlock w).drew).rd
            exact run_firstCells_some w.drew i.size n b n cap _ (by rw [List.length_map, hs, hl, Nat.mul_one]) (fun j u hu => hrd.cells j u (by rw [flat_bytes]; exact hu))
        have hcap : Builtin.nextslicecap (n + y.length) cap * i.bytes ≤ 281474976710656 := by
          exact growslice_fits (by omega) (by rw [hby, Nat.mul_one]; exact h63)
        have hrun := run_append_grow_src (P := Tryz.prog) w 34 34 ty 5 i z Tryz.underlying34 hi hz ao n cap _ hold _ _ _ hsrc (by omega) (by omega) hcap
        have hgc := grownCap_ge w (n + y.length) cap 5
        have hgm := grownCap_le_maxLen w (n + y.length) cap 5 (by rw [hm]; omega)
        refine ⟨_, _, _, hrun, ⟨by simp [hl], hgc, hgm, .inr ⟨w.heap.size, 0, _, rfl, heap_new w.drew _, ?_, ?_⟩⟩, ?_, .inr rfl⟩
        · simp only [Array.size_append, List.size_toArray, List.length_append, List.length_map, size_zeroCells, hzs]
          omega
        · rw [Array.toList_append, List.drop_zero, List.take_append_of_le_length (by simp [hl]), List.take_of_length_le (by simp [hl]), List.map_append]
        · have hf := ((Fr.refl noBlock w).drew).alloc (.cells ((x.map byteV ++ y.map byteV).toArray ++ Builtin.zeroCells z.cells (grownCap w (n + y.length) cap 5 - (n + y.length))) 5)
          exact ⟨hf.os, hf.tape, hf.output, hf.size, fun k hk _ => hf.block k hk (fun z => z)⟩
end OffB

theorem wp_appO {o : Oper} {a : Act} {w : World} {K : Act → World → Prop} {Q : Exit → Act → World → Prop} (s x : Operand) (ho : o.op = .call { callee := .builtin .append, args := #[s, x], argTypes := #[34, 34] })
    {ao : Option Addr} {n cap N : Nat} {xs ys : List UInt8} (hv : OffB w ao n cap xs) (hs : a.eval s = .slice ao n cap) {A : Option Addr} {m c : Nat} (hx : a.eval x = .slice A m c) (hy : RowRd ByteR w A ys) (hm : m = ys.length) (hN : N = n + m) (h63 : N ≤ 140737488355328)
    (h : ∀ ao' cap' w', OffB w' ao' N cap' (xs ++ ys) → w.grownBy w' (Value.slice ao n cap).ownBlock → ((Value.slice ao' N cap').ownBlock = (Value.slice ao n cap).ownBlock ∨ (Value.slice ao' N cap').ownBlock = some w.heap.size) → K (a.put o.dst (.slice ao' N cap')) w') : o.wp Tryz.prog a w K Q := by
  subst hm hN
  obtain ⟨ao', cap', w', hrun, h2, h3, h4⟩ := hv.run_app hy c h63 o.type
  unfold Oper.wp execOp
  simp only [ho, resolve, invoke, builtin, Sem.run_bind, Sem.run_pure, Result.andThen_ok, List.map_toArray, List.map_cons, List.map_nil, hs, hx, hrun]
  exact h ao' cap' w' h2 h3 h4
theorem wpList_appO {ops : Array Oper} {rest : List Oper} {o : Oper} {a : Act} {w : World} {Q : Exit → Act → World → Prop} (hgd : o.guard = none) (s x : Operand) (ho : o.op = .call { callee := .builtin .append, args := #[s, x], argTypes := #[34, 34] })
    {ao : Option Addr} {n cap N : Nat} {xs ys : List UInt8} (hv : OffB w ao n cap xs) (hs : a.eval s = .slice ao n cap) {A : Option Addr} {m c : Nat} (hx : a.eval x = .slice A m c) (hy : RowRd ByteR w A ys) (hm : m = ys.length) (hN : N = n + m) (h63 : N ≤ 140737488355328)
    (h : ∀ ao' cap' w', OffB w' ao' N cap' (xs ++ ys) → w.grownBy w' (Value.slice ao n cap).ownBlock → ((Value.slice ao' N cap').ownBlock = (Value.slice ao n cap).ownBlock ∨ (Value.slice ao' N cap').ownBlock = some w.heap.size) → wpList Tryz.prog ops Q rest (a.put o.dst (.slice ao' N cap')) w') :
    wpList Tryz.prog ops Q (o :: rest) a w :=
  wpList_plain hgd fun _ hK => wp_appO s x ho hv hs hx hy hm hN h63 fun ao' cap' w' h2 h3 h4 => hK _ _ (h ao' cap' w' h2 h3 h4)
end Go.Proofs.YtajhgejhdalobaaGreatDoor
namespace Go.Proofs.YtajhgejhdalobaaGreatDoor
open Go.RowKit

end Go.Proofs.YtajhgejhdalobaaGreatDoor
namespace Go.Proofs.YtajhgejhdalobaaGreatDoor
open Go.RowKit

structure Bes {α : Type} (R : Rec α) (ao : Option Addr) (xs : List α) (w : World) (F : Nat → Prop) : Prop where
  rd : RowRd R w ao xs
  ap : 0 < xs.length → ∀ a, ao = some a → ¬ F a.block ∧ a.block < w.heap.size
namespace Bes
variable {α : Type} {R : Rec α} {ao : Option Addr} {xs : List α} {w w' : World} {F F' : Nat → Prop}
theorem step (h : Bes R ao xs w F) (s : Step F F' w w') : Bes R ao xs w' F' := by
  rcases Nat.eq_zero_or_pos xs.length with h0 | h0
  · have e : xs = [] := List.eq_nil_of_length_eq_zero h0
    subst e
    exact ⟨RowRd.nil, fun h => by simp at h⟩
  · exact ⟨h.rd.fr s.fr (fun _ _ e => (h.ap h0 _ e).1), fun _ a e => ⟨(s.keep (h.ap h0 a e).2 (h.ap h0 a e).1).2.2, (s.keep (h.ap h0 a e).2 (h.ap h0 a e).1).2.1⟩⟩
theorem fr (h : Bes R ao xs w F) (f : Fr noBlock w w') : Bes R ao xs w' F := h.step (Step.same f)
theorem arg {w0 : World} {A : Thing} (h : RowRd R w0 ao xs) (m : Mine w0 A w F) : Bes R ao xs w F :=
  ⟨h.below m.below, fun h0 a e => by
    obtain ⟨b, off, e', h1, _⟩ := h.at' 0 h0
    rw [e] at e'
    cases e'
    exact ⟨fun hf => by have h2 : w0.heap.size ≤ b := m.base _ hf; omega, Nat.lt_of_lt_of_le h1 m.size⟩⟩
theorem sub (h : Bes R ao xs w F) {G : Nat → Prop} (hg : ∀ k, G k → F k) : Bes R ao xs w G := ⟨h.rd, fun h0 a e => ⟨fun hk => (h.ap h0 a e).1 (hg _ hk), (h.ap h0 a e).2⟩⟩
theorem new {E : TypeId} {n cap : Nat} {w0 : World} (h : RowAt E R w (.slice ao n cap) xs) (hn : ∀ k, (Value.slice ao n cap).ownBlock = some k → w0.heap.size ≤ k) (hF : ∀ k, F k → k < w0.heap.size) : Bes R ao xs w F :=
  ⟨RowAt.rd h, fun _ a e => by
    subst e
    exact ⟨fun hf => by have := hn a.block rfl; have := hF _ hf; omega, h.lt a.block rfl⟩⟩
end Bes

end Go.Proofs.YtajhgejhdalobaaGreatDoor
namespace Go.Proofs.YtajhgejhdalobaaGreatDoor
open Go.RowKit

theorem sclone_any {w : World} {ao : Option Addr} {bs : Bs} (h : RowRd ByteR w ao bs) (cap : Nat) (hb : bs.length ≤ 140737488355328) : Calls Tryz.prog 389 #[.slice ao bs.length cap] w (CloneP bs w) := by
  have q := fun (w : World) (a : Option Addr) (n c : Nat) => Lib.run_eql_slice_nil (P := Tryz.prog) w 34 5 a n c 0 0 Tryz.underlying34
  have H := Lib.hid h
  cases ao with
  | none =>
    have hn : bs = [] := by
      cases bs with
      | nil => rfl
      | cons y ys => obtain ⟨b, off, e, _⟩ := h.at' 0 (by simp); cases e
    subst hn
    clear h
    go_enter Tryz.func389, Tryz.ntmps389
    go_wp2
    go_ret
    exact ⟨⟨none, 0, 0⟩, rfl, rfl, RowAt.nil, Fr.refl _ _, fun k hk => by cases hk⟩
  | some a =>
    clear h
    go_enter Tryz.func389, Tryz.ntmps389
    go_wp2_with (at_builtin; apply stop_here)
    refine ⟨?_, trivial⟩
    refine wpList_app rfl _ _ rfl el_bytes (v := .slice (some ⟨w.heap.size, 0, none⟩) 0 0) [] bs bs rfl w.heap.size 0 bs.length rfl rfl (World.ownsRow_made w #[] 0 (Nat.le_refl _) (Nat.zero_le _) rfl) rfl (H.out.fr0 ((Fr.refl _ _).alloc _)) rfl (by unfold maxLen; omega) (by omega) (by simp) ?_
    intro ao2 cap2 w2 o2 g2 _
    go_frame
    have O2 := Lib.hid o2
    have hf := (((Fr.refl noBlock w).alloc (.cells #[] 5)).grown g2 (fun k hk => by simp [Value.ownBlock] at hk; subst hk; exact .inr (Nat.le_refl _)))
    have Hf := Lib.hid hf
    clear o2 g2 hf
    go_wp2_with fail
    go_ret
    exact ⟨⟨ao2, bs.length, cap2⟩, rfl, rfl, RowAt.of_own O2.out rfl, Hf.out, fun k hk => (O2.out.lt k hk).1⟩

structure HashIn (h : Nat) (s : S8) (ao : Option Addr) (m cap : Nat) (r : List UInt8) (n : Int) (w : World) : Prop where
  box : w.heap[h]? = some (headO s.list [.slice ao m cap, .int .i64 n] 440)
  off : OffB w ao m cap r
  ne : (Value.slice ao m cap).ownBlock ≠ some h
def hashF (h : Nat) (ao : Option Addr) (m cap : Nat) : Nat → Prop := fun k => k = h ∨ (Value.slice ao m cap).ownBlock = some k
def HashT (h : Nat) (s : S8) (r : List UInt8) (n : Int) : Thing := fun w F => ∃ ao m cap, HashIn h s ao m cap r n w ∧ ∀ k, F k ↔ hashF h ao m cap k
namespace HashIn
variable {h m cap : Nat} {s : S8} {ao : Option Addr} {r : List UInt8} {n : Int} {w w' : World}
theorem fr {S : Nat → Prop} (hh : HashIn h s ao m cap r n w) (hf : Fr S w w') (hs : ∀ k, hashF h ao m cap k → ¬ S k) : HashIn h s ao m cap r n w' :=
  ⟨hf.obj hh.box (hs h (.inl rfl)), hh.off.fr hf (fun k hk => hs k (.inr hk)), hh.ne⟩
theorem fr0 (hh : HashIn h s ao m cap r n w) (hf : Fr noBlock w w') : HashIn h s ao m cap r n w' := hh.fr hf (fun _ _ z => z)
theorem lt (hh : HashIn h s ao m cap r n w) : ∀ k, hashF h ao m cap k → k < w.heap.size := by
  rintro k (rfl | hk)
  · exact heap_lt hh.box
  · exact hh.off.lt k hk
theorem cells (hh : HashIn h s ao m cap r n w) : w.cell? ⟨h, 8, none⟩ = some (.slice ao m cap) ∧ w.cell? ⟨h, 9, none⟩ = some (.int .i64 n) ∧ w.frozen? ⟨h, 8, none⟩ = false ∧ w.frozen? ⟨h, 9, none⟩ = false :=
  ⟨by rw [cell_of hh.box]; rfl, by rw [cell_of hh.box]; rfl, free_of hh.box 8, free_of hh.box 9⟩
theorem count (hh : HashIn h s ao m cap r n w) (n' : Int) : HashIn h s ao m cap r n' (w.setCell ⟨h, 9, none⟩ (.int .i64 n')) := by
  refine ⟨?_, hh.off.fr ((Fr.refl (fun k => k = h) w).setCell (p := ⟨h, 9, none⟩) (.inl rfl) _) (fun k hk e => hh.ne (by rw [hk, e])), hh.ne⟩
  rw [heap_set_eq hh.box]
  rfl
theorem rest {ao' : Option Addr} {m' cap' : Nat} {r' : List UInt8} {w2 : World} (hh : HashIn h s ao m cap r n w) (hb : w2.heap[h]? = w.heap[h]?) (ho : OffB w2 ao' m' cap' r') (hne : (Value.slice ao' m' cap').ownBlock ≠ some h) :
    HashIn h s ao' m' cap' r' n (w2.setCell ⟨h, 8, none⟩ (.slice ao' m' cap')) := by
  refine ⟨?_, ho.fr ((Fr.refl (fun k => k = h) w2).setCell (p := ⟨h, 8, none⟩) (.inl rfl) _) (fun k hk e => hne (by rw [hk, e])), hne⟩
  rw [heap_set_eq (hb.trans hh.box)]
  rfl
theorem thing (hh : HashIn h s ao m cap r n w) : HashT h s r n w (hashF h ao m cap) := ⟨ao, m, cap, hh, fun _ => Iff.rfl⟩
end HashIn
theorem HashT.ok {h : Nat} {s : S8} {r : List UInt8} {n : Int} : (HashT h s r n).Ok := by
  refine ⟨?_, ?_⟩
  · rintro w F ⟨ao, m, cap, h1, h2⟩ k hk
    exact h1.lt k ((h2 k).1 hk)
  · rintro w w' F S ⟨ao, m, cap, h1, h2⟩ hf hs
    exact ⟨ao, m, cap, h1.fr hf (fun k hk => hs k ((h2 k).2 hk)), h2⟩

def NewHashP (w : World) (e : Ending) (w' : World) : Prop := ∃ h, e = .returned (.pointer (some ⟨h, 0, none⟩)) ∧ HashIn h sha0 none 0 0 [] 0 w' ∧ Fr noBlock w w' ∧ w.heap.size ≤ h
theorem newhash_any (w : World) : Calls Tryz.prog 353 #[] w (NewHashP w) := by
  have HS := Lib.hid (show Calls Tryz.prog 386 #[] w fun e w' => e = .returned (.agg #[.int .u32 1779033703, .int .u32 3144134277, .int .u32 1013904242, .int .u32 2773480762, .int .u32 1359893119, .int .u32 2600822924, .int .u32 528734635, .int .u32 1541459225]) ∧ Fr noBlock w w' from start_any w)
  unfold NewHashP
  go_enter Tryz.func353, Tryz.ntmps353
  go_wp2_with fail
  refine HS.out.mono ?_
  rintro e w1 ⟨rfl, hf⟩
  have HF := Lib.hid hf
  clear hf
  go_wp2_with fail
  go_ret
  exact ⟨w1.heap.size, rfl, ⟨heap_new w1 _, OffB.nil _, by simp [Value.ownBlock]⟩, HF.out.alloc _, HF.out.size⟩
end Go.Proofs.YtajhgejhdalobaaGreatDoor
namespace Go.Proofs.YtajhgejhdalobaaGreatDoor
open Go.RowKit

set_option maxRecDepth 100000 in
set_option maxHeartbeats 3200000 in
theorem block_any {w : World} {a k : Nat} {ca : Array Value} {ta : TypeId} {s : S8} {b off : Nat} {x : List UInt8} (ha : w.heap[a]? = some (.cells ca ta (0, 0))) (hs : ca.toList.take 8 = s.list.map u32V) (hk : w.heap[k]? = some (wordsO shaK 441)) (hx : RowRd ByteR w (some ⟨b, off, none⟩) x) (hl : 64 ≤ x.length) (_hxa : b ≠ a) (_hka : k ≠ a) (n c : Nat) (hn : x.length = n) (hnc : n ≤ c) :
    Calls Tryz.prog 388 #[.pointer (some ⟨a, 0, none⟩), .pointer (some ⟨k, 0, none⟩), .slice (some ⟨b, off, none⟩) n c] w fun e w' => e = .returned (.tuple #[]) ∧ Fr (fun q => q = a) w w' ∧ w'.heap[a]? = some (.cells (((shaB s (x.take 64)).list.map u32V) ++ ca.toList.drop 8).toArray ta (0, 0)) := by
  go_enter Tryz.func388, Tryz.ntmps388
  go_upto_region 1 with fail
  refine wp_at (fun W => W.heap[w.heap.size]? = some (wordsO (schedL x 0) 441) ∧ Fr noBlock w W) ⟨heap_new w _, (Fr.refl noBlock w).alloc _⟩ ?_
  rintro w1 ⟨h0, f0⟩
  have H0 := Lib.hid h0
  have F0 := Lib.hid f0
  clear h0 f0
  go_wp2_with fail
  go_loopw [17] (fun s17 wr => ∃ t : Nat, t ≤ 64 ∧ s17 = .int .i64 t ∧ Hid (wr.heap[w.heap.size]? = some (wordsO (schedL x t) 441)) ∧ Hid (Fr noBlock w wr)) (fun s17 _ => 64 - (intOf s17).toNat)
  case atStart => exact ⟨0, by omega, rfl, H0, F0⟩
  case round =>
    clear H0 F0
    obtain ⟨t, ht, rfl, HB, HF⟩ := hrel
    by_cases hlt : t < 64
    · have q1 : (t : Int) < 64 := by omega
      have q0 : (0 : Int) ≤ (t : Int) := by omega
      by_cases h16 : t < 16
      · have q2 : (t : Int) < 16 := by omega
        have HX := Lib.hid (show RowRd ByteR wr (some ⟨b, off + 4 * t, none⟩) (x.drop (4 * t)) by
          have h := (hx.fr0 HF.out).piece (4 * t) x.length
          rw [byteK, Nat.mul_one, List.take_of_length_le (by rw [List.length_drop]; omega)] at h
          exact h)
        have HW := Lib.hid (fun m c' hm => word_any HX.out m c' hm (by rw [List.length_drop]; omega))
        have q3 : (0 : Int) ≤ 4 * (t : Int) := by omega
        have q4 : 4 * (t : Int) ≤ (n : Int) := by omega
        have q5 : (n : Int) ≤ (c : Int) := by omega
        have e16 : wordOf (x.drop (4 * t)) 0 = nextW x (sched x t) t := by
          unfold nextW wordOf
          rw [if_pos h16]
          simp only [List.getD_eq_getElem?_getD, List.getElem?_drop, Nat.zero_add, Nat.add_zero]
        rw [e16] at HW
        go_wp2_with fail
        refine (HW.out _ _ (by omega)).mono ?_
        rintro e w2 ⟨rfl, hf2⟩
        obtain ⟨y, hy⟩ : ∃ y, (schedL x t)[t]? = some y := ⟨_, List.getElem?_eq_getElem (by rw [schedL_len x ht]; exact hlt)⟩
        obtain ⟨d0, d1⟩ := words_cell (hf2.obj HB.out (fun z => z)) hy
        have HB2 := Lib.hid (words_set (hf2.obj HB.out (fun z => z)) t (nextW x (sched x t) t))
        have HF2 := Lib.hid ((HF.out.trans' hf2).setCell (p := ⟨w.heap.size, t, none⟩) (.inr (Nat.le_refl _)) (.int .u32 ((nextW x (sched x t) t).toNat : Int)))
        rw [schedL_set x hlt] at HB2
        clear hf2 HX HW e16
        go_wp2_with fail
        go_roundw
        case rel => exact ⟨t + 1, hlt, by go_num, HB2, HF2⟩
        case measure => simp [intOf]; omega
      · have q2 : (16 : Int) ≤ (t : Int) := by omega
        have e15 : wrap64 ((t : Int) - 15) = ((t - 15 : Nat) : Int) := by unfold wrap64; omega
        have e2 : wrap64 ((t : Int) - 2) = ((t - 2 : Nat) : Int) := by unfold wrap64; omega
        have f15 : ((t - 15 : Nat) : Int) < 64 := by omega
        have f2 : ((t - 2 : Nat) : Int) < 64 := by omega
        have c15 := (words_cell HB.out (schedL_get x (t := t) (i := t - 15) (by omega))).1
        have c2 := (words_cell HB.out (schedL_get x (t := t) (i := t - 2) (by omega))).1
        have c16 := schedL_get x (t := t) (i := t - 16) (by omega)
        have c7 := schedL_get x (t := t) (i := t - 7) (by omega)
        obtain ⟨A15, hA15⟩ : ∃ A, (sched x t).getD (t - 15) 0 = A := ⟨_, rfl⟩
        obtain ⟨A2, hA2⟩ : ∃ A, (sched x t).getD (t - 2) 0 = A := ⟨_, rfl⟩
        obtain ⟨A16, hA16⟩ : ∃ A, (sched x t).getD (t - 16) 0 = A := ⟨_, rfl⟩
        obtain ⟨A7, hA7⟩ : ∃ A, (sched x t).getD (t - 7) 0 = A := ⟨_, rfl⟩
        rw [hA15] at c15
        rw [hA2] at c2
        rw [hA16] at c16
        rw [hA7] at c7
        have HN := Lib.hid (show nextW x (sched x t) t = ((A16 + ((rotr A15 7 ^^^ rotr A15 18) ^^^ A15 >>> 3)) + A7) + ((rotr A2 17 ^^^ rotr A2 19) ^^^ A2 >>> 10) by
          unfold nextW
          rw [if_neg h16, hA15, hA2, hA16, hA7])
        clear hA15 hA2 hA16 hA7
        go_wp2_with fail
        go_quiet (fail)
        go_upto_region 7 with fail
        refine wp_at (fun W => Fr noBlock wr W) ((Fr.refl noBlock wr).drewN nq) ?_
        intro wq hq
        have HBq := Lib.hid (hq.obj HB.out (fun z => z))
        have HFq := Lib.hid (HF.out.trans' hq)
        clear c15 c2 e15 e2 f15 f2 hq HB HF
        have e16 : wrap64 ((t : Int) - 16) = ((t - 16 : Nat) : Int) := by unfold wrap64; omega
        have e7 : wrap64 ((t : Int) - 7) = ((t - 7 : Nat) : Int) := by unfold wrap64; omega
        have f16 : ((t - 16 : Nat) : Int) < 64 := by omega
        have f7 : ((t - 7 : Nat) : Int) < 64 := by omega
        have h16' : IntKind.i64.wrap ((t : Int) - 16) = ((t - 16 : Nat) : Int) := by rw [IntKind.wrap_i64]; omega
        have h7' : IntKind.i64.wrap ((t : Int) - 7) = ((t - 7 : Nat) : Int) := by rw [IntKind.wrap_i64]; omega
        have g16 : (0 : Int) ≤ ((t - 16 : Nat) : Int) := by omega
        have g7 : (0 : Int) ≤ ((t - 7 : Nat) : Int) := by omega
        have HKeep := Lib.hid (show ∀ W : World, Fr noBlock wq W → W.cell? ⟨w.heap.size, t - 16, none⟩ = some (.int .u32 (A16.toNat : Int)) ∧ W.cell? ⟨w.heap.size, t - 7, none⟩ = some (.int .u32 (A7.toNat : Int)) ∧ W.cell? ⟨w.heap.size, t, none⟩ = some (cellAt W ⟨w.heap.size, t, none⟩) ∧ W.frozen? ⟨w.heap.size, t, none⟩ = false from fun W hf => by
          have hb := hf.obj HBq.out (fun z => z)
          obtain ⟨y, hy⟩ : ∃ y, (schedL x t)[t]? = some y := ⟨_, List.getElem?_eq_getElem (by rw [schedL_len x ht]; exact hlt)⟩
          exact ⟨(words_cell hb c16).1, (words_cell hb c7).1, cellAt_some (words_cell hb hy).1, (words_cell hb hy).2⟩)
        clear c16 c7
        obtain ⟨d16, d7, dy, dz⟩ := HKeep.out _ (Fr.refl noBlock wq)
        have R1 := Lib.hid (rightP A15 (n := 7) (by decide) (z := 7) rfl)
        have R2 := Lib.hid (rightP A15 (n := 18) (by decide) (z := 18) rfl)
        have R3 := Lib.hid (rightP A2 (n := 17) (by decide) (z := 17) rfl)
        have R4 := Lib.hid (rightP A2 (n := 19) (by decide) (z := 19) rfl)
        unfold SRightP at R1 R2 R3 R4
        go_region_held3 (fun W => W.cell? ⟨w.heap.size, t - 16, none⟩ = some (.int .u32 (A16.toNat : Int)) ∧ W.cell? ⟨w.heap.size, t - 7, none⟩ = some (.int .u32 (A7.toNat : Int)) ∧ W.cell? ⟨w.heap.size, t, none⟩ = some (cellAt W ⟨w.heap.size, t, none⟩) ∧ W.frozen? ⟨w.heap.size, t, none⟩ = false)
          (first | exact ⟨d16, d7, dy, dz⟩ | exact HKeep.out _ ((Fr.refl noBlock wq).drew) | exact keep_two d16 d7 dy dz (by omega) (by omega) | fail "nokeep")
          (first
            | (go_at_call 404; (with_reducible refine (R1.out _).mono ?_); rintro e w' ⟨rfl, rfl⟩)
            | (go_at_call 404; (with_reducible refine (R2.out _).mono ?_); rintro e w' ⟨rfl, rfl⟩)
            | (go_at_call 404; (with_reducible refine (R3.out _).mono ?_); rintro e w' ⟨rfl, rfl⟩)
            | (go_at_call 404; (with_reducible refine (R4.out _).mono ?_); rintro e w' ⟨rfl, rfl⟩)
            | fail "noarm")
        have HB2 := Lib.hid (words_set HBq.out t (nextW x (sched x t) t))
        have HF2 := Lib.hid ((HFq.out.setCell (p := ⟨w.heap.size, t, none⟩) (.inr (Nat.le_refl _)) (.int .u32 ((nextW x (sched x t) t).toNat : Int))).drew)
        rw [schedL_set x hlt] at HB2
        rw [HN.out, ← next_u32] at HB2 HF2
        clear HN HKeep R1 R2 R3 R4 d16 d7 dy dz
        go_wp2_with fail
        go_roundw
        case rel => exact ⟨t + 1, hlt, by go_num, HB2, HF2⟩
        case measure => simp [intOf]; omega
    · have q1 : (64 : Int) ≤ (t : Int) := by omega
      obtain rfl : t = 64 := by omega
      clear hlt ht
      have ac : ∀ (W : World), W.heap[a]? = some (.cells ca ta (0, 0)) → W.cell? ⟨a, 0, none⟩ = some (.int .u32 (s.a.toNat : Int)) ∧ W.cell? ⟨a, 1, none⟩ = some (.int .u32 (s.b.toNat : Int)) ∧ W.cell? ⟨a, 2, none⟩ = some (.int .u32 (s.c.toNat : Int)) ∧ W.cell? ⟨a, 3, none⟩ = some (.int .u32 (s.d.toNat : Int)) ∧ W.cell? ⟨a, 4, none⟩ = some (.int .u32 (s.e.toNat : Int)) ∧ W.cell? ⟨a, 5, none⟩ = some (.int .u32 (s.f.toNat : Int)) ∧ W.cell? ⟨a, 6, none⟩ = some (.int .u32 (s.g.toNat : Int)) ∧ W.cell? ⟨a, 7, none⟩ = some (.int .u32 (s.h.toNat : Int)) := by
        intro W hW
        have g : ∀ i, i < 8 → W.cell? ⟨a, i, none⟩ = (s.list.map u32V)[i]? := by
          intro i hi
          rw [cell_of hW, ← hs, List.getElem?_take, if_pos hi, Array.getElem?_toList]
        exact ⟨g 0 (by omega), g 1 (by omega), g 2 (by omega), g 3 (by omega), g 4 (by omega), g 5 (by omega), g 6 (by omega), g 7 (by omega)⟩
      obtain ⟨a0, a1, a2, a3, a4, a5, a6, a7⟩ := ac wr (HF.out.obj ha (fun z => z))
      have HC := Lib.hid ac
      clear ac
      obtain ⟨w4, rfl⟩ : ∃ w4 : World, w4 = wr := ⟨_, rfl⟩
      go_upto_region 10 with fail
      obtain ⟨v, hv⟩ : ∃ v, w4.heap.size = v := ⟨_, rfl⟩
      refine wp_at (fun W => W.heap[v]? = some (wordsO (rounds x s 0).list 437) ∧ Fr noBlock w4 W) ⟨by rw [← hv]; exact heap_new w4 _, (Fr.refl noBlock w4).alloc _⟩ ?_
      rintro w2 ⟨h2, f2⟩
      have H2 := Lib.hid h2
      have F2 := Lib.hid f2
      clear h2 f2 a0 a1 a2 a3 a4 a5 a6 a7
      rw [hv]
      go_wp2_with fail
      go_loopw [70] (fun s70 W => ∃ t : Nat, t ≤ 64 ∧ s70 = .int .i64 t ∧ Hid (W.heap[v]? = some (wordsO (rounds x s t).list 437)) ∧ Hid (Fr noBlock w4 W)) (fun s70 _ => 64 - (intOf s70).toNat)
      case atStart => exact ⟨0, by omega, rfl, H2, F2⟩
      case round =>
        clear H2 F2
        obtain ⟨t, ht, rfl, HV, HW⟩ := hrel
        by_cases hlt : t < 64
        · have q2 : (t : Int) < 64 := by omega
          have q0 : (0 : Int) ≤ (t : Int) := by omega
          obtain ⟨R, hR⟩ : ∃ R, rounds x s t = R := ⟨_, rfl⟩
          have HR := Lib.hid hR
          rw [hR] at HV
          clear hR
          have vc : ∀ (U : World), Fr noBlock wr U → U.cell? ⟨v, 0, none⟩ = some (.int .u32 (R.a.toNat : Int)) ∧ U.cell? ⟨v, 1, none⟩ = some (.int .u32 (R.b.toNat : Int)) ∧ U.cell? ⟨v, 2, none⟩ = some (.int .u32 (R.c.toNat : Int)) ∧ U.cell? ⟨v, 3, none⟩ = some (.int .u32 (R.d.toNat : Int)) ∧ U.cell? ⟨v, 4, none⟩ = some (.int .u32 (R.e.toNat : Int)) ∧ U.cell? ⟨v, 5, none⟩ = some (.int .u32 (R.f.toNat : Int)) ∧ U.cell? ⟨v, 6, none⟩ = some (.int .u32 (R.g.toNat : Int)) ∧ U.cell? ⟨v, 7, none⟩ = some (.int .u32 (R.h.toNat : Int)) := by
            intro U hU
            have h := hU.obj HV.out (fun z => z)
            exact ⟨(words_cell h (i := 0) rfl).1, (words_cell h (i := 1) rfl).1, (words_cell h (i := 2) rfl).1, (words_cell h (i := 3) rfl).1, (words_cell h (i := 4) rfl).1, (words_cell h (i := 5) rfl).1, (words_cell h (i := 6) rfl).1, (words_cell h (i := 7) rfl).1⟩
          obtain ⟨b0, -, -, -, b4, -, -, -⟩ := vc wr (Fr.refl _ _)
          have HC2 := Lib.hid vc
          clear vc
          go_wp2_with fail
          go_quiet (fail)
          go_upto_region 14 with fail
          refine wp_at (fun U => Fr noBlock wr U) ((Fr.refl noBlock wr).drewN nq) ?_
          intro w3 f3
          obtain ⟨b0, b1, b2, b3, b4, b5, b6, b7⟩ := HC2.out w3 f3
          have F3 := Lib.hid f3
          clear f3
          have k1 : w3.cell? ⟨k, t, none⟩ = some (.int .u32 ((shaK.getD t 0).toNat : Int)) := by
            have h := F3.out.obj (HW.out.obj (HF.out.obj hk (fun z => z)) (fun z => z)) (fun z => z)
            exact (words_cell h (by rw [List.getD_eq_getElem?_getD, List.getElem?_eq_getElem (by rw [shaK_len]; exact hlt)]; rfl)).1
          have k2 : w3.cell? ⟨w.heap.size, t, none⟩ = some (.int .u32 (((sched x 64).getD t 0).toNat : Int)) := by
            have h := F3.out.obj (HW.out.obj HB.out (fun z => z)) (fun z => z)
            exact (words_cell h (schedL_get x hlt)).1
          obtain ⟨KK, hKK⟩ : ∃ K, shaK.getD t 0 = K := ⟨_, rfl⟩
          obtain ⟨WW, hWW⟩ : ∃ K, (sched x 64).getD t 0 = K := ⟨_, rfl⟩
          rw [hKK] at k1
          rw [hWW] at k2
          have HKW := Lib.hid (And.intro hKK hWW)
          clear hKK hWW
          have R1 := Lib.hid (rightP R.e (n := 6) (by decide) (z := 6) rfl)
          have R2 := Lib.hid (rightP R.e (n := 11) (by decide) (z := 11) rfl)
          have R3 := Lib.hid (rightP R.e (n := 25) (by decide) (z := 25) rfl)
          unfold SRightP at R1 R2 R3
          go_quiet (first
            | (go_at_call 404; exact Calls.quiet_of_same ((R1.out _).mono fun _ _ ⟨a, b⟩ => ⟨a, b.symm⟩))
            | (go_at_call 404; exact Calls.quiet_of_same ((R2.out _).mono fun _ _ ⟨a, b⟩ => ⟨a, b.symm⟩))
            | (go_at_call 404; exact Calls.quiet_of_same ((R3.out _).mono fun _ _ ⟨a, b⟩ => ⟨a, b.symm⟩))
            | fail "noarm")
          rw [sumX_u32]
          go_upto_region 15 with fail
          obtain ⟨T1, hT1⟩ : ∃ T, R.sumX KK WW = T := ⟨_, rfl⟩
          rw [hT1]
          have HT1 := Lib.hid hT1
          clear hT1 k1 k2 R1 R2 R3 b0 b1 b2 b3 b4 b5 b6 b7
          refine wp_at (fun U => Fr noBlock wr U) (F3.out.drewN nq) ?_
          intro w5 f5
          obtain ⟨b0, b1, b2, -, -, -, -, -⟩ := HC2.out w5 f5
          have F5 := Lib.hid f5
          clear f5 F3
          have R1 := Lib.hid (rightP R.a (n := 2) (by decide) (z := 2) rfl)
          have R2 := Lib.hid (rightP R.a (n := 13) (by decide) (z := 13) rfl)
          have R3 := Lib.hid (rightP R.a (n := 22) (by decide) (z := 22) rfl)
          unfold SRightP at R1 R2 R3
          go_quiet (first
            | (go_at_call 404; exact Calls.quiet_of_same ((R1.out _).mono fun _ _ ⟨a, b⟩ => ⟨a, b.symm⟩))
            | (go_at_call 404; exact Calls.quiet_of_same ((R2.out _).mono fun _ _ ⟨a, b⟩ => ⟨a, b.symm⟩))
            | (go_at_call 404; exact Calls.quiet_of_same ((R3.out _).mono fun _ _ ⟨a, b⟩ => ⟨a, b.symm⟩))
            | fail "noarm")
          rw [sumY_u32]
          go_upto_region 16 with fail
          obtain ⟨T2, hT2⟩ : ∃ T, R.sumY = T := ⟨_, rfl⟩
          rw [hT2]
          have HT2 := Lib.hid hT2
          clear hT2 R1 R2 R3 b0 b1 b2
          refine wp_at (fun U => Fr noBlock wr U) (F5.out.drewN nq) ?_
          intro w6 f6
          have HV6 := Lib.hid (((Fr.refl noBlock w6).drew).obj (f6.obj HV.out (fun z => z)) (fun z => z))
          have HW6 := Lib.hid ((HW.out.trans' f6).drew)
          clear f6 F5 HC2 HV HW
          go_region_law (refine step_copyW (by rfl) _ _ (by rfl) HV6.out (by rfl) (by rfl) (by rfl) ?_; intro w7 h7 f7)
          have HW7 := Lib.hid (HW6.out.trans f7 (fun q hq => .inr (by rw [hq]; exact Nat.le_of_eq hv)))
          have HV7 := Lib.hid h7
          clear h7 f7 HV6 HW6
          obtain ⟨b4, z4⟩ := words_cell HV7.out (i := 4) rfl
          obtain ⟨b0, z0⟩ := words_cell HV7.out (i := 0) rfl
          have HV8 := Lib.hid (words_set (words_set HV7.out 0 (T1 + T2)) 4 (R.d + T1))
          have HW8 := Lib.hid ((HW7.out.setCell (p := ⟨v, 0, none⟩) (.inr (Nat.le_of_eq hv)) (.int .u32 ((T1 + T2).toNat : Int))).setCell (p := ⟨v, 4, none⟩) (.inr (Nat.le_of_eq hv)) (.int .u32 ((R.d + T1).toNat : Int)))
          rw [← u32add, ← u32add] at HV8 HW8
          go_wp2_with fail
          refine ⟨?_, ?measure⟩
          (repeat apply Exists.intro)
          refine ⟨?rel, rfl⟩
          case rel =>
            refine ⟨t + 1, hlt, by go_num, ?_, HW8⟩
            rw [rounds, HR.out, HKW.out.1, HKW.out.2]
            have h := HV8.out
            rw [← HT1.out, ← HT2.out] at h
            exact Lib.hid (by rw [← HT1.out, ← HT2.out]; exact h)
          case measure => simp [intOf]; omega
        · have q2 : (64 : Int) ≤ (t : Int) := by omega
          obtain rfl : t = 64 := by omega
          clear hlt ht
          obtain ⟨R, hR⟩ : ∃ R, rounds x s 64 = R := ⟨_, rfl⟩
          have HR := Lib.hid hR
          rw [hR] at HV
          clear hR
          obtain ⟨w5, rfl⟩ : ∃ w5 : World, w5 = wr := ⟨_, rfl⟩
          have HA := Lib.hid (show w5.heap[a]? = some (headO (addL s R 0) (ca.toList.drop 8) ta) by
            have h := HW.out.obj (HF.out.obj ha (fun z => z)) (fun z => z)
            rw [h]
            unfold headO
            have e : (addL s R 0).map u32V ++ ca.toList.drop 8 = ca.toList := by
              show s.list.map u32V ++ _ = _
              rw [← hs, List.take_append_drop]
            rw [e])
          have hva : v ≠ a := fun e => by
            have := heap_lt (HF.out.obj ha (fun z => z))
            omega
          go_wp2_with fail
          go_loopw [146] (fun s146 U => ∃ i : Nat, i ≤ 8 ∧ s146 = .int .i64 i ∧ Hid (U.heap[a]? = some (headO (addL s R i) (ca.toList.drop 8) ta)) ∧ Hid (Fr (fun q => q = a) w5 U)) (fun s146 _ => 8 - (intOf s146).toNat)
          case atStart => exact ⟨0, by omega, rfl, HA, Lib.hid (Fr.refl _ _)⟩
          case round =>
            clear HA
            obtain ⟨i, hi, rfl, HA, HU⟩ := hrel
            by_cases hlt : i < 8
            · have q3 : (i : Int) < 8 := by omega
              have q0 : (0 : Int) ≤ (i : Int) := by omega
              obtain ⟨p, q, hp, hq, hset⟩ := addL_step s R hlt
              obtain ⟨g0, z0⟩ := head_cell HA.out hp
              have g1 := (words_cell (HU.out.obj HV.out hva) hq).1
              have HA2 := Lib.hid (head_set ((Fr.refl noBlock wr).drew.obj HA.out (fun z => z)) (i := i) (by rw [addL_len s R hi]; exact hlt) (p + q))
              rw [hset] at HA2
              have HU2 := Lib.hid (HU.out.drew.setCell (p := ⟨a, i, none⟩) (.inl rfl) (.int .u32 ((p + q).toNat : Int)))
              rw [← u32add] at HA2 HU2
              clear hp hq hset
              go_wp2_with fail
              go_still_tail 11, (by kernel_rfl)
              change wpList _ _ _ _ _ wr.drew
              go_wp2_with fail
              refine ⟨?_, ?measure⟩
              (repeat apply Exists.intro)
              refine ⟨?rel, rfl⟩
              case rel => exact ⟨i + 1, hlt, by go_num, HA2, HU2⟩
              case measure => simp [intOf]; omega
            · have q3 : (8 : Int) ≤ (i : Int) := by omega
              obtain rfl : i = 8 := by omega
              go_wp2_with fail
              go_end0
              refine ⟨rfl, (((HF.out.trans' HW.out).mono (fun _ z => z.elim)).trans' HU.out), ?_⟩
              rw [HA.out, addL_all]
              unfold headO shaB
              rw [rounds_take hl, HR.out]
end Go.Proofs.YtajhgejhdalobaaGreatDoor
namespace Go.Proofs.YtajhgejhdalobaaGreatDoor
open Go.RowKit

structure PBes (w : World) (F : Nat → Prop) (ao : Option Addr) (ss : List SV) (ps : List Bs) : Prop where
  rows : Bes SliceR ao ss w F
  len : ss.length = ps.length
  each : ∀ (i : Nat) (s : SV) (p : Bs), ss[i]? = some s → ps[i]? = some p → s.n = p.length ∧ Bes ByteR s.ao p w F
namespace PBes
variable {w w' : World} {F F' : Nat → Prop} {ao : Option Addr} {ss : List SV} {ps : List Bs}
theorem step (h : PBes w F ao ss ps) (s : Step F F' w w') : PBes w' F' ao ss ps :=
  ⟨h.rows.step s, h.len, fun i a p x y => ⟨(h.each i a p x y).1, (h.each i a p x y).2.step s⟩⟩
theorem fr (h : PBes w F ao ss ps) (f : Fr noBlock w w') : PBes w' F ao ss ps := h.step (Step.same f)
theorem at' (h : PBes w F ao ss ps) {i : Nat} (hi : i < ps.length) : ∃ (b off : Nat) (s : SV), ao = some ⟨b, off, none⟩ ∧ w.cell? ⟨b, off + i, none⟩ = some (.slice s.ao ps[i].length s.cap) ∧ Bes ByteR s.ao ps[i] w F := by
  have hi2 : i < ss.length := by rw [h.len]; exact hi
  obtain ⟨b, off, e, _, h3⟩ := h.rows.rd.at' i hi2
  have hk : SliceR.k = 1 := rfl
  have h0 := h3 0 ss[i].val rfl
  obtain ⟨e1, e2⟩ := h.each i ss[i] ps[i] (List.getElem?_eq_getElem hi2) (List.getElem?_eq_getElem hi)
  refine ⟨b, off, ss[i], e, ?_, e2⟩
  rw [hk, Nat.mul_one, Nat.add_zero] at h0
  rw [h0, ← e1]
  rfl
end PBes
theorem there_new (w : World) (cs : Array Value) (t : TypeId) {n : Nat} (hn : cs.size = n) : (w.alloc (.cells cs t)).there w.heap.size 0 n := there_of (heap_new w _) hn
theorem HashIn.app {h m cap : Nat} {s : S8} {ao : Option Addr} {r r2 : List UInt8} {n : Int} {w w2 : World} {ao2 : Option Addr} {N cap2 : Nat} (hh : HashIn h s ao m cap r n w) (g2 : w.grownBy w2 (Value.slice ao m cap).ownBlock) (o2 : OffB w2 ao2 N cap2 r2)
    (a2 : (Value.slice ao2 N cap2).ownBlock = (Value.slice ao m cap).ownBlock ∨ (Value.slice ao2 N cap2).ownBlock = some w.heap.size) :
    (HashIn h s ao2 N cap2 r2 n (w2.setCell ⟨h, 8, none⟩ (.slice ao2 N cap2)) ∧ Step (hashF h ao m cap) (hashF h ao2 N cap2) w (w2.setCell ⟨h, 8, none⟩ (.slice ao2 N cap2))) ∧ w2.cell? ⟨h, 8, none⟩ = some (.slice ao m cap) ∧ w2.frozen? ⟨h, 8, none⟩ = false := by
  have hl := heap_lt hh.box
  have hb : w2.heap[h]? = w.heap[h]? := g2.block h hl (fun e => hh.ne e.symm)
  have hne : (Value.slice ao2 N cap2).ownBlock ≠ some h := by
    rcases a2 with e | e
    · rw [e]; exact hh.ne
    · rw [e]; intro e2; cases e2; omega
  have f2 : Fr (hashF h ao m cap) w w2 := (Fr.refl _ w).grown g2 (fun k hk => .inl (.inr hk))
  refine ⟨⟨hh.rest hb o2 hne, ⟨f2.setCell (p := ⟨h, 8, none⟩) (.inl (.inl rfl)) _, ?_⟩⟩, ?_, ?_⟩
  · rintro k (rfl | hk)
    · exact .inl (.inl rfl)
    · rcases a2 with e | e
      · rw [e] at hk; exact .inl (.inr hk)
      · rw [e] at hk; cases hk; exact .inr (Nat.le_refl _)
  · rw [World.cell?_of_block (w := w) hb]; exact hh.cells.1
  · rw [World.frozen?_of_block (w := w) hb]; exact hh.cells.2.2.1
theorem HashIn.turn {h m cap : Nat} {s s2 : S8} {ao : Option Addr} {r : List UInt8} {n : Int} {w w' : World} (hh : HashIn h s ao m cap r n w) (hf : Fr (fun k => k = h) w w') (hb : w'.heap[h]? = some (.cells ((s2.list.map u32V) ++ (s.list.map u32V ++ [Value.slice ao m cap, Value.int .i64 n]).toArray.toList.drop 8).toArray 440 (0, 0))) :
    HashIn h s2 ao m cap r n w' := ⟨hb, hh.off.fr hf (fun k hk e => hh.ne (by rw [hk, e])), hh.ne⟩
def lenAt (W : World) (p : Addr) : Nat := match W.cell? p with | some (.slice _ n _) => n | _ => 0
theorem lenAt_of {W : World} {p : Addr} {ao : Option Addr} {n c : Nat} (h : W.cell? p = some (.slice ao n c)) : lenAt W p = n := by
  unfold lenAt
  rw [h]
def HWriteP (h : Nat) (s : S8) (r : List UInt8) (n : Int) (F : Nat → Prop) (all : List UInt8) (w : World) (e : Ending) (w' : World) : Prop :=
  ∃ ao m cap, e = .returned (.tuple #[]) ∧ HashIn h (eat s (r ++ all)).1 ao m cap (eat s (r ++ all)).2 (n + all.length) w' ∧ Step F (hashF h ao m cap) w w'
set_option maxRecDepth 100000 in
set_option maxHeartbeats 3200000 in
theorem hwrite_any {h m cap : Nat} {s : S8} {ao : Option Addr} {r : List UInt8} {n : Int} {w : World} (hh : HashIn h s ao m cap r n w) (hr : r.length < 64) {pa : Option Addr} {ss : List SV} {ps : List Bs} (hp : PBes w (hashF h ao m cap) pa ss ps) (pc : Nat) (hb : ps.flatten.length ≤ 1099511627776) (hss : ps.length ≤ 1000000) (hn0 : 0 ≤ n) (hn1 : n ≤ 1099511627776) :
    Calls Tryz.prog 354 #[.pointer (some ⟨h, 0, none⟩), .slice pa ps.length pc] w (HWriteP h s r n (hashF h ao m cap) ps.flatten w) := by
  have HH := Lib.hid hh
  have HP := Lib.hid hp
  have hhlt := hh.lt h (.inl rfl)
  have HLT := Lib.hid hh.lt
  have HWd := Lib.hid (words_any w)
  clear hh hp
  unfold HWriteP
  obtain ⟨F0, hF0⟩ : ∃ F, hashF h ao m cap = F := ⟨_, rfl⟩
  rw [hF0] at HP HLT ⊢
  have HF0 := Lib.hid hF0
  clear hF0
  go_enter Tryz.func354, Tryz.ntmps354
  go_wp2_with fail
  refine HWd.out.mono ?_
  rintro e w0 ⟨rfl, f0⟩
  have hks : (shaK.map u32V).toArray.size = 64 := by simp [shaK_len]
  have h1 : ((shaK.map u32V).toArray).all (·.oneCell') = true := all_oneCell_toArray shaK_one
  obtain ⟨KV, hKV⟩ : ∃ KV, (shaK.map u32V).toArray = KV := ⟨_, rfl⟩
  have HKV := Lib.hid hKV
  rw [hKV] at hks h1 ⊢
  clear hKV
  have hinfo : (Tryz.prog.info? 441).map (·.size) = some KV.size := by rw [hks]; kernel_rfl
  have HNew := Lib.hid (fun (cs : Array Value) (hc : cs.size = 64) => show (w0.alloc (.cells cs 441)).there w0.heap.size 0 KV.size by rw [hks]; exact there_new w0 cs 441 hc)
  have HOver := Lib.hid (fun (cs : Array Value) (hc : cs.size = 64) => show ((w0.alloc (.cells cs 441)).setCells w0.heap.size 0 KV.toList).heap[w0.heap.size]? = some (wordsO shaK 441) by
    have h := heap_over KV.toList (heap_new w0 (.cells cs 441)) (by rw [hc]; simpa using hks.symm)
    rw [h]
    unfold wordsO
    rw [HKV.out])
  have HFr := Lib.hid (fun (cs : Array Value) => fr_setCells (f0.alloc (.cells cs 441)) (g := w0.heap.size) (o := 0) (.inr f0.size) KV.toList)
  go_wp2_with (refine wpList_store_mid (by rfl) 441 _ _ (by rfl) w0.heap.size 0 KV (by rfl) (by rfl) (HNew.out _ (by rfl)) hinfo h1 ?_)
  refine wp_at (fun W => W.heap[w0.heap.size]? = some (wordsO shaK 441) ∧ Fr noBlock w W) ⟨HOver.out _ (by rfl), HFr.out _⟩ ?_
  clear HNew HOver HFr hinfo h1 HKV hks
  have hk0 := f0.size
  obtain ⟨kb, hkb⟩ : ∃ kb, w0.heap.size = kb := ⟨_, rfl⟩
  rw [hkb] at hk0 ⊢
  clear f0 hkb HWd
  rintro w1 ⟨hk, f1⟩
  have HK := Lib.hid hk
  have F1 := Lib.hid f1
  have HH1 := Lib.hid (HH.out.fr0 f1)
  have HP1 := Lib.hid (HP.out.fr f1)
  have HLT1 := Lib.hid (show ∀ q, F0 q → q < w.heap.size from HLT.out)
  have hkb := heap_lt hk
  clear hk f1 HH HP HLT
  go_loopw [10] (fun s10 wr => ∃ (i : Nat) (S : S8) (R : List UInt8) (ao' : Option Addr) (m' cap' : Nat), i ≤ ps.length ∧ s10 = .int .i64 i ∧ R.length < 64 ∧ eat s (r ++ (ps.take i).flatten) = (S, R) ∧ Hid (HashIn h S ao' m' cap' R (n + (ps.take i).flatten.length) wr) ∧ Hid (Step F0 (hashF h ao' m' cap') w1 wr)) (fun s10 _ => ps.length - (intOf s10).toNat)
  case atStart =>
    refine ⟨0, s, r, ao, m, cap, Nat.zero_le _, rfl, hr, ?_, Lib.hid ?_, Lib.hid ?_⟩
    · simp [eat_short hr]
    · simpa using HH1.out
    · rw [HF0.out]; exact Step.refl _ _
  case round =>
    clear HH1
    obtain ⟨i, S, R, ao', m', cap', hi, rfl, hR, hS, HH, HT⟩ := hrel
    have HS := Lib.hid hS
    clear hS
    by_cases hlt : i < ps.length
    · have q1 : (i : Int) < (ps.length : Int) := by omega
      have q0 : (0 : Int) ≤ (i : Int) := by omega
      have HPr := Lib.hid (HP1.out.step HT.out)
      obtain ⟨b, off, sv, rfl, hc, hpb⟩ := HPr.out.at' hlt
      have HPi := Lib.hid hpb
      clear hpb
      obtain ⟨p, hpp⟩ : ∃ p, ps[i] = p := ⟨_, rfl⟩
      rw [hpp] at hc HPi
      have Hpp := Lib.hid hpp
      clear hpp
      obtain ⟨c8, c9, z8, z9⟩ := HH.out.cells
      have htl : (ps.take i).flatten.length + p.length ≤ 1099511627776 := by
        have e : (ps.take (i + 1)).flatten.length ≤ ps.flatten.length := by
          have : ps.flatten = (ps.take (i + 1)).flatten ++ (ps.drop (i + 1)).flatten := by rw [← List.flatten_append, List.take_append_drop]
          rw [this, List.length_append]
          omega
        rw [List.take_add_one, List.getElem?_eq_getElem hlt, Hpp.out, List.flatten_append, List.length_append] at e
        have e2 : (Option.toList (some p)).flatten.length = p.length := by simp
        omega
      obtain ⟨nn, hnn⟩ : ∃ nn, (ps.take i).flatten.length = nn := ⟨_, rfl⟩
      rw [hnn] at htl HH c9
      have q9 : IntKind.i64.wrap (n + (nn : Int) + (p.length : Int)) = n + (nn : Int) + (p.length : Int) := by rw [IntKind.wrap_i64]; omega
      have q9' : wrap64 (n + (nn : Int) + (p.length : Int)) = n + (nn : Int) + (p.length : Int) := by unfold wrap64; omega
      have HC := Lib.hid (HH.out.count (n + (nn : Int) + (p.length : Int)))
      have FC := Lib.hid ((Fr.refl (hashF h ao' m' cap') wr).setCell (p := ⟨h, 9, none⟩) (.inl (.inl rfl)) (.int .i64 (n + (nn : Int) + (p.length : Int))))
      have hml := HH.out.off.len
      go_wp2_with (at_builtin; apply stop_here)
      refine ⟨?_, trivial⟩
      refine wpList_appO rfl _ _ rfl HC.out.off rfl rfl ((HPi.out.step ⟨FC.out, fun _ z => .inl z⟩).rd) rfl rfl (by omega) ?_
      intro ao2 cap2 w2 o2 g2 a2
      go_frame
      obtain ⟨⟨hA, sA⟩, d8, d9⟩ := HC.out.app g2 o2 a2
      have HA := Lib.hid hA
      have SA := Lib.hid (HT.out.trans (Step.trans ⟨FC.out, fun _ z => .inl z⟩ sA))
      clear g2 o2 a2 hA sA FC HC c8 c9 z8 z9 hc HPr HPi HH HT hml
      obtain ⟨N, hN⟩ : ∃ N, m' + p.length = N := ⟨_, rfl⟩
      rw [hN] at HA SA ⊢
      clear hN
      go_upto_block 2 with fail
      refine wp_at (fun W => HashIn h S ao2 N cap2 (R ++ p) (n + (nn : Int) + (p.length : Int)) W ∧ Step F0 (hashF h ao2 N cap2) w1 W) ⟨HA.out, SA.out⟩ ?_
      clear HA SA d8 d9
      rintro w3 ⟨hA, sA⟩
      have HA := Lib.hid hA
      have SA := Lib.hid sA
      clear hA sA
      obtain ⟨T, hT⟩ : ∃ T, eat s (r ++ (ps.take (i + 1)).flatten) = T := ⟨_, rfl⟩
      have HTT := Lib.hid hT
      have hE : eat S (R ++ p) = T := by
        rw [← hT, List.take_add_one, List.getElem?_eq_getElem hlt, Hpp.out, List.flatten_append, ← List.append_assoc, eat_append s (r ++ (ps.take i).flatten), HS.out]
        simp
      have HE := Lib.hid hE
      clear hT hE
      obtain ⟨n3, hn3⟩ : ∃ n3, n + (nn : Int) + (p.length : Int) = n3 := ⟨_, rfl⟩
      have HN3 := Lib.hid hn3
      rw [hn3] at HA
      clear hn3 q9 q9'
      go_wp2_with fail
      go_loopw [] (fun wr => ∃ (S' : S8) (R' : List UInt8) (ao' : Option Addr) (m' cap' : Nat), Hid (eat S' R' = T) ∧ Hid (HashIn h S' ao' m' cap' R' n3 wr) ∧ Hid (Step F0 (hashF h ao' m' cap') w1 wr)) (fun W => lenAt W ⟨h, 8, none⟩)
      case atStart => exact ⟨S, R ++ p, ao2, N, cap2, HE, HA, SA⟩
      case round =>
        clear HE HA SA HS hR
        obtain ⟨S', R', ao3, m3, cap3, HE, HA, SA⟩ := hrel
        obtain ⟨c8, c9, z8, z9⟩ := HA.out.cells
        by_cases h64 : 64 ≤ m3
        · have q64 : (64 : Int) ≤ (m3 : Int) := by omega
          have hlen := HA.out.off.len
          have hnc := HA.out.off.nc
          obtain ⟨g, off3, rfl⟩ : ∃ g off3, ao3 = some ⟨g, off3, none⟩ := by
            rcases HA.out.off.lie with ⟨_, e⟩ | ⟨g, off3, _, e, _⟩
            · omega
            · exact ⟨g, off3, e⟩
          have hgh : g ≠ h := fun e => HA.out.ne (by rw [e]; rfl)
          have HAd := Lib.hid (HA.out.fr0 (Fr.refl noBlock wr).drew)
          have hkw : wr.drew.heap[kb]? = some (wordsO shaK 441) := SA.out.fr.obj HK.out (fun hf => by have := HLT1.out _ hf; omega)
          have HB := Lib.hid (block_any (HAd.out.box) rfl hkw HAd.out.off.rd (by omega) hgh (fun e => by omega) m3 cap3 hlen hnc)
          clear hkw
          go_wp2_with fail
          go_still_tail 7, (by kernel_rfl)
          change wpList _ _ _ _ _ wr.drew
          go_wp2_with fail
          refine HB.out.mono ?_
          rintro e w4 ⟨rfl, hf4, hb4⟩
          have HA4 := Lib.hid (HAd.out.turn hf4 hb4)
          have SA4 := Lib.hid (SA.out.trans (Step.trans (Step.same ((Fr.refl noBlock wr).drew)) ⟨hf4.mono (fun q hq => (.inl hq : hashF h _ m3 cap3 q)), fun _ z => .inl z⟩))
          clear hf4 hb4 HB c8 c9 z8 z9 HAd
          obtain ⟨c8, c9, z8, z9⟩ := HA4.out.cells
          obtain ⟨o5, ho5, hcut⟩ := HA4.out.off.cut2 (k := 64) h64
          have HA5 := Lib.hid (HA4.out.rest rfl hcut HA4.out.ne)
          have SA5 := Lib.hid (SA4.out.trans (F'' := hashF h (some ⟨g, o5, none⟩) (m3 - 64) (cap3 - 64)) ⟨(Fr.refl _ w4).setCell (p := ⟨h, 8, none⟩) (.inl (.inl rfl)) (.slice (some ⟨g, o5, none⟩) (m3 - 64) (cap3 - 64)), fun q hq => .inl hq⟩)
          have HE5 := Lib.hid (show eat (shaB S' (R'.take 64)) (R'.drop 64) = T by rw [← eat_step (by omega)]; exact HE.out)
          have qn : (m3 : Int) ≤ (cap3 : Int) := by omega
          have hl3 := lenAt_of c8
          have hl5 := lenAt_of HA5.out.cells.1
          have hl0 := lenAt_of HA.out.cells.1
          go_wp2_with fail
          go_roundw
          case rel => exact ⟨_, _, _, _, _, HE5, HA5, SA5⟩
          case measure =>
            rw [hl5, hl0]
            omega
        · have q64 : (m3 : Int) < 64 := by omega
          have hlen := HA.out.off.len
          have hE := HE.out
          rw [eat_short (by omega)] at hE
          have hfl : (ps.take (i + 1)).flatten.length = nn + p.length := by
            rw [List.take_add_one, List.getElem?_eq_getElem hlt, Hpp.out, List.flatten_append, List.length_append, hnn]
            simp
          go_wp2_with fail
          refine ⟨⟨i + 1, S', R', ao3, m3, cap3, hlt, by go_num, by omega, by rw [HTT.out, ← hE], ?_, SA⟩, by simp [intOf]; omega⟩
          rw [hfl]
          have e : n + ((nn + p.length : Nat) : Int) = n3 := by rw [← HN3.out]; omega
          rw [e]
          exact HA
    · have q1 : (ps.length : Int) ≤ (i : Int) := by omega
      obtain rfl : i = ps.length := by omega
      rw [List.take_length] at HS HH
      obtain rfl : R.length = m' := HH.out.off.len
      have hcm := HH.out.off.nc
      obtain ⟨c8, c9, z8, z9⟩ := HH.out.cells
      have HCl := Lib.hid (sclone_any HH.out.off.rd cap' (by omega))
      unfold CloneP at HCl
      go_wp2_with fail
      refine HCl.out.mono ?_
      rintro e w2 ⟨⟨xa, xn, xc⟩, rfl, h1, h2, h3, h4⟩
      unfold SV.val at h2 h4 ⊢
      dsimp only at h1 h2 h4 ⊢
      subst h1
      clear c8 c9 z8 z9 HCl
      have HH2 := Lib.hid (HH.out.fr0 h3)
      obtain ⟨c8, c9, z8, z9⟩ := HH2.out.cells
      have hne : (Value.slice xa R.length xc).ownBlock ≠ some h := fun e => by
        have := h4 h e
        have := heap_lt HH.out.box
        omega
      have HF := Lib.hid (HH2.out.rest rfl (OffB.of_row h2) hne)
      have ST := Lib.hid (show Step F0 (hashF h xa R.length xc) w (w2.setCell ⟨h, 8, none⟩ (.slice xa R.length xc)) from
        (Step.trans (Step.same F1.out) (HT.out.trans ⟨(h3.mono (fun _ z => z.elim)).trans' ((Fr.refl (hashF h ao' R.length cap') w2).setCell (p := ⟨h, 8, none⟩) (.inl (.inl rfl)) _), fun q hq => by
          rcases hq with rfl | hq
          · exact .inl (.inl rfl)
          · exact .inr (h4 q hq)⟩)))
      clear h2 h3 h4
      go_wp2_with fail
      go_end0
      exact ⟨xa, R.length, xc, rfl, by rw [HS.out]; exact HF.out, ST.out⟩
end Go.Proofs.YtajhgejhdalobaaGreatDoor
