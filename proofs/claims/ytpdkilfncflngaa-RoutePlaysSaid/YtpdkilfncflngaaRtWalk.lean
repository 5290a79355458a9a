/-
  THE WALKS of route.New, Put, Drop, Find.
-/
import Derived.Test.YtpdkilfncflngaaRtBase
namespace Go.Proofs.Ytpdkilfncflngaa
open Go.RowKit

set_option maxHeartbeats 400000 in
theorem new_any (w : World) : Calls Try.prog 9 #[] w fun e w' => ∃ l F, e = .returned (.pointer (some ⟨l, 0, none⟩)) ∧ TableAt l [] w' F ∧ Fr noBlock w w' ∧ ∀ k, F k → w.heap.size ≤ k := by
  have hmm := @run_makeMap Try.prog
  go_enter Try.func9, Try.ntmps9
  go_wp2
  go_ret
  refine ⟨w.heap.size + 1, fun k => k = w.heap.size + 1 ∨ k = w.heap.size, rfl, ⟨w.heap.size, ?_, ?_, by omega, fun _ => Iff.rfl, GoodR.nil⟩, ((Fr.refl _ _).alloc _).alloc _, fun k hk => by omega⟩
  · have := heap_new (w.alloc (.map #[] 0)) (.cells #[.map (some w.heap.size)] 50)
    simpa using this
  · exact ((MapAt.made Try.prog 9 3 w).fr ((Fr.refl noBlock _).alloc _) (fun h => h)).congr (fun s => rfl)

/-- the table's cell, and what its map answers -/
theorem TableAt.opened {l : Nat} {rs : List Route} {w : World} {F : Nat → Prop} (h : TableAt l rs w F) :
    ∃ bm, w.cell? ⟨l, 0, none⟩ = some (.map (some bm)) ∧ l < w.heap.size ∧ l ≠ bm ∧ bm < w.heap.size ∧ MapAt Try.prog 9 3 w bm (lookR rs) rs.length ∧ w.heap[l]? = some (.cells #[.map (some bm)] 50 (0, 0)) ∧ ∀ k, F k ↔ k = l ∨ k = bm := by
  obtain ⟨bm, h1, h2, h3, h4, h5⟩ := h
  have c0 := cell_of h1 0
  simp at c0
  exact ⟨bm, c0, heap_lt h1, h3, h2.lt, h2, h1, h4⟩

/-- the map has been written -/
theorem table_turned {l : Nat} {rs qs : List Route} {w w1 w2 : World} {F : Nat → Prop} (h : TableAt l rs w F) (hf : Fr noBlock w w1) {bm : Nat} (hc : w.cell? ⟨l, 0, none⟩ = some (.map (some bm))) (hm : MapAt Try.prog 9 3 w2 bm (lookR qs) qs.length) (ht : w1.mapTurned w2 bm) (hg : GoodR qs) :
    TableAt l qs w2 F ∧ Step F F w w2 := by
  obtain ⟨bm', h1, h2, h3, h4, h5⟩ := h
  have c0 := cell_of h1 0
  rw [hc] at c0
  obtain rfl : bm = bm' := by simpa using c0
  have hlt := heap_lt h1
  have hs := hf.size
  refine ⟨⟨bm, (ht.grown.block l (by omega) (by simpa using h3)).trans (hf.obj h1 (fun x => x)), hm, h3, h4, hg⟩, ⟨(hf.mono (fun _ x => x.elim)).grown ht.grown (fun k hk => by cases hk; exact .inl ((h4 _).2 (.inr rfl))), fun k hk => .inl hk⟩⟩

set_option maxRecDepth 100000 in
set_option maxHeartbeats 800000 in
theorem put_any {l : Nat} {rs : List Route} {w : World} {F : Nat → Prop} (h : TableAt l rs w F) (s : ByteArray) (t : Int) (hs : s.size ≤ maxLen) {x : Int} (hx : putE rs s t = x) {qs : List Route} (hq : putR rs s t = qs) :
    Calls Try.prog 10 #[.pointer (some ⟨l, 0, none⟩), .string s, .int .i64 t] w fun e w' => ∃ F', e = .returned (.int .i64 x) ∧ TableAt l qs w' F' ∧ Step F F' w w' := by
  obtain ⟨bm, c0, hl, hne, hbm, hmap, _, _⟩ := h.opened
  have hgood := h.choose_spec.2.2.2.2
  obtain ⟨pb, hpb⟩ : ∃ pb, preB s = pb := ⟨_, rfl⟩
  have Hp := Lib.hid (fun W => prefix_any s W hs pb hpb)
  have hno : x ≠ 0 → qs = rs := fun h0 => by rw [← hq, putR, if_neg (by rw [hx]; exact h0)]
  have hcs : (x = 1 ∧ (pb = false ∨ (pb = true ∧ t < 1) ∨ (pb = true ∧ 1 ≤ t ∧ 99 < t))) ∨ (x = 14 ∧ pb = true ∧ 1 ≤ t ∧ t ≤ 99 ∧ (lookR rs s).isSome = false ∧ 24 ≤ rs.length) ∨ (x = 0 ∧ pb = true ∧ 1 ≤ t ∧ t ≤ 99 ∧ ((lookR rs s).isSome = true ∨ ((lookR rs s).isSome = false ∧ rs.length < 24))) := by
    rw [← hx]
    unfold putE
    by_cases hm : mayR s t = false
    · rw [if_pos hm]
      left
      refine ⟨rfl, ?_⟩
      unfold mayR at hm
      rw [hpb] at hm
      cases pb
      · exact .inl rfl
      · simp at hm ⊢; omega
    · rw [if_neg hm]
      have hm' : mayR s t = true := by simpa using hm
      obtain ⟨h1, h2, h3⟩ := mayR_iff.1 hm'
      rw [hpb] at h1
      cases hl : (lookR rs s).isSome with
      | true => right; right; simp [h1, h2, h3]
      | false =>
        by_cases h24 : 24 ≤ rs.length
        · right; left; simp [h1, h2, h3, h24]
        · right; right; simp [h1, h2, h3, h24]; omega
  have Hno := Lib.hid hno
  have Hh := Lib.hid h
  have C0 := Lib.hid c0
  have Hgood := Lib.hid hgood
  have Hmap := Lib.hid hmap
  rcases hcs with ⟨rfl, hcs⟩ | ⟨rfl, rfl, t1, t2, hlk, h24⟩ | ⟨rfl, rfl, t1, t2, hcs⟩
  · clear hx hq hno h c0 hgood hmap
    rcases hcs with rfl | ⟨rfl, t1⟩ | ⟨rfl, t1, t2⟩
    all_goals
      go_enter Try.func10, Try.ntmps10
      go_wp2_with fail
      refine (Hp.out _).mono ?_
      rintro e w1 ⟨rfl, f1⟩
      have Hf := Lib.hid f1
      clear f1
      go_wp2_with fail
      go_ret
      exact ⟨F, rfl, by rw [Hno.out (by omega)]; exact TableAt.ok.fr0 Hh.out Hf.out, Step.same Hf.out⟩
  · have hlook := fun (W : World) (hW : Fr noBlock w W) => (hmap.fr hW (fun x => x)).look (mt := 48) Try.underlying9 Try.underlying48 Try.underlying3 (zero_int _) s hs
    have hlen := fun (W : World) (hW : Fr noBlock w W) (ty : TypeId) => (hmap.fr hW (fun x => x)).len (mt := 48) Try.underlying48 ty
    rw [hlk] at hlook
    have h24' : (24 : Int) ≤ (rs.length : Int) := by omega
    have Hlook := Lib.hid hlook
    have Hlen := Lib.hid hlen
    clear hx hq hno h c0 hgood hmap hlook hlen hlk
    generalize (lookR rs s).getD 0 = z at *
    go_enter Try.func10, Try.ntmps10
    go_wp2_with fail
    refine (Hp.out _).mono ?_
    rintro e w1 ⟨rfl, f1⟩
    have c1 := (f1.cell (p := ⟨l, 0, none⟩) hl (fun x => x)).trans C0.out
    have hk1 := Hlook.out w1 f1
    have hk2 := Hlen.out w1 f1
    have Hf := Lib.hid f1
    clear f1
    go_wp2_with fail
    go_ret
    exact ⟨F, rfl, by rw [Hno.out (by omega)]; exact TableAt.ok.fr0 Hh.out Hf.out, Step.same Hf.out⟩
  · have hqL : qs = putL rs s t := by rw [← hq, putR, if_pos hx]
    have hlook := fun (W : World) (hW : Fr noBlock w W) => (hmap.fr hW (fun x => x)).look (mt := 48) Try.underlying9 Try.underlying48 Try.underlying3 (zero_int _) s hs
    have hlen := fun (W : World) (hW : Fr noBlock w W) (ty : TypeId) => (hmap.fr hW (fun x => x)).len (mt := 48) Try.underlying48 ty
    have hst := fun (W : World) (hW : Fr noBlock w W) => (hmap.fr hW (fun x => x)).store (mt := 48) Try.underlying9 Try.underlying48 Try.underlying3 (by have := hgood.len; unfold maxLen; omega) s hs t (by simp [Lit.wf, IntKind.min, IntKind.max, IntKind.signed, IntKind.bits]; omega)
    have hend : ∀ (w1 w2 : World), Fr noBlock w w1 → MapAt Try.prog 9 3 w2 bm (fun u => if u = s then some t else lookR rs u) (if (lookR rs s).isSome then rs.length else rs.length + 1) → w1.mapTurned w2 bm → TableAt l qs w2 F ∧ Step F F w w2 := by
      intro w1 w2 hf hm ht
      have hgq : GoodR qs := by rw [← hq]; exact hgood.put s t
      refine table_turned h hf c0 ?_ ht hgq
      rw [hqL, putL_len hgood.sorted]
      exact hm.congr (fun u => (putL_look hgood.sorted s t u).symm)
    have Hlook := Lib.hid hlook
    have Hlen := Lib.hid hlen
    have Hst := Lib.hid hst
    have Hend := Lib.hid hend
    clear hx hq hno h c0 hgood hmap hlook hlen hst hend hqL
    generalize (lookR rs s).getD 0 = z at *
    generalize hsm : (lookR rs s).isSome = sm at *
    rcases hcs with rfl | ⟨rfl, h24⟩
    all_goals
      clear hsm
      try (have h24' : (rs.length : Int) < 24 := by omega)
      go_enter Try.func10, Try.ntmps10
      go_wp2_with fail
      refine (Hp.out _).mono ?_
      rintro e w1 ⟨rfl, f1⟩
      have c1 := (f1.cell (p := ⟨l, 0, none⟩) hl (fun x => x)).trans C0.out
      have hk1 := Hlook.out w1 f1
      have hk2 := Hlen.out w1 f1
      obtain ⟨w2, hrun, hm2, ht2⟩ := Hst.out w1 f1
      have HE := Lib.hid (Hend.out w1 w2 f1 hm2 ht2)
      clear f1 hm2 ht2
      go_wp2_with fail
      go_ret
      exact ⟨F, rfl, HE.out⟩

set_option maxHeartbeats 800000 in
theorem drop_any {l : Nat} {rs : List Route} {w : World} {F : Nat → Prop} (h : TableAt l rs w F) (s : ByteArray) (hs : s.size ≤ maxLen) {x : Int} (hx : dropE rs s = x) {qs : List Route} (hq : dropR rs s = qs) :
    Calls Try.prog 14 #[.pointer (some ⟨l, 0, none⟩), .string s] w fun e w' => ∃ F', e = .returned (.int .i64 x) ∧ TableAt l qs w' F' ∧ Step F F' w w' := by
  obtain ⟨bm, c0, hl, hne, hbm, hmap, _, _⟩ := h.opened
  have hgood := h.choose_spec.2.2.2.2
  have hlook := hmap.look (mt := 48) Try.underlying9 Try.underlying48 Try.underlying3 (zero_int _) s hs
  cases hlk : (lookR rs s).isSome with
  | false =>
    obtain rfl : x = 15 := by rw [← hx, dropE, if_neg (by simp [hlk])]
    obtain rfl : qs = rs := by rw [← hq, dropR, if_neg (by simp [hlk])]
    rw [hlk] at hlook
    have Hh := Lib.hid h
    generalize (lookR qs s).getD 0 = z at *
    clear hx hq h hmap hgood hlk
    go_enter Try.func14, Try.ntmps14
    go_wp2
    go_ret
    exact ⟨F, rfl, Hh.out, Step.refl _ _⟩
  | true =>
    obtain rfl : x = 0 := by rw [← hx, dropE, if_pos hlk]
    have hqL : qs = dropL rs s := by rw [← hq, dropR, if_pos hlk]
    obtain ⟨w2, hdel, hm2, ht2⟩ := hmap.drop (mt := 48) Try.underlying9 Try.underlying48 s hs hlk
    have hend : TableAt l qs w2 F ∧ Step F F w w2 := by
      have hgq : GoodR qs := by rw [← hq]; exact hgood.drop s
      refine table_turned h (Fr.refl _ _) c0 ?_ ht2 hgq
      have hln := dropL_len hgood.sorted s
      rw [if_pos hlk] at hln
      rw [hqL, hln]
      exact hm2.congr (fun u => (dropL_look rs s u).symm)
    rw [hlk] at hlook
    have HE := Lib.hid hend
    generalize (lookR rs s).getD 0 = z at *
    clear hx hq h hmap hgood hlk hm2 ht2 hend hqL
    go_enter Try.func14, Try.ntmps14
    go_wp2
    go_ret
    exact ⟨F, rfl, HE.out⟩
end Go.Proofs.Ytpdkilfncflngaa
