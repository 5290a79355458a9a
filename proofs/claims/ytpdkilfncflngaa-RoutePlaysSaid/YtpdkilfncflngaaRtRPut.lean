/-
  The document's table: Put.
-/
import Derived.Test.YtpdkilfncflngaaRtRef
import Derived.Test.YtpdkilfncflngaaRtRPackY
import Derived.Test.YtpdkilfncflngaaApp
namespace Go.Proofs.Ytpdkilfncflngaa
open Go.RowKit

theorem el_route : Elem Try.prog 39 42 RouteR.k 24 := Elem.mk' Try.underlying39 info_route (by decide) rfl
theorem putL_hit {rs : List Route} {s : ByteArray} {t : Int} : ∀ {k : Nat} (hk : k < rs.length), (∀ r ∈ rs.take k, ltB r.pre s) → rs[k].pre = s → putL rs s t = rs.set k ⟨s, t⟩ := by
  induction rs with
  | nil => intro k hk; simp at hk
  | cons r rs ih =>
    intro k hk hn he
    cases k with
    | zero =>
      simp at he
      rw [putL, if_neg (by rw [he]; exact ltB_irrefl s), if_pos he]; rfl
    | succ k =>
      have h1 : ltB r.pre s := hn r (by simp)
      rw [putL, if_pos h1, List.set_cons_succ, ih (by simpa using hk) (fun q hq => hn q (by simp [hq])) (by simpa using he)]
theorem putL_miss {rs : List Route} {s : ByteArray} {t : Int} : ∀ {k : Nat}, k ≤ rs.length → (∀ r ∈ rs.take k, ltB r.pre s) → (∀ h : k < rs.length, ¬ ltB rs[k].pre s ∧ rs[k].pre ≠ s) → putL rs s t = rs.take k ++ [⟨s, t⟩] ++ rs.drop k := by
  induction rs with
  | nil => intro k hk _ _; simp [putL]
  | cons r rs ih =>
    intro k hk hn he
    cases k with
    | zero =>
      obtain ⟨h1, h2⟩ := he (by simp)
      simp at h1 h2
      simp [putL, if_neg h1, if_neg h2]
    | succ k =>
      have h1 : ltB r.pre s := hn r (by simp)
      rw [putL, if_pos h1, ih (by simpa using hk) (fun q hq => hn q (by simp [hq])) (fun h => by have := he (by simpa using h); rwa [List.getElem_cons_succ] at this)]
      simp
theorem look_miss {rs : List Route} (hs : Sorted rs) {s : ByteArray} {k : Nat} (hn : ∀ r ∈ rs.take k, ltB r.pre s) (he : ∀ h : k < rs.length, ¬ ltB rs[k].pre s ∧ rs[k].pre ≠ s) : lookR rs s = none := by
  refine lookR_none.2 fun r hr e => ?_
  obtain ⟨i, hi, rfl⟩ := List.getElem_of_mem hr
  by_cases h1 : i < k
  · have := hn rs[i] (by rw [List.mem_take_iff_getElem]; exact ⟨i, by omega, rfl⟩)
    rw [e] at this
    exact ltB_irrefl _ this
  · by_cases h2 : i = k
    · subst h2; exact (he hi).2 e
    · have h3 : k < rs.length := by omega
      have h4 : ltB rs[k].pre rs[i].pre := List.pairwise_iff_getElem.1 hs k i h3 hi (by omega)
      rw [e] at h4
      exact (he h3).1 h4

theorem rput_no {l : Nat} {w : World} (s : ByteArray) (t : Int) (hs : s.size ≤ maxLen) (hm : mayR s t = false) :
    Calls Try.prog 13 #[.pointer (some ⟨l, 0, none⟩), .string s, .int .i64 t] w fun e w' => e = .returned (.int .i64 1) ∧ Fr noBlock w w' := by
  have Hp := Lib.hid (fun W => rpack_any s W hs)
  by_cases he : lookE s = 0
  · rw [he] at Hp
    have hd := look_dig he
    have hcs : (s.toList = []) ∨ (s.toList.isEmpty = false ∧ ¬ s.toList = [] ∧ 8 < s.size) ∨ (s.toList.isEmpty = false ∧ ¬ s.toList = [] ∧ s.size ≤ 8 ∧ t < 1) ∨ (s.toList.isEmpty = false ∧ ¬ s.toList = [] ∧ s.size ≤ 8 ∧ 1 ≤ t ∧ 99 < t) := by
      unfold mayR preB at hm
      rw [hd] at hm
      by_cases h0 : s.toList = []
      · exact .inl h0
      · right
        have h1 : s.toList.isEmpty = false := by simpa using h0
        rw [h1] at hm
        simp at hm
        simp only [h1, h0, true_and, not_false_eq_true]
        omega
    clear hm hd he hs
    rcases hcs with h1 | ⟨h0, h1, h2⟩ | ⟨h0, h1, h2, h3⟩ | ⟨h0, h1, h2, h3, h4⟩
    all_goals
      go_enter Try.func13, Try.ntmps13
      go_wp2_with fail
      refine (Hp.out _).mono ?_
      rintro e w1 ⟨v, rfl, f1⟩
      go_wp2_with fail
      go_ret
      exact ⟨rfl, f1⟩
  · have hne : (lookE s != 0) = true := by rw [bne_iff_ne]; exact he
    generalize lookE s = E at *
    clear he hm hs
    go_enter Try.func13, Try.ntmps13
    go_wp2_with fail
    refine (Hp.out _).mono ?_
    rintro e w1 ⟨v, rfl, f1⟩
    go_wp2_with fail
    go_ret
    exact ⟨rfl, f1⟩

theorem less_tt {a b : ByteArray} (h : ltB a b) : Op.bytesLess a.toList b.toList = true := by rw [bytesLess_eq]; exact decide_eq_true h
theorem less_ff {a b : ByteArray} (h : ¬ ltB a b) : Op.bytesLess a.toList b.toList = false := by rw [bytesLess_eq]; exact decide_eq_false h

def RPutPost (l : Nat) (qs : List Route) (x : Int) (F : Nat → Prop) (w : World) (e : Ending) (w' : World) : Prop := ∃ F', e = .returned (.int .i64 x) ∧ RTableAt l qs w' F' ∧ Step F F' w w'
set_option maxRecDepth 100000 in
set_option maxHeartbeats 1600000 in
theorem rput_ok {l : Nat} {rs : List Route} {w : World} {F : Nat → Prop} (h : RTableAt l rs w F) (s : ByteArray) (t : Int) (hs : s.size ≤ maxLen) (hm : mayR s t = true) {x : Int} (hx : putE rs s t = x) {qs : List Route} (hq : putR rs s t = qs) :
    Calls Try.prog 13 #[.pointer (some ⟨l, 0, none⟩), .string s, .int .i64 t] w (RPutPost l qs x F w) := by
  have H := Lib.hid h
  have hgq := h.2.put s t
  rw [hq] at hgq
  have Hgq := Lib.hid hgq
  obtain ⟨hH, hgood⟩ := h
  obtain ⟨vo, cap, c0, fz, hl, hcap, hcm, hrow, hgf, hob, hnil, hof⟩ := hH.opened
  have hlen := hgood.len
  obtain ⟨hpb, ht1, ht2⟩ := mayR_iff.1 hm
  obtain ⟨hdg, hne, h8⟩ := preB_iff.1 hpb
  have hl0 : lookE s = 0 := by unfold lookE; rw [if_neg (by simp [hdg]), if_neg (by omega)]
  have Hp := Lib.hid (fun W => rpack_any s W hs)
  rw [hl0] at Hp
  have hne' : ¬ s.toList = [] := by simpa using hne
  -- what comes out
  have hput : ∀ (k : Nat), k ≤ rs.length → (∀ r ∈ rs.take k, ltB r.pre s) → (∀ h : k < rs.length, ¬ ltB rs[k].pre s ∧ rs[k].pre ≠ s) → (24 ≤ rs.length → x = 14 ∧ qs = rs) ∧ (rs.length < 24 → x = 0 ∧ qs = rs.take k ++ [⟨s, t⟩] ++ rs.drop k) := by
    intro k hk h1 h2
    have hlk := look_miss hgood.sorted h1 h2
    constructor
    · intro h24
      have e : putE rs s t = 14 := by unfold putE; rw [if_neg (by simp [hm]), if_pos ⟨by simp [hlk], h24⟩]
      exact ⟨by rw [← hx, e], by rw [← hq, putR, if_neg (by rw [e]; omega)]⟩
    · intro h24
      have e : putE rs s t = 0 := by unfold putE; rw [if_neg (by simp [hm]), if_neg (by omega)]
      exact ⟨by rw [← hx, e], by rw [← hq, putR, if_pos e, putL_miss hk h1 h2]⟩
  have hhit : ∀ (k : Nat) (hk : k < rs.length), (∀ r ∈ rs.take k, ltB r.pre s) → rs[k].pre = s → x = 0 ∧ qs = rs.set k ⟨s, t⟩ := by
    intro k hk h1 h2
    have hlk := lookR_of_mem hgood.sorted (List.getElem_mem hk)
    rw [h2] at hlk
    have e : putE rs s t = 0 := by unfold putE; rw [if_neg (by simp [hm]), if_neg (by simp [hlk])]
    exact ⟨by rw [← hx, e], by rw [← hq, putR, if_pos e, putL_hit hk h1 h2]⟩
  have Hput := Lib.hid hput
  have Hhit := Lib.hid hhit
  have Hrow := Lib.hid hrow
  have C0 := Lib.hid c0
  have Fz := Lib.hid fz
  have Hob := Lib.hid hob
  have Hof := Lib.hid hof
  have Hcm := Lib.hid hcm
  clear hput hhit hgood hrow c0 hH hcm fz hx hq hgq hgf hob hnil hof hm hpb hdg hl0 hs
  go_enter Try.func13, Try.ntmps13
  go_wp2_with fail
  refine (Hp.out _).mono ?_
  rintro e w1 ⟨v, rfl, f1⟩
  have Hf1 := Lib.hid f1
  clear f1
  go_wp2_with fail
  go_loopw [9] (fun s9 wr => ∃ i : Nat, i ≤ rs.length ∧ s9 = .int .i64 i ∧ Hid (∀ r ∈ rs.take i, ltB r.pre s) ∧ wr = w1) (fun s9 _ => rs.length - (intOf s9).toNat)
  case atStart => exact ⟨0, Nat.zero_le _, rfl, Lib.hid (by simp), rfl⟩
  case round =>
    obtain ⟨i, hi, rfl, HL, rfl⟩ := hrel
    have y0 := (Hf1.out.cell (p := ⟨l, 0, none⟩) hl (fun x => x)).trans C0.out
    have z0 := (Hf1.out.frozen (p := ⟨l, 0, none⟩) hl (fun x => x)).trans Fz.out
    have hcs : (∃ hlt : i < rs.length, ltB rs[i].pre s) ∨ (∃ hlt : i < rs.length, rs[i].pre = s) ∨ ((∀ h : i < rs.length, ¬ ltB rs[i].pre s ∧ rs[i].pre ≠ s) ∧ (i < rs.length ∨ i = rs.length)) := by
      by_cases hlt : i < rs.length
      · by_cases hL : ltB rs[i].pre s
        · exact .inl ⟨hlt, hL⟩
        · by_cases hE : rs[i].pre = s
          · exact .inr (.inl ⟨hlt, hE⟩)
          · exact .inr (.inr ⟨fun _ => ⟨hL, hE⟩, .inl hlt⟩)
      · exact .inr (.inr ⟨fun h => absurd h hlt, .inr (by omega)⟩)
    rcases hcs with ⟨hlt, hL⟩ | ⟨hlt, hE⟩ | ⟨hM, hend⟩
    · have hlt' : (i : Int) < (rs.length : Int) := by omega
      have hi1 : i + 1 ≤ rs.length := by omega
      obtain ⟨g, rfl, hg, d0, d1⟩ := route_cells (Hrow.out.fr0 Hf1.out) hlt
      have hb := less_tt hL
      have Hnew := Lib.hid (show ∀ r ∈ rs.take (i + 1), ltB r.pre s by
        intro r hr
        rw [List.take_succ_eq_append_getElem hlt, List.mem_append] at hr
        rcases hr with hr | hr
        · exact HL.out r hr
        · simp at hr; subst hr; exact hL)
      generalize rs[i] = r at *
      clear hL
      go_wp2_with fail
      go_roundw
      case rel => exact ⟨i + 1, hi1, by go_num, Hnew, trivial⟩
      case measure => simp [intOf]; omega
    · obtain ⟨rfl, hqs⟩ := Hhit.out i hlt HL.out hE
      have hlt' : (i : Int) < (rs.length : Int) := by omega
      obtain ⟨g, rfl, hg, d0, d1⟩ := route_cells (Hrow.out.fr0 Hf1.out) hlt
      have hb := less_ff (a := rs[i].pre) (b := s) (by rw [hE]; exact ltB_irrefl s)
      have hE' : (rs[i].pre.toList == s.toList) = true := by rw [hE]; simp
      have Hset := Lib.hid (Hold.set (Hold.ok.fr0 H.out.1 Hf1.out) (u := .int .i64 t) y0 hlt (j := 1) (by decide) ⟨s, t⟩ (by rw [← hE]; rfl))
      have Hqs := Lib.hid hqs
      have hfr := ((Hrow.out.fr0 Hf1.out).elem hlt)
      obtain ⟨g', e', _, _, _, _, ffz⟩ := hfr
      cases e'
      have z1 := ffz (i * 2 + 1)
      clear ffz hE hqs
      generalize rs[i] = r at *
      go_wp2_with fail
      go_ret
      refine ⟨F, rfl, ⟨by rw [Hqs.out]; exact Hset.out.1, Hgq.out⟩, ⟨(Hf1.out.mono (fun _ x => x.elim)).trans' Hset.out.2, fun k hk => .inl hk⟩⟩
    · have HM := Lib.hid (Hput.out i hi HL.out hM)
      have Hlive := Lib.hid (fun h : i < rs.length => ((Hrow.out.fr0 Hf1.out).elem h))
      have hnb : ∀ h : i < rs.length, Op.bytesLess rs[i].pre.toList s.toList = false ∧ (rs[i].pre.toList == s.toList) = false := fun h => ⟨less_ff (hM h).1, str_ne (hM h).2⟩
      have Hnb := Lib.hid hnb
      clear hnb hM
      by_cases h24 : 24 ≤ rs.length
      · obtain ⟨rfl, hqs⟩ := HM.out.1 h24
        have h24' : (24 : Int) ≤ (rs.length : Int) := by omega
        have Hqs := Lib.hid hqs
        clear hqs h24
        rcases hend with hlt | hlt
        · have hlt' : (i : Int) < (rs.length : Int) := by omega
          obtain ⟨n1, n2⟩ := Hnb.out hlt
          obtain ⟨g, rfl, hg, d0, d1⟩ := route_cells (Hrow.out.fr0 Hf1.out) hlt
          generalize rs[i] = r at *
          go_wp2_with fail
          go_ret
          exact ⟨F, rfl, by rw [Hqs.out]; exact RTableAt.ok.fr0 H.out Hf1.out, Step.same Hf1.out⟩
        · have hlt' : (rs.length : Int) ≤ (i : Int) := by omega
          clear hlt
          go_wp2_with fail
          go_ret
          exact ⟨F, rfl, by rw [Hqs.out]; exact RTableAt.ok.fr0 H.out Hf1.out, Step.same Hf1.out⟩
      · obtain ⟨rfl, hqs⟩ := HM.out.2 (by omega)
        have h24' : (rs.length : Int) < 24 := by omega
        have Hqs := Lib.hid hqs
        clear hqs h24
        have hic : (i : Int) ≤ (cap : Int) := by omega
        have hi0 : (0 : Int) ≤ (i : Int) := by omega
        have hrc : (rs.length : Int) ≤ (cap : Int) := by omega
        have hir : (i : Int) ≤ (rs.length : Int) := by omega
        rcases hend with hlt | hlt
        · have hlt' : (i : Int) < (rs.length : Int) := by omega
          obtain ⟨n1, n2⟩ := Hnb.out hlt
          obtain ⟨g, rfl, hg, d0, d1⟩ := route_cells (Hrow.out.fr0 Hf1.out) hlt
          generalize rs[i] = r at *
          go_wp2_with (at_builtin; apply stop_here)
          refine ⟨?_, trivial⟩
          have hsrc := RowRd.of_at (Hrow.out.fr0 Hf1.out) (by have := Hcm.out; omega)
          refine wpList_app rfl _ _ rfl el_route (v := .slice none 0 0) [] (rs.take i) (rs.take i) rfl wr.heap.size 0 i (by simp; omega) rfl (World.ownsRow_nil _ _ _ _) rfl (hsrc.takeN i) (by simp; omega) (by unfold maxLen; omega) (by omega) (Nat.le_refl _) ?_
          intro ao2 cap2 w2 o2 g2 _
          go_frame
          have Hf2 := Lib.hid ((Fr.refl noBlock wr).grown g2 (fun k hk => by cases hk))
          have O2 := Lib.hid o2
          clear o2 g2
          have hci : ¬ cap = i := by omega
          have hsz2 := Hf2.out.size
          go_wp2_with (at_builtin; apply stop_here)
          refine ⟨?_, trivial⟩
          refine wpList_app rfl _ _ rfl el_route (v := .slice ao2 i cap2) (rs.take i) [(⟨s, t⟩ : Route)] (rs.take i ++ [(⟨s, t⟩ : Route)]) rfl wr.heap.size i (i + 1) (by simp; omega) rfl (O2.out.alloc _) rfl (RowRd.one (heap_new w2 _) (⟨s, t⟩ : Route) rfl) rfl (by unfold maxLen; omega) (by omega) (by simp; omega) ?_
          intro ao3 cap3 w3 o3 g3 _
          go_frame
          have Hf3 := Lib.hid ((Hf2.out.alloc _).grown g3 (fun k hk => .inr (O2.out.lt k hk).1))
          have O3 := Lib.hid o3
          have hsz3 := Hf3.out.size
          have hl1 : l < wr.heap.size := Nat.lt_of_lt_of_le hl Hf1.out.size
          have y3 := (Hf3.out.cell (p := ⟨l, 0, none⟩) hl1 (fun x => x)).trans y0
          have z3 := (Hf3.out.frozen (p := ⟨l, 0, none⟩) hl1 (fun x => x)).trans z0
          have hrd := hsrc.piece i (rs.length - i)
          rw [Nat.zero_add, List.take_of_length_le (by simp)] at hrd
          have Hrd := Lib.hid (hrd.fr0 Hf3.out)
          clear o3 g3 y0 z0 hsrc hrd
          go_wp2_with (at_builtin; apply stop_here)
          refine ⟨?_, trivial⟩
          refine wpList_app rfl _ _ rfl el_route (v := .slice ao3 (i + 1) cap3) (rs.take i ++ [(⟨s, t⟩ : Route)]) (rs.drop i) (rs.take i ++ [(⟨s, t⟩ : Route)] ++ rs.drop i) rfl wr.heap.size (i + 1) (rs.length + 1) (by simp; omega) rfl O3.out rfl Hrd.out (by simp) (by unfold maxLen; omega) (by omega) hsz3 ?_
          intro ao4 cap4 w4 o4 g4 _
          go_frame
          have hf4 := Hf3.out.grown g4 (fun k hk => .inr (O3.out.lt k hk).1)
          have y4 := (hf4.cell (p := ⟨l, 0, none⟩) hl1 (fun x => x)).trans (Hf1.out.cell (p := ⟨l, 0, none⟩) hl (fun x => x))
          rw [C0.out] at y4
          have z4 := (hf4.frozen (p := ⟨l, 0, none⟩) hl1 (fun x => x)).trans ((Hf1.out.frozen (p := ⟨l, 0, none⟩) hl (fun x => x)).trans Fz.out)
          have O4 := Lib.hid o4
          have Hf4 := Lib.hid hf4
          have hl4 : l < w4.heap.size := Nat.lt_of_lt_of_le hl1 hf4.size
          clear o4 g4 y3 z3 hf4
          go_wp2_with fail
          go_ret
          have hrow4 : RowAt 42 RouteR w4 (.slice ao4 (rs.length + 1) cap4) qs := by
            rw [Hqs.out]; exact RowAt.of_own O4.out (by simp; omega)
          have hlow : ∀ g, (Value.slice ao4 (rs.length + 1) cap4).ownBlock = some g → wr.heap.size ≤ g := fun g hg => (O4.out.lt g hg).1
          have hw := Hf1.out.size
          obtain ⟨r1, r2⟩ := Hold.replace (ys := qs) H.out.1 ((Hf1.out.trans' Hf4.out).mono (fun _ x => x.elim)) ((Hf1.out.trans' Hf4.out).block l hl (fun x => x)) hrow4 (fun g hg => ⟨by have := hlow g hg; omega, .inr (by have := hlow g hg; omega)⟩)
          exact ⟨_, rfl, ⟨r1, Hgq.out⟩, r2⟩
        · have hlt' : (rs.length : Int) ≤ (i : Int) := by omega
          have hil : rs.length ≤ i := by omega
          clear hlt
          go_wp2_with (at_builtin; apply stop_here)
          refine ⟨?_, trivial⟩
          have hsrc := RowRd.of_at (Hrow.out.fr0 Hf1.out) (by have := Hcm.out; omega)
          refine wpList_app rfl _ _ rfl el_route (v := .slice none 0 0) [] (rs.take i) (rs.take i) rfl wr.heap.size 0 i (by simp; omega) rfl (World.ownsRow_nil _ _ _ _) rfl (hsrc.takeN i) (by simp; omega) (by unfold maxLen; omega) (by omega) (Nat.le_refl _) ?_
          intro ao2 cap2 w2 o2 g2 _
          go_frame
          have Hf2 := Lib.hid ((Fr.refl noBlock wr).grown g2 (fun k hk => by cases hk))
          have O2 := Lib.hid o2
          clear o2 g2
          have hsz2 := Hf2.out.size
          go_wp2_with (at_builtin; apply stop_here)
          refine ⟨?_, trivial⟩
          refine wpList_app rfl _ _ rfl el_route (v := .slice ao2 i cap2) (rs.take i) [(⟨s, t⟩ : Route)] (rs.take i ++ [(⟨s, t⟩ : Route)]) rfl wr.heap.size i (i + 1) (by simp; omega) rfl (O2.out.alloc _) rfl (RowRd.one (heap_new w2 _) (⟨s, t⟩ : Route) rfl) rfl (by unfold maxLen; omega) (by omega) (by simp; omega) ?_
          intro ao3 cap3 w3 o3 g3 _
          go_frame
          have Hf3 := Lib.hid ((Hf2.out.alloc _).grown g3 (fun k hk => .inr (O2.out.lt k hk).1))
          have O3 := Lib.hid o3
          have hsz3 := Hf3.out.size
          have hl1 : l < wr.heap.size := Nat.lt_of_lt_of_le hl Hf1.out.size
          have y3 := (Hf3.out.cell (p := ⟨l, 0, none⟩) hl1 (fun x => x)).trans y0
          have z3 := (Hf3.out.frozen (p := ⟨l, 0, none⟩) hl1 (fun x => x)).trans z0
          clear o3 g3 y0 z0 hsrc
          go_wp2_with (at_builtin; apply stop_here)
          all_goals
            refine ⟨?_, trivial⟩
            refine wpList_app rfl _ _ rfl el_route (v := .slice ao3 (i + 1) cap3) (rs.take i ++ [(⟨s, t⟩ : Route)]) (rs.drop i) (rs.take i ++ [(⟨s, t⟩ : Route)] ++ rs.drop i) rfl wr.heap.size (i + 1) (rs.length + 1) (by simp; omega) rfl O3.out rfl (by rw [List.drop_of_length_le (by omega)]; exact RowRd.nil) (by first | (simp; done) | (simp; omega)) (by unfold maxLen; omega) (by omega) hsz3 ?_
            intro ao4 cap4 w4 o4 g4 _
            go_frame
            have hf4 := Hf3.out.grown g4 (fun k hk => .inr (O3.out.lt k hk).1)
            have y4 := (hf4.cell (p := ⟨l, 0, none⟩) hl1 (fun x => x)).trans (Hf1.out.cell (p := ⟨l, 0, none⟩) hl (fun x => x))
            rw [C0.out] at y4
            have z4 := (hf4.frozen (p := ⟨l, 0, none⟩) hl1 (fun x => x)).trans ((Hf1.out.frozen (p := ⟨l, 0, none⟩) hl (fun x => x)).trans Fz.out)
            have O4 := Lib.hid o4
            have Hf4 := Lib.hid hf4
            have hl4 : l < w4.heap.size := Nat.lt_of_lt_of_le hl1 hf4.size
            clear o4 g4 y3 z3 hf4
            go_wp2_with fail
            go_ret
            have hrow4 : RowAt 42 RouteR w4 (.slice ao4 (rs.length + 1) cap4) qs := by
              rw [Hqs.out]; exact RowAt.of_own O4.out (by simp; omega)
            have hlow : ∀ g, (Value.slice ao4 (rs.length + 1) cap4).ownBlock = some g → wr.heap.size ≤ g := fun g hg => (O4.out.lt g hg).1
            have hw := Hf1.out.size
            obtain ⟨r1, r2⟩ := Hold.replace (ys := qs) H.out.1 ((Hf1.out.trans' Hf4.out).mono (fun _ x => x.elim)) ((Hf1.out.trans' Hf4.out).block l hl (fun x => x)) hrow4 (fun g hg => ⟨by have := hlow g hg; omega, .inr (by have := hlow g hg; omega)⟩)
            exact ⟨_, rfl, ⟨r1, Hgq.out⟩, r2⟩

theorem rput_any {l : Nat} {rs : List Route} {w : World} {F : Nat → Prop} (h : RTableAt l rs w F) (s : ByteArray) (t : Int) (hs : s.size ≤ maxLen) {x : Int} (hx : putE rs s t = x) {qs : List Route} (hq : putR rs s t = qs) :
    Calls Try.prog 13 #[.pointer (some ⟨l, 0, none⟩), .string s, .int .i64 t] w fun e w' => ∃ F', e = .returned (.int .i64 x) ∧ RTableAt l qs w' F' ∧ Step F F' w w' := by
  cases hm : mayR s t with
  | true => exact (rput_ok h s t hs hm hx hq).mono fun e w' hp => hp
  | false =>
    have e : putE rs s t = 1 := by unfold putE; rw [if_pos hm]
    refine (rput_no s t hs hm).mono fun e' w' ⟨he, hf⟩ => ⟨F, by rw [← hx, e]; exact he, ?_, Step.same hf⟩
    rw [← hq, putR, if_neg (by rw [e]; omega)]
    exact RTableAt.ok.fr0 h hf
end Go.Proofs.Ytpdkilfncflngaa
