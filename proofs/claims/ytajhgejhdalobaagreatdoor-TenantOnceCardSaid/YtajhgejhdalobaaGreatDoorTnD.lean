/-
  A TENANT, as a thing. THE WALKS of card and use.
-/
import Derived.Test.YtajhgejhdalobaaGreatDoorTnC
import Derived.Test.YtajhgejhdalobaaGreatDoorLmTry2
import Derived.Test.YtajhgejhdalobaaGreatDoorTnR
namespace Go.Proofs.YtajhgejhdalobaaGreatDoor.Rt
open Go.RowKit

set_option maxHeartbeats 400000 in
theorem new_any (w : World) : Calls Tryz.prog 50 #[] w fun e w' => ∃ l F, e = .returned (.pointer (some ⟨l, 0, none⟩)) ∧ TableAt l [] w' F ∧ Fr noBlock w w' ∧ ∀ k, F k → w.heap.size ≤ k := by
  have hmm := @run_makeMap Tryz.prog
  go_enter Tryz.func50, Tryz.ntmps50
  go_wp2
  go_ret
  refine ⟨w.heap.size + 1, fun k => k = w.heap.size + 1 ∨ k = w.heap.size, rfl, ⟨w.heap.size, ?_, ?_, by omega, fun _ => Iff.rfl, GoodR.nil⟩, ((Fr.refl _ _).alloc _).alloc _, fun k hk => by omega⟩
  · have := heap_new (w.alloc (.map #[] 0)) (.cells #[.map (some w.heap.size)] 211)
    simpa using this
  · exact ((MapAt.made Tryz.prog 9 3 w).fr ((Fr.refl noBlock _).alloc _) (fun h => h)).congr (fun s => rfl)

theorem TableAt.opened {l : Nat} {rs : List Route} {w : World} {F : Nat → Prop} (h : TableAt l rs w F) :
    ∃ bm, w.cell? ⟨l, 0, none⟩ = some (.map (some bm)) ∧ l < w.heap.size ∧ l ≠ bm ∧ bm < w.heap.size ∧ MapAt Tryz.prog 9 3 w bm (lookR rs) rs.length ∧ w.heap[l]? = some (.cells #[.map (some bm)] 211 (0, 0)) ∧ ∀ k, F k ↔ k = l ∨ k = bm := by
  obtain ⟨bm, h1, h2, h3, h4, h5⟩ := h
  have c0 := cell_of h1 0
  simp at c0
  exact ⟨bm, c0, heap_lt h1, h3, h2.lt, h2, h1, h4⟩

theorem table_turned {l : Nat} {rs qs : List Route} {w w1 w2 : World} {F : Nat → Prop} (h : TableAt l rs w F) (hf : Fr noBlock w w1) {bm : Nat} (hc : w.cell? ⟨l, 0, none⟩ = some (.map (some bm))) (hm : MapAt Tryz.prog 9 3 w2 bm (lookR qs) qs.length) (ht : w1.mapTurned w2 bm) (hg : GoodR qs) :
    TableAt l qs w2 F ∧ Step F F w w2 := by
  obtain ⟨bm', h1, h2, h3, h4, h5⟩ := h
  have c0 := cell_of h1 0
  rw [hc] at c0
  obtain rfl : bm = bm' := by simpa using c0
  have hlt := heap_lt h1
  have hs := hf.size
  refine ⟨⟨bm, (ht.grown.block l (by omega) (by simpa using h3)).trans (hf.obj h1 (fun x => x)), hm, h3, h4, hg⟩, ⟨(hf.mono (fun _ x => x.elim)).grown ht.grown (fun k hk => by cases hk; exact .inl ((h4 _).2 (.inr rfl))), fun k hk => .inl hk⟩⟩

set_option maxRecDepth 100000 in
set_option maxHeartbeats 800000 in
theorem put_any {l : Nat} {rs : List Route} {w : World} {F : Nat → Prop} (h : TableAt l rs w F) (s : ByteArray) (t : Int) (hs : s.size ≤ maxLen) {x : Int} (hx : putE rs s t = x) {qs : List Route} (hq : putR rs s t = qs) :
    Calls Tryz.prog 100 #[.pointer (some ⟨l, 0, none⟩), .string s, .int .i64 t] w fun e w' => ∃ F', e = .returned (.int .i64 x) ∧ TableAt l qs w' F' ∧ Step F F' w w' := by
  obtain ⟨bm, c0, hl, hne, hbm, hmap, _, _⟩ := h.opened
  have hgood := h.choose_spec.2.2.2.2
  obtain ⟨pb, hpb⟩ : ∃ pb, preB s = pb := ⟨_, rfl⟩
  have Hp := Lib.hid (fun W => prefix_any s W hs pb hpb)
  have hno : x ≠ 0 → qs = rs := fun h0 => by rw [← hq, putR, if_neg (by rw [hx]; exact h0)]
  have hcs : (x = 1 ∧ (pb = false ∨ (pb = true ∧ t < 1) ∨ (pb = true ∧ 1 ≤ t ∧ 99 < t))) ∨ (x = 14 ∧ pb = true ∧ 1 ≤ t ∧ t ≤ 99 ∧ (lookR rs s).isSome = false ∧ 24 ≤ rs.length) ∨ (x = 0 ∧ pb = true ∧ 1 ≤ t ∧ t ≤ 99 ∧ ((lookR rs s).isSome = true ∨ ((lookR rs s).isSome = false ∧ rs.length < 24))) := by
    rw [← hx]
    unfold putE
    by_cases hm : mayR s t = false
    · rw [if_pos hm]
      left
      refine ⟨rfl, ?_⟩
      unfold mayR at hm
      rw [hpb] at hm
      cases pb
      · exact .inl rfl
      · simp at hm ⊢; omega
    · rw [if_neg hm]
      have hm' : mayR s t = true := by simpa using hm
      obtain ⟨h1, h2, h3⟩ := mayR_iff.1 hm'
      rw [hpb] at h1
      cases hl : (lookR rs s).isSome with
      | true => right; right; simp [h1, h2, h3]
      | false =>
        by_cases h24 : 24 ≤ rs.length
        · right; left; simp [h1, h2, h3, h24]
        · right; right; simp [h1, h2, h3, h24]; omega
  have Hno := Lib.hid hno
  have Hh := Lib.hid h
  have C0 := Lib.hid c0
  have Hgood := Lib.hid hgood
  have Hmap := Lib.hid hmap
  rcases hcs with ⟨rfl, hcs⟩ | ⟨rfl, rfl, t1, t2, hlk, h24⟩ | ⟨rfl, rfl, t1, t2, hcs⟩
  · clear hx hq hno h c0 hgood hmap
    rcases hcs with rfl | ⟨rfl, t1⟩ | ⟨rfl, t1, t2⟩
    all_goals
      go_enter Tryz.func100, Tryz.ntmps100
      go_wp2_with fail
      refine (Hp.out _).mono ?_
      rintro e w1 ⟨rfl, f1⟩
      have Hf := Lib.hid f1
      clear f1
      go_wp2_with fail
      go_ret
      exact ⟨F, rfl, by rw [Hno.out (by omega)]; exact TableAt.ok.fr0 Hh.out Hf.out, Step.same Hf.out⟩
  · have hlook := fun (W : World) (hW : Fr noBlock w W) => (hmap.fr hW (fun x => x)).look (mt := 209) Tryz.underlying9 Tryz.underlying209 Tryz.underlying3 (zero_int _) s hs
    have hlen := fun (W : World) (hW : Fr noBlock w W) (ty : TypeId) => (hmap.fr hW (fun x => x)).len (mt := 209) Tryz.underlying209 ty
    rw [hlk] at hlook
    have h24' : (24 : Int) ≤ (rs.length : Int) := by omega
    have Hlook := Lib.hid hlook
    have Hlen := Lib.hid hlen
    clear hx hq hno h c0 hgood hmap hlook hlen hlk
    generalize (lookR rs s).getD 0 = z at *
    go_enter Tryz.func100, Tryz.ntmps100
    go_wp2_with fail
    refine (Hp.out _).mono ?_
    rintro e w1 ⟨rfl, f1⟩
    have c1 := (f1.cell (p := ⟨l, 0, none⟩) hl (fun x => x)).trans C0.out
    have hk1 := Hlook.out w1 f1
    have hk2 := Hlen.out w1 f1
    have Hf := Lib.hid f1
    clear f1
    go_wp2_with fail
    go_ret
    exact ⟨F, rfl, by rw [Hno.out (by omega)]; exact TableAt.ok.fr0 Hh.out Hf.out, Step.same Hf.out⟩
  · have hqL : qs = putL rs s t := by rw [← hq, putR, if_pos hx]
    have hlook := fun (W : World) (hW : Fr noBlock w W) => (hmap.fr hW (fun x => x)).look (mt := 209) Tryz.underlying9 Tryz.underlying209 Tryz.underlying3 (zero_int _) s hs
    have hlen := fun (W : World) (hW : Fr noBlock w W) (ty : TypeId) => (hmap.fr hW (fun x => x)).len (mt := 209) Tryz.underlying209 ty
    have hst := fun (W : World) (hW : Fr noBlock w W) => (hmap.fr hW (fun x => x)).store (mt := 209) Tryz.underlying9 Tryz.underlying209 Tryz.underlying3 (by have := hgood.len; unfold maxLen; omega) s hs t (by simp [Lit.wf, IntKind.min, IntKind.max, IntKind.signed, IntKind.bits]; omega)
    have hend : ∀ (w1 w2 : World), Fr noBlock w w1 → MapAt Tryz.prog 9 3 w2 bm (fun u => if u = s then some t else lookR rs u) (if (lookR rs s).isSome then rs.length else rs.length + 1) → w1.mapTurned w2 bm → TableAt l qs w2 F ∧ Step F F w w2 := by
      intro w1 w2 hf hm ht
      have hgq : GoodR qs := by rw [← hq]; exact hgood.put s t
      refine table_turned h hf c0 ?_ ht hgq
      rw [hqL, putL_len hgood.sorted]
      exact hm.congr (fun u => (putL_look hgood.sorted s t u).symm)
    have Hlook := Lib.hid hlook
    have Hlen := Lib.hid hlen
    have Hst := Lib.hid hst
    have Hend := Lib.hid hend
    clear hx hq hno h c0 hgood hmap hlook hlen hst hend hqL
    generalize (lookR rs s).getD 0 = z at *
    generalize hsm : (lookR rs s).isSome = sm at *
    rcases hcs with rfl | ⟨rfl, h24⟩
    all_goals
      clear hsm
      try (have h24' : (rs.length : Int) < 24 := by omega)
      go_enter Tryz.func100, Tryz.ntmps100
      go_wp2_with fail
      refine (Hp.out _).mono ?_
      rintro e w1 ⟨rfl, f1⟩
      have c1 := (f1.cell (p := ⟨l, 0, none⟩) hl (fun x => x)).trans C0.out
      have hk1 := Hlook.out w1 f1
      have hk2 := Hlen.out w1 f1
      obtain ⟨w2, hrun, hm2, ht2⟩ := Hst.out w1 f1
      have HE := Lib.hid (Hend.out w1 w2 f1 hm2 ht2)
      clear f1 hm2 ht2
      go_wp2_with fail
      go_ret
      exact ⟨F, rfl, HE.out⟩

set_option maxHeartbeats 800000 in
theorem drop_any {l : Nat} {rs : List Route} {w : World} {F : Nat → Prop} (h : TableAt l rs w F) (s : ByteArray) (hs : s.size ≤ maxLen) {x : Int} (hx : dropE rs s = x) {qs : List Route} (hq : dropR rs s = qs) :
    Calls Tryz.prog 125 #[.pointer (some ⟨l, 0, none⟩), .string s] w fun e w' => ∃ F', e = .returned (.int .i64 x) ∧ TableAt l qs w' F' ∧ Step F F' w w' := by
  obtain ⟨bm, c0, hl, hne, hbm, hmap, _, _⟩ := h.opened
  have hgood := h.choose_spec.2.2.2.2
  have hlook := hmap.look (mt := 209) Tryz.underlying9 Tryz.underlying209 Tryz.underlying3 (zero_int _) s hs
  cases hlk : (lookR rs s).isSome with
  | false =>
    obtain rfl : x = 15 := by rw [← hx, dropE, if_neg (by simp [hlk])]
    obtain rfl : qs = rs := by rw [← hq, dropR, if_neg (by simp [hlk])]
    rw [hlk] at hlook
    have Hh := Lib.hid h
    generalize (lookR qs s).getD 0 = z at *
    clear hx hq h hmap hgood hlk
    go_enter Tryz.func125, Tryz.ntmps125
    go_wp2
    go_ret
    exact ⟨F, rfl, Hh.out, Step.refl _ _⟩
  | true =>
    obtain rfl : x = 0 := by rw [← hx, dropE, if_pos hlk]
    have hqL : qs = dropL rs s := by rw [← hq, dropR, if_pos hlk]
    obtain ⟨w2, hdel, hm2, ht2⟩ := hmap.drop (mt := 209) Tryz.underlying9 Tryz.underlying209 s hs hlk
    have hend : TableAt l qs w2 F ∧ Step F F w w2 := by
      have hgq : GoodR qs := by rw [← hq]; exact hgood.drop s
      refine table_turned h (Fr.refl _ _) c0 ?_ ht2 hgq
      have hln := dropL_len hgood.sorted s
      rw [if_pos hlk] at hln
      rw [hqL, hln]
      exact hm2.congr (fun u => (dropL_look rs s u).symm)
    rw [hlk] at hlook
    have HE := Lib.hid hend
    generalize (lookR rs s).getD 0 = z at *
    clear hx hq h hmap hgood hlk hm2 ht2 hend hqL
    go_enter Tryz.func125, Tryz.ntmps125
    go_wp2
    go_ret
    exact ⟨F, rfl, HE.out⟩
end Go.Proofs.YtajhgejhdalobaaGreatDoor.Rt
namespace Go.Proofs.YtajhgejhdalobaaGreatDoor

theorem find_empty (s : ByteArray) : Rt.findR [] s = none := Rt.findN_none.2 (fun _ _ _ => rfl)
theorem code_of (t : ByteArray) (q : List Fld) (c : ByteArray) : valF 39 (ansM t q c []).2 = some c := ans_code q c [] (fun f hf => by cases hf)
theorem code_okM (t : ByteArray) (q : List Fld) (tok : Bs) (a : Nat) : valF 39 (okM t q tok a).2 = some cOk := ans_code q cOk _ (fun f hf => by
  simp only [List.mem_cons, List.not_mem_nil, or_false] at hf
  rcases hf with rfl | rfl
  · show (32 : Int) ≠ 39; decide
  · show (48 : Int) ≠ 39; decide)
theorem handle_empty {M : MaskF} {S : TenS} (hr0 : S.rs = []) (hp0 : S.ps = []) {t : ByteArray} {q : List Fld} {now : Int} {r : TenS × Msg} (h : HanR M S t q now r) : r.1 = S ∧ ((valS 39 r.2.2) = cOk → t = t4 48 56 48 48) := by
  have hne : ∀ c, (some c : Option ByteArray).getD ⟨#[]⟩ = c := fun c => rfl
  cases h with
  | ref c hc =>
    refine ⟨rfl, fun e => ?_⟩
    exfalso
    have e2 : c = cOk := e
    clear e
    simp only [List.mem_cons, List.not_mem_nil, or_false] at hc
    rcases hc with rfl | rfl <;> revert e2 <;> decide +kernel
  | ask _ hr h0 h1 ht h =>
    cases h with
    | no c hc h0 =>
      refine ⟨rfl, fun e => absurd ?_ h0⟩
      unfold valS at e
      rw [code_of] at e
      exact e
    | again p tok a b hl hp h1 h2 h3 h4 => rw [hp0] at h1; cases h1
    | new us a tok hl hp h1 h2 h3 h4 h5 hu => rw [hr0, find_empty] at h2; cases h2
  | back _ hr ht h =>
    cases h with
    | same c hc h0 =>
      refine ⟨rfl, fun e => ?_⟩
      unfold valS at e
      rw [code_of] at e
      exact absurd (by rw [hp0]; rfl) (h0 e)
    | rev us he hu => rw [hp0] at he; exact absurd (show (15 : Int) = 0 from he) (by decide)
  | net c hc hr ht => exact ⟨rfl, fun _ => ht⟩
theorem handle_code {M : MaskF} {S : TenS} {t : ByteArray} {q : List Fld} {now : Int} {r : TenS × Msg} (h : HanR M S t q now r) : ∃ c, valF 39 r.2.2 = some c ∧ (c ≠ cOk → r.1 = S) := by
  cases h with
  | ref c hc => exact ⟨c, rfl, fun _ => rfl⟩
  | ask _ hr h0 h1 ht h =>
    cases h with
    | no c hc h0 => exact ⟨c, code_of _ _ _, fun _ => rfl⟩
    | again p tok a b hl hp h1 h2 h3 h4 => exact ⟨cOk, code_okM _ _ _ _, fun e => absurd rfl e⟩
    | new us a tok hl hp h1 h2 h3 h4 h5 hu => exact ⟨cOk, code_okM _ _ _ _, fun e => absurd rfl e⟩
  | back _ hr ht h =>
    cases h with
    | same c hc h0 => exact ⟨c, code_of _ _ _, fun _ => rfl⟩
    | rev us he hu => exact ⟨cOk, code_of _ _ _, fun e => absurd rfl e⟩
  | net c hc hr ht => exact ⟨c, code_of _ _ _, fun _ => rfl⟩

structure Stands (M : MaskF) (S : TenS) (t : ByteArray) (q : List Fld) (x : Msg) (p : Lg.Post) (tok : Bs) (a b : Nat) : Prop where
  right : rightM t q = 0
  ty : t ∈ asksT
  all : lacksB q [2, 4, 11, 41] = false
  pan : panB (bl (valS 2 q)) = true
  post : Lg.askP S.ps (keyOf q) = some p
  amt : p.amount = amountOf q
  ans : p.answer = strB (saidB tok a b)
  back : backB M S.v tok = (bl (valS 2 q), 0)
  a1 : 1 ≤ a
  a2 : a ≤ 99
  b2 : b ≤ 1099511627776
  it : x = okM t q tok a
def StandsX (M : MaskF) (S : TenS) (t : ByteArray) (q : List Fld) (x : Msg) : Prop := ∃ p tok a b, Stands M S t q x p tok a b
theorem stands_new {M : MaskF} {S : TenS} (ho : TenantOk M S) {t : ByteArray} {q : List Fld} {now : Int} {r : TenS × Msg} (h : HanR M S t q now r) (ht : t ∈ asksT) (hc : valF 39 r.2.2 = some cOk) : StandsX M r.1 t q r.2 := by
  cases h with
  | ref c h =>
    have e2 : c = cOk := Option.some.inj hc
    simp only [List.mem_cons, List.not_mem_nil, or_false] at h
    exfalso
    rcases h with rfl | rfl <;> revert e2 <;> decide +kernel
  | ask _ hr h0 h1 ht h =>
    have hq := (rightM_iff.1 hr).2
    cases h with
    | no c h h0 => rw [code_of] at hc; exact absurd (Option.some.inj hc) h0
    | again p tok a b hl hp h1 h2 h3 h4 =>
      obtain ⟨e, ⟨l, hb⟩, ha1, ha2, hb2⟩ := read_some h2
      refine ⟨p, tok, a, b, hr, ht, hl, hp, h1, h4.symm, ?_, ?_, ha1, ha2, hb2, rfl⟩
      · rw [← e]
        cases hx : p.answer with | mk d => rfl
      · rw [hb] at h3
        have h5 : l = bl (valS 2 q) := h3
        rw [hb, h5]
    | new us a tok hl hp h1 h2 h3 h4 h5 hu =>
      obtain ⟨hb, ha1, ha2, he⟩ := new_post (now := now.toNat) ho hq (by omega) hl hp h1 h2 h3 h4 h5
      refine ⟨⟨keyOf q, amountOf q, 1, strB (saidB tok a.toNat now.toNat)⟩, tok, a.toNat, now.toNat, hr, ht, hl, hp, ?_, rfl, rfl, hb, by omega, by omega, by omega, rfl⟩
      show Lg.askP (Lg.addL S.ps _) _ = _
      rw [Lg.addL_zero he, Lg.askP_append, h1]
      show Lg.askP [_] _ = _
      unfold Lg.askP
      rw [List.find?_cons]
      simp
  | back _ hr ht2 h =>
    exfalso
    simp only [asksT, backsT, List.mem_cons, List.not_mem_nil, or_false] at ht ht2
    rcases ht2 with rfl | rfl <;> revert ht <;> decide +kernel
  | net c h hr ht2 =>
    exfalso
    simp only [asksT, List.mem_cons, List.not_mem_nil, or_false] at ht
    subst ht2
    revert ht
    decide +kernel
theorem ask_rev {ps : List Lg.Post} {s k : ByteArray} {p : Lg.Post} (he : Lg.revE ps s = 0) (h : Lg.askP ps k = some p) : ∃ p', Lg.askP (Lg.revL ps s) k = some p' ∧ p'.amount = p.amount ∧ p'.answer = p.answer := by
  obtain ⟨i, hi, h1, h2, h3, h4, h5⟩ := Lg.revE_zero he
  rw [h5]
  by_cases hk : s = k
  · subst hk
    refine ⟨_, Lg.askP_modify_eq hi h1, ?_⟩
    rw [h2] at h
    rw [← Option.some.inj h]
    exact ⟨rfl, rfl⟩
  · refine ⟨p, ?_, rfl, rfl⟩
    rw [Lg.askP_modify_ne (fun hi' e => ?_)]
    · exact h
    · have := (Lg.askP_key h2).1
      exact hk (this.symm.trans e)
theorem stands_mono {M : MaskF} {S S' : TenS} {t : ByteArray} {q : List Fld} {x : Msg} (h : StandsX M S t q x) (hv : S.v ≤ S'.v) (hp : ∀ p, Lg.askP S.ps (keyOf q) = some p → ∃ p', Lg.askP S'.ps (keyOf q) = some p' ∧ p'.amount = p.amount ∧ p'.answer = p.answer) : StandsX M S' t q x := by
  obtain ⟨p, tok, a, b, h⟩ := h
  obtain ⟨p', h1, h2, h3⟩ := hp p h.post
  exact ⟨p', tok, a, b, h.right, h.ty, h.all, h.pan, h1, h2.trans h.amt, h3.trans h.ans, back_later M h.back hv, h.a1, h.a2, h.b2, h.it⟩
theorem ask_addL {ps : List Lg.Post} {n : Lg.Post} {k : ByteArray} {p : Lg.Post} (h : Lg.askP ps k = some p) : Lg.askP (Lg.addL ps n) k = some p := by
  unfold Lg.addL
  split
  · rw [Lg.askP_append, h]; rfl
  · exact h
theorem stands_handle {M : MaskF} {S : TenS} {t t' : ByteArray} {q q' : List Fld} {x : Msg} {now : Int} {r : TenS × Msg} (h : StandsX M S t q x) (hr : HanR M S t' q' now r) : StandsX M r.1 t q x := by
  cases hr with
  | ref c hc => exact h
  | ask _ _ h0 h1 ht h2 =>
    cases h2 with
    | no c hc h0 => exact h
    | again p tok a b => exact h
    | new us a tok hl hp h1 h2 h3 h4 h5 hu => exact stands_mono h (Nat.le_refl _) (fun p hp => ⟨p, ask_addL hp, rfl, rfl⟩)
  | back _ _ ht h2 =>
    cases h2 with
    | same c hc h0 => exact h
    | rev us he hu => exact stands_mono h (Nat.le_refl _) (fun p hp => ask_rev he hp)
  | net c hc _ ht => exact h
theorem stands_only {M : MaskF} {S : TenS} {t : ByteArray} {q : List Fld} {x : Msg} (h : StandsX M S t q x) (a : TAct) (hd : a.d ≠ 6) : StandsX M (onlyT M S a).1 t q x := by
  have same : ∀ S', S'.v = S.v → S'.ps = S.ps → StandsX M S' t q x := fun S' h1 h2 => stands_mono h (by omega) (fun p hp => ⟨p, by rw [h2]; exact hp, rfl, rfl⟩)
  unfold onlyT
  split
  · exact stands_handle h (han_cases M S _ _ _)
  split
  · dsimp only
    split
    · exact same _ rfl rfl
    · exact h
  split
  · exact same _ rfl rfl
  split
  · exact same _ rfl rfl
  split
  · dsimp only
    split
    · exact stands_mono h (Nat.le_succ _) (fun p hp => ⟨p, hp, rfl, rfl⟩)
    · exact h
  exact h
theorem stands_again {M : MaskF} {S : TenS} {t : ByteArray} {q : List Fld} {x : Msg} (h : StandsX M S t q x) {now : Int} (h0 : 0 ≤ now) (h1 : now ≤ 1099511627776) : handleT M S t q now = (S, x) := by
  obtain ⟨p, tok, a, b, h⟩ := h
  have hask : ∀ lim, askT M S t q now.toNat lim = (S, x) := by
    intro lim
    unfold askT
    rw [if_neg (by rw [h.all]; simp), if_neg (by rw [h.pan]; simp), h.post]
    dsimp only
    unfold againT
    have hr : readS M S.v (bl p.answer) = some (tok, a, b) := by
      rw [h.ans]
      exact read_said h.back h.a1 h.a2 h.b2
    rw [hr]
    dsimp only
    rw [if_neg (by rw [h.back, h.amt]; simp), h.it]
  have ht := h.ty
  simp only [asksT, List.mem_cons, List.not_mem_nil, or_false] at ht
  unfold handleT
  rw [if_neg (by rintro (x | x | x); exact x h.right; omega; omega)]
  by_cases ha : t = t4 48 49 48 48 ∨ t = t4 48 50 48 48
  · rw [if_pos ha, hask]
  · rw [if_neg ha, if_pos (by rcases ht with e | e | e | e; exact absurd (.inl e) ha; exact absurd (.inr e) ha; exact .inl e; exact .inr e), hask]

end Go.Proofs.YtajhgejhdalobaaGreatDoor
namespace Go.Proofs.YtajhgejhdalobaaGreatDoor.Rt
open Go.RowKit

theorem headS_size (s : ByteArray) (n : Nat) : (headS s n).size ≤ s.size := by
  unfold headS
  rw [ByteArray.size_extract]; omega
theorem ret_two {a : Int} {b : Bool} {o : Option Int} (ha : o.getD 0 = a) (hb : o.isSome = b) : Ending.returned (.tuple #[.int .i64 a, .bool b]) = .returned (.tuple #[.int .i64 (o.getD 0), .bool o.isSome]) := by rw [ha, hb]

set_option maxRecDepth 100000 in
set_option maxHeartbeats 800000 in
theorem find_any {l : Nat} {rs : List Route} {w : World} {F : Nat → Prop} (h : TableAt l rs w F) (s : ByteArray) (hs : s.size ≤ maxLen) :
    Calls Tryz.prog 108 #[.pointer (some ⟨l, 0, none⟩), .string s] w fun e w' => e = .returned (.tuple #[.int .i64 ((findR rs s).getD 0), .bool (findR rs s).isSome]) ∧ Fr noBlock w w' := by
  obtain ⟨bm, c0, hl, hne, hbm, hmap, _, _⟩ := h.opened
  have hsz := hs
  unfold maxLen at hsz
  have Hlook := Lib.hid (fun (W : World) (hW : Fr noBlock w W) (n : Nat) => (hmap.fr hW (fun x => x)).look (mt := 209) Tryz.underlying9 Tryz.underlying209 Tryz.underlying3 (zero_int _) (headS s n) (Nat.le_trans (headS_size s n) hs))
  obtain ⟨N, hN⟩ : ∃ N, N = min s.size 8 := ⟨_, rfl⟩
  have hR : findR rs s = findN rs s N := by rw [hN]; rfl
  have hN1 : min (s.size : Int) 8 = (N : Int) := by omega
  have hN2 : N ≤ s.size := by omega
  have hN3 : N ≤ 8 := by omega
  have HR := Lib.hid hR
  have hmin : ∀ (W : World) (ty : TypeId), (Builtin.min_ #[3, 3] ty #[.int .i64 (s.size : Int), .int .i64 8]).run Tryz.prog W = .ok (.int .i64 (N : Int)) W := by
    intro W ty
    by_cases h8 : s.size ≤ 8
    · have e : (N : Int) = (s.size : Int) := by omega
      have h8' : ¬ (8 : Int) < (s.size : Int) := by omega
      rw [e]
      simp only [Builtin.min_, List.foldlM_cons, List.foldlM_nil, Builtin.min2, if_neg h8', Sem.run_bind, Sem.run_pure, Result.andThen]
    · have e : (N : Int) = 8 := by omega
      have h8' : (8 : Int) < (s.size : Int) := by omega
      rw [e]
      simp only [Builtin.min_, List.foldlM_cons, List.foldlM_nil, Builtin.min2, if_pos h8', Sem.run_bind, Sem.run_pure, Result.andThen]
  clear hR h hmap hN hN1
  go_enter Tryz.func108, Tryz.ntmps108
  go_wp2_with fail
  go_loopw [6] (fun s6 wr => ∃ n : Nat, n ≤ N ∧ s6 = .int .i64 n ∧ Fr noBlock w wr ∧ Hid (∀ m, n < m → m ≤ N → lookR rs (headS s m) = none)) (fun s6 _ => (intOf s6).toNat)
  case atStart =>
    refine ⟨N, Nat.le_refl _, ?_, Fr.refl _ _, Lib.hid (fun m h1 h2 => by omega)⟩
    rfl
  case round =>
    obtain ⟨n, hn, rfl, hf, hno⟩ := hrel
    have c1 := (hf.cell (p := ⟨l, 0, none⟩) hl (fun x => x)).trans c0
    by_cases h0 : 0 < n
    · have hn0 : (0 : Int) < (n : Int) := by omega
      have hn1 : (n : Int) ≤ (s.size : Int) := by omega
      have hn8 : (n : Int) ≤ 8 := by omega
      have hlook := fun q => Hlook.out (wr.drewN q) (hf.drewN q) n
      unfold headS at hlook
      cases hlk : lookR rs (headS s n) with
      | some t =>
        unfold headS at hlk
        rw [hlk] at hlook
        simp only [Option.getD_some, Option.isSome_some] at hlook
        have Hres : Hid (findN rs s N = some t) := Lib.hid (findN_some.2 ⟨n, h0, hn, hlk, hno.out⟩)
        have Hf := Lib.hid hf
        clear hlk hf
        go_wp2_with fail
        go_quiet (fail)
        go_wp2_with fail
        go_ret2
        exact ⟨ret_two (by rw [HR.out, Hres.out]; rfl) (by rw [HR.out, Hres.out]; rfl), Hf.out.drewN _⟩
      | none =>
        have Hno : Hid (∀ m, n - 1 < m → m ≤ N → lookR rs (headS s m) = none) := Lib.hid (fun m h1 h2 => by
          by_cases e : m = n
          · subst e; exact hlk
          · exact hno.out m (by omega) h2)
        unfold headS at hlk
        rw [hlk] at hlook
        simp only [Option.getD_none, Option.isSome_none] at hlook
        have Hf := Lib.hid hf
        clear hlk hf
        go_wp2_with fail
        go_quiet (fail)
        go_wp2_with fail
        go_roundw
        case rel => exact ⟨n - 1, by omega, by go_num, Hf.out.drewN _, Hno⟩
        case measure => simp [intOf]; omega
    · have hn0 : (n : Int) ≤ 0 := by omega
      have Hres : Hid (findN rs s N = none) := Lib.hid (findN_none.2 (fun m h1 h2 => hno.out m (by omega) h2))
      have Hf := Lib.hid hf
      clear hf
      go_wp2_with fail
      go_ret2
      exact ⟨ret_two (by rw [HR.out, Hres.out]; rfl) (by rw [HR.out, Hres.out]; rfl), Hf.out⟩
end Go.Proofs.YtajhgejhdalobaaGreatDoor.Rt
namespace Go.Proofs.YtajhgejhdalobaaGreatDoor
open Go.RowKit

theorem Two.ls {A B : Thing} (b : B.Ok) {w : World} {H : Nat → Prop} (h : Two A B w H) : ∃ G, A w G ∧ (∀ k, G k → H k) ∧ ∀ (A' : Thing) (w' : World) (G' : Nat → Prop), A' w' G' → Step G G' w w' → ∃ H', Two A' B w' H' ∧ Step H H' w w' := by
  obtain ⟨F, G, h1, h2, h3, h4⟩ := h
  exact ⟨F, h1, fun k hk => (h4 k).2 (.inl hk), fun A' w' G' h' hs => ⟨_, Two.left b h2 h3 h4 h' hs⟩⟩
theorem Two.rs {A B : Thing} (a : A.Ok) {w : World} {H : Nat → Prop} (h : Two A B w H) : ∃ G, B w G ∧ (∀ k, G k → H k) ∧ ∀ (B' : Thing) (w' : World) (G' : Nat → Prop), B' w' G' → Step G G' w w' → ∃ H', Two A B' w' H' ∧ Step H H' w w' := by
  obtain ⟨F, G, h1, h2, h3, h4⟩ := h
  exact ⟨G, h2, fun k hk => (h4 k).2 (.inr hk), fun B' w' G' h' hs => ⟨_, Two.right a h1 h3 h4 h' hs⟩⟩
def LedT (l : Nat) (ps : List Lg.Post) : Thing := fun w F => Lg.LedAt w l ps F
theorem LedT.ok {l : Nat} {ps : List Lg.Post} : (LedT l ps).Ok := ⟨fun h => Lg.LedAt.lt h, fun h hf hs => Lg.LedAt.fr h hf hs⟩
theorem step_lg {F F' : Nat → Prop} {w w' : World} (h : Lg.Step F F' w w') : Step F F' w w' := ⟨h.fr, h.foot⟩
structure TenW where
  tb : Nat
  va : Nat
  fa : Nat
  rl : Nat
  bk : Nat
  ll : Nat
def tenO (A : TenW) (r : Lm.Rule) : Obj := .cells #[.pointer (some ⟨A.va, 0, none⟩), .pointer (some ⟨A.fa, 0, none⟩), .pointer (some ⟨A.rl, 0, none⟩), .int .i64 r.ticks, .int .i64 r.times, .int .i64 r.sum, .int .i64 r.once, .pointer (some ⟨A.bk, 0, none⟩), .pointer (some ⟨A.ll, 0, none⟩)] 103 (0, 0)
def TenA (A : TenW) (K : Bs) (n : Nat) (S : TenS) : Thing := Two (Two (Two (VaultT A.va K n S.v) (VaultT A.fa K n 1)) (Two (Rt.TableAt A.rl S.rs) (Lm.BookAt A.bk S.us))) (Two (LedT A.ll S.ps) (BoxT A.tb (tenO A S.rule)))
theorem TenA.ok {A : TenW} {K : Bs} {n : Nat} {S : TenS} : (TenA A K n S).Ok := Two.ok (Two.ok (Two.ok VaultT.ok VaultT.ok) (Two.ok Rt.TableAt.ok Lm.BookAt.ok)) (Two.ok LedT.ok BoxT.ok)
namespace TenA
variable {A : TenW} {K : Bs} {n : Nat} {S : TenS} {w w' : World} {H : Nat → Prop}
theorem box (h : TenA A K n S w H) : w.heap[A.tb]? = some (tenO A S.rule) := by
  obtain ⟨_, h1, _⟩ := Two.rs (Two.ok (Two.ok VaultT.ok VaultT.ok) (Two.ok Rt.TableAt.ok Lm.BookAt.ok)) h
  obtain ⟨_, h2, _⟩ := Two.rs LedT.ok h1
  exact h2.1
theorem cells (h : TenA A K n S w H) : w.cell? ⟨A.tb, 0, none⟩ = some (.pointer (some ⟨A.va, 0, none⟩)) ∧ w.cell? ⟨A.tb, 1, none⟩ = some (.pointer (some ⟨A.fa, 0, none⟩)) ∧ w.cell? ⟨A.tb, 2, none⟩ = some (.pointer (some ⟨A.rl, 0, none⟩)) ∧ w.cell? ⟨A.tb, 3, none⟩ = some (.int .i64 S.rule.ticks) ∧ w.cell? ⟨A.tb, 4, none⟩ = some (.int .i64 S.rule.times) ∧ w.cell? ⟨A.tb, 5, none⟩ = some (.int .i64 S.rule.sum) ∧ w.cell? ⟨A.tb, 6, none⟩ = some (.int .i64 S.rule.once) ∧ w.cell? ⟨A.tb, 7, none⟩ = some (.pointer (some ⟨A.bk, 0, none⟩)) ∧ w.cell? ⟨A.tb, 8, none⟩ = some (.pointer (some ⟨A.ll, 0, none⟩)) := by
  have hb := h.box
  unfold tenO at hb
  exact ⟨cell_of hb 0, cell_of hb 1, cell_of hb 2, cell_of hb 3, cell_of hb 4, cell_of hb 5, cell_of hb 6, cell_of hb 7, cell_of hb 8⟩
theorem vault (h : TenA A K n S w H) : ∃ G, VaultT A.va K n S.v w G ∧ (∀ k, G k → H k) ∧ ∀ (v' : Nat) (w' : World) (G' : Nat → Prop), VaultT A.va K n v' w' G' → Step G G' w w' → ∃ H', TenA A K n { S with v := v' } w' H' ∧ Step H H' w w' := by
  obtain ⟨G1, h1, s1, c1⟩ := Two.ls (Two.ok LedT.ok BoxT.ok) h
  obtain ⟨G2, h2, s2, c2⟩ := Two.ls (Two.ok Rt.TableAt.ok Lm.BookAt.ok) h1
  obtain ⟨G3, h3, s3, c3⟩ := Two.ls VaultT.ok h2
  exact ⟨G3, h3, fun k hk => s1 k (s2 k (s3 k hk)), fun v' w' G' g gs => by
    obtain ⟨H3, t3, u3⟩ := c3 _ w' G' g gs
    obtain ⟨H2, t2, u2⟩ := c2 _ w' H3 t3 u3
    exact c1 _ w' H2 t2 u2⟩
theorem first (h : TenA A K n S w H) : ∃ G, VaultT A.fa K n 1 w G ∧ (∀ k, G k → H k) ∧ ∀ (w' : World) (G' : Nat → Prop), VaultT A.fa K n 1 w' G' → Step G G' w w' → ∃ H', TenA A K n S w' H' ∧ Step H H' w w' := by
  obtain ⟨G1, h1, s1, c1⟩ := Two.ls (Two.ok LedT.ok BoxT.ok) h
  obtain ⟨G2, h2, s2, c2⟩ := Two.ls (Two.ok Rt.TableAt.ok Lm.BookAt.ok) h1
  obtain ⟨G3, h3, s3, c3⟩ := Two.rs VaultT.ok h2
  exact ⟨G3, h3, fun k hk => s1 k (s2 k (s3 k hk)), fun w' G' g gs => by
    obtain ⟨H3, t3, u3⟩ := c3 _ w' G' g gs
    obtain ⟨H2, t2, u2⟩ := c2 _ w' H3 t3 u3
    exact c1 _ w' H2 t2 u2⟩
theorem table (h : TenA A K n S w H) : ∃ G, Rt.TableAt A.rl S.rs w G ∧ (∀ k, G k → H k) ∧ ∀ (rs' : List Rt.Route) (w' : World) (G' : Nat → Prop), Rt.TableAt A.rl rs' w' G' → Step G G' w w' → ∃ H', TenA A K n { S with rs := rs' } w' H' ∧ Step H H' w w' := by
  obtain ⟨G1, h1, s1, c1⟩ := Two.ls (Two.ok LedT.ok BoxT.ok) h
  obtain ⟨G2, h2, s2, c2⟩ := Two.rs (Two.ok VaultT.ok VaultT.ok) h1
  obtain ⟨G3, h3, s3, c3⟩ := Two.ls Lm.BookAt.ok h2
  exact ⟨G3, h3, fun k hk => s1 k (s2 k (s3 k hk)), fun rs' w' G' g gs => by
    obtain ⟨H3, t3, u3⟩ := c3 _ w' G' g gs
    obtain ⟨H2, t2, u2⟩ := c2 _ w' H3 t3 u3
    exact c1 _ w' H2 t2 u2⟩
theorem book (h : TenA A K n S w H) : ∃ G, Lm.BookAt A.bk S.us w G ∧ (∀ k, G k → H k) ∧ ∀ (us' : List Lm.Use) (w' : World) (G' : Nat → Prop), Lm.BookAt A.bk us' w' G' → Step G G' w w' → ∃ H', TenA A K n { S with us := us' } w' H' ∧ Step H H' w w' := by
  obtain ⟨G1, h1, s1, c1⟩ := Two.ls (Two.ok LedT.ok BoxT.ok) h
  obtain ⟨G2, h2, s2, c2⟩ := Two.rs (Two.ok VaultT.ok VaultT.ok) h1
  obtain ⟨G3, h3, s3, c3⟩ := Two.rs Rt.TableAt.ok h2
  exact ⟨G3, h3, fun k hk => s1 k (s2 k (s3 k hk)), fun us' w' G' g gs => by
    obtain ⟨H3, t3, u3⟩ := c3 _ w' G' g gs
    obtain ⟨H2, t2, u2⟩ := c2 _ w' H3 t3 u3
    exact c1 _ w' H2 t2 u2⟩
theorem ledger (h : TenA A K n S w H) : ∃ G, LedT A.ll S.ps w G ∧ (∀ k, G k → H k) ∧ ∀ (ps' : List Lg.Post) (w' : World) (G' : Nat → Prop), LedT A.ll ps' w' G' → Step G G' w w' → ∃ H', TenA A K n { S with ps := ps' } w' H' ∧ Step H H' w w' := by
  obtain ⟨G1, h1, s1, c1⟩ := Two.rs (Two.ok (Two.ok VaultT.ok VaultT.ok) (Two.ok Rt.TableAt.ok Lm.BookAt.ok)) h
  obtain ⟨G2, h2, s2, c2⟩ := Two.ls BoxT.ok h1
  exact ⟨G2, h2, fun k hk => s1 k (s2 k hk), fun ps' w' G' g gs => by
    obtain ⟨H2, t2, u2⟩ := c2 _ w' G' g gs
    exact c1 _ w' H2 t2 u2⟩
end TenA
structure TenP (K : Bs) (n : Nat) (v : Nat) : Prop where
  k64 : K.length ≤ 64
  n1 : 1 ≤ n
  n64 : n ≤ 64
  v1 : 1 ≤ v
  v99 : v ≤ 255
set_option maxRecDepth 100000 in
set_option maxHeartbeats 1600000 in
theorem card_any {A : TenW} {K : Bs} {n : Nat} {S : TenS} {w : World} {H : Nat → Prop} (h : TenA A K n S w H) (hG : Glob w H) (hp : TenP K n S.v) (s : ByteArray) (hs : panB (bl s) = true) :
    Calls Tryz.prog 110 #[.pointer (some ⟨A.tb, 0, none⟩), .string s] w fun e w' => e = .returned (.string (cardOf (maskV K n) (bl s))) ∧ ∃ H', TenA A K n S w' H' ∧ Step H H' w w' := by
  have hsz := pan_size hs
  rw [bl_len] at hsz
  have hsh := pan_shape hs
  have hh := hide_shape (maskV K n) 1 hsh
  obtain ⟨G, g1, g2, g3⟩ := h.first
  have HT := Lib.hid (vtoken_any g1 (hG.sub g2) hp.k64 hp.n1 hp.n64 (Nat.le_refl 1) (by decide) s (by omega))
  unfold VTokP at HT
  rw [show tokenB (maskV K n) 1 (bl s) = (tokB (hideB (maskV K n) 1 (bl s)) 1, 0) by unfold tokenB; rw [if_pos hs]] at HT
  have htl := tok_len (v := 1) hh (by decide)
  have HSp := Lib.hid (fun (W : World) (F' : Nat → Prop) (hg : Glob W F') => psplit_any hg (strB (tokB (hideB (maskV K n) 1 (bl s)) 1)) (by rw [strB_size]; omega))
  rw [show splN (strB (tokB (hideB (maskV K n) 1 (bl s)) 1)) = (strB (hideB (maskV K n) 1 (bl s)), 1, 0) by unfold splN; rw [bl_strB, split_tok hh (Nat.le_refl 1) (by decide)]] at HSp
  have HH := Lib.hid (And.intro hG g3)
  obtain ⟨-, x1, -⟩ := h.cells
  unfold cardOf
  obtain ⟨tk, htk⟩ : ∃ x, strB (tokB (hideB (maskV K n) 1 (bl s)) 1) = x := ⟨_, rfl⟩
  obtain ⟨hd, hhd⟩ : ∃ x, strB (hideB (maskV K n) 1 (bl s)) = x := ⟨_, rfl⟩
  rw [htk] at HT HSp
  rw [hhd] at HSp ⊢
  clear h hG hp hs hsz hsh hh htl g1 g2 g3 htk hhd
  go_enter Tryz.func110, Tryz.ntmps110
  go_wp2_with fail
  refine HT.out.mono ?_
  rintro e w1 ⟨rfl, G', k1, k2⟩
  have H1 := Lib.hid (HH.out.2 _ _ k1 k2)
  have HS1 := Lib.hid (HSp.out w1 _ (HH.out.1.step H1.out.choose_spec.2))
  clear k1 k2 HT HSp
  go_wp2_with fail
  refine HS1.out.mono ?_
  rintro e w2 ⟨rfl, f2⟩
  have H2 := Lib.hid f2
  clear f2
  go_wp2_with fail
  go_ret
  obtain ⟨H', t1, t2⟩ := H1.out
  exact ⟨rfl, H', TenA.ok.fr0 t1 H2.out, t2.trans (Step.same H2.out)⟩
set_option maxRecDepth 100000 in
set_option maxHeartbeats 1600000 in
theorem use_any {A : TenW} {K : Bs} {n : Nat} {S : TenS} {w : World} {H : Nat → Prop} (h : TenA A K n S w H) (s : ByteArray) (a m : Int) :
    Calls Tryz.prog 109 #[.pointer (some ⟨A.tb, 0, none⟩), .string s, .int .i64 a, .int .i64 m] w fun e w' => e = .returned (.string (tryC (Lm.tryE S.us S.rule s a m))) ∧ ∃ H', TenA A K n { S with us := Lm.tryL S.us S.rule s a m } w' H' ∧ Step H H' w w' := by
  have HT := Lib.hid (show ∀ W, Fr noBlock w W → Calls Tryz.prog 173 #[.pointer (some ⟨A.bk, 0, none⟩), .agg #[.int .i64 S.rule.ticks, .int .i64 S.rule.times, .int .i64 S.rule.sum, .int .i64 S.rule.once], .string s, .int .i64 a, .int .i64 m] W fun e w' => e = .returned (.int .i64 (Lm.tryE S.us S.rule s a m)) ∧ ∃ H', TenA A K n { S with us := Lm.tryL S.us S.rule s a m } w' H' ∧ Step H H' w w' from fun W hW => by
    obtain ⟨G, g1, g2, g3⟩ := (TenA.ok.fr0 h hW).book
    refine (Lm.try_any g1 S.rule s a m rfl rfl).mono ?_
    rintro e w' ⟨F', rfl, k1, k2⟩
    obtain ⟨H', t1, t2⟩ := g3 _ _ _ k1 k2
    exact ⟨rfl, H', t1, (Step.same hW).trans t2⟩)
  obtain ⟨x, hx⟩ : ∃ x, Lm.tryE S.us S.rule s a m = x := ⟨_, rfl⟩
  obtain ⟨-, -, -, x3, x4, x5, x6, x7, -⟩ := h.cells
  rw [hx] at HT ⊢
  clear h hx
  unfold tryC
  have HKp := Lib.hid (And.intro x3 (And.intro x4 (And.intro x5 (And.intro x6 x7))))
  obtain ⟨y, hy⟩ : ∃ y, (if x = 0 then cOk else if x = 17 then cOver else if x = 18 then cOften else cRoom) = y := ⟨_, rfl⟩
  have HY := Lib.hid hy
  rw [hy]
  clear hy
  go_enter Tryz.func109, Tryz.ntmps109
  go_upto_region 1 with fail
  go_region_held3 (fun W => W.cell? ⟨A.tb, 3, none⟩ = some (.int .i64 S.rule.ticks) ∧ W.cell? ⟨A.tb, 4, none⟩ = some (.int .i64 S.rule.times) ∧ W.cell? ⟨A.tb, 5, none⟩ = some (.int .i64 S.rule.sum) ∧ W.cell? ⟨A.tb, 6, none⟩ = some (.int .i64 S.rule.once) ∧ W.cell? ⟨A.tb, 7, none⟩ = some (.pointer (some ⟨A.bk, 0, none⟩)))
    (first | exact ⟨HL1.out.2.2.2.1, HL1.out.2.2.2.2.1, HL1.out.2.2.2.2.2.1, HL1.out.2.2.2.2.2.2.1, HL1.out.2.2.2.2.2.2.2.1⟩ | exact HKp.out | fail "nokeep")
    (first
      | (go_at_call 173; (with_reducible refine (HT.out _ ?_).mono ?_); (exact (Fr.refl noBlock w).drew); rintro e w1 ⟨rfl, k1⟩; have H1 := Lib.hid k1; have HL1 := Lib.hid H1.out.choose_spec.1.cells; clear k1)
      | fail "noarm")
  all_goals
    clear HT HL1
    have HE := Lib.hid H1.out
    by_cases h0 : x = 0
    · subst h0
      have HY2 := Lib.hid (show y = cOk from by rw [← HY.out, if_pos rfl])
      go_wp2_with fail
      go_ret
      exact ⟨by rw [HY2.out]; rfl, HE.out⟩
    · by_cases h17 : x = 17
      · subst h17
        have HY2 := Lib.hid (show y = cOver from by rw [← HY.out, if_neg (by decide), if_pos rfl])
        go_wp2_with fail
        go_ret
        exact ⟨by rw [HY2.out]; rfl, HE.out⟩
      · by_cases h18 : x = 18
        · subst h18
          have HY2 := Lib.hid (show y = cOften from by rw [← HY.out, if_neg (by decide), if_neg (by decide), if_pos rfl])
          go_wp2_with fail
          go_ret
          exact ⟨by rw [HY2.out]; rfl, HE.out⟩
        · have HY2 := Lib.hid (show y = cRoom from by rw [← HY.out, if_neg h0, if_neg h17, if_neg h18])
          have q0 : (x == 0) = false := by simp [h0]
          have q1 : (x == 17) = false := by simp [h17]
          have q2 : (x == 18) = false := by simp [h18]
          go_wp2_with fail
          go_ret
          exact ⟨by rw [HY2.out]; rfl, HE.out⟩
end Go.Proofs.YtajhgejhdalobaaGreatDoor
