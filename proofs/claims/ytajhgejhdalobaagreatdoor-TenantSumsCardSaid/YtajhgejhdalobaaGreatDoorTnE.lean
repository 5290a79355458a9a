/-
  A TENANT: THE WALK of read.
-/
import Derived.Test.YtajhgejhdalobaaGreatDoorTnC
import Derived.Test.YtajhgejhdalobaaGreatDoorLmTry2
import Derived.Test.YtajhgejhdalobaaGreatDoorTnR
namespace Go.Proofs.YtajhgejhdalobaaGreatDoor

def typesL : List ByteArray := asksT ++ backsT ++ [t4 48 56 48 48]
theorem type_ok {t : ByteArray} (h : t ∈ typesL) : t.size = 4 ∧ valueE (bl (upT t)) 1 4 = 0 ∧ upT t ≠ t4 48 48 48 48 := by
  simp only [typesL, asksT, backsT, List.cons_append, List.nil_append, List.mem_cons, List.not_mem_nil, or_false] at h
  rcases h with rfl | rfl | rfl | rfl | rfl | rfl | rfl <;> decide +kernel
theorem right_more {M : MaskF} {now a : Nat} {tok l : Bs} (hb : backB M now tok = (l, 0)) (ha : a ≤ 99) : ∀ f ∈ ([⟨32, strB (itoB a)⟩, ⟨48, strB tok⟩] : List Fld), FldOk f := by
  intro f hf
  simp only [List.mem_cons, List.not_mem_nil, or_false] at hf
  rcases hf with rfl | rfl
  · exact fld_target (by omega)
  · exact fld_tok hb
theorem right_ansM {t : ByteArray} {q : List Fld} (ht : t ∈ typesL) (hq : RightL q) {c : ByteArray} (hc : c ∈ codesL) {more : List Fld} (hm : ∀ f ∈ more, FldOk f) : rightM (ansM t q c more).1 (ansM t q c more).2 = 0 :=
  rightM_iff.2 ⟨(type_ok ht).2.1, right_ans hq (code_ok c hc) hm⟩
/-- an answer's type -/
theorem handle_type {M : MaskF} {S : TenS} (ho : TenantOk M S) {t : ByteArray} {q : List Fld} {now : Int} {r : TenS × Msg} (h : HanR M S t q now r) : (∃ c, r.2 = refM c) ∨ (rightM r.2.1 r.2.2 = 0 ∧ r.2.1 = upT t ∧ t ∈ typesL) := by
  cases h with
  | ref c hc => exact .inl ⟨c, rfl⟩
  | ask _ hr h0 h1 ht h =>
    have htl : t ∈ typesL := List.mem_append_left _ (List.mem_append_left _ ht)
    have hq := (rightM_iff.1 hr).2
    cases h with
    | no c hc h0 => exact .inr ⟨right_ansM htl hq hc (fun f hf => by cases hf), rfl, htl⟩
    | again p tok a b hl hp h1 h2 h3 h4 =>
      obtain ⟨_, ⟨l, hb⟩, _, ha, _⟩ := read_some h2
      exact .inr ⟨right_ansM htl hq (by simp [codesL]) (right_more hb ha), rfl, htl⟩
    | new us a tok hl hp h1 h2 h3 h4 h5 hu =>
      obtain ⟨hb, ha1, ha2, he⟩ := new_post (now := now.toNat) ho hq (by omega) hl hp h1 h2 h3 h4 h5
      exact .inr ⟨right_ansM htl hq (by simp [codesL]) (right_more hb (by omega)), rfl, htl⟩
  | back _ hr ht h =>
    have htl : t ∈ typesL := List.mem_append_left _ (List.mem_append_right _ ht)
    have hq := (rightM_iff.1 hr).2
    cases h with
    | same c hc h0 => exact .inr ⟨right_ansM htl hq hc (fun f hf => by cases hf), rfl, htl⟩
    | rev us he hu => exact .inr ⟨right_ansM htl hq (by simp [codesL]) (fun f hf => by cases hf), rfl, htl⟩
  | net c hc hr ht =>
    have htl : t ∈ typesL := List.mem_append_right _ (by simp [ht])
    exact .inr ⟨right_ansM htl (rightM_iff.1 hr).2 hc (fun f hf => by cases hf), rfl, htl⟩
/-- a reversal never makes the total greater -/
theorem handle_sum {M : MaskF} {S : TenS} (ho : TenantOk M S) {t : ByteArray} {q : List Fld} {now : Int} {r : TenS × Msg} (h : HanR M S t q now r) (hx : r.2.1 = t4 48 52 49 48 ∨ r.2.1 = t4 48 52 51 48) : Lg.sumA r.1.ps ≤ Lg.sumA S.ps := by
  cases h with
  | ref c hc => exact Int.le_refl _
  | ask _ hr h0 h1 ht h =>
    exfalso
    have e : r.2.1 = upT t := by cases h <;> rfl
    rw [e] at hx
    simp only [asksT, List.mem_cons, List.not_mem_nil, or_false] at ht
    rcases ht with rfl | rfl | rfl | rfl <;> revert hx <;> decide +kernel
  | back _ hr ht h =>
    cases h with
    | same c hc h0 => exact Int.le_refl _
    | rev us he hu =>
      obtain ⟨k, hk, h1, h2, h3, h4, h5⟩ := Lg.revE_zero he
      show Lg.sumA (Lg.revL S.ps (revK q)) ≤ _
      have hm := ho.ps.may S.ps[k] (List.getElem_mem hk)
      rw [h5, Lg.sum_modify hk h3 hm]
      have := Lg.revN_bounds ho.ps he
      omega
  | net c hc hr ht => exact Int.le_refl _
theorem sum_ok {M : MaskF} {S : TenS} (ho : TenantOk M S) : 0 ≤ Lg.sumA S.ps ∧ Lg.sumA S.ps ≤ 5000000000000 ∧ S.ps.length ≤ 24 := ⟨Lg.sumA_nonneg ho.ps.may, ho.ps.total, ho.ps.len⟩
theorem find_empty (s : ByteArray) : Rt.findR [] s = none := Rt.findN_none.2 (fun _ _ _ => rfl)
theorem code_of (t : ByteArray) (q : List Fld) (c : ByteArray) : valF 39 (ansM t q c []).2 = some c := ans_code q c [] (fun f hf => by cases hf)
theorem code_okM (t : ByteArray) (q : List Fld) (tok : Bs) (a : Nat) : valF 39 (okM t q tok a).2 = some cOk := ans_code q cOk _ (fun f hf => by
  simp only [List.mem_cons, List.not_mem_nil, or_false] at hf
  rcases hf with rfl | rfl
  · show (32 : Int) ≠ 39; decide
  · show (48 : Int) ≠ 39; decide)
/-- without routes nothing is approved -/
theorem handle_empty {M : MaskF} {S : TenS} (hr0 : S.rs = []) (hp0 : S.ps = []) {t : ByteArray} {q : List Fld} {now : Int} {r : TenS × Msg} (h : HanR M S t q now r) : r.1 = S ∧ ((valS 39 r.2.2) = cOk → t = t4 48 56 48 48) := by
  have hne : ∀ c, (some c : Option ByteArray).getD ⟨#[]⟩ = c := fun c => rfl
  cases h with
  | ref c hc =>
    refine ⟨rfl, fun e => ?_⟩
    exfalso
    have e2 : c = cOk := e
    clear e
    simp only [List.mem_cons, List.not_mem_nil, or_false] at hc
    rcases hc with rfl | rfl <;> revert e2 <;> decide +kernel
  | ask _ hr h0 h1 ht h =>
    cases h with
    | no c hc h0 =>
      refine ⟨rfl, fun e => absurd ?_ h0⟩
      unfold valS at e
      rw [code_of] at e
      exact e
    | again p tok a b hl hp h1 h2 h3 h4 => rw [hp0] at h1; cases h1
    | new us a tok hl hp h1 h2 h3 h4 h5 hu => rw [hr0, find_empty] at h2; cases h2
  | back _ hr ht h =>
    cases h with
    | same c hc h0 =>
      refine ⟨rfl, fun e => ?_⟩
      unfold valS at e
      rw [code_of] at e
      exact absurd (by rw [hp0]; rfl) (h0 e)
    | rev us he hu => rw [hp0] at he; exact absurd (show (15 : Int) = 0 from he) (by decide)
  | net c hc hr ht => exact ⟨rfl, fun _ => ht⟩
/-- what is refused changes nothing; there is a code -/
theorem handle_code {M : MaskF} {S : TenS} {t : ByteArray} {q : List Fld} {now : Int} {r : TenS × Msg} (h : HanR M S t q now r) : ∃ c, valF 39 r.2.2 = some c ∧ (c ≠ cOk → r.1 = S) := by
  cases h with
  | ref c hc => exact ⟨c, rfl, fun _ => rfl⟩
  | ask _ hr h0 h1 ht h =>
    cases h with
    | no c hc h0 => exact ⟨c, code_of _ _ _, fun _ => rfl⟩
    | again p tok a b hl hp h1 h2 h3 h4 => exact ⟨cOk, code_okM _ _ _ _, fun e => absurd rfl e⟩
    | new us a tok hl hp h1 h2 h3 h4 h5 hu => exact ⟨cOk, code_okM _ _ _ _, fun e => absurd rfl e⟩
  | back _ hr ht h =>
    cases h with
    | same c hc h0 => exact ⟨c, code_of _ _ _, fun _ => rfl⟩
    | rev us he hu => exact ⟨cOk, code_of _ _ _, fun e => absurd rfl e⟩
  | net c hc hr ht => exact ⟨c, code_of _ _ _, fun _ => rfl⟩

/-! what was approved stands -/
structure Stands (M : MaskF) (S : TenS) (t : ByteArray) (q : List Fld) (x : Msg) (p : Lg.Post) (tok : Bs) (a b : Nat) : Prop where
  right : rightM t q = 0
  ty : t ∈ asksT
  all : lacksB q [2, 4, 11, 41] = false
  pan : panB (bl (valS 2 q)) = true
  post : Lg.askP S.ps (keyOf q) = some p
  amt : p.amount = amountOf q
  ans : p.answer = strB (saidB tok a b)
  back : backB M S.v tok = (bl (valS 2 q), 0)
  a1 : 1 ≤ a
  a2 : a ≤ 99
  b2 : b ≤ 1099511627776
  it : x = okM t q tok a
def StandsX (M : MaskF) (S : TenS) (t : ByteArray) (q : List Fld) (x : Msg) : Prop := ∃ p tok a b, Stands M S t q x p tok a b
theorem stands_new {M : MaskF} {S : TenS} (ho : TenantOk M S) {t : ByteArray} {q : List Fld} {now : Int} {r : TenS × Msg} (h : HanR M S t q now r) (ht : t ∈ asksT) (hc : valF 39 r.2.2 = some cOk) : StandsX M r.1 t q r.2 := by
  cases h with
  | ref c h =>
    have e2 : c = cOk := Option.some.inj hc
    simp only [List.mem_cons, List.not_mem_nil, or_false] at h
    exfalso
    rcases h with rfl | rfl <;> revert e2 <;> decide +kernel
  | ask _ hr h0 h1 ht h =>
    have hq := (rightM_iff.1 hr).2
    cases h with
    | no c h h0 => rw [code_of] at hc; exact absurd (Option.some.inj hc) h0
    | again p tok a b hl hp h1 h2 h3 h4 =>
      obtain ⟨e, ⟨l, hb⟩, ha1, ha2, hb2⟩ := read_some h2
      refine ⟨p, tok, a, b, hr, ht, hl, hp, h1, h4.symm, ?_, ?_, ha1, ha2, hb2, rfl⟩
      · rw [← e]
        cases hx : p.answer with | mk d => rfl
      · rw [hb] at h3
        have h5 : l = bl (valS 2 q) := h3
        rw [hb, h5]
    | new us a tok hl hp h1 h2 h3 h4 h5 hu =>
      obtain ⟨hb, ha1, ha2, he⟩ := new_post (now := now.toNat) ho hq (by omega) hl hp h1 h2 h3 h4 h5
      refine ⟨⟨keyOf q, amountOf q, 1, strB (saidB tok a.toNat now.toNat)⟩, tok, a.toNat, now.toNat, hr, ht, hl, hp, ?_, rfl, rfl, hb, by omega, by omega, by omega, rfl⟩
      show Lg.askP (Lg.addL S.ps _) _ = _
      rw [Lg.addL_zero he, Lg.askP_append, h1]
      show Lg.askP [_] _ = _
      unfold Lg.askP
      rw [List.find?_cons]
      simp
  | back _ hr ht2 h =>
    exfalso
    simp only [asksT, backsT, List.mem_cons, List.not_mem_nil, or_false] at ht ht2
    rcases ht2 with rfl | rfl <;> revert ht <;> decide +kernel
  | net c h hr ht2 =>
    exfalso
    simp only [asksT, List.mem_cons, List.not_mem_nil, or_false] at ht
    subst ht2
    revert ht
    decide +kernel
theorem ask_rev {ps : List Lg.Post} {s k : ByteArray} {p : Lg.Post} (he : Lg.revE ps s = 0) (h : Lg.askP ps k = some p) : ∃ p', Lg.askP (Lg.revL ps s) k = some p' ∧ p'.amount = p.amount ∧ p'.answer = p.answer := by
  obtain ⟨i, hi, h1, h2, h3, h4, h5⟩ := Lg.revE_zero he
  rw [h5]
  by_cases hk : s = k
  · subst hk
    refine ⟨_, Lg.askP_modify_eq hi h1, ?_⟩
    rw [h2] at h
    rw [← Option.some.inj h]
    exact ⟨rfl, rfl⟩
  · refine ⟨p, ?_, rfl, rfl⟩
    rw [Lg.askP_modify_ne (fun hi' e => ?_)]
    · exact h
    · have := (Lg.askP_key h2).1
      exact hk (this.symm.trans e)
theorem stands_mono {M : MaskF} {S S' : TenS} {t : ByteArray} {q : List Fld} {x : Msg} (h : StandsX M S t q x) (hv : S.v ≤ S'.v) (hp : ∀ p, Lg.askP S.ps (keyOf q) = some p → ∃ p', Lg.askP S'.ps (keyOf q) = some p' ∧ p'.amount = p.amount ∧ p'.answer = p.answer) : StandsX M S' t q x := by
  obtain ⟨p, tok, a, b, h⟩ := h
  obtain ⟨p', h1, h2, h3⟩ := hp p h.post
  exact ⟨p', tok, a, b, h.right, h.ty, h.all, h.pan, h1, h2.trans h.amt, h3.trans h.ans, back_later M h.back hv, h.a1, h.a2, h.b2, h.it⟩
theorem ask_addL {ps : List Lg.Post} {n : Lg.Post} {k : ByteArray} {p : Lg.Post} (h : Lg.askP ps k = some p) : Lg.askP (Lg.addL ps n) k = some p := by
  unfold Lg.addL
  split
  · rw [Lg.askP_append, h]; rfl
  · exact h
theorem stands_handle {M : MaskF} {S : TenS} {t t' : ByteArray} {q q' : List Fld} {x : Msg} {now : Int} {r : TenS × Msg} (h : StandsX M S t q x) (hr : HanR M S t' q' now r) : StandsX M r.1 t q x := by
  cases hr with
  | ref c hc => exact h
  | ask _ _ h0 h1 ht h2 =>
    cases h2 with
    | no c hc h0 => exact h
    | again p tok a b => exact h
    | new us a tok hl hp h1 h2 h3 h4 h5 hu => exact stands_mono h (Nat.le_refl _) (fun p hp => ⟨p, ask_addL hp, rfl, rfl⟩)
  | back _ _ ht h2 =>
    cases h2 with
    | same c hc h0 => exact h
    | rev us he hu => exact stands_mono h (Nat.le_refl _) (fun p hp => ask_rev he hp)
  | net c hc _ ht => exact h
theorem stands_only {M : MaskF} {S : TenS} {t : ByteArray} {q : List Fld} {x : Msg} (h : StandsX M S t q x) (a : TAct) (hd : a.d ≠ 6) : StandsX M (onlyT M S a).1 t q x := by
  have same : ∀ S', S'.v = S.v → S'.ps = S.ps → StandsX M S' t q x := fun S' h1 h2 => stands_mono h (by omega) (fun p hp => ⟨p, by rw [h2]; exact hp, rfl, rfl⟩)
  unfold onlyT
  split
  · exact stands_handle h (han_cases M S _ _ _)
  split
  · dsimp only
    split
    · exact same _ rfl rfl
    · exact h
  split
  · exact same _ rfl rfl
  split
  · exact same _ rfl rfl
  split
  · dsimp only
    split
    · exact stands_mono h (Nat.le_succ _) (fun p hp => ⟨p, hp, rfl, rfl⟩)
    · exact h
  exact h
theorem stands_acts {M : MaskF} {t : ByteArray} {q : List Fld} {x : Msg} : ∀ (l : List TAct) {S : TenS}, StandsX M S t q x → (∀ a ∈ l, a.d ≠ 6) → StandsX M (actsT M S l) t q x
  | [], _, h, _ => h
  | a :: l, _, h, hd => stands_acts l (stands_only h a (hd a List.mem_cons_self)) (fun b hb => hd b (List.mem_cons_of_mem _ hb))
/-- what comes again is answered as at first, and changes nothing -/
theorem stands_again {M : MaskF} {S : TenS} {t : ByteArray} {q : List Fld} {x : Msg} (h : StandsX M S t q x) {now : Int} (h0 : 0 ≤ now) (h1 : now ≤ 1099511627776) : handleT M S t q now = (S, x) := by
  obtain ⟨p, tok, a, b, h⟩ := h
  have hask : ∀ lim, askT M S t q now.toNat lim = (S, x) := by
    intro lim
    unfold askT
    rw [if_neg (by rw [h.all]; simp), if_neg (by rw [h.pan]; simp), h.post]
    dsimp only
    unfold againT
    have hr : readS M S.v (bl p.answer) = some (tok, a, b) := by
      rw [h.ans]
      exact read_said h.back h.a1 h.a2 h.b2
    rw [hr]
    dsimp only
    rw [if_neg (by rw [h.back, h.amt]; simp), h.it]
  have ht := h.ty
  simp only [asksT, List.mem_cons, List.not_mem_nil, or_false] at ht
  unfold handleT
  rw [if_neg (by rintro (x | x | x); exact x h.right; omega; omega)]
  by_cases ha : t = t4 48 49 48 48 ∨ t = t4 48 50 48 48
  · rw [if_pos ha, hask]
  · rw [if_neg ha, if_pos (by rcases ht with e | e | e | e; exact absurd (.inl e) ha; exact absurd (.inr e) ha; exact .inl e; exact .inr e), hask]

/-! no answer shows a card number -/
theorem hide_ans {q : List Fld} {c : ByteArray} {f : Fld} (h : f ∈ ansL q c []) : f.n ∈ ([39, 3, 4, 11, 41, 70] : List Int) := by
  rcases ans_mem h with rfl | h | ⟨h, _⟩
  · simp
  · cases h
  · exact List.mem_cons_of_mem _ h
theorem hide_okM {M : MaskF} {now a : Nat} {t : ByteArray} {q : List Fld} {tok l : Bs} (hb : backB M now tok = (l, 0)) {f : Fld} (h : f ∈ (okM t q tok a).2) : f.n ∈ ([39, 32, 48, 3, 4, 11, 41, 70] : List Int) ∧ (f.n = 48 → ∃ s v, splitB (bl f.v) = some (s, v) ∧ maskB s = maskB l) := by
  rcases ans_mem h with rfl | h | ⟨h, _⟩
  · exact ⟨by simp, fun e => absurd (show (39 : Int) = 48 from e) (by decide)⟩
  · simp only [List.mem_cons, List.not_mem_nil, or_false] at h
    rcases h with rfl | rfl
    · exact ⟨by simp, fun e => absurd (show (32 : Int) = 48 from e) (by decide)⟩
    · refine ⟨by simp, fun _ => ?_⟩
      obtain ⟨s, v, _, _, _, _, _, h1, h2, _⟩ := back_tok hb
      exact ⟨s, v, h2, h1⟩
  · refine ⟨?_, fun e => ?_⟩
    · simp only [List.mem_cons, List.not_mem_nil, or_false] at h ⊢
      omega
    · rw [e] at h
      exact absurd h (by decide)
theorem handle_hides {M : MaskF} {S : TenS} (ho : TenantOk M S) {t : ByteArray} {q : List Fld} {now : Int} {r : TenS × Msg} (h : HanR M S t q now r) {f : Fld} (hf : f ∈ r.2.2) : f.n ∈ ([39, 32, 48, 3, 4, 11, 41, 70] : List Int) ∧ (f.n = 48 → ∃ s v, splitB (bl f.v) = some (s, v) ∧ maskB s = maskB (bl (valS 2 q))) := by
  have hn : ∀ c, f ∈ ansL q c [] → f.n ∈ ([39, 32, 48, 3, 4, 11, 41, 70] : List Int) ∧ (f.n = 48 → ∃ s v, splitB (bl f.v) = some (s, v) ∧ maskB s = maskB (bl (valS 2 q))) := by
    intro c hc
    have := hide_ans hc
    refine ⟨?_, fun e => ?_⟩
    · simp only [List.mem_cons, List.not_mem_nil, or_false] at this ⊢
      omega
    · rw [e] at this
      exact absurd this (by decide)
  cases h with
  | ref c hc =>
    obtain rfl : f = ⟨39, c⟩ := List.mem_singleton.1 hf
    exact ⟨by simp, fun e => absurd (show (39 : Int) = 48 from e) (by decide)⟩
  | ask _ hr h0 h1 ht h =>
    have hq := (rightM_iff.1 hr).2
    cases h with
    | no c hc h0 => exact hn c hf
    | again p tok a b hl hp h1 h2 h3 h4 =>
      obtain ⟨_, ⟨l, hb⟩, _⟩ := read_some h2
      rw [hb] at h3
      have h5 : l = bl (valS 2 q) := h3
      rw [h5] at hb
      exact hide_okM hb hf
    | new us a tok hl hp h1 h2 h3 h4 h5 hu =>
      obtain ⟨hb, _⟩ := new_post (now := now.toNat) ho hq (by omega) hl hp h1 h2 h3 h4 h5
      exact hide_okM hb hf
  | back _ hr ht h =>
    cases h with
    | same c hc h0 => exact hn c hf
    | rev us he hu => exact hn cOk hf
  | net c hc hr ht => exact hn c hf
/-- a field's note -/
def noteF (f : Fld) : Bs := 32 :: (itoB (max f.n 0).toNat ++ 61 :: (if f.n = 2 ∨ f.n = 48 then maskB (bl f.v) else if f.n = 52 ∨ f.n = 90 then starsB f.v.size else bl f.v))
def noteB (t : ByteArray) (q : List Fld) : Bs := ((bl t) ++ q.flatMap noteF).take 200
theorem put_two {q : List Fld} (hq : RightL q) {s : ByteArray} (hs : valF 2 q = some s) : ∃ B, q = ⟨2, s⟩ :: B ∧ ∀ v, putL q 2 v = ⟨2, v⟩ :: B := by
  cases q with
  | nil => cases hs
  | cons f B =>
    have hm := valF_mem hs
    have hp := List.pairwise_cons.1 hq.asc
    have h2 : 2 ≤ f.n := (fmt_range (hq.each f List.mem_cons_self).1).1
    have hf : f = ⟨2, s⟩ := by
      rcases List.mem_cons.1 hm with h | h
      · exact h.symm
      · have := hp.1 _ h
        have : f.n < 2 := this
        omega
    subst hf
    refine ⟨B, rfl, fun v => ?_⟩
    have hk : putK (⟨2, s⟩ :: B) 2 = 1 := by
      cases B with
      | nil => rfl
      | cons g B =>
        have hg : (2 : Int) < g.n := hp.1 g List.mem_cons_self
        unfold putK
        rw [List.findIdx_cons, List.findIdx_cons]
        simp [hg]
    unfold putL
    rw [hk]
    have e1 : ((⟨2, s⟩ :: B : List Fld).take 1).filter (notN 2) = [] := by simp [notN]
    have e2 : ((⟨2, s⟩ :: B : List Fld).drop 1).filter (notN 2) = B := by
      show B.filter (notN 2) = B
      rw [List.filter_eq_self]
      intro g hg
      have : (2 : Int) < g.n := hp.1 g hg
      unfold notN
      simp
      omega
    rw [e1, e2]
    rfl
theorem note_two {t : ByteArray} {B : List Fld} {s v : ByteArray} (h : maskB (bl s) = maskB (bl v)) : noteB t (⟨2, s⟩ :: B) = noteB t (⟨2, v⟩ :: B) := by
  have e : noteF ⟨2, s⟩ = noteF ⟨2, v⟩ := by
    unfold noteF
    rw [if_pos (.inl rfl), if_pos (.inl rfl), h]
  unfold noteB
  rw [List.flatMap_cons, List.flatMap_cons, e]
end Go.Proofs.YtajhgejhdalobaaGreatDoor
namespace Go.Proofs.YtajhgejhdalobaaGreatDoor.Rt
open Go.RowKit

set_option maxHeartbeats 400000 in
theorem new_any (w : World) : Calls Tryz.prog 50 #[] w fun e w' => ∃ l F, e = .returned (.pointer (some ⟨l, 0, none⟩)) ∧ TableAt l [] w' F ∧ Fr noBlock w w' ∧ ∀ k, F k → w.heap.size ≤ k := by
  have hmm := @run_makeMap Tryz.prog
  go_enter Tryz.func50, Tryz.ntmps50
  go_wp2
  go_ret
  refine ⟨w.heap.size + 1, fun k => k = w.heap.size + 1 ∨ k = w.heap.size, rfl, ⟨w.heap.size, ?_, ?_, by omega, fun _ => Iff.rfl, GoodR.nil⟩, ((Fr.refl _ _).alloc _).alloc _, fun k hk => by omega⟩
  · have := heap_new (w.alloc (.map #[] 0)) (.cells #[.map (some w.heap.size)] 211)
    simpa using this
  · exact ((MapAt.made Tryz.prog 9 3 w).fr ((Fr.refl noBlock _).alloc _) (fun h => h)).congr (fun s => rfl)

/-- the table's cell, and what its map answers -/
theorem TableAt.opened {l : Nat} {rs : List Route} {w : World} {F : Nat → Prop} (h : TableAt l rs w F) :
    ∃ bm, w.cell? ⟨l, 0, none⟩ = some (.map (some bm)) ∧ l < w.heap.size ∧ l ≠ bm ∧ bm < w.heap.size ∧ MapAt Tryz.prog 9 3 w bm (lookR rs) rs.length ∧ w.heap[l]? = some (.cells #[.map (some bm)] 211 (0, 0)) ∧ ∀ k, F k ↔ k = l ∨ k = bm := by
  obtain ⟨bm, h1, h2, h3, h4, h5⟩ := h
  have c0 := cell_of h1 0
  simp at c0
  exact ⟨bm, c0, heap_lt h1, h3, h2.lt, h2, h1, h4⟩

/-- the map has been written -/
theorem table_turned {l : Nat} {rs qs : List Route} {w w1 w2 : World} {F : Nat → Prop} (h : TableAt l rs w F) (hf : Fr noBlock w w1) {bm : Nat} (hc : w.cell? ⟨l, 0, none⟩ = some (.map (some bm))) (hm : MapAt Tryz.prog 9 3 w2 bm (lookR qs) qs.length) (ht : w1.mapTurned w2 bm) (hg : GoodR qs) :
    TableAt l qs w2 F ∧ Step F F w w2 := by
  obtain ⟨bm', h1, h2, h3, h4, h5⟩ := h
  have c0 := cell_of h1 0
  rw [hc] at c0
  obtain rfl : bm = bm' := by simpa using c0
  have hlt := heap_lt h1
  have hs := hf.size
  refine ⟨⟨bm, (ht.grown.block l (by omega) (by simpa using h3)).trans (hf.obj h1 (fun x => x)), hm, h3, h4, hg⟩, ⟨(hf.mono (fun _ x => x.elim)).grown ht.grown (fun k hk => by cases hk; exact .inl ((h4 _).2 (.inr rfl))), fun k hk => .inl hk⟩⟩

set_option maxRecDepth 100000 in
set_option maxHeartbeats 800000 in
theorem put_any {l : Nat} {rs : List Route} {w : World} {F : Nat → Prop} (h : TableAt l rs w F) (s : ByteArray) (t : Int) (hs : s.size ≤ maxLen) {x : Int} (hx : putE rs s t = x) {qs : List Route} (hq : putR rs s t = qs) :
    Calls Tryz.prog 100 #[.pointer (some ⟨l, 0, none⟩), .string s, .int .i64 t] w fun e w' => ∃ F', e = .returned (.int .i64 x) ∧ TableAt l qs w' F' ∧ Step F F' w w' := by
  obtain ⟨bm, c0, hl, hne, hbm, hmap, _, _⟩ := h.opened
  have hgood := h.choose_spec.2.2.2.2
  obtain ⟨pb, hpb⟩ : ∃ pb, preB s = pb := ⟨_, rfl⟩
  have Hp := Lib.hid (fun W => prefix_any s W hs pb hpb)
  have hno : x ≠ 0 → qs = rs := fun h0 => by rw [← hq, putR, if_neg (by rw [hx]; exact h0)]
  have hcs : (x = 1 ∧ (pb = false ∨ (pb = true ∧ t < 1) ∨ (pb = true ∧ 1 ≤ t ∧ 99 < t))) ∨ (x = 14 ∧ pb = true ∧ 1 ≤ t ∧ t ≤ 99 ∧ (lookR rs s).isSome = false ∧ 24 ≤ rs.length) ∨ (x = 0 ∧ pb = true ∧ 1 ≤ t ∧ t ≤ 99 ∧ ((lookR rs s).isSome = true ∨ ((lookR rs s).isSome = false ∧ rs.length < 24))) := by
    rw [← hx]
    unfold putE
    by_cases hm : mayR s t = false
    · rw [if_pos hm]
      left
      refine ⟨rfl, ?_⟩
      unfold mayR at hm
      rw [hpb] at hm
      cases pb
      · exact .inl rfl
      · simp at hm ⊢; omega
    · rw [if_neg hm]
      have hm' : mayR s t = true := by simpa using hm
      obtain ⟨h1, h2, h3⟩ := mayR_iff.1 hm'
      rw [hpb] at h1
      cases hl : (lookR rs s).isSome with
      | true => right; right; simp [h1, h2, h3]
      | false =>
        by_cases h24 : 24 ≤ rs.length
        · right; left; simp [h1, h2, h3, h24]
        · right; right; simp [h1, h2, h3, h24]; omega
  have Hno := Lib.hid hno
  have Hh := Lib.hid h
  have C0 := Lib.hid c0
  have Hgood := Lib.hid hgood
  have Hmap := Lib.hid hmap
  rcases hcs with ⟨rfl, hcs⟩ | ⟨rfl, rfl, t1, t2, hlk, h24⟩ | ⟨rfl, rfl, t1, t2, hcs⟩
  · clear hx hq hno h c0 hgood hmap
    rcases hcs with rfl | ⟨rfl, t1⟩ | ⟨rfl, t1, t2⟩
    all_goals
      go_enter Tryz.func100, Tryz.ntmps100
      go_wp2_with fail
      refine (Hp.out _).mono ?_
      rintro e w1 ⟨rfl, f1⟩
      have Hf := Lib.hid f1
      clear f1
      go_wp2_with fail
      go_ret
      exact ⟨F, rfl, by rw [Hno.out (by omega)]; exact TableAt.ok.fr0 Hh.out Hf.out, Step.same Hf.out⟩
  · have hlook := fun (W : World) (hW : Fr noBlock w W) => (hmap.fr hW (fun x => x)).look (mt := 209) Tryz.underlying9 Tryz.underlying209 Tryz.underlying3 (zero_int _) s hs
    have hlen := fun (W : World) (hW : Fr noBlock w W) (ty : TypeId) => (hmap.fr hW (fun x => x)).len (mt := 209) Tryz.underlying209 ty
    rw [hlk] at hlook
    have h24' : (24 : Int) ≤ (rs.length : Int) := by omega
    have Hlook := Lib.hid hlook
    have Hlen := Lib.hid hlen
    clear hx hq hno h c0 hgood hmap hlook hlen hlk
    generalize (lookR rs s).getD 0 = z at *
    go_enter Tryz.func100, Tryz.ntmps100
    go_wp2_with fail
    refine (Hp.out _).mono ?_
    rintro e w1 ⟨rfl, f1⟩
    have c1 := (f1.cell (p := ⟨l, 0, none⟩) hl (fun x => x)).trans C0.out
    have hk1 := Hlook.out w1 f1
    have hk2 := Hlen.out w1 f1
    have Hf := Lib.hid f1
    clear f1
    go_wp2_with fail
    go_ret
    exact ⟨F, rfl, by rw [Hno.out (by omega)]; exact TableAt.ok.fr0 Hh.out Hf.out, Step.same Hf.out⟩
  · have hqL : qs = putL rs s t := by rw [← hq, putR, if_pos hx]
    have hlook := fun (W : World) (hW : Fr noBlock w W) => (hmap.fr hW (fun x => x)).look (mt := 209) Tryz.underlying9 Tryz.underlying209 Tryz.underlying3 (zero_int _) s hs
    have hlen := fun (W : World) (hW : Fr noBlock w W) (ty : TypeId) => (hmap.fr hW (fun x => x)).len (mt := 209) Tryz.underlying209 ty
    have hst := fun (W : World) (hW : Fr noBlock w W) => (hmap.fr hW (fun x => x)).store (mt := 209) Tryz.underlying9 Tryz.underlying209 Tryz.underlying3 (by have := hgood.len; unfold maxLen; omega) s hs t (by simp [Lit.wf, IntKind.min, IntKind.max, IntKind.signed, IntKind.bits]; omega)
    have hend : ∀ (w1 w2 : World), Fr noBlock w w1 → MapAt Tryz.prog 9 3 w2 bm (fun u => if u = s then some t else lookR rs u) (if (lookR rs s).isSome then rs.length else rs.length + 1) → w1.mapTurned w2 bm → TableAt l qs w2 F ∧ Step F F w w2 := by
      intro w1 w2 hf hm ht
      have hgq : GoodR qs := by rw [← hq]; exact hgood.put s t
      refine table_turned h hf c0 ?_ ht hgq
      rw [hqL, putL_len hgood.sorted]
      exact hm.congr (fun u => (putL_look hgood.sorted s t u).symm)
    have Hlook := Lib.hid hlook
    have Hlen := Lib.hid hlen
    have Hst := Lib.hid hst
    have Hend := Lib.hid hend
    clear hx hq hno h c0 hgood hmap hlook hlen hst hend hqL
    generalize (lookR rs s).getD 0 = z at *
    generalize hsm : (lookR rs s).isSome = sm at *
    rcases hcs with rfl | ⟨rfl, h24⟩
    all_goals
      clear hsm
      try (have h24' : (rs.length : Int) < 24 := by omega)
      go_enter Tryz.func100, Tryz.ntmps100
      go_wp2_with fail
      refine (Hp.out _).mono ?_
      rintro e w1 ⟨rfl, f1⟩
      have c1 := (f1.cell (p := ⟨l, 0, none⟩) hl (fun x => x)).trans C0.out
      have hk1 := Hlook.out w1 f1
      have hk2 := Hlen.out w1 f1
      obtain ⟨w2, hrun, hm2, ht2⟩ := Hst.out w1 f1
      have HE := Lib.hid (Hend.out w1 w2 f1 hm2 ht2)
      clear f1 hm2 ht2
      go_wp2_with fail
      go_ret
      exact ⟨F, rfl, HE.out⟩

set_option maxHeartbeats 800000 in
theorem drop_any {l : Nat} {rs : List Route} {w : World} {F : Nat → Prop} (h : TableAt l rs w F) (s : ByteArray) (hs : s.size ≤ maxLen) {x : Int} (hx : dropE rs s = x) {qs : List Route} (hq : dropR rs s = qs) :
    Calls Tryz.prog 125 #[.pointer (some ⟨l, 0, none⟩), .string s] w fun e w' => ∃ F', e = .returned (.int .i64 x) ∧ TableAt l qs w' F' ∧ Step F F' w w' := by
  obtain ⟨bm, c0, hl, hne, hbm, hmap, _, _⟩ := h.opened
  have hgood := h.choose_spec.2.2.2.2
  have hlook := hmap.look (mt := 209) Tryz.underlying9 Tryz.underlying209 Tryz.underlying3 (zero_int _) s hs
  cases hlk : (lookR rs s).isSome with
  | false =>
    obtain rfl : x = 15 := by rw [← hx, dropE, if_neg (by simp [hlk])]
    obtain rfl : qs = rs := by rw [← hq, dropR, if_neg (by simp [hlk])]
    rw [hlk] at hlook
    have Hh := Lib.hid h
    generalize (lookR qs s).getD 0 = z at *
    clear hx hq h hmap hgood hlk
    go_enter Tryz.func125, Tryz.ntmps125
    go_wp2
    go_ret
    exact ⟨F, rfl, Hh.out, Step.refl _ _⟩
  | true =>
    obtain rfl : x = 0 := by rw [← hx, dropE, if_pos hlk]
    have hqL : qs = dropL rs s := by rw [← hq, dropR, if_pos hlk]
    obtain ⟨w2, hdel, hm2, ht2⟩ := hmap.drop (mt := 209) Tryz.underlying9 Tryz.underlying209 s hs hlk
    have hend : TableAt l qs w2 F ∧ Step F F w w2 := by
      have hgq : GoodR qs := by rw [← hq]; exact hgood.drop s
      refine table_turned h (Fr.refl _ _) c0 ?_ ht2 hgq
      have hln := dropL_len hgood.sorted s
      rw [if_pos hlk] at hln
      rw [hqL, hln]
      exact hm2.congr (fun u => (dropL_look rs s u).symm)
    rw [hlk] at hlook
    have HE := Lib.hid hend
    generalize (lookR rs s).getD 0 = z at *
    clear hx hq h hmap hgood hlk hm2 ht2 hend hqL
    go_enter Tryz.func125, Tryz.ntmps125
    go_wp2
    go_ret
    exact ⟨F, rfl, HE.out⟩
end Go.Proofs.YtajhgejhdalobaaGreatDoor.Rt
namespace Go.Proofs.YtajhgejhdalobaaGreatDoor.Rt
open Go.RowKit

theorem headS_size (s : ByteArray) (n : Nat) : (headS s n).size ≤ s.size := by
  unfold headS
  rw [ByteArray.size_extract]; omega
theorem ret_two {a : Int} {b : Bool} {o : Option Int} (ha : o.getD 0 = a) (hb : o.isSome = b) : Ending.returned (.tuple #[.int .i64 a, .bool b]) = .returned (.tuple #[.int .i64 (o.getD 0), .bool o.isSome]) := by rw [ha, hb]

set_option maxRecDepth 100000 in
set_option maxHeartbeats 800000 in
theorem find_any {l : Nat} {rs : List Route} {w : World} {F : Nat → Prop} (h : TableAt l rs w F) (s : ByteArray) (hs : s.size ≤ maxLen) :
    Calls Tryz.prog 108 #[.pointer (some ⟨l, 0, none⟩), .string s] w fun e w' => e = .returned (.tuple #[.int .i64 ((findR rs s).getD 0), .bool (findR rs s).isSome]) ∧ Fr noBlock w w' := by
  obtain ⟨bm, c0, hl, hne, hbm, hmap, _, _⟩ := h.opened
  have hsz := hs
  unfold maxLen at hsz
  have Hlook := Lib.hid (fun (W : World) (hW : Fr noBlock w W) (n : Nat) => (hmap.fr hW (fun x => x)).look (mt := 209) Tryz.underlying9 Tryz.underlying209 Tryz.underlying3 (zero_int _) (headS s n) (Nat.le_trans (headS_size s n) hs))
  obtain ⟨N, hN⟩ : ∃ N, N = min s.size 8 := ⟨_, rfl⟩
  have hR : findR rs s = findN rs s N := by rw [hN]; rfl
  have hN1 : min (s.size : Int) 8 = (N : Int) := by omega
  have hN2 : N ≤ s.size := by omega
  have hN3 : N ≤ 8 := by omega
  have HR := Lib.hid hR
  have hmin : ∀ (W : World) (ty : TypeId), (Builtin.min_ #[3, 3] ty #[.int .i64 (s.size : Int), .int .i64 8]).run Tryz.prog W = .ok (.int .i64 (N : Int)) W := by
    intro W ty
    by_cases h8 : s.size ≤ 8
    · have e : (N : Int) = (s.size : Int) := by omega
      have h8' : ¬ (8 : Int) < (s.size : Int) := by omega
      rw [e]
      simp only [Builtin.min_, List.foldlM_cons, List.foldlM_nil, Builtin.min2, if_neg h8', Sem.run_bind, Sem.run_pure, Result.andThen]
    · have e : (N : Int) = 8 := by omega
      have h8' : (8 : Int) < (s.size : Int) := by omega
      rw [e]
      simp only [Builtin.min_, List.foldlM_cons, List.foldlM_nil, Builtin.min2, if_pos h8', Sem.run_bind, Sem.run_pure, Result.andThen]
  clear hR h hmap hN hN1
  go_enter Tryz.func108, Tryz.ntmps108
  go_wp2_with fail
  go_loopw [6] (fun s6 wr => ∃ n : Nat, n ≤ N ∧ s6 = .int .i64 n ∧ Fr noBlock w wr ∧ Hid (∀ m, n < m → m ≤ N → lookR rs (headS s m) = none)) (fun s6 _ => (intOf s6).toNat)
  case atStart =>
    refine ⟨N, Nat.le_refl _, ?_, Fr.refl _ _, Lib.hid (fun m h1 h2 => by omega)⟩
    rfl
  case round =>
    obtain ⟨n, hn, rfl, hf, hno⟩ := hrel
    have c1 := (hf.cell (p := ⟨l, 0, none⟩) hl (fun x => x)).trans c0
    by_cases h0 : 0 < n
    · have hn0 : (0 : Int) < (n : Int) := by omega
      have hn1 : (n : Int) ≤ (s.size : Int) := by omega
      have hn8 : (n : Int) ≤ 8 := by omega
      have hlook := fun q => Hlook.out (wr.drewN q) (hf.drewN q) n
      unfold headS at hlook
      cases hlk : lookR rs (headS s n) with
      | some t =>
        unfold headS at hlk
        rw [hlk] at hlook
        simp only [Option.getD_some, Option.isSome_some] at hlook
        have Hres : Hid (findN rs s N = some t) := Lib.hid (findN_some.2 ⟨n, h0, hn, hlk, hno.out⟩)
        have Hf := Lib.hid hf
        clear hlk hf
        go_wp2_with fail
        go_quiet (fail)
        go_wp2_with fail
        go_ret2
        exact ⟨ret_two (by rw [HR.out, Hres.out]; rfl) (by rw [HR.out, Hres.out]; rfl), Hf.out.drewN _⟩
      | none =>
        have Hno : Hid (∀ m, n - 1 < m → m ≤ N → lookR rs (headS s m) = none) := Lib.hid (fun m h1 h2 => by
          by_cases e : m = n
          · subst e; exact hlk
          · exact hno.out m (by omega) h2)
        unfold headS at hlk
        rw [hlk] at hlook
        simp only [Option.getD_none, Option.isSome_none] at hlook
        have Hf := Lib.hid hf
        clear hlk hf
        go_wp2_with fail
        go_quiet (fail)
        go_wp2_with fail
        go_roundw
        case rel => exact ⟨n - 1, by omega, by go_num, Hf.out.drewN _, Hno⟩
        case measure => simp [intOf]; omega
    · have hn0 : (n : Int) ≤ 0 := by omega
      have Hres : Hid (findN rs s N = none) := Lib.hid (findN_none.2 (fun m h1 h2 => hno.out m (by omega) h2))
      have Hf := Lib.hid hf
      clear hf
      go_wp2_with fail
      go_ret2
      exact ⟨ret_two (by rw [HR.out, Hres.out]; rfl) (by rw [HR.out, Hres.out]; rfl), Hf.out⟩
end Go.Proofs.YtajhgejhdalobaaGreatDoor.Rt
namespace Go.Proofs.YtajhgejhdalobaaGreatDoor
open Go.RowKit

theorem Two.ls {A B : Thing} (b : B.Ok) {w : World} {H : Nat → Prop} (h : Two A B w H) : ∃ G, A w G ∧ (∀ k, G k → H k) ∧ ∀ (A' : Thing) (w' : World) (G' : Nat → Prop), A' w' G' → Step G G' w w' → ∃ H', Two A' B w' H' ∧ Step H H' w w' := by
  obtain ⟨F, G, h1, h2, h3, h4⟩ := h
  exact ⟨F, h1, fun k hk => (h4 k).2 (.inl hk), fun A' w' G' h' hs => ⟨_, Two.left b h2 h3 h4 h' hs⟩⟩
theorem Two.rs {A B : Thing} (a : A.Ok) {w : World} {H : Nat → Prop} (h : Two A B w H) : ∃ G, B w G ∧ (∀ k, G k → H k) ∧ ∀ (B' : Thing) (w' : World) (G' : Nat → Prop), B' w' G' → Step G G' w w' → ∃ H', Two A B' w' H' ∧ Step H H' w w' := by
  obtain ⟨F, G, h1, h2, h3, h4⟩ := h
  exact ⟨G, h2, fun k hk => (h4 k).2 (.inr hk), fun B' w' G' h' hs => ⟨_, Two.right a h1 h3 h4 h' hs⟩⟩
def LedT (l : Nat) (ps : List Lg.Post) : Thing := fun w F => Lg.LedAt w l ps F
theorem LedT.ok {l : Nat} {ps : List Lg.Post} : (LedT l ps).Ok := ⟨fun h => Lg.LedAt.lt h, fun h hf hs => Lg.LedAt.fr h hf hs⟩
theorem step_lg {F F' : Nat → Prop} {w w' : World} (h : Lg.Step F F' w w') : Step F F' w w' := ⟨h.fr, h.foot⟩
/-- where a tenant's parts lie -/
structure TenW where
  tb : Nat
  va : Nat
  fa : Nat
  rl : Nat
  bk : Nat
  ll : Nat
def tenO (A : TenW) (r : Lm.Rule) : Obj := .cells #[.pointer (some ⟨A.va, 0, none⟩), .pointer (some ⟨A.fa, 0, none⟩), .pointer (some ⟨A.rl, 0, none⟩), .int .i64 r.ticks, .int .i64 r.times, .int .i64 r.sum, .int .i64 r.once, .pointer (some ⟨A.bk, 0, none⟩), .pointer (some ⟨A.ll, 0, none⟩)] 103 (0, 0)
def TenA (A : TenW) (K : Bs) (n : Nat) (S : TenS) : Thing := Two (Two (Two (VaultT A.va K n S.v) (VaultT A.fa K n 1)) (Two (Rt.TableAt A.rl S.rs) (Lm.BookAt A.bk S.us))) (Two (LedT A.ll S.ps) (BoxT A.tb (tenO A S.rule)))
theorem TenA.ok {A : TenW} {K : Bs} {n : Nat} {S : TenS} : (TenA A K n S).Ok := Two.ok (Two.ok (Two.ok VaultT.ok VaultT.ok) (Two.ok Rt.TableAt.ok Lm.BookAt.ok)) (Two.ok LedT.ok BoxT.ok)
namespace TenA
variable {A : TenW} {K : Bs} {n : Nat} {S : TenS} {w w' : World} {H : Nat → Prop}
theorem box (h : TenA A K n S w H) : w.heap[A.tb]? = some (tenO A S.rule) := by
  obtain ⟨_, h1, _⟩ := Two.rs (Two.ok (Two.ok VaultT.ok VaultT.ok) (Two.ok Rt.TableAt.ok Lm.BookAt.ok)) h
  obtain ⟨_, h2, _⟩ := Two.rs LedT.ok h1
  exact h2.1
theorem cells (h : TenA A K n S w H) : w.cell? ⟨A.tb, 0, none⟩ = some (.pointer (some ⟨A.va, 0, none⟩)) ∧ w.cell? ⟨A.tb, 1, none⟩ = some (.pointer (some ⟨A.fa, 0, none⟩)) ∧ w.cell? ⟨A.tb, 2, none⟩ = some (.pointer (some ⟨A.rl, 0, none⟩)) ∧ w.cell? ⟨A.tb, 3, none⟩ = some (.int .i64 S.rule.ticks) ∧ w.cell? ⟨A.tb, 4, none⟩ = some (.int .i64 S.rule.times) ∧ w.cell? ⟨A.tb, 5, none⟩ = some (.int .i64 S.rule.sum) ∧ w.cell? ⟨A.tb, 6, none⟩ = some (.int .i64 S.rule.once) ∧ w.cell? ⟨A.tb, 7, none⟩ = some (.pointer (some ⟨A.bk, 0, none⟩)) ∧ w.cell? ⟨A.tb, 8, none⟩ = some (.pointer (some ⟨A.ll, 0, none⟩)) := by
  have hb := h.box
  unfold tenO at hb
  exact ⟨cell_of hb 0, cell_of hb 1, cell_of hb 2, cell_of hb 3, cell_of hb 4, cell_of hb 5, cell_of hb 6, cell_of hb 7, cell_of hb 8⟩
theorem vault (h : TenA A K n S w H) : ∃ G, VaultT A.va K n S.v w G ∧ (∀ k, G k → H k) ∧ ∀ (v' : Nat) (w' : World) (G' : Nat → Prop), VaultT A.va K n v' w' G' → Step G G' w w' → ∃ H', TenA A K n { S with v := v' } w' H' ∧ Step H H' w w' := by
  obtain ⟨G1, h1, s1, c1⟩ := Two.ls (Two.ok LedT.ok BoxT.ok) h
  obtain ⟨G2, h2, s2, c2⟩ := Two.ls (Two.ok Rt.TableAt.ok Lm.BookAt.ok) h1
  obtain ⟨G3, h3, s3, c3⟩ := Two.ls VaultT.ok h2
  exact ⟨G3, h3, fun k hk => s1 k (s2 k (s3 k hk)), fun v' w' G' g gs => by
    obtain ⟨H3, t3, u3⟩ := c3 _ w' G' g gs
    obtain ⟨H2, t2, u2⟩ := c2 _ w' H3 t3 u3
    exact c1 _ w' H2 t2 u2⟩
theorem first (h : TenA A K n S w H) : ∃ G, VaultT A.fa K n 1 w G ∧ (∀ k, G k → H k) ∧ ∀ (w' : World) (G' : Nat → Prop), VaultT A.fa K n 1 w' G' → Step G G' w w' → ∃ H', TenA A K n S w' H' ∧ Step H H' w w' := by
  obtain ⟨G1, h1, s1, c1⟩ := Two.ls (Two.ok LedT.ok BoxT.ok) h
  obtain ⟨G2, h2, s2, c2⟩ := Two.ls (Two.ok Rt.TableAt.ok Lm.BookAt.ok) h1
  obtain ⟨G3, h3, s3, c3⟩ := Two.rs VaultT.ok h2
  exact ⟨G3, h3, fun k hk => s1 k (s2 k (s3 k hk)), fun w' G' g gs => by
    obtain ⟨H3, t3, u3⟩ := c3 _ w' G' g gs
    obtain ⟨H2, t2, u2⟩ := c2 _ w' H3 t3 u3
    exact c1 _ w' H2 t2 u2⟩
theorem table (h : TenA A K n S w H) : ∃ G, Rt.TableAt A.rl S.rs w G ∧ (∀ k, G k → H k) ∧ ∀ (rs' : List Rt.Route) (w' : World) (G' : Nat → Prop), Rt.TableAt A.rl rs' w' G' → Step G G' w w' → ∃ H', TenA A K n { S with rs := rs' } w' H' ∧ Step H H' w w' := by
  obtain ⟨G1, h1, s1, c1⟩ := Two.ls (Two.ok LedT.ok BoxT.ok) h
  obtain ⟨G2, h2, s2, c2⟩ := Two.rs (Two.ok VaultT.ok VaultT.ok) h1
  obtain ⟨G3, h3, s3, c3⟩ := Two.ls Lm.BookAt.ok h2
  exact ⟨G3, h3, fun k hk => s1 k (s2 k (s3 k hk)), fun rs' w' G' g gs => by
    obtain ⟨H3, t3, u3⟩ := c3 _ w' G' g gs
    obtain ⟨H2, t2, u2⟩ := c2 _ w' H3 t3 u3
    exact c1 _ w' H2 t2 u2⟩
theorem book (h : TenA A K n S w H) : ∃ G, Lm.BookAt A.bk S.us w G ∧ (∀ k, G k → H k) ∧ ∀ (us' : List Lm.Use) (w' : World) (G' : Nat → Prop), Lm.BookAt A.bk us' w' G' → Step G G' w w' → ∃ H', TenA A K n { S with us := us' } w' H' ∧ Step H H' w w' := by
  obtain ⟨G1, h1, s1, c1⟩ := Two.ls (Two.ok LedT.ok BoxT.ok) h
  obtain ⟨G2, h2, s2, c2⟩ := Two.rs (Two.ok VaultT.ok VaultT.ok) h1
  obtain ⟨G3, h3, s3, c3⟩ := Two.rs Rt.TableAt.ok h2
  exact ⟨G3, h3, fun k hk => s1 k (s2 k (s3 k hk)), fun us' w' G' g gs => by
    obtain ⟨H3, t3, u3⟩ := c3 _ w' G' g gs
    obtain ⟨H2, t2, u2⟩ := c2 _ w' H3 t3 u3
    exact c1 _ w' H2 t2 u2⟩
theorem ledger (h : TenA A K n S w H) : ∃ G, LedT A.ll S.ps w G ∧ (∀ k, G k → H k) ∧ ∀ (ps' : List Lg.Post) (w' : World) (G' : Nat → Prop), LedT A.ll ps' w' G' → Step G G' w w' → ∃ H', TenA A K n { S with ps := ps' } w' H' ∧ Step H H' w w' := by
  obtain ⟨G1, h1, s1, c1⟩ := Two.rs (Two.ok (Two.ok VaultT.ok VaultT.ok) (Two.ok Rt.TableAt.ok Lm.BookAt.ok)) h
  obtain ⟨G2, h2, s2, c2⟩ := Two.ls BoxT.ok h1
  exact ⟨G2, h2, fun k hk => s1 k (s2 k hk), fun ps' w' G' g gs => by
    obtain ⟨H2, t2, u2⟩ := c2 _ w' G' g gs
    exact c1 _ w' H2 t2 u2⟩
end TenA
/-- what all walks of a tenant ask for -/
structure TenP (K : Bs) (n : Nat) (v : Nat) : Prop where
  k64 : K.length ≤ 64
  n1 : 1 ≤ n
  n64 : n ≤ 64
  v1 : 1 ≤ v
  v99 : v ≤ 255
set_option maxRecDepth 100000 in
set_option maxHeartbeats 1600000 in
theorem card_any {A : TenW} {K : Bs} {n : Nat} {S : TenS} {w : World} {H : Nat → Prop} (h : TenA A K n S w H) (hG : Glob w H) (hp : TenP K n S.v) (s : ByteArray) (hs : panB (bl s) = true) :
    Calls Tryz.prog 110 #[.pointer (some ⟨A.tb, 0, none⟩), .string s] w fun e w' => e = .returned (.string (cardOf (maskV K n) (bl s))) ∧ ∃ H', TenA A K n S w' H' ∧ Step H H' w w' := by
  have hsz := pan_size hs
  rw [bl_len] at hsz
  have hsh := pan_shape hs
  have hh := hide_shape (maskV K n) 1 hsh
  obtain ⟨G, g1, g2, g3⟩ := h.first
  have HT := Lib.hid (vtoken_any g1 (hG.sub g2) hp.k64 hp.n1 hp.n64 (Nat.le_refl 1) (by decide) s (by omega))
  unfold VTokP at HT
  rw [show tokenB (maskV K n) 1 (bl s) = (tokB (hideB (maskV K n) 1 (bl s)) 1, 0) by unfold tokenB; rw [if_pos hs]] at HT
  have htl := tok_len (v := 1) hh (by decide)
  have HSp := Lib.hid (fun (W : World) (F' : Nat → Prop) (hg : Glob W F') => psplit_any hg (strB (tokB (hideB (maskV K n) 1 (bl s)) 1)) (by rw [strB_size]; omega))
  rw [show splN (strB (tokB (hideB (maskV K n) 1 (bl s)) 1)) = (strB (hideB (maskV K n) 1 (bl s)), 1, 0) by unfold splN; rw [bl_strB, split_tok hh (Nat.le_refl 1) (by decide)]] at HSp
  have HH := Lib.hid (And.intro hG g3)
  obtain ⟨-, x1, -⟩ := h.cells
  unfold cardOf
  obtain ⟨tk, htk⟩ : ∃ x, strB (tokB (hideB (maskV K n) 1 (bl s)) 1) = x := ⟨_, rfl⟩
  obtain ⟨hd, hhd⟩ : ∃ x, strB (hideB (maskV K n) 1 (bl s)) = x := ⟨_, rfl⟩
  rw [htk] at HT HSp
  rw [hhd] at HSp ⊢
  clear h hG hp hs hsz hsh hh htl g1 g2 g3 htk hhd
  go_enter Tryz.func110, Tryz.ntmps110
  go_wp2_with fail
  refine HT.out.mono ?_
  rintro e w1 ⟨rfl, G', k1, k2⟩
  have H1 := Lib.hid (HH.out.2 _ _ k1 k2)
  have HS1 := Lib.hid (HSp.out w1 _ (HH.out.1.step H1.out.choose_spec.2))
  clear k1 k2 HT HSp
  go_wp2_with fail
  refine HS1.out.mono ?_
  rintro e w2 ⟨rfl, f2⟩
  have H2 := Lib.hid f2
  clear f2
  go_wp2_with fail
  go_ret
  obtain ⟨H', t1, t2⟩ := H1.out
  exact ⟨rfl, H', TenA.ok.fr0 t1 H2.out, t2.trans (Step.same H2.out)⟩
set_option maxRecDepth 100000 in
set_option maxHeartbeats 1600000 in
theorem use_any {A : TenW} {K : Bs} {n : Nat} {S : TenS} {w : World} {H : Nat → Prop} (h : TenA A K n S w H) (s : ByteArray) (a m : Int) :
    Calls Tryz.prog 109 #[.pointer (some ⟨A.tb, 0, none⟩), .string s, .int .i64 a, .int .i64 m] w fun e w' => e = .returned (.string (tryC (Lm.tryE S.us S.rule s a m))) ∧ ∃ H', TenA A K n { S with us := Lm.tryL S.us S.rule s a m } w' H' ∧ Step H H' w w' := by
  have HT := Lib.hid (show ∀ W, Fr noBlock w W → Calls Tryz.prog 173 #[.pointer (some ⟨A.bk, 0, none⟩), .agg #[.int .i64 S.rule.ticks, .int .i64 S.rule.times, .int .i64 S.rule.sum, .int .i64 S.rule.once], .string s, .int .i64 a, .int .i64 m] W fun e w' => e = .returned (.int .i64 (Lm.tryE S.us S.rule s a m)) ∧ ∃ H', TenA A K n { S with us := Lm.tryL S.us S.rule s a m } w' H' ∧ Step H H' w w' from fun W hW => by
    obtain ⟨G, g1, g2, g3⟩ := (TenA.ok.fr0 h hW).book
    refine (Lm.try_any g1 S.rule s a m rfl rfl).mono ?_
    rintro e w' ⟨F', rfl, k1, k2⟩
    obtain ⟨H', t1, t2⟩ := g3 _ _ _ k1 k2
    exact ⟨rfl, H', t1, (Step.same hW).trans t2⟩)
  obtain ⟨x, hx⟩ : ∃ x, Lm.tryE S.us S.rule s a m = x := ⟨_, rfl⟩
  obtain ⟨-, -, -, x3, x4, x5, x6, x7, -⟩ := h.cells
  rw [hx] at HT ⊢
  clear h hx
  unfold tryC
  have HKp := Lib.hid (And.intro x3 (And.intro x4 (And.intro x5 (And.intro x6 x7))))
  obtain ⟨y, hy⟩ : ∃ y, (if x = 0 then cOk else if x = 17 then cOver else if x = 18 then cOften else cRoom) = y := ⟨_, rfl⟩
  have HY := Lib.hid hy
  rw [hy]
  clear hy
  go_enter Tryz.func109, Tryz.ntmps109
  go_upto_region 1 with fail
  go_region_held3 (fun W => W.cell? ⟨A.tb, 3, none⟩ = some (.int .i64 S.rule.ticks) ∧ W.cell? ⟨A.tb, 4, none⟩ = some (.int .i64 S.rule.times) ∧ W.cell? ⟨A.tb, 5, none⟩ = some (.int .i64 S.rule.sum) ∧ W.cell? ⟨A.tb, 6, none⟩ = some (.int .i64 S.rule.once) ∧ W.cell? ⟨A.tb, 7, none⟩ = some (.pointer (some ⟨A.bk, 0, none⟩)))
    (first | exact ⟨HL1.out.2.2.2.1, HL1.out.2.2.2.2.1, HL1.out.2.2.2.2.2.1, HL1.out.2.2.2.2.2.2.1, HL1.out.2.2.2.2.2.2.2.1⟩ | exact HKp.out | fail "nokeep")
    (first
      | (go_at_call 173; (with_reducible refine (HT.out _ ?_).mono ?_); (exact (Fr.refl noBlock w).drew); rintro e w1 ⟨rfl, k1⟩; have H1 := Lib.hid k1; have HL1 := Lib.hid H1.out.choose_spec.1.cells; clear k1)
      | fail "noarm")
  all_goals
    clear HT HL1
    have HE := Lib.hid H1.out
    by_cases h0 : x = 0
    · subst h0
      have HY2 := Lib.hid (show y = cOk from by rw [← HY.out, if_pos rfl])
      go_wp2_with fail
      go_ret
      exact ⟨by rw [HY2.out]; rfl, HE.out⟩
    · by_cases h17 : x = 17
      · subst h17
        have HY2 := Lib.hid (show y = cOver from by rw [← HY.out, if_neg (by decide), if_pos rfl])
        go_wp2_with fail
        go_ret
        exact ⟨by rw [HY2.out]; rfl, HE.out⟩
      · by_cases h18 : x = 18
        · subst h18
          have HY2 := Lib.hid (show y = cOften from by rw [← HY.out, if_neg (by decide), if_neg (by decide), if_pos rfl])
          go_wp2_with fail
          go_ret
          exact ⟨by rw [HY2.out]; rfl, HE.out⟩
        · have HY2 := Lib.hid (show y = cRoom from by rw [← HY.out, if_neg h0, if_neg h17, if_neg h18])
          have q0 : (x == 0) = false := by simp [h0]
          have q1 : (x == 17) = false := by simp [h17]
          have q2 : (x == 18) = false := by simp [h18]
          go_wp2_with fail
          go_ret
          exact ⟨by rw [HY2.out]; rfl, HE.out⟩
end Go.Proofs.YtajhgejhdalobaaGreatDoor
namespace Go.Proofs.YtajhgejhdalobaaGreatDoor
open Go.RowKit

theorem said_set {w1 : World} {g : Nat} {x y z : Value} {T : TypeId} (hb : w1.heap[g]? = some (.cells #[x, y, z] T (0, 0))) (a b c : Value) : (((w1.setCell ⟨g, 0, none⟩ a).setCell ⟨g, 1, none⟩ b).setCell ⟨g, 2, none⟩ c).heap[g]? = some (.cells #[a, b, c] T (0, 0)) := by
  have h1 := heap_set_eq (i := 0) (u := a) hb
  have h2 := heap_set_eq (i := 1) (u := b) h1
  have h3 := heap_set_eq (i := 2) (u := c) h2
  rw [h3]
  rfl
theorem info_said : (Tryz.prog.info? 175).map (·.size) = some 3 := by kernel_rfl
set_option maxRecDepth 100000 in
set_option maxHeartbeats 3200000 in
theorem read_ok {A : TenW} {K : Bs} {n : Nat} {S : TenS} {w : World} {H : Nat → Prop} (h : TenA A K n S w H) (hG : Glob w H) (hp : TenP K n S.v) {tok l : Bs} {a b : Nat} (hb : backB (maskV K n) S.v tok = (l, 0)) (h1 : 1 ≤ a) (h2 : a ≤ 99) (h3 : b ≤ 1099511627776) {s : ByteArray} (hs : s = strB (saidB tok a b)) :
    Calls Tryz.prog 116 #[.pointer (some ⟨A.tb, 0, none⟩), .string s] w fun e w' => e = .returned (.tuple #[.agg #[.string (strB tok), .int .i64 (a : Int), .int .i64 (b : Int)], .bool true]) ∧ ∃ H', TenA A K n S w' H' ∧ Step H H' w w' := by
  have hsz : s.size ≤ 60 := by rw [hs, strB_size]; exact said_len hb h2 h3
  have hts : tok.length ≤ 60 := by
    have := said_len hb h2 h3
    rw [saidB_add] at this
    simp at this
    omega
  have HSp := Lib.hid (show ∀ W, Fr noBlock w W → Calls Tryz.prog 177 #[.string s, .string ⟨#[32]⟩] W fun e w' => e = .returned (.slice (some ⟨W.heap.size, 0, none⟩) 4 4) ∧ w' = W.alloc (.cells #[.string ⟨#[48, 48]⟩, .string (strB tok), .string (strB (itoB a)), .string (strB (itoB b))] 9) from fun W hW => by
    have hc := split_glob (hG.fr hW) s (by omega)
    rw [hs, bl_strB, said_split (tok_space hb)] at hc
    rw [hs]
    exact hc)
  have HNa := Lib.hid (show ∀ W, Calls Tryz.prog 63 #[.string (strB (itoB a))] W fun e w' => e = .returned (.tuple #[.int .i64 (a : Int), .int .i64 0]) ∧ W = w' from fun W => by
    have hc := number_all (strB (itoB a)) W (by rw [strB_size]; have := (ito_len (n := a) (k := 3) (by decide) (by omega)).2; unfold maxLen; omega)
    rw [bl_strB, ito_numR (by omega)] at hc
    exact hc)
  have HNb := Lib.hid (show ∀ W, Calls Tryz.prog 63 #[.string (strB (itoB b))] W fun e w' => e = .returned (.tuple #[.int .i64 (b : Int), .int .i64 0]) ∧ W = w' from fun W => by
    have hc := number_all (strB (itoB b)) W (by rw [strB_size]; have := (ito_len (n := b) (k := 14) (by decide) (by omega)).2; unfold maxLen; omega)
    rw [bl_strB, ito_numR (by omega)] at hc
    exact hc)
  have HB := Lib.hid (show ∀ W, Fr noBlock w W → Calls Tryz.prog 84 #[.pointer (some ⟨A.va, 0, none⟩), .string (strB tok)] W fun e w' => e = .returned (.tuple #[.string (strB l), .int .i64 0]) ∧ ∃ H', TenA A K n S w' H' ∧ Step H H' W w' from fun W hW => by
    obtain ⟨G, g1, g2, g3⟩ := (TenA.ok.fr0 h hW).vault
    have hc := vback_any g1 ((hG.fr hW).sub g2) hp.k64 hp.n1 hp.n64 hp.v99 (strB tok) (by rw [strB_size]; omega)
    unfold VTokP at hc
    rw [bl_strB, hb] at hc
    refine hc.mono ?_
    rintro e w' ⟨rfl, F', k1, k2⟩
    obtain ⟨H', t1, t2⟩ := g3 _ _ _ k1 k2
    exact ⟨rfl, H', t1, t2⟩)
  have HT := Lib.hid (show ∀ (W : World) (F : Nat → Prop), Glob W F → Calls Tryz.prog 113 #[.agg #[.string (strB tok), .int .i64 (a : Int), .int .i64 (b : Int)]] W fun e w' => e = .returned (.string s) ∧ Fr noBlock W w' from fun W F hg => by
    have hc := text_any hg (strB tok) a b (by rw [strB_size]; omega) (by omega) (by omega)
    rw [bl_strB, ← hs] at hc
    exact hc)
  have HX := Lib.hid (And.intro h hG)
  obtain ⟨x0, -⟩ := h.cells
  have q1 : (1 : Int) ≤ (a : Int) := by omega
  have q2 : (a : Int) ≤ 99 := by omega
  have q3 : (b : Int) ≤ 1099511627776 := by omega
  have HC0 := Lib.hid x0
  clear h hG hp hb h1 h2 h3 hs hsz hts x0
  obtain ⟨T, hT⟩ : ∃ T, strB tok = T := ⟨_, rfl⟩
  obtain ⟨sa, hsa⟩ : ∃ T, strB (itoB a) = T := ⟨_, rfl⟩
  obtain ⟨sb, hsb⟩ : ∃ T, strB (itoB b) = T := ⟨_, rfl⟩
  obtain ⟨L, hL⟩ : ∃ T, strB l = T := ⟨_, rfl⟩
  rw [hT, hsa, hsb] at HSp
  rw [hsa] at HNa
  rw [hsb] at HNb
  rw [hT, hL] at HB
  rw [hT] at HT ⊢
  clear hT hsa hsb hL
  go_enter Tryz.func116, Tryz.ntmps116
  go_upto_region 1 with fail
  refine wp_at (fun W => W.heap[w.heap.size]? = some (.cells #[.string ⟨#[]⟩, .int .i64 0, .int .i64 0] 175 (0, 0)) ∧ Fr noBlock w W) ⟨heap_new w _, (Fr.refl _ w).alloc _⟩ ?_
  obtain ⟨g, hg⟩ : ∃ g, w.heap.size = g := ⟨_, rfl⟩
  have Hg := Lib.hid hg
  rw [hg]
  rintro w1 ⟨b1, f1⟩
  have H1 := Lib.hid (And.intro b1 f1)
  have HLt := Lib.hid (show ∀ k, H k → k < g from fun k hk => hg ▸ TenA.ok.lt HX.out.1 k hk)
  clear b1 f1 hg
  go_wp2_with fail
  refine (HSp.out _ H1.out.2).mono ?_
  rintro e w2 ⟨rfl, e2⟩
  obtain ⟨gl, hgl⟩ : ∃ g, w1.heap.size = g := ⟨_, rfl⟩
  have H2 := Lib.hid (show w2.heap[gl]? = some (.cells #[.string ⟨#[48, 48]⟩, .string T, .string sa, .string sb] 9 (0, 0)) ∧ w2.heap[g]? = some (.cells #[.string ⟨#[]⟩, .int .i64 0, .int .i64 0] 175 (0, 0)) ∧ Fr noBlock w w2 from by
    rw [e2, ← hgl]
    exact ⟨heap_new w1 _, heap_old _ H1.out.1, H1.out.2.alloc _⟩)
  have HNg := Lib.hid (show ¬ H g ∧ ¬ H gl from ⟨fun hk => by have := HLt.out _ hk; omega, fun hk => by have := HLt.out _ hk; have := heap_lt H1.out.1; omega⟩)
  rw [hgl]
  clear e2 hgl
  have c0 := cell_of H2.out.1 0
  have c1 := cell_of H2.out.1 1
  have c2 := cell_of H2.out.1 2
  have c3 := cell_of H2.out.1 3
  simp at c0 c1 c2 c3
  have x0 := (TenA.ok.fr0 HX.out.1 H2.out.2.2).cells.1
  go_wp2_with fail
  refine (HNa.out _).mono ?_
  rintro e w3 ⟨rfl, rfl⟩
  go_wp2_with fail
  refine (HNb.out _).mono ?_
  rintro e w3 ⟨rfl, rfl⟩
  go_upto_region 6 with fail
  have HKc := Lib.hid (show ∀ W, Fr noBlock w2 W → W.cell? ⟨A.tb, 0, none⟩ = some (.pointer (some ⟨A.va, 0, none⟩)) ∧ W.cell? ⟨gl, 1, none⟩ = some (.string T) from fun W hW => ⟨(TenA.ok.fr0 HX.out.1 (H2.out.2.2.trans' hW)).cells.1, cell_of (hW.obj H2.out.1 (fun z => z)) 1⟩)
  have HKb := Lib.hid (show ∀ W H', TenA A K n S W H' ∧ Step H H' w2.drew W → W.cell? ⟨A.tb, 0, none⟩ = some (.pointer (some ⟨A.va, 0, none⟩)) ∧ W.cell? ⟨gl, 1, none⟩ = some (.string T) ∧ W.heap[g]? = some (.cells #[.string ⟨#[]⟩, .int .i64 0, .int .i64 0] 175 (0, 0)) from fun W H' ⟨k1, k2⟩ => ⟨k1.cells.1, cell_of (k2.fr.obj (a := w2.drew) H2.out.1 HNg.out.2) 1, k2.fr.obj (a := w2.drew) H2.out.2.1 HNg.out.1⟩)
  go_region_held3 (fun W => W.cell? ⟨A.tb, 0, none⟩ = some (.pointer (some ⟨A.va, 0, none⟩)) ∧ W.cell? ⟨gl, 1, none⟩ = some (.string T))
    (first | exact HKc.out _ ((Fr.refl noBlock w2).drew) | exact HKc.out _ (Fr.refl noBlock w2) | exact ⟨HK3.out.1, HK3.out.2.1⟩ | fail "nokeep")
    (first
      | (go_at_call 84; (with_reducible refine (HB.out _ ?_).mono ?_); (exact H2.out.2.2.drew); rintro e w3 ⟨rfl, k1⟩; have H3 := Lib.hid k1; have HK3 := Lib.hid (HKb.out _ _ H3.out.choose_spec); clear k1)
      | fail "noarm")
  all_goals
    have H4 := Lib.hid (show w3.heap[g]? = some (.cells #[.string ⟨#[]⟩, .int .i64 0, .int .i64 0] 175 (0, 0)) ∧ w3.cell? ⟨gl, 1, none⟩ = some (.string T) ∧ Fr noBlock w w2 ∧ ∃ H', TenA A K n S w3 H' ∧ Step H H' w w3 ∧ Glob w3 H' ∧ ¬ H' g from by
      obtain ⟨H', t1, t2⟩ := H3.out
      have t3 := (Step.same H2.out.2.2.drew).trans t2
      exact ⟨HK3.out.2.2, HK3.out.2.1, H2.out.2.2, H', t1, t3, HX.out.2.step t3, fun hk => (t2.foot _ hk).elim HNg.out.1 (fun hle => by have := heap_lt H2.out.2.1; have hle' : w2.heap.size ≤ g := hle; omega)⟩)
    obtain ⟨gs, hgs⟩ : ∃ g, w3.heap.size = g := ⟨_, rfl⟩
    clear HK3 H3
    go_upto_region 9 with fail
    refine wp_at (fun W => W.heap[g]? = some (.cells #[.string ⟨#[]⟩, .int .i64 0, .int .i64 0] 175 (0, 0)) ∧ W.heap[gs]? = some (.cells #[.string T, .int .i64 (a : Int), .int .i64 (b : Int)] 175 (0, 0)) ∧ ∃ H', TenA A K n S W H' ∧ Step H H' w W ∧ Glob W H' ∧ ¬ H' g) ?_ ?_
    · obtain ⟨y1, y2, y3, H', y4, y5, y6, y7⟩ := H4.out
      refine ⟨heap_old _ y1, by rw [← hgs]; exact heap_new w3 _, H', TenA.ok.fr0 y4 ((Fr.refl noBlock w3).alloc _), y5.trans (Step.same ((Fr.refl noBlock w3).alloc _)), y6.fr ((Fr.refl noBlock w3).alloc _), y7⟩
    have hne : g ≠ gs := by have := heap_lt H4.out.1; omega
    clear H4 hgs
    rintro w5 ⟨b1, b2, k5⟩
    have H5 := Lib.hid k5
    have HB5 := Lib.hid (And.intro b1 b2)
    have HT5 := Lib.hid (show ∀ W, Fr noBlock w5 W → _ from fun W hW => HT.out W _ (H5.out.choose_spec.2.2.1.fr hW))
    have HK5 := Lib.hid (show ∀ W, Fr (fun k => k = g) w5 W → W.cell? ⟨gs, 0, none⟩ = some (.string T) ∧ W.cell? ⟨gs, 1, none⟩ = some (.int .i64 (a : Int)) ∧ W.cell? ⟨gs, 2, none⟩ = some (.int .i64 (b : Int)) from fun W hW => by
      have h := hW.obj b2 (fun e => hne e.symm)
      exact ⟨cell_of h 0, cell_of h 1, cell_of h 2⟩)
    have HF5 := Lib.hid (show ∀ W, Fr noBlock w5 W → W.frozen? ⟨g, 0, none⟩ = false ∧ W.frozen? ⟨g, 1, none⟩ = false ∧ W.frozen? ⟨g, 2, none⟩ = false ∧ W.cell? ⟨g, 0, none⟩ = some (.string ⟨#[]⟩) ∧ W.cell? ⟨g, 1, none⟩ = some (.int .i64 0) ∧ W.cell? ⟨g, 2, none⟩ = some (.int .i64 0) from fun W hW => by
      have h := hW.obj b1 (fun z => z)
      exact ⟨free_of h 0, free_of h 1, free_of h 2, cell_of h 0, cell_of h 1, cell_of h 2⟩)
    obtain ⟨c4, c5, c6⟩ := HK5.out w5 (Fr.refl _ _)
    obtain ⟨m0, m1, m2, m3, m4, m5⟩ := HF5.out w5 (Fr.refl _ _)
    clear b1 b2 k5 c0 c1 c2 c3 x0
    go_region_held3 (fun W => W.cell? ⟨gs, 0, none⟩ = some (.string T) ∧ W.cell? ⟨gs, 1, none⟩ = some (.int .i64 (a : Int)) ∧ W.cell? ⟨gs, 2, none⟩ = some (.int .i64 (b : Int)))
      (first | exact HK5.out _ (by repeat (first | (with_reducible exact Fr.refl _ _) | (with_reducible refine Fr.drew ?_) | (with_reducible refine fr_set_at ?_ _ _) | (with_reducible refine Fr.trans' ?_ f6))) | fail "nokeep")
      (first
        | (go_at_call 113; (with_reducible refine (HT5.out _ ?_).mono ?_); (exact (by repeat (first | (with_reducible exact Fr.refl _ _) | (with_reducible refine Fr.drew ?_)))); rintro e w6 ⟨rfl, f6'⟩; have f6 := f6'.mono (T := fun k => k = g) (fun _ h => h.elim); have H6 := Lib.hid f6'; clear f6'; obtain ⟨n0, n1, n2, n3, n4, n5⟩ := HF5.out w6 (Fr.trans' (by repeat (first | (with_reducible exact Fr.refl _ _) | (with_reducible refine Fr.drew ?_))) H6.out))
        | fail "noarm")
    all_goals
      have HZ := Lib.hid (show ∃ H', TenA A K n S w6 H' ∧ Step H H' w w6 ∧ ¬ H' g from by
        obtain ⟨H', t1, t2, t3, t4⟩ := H5.out
        have f := (Fr.drew (Fr.refl noBlock w5)).trans' H6.out
        exact ⟨H', TenA.ok.fr0 t1 f, t2.trans (Step.same f), t4⟩)
      have HO := Lib.hid ((Fr.drew (Fr.refl noBlock w5)).trans' H6.out |>.obj HB5.out.1 (fun z => z))
      clear f6 n0 n1 n2 n3 n4 n5 c4 c5 c6 m0 m1 m2 m3 m4 m5
      go_wp2_with fail
      refine bodyPost_ret (v := .tuple #[.agg #[.string T, .int .i64 (a : Int), .int .i64 (b : Int)], .bool true]) ?_ rfl ⟨rfl, ?_⟩
      · have z := said_set HO.out (.string T) (.int .i64 (a : Int)) (.int .i64 (b : Int))
        have z0 := cell_of z 0
        have z1 := cell_of z 1
        have z2 := cell_of z 2
        simp at z0 z1 z2
        simp [results, Tryz.results116, go_sem, z0, z1, z2]
      · obtain ⟨H', t1, t2, t3⟩ := HZ.out
        have f : Fr (fun k => k = g) w6 _ := fr_set_at (fr_set_at (fr_set_at (Fr.refl _ w6) 0 (.string T)) 1 (.int .i64 (a : Int))) 2 (.int .i64 (b : Int))
        have hle : w.heap.size ≤ g := by rw [Hg.out]; exact Nat.le_refl _
        exact ⟨H', TenA.ok.fr t1 f (fun k hk e => t3 (e ▸ hk)), ((t2.fr.setCell (.inr hle) _).setCell (.inr hle) _).setCell (.inr hle) _, t2.foot⟩
end Go.Proofs.YtajhgejhdalobaaGreatDoor
