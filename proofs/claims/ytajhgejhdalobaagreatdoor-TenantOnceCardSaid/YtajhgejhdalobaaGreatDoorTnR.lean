/-
  A TENANT (plain): what a message does, in cases; what stays true.
-/
import Derived.Test.YtajhgejhdalobaaGreatDoorTnQ
namespace Go.Proofs.YtajhgejhdalobaaGreatDoor

def WinU (us : List Lm.Use) : Prop := ∀ u ∈ us, u.window ≤ 9223372036854775807
theorem win_try {us : List Lm.Use} (h : WinU us) (r : Lm.Rule) (s : ByteArray) (a n : Int) : WinU (Lm.tryL us r s a n) := by
  unfold Lm.tryL
  split
  · rename_i h0
    obtain ⟨hm, _⟩ := Lm.tryE_zero h0
    obtain ⟨hr, _, _, _, hn0, hn1⟩ := Lm.may_iff.1 hm
    have hq : n / r.ticks ≤ 9223372036854775807 := by
      have := Int.ediv_le_self r.ticks hn0
      omega
    have hc : (Lm.addU (Lm.curU us s (n / r.ticks)) a).window ≤ 9223372036854775807 := by
      show (Lm.curU us s (n / r.ticks)).window ≤ _
      rw [(Lm.cur_card us s (n / r.ticks)).2]
      exact hq
    split
    · intro u hu
      rcases Lm.mem_set' hu with hu | rfl
      · exact h u hu
      · exact hc
    · intro u hu
      rcases List.mem_append.1 hu with hu | hu
      · exact h u (Lm.room_mem hu)
      · rw [List.mem_singleton.1 hu]
        exact hc
  · exact h
theorem win_undo {us : List Lm.Use} (h : WinU us) (r : Lm.Rule) (s : ByteArray) (a n : Int) : WinU (Lm.undoL us r s a n) := by
  unfold Lm.undoL
  split
  · rename_i h0
    obtain ⟨k, hk, hf, _⟩ := Lm.undoE_zero h0
    rw [hf]
    simp only
    rw [Lm.modify_eq_set _ _ _ hk]
    intro u hu
    rcases Lm.mem_set' hu with hu | rfl
    · exact h u hu
    · exact h us[k] (List.getElem_mem hk)
  · exact h
structure TenantOk (M : MaskF) (S : TenS) : Prop where
  v1 : 1 ≤ S.v
  v2 : S.v ≤ 255
  rule : S.rule.right = true
  rs : Rt.GoodR S.rs
  us : Lm.GoodU S.us
  win : WinU S.us
  ps : Lg.Good S.ps
  said : ∀ p ∈ S.ps, ∃ tok l a b, p.answer = strB (saidB tok a b) ∧ backB M S.v tok = (l, 0) ∧ 1 ≤ a ∧ a ≤ 99 ∧ b ≤ 1099511627776
theorem lacks_no {q : List Fld} {l : List Int} (h : lacksB q l = false) {n : Int} (hn : n ∈ l) : valB n q = true := by
  unfold lacksB at h
  rw [List.any_eq_false] at h
  have := h n hn
  simpa using this
theorem val_right {q : List Fld} (h : RightL q) {n : Int} (hb : valB n q = true) : FldOk ⟨n, valS n q⟩ := h.each _ (valF_mem (valS_some hb))
theorem fldv_len {n : Int} {v : ByteArray} (h : FldOk ⟨n, v⟩) : ((kindOf n = 2 ∨ kindOf n = 4) → 1 ≤ v.size ∧ (v.size : Int) ≤ longOf n) ∧ (¬ (kindOf n = 2 ∨ kindOf n = 4) → (v.size : Int) = longOf n) := by
  have := value_ok h.2
  rw [bl_len] at this
  exact this.2
theorem fld_digs {n : Int} {v : ByteArray} (h : FldOk ⟨n, v⟩) (hk : kindOf n = 1 ∨ kindOf n = 2) : (bl v).all isDig = true := other_dig hk (value_ok h.2).1
theorem amount_ok {q : List Fld} (h : RightL q) (hb : valB 4 q = true) : numR (bl (valS 4 q)) = (amountOf q, 0) ∧ amountOf q ≤ 999999999999 := by
  have hf := val_right h hb
  have hd := fld_digs hf (.inl rfl)
  have hl : ((valS 4 q).size : Int) = 12 := (fldv_len hf).2 (by decide)
  have hlt := numL_lt hd
  rw [bl_len, show (valS 4 q).size = 12 by omega] at hlt
  have e : numR (bl (valS 4 q)) = (numB (bl (valS 4 q)), 0) := by
    unfold numR
    rw [if_neg (by rw [hd]; simp), if_neg (by rw [bl_len]; omega), if_neg (by intro e; have := bl_len (valS 4 q); rw [e] at this; simp at this; omega), if_neg (by omega)]
  unfold amountOf
  rw [e]
  exact ⟨rfl, by omega⟩
theorem empty_size {s : ByteArray} (h : 0 < s.size) : s.toList.isEmpty = false := by
  rw [ByteArray.toList_eq]
  cases hx : s.data.toList with
  | nil =>
    have := bl_len s
    rw [show bl s = [] from hx] at this
    simp at this
    omega
  | cons a r => rfl
theorem key_size {q : List Fld} (h : RightL q) (h1 : valB 11 q = true) (h2 : valB 41 q = true) : (keyOf q).size = 14 := by
  have a : ((valS 11 q).size : Int) = 6 := (fldv_len (val_right h h1)).2 (by decide)
  have b : ((valS 41 q).size : Int) = 8 := (fldv_len (val_right h h2)).2 (by decide)
  unfold keyOf
  rw [ByteArray.size_append]
  omega
theorem ask_pos {ps : List Lg.Post} {s : ByteArray} (h : Lg.askP ps s = none) : Lg.posOf ps s = none := by
  cases hp : Lg.posOf ps s with
  | none => rfl
  | some x => obtain ⟨k, hk, _, _, e⟩ := Lg.askP_of hp; rw [e] at h; cases h

inductive AskR (M : MaskF) (S : TenS) (t : ByteArray) (q : List Fld) (now : Nat) : TenS × Msg → Prop
  | no (c : ByteArray) (hc : c ∈ codesL) (h0 : c ≠ cOk) : AskR M S t q now (S, ansM t q c [])
  | again (p : Lg.Post) (tok : Bs) (a b : Nat) (hl : lacksB q [2, 4, 11, 41] = false) (hp : panB (bl (valS 2 q)) = true) (h1 : Lg.askP S.ps (keyOf q) = some p) (h2 : readS M S.v (bl p.answer) = some (tok, a, b)) (h3 : (backB M S.v tok).1 = bl (valS 2 q)) (h4 : (amountOf q : Int) = p.amount) : AskR M S t q now (S, okM t q tok a)
  | new (us : List Lm.Use) (a : Int) (tok : Bs) (hl : lacksB q [2, 4, 11, 41] = false) (hp : panB (bl (valS 2 q)) = true) (h1 : Lg.askP S.ps (keyOf q) = none) (h2 : Rt.findR S.rs (valS 2 q) = some a) (h3 : S.ps.length < 24) (h4 : (amountOf q : Int) ≤ 5000000000000 - Lg.sumA S.ps) (h5 : tok = (tokenB M S.v (bl (valS 2 q))).1) (hu : us = S.us ∨ us = Lm.tryL S.us S.rule (cardOf M (bl (valS 2 q))) (amountOf q) now) :
    AskR M S t q now ({ S with us := us, ps := Lg.addL S.ps ⟨keyOf q, amountOf q, 1, strB (saidB tok a.toNat now)⟩ }, okM t q tok a.toNat)
theorem tryC_no {e : Int} (h : e ≠ 0) : tryC e ∈ codesL ∧ tryC e ≠ cOk := by
  unfold tryC
  rw [if_neg h]
  split
  · exact ⟨by simp [codesL], by decide⟩
  · split
    · exact ⟨by simp [codesL], by decide⟩
    · exact ⟨by simp [codesL], by decide⟩
theorem ask_cases (M : MaskF) (S : TenS) (t : ByteArray) (q : List Fld) (now : Nat) (limited : Bool) : AskR M S t q now (askT M S t q now limited) := by
  unfold askT
  split
  · exact .no _ (by simp [codesL]) (by decide)
  rename_i hl
  have hl' : lacksB q [2, 4, 11, 41] = false := by simpa using hl
  split
  · exact .no _ (by simp [codesL]) (by decide)
  rename_i hp
  have hp' : panB (bl (valS 2 q)) = true := by simpa using hp
  split
  · rename_i p h1
    unfold againT
    split
    · exact .no _ (by simp [codesL]) (by decide)
    · rename_i tok a b h2
      split
      · exact .no _ (by simp [codesL]) (by decide)
      · rename_i h3
        exact .again p tok a b hl' hp' h1 h2 (Decidable.byContradiction fun h => h3 (.inl h)) (Decidable.byContradiction fun h => h3 (.inr h))
  · rename_i h1
    split
    · exact .no _ (by simp [codesL]) (by decide)
    · rename_i a h2
      split
      · exact .no _ (by simp [codesL]) (by decide)
      · rename_i h3
        split
        · rename_i h4
          exact .no _ (tryC_no h4.2).1 (tryC_no h4.2).2
        · refine .new _ a _ hl' hp' h1 h2 (by omega) (by omega) rfl ?_
          cases limited
          · exact .inl rfl
          · exact .inr rfl
inductive BackR (S : TenS) (t : ByteArray) (q : List Fld) : TenS × Msg → Prop
  | same (c : ByteArray) (hc : c ∈ codesL) (h0 : c = cOk → Lg.askP S.ps (revK q) ≠ none) : BackR S t q (S, ansM t q c [])
  | rev (us : List Lm.Use) (he : Lg.revE S.ps (revK q) = 0) (hu : us = S.us ∨ ∃ c n th, us = Lm.undoL S.us S.rule c n th) : BackR S t q ({ S with ps := Lg.revL S.ps (revK q), us := us }, ansM t q cOk [])
theorem back_cases (M : MaskF) (S : TenS) (t : ByteArray) (q : List Fld) : BackR S t q (backT M S t q) := by
  unfold backT
  split
  · exact .same _ (by simp [codesL]) (fun e => absurd e (by decide))
  split
  · exact .same _ (by simp [codesL]) (fun e => absurd e (by decide))
  rename_i p hp
  split
  · rename_i he
    split
    · exact .rev _ he (.inl rfl)
    · exact .rev _ he (.inr ⟨_, _, _, rfl⟩)
  · exact .same _ (by simp [codesL]) (fun _ e => by rw [hp] at e; cases e)
def asksT : List ByteArray := [t4 48 49 48 48, t4 48 50 48 48, t4 48 49 50 48, t4 48 50 50 48]
def backsT : List ByteArray := [t4 48 52 48 48, t4 48 52 50 48]
inductive HanR (M : MaskF) (S : TenS) (t : ByteArray) (q : List Fld) (now : Int) : TenS × Msg → Prop
  | ref (c : ByteArray) (hc : c ∈ [cForm, cType]) : HanR M S t q now (S, refM c)
  | ask (r : TenS × Msg) (hr : rightM t q = 0) (h0 : 0 ≤ now) (h1 : now ≤ 1099511627776) (ht : t ∈ asksT) (h : AskR M S t q now.toNat r) : HanR M S t q now r
  | back (r : TenS × Msg) (hr : rightM t q = 0) (ht : t ∈ backsT) (h : BackR S t q r) : HanR M S t q now r
  | net (c : ByteArray) (hc : c ∈ codesL) (hr : rightM t q = 0) (ht : t = t4 48 56 48 48) : HanR M S t q now (S, ansM t q c [])
theorem han_cases (M : MaskF) (S : TenS) (t : ByteArray) (q : List Fld) (now : Int) : HanR M S t q now (handleT M S t q now) := by
  unfold handleT
  split
  · exact .ref _ (by simp)
  rename_i h
  have hr : rightM t q = 0 := Decidable.byContradiction fun x => h (.inl x)
  split
  · rename_i ht
    exact .ask _ hr (by omega) (by omega) (by rcases ht with rfl | rfl <;> simp [asksT]) (ask_cases M S t q _ true)
  split
  · rename_i ht
    exact .ask _ hr (by omega) (by omega) (by rcases ht with rfl | rfl <;> simp [asksT]) (ask_cases M S t q _ false)
  split
  · rename_i ht
    exact .back _ hr (by rcases ht with rfl | rfl <;> simp [backsT]) (back_cases M S t q)
  split
  · rename_i ht
    split
    · exact .net _ (by simp [codesL]) hr ht
    · exact .net _ (by simp [codesL]) hr ht
  · exact .ref _ (by simp)

theorem pan_size {l : Bs} (h : panB l = true) : l.length ≤ 19 := (shape_iff.1 (pan_shape h)).2.2
theorem new_post {M : MaskF} {S : TenS} (ho : TenantOk M S) {q : List Fld} (hr : RightL q) {now : Nat} (hn : now ≤ 1099511627776) {a : Int} {tok : Bs} (hl : lacksB q [2, 4, 11, 41] = false) (hp : panB (bl (valS 2 q)) = true) (h1 : Lg.askP S.ps (keyOf q) = none) (h2 : Rt.findR S.rs (valS 2 q) = some a) (h3 : S.ps.length < 24) (h4 : (amountOf q : Int) ≤ 5000000000000 - Lg.sumA S.ps) (h5 : tok = (tokenB M S.v (bl (valS 2 q))).1) :
    backB M S.v tok = (bl (valS 2 q), 0) ∧ 1 ≤ a ∧ a ≤ 99 ∧ Lg.addE S.ps ⟨keyOf q, amountOf q, 1, strB (saidB tok a.toNat now)⟩ = 0 := by
  have hb : backB M S.v tok = (bl (valS 2 q), 0) := by rw [h5]; exact (back_token M hp ho.v1 ho.v2 (Nat.le_refl _)).2
  have ha : 1 ≤ a ∧ a ≤ 99 := by
    obtain ⟨n, _, _, h, _⟩ := Rt.findN_some.1 h2
    obtain ⟨r, hr, _, e⟩ := Rt.lookR_mem h
    rw [← e]
    exact ho.rs.tgt r hr
  refine ⟨hb, ha.1, ha.2, ?_⟩
  have hk := key_size hr (lacks_no hl (by decide)) (lacks_no hl (by decide))
  have hm := (amount_ok hr (lacks_no hl (by decide))).2
  have hs := said_len hb (a := a.toNat) (b := now) (by omega) hn
  have hmay : Lg.Post.may ⟨keyOf q, amountOf q, 1, strB (saidB tok a.toNat now)⟩ = true := by
    unfold Lg.Post.may
    simp only [Bool.and_eq_true, decide_eq_true_eq, Bool.or_eq_true, beq_iff_eq, Bool.not_eq_true']
    refine ⟨⟨⟨⟨⟨empty_size (by omega), by omega⟩, by omega⟩, by omega⟩, by rw [strB_size]; omega⟩, .inl trivial⟩
  unfold Lg.addE
  rw [if_neg (by rw [hmay]; simp), ask_pos h1, if_neg (by simp), if_neg (by omega), if_neg (by show ¬ _ < (if (1 : Int) = 1 then (amountOf q : Int) else 0); rw [if_pos rfl]; omega)]
theorem said_mono {M : MaskF} {ps : List Lg.Post} {v v' : Nat} (h : ∀ p ∈ ps, ∃ tok l a b, p.answer = strB (saidB tok a b) ∧ backB M v tok = (l, 0) ∧ 1 ≤ a ∧ a ≤ 99 ∧ b ≤ 1099511627776) (hv : v ≤ v') : ∀ p ∈ ps, ∃ tok l a b, p.answer = strB (saidB tok a b) ∧ backB M v' tok = (l, 0) ∧ 1 ≤ a ∧ a ≤ 99 ∧ b ≤ 1099511627776 := by
  intro p hp
  obtain ⟨tok, l, a, b, h1, h2, h3⟩ := h p hp
  exact ⟨tok, l, a, b, h1, back_later M h2 hv, h3⟩
theorem ok_ask {M : MaskF} {S : TenS} (ho : TenantOk M S) {t : ByteArray} {q : List Fld} (hr : RightL q) {now : Nat} (hn : now ≤ 1099511627776) {r : TenS × Msg} (h : AskR M S t q now r) : TenantOk M r.1 := by
  cases h with
  | no c hc h0 => exact ho
  | again p tok a b => exact ho
  | new us a tok hl hp h1 h2 h3 h4 h5 hu =>
    obtain ⟨hb, ha1, ha2, he⟩ := new_post ho hr hn hl hp h1 h2 h3 h4 h5
    refine ⟨ho.v1, ho.v2, ho.rule, ho.rs, ?_, ?_, ?_, ?_⟩
    · rcases hu with rfl | rfl
      · exact ho.us
      · exact Lm.good_try ho.us _ _ _ _
    · rcases hu with rfl | rfl
      · exact ho.win
      · exact win_try ho.win _ _ _ _
    · show Lg.Good (Lg.addL S.ps _)
      rw [Lg.addL_zero he]
      exact Lg.good_snoc ho.ps he
    · intro p hp'
      have hp2 : p ∈ Lg.addL S.ps ⟨keyOf q, amountOf q, 1, strB (saidB tok a.toNat now)⟩ := hp'
      rw [Lg.addL_zero he] at hp2
      rcases List.mem_append.1 hp2 with hp2 | hp2
      · exact ho.said p hp2
      · rw [List.mem_singleton.1 hp2]
        exact ⟨tok, _, a.toNat, now, rfl, hb, by omega, by omega, hn⟩
theorem good_revL {ps : List Lg.Post} (h : Lg.Good ps) {s : ByteArray} (he : Lg.revE ps s = 0) : Lg.Good (Lg.revL ps s) := by
  obtain ⟨k, hk, _, _, h3, _, h5⟩ := Lg.revE_zero he
  rw [h5]
  exact Lg.good_rev h hk h3
theorem mem_revL {ps : List Lg.Post} {s : ByteArray} (he : Lg.revE ps s = 0) {p : Lg.Post} (hp : p ∈ Lg.revL ps s) : p ∈ ps ∨ ∃ o ∈ ps, p = Lg.revP o := by
  obtain ⟨k, hk, _, _, h3, _, h5⟩ := Lg.revE_zero he
  rw [h5] at hp
  exact Lg.mem_modify hp
theorem ok_back {M : MaskF} {S : TenS} (ho : TenantOk M S) {t : ByteArray} {q : List Fld} {r : TenS × Msg} (h : BackR S t q r) : TenantOk M r.1 := by
  cases h with
  | same c hc h0 => exact ho
  | rev us he hu =>
    refine ⟨ho.v1, ho.v2, ho.rule, ho.rs, ?_, ?_, good_revL ho.ps he, ?_⟩
    · rcases hu with rfl | ⟨c, n, th, rfl⟩
      · exact ho.us
      · exact Lm.good_undo ho.us _ _ _ _
    · rcases hu with rfl | ⟨c, n, th, rfl⟩
      · exact ho.win
      · exact win_undo ho.win _ _ _ _
    · intro p hp
      rcases mem_revL he hp with h | ⟨o, h, rfl⟩
      · exact ho.said p h
      · exact ho.said o h
theorem ok_handle {M : MaskF} {S : TenS} (ho : TenantOk M S) (t : ByteArray) (q : List Fld) (now : Int) : TenantOk M (handleT M S t q now).1 := by
  have h := han_cases M S t q now
  generalize handleT M S t q now = r at h
  cases h with
  | ref c hc => exact ho
  | ask _ hr h0 h1 ht h => exact ok_ask ho (rightM_iff.1 hr).2 (by omega) h
  | back _ hr ht h => exact ok_back ho h
  | net c hc hr ht => exact ho

structure TAct where
  d : Int
  n : Int
  now : Int
  t : ByteArray
  q : List Fld
  r : Lm.Rule
  s : ByteArray
def noM : Msg := (⟨#[]⟩, [])
def onlyT (M : MaskF) (S : TenS) (a : TAct) : TenS × Msg :=
  if a.d = 0 ∨ a.d = 8 then handleT M S a.t a.q a.now
  else if a.d = 1 then (if a.r.right = true then { S with rule := a.r } else S, noM)
  else if a.d = 2 then ({ S with rs := Rt.putR S.rs a.s a.n }, noM)
  else if a.d = 3 then ({ S with rs := Rt.dropR S.rs a.s }, noM)
  else if a.d = 4 then (if S.v < 255 then { S with v := S.v + 1 } else S, noM)
  else if a.d = 6 then ({ S with ps := [] }, noM)
  else (S, noM)
theorem good_none : Lg.Good [] := ⟨fun p hp => (by cases hp), by simp, by simp, by show (0 : Int) ≤ _; decide⟩
theorem ok_only {M : MaskF} {S : TenS} (ho : TenantOk M S) (a : TAct) : TenantOk M (onlyT M S a).1 := by
  unfold onlyT
  split
  · exact ok_handle ho _ _ _
  split
  · dsimp only
    split
    · rename_i h
      exact ⟨ho.v1, ho.v2, h, ho.rs, ho.us, ho.win, ho.ps, ho.said⟩
    · exact ho
  split
  · exact ⟨ho.v1, ho.v2, ho.rule, ho.rs.put _ _, ho.us, ho.win, ho.ps, ho.said⟩
  split
  · exact ⟨ho.v1, ho.v2, ho.rule, ho.rs.drop _, ho.us, ho.win, ho.ps, ho.said⟩
  split
  · dsimp only
    split
    · rename_i h
      exact ⟨by show 1 ≤ S.v + 1; omega, h, ho.rule, ho.rs, ho.us, ho.win, ho.ps, said_mono ho.said (Nat.le_succ _)⟩
    · exact ho
  split
  · exact ⟨ho.v1, ho.v2, ho.rule, ho.rs, ho.us, ho.win, good_none, fun p hp => (by cases hp)⟩
  · exact ho
def newT : TenS := ⟨1, ⟨1, 0, 0, 0⟩, [], [], []⟩
theorem ok_new (M : MaskF) : TenantOk M newT := ⟨by decide, by decide, by decide, Rt.GoodR.nil, Lm.GoodU.nil, (fun u hu => by cases hu), good_none, fun p hp => (by cases hp)⟩
def actsT (M : MaskF) (S : TenS) (l : List TAct) : TenS := l.foldl (fun S a => (onlyT M S a).1) S
theorem ok_acts {M : MaskF} : ∀ (l : List TAct) {S : TenS}, TenantOk M S → TenantOk M (actsT M S l)
  | [], _, h => h
  | a :: l, _, h => ok_acts l (ok_only h a)
end Go.Proofs.YtajhgejhdalobaaGreatDoor
