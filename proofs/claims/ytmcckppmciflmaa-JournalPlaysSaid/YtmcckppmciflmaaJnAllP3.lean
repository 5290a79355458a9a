/-
  JOURNALS (plain): what a boot makes of what a cut left, what an Open makes of that; unarmed disks; which Commits may be.
-/
import Derived.Test.YtmcckppmciflmaaJnAllP2
namespace Go.Proofs.Ytmcckppmciflmaa

section
variable (l : List JW) (was : Nat → Bs)
def TrT (d : DK) : Prop := Pr (A0 (thnF l was)) B0 d ∨ (VL l ∧ (Pr (A2 l was) (B2 l) d ∨ Pr (A3 l was) (B3 l) d))
def Tr (d : DK) : Prop := TrT l was d ∨ Pr (A0 was) B0 d ∨ (VL l ∧ Pr (A1 l was) (B1 l) d)
def BtT (d : DK) : Prop := Cl (A0 (thnF l was)) d ∨ (VL l ∧ Cl (A2 l was) d)
def Bt (d : DK) : Prop := BtT l was d ∨ Cl (A0 was) d
end
variable {l : List JW} {was : Nat → Bs} {d : DK}
theorem Cl.mono {A A' : Nat → Bs → Prop} (h : Cl A d) (ha : ∀ n b, d.safe[n]? = some b → A n b → A' n b) : Cl A' d :=
  ⟨⟨h.1.good, h.1.size, h.1.len, fun n b hn => ha n b hn (h.1.safe n b hn), h.1.dirt⟩, h.2.1, h.2.2⟩
theorem Cl.tr {A B : Nat → Bs → Prop} (h : Cl A d) : Pr A B d := h.1.clean h.2.2
theorem Cl.armed {A : Nat → Bs → Prop} (h : Cl A d) {a p : Int} (ha : a ≤ 9223372036854775807) (hp0 : -9223372036854775808 ≤ p) (hp1 : p ≤ 9223372036854775807) : Cl A (d.armed a p) := ⟨h.1.armed ha hp0 hp1, h.2.1, h.2.2⟩
theorem two_heads {A : Nat → Bs → Prop} (h : Cl A d) (h2 : ∀ b, A 0 b → b = headB 0 l 64 ∨ b = headB 1 l 64) : d.safe[0]? = some (headB 0 l 64) ∨ d.safe[0]? = some (headB 1 l 64) := by
  have e := safe_at h.1 (n := 0) (by omega)
  rcases h2 _ (h.1.safe 0 _ e) with h | h
  · left; rw [e, h]
  · right; rw [e, h]
theorem boot_TrT (h : TrT l was d) (keep : List Int) : BtT l was (d.boot keep) ∧ (d.boot keep).arm = none := by
  refine ⟨?_, rfl⟩
  rcases h with h | ⟨hv, h | h⟩
  · obtain ⟨a, b, c, _⟩ := h.boot mix0 keep
    exact .inl ⟨a, b, c⟩
  · obtain ⟨a, b, c, _⟩ := h.boot (mix2 hv) keep
    exact .inr ⟨hv, a, b, c⟩
  · obtain ⟨a, b, c, _⟩ := h.boot mix3 keep
    have hc : Cl (A3 l was) (d.boot keep) := ⟨a, b, c⟩
    rcases two_heads hc (fun b hb => hb.1 rfl) with e | e
    · exact .inl (hc.mono (fun n b hn ha => ⟨fun h0 => by subst h0; rw [e] at hn; cases hn; rfl, ha.2.2⟩))
    · exact .inr ⟨hv, hc.mono (fun n b hn ha => ⟨fun h0 => by subst h0; rw [e] at hn; cases hn; rfl, ha.2.1, fun j hj hm => by rw [ha.2.2 j hj]; exact lastW_not hm _⟩)⟩
theorem boot_Tr (h : Tr l was d) (keep : List Int) : Bt l was (d.boot keep) ∧ (d.boot keep).arm = none := by
  refine ⟨?_, rfl⟩
  rcases h with h | h | ⟨hv, h⟩
  · exact .inl (boot_TrT h keep).1
  · obtain ⟨a, b, c, _⟩ := h.boot mix0 keep
    exact .inr ⟨a, b, c⟩
  · obtain ⟨a, b, c, _⟩ := h.boot mix1 keep
    have hc : Cl (A1 l was) (d.boot keep) := ⟨a, b, c⟩
    rcases two_heads hc (fun b hb => hb.1 rfl) with e | e
    · exact .inr (hc.mono (fun n b hn ha => ⟨fun h0 => by subst h0; rw [e] at hn; cases hn; rfl, ha.2.2⟩))
    · exact .inl (.inr ⟨hv, hc.mono (fun n b hn ha => ⟨fun h0 => by subst h0; rw [e] at hn; cases hn; rfl, ha.2.1, fun j hj _ => ha.2.2 j hj⟩)⟩)
theorem Bt.armed (h : Bt l was d) {a p : Int} (ha : a ≤ 9223372036854775807) (hp0 : -9223372036854775808 ≤ p) (hp1 : p ≤ 9223372036854775807) : Bt l was (d.armed a p) := by
  rcases h with (h | ⟨hv, h⟩) | h
  · exact .inl (.inl (h.armed ha hp0 hp1))
  · exact .inl (.inr ⟨hv, h.armed ha hp0 hp1⟩)
  · exact .inr (h.armed ha hp0 hp1)
theorem BtT.armed (h : BtT l was d) {a p : Int} (ha : a ≤ 9223372036854775807) (hp0 : -9223372036854775808 ≤ p) (hp1 : p ≤ 9223372036854775807) : BtT l was (d.armed a p) := by
  rcases h with h | ⟨hv, h⟩
  · exact .inl (h.armed ha hp0 hp1)
  · exact .inr ⟨hv, h.armed ha hp0 hp1⟩

theorem readB_clean {A : Nat → Bs → Prop} (h : Cl A d) {n : Nat} (hn : n < 14) : d.readB n = d.safe.getD n [] := by
  have : d.isS (n : Int) = true := isS_of h.1.len (by omega) (by omega)
  unfold DK.readB
  rw [h.2.1, this, h.2.2]
  rfl
theorem readE_clean {A : Nat → Bs → Prop} (h : Cl A d) {n : Nat} (hn : n < 14) : d.readE n = 0 := by
  have : d.isS (n : Int) = true := isS_of h.1.len (by omega) (by omega)
  unfold DK.readE
  rw [h.2.1, this]
  rfl
theorem isJ_14 (h : d.safe.length = 14) (n : Int) : isJ d n = (decide (0 ≤ n) && decide (n < 5)) := by unfold isJ secs; rw [h]; rfl
theorem open_Cl0 {X : Nat → Bs} (h : Cl (A0 X) d) : openR d = (d, 0) := by
  have e : d.readB 0 = d.safe.getD 0 [] := readB_clean h (n := 0) (by omega)
  have h0 := (h.1.safe 0 _ (safe_at h.1 (n := 0) (by omega))).1 rfl
  unfold openR
  rw [if_neg (by rw [h.1.len]; omega), h.2.1, e]
  simp only [Bool.false_eq_true, if_false]
  rw [if_pos h0]
theorem headN_get {l : List JW} {i : Nat} (hi : i < l.length) : (headN l).getD (2 * i) 0 = UInt8.ofNat (l[i].1.toNat / 256) ∧ (headN l).getD (2 * i + 1) 0 = UInt8.ofNat l[i].1.toNat := by
  induction l generalizing i with
  | nil => simp at hi
  | cons w l ih =>
    have e : headN (w :: l) = UInt8.ofNat (w.1.toNat / 256) :: UInt8.ofNat w.1.toNat :: headN l := rfl
    rw [e]
    cases i with
    | zero => exact ⟨rfl, rfl⟩
    | succ i =>
      have := ih (i := i) (by simpa using hi)
      rw [show 2 * (i + 1) = 2 * i + 2 by omega]
      exact this
theorem headB_note {f : UInt8} {l : List JW} {i : Nat} (hi : i < l.length) (j : Nat) (hj : j < 2) : (headB f l 64).getD (2 + 2 * i + j) 0 = (headN l).getD (2 * i + j) 0 := by
  unfold headB
  simp only [List.getD]
  rw [List.getElem?_append_left (by simp [headN_len]; omega), List.getElem?_append_left (by simp [headN_len]; omega), List.getElem?_append_left (by simp [headN_len]; omega),
    List.getElem?_append_right (by simp; omega)]
  simp only [List.length_cons, List.length_nil]
  rw [show 2 + 2 * i + j - (0 + 1 + 1) = 2 * i + j by omega]
theorem headB_sum {f : UInt8} {l : List JW} (hl : l.length ≤ 8) : ((headB f l 64).drop 18).take 4 = sumB l := by
  unfold headB
  rw [List.append_assoc, List.drop_append_of_le_length (by simp [headN_len]; omega), List.drop_of_length_le (by simp [headN_len]; omega), List.nil_append, List.take_append_of_le_length (by rw [sumB_len]; omega), List.take_of_length_le (by rw [sumB_len]; omega)]
theorem open_Cl2 (hv : VL l) (h1 : 1 ≤ l.length) (h : Cl (A2 l was) d) : openR d = jrun (d, 0) (partsB l) := by
  have hl8 := hv.len
  have e : d.readB 0 = headB 1 l 64 := (readB_clean h (n := 0) (by omega)).trans ((h.1.safe 0 _ (safe_at h.1 (n := 0) (by omega))).1 rfl)
  have hn : ((headB 1 l 64).getD 1 0).toNat = l.length := by
    show (UInt8.ofNat l.length).toNat = _
    rw [UInt8.toNat_ofNat']
    omega
  have ht : toldL d (headB 1 l 64) l.length = l := by
    unfold toldL
    apply List.ext_getElem
    · simp
    · intro i h1 h2
      simp only [List.getElem_map, List.getElem_range]
      have hv' := hv.all l[i] (List.getElem_mem h2)
      obtain ⟨g1, g2⟩ := headN_get h2
      have a1 := headB_note (f := 1) h2 0 (by omega)
      have a2 := headB_note (f := 1) h2 1 (by omega)
      rw [show 2 + 2 * i + 0 = 2 + 2 * i by omega, show 2 * i + 0 = 2 * i by omega] at a1
      rw [show 2 + 2 * i + 1 = 3 + 2 * i by omega] at a2
      rw [a1, a2, g1, g2, UInt8.toNat_ofNat', UInt8.toNat_ofNat', readB_clean h (by omega)]
      have hb := (h.1.safe (1 + i) _ (safe_at h.1 (by omega))).2.1 i l[i] (List.getElem?_eq_getElem h2) rfl
      rw [hb]
      apply Prod.ext
      · show ((_ : Nat) : Int) = l[i].1
        omega
      · rfl
  have hb : toldB d (headB 1 l 64) = true := by
    unfold toldB
    simp only [hn, ht]
    have a1 : (headB 1 l 64).getD 0 0 = 1 := rfl
    rw [a1, headB_sum hl8]
    simp only [decide_true, Bool.true_and, Bool.and_true, Bool.and_eq_true, decide_eq_true_eq, List.all_eq_true]
    refine ⟨⟨h1, hl8⟩, fun w hw => ?_⟩
    have := hv.all w hw
    rw [isJ_14 h.1.len]
    simp [this.1, this.2.1]
  have hf : (headB 1 l 64).getD 0 0 = 1 := rfl
  unfold openR
  rw [if_neg (by rw [h.1.len]; omega), h.2.1, e]
  simp only [Bool.false_eq_true, if_false]
  rw [hf, if_neg (by decide), hb]
  simp only [Bool.true_eq_false, if_false]
  unfold openA partsB
  rw [hn, ht, homeA_eq]
  rfl
theorem open_BtT (h : BtT l was d) (h1 : VL l → Cl (A2 l was) d → 1 ≤ l.length) : ((openR d).2 = 0 ∧ Cl (A0 (thnF l was)) (openR d).1) ∨ ((openR d).2 = 30 ∧ TrT l was (openR d).1) := by
  rcases h with h | ⟨hv, h⟩
  · rw [open_Cl0 h]; exact .inl ⟨rfl, h⟩
  · rw [open_Cl2 hv (h1 hv h) h]
    rcases run_home hv h with r | ⟨r, r'⟩
    · exact .inl r
    · exact .inr ⟨r, .inr ⟨hv, r'⟩⟩
theorem open_Bt (h : Bt l was d) (h1 : VL l → Cl (A2 l was) d → 1 ≤ l.length) : ((openR d).2 = 0 ∧ (Cl (A0 (thnF l was)) (openR d).1 ∨ Cl (A0 was) (openR d).1)) ∨ ((openR d).2 = 30 ∧ TrT l was (openR d).1) := by
  rcases h with h | h
  · rcases open_BtT h h1 with ⟨a, b⟩ | h
    · exact .inl ⟨a, .inl b⟩
    · exact .inr h
  · rw [open_Cl0 h]; exact .inl ⟨rfl, .inr h⟩

/-- an unarmed disk does all -/
theorem jrun_unarmed : ∀ (l : List JA) (d : DK), d.off = false → d.arm = none → (∀ n b, some (n, b) ∈ l → d.isS n = true ∧ b.length = d.size) → (jrun (d, 0) l).2 = 0 ∧ (jrun (d, 0) l).1.off = false ∧ (jrun (d, 0) l).1.arm = none ∧ (jrun (d, 0) l).1.safe.length = d.safe.length ∧ (jrun (d, 0) l).1.size = d.size
  | [], d, h0, ha, _ => ⟨rfl, h0, ha, rfl, rfl⟩
  | a :: l, d, h0, ha, hw => by
    have hg : d.gone = false := by unfold DK.gone; rw [ha]
    have hc : d.cut = d := by unfold DK.cut; rw [ha]
    rw [jrun_cons]
    cases a with
    | none =>
      have e : jstep (d, 0) none = ({ d with safe := landL d.safe ((d.dirty.take d.flushN).map (fun p => (p.1, p.2, d.size))), dirty := d.dirty.drop d.flushN }, 0) := by
        unfold jstep
        rw [if_pos rfl]
        show (d.flush, d.flushE) = _
        unfold DK.flush DK.flushE
        rw [if_neg (by rw [h0]; simp), if_neg (by rw [h0]; simp), hg, hc]
        rfl
      rw [e]
      obtain ⟨r1, r2, r3, r4, r5⟩ := jrun_unarmed l { d with safe := landL d.safe ((d.dirty.take d.flushN).map (fun p => (p.1, p.2, d.size))), dirty := d.dirty.drop d.flushN } h0 ha (fun n b hn => by
        obtain ⟨x, y⟩ := hw n b (by simp [hn])
        refine ⟨?_, y⟩
        show (decide (0 ≤ n) && decide (n < (((landL _ _).length : Nat) : Int))) = true
        rw [landL_len]
        exact x)
      exact ⟨r1, r2, r3, r4.trans (landL_len _ _), r5⟩
    | some w =>
      obtain ⟨m, c⟩ := w
      obtain ⟨h1, h2⟩ := hw m c (by simp)
      have e : jstep (d, 0) (some (m, c)) = ({ d with dirty := putD d.dirty m.toNat c }, 0) := by
        unfold jstep
        rw [if_pos rfl]
        show (d.write m c, d.writeE m c.length) = _
        rw [write_ok h0 h1 h2 hg, writeE_ok h0 h1 h2, hg, hc]
        rfl
      rw [e]
      exact jrun_unarmed l _ h0 ha (fun n b hn => hw n b (by simp [hn]))

theorem mayL_ok : ∀ (l pre : List JW), mayL d pre l = 0 → ∀ w ∈ l, w.2.length = d.size ∧ isJ d w.1 = true
  | [], _, _, w, hw => by cases hw
  | v :: l, pre, h, w, hw => by
    unfold mayL at h
    split at h
    · cases h
    · split at h
      · cases h
      · split at h
        · cases h
        · rename_i a b c
          rcases List.mem_cons.1 hw with rfl | hw
          · exact ⟨by omega, by simpa using b⟩
          · exact mayL_ok l _ h w hw
theorem mayL_err : ∀ (l pre : List JW), mayL d pre l = 0 ∨ mayL d pre l = 1 ∨ mayL d pre l = 31
  | [], _ => .inl rfl
  | v :: l, pre => by
    unfold mayL
    split
    · exact .inr (.inl rfl)
    · split
      · exact .inr (.inr rfl)
      · split
        · exact .inr (.inl rfl)
        · exact mayL_err l _
theorem mayE_err (d : DK) (l : List JW) : mayE d l = 0 ∨ mayE d l = 1 ∨ mayE d l = 31 := by
  unfold mayE
  split
  · exact .inr (.inl rfl)
  · exact mayL_err l []
theorem mayE_ok (h : mayE d l = 0) : l.length ≤ 8 ∧ ∀ w ∈ l, w.2.length = d.size ∧ isJ d w.1 = true := by
  unfold mayE at h
  split at h
  · cases h
  · exact ⟨by omega, mayL_ok l [] h⟩
theorem VL.of_may (hs : d.size = 64) (hn : d.safe.length = 14) (h : mayE d l = 0) : VL l := by
  obtain ⟨h1, h2⟩ := mayE_ok h
  refine ⟨h1, fun w hw => ?_⟩
  obtain ⟨a, b⟩ := h2 w hw
  rw [isJ_14 hn] at b
  simp at b
  exact ⟨b.1, b.2, by omega⟩
theorem thnF_nil : thnF [] was = was := rfl
/-- behind a Commit -/
theorem commit_after (h : Cl (A0 was) d) : ((commitR d 0 l).2.2 ≠ 0 ∧ (commitR d 0 l).2.2 ≠ 30 ∧ (commitR d 0 l).1 = d ∧ (commitR d 0 l).2.1 = 0 ∧ mayE d l ≠ 0) ∨ (mayE d l = 0 ∧ (commitR d 0 l).2.2 = 0 ∧ (commitR d 0 l).2.1 = 0 ∧ Cl (A0 (thnF l was)) (commitR d 0 l).1) ∨
    ((commitR d 0 l).2.2 = 30 ∧ 1 ≤ l.length ∧ Tr l was (commitR d 0 l).1) := by
  unfold commitR
  rw [if_neg (by simp)]
  by_cases hm : mayE d l = 0
  · rw [if_neg (by simpa using hm)]
    by_cases hl : l = []
    · rw [if_pos hl]
      subst hl
      exact .inr (.inl ⟨hm, rfl, rfl, h⟩)
    · have hl1 : 1 ≤ l.length := by cases l <;> simp_all
      rw [if_neg hl, h.1.size]
      have hv := VL.of_may h.1.size h.1.len hm
      rcases run_commit hv h with ⟨a, b⟩ | ⟨a, b⟩
      · exact .inr (.inl ⟨hm, a, a, b⟩)
      · refine .inr (.inr ⟨a, hl1, ?_⟩)
        rcases b with b | b | b | b
        · exact .inr (.inl b)
        · exact .inr (.inr ⟨hv, b⟩)
        · exact .inl (.inr ⟨hv, .inl b⟩)
        · exact .inl (.inr ⟨hv, .inr b⟩)
  · rw [if_pos hm]
    have := mayE_err d l
    exact .inl ⟨hm, by show mayE d l ≠ 30; omega, rfl, rfl, hm⟩
theorem acts_ok (hn : 10 ≤ d.safe.length) (hs : 22 ≤ d.size) (h : mayE d l = 0) : ∀ n b, some (n, b) ∈ commitA l d.size → d.isS n = true ∧ b.length = d.size := by
  obtain ⟨h1, h2⟩ := mayE_ok h
  intro n b hb
  rw [commit_parts] at hb
  simp only [List.mem_append, List.mem_map, Option.some.injEq, exists_eq_right, List.mem_cons, List.not_mem_nil, or_false, reduceCtorEq] at hb
  have hh : ∀ f, (headB f l d.size).length = d.size := fun f => headB_len f h1 hs
  rcases hb with (hb | hb) | hb | hb | hb
  · obtain ⟨i, v, hi, e1, e2⟩ := noteW_mem hb
    have hlt := (List.getElem?_eq_some_iff.1 hi).1
    exact ⟨DK.isS_iff.2 ⟨by simp only at e1; omega, by simp only at e1; omega⟩, by simp only at e2; rw [e2]; exact (h2 v (List.mem_of_getElem? hi)).1⟩
  · cases hb; exact ⟨DK.isS_iff.2 ⟨by omega, by omega⟩, hh 0⟩
  · cases hb; exact ⟨DK.isS_iff.2 ⟨by omega, by omega⟩, hh 1⟩
  · obtain ⟨v, hv, e⟩ := List.mem_map.1 hb
    cases e
    obtain ⟨a, b'⟩ := h2 v hv
    have b1 : 0 ≤ v.1 ∧ v.1 < (d.safe.length : Int) - 9 := by
      unfold isJ at b'
      rw [Bool.and_eq_true] at b'
      exact ⟨of_decide_eq_true b'.1, of_decide_eq_true b'.2⟩
    have b2 : 0 ≤ 9 + v.1 ∧ 9 + v.1 < (d.safe.length : Int) := by omega
    exact ⟨DK.isS_iff.2 b2, a⟩
  · cases hb; exact ⟨DK.isS_iff.2 ⟨by omega, by omega⟩, hh 0⟩
theorem commit_unarmed (h0 : d.off = false) (ha : d.arm = none) (hn : 10 ≤ d.safe.length) (hs : 22 ≤ d.size) (l : List JW) : (commitR d 0 l).2.1 = 0 ∧ (commitR d 0 l).2.2 = mayE d l ∧ (commitR d 0 l).1.off = false ∧ (commitR d 0 l).1.arm = none ∧ (commitR d 0 l).1.safe.length = d.safe.length ∧ (commitR d 0 l).1.size = d.size := by
  unfold commitR
  rw [if_neg (by simp)]
  by_cases hm : mayE d l = 0
  · rw [if_neg (by simpa using hm)]
    by_cases hl : l = []
    · rw [if_pos hl]
      exact ⟨rfl, hm.symm, h0, ha, rfl, rfl⟩
    · rw [if_neg hl]
      obtain ⟨r1, r2, r3, r4, r5⟩ := jrun_unarmed (commitA l d.size) d h0 ha (acts_ok hn hs hm)
      exact ⟨r1, r1.trans hm.symm, r2, r3, r4, r5⟩
  · rw [if_pos hm]
    exact ⟨rfl, rfl, h0, ha, rfl, rfl⟩
end Go.Proofs.Ytmcckppmciflmaa
