/-
  A STORE (plain): what each tenant has saved; Loads, Saves, what is safe.
-/
import Derived.Test.YthabllnhlhkejaaGreatDoorSoG
import Derived.Test.YthabllnhlhkejaaGreatDoorJgB
namespace Go.Proofs.YthabllnhlhkejaaGreatDoor

variable [Dim]

section
variable (l : List JW) (was : Nat → Bs)
def TrT (d : DK) : Prop := Pr (A0 (thnF l was)) B0 d ∨ (VL l ∧ (Pr (A2 l was) (B2 l) d ∨ Pr (A3 l was) (B3 l) d))
def Tr (d : DK) : Prop := TrT l was d ∨ Pr (A0 was) B0 d ∨ (VL l ∧ Pr (A1 l was) (B1 l) d)
def BtT (d : DK) : Prop := Cl (A0 (thnF l was)) d ∨ (VL l ∧ Cl (A2 l was) d)
def Bt (d : DK) : Prop := BtT l was d ∨ Cl (A0 was) d
end
variable {l : List JW} {was : Nat → Bs} {d : DK}
theorem Cl.mono {A A' : Nat → Bs → Prop} (h : Cl A d) (ha : ∀ n b, d.safe[n]? = some b → A n b → A' n b) : Cl A' d :=
  ⟨⟨h.1.good, h.1.size, h.1.len, fun n b hn => ha n b hn (h.1.safe n b hn), h.1.dirt⟩, h.2.1, h.2.2⟩
theorem Cl.tr {A B : Nat → Bs → Prop} (h : Cl A d) : Pr A B d := h.1.clean h.2.2
theorem Cl.armed {A : Nat → Bs → Prop} (h : Cl A d) {a p : Int} (ha : a ≤ 9223372036854775807) (hp0 : -9223372036854775808 ≤ p) (hp1 : p ≤ 9223372036854775807) : Cl A (d.armed a p) := ⟨h.1.armed ha hp0 hp1, h.2.1, h.2.2⟩
theorem two_heads {A : Nat → Bs → Prop} (h : Cl A d) (h2 : ∀ b, A 0 b → b = headB 0 l Dim.Z ∨ b = headB 1 l Dim.Z) : d.safe[0]? = some (headB 0 l Dim.Z) ∨ d.safe[0]? = some (headB 1 l Dim.Z) := by
  have e := safe_at h.1 (n := 0) (by have := Dim.n9; omega)
  rcases h2 _ (h.1.safe 0 _ e) with h | h
  · left; rw [e, h]
  · right; rw [e, h]
theorem boot_TrT (h : TrT l was d) (keep : List Int) : BtT l was (d.boot keep) ∧ (d.boot keep).arm = none := by
  refine ⟨?_, rfl⟩
  rcases h with h | ⟨hv, h | h⟩
  · obtain ⟨a, b, c, _⟩ := h.boot mix0 keep
    exact .inl ⟨a, b, c⟩
  · obtain ⟨a, b, c, _⟩ := h.boot (mix2 hv) keep
    exact .inr ⟨hv, a, b, c⟩
  · obtain ⟨a, b, c, _⟩ := h.boot mix3 keep
    have hc : Cl (A3 l was) (d.boot keep) := ⟨a, b, c⟩
    rcases two_heads hc (fun b hb => hb.1 rfl) with e | e
    · exact .inl (hc.mono (fun n b hn ha => ⟨fun h0 => by subst h0; rw [e] at hn; cases hn; rfl, ha.2.2⟩))
    · exact .inr ⟨hv, hc.mono (fun n b hn ha => ⟨fun h0 => by subst h0; rw [e] at hn; cases hn; rfl, ha.2.1, fun j hj hm => by rw [ha.2.2 j hj]; exact lastW_not hm _⟩)⟩
theorem boot_Tr (h : Tr l was d) (keep : List Int) : Bt l was (d.boot keep) ∧ (d.boot keep).arm = none := by
  refine ⟨?_, rfl⟩
  rcases h with h | h | ⟨hv, h⟩
  · exact .inl (boot_TrT h keep).1
  · obtain ⟨a, b, c, _⟩ := h.boot mix0 keep
    exact .inr ⟨a, b, c⟩
  · obtain ⟨a, b, c, _⟩ := h.boot mix1 keep
    have hc : Cl (A1 l was) (d.boot keep) := ⟨a, b, c⟩
    rcases two_heads hc (fun b hb => hb.1 rfl) with e | e
    · exact .inr (hc.mono (fun n b hn ha => ⟨fun h0 => by subst h0; rw [e] at hn; cases hn; rfl, ha.2.2⟩))
    · exact .inl (.inr ⟨hv, hc.mono (fun n b hn ha => ⟨fun h0 => by subst h0; rw [e] at hn; cases hn; rfl, ha.2.1, fun j hj _ => ha.2.2 j hj⟩)⟩)
theorem Bt.armed (h : Bt l was d) {a p : Int} (ha : a ≤ 9223372036854775807) (hp0 : -9223372036854775808 ≤ p) (hp1 : p ≤ 9223372036854775807) : Bt l was (d.armed a p) := by
  rcases h with (h | ⟨hv, h⟩) | h
  · exact .inl (.inl (h.armed ha hp0 hp1))
  · exact .inl (.inr ⟨hv, h.armed ha hp0 hp1⟩)
  · exact .inr (h.armed ha hp0 hp1)
theorem BtT.armed (h : BtT l was d) {a p : Int} (ha : a ≤ 9223372036854775807) (hp0 : -9223372036854775808 ≤ p) (hp1 : p ≤ 9223372036854775807) : BtT l was (d.armed a p) := by
  rcases h with h | ⟨hv, h⟩
  · exact .inl (h.armed ha hp0 hp1)
  · exact .inr ⟨hv, h.armed ha hp0 hp1⟩

theorem readB_clean {A : Nat → Bs → Prop} (h : Cl A d) {n : Nat} (hn : n < Dim.N) : d.readB n = d.safe.getD n [] := by
  have : d.isS (n : Int) = true := isS_of h.1.len (by omega) (by omega)
  unfold DK.readB
  rw [h.2.1, this, h.2.2]
  rfl
theorem readE_clean {A : Nat → Bs → Prop} (h : Cl A d) {n : Nat} (hn : n < Dim.N) : d.readE n = 0 := by
  have : d.isS (n : Int) = true := isS_of h.1.len (by omega) (by omega)
  unfold DK.readE
  rw [h.2.1, this]
  rfl
theorem isJ_14 (h : d.safe.length = Dim.N) (n : Int) : isJ d n = (decide (0 ≤ n) && decide (n + 9 < (Dim.N : Int))) := by
  unfold isJ secs
  rw [h]
  congr 1
  exact decide_eq_decide.2 (by omega)
theorem open_Cl0 {X : Nat → Bs} (h : Cl (A0 X) d) : openR d = (d, 0) := by
  have e : d.readB 0 = d.safe.getD 0 [] := readB_clean h (n := 0) (by have := Dim.n9; omega)
  have h0 := (h.1.safe 0 _ (safe_at h.1 (n := 0) (by have := Dim.n9; omega))).1 rfl
  unfold openR
  rw [if_neg (by have := Dim.n9; rw [h.1.len]; omega), h.2.1, e]
  simp only [Bool.false_eq_true, if_false]
  rw [if_pos h0]
theorem headN_get {l : List JW} {i : Nat} (hi : i < l.length) : (headN l).getD (2 * i) 0 = UInt8.ofNat (l[i].1.toNat / 256) ∧ (headN l).getD (2 * i + 1) 0 = UInt8.ofNat l[i].1.toNat := by
  have _z := Dim.n9
  induction l generalizing i with
  | nil => simp at hi
  | cons w l ih =>
    have e : headN (w :: l) = UInt8.ofNat (w.1.toNat / 256) :: UInt8.ofNat w.1.toNat :: headN l := rfl
    rw [e]
    cases i with
    | zero => exact ⟨rfl, rfl⟩
    | succ i =>
      have := ih (i := i) (by simpa using hi)
      rw [show 2 * (i + 1) = 2 * i + 2 by omega]
      exact this
theorem headB_note {f : UInt8} {l : List JW} {i : Nat} (hi : i < l.length) (j : Nat) (hj : j < 2) : (headB f l Dim.Z).getD (2 + 2 * i + j) 0 = (headN l).getD (2 * i + j) 0 := by
  unfold headB
  simp only [List.getD]
  rw [List.getElem?_append_left (by simp [headN_len]; omega), List.getElem?_append_left (by simp [headN_len]; omega), List.getElem?_append_left (by simp [headN_len]; omega),
    List.getElem?_append_right (by simp; omega)]
  simp only [List.length_cons, List.length_nil]
  rw [show 2 + 2 * i + j - (0 + 1 + 1) = 2 * i + j by omega]
theorem headB_sum {f : UInt8} {l : List JW} (hl : l.length ≤ 8) : ((headB f l Dim.Z).drop 18).take 4 = sumB l := by
  unfold headB
  rw [List.append_assoc, List.drop_append_of_le_length (by simp [headN_len]; omega), List.drop_of_length_le (by simp [headN_len]; omega), List.nil_append, List.take_append_of_le_length (by rw [sumB_len]; omega), List.take_of_length_le (by rw [sumB_len]; omega)]
theorem open_Cl2 (hv : VL l) (h1 : 1 ≤ l.length) (h : Cl (A2 l was) d) : openR d = jrun (d, 0) (partsB l) := by
  have hl8 := hv.len
  have e : d.readB 0 = headB 1 l Dim.Z := (readB_clean h (n := 0) (by have := Dim.n9; omega)).trans ((h.1.safe 0 _ (safe_at h.1 (n := 0) (by have := Dim.n9; omega))).1 rfl)
  have hn : ((headB 1 l Dim.Z).getD 1 0).toNat = l.length := by
    show (UInt8.ofNat l.length).toNat = _
    rw [UInt8.toNat_ofNat']
    omega
  have ht : toldL d (headB 1 l Dim.Z) l.length = l := by
    unfold toldL
    apply List.ext_getElem
    · simp
    · intro i h1 h2
      simp only [List.getElem_map, List.getElem_range]
      have hv' := hv.all l[i] (List.getElem_mem h2)
      obtain ⟨g1, g2⟩ := headN_get h2
      have a1 := headB_note (f := 1) h2 0 (by omega)
      have a2 := headB_note (f := 1) h2 1 (by omega)
      rw [show 2 + 2 * i + 0 = 2 + 2 * i by omega, show 2 * i + 0 = 2 * i by omega] at a1
      rw [show 2 + 2 * i + 1 = 3 + 2 * i by omega] at a2
      rw [a1, a2, g1, g2, UInt8.toNat_ofNat', UInt8.toNat_ofNat', readB_clean h (by have := Dim.n9; omega)]
      have hb := (h.1.safe (1 + i) _ (safe_at h.1 (by have := Dim.n9; omega))).2.1 i l[i] (List.getElem?_eq_getElem h2) rfl
      rw [hb]
      apply Prod.ext
      · show ((_ : Nat) : Int) = l[i].1
        have := Dim.n4
        omega
      · rfl
  have hb : toldB d (headB 1 l Dim.Z) = true := by
    unfold toldB
    simp only [hn, ht]
    have a1 : (headB 1 l Dim.Z).getD 0 0 = 1 := rfl
    rw [a1, headB_sum hl8]
    simp only [decide_true, Bool.true_and, Bool.and_true, Bool.and_eq_true, decide_eq_true_eq, List.all_eq_true]
    refine ⟨⟨h1, hl8⟩, fun w hw => ?_⟩
    have := hv.all w hw
    rw [isJ_14 h.1.len]
    simp [this.1, this.2.1]
  have hf : (headB 1 l Dim.Z).getD 0 0 = 1 := rfl
  unfold openR
  rw [if_neg (by have := Dim.n9; rw [h.1.len]; omega), h.2.1, e]
  simp only [Bool.false_eq_true, if_false]
  rw [hf, if_neg (by decide), hb]
  simp only [Bool.true_eq_false, if_false]
  unfold openA partsB
  rw [hn, ht, homeA_eq]
  rfl
theorem open_BtT (h : BtT l was d) (h1 : VL l → Cl (A2 l was) d → 1 ≤ l.length) : ((openR d).2 = 0 ∧ Cl (A0 (thnF l was)) (openR d).1) ∨ ((openR d).2 = 30 ∧ TrT l was (openR d).1) := by
  rcases h with h | ⟨hv, h⟩
  · rw [open_Cl0 h]; exact .inl ⟨rfl, h⟩
  · rw [open_Cl2 hv (h1 hv h) h]
    rcases run_home hv h with r | ⟨r, r'⟩
    · exact .inl r
    · exact .inr ⟨r, .inr ⟨hv, r'⟩⟩
theorem open_Bt (h : Bt l was d) (h1 : VL l → Cl (A2 l was) d → 1 ≤ l.length) : ((openR d).2 = 0 ∧ (Cl (A0 (thnF l was)) (openR d).1 ∨ Cl (A0 was) (openR d).1)) ∨ ((openR d).2 = 30 ∧ TrT l was (openR d).1) := by
  rcases h with h | h
  · rcases open_BtT h h1 with ⟨a, b⟩ | h
    · exact .inl ⟨a, .inl b⟩
    · exact .inr h
  · rw [open_Cl0 h]; exact .inl ⟨rfl, .inr h⟩

/-- an unarmed disk does all -/
theorem jrun_unarmed : ∀ (l : List JA) (d : DK), d.off = false → d.arm = none → (∀ n b, some (n, b) ∈ l → d.isS n = true ∧ b.length = d.size) → (jrun (d, 0) l).2 = 0 ∧ (jrun (d, 0) l).1.off = false ∧ (jrun (d, 0) l).1.arm = none ∧ (jrun (d, 0) l).1.safe.length = d.safe.length ∧ (jrun (d, 0) l).1.size = d.size
  | [], d, h0, ha, _ => ⟨rfl, h0, ha, rfl, rfl⟩
  | a :: l, d, h0, ha, hw => by
    have hg : d.gone = false := by unfold DK.gone; rw [ha]
    have hc : d.cut = d := by unfold DK.cut; rw [ha]
    rw [jrun_cons]
    cases a with
    | none =>
      have e : jstep (d, 0) none = ({ d with safe := landL d.safe ((d.dirty.take d.flushN).map (fun p => (p.1, p.2, d.size))), dirty := d.dirty.drop d.flushN }, 0) := by
        unfold jstep
        rw [if_pos rfl]
        show (d.flush, d.flushE) = _
        unfold DK.flush DK.flushE
        rw [if_neg (by rw [h0]; simp), if_neg (by rw [h0]; simp), hg, hc]
        rfl
      rw [e]
      obtain ⟨r1, r2, r3, r4, r5⟩ := jrun_unarmed l { d with safe := landL d.safe ((d.dirty.take d.flushN).map (fun p => (p.1, p.2, d.size))), dirty := d.dirty.drop d.flushN } h0 ha (fun n b hn => by
        obtain ⟨x, y⟩ := hw n b (by simp [hn])
        refine ⟨?_, y⟩
        show (decide (0 ≤ n) && decide (n < (((landL _ _).length : Nat) : Int))) = true
        rw [landL_len]
        exact x)
      exact ⟨r1, r2, r3, r4.trans (landL_len _ _), r5⟩
    | some w =>
      obtain ⟨m, c⟩ := w
      obtain ⟨h1, h2⟩ := hw m c (by simp)
      have e : jstep (d, 0) (some (m, c)) = ({ d with dirty := putD d.dirty m.toNat c }, 0) := by
        unfold jstep
        rw [if_pos rfl]
        show (d.write m c, d.writeE m c.length) = _
        rw [write_ok h0 h1 h2 hg, writeE_ok h0 h1 h2, hg, hc]
        rfl
      rw [e]
      exact jrun_unarmed l _ h0 ha (fun n b hn => hw n b (by simp [hn]))

theorem mayL_ok : ∀ (l pre : List JW), mayL d pre l = 0 → ∀ w ∈ l, w.2.length = d.size ∧ isJ d w.1 = true
  | [], _, _, w, hw => by cases hw
  | v :: l, pre, h, w, hw => by
    have _z := Dim.n9
    unfold mayL at h
    split at h
    · cases h
    · split at h
      · cases h
      · split at h
        · cases h
        · rename_i a b c
          rcases List.mem_cons.1 hw with rfl | hw
          · exact ⟨by omega, by simpa using b⟩
          · exact mayL_ok l _ h w hw
theorem mayL_err : ∀ (l pre : List JW), mayL d pre l = 0 ∨ mayL d pre l = 1 ∨ mayL d pre l = 31
  | [], _ => .inl rfl
  | v :: l, pre => by
    have _z := Dim.n9
    unfold mayL
    split
    · exact .inr (.inl rfl)
    · split
      · exact .inr (.inr rfl)
      · split
        · exact .inr (.inl rfl)
        · exact mayL_err l _
theorem mayE_err (d : DK) (l : List JW) : mayE d l = 0 ∨ mayE d l = 1 ∨ mayE d l = 31 := by
  unfold mayE
  split
  · exact .inr (.inl rfl)
  · exact mayL_err l []
theorem mayE_ok (h : mayE d l = 0) : l.length ≤ 8 ∧ ∀ w ∈ l, w.2.length = d.size ∧ isJ d w.1 = true := by
  unfold mayE at h
  split at h
  · cases h
  · exact ⟨by omega, mayL_ok l [] h⟩
theorem VL.of_may (hs : d.size = Dim.Z) (hn : d.safe.length = Dim.N) (h : mayE d l = 0) : VL l := by
  obtain ⟨h1, h2⟩ := mayE_ok h
  refine ⟨h1, fun w hw => ?_⟩
  obtain ⟨a, b⟩ := h2 w hw
  rw [isJ_14 hn] at b
  simp at b
  exact ⟨b.1, b.2, by omega⟩
theorem thnF_nil : thnF [] was = was := (have _z := Dim.n9; rfl)
/-- behind a Commit -/
theorem commit_after (h : Cl (A0 was) d) : ((commitR d 0 l).2.2 ≠ 0 ∧ (commitR d 0 l).2.2 ≠ 30 ∧ (commitR d 0 l).1 = d ∧ (commitR d 0 l).2.1 = 0 ∧ mayE d l ≠ 0) ∨ (mayE d l = 0 ∧ (commitR d 0 l).2.2 = 0 ∧ (commitR d 0 l).2.1 = 0 ∧ Cl (A0 (thnF l was)) (commitR d 0 l).1) ∨
    ((commitR d 0 l).2.2 = 30 ∧ 1 ≤ l.length ∧ Tr l was (commitR d 0 l).1) := by
  unfold commitR
  rw [if_neg (by simp)]
  by_cases hm : mayE d l = 0
  · rw [if_neg (by simpa using hm)]
    by_cases hl : l = []
    · rw [if_pos hl]
      subst hl
      exact .inr (.inl ⟨hm, rfl, rfl, h⟩)
    · have hl1 : 1 ≤ l.length := by cases l <;> simp_all
      rw [if_neg hl, h.1.size]
      have hv := VL.of_may h.1.size h.1.len hm
      rcases run_commit hv h with ⟨a, b⟩ | ⟨a, b⟩
      · exact .inr (.inl ⟨hm, a, a, b⟩)
      · refine .inr (.inr ⟨a, hl1, ?_⟩)
        rcases b with b | b | b | b
        · exact .inr (.inl b)
        · exact .inr (.inr ⟨hv, b⟩)
        · exact .inl (.inr ⟨hv, .inl b⟩)
        · exact .inl (.inr ⟨hv, .inr b⟩)
  · rw [if_pos hm]
    have := mayE_err d l
    exact .inl ⟨hm, by show mayE d l ≠ 30; omega, rfl, rfl, hm⟩
theorem acts_ok (hn : 10 ≤ d.safe.length) (hs : 22 ≤ d.size) (h : mayE d l = 0) : ∀ n b, some (n, b) ∈ commitA l d.size → d.isS n = true ∧ b.length = d.size := by
  obtain ⟨h1, h2⟩ := mayE_ok h
  intro n b hb
  rw [commit_parts] at hb
  simp only [List.mem_append, List.mem_map, Option.some.injEq, exists_eq_right, List.mem_cons, List.not_mem_nil, or_false, reduceCtorEq] at hb
  have hh : ∀ f, (headB f l d.size).length = d.size := fun f => headB_len f h1 hs
  rcases hb with (hb | hb) | hb | hb | hb
  · obtain ⟨i, v, hi, e1, e2⟩ := noteW_mem hb
    have hlt := (List.getElem?_eq_some_iff.1 hi).1
    exact ⟨DK.isS_iff.2 ⟨by simp only at e1; omega, by simp only at e1; omega⟩, by simp only at e2; rw [e2]; exact (h2 v (List.mem_of_getElem? hi)).1⟩
  · cases hb; exact ⟨DK.isS_iff.2 ⟨by omega, by omega⟩, hh 0⟩
  · cases hb; exact ⟨DK.isS_iff.2 ⟨by omega, by omega⟩, hh 1⟩
  · obtain ⟨v, hv, e⟩ := List.mem_map.1 hb
    cases e
    obtain ⟨a, b'⟩ := h2 v hv
    have b1 : 0 ≤ v.1 ∧ v.1 < (d.safe.length : Int) - 9 := by
      unfold isJ at b'
      rw [Bool.and_eq_true] at b'
      exact ⟨of_decide_eq_true b'.1, of_decide_eq_true b'.2⟩
    have b2 : 0 ≤ 9 + v.1 ∧ 9 + v.1 < (d.safe.length : Int) := by omega
    exact ⟨DK.isS_iff.2 b2, a⟩
  · cases hb; exact ⟨DK.isS_iff.2 ⟨by omega, by omega⟩, hh 0⟩
theorem commit_unarmed (h0 : d.off = false) (ha : d.arm = none) (hn : 10 ≤ d.safe.length) (hs : 22 ≤ d.size) (l : List JW) : (commitR d 0 l).2.1 = 0 ∧ (commitR d 0 l).2.2 = mayE d l ∧ (commitR d 0 l).1.off = false ∧ (commitR d 0 l).1.arm = none ∧ (commitR d 0 l).1.safe.length = d.safe.length ∧ (commitR d 0 l).1.size = d.size := by
  unfold commitR
  rw [if_neg (by simp)]
  by_cases hm : mayE d l = 0
  · rw [if_neg (by simpa using hm)]
    by_cases hl : l = []
    · rw [if_pos hl]
      exact ⟨rfl, hm.symm, h0, ha, rfl, rfl⟩
    · rw [if_neg hl]
      obtain ⟨r1, r2, r3, r4, r5⟩ := jrun_unarmed (commitA l d.size) d h0 ha (acts_ok hn hs hm)
      exact ⟨r1, r1.trans hm.symm, r2, r3, r4, r5⟩
  · rw [if_pos hm]
    exact ⟨rfl, rfl, h0, ha, rfl, rfl⟩
end Go.Proofs.YthabllnhlhkejaaGreatDoor
namespace Go.Proofs.YthabllnhlhkejaaGreatDoor

variable [Dim]

/-- the journal of Dim.N sectors, clean, without a cut to come -/
structure JnD (X : Nat → Bs) (d : DK) : Prop where
  cl : Cl (A0 X) d
  arm : d.arm = none
namespace JnD
variable {X : Nat → Bs} {d : DK}
theorem new : JnD (fun _ => List.replicate Dim.Z 0) (DK.new Dim.N Dim.Z) := by
  refine ⟨⟨⟨DK.Good.new (by have := Dim.n4; omega) (by have := Dim.z0; omega) (by have := Dim.z1; omega), rfl, by simp [DK.new], fun n b hb => ?_, fun p hp => by cases hp⟩, rfl, rfl⟩, rfl⟩
  have hb' : b = List.replicate Dim.Z 0 := List.eq_of_mem_replicate (List.mem_of_getElem? hb)
  subst hb'
  refine ⟨fun _ => ?_, fun _ _ => rfl⟩
  rw [List.getD_eq_getElem?_getD, List.getElem?_replicate]
  split <;> rfl
theorem commit (h : JnD X d) (l : List JW) : (commitR d 0 l).2.1 = 0 ∧ (commitR d 0 l).2.2 = mayE d l ∧ JnD (if mayE d l = 0 then thnF l X else X) (commitR d 0 l).1 := by
  have hu := commit_unarmed h.cl.2.1 h.arm (by have := Dim.n9; rw [h.cl.1.len]; omega) (by have := Dim.z0; rw [h.cl.1.size]; omega) l
  refine ⟨hu.1, hu.2.1, ?_, hu.2.2.2.1⟩
  rcases commit_after (l := l) h.cl with ⟨_, _, e, _, hm⟩ | ⟨hm, _, _, hc⟩ | ⟨e, _, _⟩
  · rw [if_neg hm, e]; exact h.cl
  · rw [if_pos hm]; exact hc
  · have := mayE_err d l
    rw [hu.2.1] at e
    omega
theorem open' (h : JnD X d) : openR d = (d, 0) := open_Cl0 h.cl
theorem secs (h : JnD X d) : secs d = (Dim.N : Int) - 9 := by unfold Go.Proofs.YthabllnhlhkejaaGreatDoor.secs; rw [h.cl.1.len]
end JnD
theorem Cl.readB {X : Nat → Bs} {d : DK} (h : Cl (A0 X) d) {k : Nat} (hk : k + 9 < Dim.N) : (if isJ d k then d.readB (9 + (k : Int)) else []) = X k := by
  have hi : isJ d (k : Int) = true := by rw [isJ_14 h.1.len]; simp; omega
  have e : (9 + (k : Int)) = ((9 + k : Nat) : Int) := by omega
  rw [hi, if_pos rfl, e, readB_clean h (by omega)]
  exact (h.1.safe (9 + k) _ (safe_at h.1 (by omega))).2 k rfl
theorem Cl.readE {X : Nat → Bs} {d : DK} (h : Cl (A0 X) d) {k : Nat} (hk : k + 9 < Dim.N) : (if isJ d k then d.readE (9 + (k : Int)) else if d.off then 30 else 31) = 0 := by
  have hi : isJ d (k : Int) = true := by rw [isJ_14 h.1.len]; simp; omega
  have e : (9 + (k : Int)) = ((9 + k : Nat) : Int) := by omega
  rw [hi, if_pos rfl, e]
  exact readE_clean h (by omega)
/-- a commit that is told to be all right was of writes to the journal -/
theorem lastW_take (l : List JW) (k : Nat) (x : Bs) {i : Nat} (hi : i < l.length) : lastW (l.take (i + 1)) k x = if l[i].1 = (k : Int) then l[i].2 else lastW (l.take i) k x := by
  rw [List.take_succ_eq_append_getElem hi, lastW_append]
  rfl
end Go.Proofs.YthabllnhlhkejaaGreatDoor
namespace Go.Proofs.YthabllnhlhkejaaGreatDoor

variable [Dim]
/-- k sectors from b on -/
def secsX (X : Nat → Bs) (b k : Nat) : Bs := (List.range k).flatMap (fun i => X (b + i))
theorem secsX_succ (X : Nat → Bs) (b k : Nat) : secsX X b (k + 1) = secsX X b k ++ X (b + k) := by have _z := Dim.n9; simp [secsX, List.range_succ, List.flatMap_append]
theorem partR_jn {X : Nat → Bs} {d : DK} (h : JnD X d) (b k : Nat) (hk : b + k + 9 ≤ Dim.N) : partR d (b : Int) k = (secsX X b k, 0) := by
  induction k with
  | zero => rfl
  | succ k ih =>
    have h1 := ih (by omega)
    have e : (b : Int) + (k : Int) = ((b + k : Nat) : Int) := by omega
    have hb : jreadB d ((b : Int) + (k : Int)) = X (b + k) := by rw [e]; exact Cl.readB h.cl (by omega)
    have he : jreadE d ((b : Int) + (k : Int)) = 0 := by rw [e]; exact Cl.readE h.cl (by omega)
    show (if (partR d (b : Int) k).2 ≠ 0 then _ else _ : Bs × Int) = _
    rw [h1, if_neg (by simp), he, if_neg (by simp), hb, secsX_succ]
theorem secsX_len {X : Nat → Bs} {d : DK} (h : JnD X d) (b k : Nat) (hk : b + k + 9 ≤ Dim.N) : (secsX X b k).length = k * Dim.Z := by
  have h1 := partR_jn h b k hk
  have h2 := partR_full h.cl.1.good (b : Int) k (by rw [h1])
  rw [h1, h.cl.1.size] at h2
  exact h2
theorem mayL_save {d : DK} {X : Nat → Bs} (h : JnD X d) (base : Nat) (all : Bs) (n : Nat) (hb : base + n + 9 ≤ Dim.N) (hl : n * Dim.Z ≤ all.length) :
    ∀ k i, i + k = n → mayL d (((List.range n).take i).map (fun i => (((base + i : Nat) : Int), (all.drop (i * Dim.Z)).take Dim.Z))) (((List.range n).drop i).map (fun i => (((base + i : Nat) : Int), (all.drop (i * Dim.Z)).take Dim.Z))) = 0 := by
  intro k
  induction k with
  | zero =>
    intro i hi
    rw [List.drop_of_length_le (by rw [List.length_range]; omega)]
    rfl
  | succ k ih =>
    intro i hi
    have hin : i < n := by omega
    have hil : i < (List.range n).length := by rw [List.length_range]; exact hin
    have h1 := ih (i + 1) (by omega)
    rw [List.drop_eq_getElem_cons hil, List.getElem_range, List.map_cons]
    rw [List.take_succ_eq_append_getElem hil, List.getElem_range, List.map_append] at h1
    have hz : ((all.drop (i * Dim.Z)).take Dim.Z).length = d.size := by
      have := Nat.mul_le_mul_right Dim.Z (show i + 1 ≤ n from hin)
      rw [Nat.succ_mul] at this
      rw [List.length_take, List.length_drop, h.cl.1.size]
      omega
    have hj : isJ d ((base + i : Nat) : Int) = true := by
      rw [isJ_14 h.cl.1.len]
      simp
      omega
    show (if _ then _ else _ : Int) = 0
    rw [if_neg (by rw [hz]; simp), if_neg (by rw [hj]; simp), if_neg ?_]
    · exact h1
    · intro hc
      rw [List.any_eq_true] at hc
      obtain ⟨v, hv, he⟩ := hc
      obtain ⟨q, hq, rfl⟩ := List.mem_map.1 hv
      have h2 : q < i := by
        rw [List.take_range] at hq
        have := List.mem_range.1 hq
        omega
      simp at he
      omega
theorem mayE_save {d : DK} {X : Nat → Bs} (h : JnD X d) (base n : Nat) (all : Bs) (hn : n ≤ 8) (hb : base + n + 9 ≤ Dim.N) (hl : n * Dim.Z ≤ all.length) : mayE d (saveL base n Dim.Z all) = 0 := by
  unfold mayE
  rw [saveL_len, if_neg (by omega)]
  have := mayL_save h base all n hb hl n 0 (by omega)
  rw [List.take_zero, List.drop_zero] at this
  exact this
/-- a sector behind a Save -/
theorem thnF_save (base n : Nat) (all : Bs) (X : Nat → Bs) (k : Nat) : thnF (saveL base n Dim.Z all) X k = if base ≤ k ∧ k < base + n then (all.drop ((k - base) * Dim.Z)).take Dim.Z else X k := by
  unfold thnF saveL
  induction n with
  | zero =>
    rw [if_neg (by omega)]
    rfl
  | succ n ih =>
    rw [List.range_succ, List.map_append, lastW_append]
    show (if (((base + n : Nat) : Int)) = (k : Int) then _ else _ : Bs) = _
    by_cases e : base + n = k
    · rw [if_pos (by omega), if_pos (by omega), show k - base = n by omega]
    · rw [if_neg (by omega), ih]
      by_cases h : base ≤ k ∧ k < base + n
      · rw [if_pos h, if_pos (by omega)]
      · rw [if_neg h, if_neg (by omega)]
theorem secs_cut (all : Bs) (n : Nat) (h : all.length = n * Dim.Z) : (List.range n).flatMap (fun i => (all.drop (i * Dim.Z)).take Dim.Z) = all := by
  have g : ∀ k, k ≤ n → (List.range k).flatMap (fun i => (all.drop (i * Dim.Z)).take Dim.Z) = all.take (k * Dim.Z) := by
    intro k
    induction k with
    | zero => intro _; simp
    | succ k ih =>
      intro hk
      rw [List.range_succ, List.flatMap_append, ih (by omega)]
      simp only [List.flatMap_cons, List.flatMap_nil, List.append_nil]
      rw [Nat.succ_mul, List.take_add]
  rw [g n (Nat.le_refl _), ← h, List.take_length]
theorem flatMap_same {l : List Nat} {f g : Nat → Bs} (h : ∀ a ∈ l, f a = g a) : l.flatMap f = l.flatMap g := by
  have _z := Dim.n9
  induction l with
  | nil => rfl
  | cons a l ih => rw [List.flatMap_cons, List.flatMap_cons, h a (by simp), ih (fun b hb => h b (by simp [hb]))]
/-- the partition that was saved -/
theorem secsX_save (base n : Nat) (all : Bs) (X : Nat → Bs) (h : all.length = n * Dim.Z) : secsX (thnF (saveL base n Dim.Z all) X) base n = all := by
  unfold secsX
  refine Eq.trans (flatMap_same (g := fun i => (all.drop (i * Dim.Z)).take Dim.Z) fun i hi => ?_) (secs_cut all n h)
  have := List.mem_range.1 hi
  rw [thnF_save, if_pos (by omega), show base + i - base = i by omega]
/-- another one -/
theorem secsX_other (base n : Nat) (all : Bs) (X : Nat → Bs) (b k : Nat) (h : b + k ≤ base ∨ base + n ≤ b) : secsX (thnF (saveL base n Dim.Z all) X) b k = secsX X b k := by
  unfold secsX
  refine flatMap_same fun i hi => ?_
  have := List.mem_range.1 hi
  rw [thnF_save, if_neg (by omega)]
end Go.Proofs.YthabllnhlhkejaaGreatDoor
namespace Go.Proofs.YthabllnhlhkejaaGreatDoor

variable [Dim]
/-- a partition: fresh, or saved -/
def partC (master : Bs) (t m : Nat) : Option (Nat × Bs) → Bs
  | none => List.replicate m 0
  | some (k, b) => allB (sealB (keyK master t 2 1) (keyK master t 3 1) k (aboutB t) b) m
abbrev Saves := Nat → Option (Nat × Bs)
structure StoreX (master : Bs) (T P : Nat) (S : Saves) (X : Nat → Bs) (d : DK) : Prop where
  jn : JnD X d
  parts : ∀ t, 1 ≤ t → t ≤ T → secsX X ((t - 1) * P) P = partC master t (P * Dim.Z) (S t)
  fine : ∀ t k b, S t = some (k, b) → 1 ≤ k ∧ k < 1000000 ∧ b.length + 28 ≤ P * Dim.Z
  room : T * P + 9 ≤ Dim.N
  p1 : 1 ≤ P
  p8 : P ≤ 8
namespace StoreX
variable {master : Bs} {T P : Nat} {S : Saves} {X : Nat → Bs} {d : DK}
theorem low (h : StoreX master T P S X d) {t : Nat} (h1 : 1 ≤ t) (hT : t ≤ T) : (t - 1) * P + P + 9 ≤ Dim.N := by
  have := h.room
  have h2 : t * P ≤ T * P := Nat.mul_le_mul_right _ hT
  have h3 : (t - 1 + 1) * P = t * P := by rw [Nat.sub_add_cancel h1]
  rw [Nat.succ_mul] at h3
  omega
theorem big (h : StoreX master T P S X d) : 64 ≤ P * Dim.Z ∧ P * Dim.Z ≤ 32768 := by
  have h0 := Dim.z0
  have h1 := Dim.z1
  have h2 : 1 * 64 ≤ P * Dim.Z := Nat.mul_le_mul h.p1 h0
  have h3 : P * Dim.Z ≤ 8 * 4096 := Nat.mul_le_mul h.p8 h1
  omega
theorem part (h : StoreX master T P S X d) {t : Nat} (h1 : 1 ≤ t) (hT : t ≤ T) : partR d (((t - 1) * P : Nat) : Int) P = (partC master t (P * Dim.Z) (S t), 0) := by
  rw [partR_jn h.jn _ _ (h.low h1 hT), h.parts t h1 hT]
def told : Option (Nat × Bs) → Bs × Nat × Int
  | none => ([], 0, 15)
  | some (k, b) => (b, k, 0)
theorem allB_load {enc : Bs} (he : enc.length = 32) (tag about b : Bs) (k m : Nat) (hk1 : 1 ≤ k) (hk : k < 9223372036854775808) (hb : b.length + 28 ≤ m) (hm : m ≤ 32768) : loadP enc tag about (allB (sealB enc tag k about b) m, 0) = (b, k, 0) := by
  have _z := Dim.n9
  have hl := sealB_len he tag k about b
  have ho := boxR_seal he tag hk about b (by omega)
  obtain ⟨S, hS⟩ : ∃ S, sealB enc tag k about b = S := ⟨_, rfl⟩
  rw [hS] at hl ho ⊢
  have e4 := be4_len S.length
  have ht : (allB S m).take 4 = be4 S.length := by
    unfold allB
    rw [List.append_assoc, List.take_append_of_le_length (by omega), List.take_of_length_le (by omega)]
  have hd : (allB S m).drop 4 = S ++ List.replicate (m - 4 - S.length) 0 := by
    unfold allB
    rw [List.append_assoc, List.drop_append, List.drop_of_length_le (by omega), List.nil_append, e4, Nat.sub_self, List.drop_zero]
  have hn : num8 ((allB S m).take 4) = S.length := by rw [ht]; exact num8_be4 (by omega)
  unfold loadP
  rw [if_neg (by simp)]
  show (if num8 ((allB S m).take 4) = 0 then _ else _ : Bs × Nat × Int) = _
  rw [hn, if_neg (by omega), hd, if_neg (by rw [List.length_append]; omega), List.take_append_of_le_length (Nat.le_refl _), List.take_length, ho, if_neg (by simp; omega)]
theorem load (h : StoreX master T P S X d) {t : Nat} (h1 : 1 ≤ t) (hT : t ≤ T) : loadP (keyK master t 2 1) (keyK master t 3 1) (aboutB t) (partR d (((t - 1) * P : Nat) : Int) P) = told (S t) := by
  rw [h.part h1 hT]
  have hb := h.big
  cases hS : S t with
  | none =>
    unfold loadP
    rw [if_neg (by simp)]
    have e : num8 ((partC master t (P * Dim.Z) none).take 4) = 0 := by
      show num8 ((List.replicate (P * Dim.Z) (0 : UInt8)).take 4) = 0
      rw [List.take_replicate, Nat.min_eq_left (by omega)]
      rfl
    show (if num8 ((partC master t (P * Dim.Z) none).take 4) = 0 then _ else _ : Bs × Nat × Int) = _
    rw [e, if_pos rfl]
    rfl
  | some q =>
    obtain ⟨k, b⟩ := q
    obtain ⟨f1, f2, f3⟩ := h.fine t k b hS
    exact allB_load (keyK_len _ _ _ _) _ _ _ _ _ f1 (by omega) f3 hb.2
/-- the number of what was saved last -/
def numS : Option (Nat × Bs) → Nat
  | none => 0
  | some (k, _) => k
def upd (S : Saves) (t : Nat) (x : Nat × Bs) : Saves := fun u => if u = t then some x else S u
theorem save (h : StoreX master T P S X d) {t : Nat} (h1 : 1 ≤ t) (hT : t ≤ T) (b : Bs) (hk : numS (S t) < 999999) :
    (saveR (keyK master t 2 1) (keyK master t 3 1) (aboutB t) d 0 P t b).2.1 = 0 ∧
    ((P * Dim.Z - 28 < b.length ∧ saveR (keyK master t 2 1) (keyK master t 3 1) (aboutB t) d 0 P t b = (d, 0, 14)) ∨
     (¬ P * Dim.Z - 28 < b.length ∧ (saveR (keyK master t 2 1) (keyK master t 3 1) (aboutB t) d 0 P t b).2.2 = 0 ∧ ∃ X', StoreX master T P (upd S t (numS (S t) + 1, b)) X' (saveR (keyK master t 2 1) (keyK master t 3 1) (aboutB t) d 0 P t b).1)) := by
  have hb := h.big
  have hsz := h.jn.cl.1.size
  unfold saveR
  rw [hsz]
  by_cases hr : P * Dim.Z - 28 < b.length
  · rw [if_pos hr]
    exact ⟨rfl, .inl ⟨hr, rfl⟩⟩
  · rw [if_neg hr, h.load h1 hT]
    have e1 : ¬ ((told (S t)).2.2 ≠ 0 ∧ (told (S t)).2.2 ≠ 15) := by
      cases S t with
      | none => rintro ⟨_, h2⟩; exact h2 rfl
      | some q => rintro ⟨h2, _⟩; exact h2 rfl
    have e2 : (told (S t)).2.1 = numS (S t) := by
      cases S t with
      | none => rfl
      | some q => rfl
    rw [if_neg e1, e2, if_neg (by omega)]
    have hl := sealB_len (keyK_len master t 2 1) (keyK master t 3 1) (numS (S t) + 1) (aboutB t) b
    have hal := allB_len (s := sealB (keyK master t 2 1) (keyK master t 3 1) (numS (S t) + 1) (aboutB t) b) (m := P * Dim.Z) (by omega)
    obtain ⟨all, hall⟩ : ∃ all, allB (sealB (keyK master t 2 1) (keyK master t 3 1) (numS (S t) + 1) (aboutB t) b) (P * Dim.Z) = all := ⟨_, rfl⟩
    rw [hall] at hal ⊢
    have hm := mayE_save h.jn ((t - 1) * P) P all h.p8 (h.low h1 hT) (by rw [hal]; exact Nat.le_refl _)
    obtain ⟨c1, c2, c3⟩ := h.jn.commit (saveL ((t - 1) * P) P Dim.Z all)
    rw [hm] at c2
    rw [if_pos hm] at c3
    refine ⟨c1, .inr ⟨hr, c2, _, ⟨c3, fun u hu1 huT => ?_, fun u k b' hS => ?_, h.room, h.p1, h.p8⟩⟩⟩
    · unfold upd
      by_cases e : u = t
      · subst e
        rw [if_pos rfl, secsX_save _ _ _ _ hal, ← hall]
        rfl
      · rw [if_neg e, secsX_other, h.parts u hu1 huT]
        rcases Nat.lt_or_gt_of_ne e with hlt | hgt
        · have h3 : (u - 1 + 1) * P ≤ (t - 1) * P := Nat.mul_le_mul_right _ (by omega)
          rw [Nat.succ_mul] at h3
          exact .inl h3
        · have h3 : (t - 1 + 1) * P ≤ (u - 1) * P := Nat.mul_le_mul_right _ (by omega)
          rw [Nat.succ_mul] at h3
          exact .inr h3
    · unfold upd at hS
      by_cases e : u = t
      · rw [if_pos e] at hS
        cases hS
        exact ⟨by omega, by omega, by omega⟩
      · rw [if_neg e] at hS
        exact h.fine u k b' hS
theorem safe_sec (h : StoreX master T P S X d) {k : Nat} (hk : k + 9 < Dim.N) : d.safeB ((9 + k : Nat) : Int) = X k := by
  have hs := isS_of h.jn.cl.1.len (n := ((9 + k : Nat) : Int)) (by omega) (by omega)
  unfold DK.safeB
  rw [if_pos hs, Int.toNat_natCast]
  exact (h.jn.cl.1.safe (9 + k) _ (safe_at h.jn.cl.1 (by omega))).2 k rfl
end StoreX
/-- a new disk -/
theorem StoreX.new {master : Bs} {T P : Nat} (hr : T * P + 9 ≤ Dim.N) (h1 : 1 ≤ P) (h8 : P ≤ 8) : StoreX master T P (fun _ => none) (fun _ => List.replicate Dim.Z 0) (DK.new Dim.N Dim.Z) := by
  refine ⟨JnD.new, fun t _ _ => ?_, (fun t k b h => by cases h), hr, h1, h8⟩
  show _ = List.replicate (P * Dim.Z) 0
  generalize (t - 1) * P = b
  clear hr h1 h8
  induction P with
  | zero => simp [secsX]
  | succ P ih => rw [secsX_succ, ih, List.replicate_append_replicate, Nat.succ_mul]
end Go.Proofs.YthabllnhlhkejaaGreatDoor
