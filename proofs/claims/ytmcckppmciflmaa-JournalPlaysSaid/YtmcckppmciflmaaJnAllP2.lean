/-
  JOURNALS (plain): a Commit and an Open, in four pieces; what a cut leaves; what an Open makes of that.
-/
import Derived.Test.YtmcckppmciflmaaJnAllP
namespace Go.Proofs.Ytmcckppmciflmaa

theorem jerr : ∀ (l : List JA) (s : DK × Int), (s.2 = 0 ∨ s.2 = 30) → (∀ n b, some (n, b) ∈ l → s.1.isS n = true ∧ b.length = s.1.size) → ((jrun s l).2 = 0 ∨ (jrun s l).2 = 30)
  | [], s, h, _ => h
  | a :: l, s, h, hw => by
    rw [jrun_cons]
    by_cases h0 : s.2 = 0
    · refine jerr l _ ?_ ?_
      · unfold jstep
        rw [if_pos h0]
        cases a with
        | none => show s.1.flushE = 0 ∨ s.1.flushE = 30; unfold DK.flushE; split <;> (try split) <;> simp
        | some w =>
          obtain ⟨n, b⟩ := w
          obtain ⟨h1, h2⟩ := hw n b (by simp)
          show s.1.writeE n b.length = 0 ∨ s.1.writeE n b.length = 30
          unfold DK.writeE
          split
          · simp
          · rw [if_neg (by rw [h1]; simp), if_neg (by omega)]; split <;> simp
      · intro n b hn
        obtain ⟨h1, h2⟩ := hw n b (by simp [hn])
        have e : (jstep s a).1.safe.length = s.1.safe.length ∧ (jstep s a).1.size = s.1.size := by
          unfold jstep
          rw [if_pos h0]
          obtain ⟨c1, c2, c3⟩ := s.1.cut_same
          cases a with
          | none =>
            show s.1.flush.safe.length = _ ∧ s.1.flush.size = _
            unfold DK.flush
            split
            · exact ⟨rfl, rfl⟩
            · exact ⟨landL_len _ _, c1⟩
          | some w =>
            obtain ⟨m, c⟩ := w
            show (s.1.write m c).safe.length = _ ∧ (s.1.write m c).size = _
            unfold DK.write
            split
            · exact ⟨rfl, rfl⟩
            · split
              · exact ⟨rfl, rfl⟩
              · split
                · exact ⟨rfl, rfl⟩
                · split
                  · exact ⟨by rw [c2], c1⟩
                  · exact ⟨by show s.1.cut.safe.length = _; rw [c2], c1⟩
        unfold DK.isS at h1 ⊢
        rw [e.1, e.2]
        exact ⟨h1, h2⟩
    · rw [jstep_bad h0, jrun_bad h0]; exact h
theorem mem_acts {ws : List (Int × Bs)} {n : Int} {b : Bs} (h : some (n, b) ∈ ws.map some ++ [none]) : (n, b) ∈ ws := by simpa using h
/-- a piece: writes and a flush -/
theorem seg {A B : Nat → Bs → Prop} (hm : Mix A B) {d : DK} (h : Pr A none2 d) (h0 : d.off = false) (hd : d.dirty = []) {ws : List (Int × Bs)} (hw : WOk d ws) (hB : ∀ w ∈ ws, B w.1.toNat w.2) :
    ((jrun (d, 0) (ws.map some ++ [none])).2 = 0 ∧ (jrun (d, 0) (ws.map some ++ [none])).1.off = false ∧ (jrun (d, 0) (ws.map some ++ [none])).1.dirty = [] ∧ Pr (fun n b => A n b ∧ b = lastW ws n (d.safe.getD n [])) none2 (jrun (d, 0) (ws.map some ++ [none])).1) ∨
    ((jrun (d, 0) (ws.map some ++ [none])).2 = 30 ∧ Pr A B (jrun (d, 0) (ws.map some ++ [none])).1) := by
  have hp : Pr A B (jrun (d, 0) (ws.map some ++ [none])).1 := Pr.run hm _ _ (h.mono (fun _ _ _ x => x) (fun _ _ x => x.elim)) (fun n b hn => hB _ (mem_acts hn))
  rcases jerr (ws.map some ++ [none]) (d, 0) (.inl rfl) (fun n b hn => hw _ (mem_acts hn)) with he | he
  · obtain ⟨r1, r2, r3, r4, r5, r6⟩ := run_flush h.good h0 hd hw he
    refine .inl ⟨he, r1, r2, ⟨r4, r6.trans h.size, r5.trans h.len, fun n b hn => ⟨hp.safe n b hn, ?_⟩, fun p hp => by rw [r2] at hp; cases hp⟩⟩
    rw [← r3 n, List.getD, hn]; rfl
  · exact .inr ⟨he, hp⟩
theorem wok_of {d e : DK} {ws : List (Int × Bs)} (h : WOk d ws) (h1 : e.safe.length = d.safe.length) (h2 : e.size = d.size) : WOk e ws := by
  intro w hw
  obtain ⟨a, b⟩ := h w hw
  unfold DK.isS at a ⊢
  rw [h1, h2]
  exact ⟨a, b⟩

section
variable (l : List JW) (was : Nat → Bs)
def thnF (j : Nat) : Bs := lastW l j (was j)
structure VL : Prop where
  len : l.length ≤ 8
  all : ∀ w ∈ l, 0 ≤ w.1 ∧ w.1 < 5 ∧ w.2.length = 64
def notesIn (n : Nat) (b : Bs) : Prop := ∀ i w, l[i]? = some w → n = 1 + i → b = w.2
def A0 (X : Nat → Bs) (n : Nat) (b : Bs) : Prop := (n = 0 → b.getD 0 0 = 0) ∧ ∀ j, n = 9 + j → b = X j
def B0 (n : Nat) (b : Bs) : Prop := n < 9 ∧ (n = 0 → b.getD 0 0 = 0)
def A1 (n : Nat) (b : Bs) : Prop := (n = 0 → b = headB 0 l 64 ∨ b = headB 1 l 64) ∧ notesIn l n b ∧ ∀ j, n = 9 + j → b = was j
def B1 (n : Nat) (b : Bs) : Prop := n = 0 ∧ b = headB 1 l 64
def A2 (n : Nat) (b : Bs) : Prop := (n = 0 → b = headB 1 l 64) ∧ notesIn l n b ∧ ∀ j : Nat, n = 9 + j → (∀ w ∈ l, w.1 ≠ (j : Int)) → b = was j
def B2 (n : Nat) (_ : Bs) : Prop := ∃ j : Nat, n = 9 + j ∧ ∃ w ∈ l, w.1 = (j : Int)
def A3 (n : Nat) (b : Bs) : Prop := (n = 0 → b = headB 0 l 64 ∨ b = headB 1 l 64) ∧ notesIn l n b ∧ ∀ j, n = 9 + j → b = thnF l was j
def B3 (n : Nat) (b : Bs) : Prop := n = 0 ∧ b = headB 0 l 64
end
variable {l : List JW} {was : Nat → Bs}
theorem head_cons (l : List JW) (size : Nat) : ∃ t, ∀ f : UInt8, headB f l size = f :: t := ⟨_, fun _ => rfl⟩
theorem mix_head {f g : UInt8} {k : Nat} : ((headB f l 64).take k ++ (headB g l 64).drop k = headB f l 64) ∨ ((headB f l 64).take k ++ (headB g l 64).drop k = headB g l 64) := by
  obtain ⟨t, ht⟩ := head_cons l 64
  rw [ht, ht]
  cases k with
  | zero => right; rfl
  | succ k => left; simp
theorem mix0 {X : Nat → Bs} : Mix (A0 X) B0 := by
  intro n s b k hk hs hb ha hB
  refine ⟨fun h0 => ?_, fun j hj => by have := hB.1; omega⟩
  have h1 := ha.1 h0
  have h2 := hB.2 h0
  cases k with
  | zero => simpa using h1
  | succ k =>
    cases b with
    | nil => simp at hb
    | cons c b => simpa using h2
theorem not_note {n : Nat} (h : n = 0) (b : Bs) : notesIn l n b := fun i w _ e => by omega
theorem mix1 : Mix (A1 l was) (B1 l) := by
  intro n s b k hk hs hb ha hB
  obtain ⟨h0, rfl⟩ := hB
  refine ⟨fun _ => ?_, not_note h0 _, fun j hj => by omega⟩
  rcases ha.1 h0 with rfl | rfl
  · rcases mix_head (l := l) (f := 1) (g := 0) (k := k) with e | e
    · exact .inr e
    · exact .inl e
  · rcases mix_head (l := l) (f := 1) (g := 1) (k := k) with e | e <;> exact .inr e
theorem mix2 (hv : VL l) : Mix (A2 l was) (B2 l) := by
  intro n s b k hk hs hb ha hB
  obtain ⟨j, hj, w, hw, e⟩ := hB
  refine ⟨fun h0 => by omega, fun i w' hi h1 => ?_, fun j' hj' hn => ?_⟩
  · have := (List.getElem?_eq_some_iff.1 hi).1
    have := hv.len
    omega
  · exact absurd e (by rw [show j = j' by omega]; exact hn w hw)
theorem mix3 : Mix (A3 l was) (B3 l) := by
  intro n s b k hk hs hb ha hB
  obtain ⟨h0, rfl⟩ := hB
  refine ⟨fun _ => ?_, not_note h0 _, fun j hj => by omega⟩
  rcases ha.1 h0 with rfl | rfl
  · rcases mix_head (l := l) (f := 0) (g := 0) (k := k) with e | e <;> exact .inl e
  · rcases mix_head (l := l) (f := 0) (g := 1) (k := k) with e | e
    · exact .inl e
    · exact .inr e

def noteW (k : Nat) : List JW → List (Int × Bs)
  | [] => []
  | w :: l => ((k : Int), w.2) :: noteW (k + 1) l
theorem noteA_eq (l : List JW) : ∀ k, noteA k l = (noteW k l).map some := by
  induction l with
  | nil => intro k; rfl
  | cons w l ih => intro k; show some _ :: noteA (k + 1) l = _; rw [ih]; rfl
theorem noteW_mem {l : List JW} : ∀ {k : Nat} {v : Int × Bs}, v ∈ noteW k l → ∃ i w, l[i]? = some w ∧ v.1 = ((k + i : Nat) : Int) ∧ v.2 = w.2 := by
  induction l with
  | nil => intro k v h; cases h
  | cons w l ih =>
    intro k v h
    rcases List.mem_cons.1 h with rfl | h
    · exact ⟨0, w, rfl, rfl, rfl⟩
    · obtain ⟨i, u, h1, h2, h3⟩ := ih h
      exact ⟨i + 1, u, h1, by rw [h2]; congr 1; omega, h3⟩
theorem noteW_last {l : List JW} : ∀ {k i : Nat} {w : JW} {x : Bs}, l[i]? = some w → lastW (noteW k l) (k + i) x = w.2 := by
  induction l with
  | nil => intro k i w x h; simp at h
  | cons v l ih =>
    intro k i w x h
    show lastW (noteW (k + 1) l) (k + i) (if ((k : Nat) : Int) = ((k + i : Nat) : Int) then v.2 else x) = _
    cases i with
    | zero =>
      simp at h
      subst h
      rw [if_pos (by omega)]
      rcases lastW_mem (ws := noteW (k + 1) l) (n := k + 0) (x := v.2) with ⟨e, _⟩ | ⟨u, hu, h1, _⟩
      · exact e
      · obtain ⟨q, z, _, h2, _⟩ := noteW_mem hu
        omega
    | succ i =>
      rw [show k + (i + 1) = (k + 1) + i by omega]
      exact ih (by simpa using h)
theorem lastW_not {ws : List (Int × Bs)} {n : Nat} (h : ∀ w ∈ ws, w.1 ≠ (n : Int)) (x : Bs) : lastW ws n x = x := by
  rcases lastW_mem (ws := ws) (n := n) (x := x) with ⟨e, _⟩ | ⟨w, hw, e, _⟩
  · exact e
  · exact absurd e (h w hw)
theorem lastW_append (ws vs : List (Int × Bs)) (n : Nat) (x : Bs) : lastW (ws ++ vs) n x = lastW vs n (lastW ws n x) := by simp [lastW]
theorem lastW_any {ws : List (Int × Bs)} {n : Nat} (h : ∃ w ∈ ws, w.1 = (n : Int)) : ∀ (x y : Bs), lastW ws n x = lastW ws n y := by
  induction ws with
  | nil => obtain ⟨w, hw, _⟩ := h; cases hw
  | cons v ws ih =>
    intro x y
    show lastW ws n (if v.1 = (n : Int) then v.2 else x) = lastW ws n (if v.1 = (n : Int) then v.2 else y)
    by_cases hv : v.1 = (n : Int)
    · rw [if_pos hv, if_pos hv]
    · obtain ⟨w, hw, e⟩ := h
      rcases List.mem_cons.1 hw with rfl | hw
      · exact absurd e hv
      · exact ih ⟨w, hw, e⟩ _ _
def homeW (l : List JW) : List (Int × Bs) := l.map (fun w => (9 + w.1, w.2))
theorem homeA_eq (l : List JW) : homeA l = (homeW l).map some := by simp [homeA, homeW]
theorem home_last (l : List JW) (j : Nat) : ∀ x, lastW (homeW l) (9 + j) x = lastW l j x := by
  induction l with
  | nil => intro x; rfl
  | cons w l ih =>
    intro x
    show lastW (homeW l) (9 + j) (if 9 + w.1 = ((9 + j : Nat) : Int) then w.2 else x) = lastW l j (if w.1 = (j : Int) then w.2 else x)
    rw [ih]
    congr 1
    by_cases e : w.1 = (j : Int)
    · rw [if_pos e, if_pos (by omega)]
    · rw [if_neg e, if_neg (by omega)]

theorem commit_parts (l : List JW) (size : Nat) : commitA l size = ((noteW 1 l ++ [((0 : Int), headB 0 l size)]).map some ++ [none]) ++ (([((0 : Int), headB 1 l size)].map some ++ [none]) ++ (((homeW l).map some ++ [none]) ++ ([((0 : Int), headB 0 l size)].map some ++ [none]))) := by
  unfold commitA
  rw [noteA_eq, homeA_eq]
  simp
theorem getD_of {d : DK} {n : Nat} {b : Bs} (h : d.safe[n]? = some b) : d.safe.getD n [] = b := by simp [List.getD, h]
theorem safe_at {d : DK} {A B : Nat → Bs → Prop} (h : Pr A B d) {n : Nat} (hn : n < 14) : d.safe[n]? = some (d.safe.getD n []) := by
  have : n < d.safe.length := by rw [h.len]; exact hn
  rw [List.getD, List.getElem?_eq_getElem this]; rfl
theorem isS_of {d : DK} (h : d.safe.length = 14) {n : Int} (h0 : 0 ≤ n) (h1 : n < 14) : d.isS n = true := DK.isS_iff.2 ⟨h0, by rw [h]; exact h1⟩

/-- the last two pieces: the sectors' own writes, the head -/
def partsB (l : List JW) : List JA := ((homeW l).map some ++ [none]) ++ ([((0 : Int), headB 0 l 64)].map some ++ [none])
/-- a disk that is up, of which nothing is dirty -/
def Cl (A : Nat → Bs → Prop) (d : DK) : Prop := Pr A none2 d ∧ d.off = false ∧ d.dirty = []
theorem head64 (hv : VL l) (f : UInt8) : (headB f l 64).length = 64 := headB_len f hv.len (by omega)
theorem run_home (hv : VL l) {d : DK} (h : Cl (A2 l was) d) :
    ((jrun (d, 0) (partsB l)).2 = 0 ∧ Cl (A0 (thnF l was)) (jrun (d, 0) (partsB l)).1) ∨ ((jrun (d, 0) (partsB l)).2 = 30 ∧ (Pr (A2 l was) (B2 l) (jrun (d, 0) (partsB l)).1 ∨ Pr (A3 l was) (B3 l) (jrun (d, 0) (partsB l)).1)) := by
  obtain ⟨hp, h0, hd⟩ := h
  unfold partsB
  rw [jrun_append]
  have hw : WOk d (homeW l) := by
    intro w hw
    obtain ⟨v, hv', rfl⟩ := List.mem_map.1 hw
    have := hv.all v hv'
    exact ⟨isS_of hp.len (by show 0 ≤ 9 + v.1; omega) (by show 9 + v.1 < 14; omega), by rw [hp.size]; exact this.2.2⟩
  have hB : ∀ w ∈ homeW l, B2 l w.1.toNat w.2 := by
    intro w hw
    obtain ⟨v, hv', rfl⟩ := List.mem_map.1 hw
    have := hv.all v hv'
    exact ⟨v.1.toNat, by show (9 + v.1).toNat = _; omega, v, hv', by omega⟩
  rcases seg (mix2 hv) hp h0 hd hw hB with ⟨e1, r1, r2, r3⟩ | ⟨e1, r3⟩
  · obtain ⟨s, es⟩ : ∃ s, jrun (d, 0) ((homeW l).map some ++ [none]) = s := ⟨_, rfl⟩
    rw [es] at e1 r1 r2 r3 ⊢
    obtain ⟨s1, s2⟩ := s
    simp only at e1 r1 r2 r3
    subst e1
    have h3 : Pr (A3 l was) none2 s1 := r3.mono (fun n b _ ⟨a, e⟩ => ⟨fun hn => .inr (a.1 hn), a.2.1, fun j hj => by
      subst hj
      rw [e, home_last]
      by_cases hm : ∃ w ∈ l, w.1 = (j : Int)
      · exact lastW_any hm _ _
      · have hm' : ∀ w ∈ l, w.1 ≠ (j : Int) := fun w hw e => hm ⟨w, hw, e⟩
        have hb : b = was j := a.2.2 j rfl hm'
        unfold thnF
        rw [lastW_not hm', lastW_not hm', ← hb, e, home_last, lastW_not hm']⟩) (fun _ _ x => x)
    have hw2 : WOk s1 [((0 : Int), headB 0 l 64)] := by
      intro w hw
      simp at hw
      subst hw
      exact ⟨isS_of h3.len (by simp) (by simp), by rw [h3.size]; exact head64 hv 0⟩
    rcases seg (mix3 (l := l) (was := was)) h3 r1 r2 hw2 (fun w hw => by simp at hw; subst hw; exact ⟨rfl, rfl⟩) with ⟨f1, g1, g2, g3⟩ | ⟨f1, g3⟩
    · refine .inl ⟨f1, ⟨g3.mono (fun n b _ ⟨a, e⟩ => ⟨fun hn => ?_, fun j hj => a.2.2 j hj⟩) (fun _ _ x => x), g1, g2⟩⟩
      subst hn
      have : lastW [((0 : Int), headB 0 l 64)] 0 (s1.safe.getD 0 []) = headB 0 l 64 := by simp [lastW]
      rw [e, this]; rfl
    · exact .inr ⟨f1, .inr g3⟩
  · rw [jrun_bad (by rw [e1]; omega)]
    exact .inr ⟨e1, .inl r3⟩
/-- a Commit that may be -/
theorem run_commit (hv : VL l) {d : DK} (h : Cl (A0 was) d) :
    ((jrun (d, 0) (commitA l 64)).2 = 0 ∧ Cl (A0 (thnF l was)) (jrun (d, 0) (commitA l 64)).1) ∨
    ((jrun (d, 0) (commitA l 64)).2 = 30 ∧ (Pr (A0 was) B0 (jrun (d, 0) (commitA l 64)).1 ∨ Pr (A1 l was) (B1 l) (jrun (d, 0) (commitA l 64)).1 ∨ Pr (A2 l was) (B2 l) (jrun (d, 0) (commitA l 64)).1 ∨ Pr (A3 l was) (B3 l) (jrun (d, 0) (commitA l 64)).1)) := by
  obtain ⟨hp, h0, hd⟩ := h
  rw [commit_parts, jrun_append]
  have hl8 := hv.len
  have hw : WOk d (noteW 1 l ++ [((0 : Int), headB 0 l 64)]) := by
    intro w hw
    rcases List.mem_append.1 hw with hw | hw
    · obtain ⟨i, v, hi, e1, e2⟩ := noteW_mem hw
      have hlt := (List.getElem?_eq_some_iff.1 hi).1
      exact ⟨isS_of hp.len (by omega) (by omega), by rw [hp.size, e2]; exact (hv.all v (List.mem_of_getElem? hi)).2.2⟩
    · simp at hw
      subst hw
      exact ⟨isS_of hp.len (by simp) (by simp), by rw [hp.size]; exact head64 hv 0⟩
  have hB : ∀ w ∈ noteW 1 l ++ [((0 : Int), headB 0 l 64)], B0 w.1.toNat w.2 := by
    intro w hw
    rcases List.mem_append.1 hw with hw | hw
    · obtain ⟨i, v, hi, e1, e2⟩ := noteW_mem hw
      have hlt := (List.getElem?_eq_some_iff.1 hi).1
      exact ⟨by omega, fun h => by omega⟩
    · simp at hw
      subst hw
      exact ⟨by simp, fun _ => rfl⟩
  rcases seg (mix0 (X := was)) hp h0 hd hw hB with ⟨e1, r1, r2, r3⟩ | ⟨e1, r3⟩
  · obtain ⟨s, es⟩ : ∃ s, jrun (d, 0) ((noteW 1 l ++ [((0 : Int), headB 0 l 64)]).map some ++ [none]) = s := ⟨_, rfl⟩
    rw [es] at e1 r1 r2 r3 ⊢
    obtain ⟨s1, s2⟩ := s
    simp only at e1 r1 r2 r3
    subst e1
    have h1 : Pr (A1 l was) none2 s1 := r3.mono (fun n b _ ⟨a, e⟩ => ⟨fun hn => .inl (by subst hn; rw [e, lastW_append]; simp [lastW]), fun i w hi hn => by
      subst hn
      rw [e, lastW_append, noteW_last hi]
      exact lastW_not (by intro w hw; simp at hw; subst hw; simp; omega) _, fun j hj => a.2 j hj⟩) (fun _ _ x => x)
    rw [jrun_append]
    have hw2 : WOk s1 [((0 : Int), headB 1 l 64)] := by
      intro w hw
      simp at hw
      subst hw
      exact ⟨isS_of h1.len (by simp) (by simp), by rw [h1.size]; exact head64 hv 1⟩
    rcases seg (mix1 (l := l) (was := was)) h1 r1 r2 hw2 (fun w hw => by simp at hw; subst hw; exact ⟨rfl, rfl⟩) with ⟨f1, g1, g2, g3⟩ | ⟨f1, g3⟩
    · obtain ⟨t, et⟩ : ∃ t, jrun (s1, 0) ([((0 : Int), headB 1 l 64)].map some ++ [none]) = t := ⟨_, rfl⟩
      rw [et] at f1 g1 g2 g3 ⊢
      obtain ⟨t1, t2⟩ := t
      simp only at f1 g1 g2 g3
      subst f1
      have h2 : Cl (A2 l was) t1 := ⟨g3.mono (fun n b _ ⟨a, e⟩ => ⟨fun hn => by subst hn; rw [e]; simp [lastW], a.2.1, fun j hj _ => a.2.2 j hj⟩) (fun _ _ x => x), g1, g2⟩
      rcases run_home hv h2 with h | ⟨h, h'⟩
      · exact .inl h
      · exact .inr ⟨h, .inr (.inr h')⟩
    · rw [jrun_bad (by rw [f1]; omega)]
      exact .inr ⟨f1, .inr (.inl g3)⟩
  · rw [jrun_bad (by rw [e1]; omega)]
    exact .inr ⟨e1, .inl r3⟩
end Go.Proofs.Ytmcckppmciflmaa
