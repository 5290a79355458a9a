/-
  DiskLasts (plain): what a sector holds while the disk is up, down, booted.
-/
import Derived.Test.YtmcckppmciflmaaDkPlain
namespace Go.Proofs.Ytmcckppmciflmaa

def secS (d : DK) (at' : Nat) : Bs := d.safe.getD at' []
def secD (d : DK) (at' : Nat) : Option Bs := lookD d.dirty at'
def secC (d : DK) (at' : Nat) : Bs := (secD d at').getD (secS d at')

/-- what is known of sector 'at': sf safely, fr as it is read while up, ot what a write that was cut may have left -/
structure LI (d : DK) (at' : Nat) (sf fr ot : Bs) : Prop where
  good : d.Good
  size : d.size = 64
  here : at' < d.safe.length
  lf : sf.length = 64
  lr : fr.length = 64
  lo : ot.length = 64
  up : d.off = false → secS d at' = sf ∧ secC d at' = fr ∧ ot = fr
  down : d.off = true → (secS d at' = sf ∧ (secC d at' = fr ∨ secC d at' = ot)) ∨ (secS d at' = fr ∧ secD d at' = none)

theorem land_getD (safe : List Bs) (n k : Nat) (b : Bs) (at' : Nat) (h : n < safe.length) : ((safe.set n (b.take k ++ (safe.getD n []).drop k)).getD at' []) = if at' = n then b.take k ++ (safe.getD n []).drop k else safe.getD at' [] := by
  simp only [List.getD, List.getElem?_set]
  by_cases e : n = at'
  · subst e; simp [h]
  · rw [if_neg e, if_neg (fun h => e h.symm)]
/-- where the first of some lands: the one of this number, if it is among them -/
theorem landL_at {size : Nat} : ∀ {l : Dirt} {safe : List Bs} {f : Nat → Nat} {i : Nat}, Rise l → (∀ p ∈ l, p.1 < safe.length) → ∀ at' : Nat, (∀ j, f j ≤ size) →
    ∃ k, k ≤ size ∧ (landL safe (l.mapIdx (fun j p => (p.1, p.2, f (i + j))))).getD at' [] = match lookD l at' with
      | some b => b.take k ++ (safe.getD at' []).drop k
      | none => safe.getD at' [] := by
  intro l
  induction l with
  | nil => intro safe f i _ _ at' _; exact ⟨0, Nat.zero_le _, rfl⟩
  | cons p l ih =>
    intro safe f i hr hm at' hf
    have hr' := List.pairwise_cons.1 hr
    have hp := hm p (by simp)
    obtain ⟨k, hk, e⟩ := ih (safe := safe.set p.1 (p.2.take (f i) ++ (safe.getD p.1 []).drop (f i))) (f := f) (i := i + 1) hr'.2 (fun q hq => by rw [List.length_set]; exact hm q (by simp [hq])) at' hf
    have e1 : (p :: l).mapIdx (fun j p => (p.1, p.2, f (i + j))) = (p.1, p.2, f i) :: l.mapIdx (fun j p => (p.1, p.2, f (i + 1 + j))) := by
      have e0 : (fun (j : Nat) (p : Nat × Bs) => (p.1, p.2, f (i + (j + 1)))) = (fun j p => (p.1, p.2, f (i + 1 + j))) := by
        funext j x
        rw [show i + (j + 1) = i + 1 + j by omega]
      rw [List.mapIdx_cons, e0]
      rfl
    rw [e1, landL, lookD_cons]
    by_cases h : p.1 = at'
    · subst h
      have hn : lookD l (p.1 : Int) = none := lookD_none.2 (fun q hq => by have := hr'.1 q hq; omega)
      rw [hn] at e
      simp only at e
      rw [land_getD _ _ _ _ _ hp, if_pos rfl] at e
      refine ⟨f i, hf i, ?_⟩
      rw [if_pos rfl]
      exact e
    · rw [if_neg (by omega)]
      refine ⟨k, hk, ?_⟩
      rw [e, land_getD _ _ _ _ _ hp, if_neg (fun e => h e.symm)]

theorem map_idx {α β : Type} (f : α → β) (l : List α) : l.mapIdx (fun _ p => f p) = l.map f := by
  induction l with
  | nil => rfl
  | cons x l ih => rw [List.mapIdx_cons, List.map_cons, ih]
theorem boot_idx (size : Nat) (keep : List Int) (l : Dirt) (i : Nat) : bootL size keep i l = l.mapIdx (fun j p => (p.1, p.2, keepN size keep (i + j))) := by
  induction l generalizing i with
  | nil => rfl
  | cons p l ih =>
    have e0 : (fun (j : Nat) (p : Nat × Bs) => (p.1, p.2, keepN size keep (i + 1 + j))) = (fun j p => (p.1, p.2, keepN size keep (i + (j + 1)))) := by
      funext j x
      rw [show i + 1 + j = i + (j + 1) by omega]
    rw [bootL, ih, List.mapIdx_cons, e0]
    rfl
theorem land_all {size : Nat} {l : Dirt} {safe : List Bs} (hr : Rise l) (hm : ∀ p ∈ l, p.1 < safe.length ∧ p.2.length = size) (hs : ∀ b ∈ safe, b.length = size) {at' : Nat} : (landL safe (l.map (fun p => (p.1, p.2, size)))).getD at' [] = (lookD l at').getD (safe.getD at' []) := by
  obtain ⟨k, hk, e⟩ := landL_at (size := size) (f := fun _ => size) (i := 0) hr (fun p hp => (hm p hp).1) at' (fun _ => Nat.le_refl _)
  rw [map_idx (fun p : Nat × Bs => (p.1, p.2, size))] at e
  cases hl : lookD l at' with
  | none => rw [hl] at e; exact e
  | some b =>
    obtain ⟨p, hp, h1, h2⟩ := lookD_mem hl
    -- all of it lands
    have key : ∀ {l : Dirt} {safe : List Bs}, Rise l → (∀ p ∈ l, p.1 < safe.length ∧ p.2.length = size) → (∀ b ∈ safe, b.length = size) → ∀ {b : Bs}, lookD l at' = some b → (landL safe (l.map (fun p => (p.1, p.2, size)))).getD at' [] = b := by
      intro l
      induction l with
      | nil => intro safe _ _ _ b h; cases h
      | cons q l ih =>
        intro safe hr hm hs b hb
        have hr' := List.pairwise_cons.1 hr
        have hq := hm q (by simp)
        have hset : ∀ c ∈ safe.set q.1 (q.2.take size ++ (safe.getD q.1 []).drop size), c.length = size := by
          intro c hc
          rcases List.mem_or_eq_of_mem_set hc with hc | rfl
          · exact hs c hc
          · have e : safe.getD q.1 [] = safe[q.1]'hq.1 := by simp [List.getD, List.getElem?_eq_getElem hq.1]
            have := hs _ (List.getElem_mem hq.1)
            rw [e, List.length_append, List.length_take, List.length_drop, this, hq.2]; omega
        have hm' : ∀ p ∈ l, p.1 < (safe.set q.1 (q.2.take size ++ (safe.getD q.1 []).drop size)).length ∧ p.2.length = size := fun p hp => by rw [List.length_set]; exact hm p (by simp [hp])
        rw [List.map_cons, landL]
        rw [lookD_cons] at hb
        by_cases h : (q.1 : Int) = at'
        · rw [if_pos h] at hb
          have hb' : q.2 = b := Option.some.inj hb
          have hq' : q.1 = at' := by omega
          obtain ⟨k, hk, e⟩ := landL_at (size := size) (f := fun _ => size) (i := 0) hr'.2 (fun p hp => (hm' p hp).1) at' (fun _ => Nat.le_refl _)
          rw [map_idx (fun p : Nat × Bs => (p.1, p.2, size))] at e
          have hn : lookD l (at' : Int) = none := lookD_none.2 (fun r hr2 => by have := hr'.1 r hr2; omega)
          rw [hn] at e
          simp only at e
          rw [e, land_getD _ _ _ _ _ hq.1, if_pos hq'.symm]
          have e : safe.getD q.1 [] = safe[q.1]'hq.1 := by simp [List.getD, List.getElem?_eq_getElem hq.1]
          have := hs _ (List.getElem_mem hq.1)
          rw [e, List.take_of_length_le (by omega), List.drop_of_length_le (by omega), List.append_nil, hb']
        · rw [if_neg h] at hb
          exact ih hr'.2 hm' hset hb
    rw [key hr hm hs hl]
    rfl

namespace LI
variable {d : DK} {at' : Nat} {sf fr ot : Bs}
theorem isS (h : LI d at' sf fr ot) : d.isS at' = true := by unfold DK.isS; have := h.here; simp; omega
theorem cutS (d : DK) (at' : Nat) : secS d.cut at' = secS d at' ∧ secD d.cut at' = secD d at' ∧ secC d.cut at' = secC d at' := by
  obtain ⟨e1, e2, e3⟩ := d.cut_same
  unfold secC secS secD
  rw [e2, e3]
  exact ⟨rfl, rfl, rfl⟩
theorem putS (d : DK) (at' n : Nat) (b : Bs) : secS { d with dirty := putD d.dirty n b } at' = secS d at' ∧ secD { d with dirty := putD d.dirty n b } at' = if at' = n then some b else secD d at' := by
  refine ⟨rfl, ?_⟩
  unfold secD
  show lookD (putD d.dirty n b) at' = _
  rw [putD_look]
  by_cases e : at' = n
  · subst e; simp
  · rw [if_neg (by omega), if_neg e]
theorem gone_off {d : DK} (h : d.gone = true) : d.cut.off = true := by
  unfold DK.gone at h
  unfold DK.cut
  split at h
  · rename_i p hp; simp [hp]
  · cases h
theorem not_gone {d : DK} (h : d.gone = false) : d.cut.off = d.off := by
  unfold DK.gone at h
  unfold DK.cut
  split
  · rfl
  · rename_i p hp; rw [hp] at h; cases h
  · rfl

theorem write_here (h : LI d at' sf fr ot) {b : Bs} (hb : b.length = 64) : (d.writeE at' b.length = 0 ∧ LI (d.write at' b) at' sf b b) ∨ (d.writeE at' b.length = 30 ∧ d.off = false ∧ LI (d.write at' b) at' sf fr b) ∨ (d.writeE at' b.length = 30 ∧ d.off = true ∧ LI (d.write at' b) at' sf fr ot) := by
  have hi := h.isS
  have hg := h.good.write (at' : Int) b
  obtain ⟨c1, c2, c3⟩ := d.cut_same
  obtain ⟨s1, s2, s3⟩ := cutS d at'
  cases ho : d.off with
  | true =>
    right; right
    have e : d.write at' b = d := by simp [DK.write, ho]
    refine ⟨by simp [DK.writeE, ho], rfl, by rw [e]; exact h⟩
  | false =>
    obtain ⟨u1, u2, u3⟩ := h.up ho
    cases hgn : d.gone with
    | false =>
      left
      have e : d.write at' b = { d.cut with dirty := putD d.dirty at' b } := by simp [DK.write, ho, hi, hb, h.size, hgn]
      refine ⟨by simp [DK.writeE, ho, hi, hb, h.size, hgn], ?_⟩
      rw [e] at hg ⊢
      obtain ⟨p1, p2⟩ := putS d.cut at' at' b
      rw [c3] at p1 p2
      rw [if_pos rfl] at p2
      refine ⟨hg, by show d.cut.size = 64; rw [c1]; exact h.size, by show at' < d.cut.safe.length; rw [c2]; exact h.here, h.lf, hb, hb, fun _ => ⟨by rw [p1, s1]; exact u1, by unfold secC; rw [p2]; rfl, rfl⟩, fun hf => ?_⟩
      have : d.cut.off = true := hf
      rw [not_gone hgn, ho] at this
      cases this
    | true =>
      right; left
      refine ⟨by simp [DK.writeE, ho, hi, hb, h.size, hgn], rfl, ?_⟩
      cases hod : d.oddP with
      | false =>
        have e : d.write at' b = d.cut := by simp [DK.write, ho, hi, hb, h.size, hgn, hod]
        rw [e] at hg ⊢
        refine ⟨hg, by rw [c1]; exact h.size, by rw [c2]; exact h.here, h.lf, h.lr, hb, fun hf => ?_, fun _ => .inl ⟨by rw [s1]; exact u1, .inl (by rw [s3]; exact u2)⟩⟩
        rw [gone_off hgn] at hf; cases hf
      | true =>
        have e : d.write at' b = { d.cut with dirty := putD d.dirty at' b } := by simp [DK.write, ho, hi, hb, h.size, hgn, hod]
        rw [e] at hg ⊢
        obtain ⟨p1, p2⟩ := putS d.cut at' at' b
        rw [c3] at p1 p2
        rw [if_pos rfl] at p2
        refine ⟨hg, by show d.cut.size = 64; rw [c1]; exact h.size, by show at' < d.cut.safe.length; rw [c2]; exact h.here, h.lf, h.lr, hb, fun hf => ?_, fun _ => .inl ⟨by rw [p1, s1]; exact u1, .inr (by unfold secC; rw [p2]; rfl)⟩⟩
        have : d.cut.off = false := hf
        rw [gone_off hgn] at this; cases this
/-- a step that leaves sector 'at' as it is -/
theorem keepIt (h : LI d at' sf fr ot) {d' : DK} (hg : d'.Good) (hs : d'.size = 64) (hl : d'.safe.length = d.safe.length) (hS : secS d' at' = secS d at') (hD : secD d' at' = secD d at') (ho : d'.off = d.off ∨ d'.off = true) : LI d' at' sf fr ot := by
  have hC : secC d' at' = secC d at' := by unfold secC; rw [hS, hD]
  refine ⟨hg, hs, by rw [hl]; exact h.here, h.lf, h.lr, h.lo, fun hf => ?_, fun hf => ?_⟩
  · have : d.off = false := by rcases ho with ho | ho <;> rw [ho] at hf
                               · exact hf
                               · cases hf
    rw [hS, hC]; exact h.up this
  · cases hd : d.off with
    | true => rw [hS, hC, hD]; exact h.down hd
    | false =>
      obtain ⟨u1, u2, u3⟩ := h.up hd
      exact .inl ⟨by rw [hS]; exact u1, .inl (by rw [hC]; exact u2)⟩
theorem write_other (h : LI d at' sf fr ot) {n : Int} (hn : n ≠ at') (b : Bs) : LI (d.write n b) at' sf fr ot := by
  have hg := h.good.write n b
  obtain ⟨c1, c2, c3⟩ := d.cut_same
  obtain ⟨s1, s2, s3⟩ := cutS d at'
  have hoff : d.cut.off = d.off ∨ d.cut.off = true := by
    cases hgn : d.gone with
    | false => exact .inl (not_gone hgn)
    | true => exact .inr (gone_off hgn)
  unfold DK.write at hg ⊢
  split
  · exact h
  · split
    · exact h
    · rename_i hi
      split
      · exact h
      · rename_i h1 h3
        rw [if_neg h1, if_neg hi, if_neg h3] at hg
        split
        · rename_i h4
          rw [if_pos h4] at hg
          exact h.keepIt hg (by rw [c1]; exact h.size) (by rw [c2]) s1 s2 hoff
        · rename_i h4
          rw [if_neg h4] at hg
          obtain ⟨p1, p2⟩ := putS d.cut at' n.toNat b
          rw [c3] at p1 p2
          have hne : ¬ at' = n.toNat := by
            have : d.isS n = true := by simpa using hi
            have := DK.isS_iff.1 this
            omega
          rw [if_neg hne] at p2
          exact h.keepIt hg (by show d.cut.size = 64; rw [c1]; exact h.size) (by show d.cut.safe.length = _; rw [c2]) (p1.trans s1) (p2.trans s2) hoff
theorem arm (h : LI d at' sf fr ot) {a p : Int} (ha : a ≤ 9223372036854775807) (h0 : -9223372036854775808 ≤ p) (h1 : p ≤ 9223372036854775807) : LI (d.armed a p) at' sf fr ot :=
  h.keepIt (h.good.armed ha h0 h1) h.size rfl rfl rfl (.inl rfl)
theorem flush (h : LI d at' sf fr ot) : (d.flushE = 0 ∧ LI d.flush at' fr fr ot) ∨ (d.flushE = 30 ∧ LI d.flush at' sf fr ot) := by
  obtain ⟨c1, c2, c3⟩ := d.cut_same
  cases ho : d.off with
  | true =>
    right
    have e : d.flush = d := by simp [DK.flush, ho]
    exact ⟨by simp [DK.flushE, ho], by rw [e]; exact h⟩
  | false =>
    obtain ⟨u1, u2, u3⟩ := h.up ho
    have hg := h.good.flush
    have e : d.flush = { d.cut with safe := landL d.safe ((d.dirty.take d.flushN).map (fun p => (p.1, p.2, d.size))), dirty := d.dirty.drop d.flushN } := by simp [DK.flush, ho]
    have hlen : d.flush.safe.length = d.safe.length := by rw [e]; exact landL_len _ _
    have hsz : d.flush.size = 64 := by rw [e]; exact c1.trans h.size
    have hrt : Rise (d.dirty.take d.flushN) := h.good.rise.take
    have hrd : Rise (d.dirty.drop d.flushN) := h.good.rise.drop
    have hS : secS d.flush at' = (lookD (d.dirty.take d.flushN) at').getD (secS d at') := by
      rw [e]
      exact land_all (size := d.size) hrt (fun p hp => h.good.there p (List.mem_of_mem_take hp)) h.good.sizes
    have hD : secD d.flush at' = lookD (d.dirty.drop d.flushN) at' := by rw [e]; rfl
    -- it has landed, or it is as it was
    have hcase : (secS d.flush at' = fr ∧ secD d.flush at' = none) ∨ (secS d.flush at' = secS d at' ∧ secD d.flush at' = secD d at') := by
      have hsplit : d.dirty = d.dirty.take d.flushN ++ d.dirty.drop d.flushN := (List.take_append_drop _ _).symm
      cases hl : lookD (d.dirty.take d.flushN) at' with
      | some b =>
        left
        rw [hl] at hS
        obtain ⟨p, hp, h1, h2⟩ := lookD_mem hl
        have hpd : p ∈ d.dirty := List.mem_of_mem_take hp
        have hlk := lookD_of_mem h.good.rise hpd
        rw [h1, h2] at hlk
        have hcb : secC d at' = b := by unfold secC secD; rw [hlk]; rfl
        refine ⟨by rw [hS]; exact hcb.symm.trans u2, ?_⟩
        rw [hD]
        refine lookD_none.2 (fun q hq e2 => ?_)
        have hpw := h.good.rise
        rw [hsplit] at hpw
        have := (List.pairwise_append.1 hpw).2.2 p hp q hq
        omega
      | none =>
        right
        rw [hl] at hS
        refine ⟨hS, ?_⟩
        rw [hD]
        unfold secD
        conv => rhs; rw [hsplit]
        unfold lookD at hl ⊢
        rw [List.find?_append]
        have : (d.dirty.take d.flushN).find? (fun p => decide ((p.1 : Int) = at')) = none := by simpa using hl
        rw [this]; rfl
    cases hgn : d.gone with
    | true =>
      right
      refine ⟨by simp [DK.flushE, ho, hgn], hg, hsz, by rw [hlen]; exact h.here, h.lf, h.lr, h.lo, fun hf => ?_, fun _ => ?_⟩
      · have : d.flush.off = true := by rw [e]; exact gone_off hgn
        rw [this] at hf; cases hf
      · rcases hcase with ⟨a, b⟩ | ⟨a, b⟩
        · exact .inr ⟨a, b⟩
        · exact .inl ⟨by rw [a]; exact u1, .inl (by unfold secC; rw [a, b]; exact u2)⟩
    | false =>
      left
      have hN : d.flushN = d.dirty.length := by
        unfold DK.flushN
        unfold DK.gone at hgn
        split
        · rename_i p hp; rw [hp] at hgn; cases hgn
        · rfl
      rw [hN, List.take_length] at hS
      rw [hN, List.drop_length] at hD
      have hS' : secS d.flush at' = fr := by rw [hS]; exact u2
      refine ⟨by simp [DK.flushE, ho, hgn], hg, hsz, by rw [hlen]; exact h.here, h.lr, h.lr, h.lo, fun _ => ⟨hS', by unfold secC; rw [hD, hS']; rfl, u3⟩, fun hf => ?_⟩
      have : d.flush.off = false := by rw [e]; exact (not_gone hgn).trans ho
      rw [this] at hf; cases hf
theorem boot (h : LI d at' sf fr ot) (keep : List Int) : ((∃ k, k ≤ 64 ∧ secS (d.boot keep) at' = fr.take k ++ sf.drop k) ∨ ∃ k, k ≤ 64 ∧ secS (d.boot keep) at' = ot.take k ++ sf.drop k) ∧ LI (d.boot keep) at' (secS (d.boot keep) at') (secS (d.boot keep) at') (secS (d.boot keep) at') := by
  have hg := h.good.boot keep
  obtain ⟨k, hk, e⟩ := landL_at (size := d.size) (f := fun j => keepN d.size keep j) (i := 0) h.good.rise (fun p hp => (h.good.there p hp).1) at' (fun j => keepN_le _ _ _)
  rw [← boot_idx] at e
  have hS : secS (d.boot keep) at' = match secD d at' with
    | some b => b.take k ++ (secS d at').drop k
    | none => secS d at' := e
  have hlen : (d.boot keep).safe.length = d.safe.length := landL_len _ _
  have hl : (secS (d.boot keep) at').length = 64 := by
    have h1 : at' < (d.boot keep).safe.length := by rw [hlen]; exact h.here
    have e1 : secS (d.boot keep) at' = (d.boot keep).safe[at'] := by simp [secS, List.getD, List.getElem?_eq_getElem h1]
    rw [e1, hg.sizes _ (List.getElem_mem h1)]
    exact h.size
  refine ⟨?_, ⟨hg, h.size, by rw [hlen]; exact h.here, hl, hl, hl, fun _ => ⟨rfl, rfl, rfl⟩, fun hf => by cases hf⟩⟩
  have hsz := h.size
  have hst : (secS d at' = sf ∧ (secC d at' = fr ∨ secC d at' = ot)) ∨ (secS d at' = fr ∧ secD d at' = none) := by
    cases ho : d.off with
    | true => exact h.down ho
    | false => obtain ⟨u1, u2, u3⟩ := h.up ho; exact .inl ⟨u1, .inl u2⟩
  rcases hst with ⟨h1, h2⟩ | ⟨h1, h2⟩
  · cases hd : secD d at' with
    | none =>
      rw [hd] at hS
      simp only at hS
      exact .inl ⟨0, by omega, by rw [hS, h1]; simp⟩
    | some b =>
      rw [hd] at hS
      simp only at hS
      have hc : secC d at' = b := by unfold secC; rw [hd]; rfl
      rw [hc] at h2
      rcases h2 with h2 | h2
      · exact .inl ⟨k, by omega, by rw [hS, h1, h2]⟩
      · exact .inr ⟨k, by omega, by rw [hS, h1, h2]⟩
  · rw [h2] at hS
    simp only at hS
    refine .inl ⟨64, Nat.le_refl _, ?_⟩
    rw [hS, h1, List.take_of_length_le (by rw [h.lr]; exact Nat.le_refl _), List.drop_of_length_le (by rw [h.lf]; exact Nat.le_refl _), List.append_nil]
theorem read (h : LI d at' sf fr ot) : (d.off = false → d.readE at' = 0 ∧ d.readB at' = fr) ∧ (d.off = true → d.readE at' = 30) := by
  refine ⟨fun ho => ?_, fun ho => by simp [DK.readE, ho]⟩
  obtain ⟨u1, u2, u3⟩ := h.up ho
  refine ⟨by simp [DK.readE, ho, h.isS], ?_⟩
  rw [← u2]
  simp [DK.readB, ho, h.isS, secC, secD, secS]
theorem safeB (h : LI d at' sf fr ot) : d.safeB at' = secS d at' := by simp [DK.safeB, h.isS, secS]
end LI
theorem LI.new {k at' : Nat} (h1 : k ≤ 4096) (ha : at' < k) : LI (DK.new k 64) at' (List.replicate 64 0) (List.replicate 64 0) (List.replicate 64 0) := by
  have e : secS (DK.new k 64) at' = List.replicate 64 0 := by simp [secS, DK.new, List.getD, ha]
  exact ⟨DK.Good.new h1 (by omega) (by omega), rfl, by simpa [DK.new] using ha, by simp, by simp, by simp, fun _ => ⟨e, e, rfl⟩, fun h => by cases h⟩
end Go.Proofs.Ytmcckppmciflmaa
