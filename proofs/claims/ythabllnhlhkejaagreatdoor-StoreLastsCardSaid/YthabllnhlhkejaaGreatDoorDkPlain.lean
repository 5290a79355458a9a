/-
  DISKS (plain): a disk's state; what each act does with it.
-/
import Derived.Test.YthabllnhlhkejaaGreatDoorBase
namespace Go.Proofs.YthabllnhlhkejaaGreatDoor

abbrev Dirt := List (Nat × Bs)
structure DK where
  off : Bool
  arm : Option (Nat × Int)
  size : Nat
  safe : List Bs
  dirty : Dirt

/-- the dirty sectors, rising -/
abbrev Rise (l : Dirt) : Prop := l.Pairwise (fun p q => p.1 < q.1)
def lookD (l : Dirt) (n : Int) : Option Bs := (l.find? (fun p => decide ((p.1 : Int) = n))).map Prod.snd
def putD : Dirt → Nat → Bs → Dirt
  | [], n, b => [(n, b)]
  | p :: l, n, b => if p.1 < n then p :: putD l n b else if p.1 = n then (n, b) :: l else (n, b) :: p :: l
/-- the first bytes of some sectors become safe -/
def landL (safe : List Bs) : List (Nat × Bs × Nat) → List Bs
  | [] => safe
  | (n, b, k) :: l => landL (safe.set n (b.take k ++ (safe.getD n []).drop k)) l

def DK.gone (d : DK) : Bool := match d.arm with
  | some (0, _) => true
  | _ => false
def DK.cut (d : DK) : DK := match d.arm with
  | none => d
  | some (0, _) => { d with off := true, arm := none }
  | some (a + 1, p) => { d with arm := some (a, p) }
def DK.oddP (d : DK) : Bool := match d.arm with
  | some (_, p) => decide (p % 2 ≠ 0)
  | none => false
def DK.isS (d : DK) (n : Int) : Bool := decide (0 ≤ n) && decide (n < d.safe.length)
def DK.writeE (d : DK) (n : Int) (len : Nat) : Int := if d.off then 30 else if d.isS n = false then 31 else if len ≠ d.size then 1 else if d.gone then 30 else 0
def DK.write (d : DK) (n : Int) (b : Bs) : DK :=
  if d.off then d else if d.isS n = false then d else if b.length ≠ d.size then d else
  if d.gone && !d.oddP then d.cut else { d.cut with dirty := putD d.dirty n.toNat b }
def DK.flushN (d : DK) : Nat := match d.arm with
  | some (0, p) => (p % ((d.dirty.length : Int) + 1)).toNat
  | _ => d.dirty.length
def DK.flushE (d : DK) : Int := if d.off then 30 else if d.gone then 30 else 0
def DK.flush (d : DK) : DK := if d.off then d else { d.cut with safe := landL d.safe ((d.dirty.take d.flushN).map (fun p => (p.1, p.2, d.size))), dirty := d.dirty.drop d.flushN }
def DK.readE (d : DK) (n : Int) : Int := if d.off then 30 else if d.isS n = false then 31 else 0
def DK.readB (d : DK) (n : Int) : Bs := if d.off then [] else if d.isS n = false then [] else (lookD d.dirty n).getD (d.safe.getD n.toNat [])
def DK.safeB (d : DK) (n : Int) : Bs := if d.isS n then d.safe.getD n.toNat [] else []
def keepN (size : Nat) (keep : List Int) (i : Nat) : Nat := match keep[i]? with
  | some k => (k % ((size : Int) + 1)).toNat
  | none => 0
def bootL (size : Nat) (keep : List Int) (i : Nat) : Dirt → List (Nat × Bs × Nat)
  | [] => []
  | p :: l => (p.1, p.2, keepN size keep i) :: bootL size keep (i + 1) l
def DK.boot (d : DK) (keep : List Int) : DK := { d with off := false, arm := none, safe := landL d.safe (bootL d.size keep 0 d.dirty), dirty := [] }
def DK.armed (d : DK) (acts part : Int) : DK := { d with arm := if 0 ≤ acts then some (acts.toNat, part) else none }
def DK.new (sectors size : Nat) : DK := ⟨false, none, size, List.replicate sectors (List.replicate size 0), []⟩

structure DK.Good (d : DK) : Prop where
  s0 : 64 ≤ d.size
  s1 : d.size ≤ 4096
  n1 : d.safe.length ≤ 4096
  sizes : ∀ b ∈ d.safe, b.length = d.size
  rise : Rise d.dirty
  there : ∀ p ∈ d.dirty, p.1 < d.safe.length ∧ p.2.length = d.size
  arm : ∀ a p, d.arm = some (a, p) → (a : Int) ≤ 9223372036854775807 ∧ -9223372036854775808 ≤ p ∧ p ≤ 9223372036854775807

theorem lookD_nil (n : Int) : lookD [] n = none := rfl
theorem lookD_cons (p : Nat × Bs) (l : Dirt) (n : Int) : lookD (p :: l) n = if (p.1 : Int) = n then some p.2 else lookD l n := by
  unfold lookD
  by_cases h : (p.1 : Int) = n
  · rw [List.find?_cons_of_pos (by simpa using h), if_pos h]; rfl
  · rw [List.find?_cons_of_neg (by simpa using h), if_neg h]
theorem lookD_none {l : Dirt} {n : Int} : lookD l n = none ↔ ∀ p ∈ l, (p.1 : Int) ≠ n := by unfold lookD; simp
theorem lookD_mem {l : Dirt} {n : Int} {b : Bs} (h : lookD l n = some b) : ∃ p ∈ l, (p.1 : Int) = n ∧ p.2 = b := by
  unfold lookD at h
  rw [Option.map_eq_some_iff] at h
  obtain ⟨r, hr, rfl⟩ := h
  exact ⟨r, List.mem_of_find?_eq_some hr, by simpa using List.find?_some hr, rfl⟩
theorem lookD_of_mem {l : Dirt} (hs : Rise l) {p : Nat × Bs} (hp : p ∈ l) : lookD l p.1 = some p.2 := by
  induction l with
  | nil => cases hp
  | cons q l ih =>
    rw [lookD_cons]
    have hs := List.pairwise_cons.1 hs
    rcases List.mem_cons.1 hp with rfl | hp
    · rw [if_pos rfl]
    · rw [if_neg, ih hs.2 hp]
      have := hs.1 p hp
      omega
theorem putD_mem {l : Dirt} {n : Nat} {b : Bs} {p : Nat × Bs} (h : p ∈ putD l n b) : p ∈ l ∨ p = (n, b) := by
  induction l with
  | nil => simp [putD] at h; exact .inr h
  | cons q l ih =>
    unfold putD at h
    split at h
    · rcases List.mem_cons.1 h with rfl | h
      · exact .inl (by simp)
      · exact (ih h).imp (fun h => List.mem_cons_of_mem _ h) (fun h => h)
    · split at h
      · rcases List.mem_cons.1 h with rfl | h
        · exact .inr rfl
        · exact .inl (List.mem_cons_of_mem _ h)
      · rcases List.mem_cons.1 h with rfl | h
        · exact .inr rfl
        · exact .inl h
theorem putD_rise {l : Dirt} (hs : Rise l) (n : Nat) (b : Bs) : Rise (putD l n b) := by
  induction l with
  | nil => simp [putD]
  | cons p l ih =>
    have hs' := List.pairwise_cons.1 hs
    unfold putD
    split
    · rename_i hl
      refine List.pairwise_cons.2 ⟨fun q hq => ?_, ih hs'.2⟩
      rcases putD_mem hq with hq | rfl
      · exact hs'.1 q hq
      · exact hl
    · split
      · rename_i he
        exact List.pairwise_cons.2 ⟨fun q hq => by have := hs'.1 q hq; show n < q.1; omega, hs'.2⟩
      · rename_i hl he
        refine List.pairwise_cons.2 ⟨fun q hq => ?_, hs⟩
        show n < q.1
        rcases List.mem_cons.1 hq with rfl | hq
        · omega
        · have := hs'.1 q hq; omega
theorem putD_look {l : Dirt} (n : Nat) (b : Bs) (m : Int) : lookD (putD l n b) m = if m = n then some b else lookD l m := by
  induction l with
  | nil =>
    rw [putD, lookD_cons, lookD_nil]
    by_cases h : m = n
    · rw [if_pos h, if_pos h.symm]
    · rw [if_neg h, if_neg (fun e => h e.symm)]
  | cons p l ih =>
    unfold putD
    split
    · rename_i hl
      rw [lookD_cons, ih, lookD_cons]
      by_cases h : (p.1 : Int) = m
      · rw [if_pos h, if_neg (by omega), if_pos h]
      · rw [if_neg h, if_neg h]
    · split
      · rename_i he
        rw [lookD_cons, lookD_cons]
        by_cases h : m = n
        · rw [if_pos h.symm, if_pos h]
        · rw [if_neg (fun e => h e.symm), if_neg h, if_neg (by omega)]
      · rw [lookD_cons]
        by_cases h : m = n
        · rw [if_pos h.symm, if_pos h]
        · rw [if_neg (fun e => h e.symm), if_neg h]
theorem putD_len {l : Dirt} (hs : Rise l) (n : Nat) (b : Bs) : (putD l n b).length = if (lookD l n).isSome then l.length else l.length + 1 := by
  induction l with
  | nil => rfl
  | cons p l ih =>
    have hs' := List.pairwise_cons.1 hs
    unfold putD
    by_cases h1 : p.1 < n
    · have e : lookD (p :: l) n = lookD l n := by rw [lookD_cons, if_neg]; omega
      rw [if_pos h1, List.length_cons, ih hs'.2, e, List.length_cons]
      split <;> rfl
    · rw [if_neg h1]
      by_cases h2 : p.1 = n
      · have e : lookD (p :: l) n = some p.2 := by rw [lookD_cons, if_pos]; omega
        rw [if_pos h2, e]; rfl
      · have h0 : lookD l n = none := lookD_none.2 (fun q hq => by have := hs'.1 q hq; omega)
        have e : lookD (p :: l) n = none := by rw [lookD_cons, if_neg, h0]; omega
        rw [if_neg h2, e]; rfl
theorem lookD_drop {l : Dirt} (p : Nat × Bs) : ∀ m : Int, Rise (p :: l) → lookD l m = if m = p.1 then none else lookD (p :: l) m := by
  intro m hp
  have hp' := List.pairwise_cons.1 hp
  rw [lookD_cons]
  by_cases h : m = p.1
  · rw [if_pos h]
    exact lookD_none.2 (fun q hq => by have := hp'.1 q hq; omega)
  · rw [if_neg h, if_neg (fun e => h e.symm)]

theorem landL_len (safe : List Bs) (l : List (Nat × Bs × Nat)) : (landL safe l).length = safe.length := by
  induction l generalizing safe with
  | nil => rfl
  | cons x l ih => obtain ⟨n, b, k⟩ := x; rw [landL, ih, List.length_set]
theorem landL_sizes {size : Nat} {safe : List Bs} {l : List (Nat × Bs × Nat)} (hs : ∀ b ∈ safe, b.length = size) (hl : ∀ x ∈ l, x.1 < safe.length ∧ x.2.1.length = size ∧ x.2.2 ≤ size) : ∀ b ∈ landL safe l, b.length = size := by
  induction l generalizing safe with
  | nil => exact hs
  | cons x l ih =>
    obtain ⟨n, b, k⟩ := x
    obtain ⟨h1, h2, h3⟩ := hl (n, b, k) (by simp)
    simp only at h1 h2 h3
    rw [landL]
    apply ih
    · intro c hc
      rcases List.mem_or_eq_of_mem_set hc with hc | rfl
      · exact hs c hc
      · have e : safe.getD n [] = safe[n] := by simp [List.getD, List.getElem?_eq_getElem h1]
        have := hs _ (List.getElem_mem h1)
        rw [e, List.length_append, List.length_take, List.length_drop, this, h2]
        omega
    · intro x hx
      have := hl x (by simp [hx])
      rw [List.length_set]; exact this
theorem keepN_le (size : Nat) (keep : List Int) (i : Nat) : keepN size keep i ≤ size := by
  unfold keepN
  split
  · rename_i k _
    have h1 : 0 ≤ k % ((size : Int) + 1) := Int.emod_nonneg _ (by omega)
    have h2 := Int.emod_lt_of_pos k (show (0 : Int) < (size : Int) + 1 by omega)
    omega
  · omega
theorem bootL_mem {size : Nat} {keep : List Int} {l : Dirt} : ∀ {i : Nat} {x : Nat × Bs × Nat}, x ∈ bootL size keep i l → ∃ p ∈ l, x.1 = p.1 ∧ x.2.1 = p.2 ∧ x.2.2 ≤ size := by
  induction l with
  | nil => intro i x h; simp [bootL] at h
  | cons p l ih =>
    intro i x h
    rw [bootL] at h
    rcases List.mem_cons.1 h with rfl | h
    · exact ⟨p, by simp, rfl, rfl, keepN_le _ _ _⟩
    · obtain ⟨q, hq, r⟩ := ih h; exact ⟨q, by simp [hq], r⟩

theorem DK.cut_same (d : DK) : d.cut.size = d.size ∧ d.cut.safe = d.safe ∧ d.cut.dirty = d.dirty := by
  unfold DK.cut; split <;> exact ⟨rfl, rfl, rfl⟩
theorem DK.Good.cut {d : DK} (h : d.Good) : d.cut.Good := by
  obtain ⟨e1, e2, e3⟩ := d.cut_same
  refine ⟨by rw [e1]; exact h.s0, by rw [e1]; exact h.s1, by rw [e2]; exact h.n1, by rw [e1, e2]; exact h.sizes, by rw [e3]; exact h.rise, by rw [e1, e2, e3]; exact h.there, ?_⟩
  intro a p hp
  unfold DK.cut at hp
  split at hp
  · rename_i h0; rw [h0] at hp; cases hp
  · cases hp
  · rename_i a0 p0 h0
    simp at hp
    obtain ⟨rfl, rfl⟩ := hp
    have := h.arm _ _ h0
    omega
theorem DK.isS_iff {d : DK} {n : Int} : d.isS n = true ↔ 0 ≤ n ∧ n < d.safe.length := by simp [DK.isS]
theorem DK.Good.put {d : DK} (h : d.Good) {n : Int} (hn : d.isS n = true) {b : Bs} (hb : b.length = d.size) : ({ d with dirty := putD d.dirty n.toNat b } : DK).Good := by
  obtain ⟨h1, h2⟩ := DK.isS_iff.1 hn
  refine ⟨h.s0, h.s1, h.n1, h.sizes, putD_rise h.rise _ _, fun p hp => ?_, h.arm⟩
  rcases putD_mem hp with hp | rfl
  · exact h.there p hp
  · exact ⟨by show n.toNat < d.safe.length; omega, hb⟩
theorem DK.Good.write {d : DK} (h : d.Good) (n : Int) (b : Bs) : (d.write n b).Good := by
  unfold DK.write
  split
  · exact h
  · split
    · exact h
    · split
      · exact h
      · rename_i h1 h2 h3
        split
        · exact h.cut
        · have hc := h.cut
          obtain ⟨e1, e2, e3⟩ := d.cut_same
          have := hc.put (n := n) (b := b) (by unfold DK.isS; rw [e2]; simpa [DK.isS] using h2) (by rw [e1]; omega)
          rwa [e3] at this
theorem DK.flushN_le (d : DK) : d.flushN ≤ d.dirty.length := by
  unfold DK.flushN
  split
  · rename_i p _
    have h1 : 0 ≤ p % ((d.dirty.length : Int) + 1) := Int.emod_nonneg _ (by omega)
    have h2 := Int.emod_lt_of_pos p (show (0 : Int) < (d.dirty.length : Int) + 1 by omega)
    omega
  · omega
theorem DK.Good.flush {d : DK} (h : d.Good) : d.flush.Good := by
  unfold DK.flush
  split
  · exact h
  · have hc := h.cut
    obtain ⟨e1, e2, e3⟩ := d.cut_same
    refine ⟨hc.s0, hc.s1, ?_, ?_, h.rise.drop, ?_, hc.arm⟩
    · show (landL _ _).length ≤ _; rw [landL_len]; exact h.n1
    · show ∀ b ∈ landL _ _, b.length = d.cut.size
      rw [e1]
      refine landL_sizes h.sizes ?_
      intro x hx
      obtain ⟨p, hp, rfl⟩ := List.mem_map.1 hx
      have := h.there p (List.mem_of_mem_take hp)
      exact ⟨this.1, this.2, Nat.le_refl _⟩
    · intro p hp
      show p.1 < (landL _ _).length ∧ p.2.length = d.cut.size
      rw [landL_len, e1]
      exact h.there p (List.mem_of_mem_drop hp)
theorem DK.Good.boot {d : DK} (h : d.Good) (keep : List Int) : (d.boot keep).Good := by
  unfold DK.boot
  refine ⟨h.s0, h.s1, ?_, ?_, List.Pairwise.nil, (fun p hp => by cases hp), (fun a p hp => by cases hp)⟩
  · show (landL _ _).length ≤ _; rw [landL_len]; exact h.n1
  · refine landL_sizes h.sizes ?_
    intro x hx
    obtain ⟨p, hp, e1, e2, e3⟩ := bootL_mem hx
    have := h.there p hp
    exact ⟨by rw [e1]; exact this.1, by rw [e2]; exact this.2, e3⟩
theorem DK.Good.armed {d : DK} (h : d.Good) {acts part : Int} (ha : acts ≤ 9223372036854775807) (hp0 : -9223372036854775808 ≤ part) (hp1 : part ≤ 9223372036854775807) : (d.armed acts part).Good := by
  refine ⟨h.s0, h.s1, h.n1, h.sizes, h.rise, h.there, fun a p hp => ?_⟩
  unfold DK.armed at hp
  simp only at hp
  split at hp
  · simp at hp
    obtain ⟨rfl, rfl⟩ := hp
    omega
  · cases hp
theorem DK.Good.new {sectors size : Nat} (h2 : sectors ≤ 4096) (h3 : 64 ≤ size) (h4 : size ≤ 4096) : (DK.new sectors size).Good :=
  ⟨h3, h4, by simpa [DK.new] using h2, (fun b hb => by simp [DK.new] at hb; rw [hb.2]; simp [DK.new]), List.Pairwise.nil, (fun p hp => by cases hp), (fun a p hp => by cases hp)⟩
end Go.Proofs.YthabllnhlhkejaaGreatDoor
