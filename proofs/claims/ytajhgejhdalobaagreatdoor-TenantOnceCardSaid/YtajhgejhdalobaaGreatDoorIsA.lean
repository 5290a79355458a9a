/-
  THE WALKS of iso.Format, digit, sign, other, value, ahead, packed.
-/
import Derived.Deep.CutBlock
import Derived.IntWalk
import Derived.Test.YtajhgejhdalobaaGreatDoorDgA
namespace Go.Proofs.YtajhgejhdalobaaGreatDoor

structure Fld where
  n : Int
  v : ByteArray
def fmt (n : Int) : Int × Int × Bool :=
  if n = 2 then (2, 19, true)
  else if n = 3 ∨ n = 11 ∨ n = 12 then (1, 6, true)
  else if n = 4 then (1, 12, true)
  else if n = 7 then (1, 10, true)
  else if n = 13 ∨ n = 14 ∨ n = 18 then (1, 4, true)
  else if n = 22 ∨ n = 49 ∨ n = 70 then (1, 3, true)
  else if n = 25 then (1, 2, true)
  else if n = 32 then (2, 11, true)
  else if n = 37 then (3, 12, true)
  else if n = 38 then (3, 6, true)
  else if n = 39 then (3, 2, true)
  else if n = 41 then (3, 8, true)
  else if n = 42 then (3, 15, true)
  else if n = 48 then (4, 999, true)
  else if n = 52 then (5, 8, true)
  else if n = 54 then (4, 120, true)
  else if n = 90 then (1, 42, true)
  else if n = 95 then (3, 42, true)
  else if n = 102 then (4, 28, true)
  else (0, 0, false)
def fmtOk (n : Int) : Bool := (fmt n).2.2
def kindOf (n : Int) : Int := (fmt n).1
def longOf (n : Int) : Int := (fmt n).2.1
def ahK (kind long : Int) : Nat := if kind = 2 ∨ (kind = 4 ∧ long < 100) then 2 else if kind = 4 then 3 else 0
def ah (n : Int) : Nat := ahK (kindOf n) (longOf n)
theorem fmt_range {n : Int} (h : fmtOk n = true) : 2 ≤ n ∧ n ≤ 102 := by
  by_cases hr : 2 ≤ n ∧ n ≤ 102
  · exact hr
  · have : fmt n = (0, 0, false) := by
      unfold fmt
      repeat rw [if_neg (by omega)]
    unfold fmtOk at h
    rw [this] at h
    exact absurd h Bool.false_ne_true
structure FmtF (n : Int) : Prop where
  k1 : 1 ≤ kindOf n
  k5 : kindOf n ≤ 5
  l1 : 1 ≤ longOf n
  l9 : longOf n ≤ 999
  a0 : ah n = 0 → kindOf n = 1 ∨ kindOf n = 3 ∨ kindOf n = 5
  a1 : 0 < ah n → (kindOf n = 2 ∨ kindOf n = 4) ∧ (ah n = 2 ∨ ah n = 3) ∧ longOf n < (10 ^ ah n : Nat)
def fmtChk (k : Nat) : Bool := !fmtOk (k : Int) || (decide (1 ≤ kindOf (k : Int)) && decide (kindOf (k : Int) ≤ 5) && decide (1 ≤ longOf (k : Int)) && decide (longOf (k : Int) ≤ 999) &&
  (!decide (ah (k : Int) = 0) || (decide (kindOf (k : Int) = 1) || decide (kindOf (k : Int) = 3) || decide (kindOf (k : Int) = 5))) &&
  (!decide (0 < ah (k : Int)) || ((decide (kindOf (k : Int) = 2) || decide (kindOf (k : Int) = 4)) && (decide (ah (k : Int) = 2) || decide (ah (k : Int) = 3)) && decide (longOf (k : Int) < ((10 ^ ah (k : Int) : Nat) : Int)))))
theorem fmt_facts' : ∀ k < 103, fmtChk k = true := by decide +kernel
theorem fmt_facts {n : Int} (h : fmtOk n = true) : FmtF n := by
  obtain ⟨h1, h2⟩ := fmt_range h
  obtain ⟨k, rfl⟩ : ∃ k : Nat, n = (k : Int) := ⟨n.toNat, by omega⟩
  have hc := fmt_facts' k (by omega)
  unfold fmtChk at hc
  simp only [h, Bool.not_true, Bool.false_or, Bool.and_eq_true, decide_eq_true_eq, Bool.or_eq_true, Bool.not_eq_true', decide_eq_false_iff_not] at hc
  obtain ⟨⟨⟨⟨⟨a, b⟩, c⟩, d⟩, e⟩, f⟩ := hc
  refine ⟨a, b, c, d, fun x => ?_, fun x => ?_⟩
  · rcases e with e | (e | e) | e
    · exact absurd x e
    · exact .inl e
    · exact .inr (.inl e)
    · exact .inr (.inr e)
  · rcases f with f | ⟨⟨f1, f2⟩, f3⟩
    · exact absurd x f
    · exact ⟨f1, f2, f3⟩
def isSign (c : UInt8) : Bool := decide (32 ≤ c.toNat) && decide (c.toNat ≤ 126)
def badC (kind : Int) (c : UInt8) : Bool := if kind = 5 then false else if kind = 1 ∨ kind = 2 then !isDig c else !isSign c
def otherB (l : Bs) (kind : Int) : Bool := l.any (badC kind)
def valueE (l : Bs) (kind long : Int) : Int :=
  if otherB l kind = true then 4 else if kind = 2 ∨ kind = 4 then (if long < l.length then 2 else if l.length = 0 then 4 else 0) else if (l.length : Int) ≠ long then 4 else 0
def rightF : Int → List Fld → Int
  | _, [] => 0
  | last, f :: l => if f.n ≤ last ∨ fmtOk f.n = false then 13 else if valueE (bl f.v) (kindOf f.n) (longOf f.n) ≠ 0 then valueE (bl f.v) (kindOf f.n) (longOf f.n) else rightF f.n l
def rightM (t : ByteArray) (l : List Fld) : Int := if valueE (bl t) 1 4 ≠ 0 then valueE (bl t) 1 4 else rightF 0 l
theorem other_dig {l : Bs} {kind : Int} (h : kind = 1 ∨ kind = 2) (ho : otherB l kind = false) : l.all isDig = true := by
  unfold otherB at ho
  rw [List.any_eq_false] at ho
  rw [List.all_eq_true]
  intro c hc
  have := ho c hc
  unfold badC at this
  rw [if_neg (by omega), if_pos h] at this
  simpa using this
theorem value_ok {l : Bs} {kind long : Int} (h : valueE l kind long = 0) : otherB l kind = false ∧ ((kind = 2 ∨ kind = 4) → 1 ≤ l.length ∧ (l.length : Int) ≤ long) ∧ (¬ (kind = 2 ∨ kind = 4) → (l.length : Int) = long) := by
  unfold valueE at h
  split at h
  · omega
  · rename_i ho
    refine ⟨by simpa using ho, fun hk => ?_, fun hk => ?_⟩
    · rw [if_pos hk] at h
      split at h
      · omega
      · split at h
        · omega
        · omega
    · rw [if_neg hk] at h
      split at h
      · omega
      · rename_i h2; omega
end Go.Proofs.YtajhgejhdalobaaGreatDoor
namespace Go.Proofs.YtajhgejhdalobaaGreatDoor

theorem right_fields : ∀ (l : List Fld) (last : Int), rightF last l = 0 → (∀ f ∈ l, last < f.n ∧ fmtOk f.n = true ∧ valueE (bl f.v) (kindOf f.n) (longOf f.n) = 0) ∧ l.Pairwise (fun f g => f.n < g.n)
  | [], _, _ => ⟨fun f hf => by simp at hf, List.Pairwise.nil⟩
  | f :: l, last, h => by
    unfold rightF at h
    split at h
    · omega
    split at h
    · rename_i h1 h2; exact absurd h h2
    rename_i h1 h2
    obtain ⟨h3, h4⟩ := right_fields l f.n h
    have hok : fmtOk f.n = true := by
      cases hx : fmtOk f.n with
      | true => rfl
      | false => exact absurd (Or.inr hx) h1
    have hlast : last < f.n := by
      by_cases hx : f.n ≤ last
      · exact absurd (Or.inl hx) h1
      · omega
    refine ⟨fun g hg => ?_, List.pairwise_cons.2 ⟨fun g hg => (h3 g hg).1, h4⟩⟩
    rcases List.mem_cons.1 hg with rfl | hg
    · exact ⟨hlast, hok, by simpa using h2⟩
    · obtain ⟨a, b, c⟩ := h3 g hg
      exact ⟨by omega, b, c⟩
theorem fields_right : ∀ (l : List Fld) (last : Int), (∀ f ∈ l, last < f.n ∧ fmtOk f.n = true ∧ valueE (bl f.v) (kindOf f.n) (longOf f.n) = 0) → l.Pairwise (fun f g => f.n < g.n) → rightF last l = 0
  | [], _, _, _ => rfl
  | f :: l, last, h, hp => by
    obtain ⟨a, b, c⟩ := h f List.mem_cons_self
    rw [List.pairwise_cons] at hp
    unfold rightF
    rw [if_neg (by rw [b]; simp; omega), if_neg (by rw [c]; simp)]
    exact fields_right l f.n (fun g hg => ⟨hp.1 g hg, (h g (List.mem_cons_of_mem _ hg)).2⟩) hp.2
end Go.Proofs.YtajhgejhdalobaaGreatDoor
namespace Go.Proofs.YtajhgejhdalobaaGreatDoor
open Go.RowKit

def FmtP (n : Int) (w : World) (e : Ending) (w' : World) : Prop := e = .returned (.tuple #[.int .i64 (kindOf n), .int .i64 (longOf n), .bool (fmtOk n)]) ∧ w = w'
set_option maxRecDepth 100000 in
set_option maxHeartbeats 3200000 in
theorem format_any (n : Int) (w : World) : Calls Tryz.prog 103 #[.int .i64 n] w (FmtP n w) := by
  by_cases h2 : n = 2
  · subst h2
    show Calls Tryz.prog 103 _ w (fun e w' => e = .returned (.tuple #[.int .i64 (kindOf 2), .int .i64 (longOf 2), .bool (fmtOk 2)]) ∧ w = w')
    rw [show kindOf 2 = (fmt 2).1 from rfl, show longOf 2 = (fmt 2).2.1 from rfl, show fmtOk 2 = (fmt 2).2.2 from rfl]
    simp only [fmt]
    go_enter Tryz.func103, Tryz.ntmps103
    go_wp2_with fail
    go_ret3
    exact ⟨rfl, rfl⟩
  by_cases h3 : n = 3
  · subst h3
    show Calls Tryz.prog 103 _ w (fun e w' => e = .returned (.tuple #[.int .i64 (kindOf 3), .int .i64 (longOf 3), .bool (fmtOk 3)]) ∧ w = w')
    rw [show kindOf 3 = (fmt 3).1 from rfl, show longOf 3 = (fmt 3).2.1 from rfl, show fmtOk 3 = (fmt 3).2.2 from rfl]
    simp only [fmt]
    go_enter Tryz.func103, Tryz.ntmps103
    go_wp2_with fail
    go_ret3
    exact ⟨rfl, rfl⟩
  by_cases h11 : n = 11
  · subst h11
    show Calls Tryz.prog 103 _ w (fun e w' => e = .returned (.tuple #[.int .i64 (kindOf 11), .int .i64 (longOf 11), .bool (fmtOk 11)]) ∧ w = w')
    rw [show kindOf 11 = (fmt 11).1 from rfl, show longOf 11 = (fmt 11).2.1 from rfl, show fmtOk 11 = (fmt 11).2.2 from rfl]
    simp only [fmt]
    go_enter Tryz.func103, Tryz.ntmps103
    go_wp2_with fail
    go_ret3
    exact ⟨rfl, rfl⟩
  by_cases h12 : n = 12
  · subst h12
    show Calls Tryz.prog 103 _ w (fun e w' => e = .returned (.tuple #[.int .i64 (kindOf 12), .int .i64 (longOf 12), .bool (fmtOk 12)]) ∧ w = w')
    rw [show kindOf 12 = (fmt 12).1 from rfl, show longOf 12 = (fmt 12).2.1 from rfl, show fmtOk 12 = (fmt 12).2.2 from rfl]
    simp only [fmt]
    go_enter Tryz.func103, Tryz.ntmps103
    go_wp2_with fail
    go_ret3
    exact ⟨rfl, rfl⟩
  by_cases h4 : n = 4
  · subst h4
    show Calls Tryz.prog 103 _ w (fun e w' => e = .returned (.tuple #[.int .i64 (kindOf 4), .int .i64 (longOf 4), .bool (fmtOk 4)]) ∧ w = w')
    rw [show kindOf 4 = (fmt 4).1 from rfl, show longOf 4 = (fmt 4).2.1 from rfl, show fmtOk 4 = (fmt 4).2.2 from rfl]
    simp only [fmt]
    go_enter Tryz.func103, Tryz.ntmps103
    go_wp2_with fail
    go_ret3
    exact ⟨rfl, rfl⟩
  by_cases h7 : n = 7
  · subst h7
    show Calls Tryz.prog 103 _ w (fun e w' => e = .returned (.tuple #[.int .i64 (kindOf 7), .int .i64 (longOf 7), .bool (fmtOk 7)]) ∧ w = w')
    rw [show kindOf 7 = (fmt 7).1 from rfl, show longOf 7 = (fmt 7).2.1 from rfl, show fmtOk 7 = (fmt 7).2.2 from rfl]
    simp only [fmt]
    go_enter Tryz.func103, Tryz.ntmps103
    go_wp2_with fail
    go_ret3
    exact ⟨rfl, rfl⟩
  by_cases h13 : n = 13
  · subst h13
    show Calls Tryz.prog 103 _ w (fun e w' => e = .returned (.tuple #[.int .i64 (kindOf 13), .int .i64 (longOf 13), .bool (fmtOk 13)]) ∧ w = w')
    rw [show kindOf 13 = (fmt 13).1 from rfl, show longOf 13 = (fmt 13).2.1 from rfl, show fmtOk 13 = (fmt 13).2.2 from rfl]
    simp only [fmt]
    go_enter Tryz.func103, Tryz.ntmps103
    go_wp2_with fail
    go_ret3
    exact ⟨rfl, rfl⟩
  by_cases h14 : n = 14
  · subst h14
    show Calls Tryz.prog 103 _ w (fun e w' => e = .returned (.tuple #[.int .i64 (kindOf 14), .int .i64 (longOf 14), .bool (fmtOk 14)]) ∧ w = w')
    rw [show kindOf 14 = (fmt 14).1 from rfl, show longOf 14 = (fmt 14).2.1 from rfl, show fmtOk 14 = (fmt 14).2.2 from rfl]
    simp only [fmt]
    go_enter Tryz.func103, Tryz.ntmps103
    go_wp2_with fail
    go_ret3
    exact ⟨rfl, rfl⟩
  by_cases h18 : n = 18
  · subst h18
    show Calls Tryz.prog 103 _ w (fun e w' => e = .returned (.tuple #[.int .i64 (kindOf 18), .int .i64 (longOf 18), .bool (fmtOk 18)]) ∧ w = w')
    rw [show kindOf 18 = (fmt 18).1 from rfl, show longOf 18 = (fmt 18).2.1 from rfl, show fmtOk 18 = (fmt 18).2.2 from rfl]
    simp only [fmt]
    go_enter Tryz.func103, Tryz.ntmps103
    go_wp2_with fail
    go_ret3
    exact ⟨rfl, rfl⟩
  by_cases h22 : n = 22
  · subst h22
    show Calls Tryz.prog 103 _ w (fun e w' => e = .returned (.tuple #[.int .i64 (kindOf 22), .int .i64 (longOf 22), .bool (fmtOk 22)]) ∧ w = w')
    rw [show kindOf 22 = (fmt 22).1 from rfl, show longOf 22 = (fmt 22).2.1 from rfl, show fmtOk 22 = (fmt 22).2.2 from rfl]
    simp only [fmt]
    go_enter Tryz.func103, Tryz.ntmps103
    go_wp2_with fail
    go_ret3
    exact ⟨rfl, rfl⟩
  by_cases h49 : n = 49
  · subst h49
    show Calls Tryz.prog 103 _ w (fun e w' => e = .returned (.tuple #[.int .i64 (kindOf 49), .int .i64 (longOf 49), .bool (fmtOk 49)]) ∧ w = w')
    rw [show kindOf 49 = (fmt 49).1 from rfl, show longOf 49 = (fmt 49).2.1 from rfl, show fmtOk 49 = (fmt 49).2.2 from rfl]
    simp only [fmt]
    go_enter Tryz.func103, Tryz.ntmps103
    go_wp2_with fail
    go_ret3
    exact ⟨rfl, rfl⟩
  by_cases h70 : n = 70
  · subst h70
    show Calls Tryz.prog 103 _ w (fun e w' => e = .returned (.tuple #[.int .i64 (kindOf 70), .int .i64 (longOf 70), .bool (fmtOk 70)]) ∧ w = w')
    rw [show kindOf 70 = (fmt 70).1 from rfl, show longOf 70 = (fmt 70).2.1 from rfl, show fmtOk 70 = (fmt 70).2.2 from rfl]
    simp only [fmt]
    go_enter Tryz.func103, Tryz.ntmps103
    go_wp2_with fail
    go_ret3
    exact ⟨rfl, rfl⟩
  by_cases h25 : n = 25
  · subst h25
    show Calls Tryz.prog 103 _ w (fun e w' => e = .returned (.tuple #[.int .i64 (kindOf 25), .int .i64 (longOf 25), .bool (fmtOk 25)]) ∧ w = w')
    rw [show kindOf 25 = (fmt 25).1 from rfl, show longOf 25 = (fmt 25).2.1 from rfl, show fmtOk 25 = (fmt 25).2.2 from rfl]
    simp only [fmt]
    go_enter Tryz.func103, Tryz.ntmps103
    go_wp2_with fail
    go_ret3
    exact ⟨rfl, rfl⟩
  by_cases h32 : n = 32
  · subst h32
    show Calls Tryz.prog 103 _ w (fun e w' => e = .returned (.tuple #[.int .i64 (kindOf 32), .int .i64 (longOf 32), .bool (fmtOk 32)]) ∧ w = w')
    rw [show kindOf 32 = (fmt 32).1 from rfl, show longOf 32 = (fmt 32).2.1 from rfl, show fmtOk 32 = (fmt 32).2.2 from rfl]
    simp only [fmt]
    go_enter Tryz.func103, Tryz.ntmps103
    go_wp2_with fail
    go_ret3
    exact ⟨rfl, rfl⟩
  by_cases h37 : n = 37
  · subst h37
    show Calls Tryz.prog 103 _ w (fun e w' => e = .returned (.tuple #[.int .i64 (kindOf 37), .int .i64 (longOf 37), .bool (fmtOk 37)]) ∧ w = w')
    rw [show kindOf 37 = (fmt 37).1 from rfl, show longOf 37 = (fmt 37).2.1 from rfl, show fmtOk 37 = (fmt 37).2.2 from rfl]
    simp only [fmt]
    go_enter Tryz.func103, Tryz.ntmps103
    go_wp2_with fail
    go_ret3
    exact ⟨rfl, rfl⟩
  by_cases h38 : n = 38
  · subst h38
    show Calls Tryz.prog 103 _ w (fun e w' => e = .returned (.tuple #[.int .i64 (kindOf 38), .int .i64 (longOf 38), .bool (fmtOk 38)]) ∧ w = w')
    rw [show kindOf 38 = (fmt 38).1 from rfl, show longOf 38 = (fmt 38).2.1 from rfl, show fmtOk 38 = (fmt 38).2.2 from rfl]
    simp only [fmt]
    go_enter Tryz.func103, Tryz.ntmps103
    go_wp2_with fail
    go_ret3
    exact ⟨rfl, rfl⟩
  by_cases h39 : n = 39
  · subst h39
    show Calls Tryz.prog 103 _ w (fun e w' => e = .returned (.tuple #[.int .i64 (kindOf 39), .int .i64 (longOf 39), .bool (fmtOk 39)]) ∧ w = w')
    rw [show kindOf 39 = (fmt 39).1 from rfl, show longOf 39 = (fmt 39).2.1 from rfl, show fmtOk 39 = (fmt 39).2.2 from rfl]
    simp only [fmt]
    go_enter Tryz.func103, Tryz.ntmps103
    go_wp2_with fail
    go_ret3
    exact ⟨rfl, rfl⟩
  by_cases h41 : n = 41
  · subst h41
    show Calls Tryz.prog 103 _ w (fun e w' => e = .returned (.tuple #[.int .i64 (kindOf 41), .int .i64 (longOf 41), .bool (fmtOk 41)]) ∧ w = w')
    rw [show kindOf 41 = (fmt 41).1 from rfl, show longOf 41 = (fmt 41).2.1 from rfl, show fmtOk 41 = (fmt 41).2.2 from rfl]
    simp only [fmt]
    go_enter Tryz.func103, Tryz.ntmps103
    go_wp2_with fail
    go_ret3
    exact ⟨rfl, rfl⟩
  by_cases h42 : n = 42
  · subst h42
    show Calls Tryz.prog 103 _ w (fun e w' => e = .returned (.tuple #[.int .i64 (kindOf 42), .int .i64 (longOf 42), .bool (fmtOk 42)]) ∧ w = w')
    rw [show kindOf 42 = (fmt 42).1 from rfl, show longOf 42 = (fmt 42).2.1 from rfl, show fmtOk 42 = (fmt 42).2.2 from rfl]
    simp only [fmt]
    go_enter Tryz.func103, Tryz.ntmps103
    go_wp2_with fail
    go_ret3
    exact ⟨rfl, rfl⟩
  by_cases h48 : n = 48
  · subst h48
    show Calls Tryz.prog 103 _ w (fun e w' => e = .returned (.tuple #[.int .i64 (kindOf 48), .int .i64 (longOf 48), .bool (fmtOk 48)]) ∧ w = w')
    rw [show kindOf 48 = (fmt 48).1 from rfl, show longOf 48 = (fmt 48).2.1 from rfl, show fmtOk 48 = (fmt 48).2.2 from rfl]
    simp only [fmt]
    go_enter Tryz.func103, Tryz.ntmps103
    go_wp2_with fail
    go_ret3
    exact ⟨rfl, rfl⟩
  by_cases h52 : n = 52
  · subst h52
    show Calls Tryz.prog 103 _ w (fun e w' => e = .returned (.tuple #[.int .i64 (kindOf 52), .int .i64 (longOf 52), .bool (fmtOk 52)]) ∧ w = w')
    rw [show kindOf 52 = (fmt 52).1 from rfl, show longOf 52 = (fmt 52).2.1 from rfl, show fmtOk 52 = (fmt 52).2.2 from rfl]
    simp only [fmt]
    go_enter Tryz.func103, Tryz.ntmps103
    go_wp2_with fail
    go_ret3
    exact ⟨rfl, rfl⟩
  by_cases h54 : n = 54
  · subst h54
    show Calls Tryz.prog 103 _ w (fun e w' => e = .returned (.tuple #[.int .i64 (kindOf 54), .int .i64 (longOf 54), .bool (fmtOk 54)]) ∧ w = w')
    rw [show kindOf 54 = (fmt 54).1 from rfl, show longOf 54 = (fmt 54).2.1 from rfl, show fmtOk 54 = (fmt 54).2.2 from rfl]
    simp only [fmt]
    go_enter Tryz.func103, Tryz.ntmps103
    go_wp2_with fail
    go_ret3
    exact ⟨rfl, rfl⟩
  by_cases h90 : n = 90
  · subst h90
    show Calls Tryz.prog 103 _ w (fun e w' => e = .returned (.tuple #[.int .i64 (kindOf 90), .int .i64 (longOf 90), .bool (fmtOk 90)]) ∧ w = w')
    rw [show kindOf 90 = (fmt 90).1 from rfl, show longOf 90 = (fmt 90).2.1 from rfl, show fmtOk 90 = (fmt 90).2.2 from rfl]
    simp only [fmt]
    go_enter Tryz.func103, Tryz.ntmps103
    go_wp2_with fail
    go_ret3
    exact ⟨rfl, rfl⟩
  by_cases h95 : n = 95
  · subst h95
    show Calls Tryz.prog 103 _ w (fun e w' => e = .returned (.tuple #[.int .i64 (kindOf 95), .int .i64 (longOf 95), .bool (fmtOk 95)]) ∧ w = w')
    rw [show kindOf 95 = (fmt 95).1 from rfl, show longOf 95 = (fmt 95).2.1 from rfl, show fmtOk 95 = (fmt 95).2.2 from rfl]
    simp only [fmt]
    go_enter Tryz.func103, Tryz.ntmps103
    go_wp2_with fail
    go_ret3
    exact ⟨rfl, rfl⟩
  by_cases h102 : n = 102
  · subst h102
    show Calls Tryz.prog 103 _ w (fun e w' => e = .returned (.tuple #[.int .i64 (kindOf 102), .int .i64 (longOf 102), .bool (fmtOk 102)]) ∧ w = w')
    rw [show kindOf 102 = (fmt 102).1 from rfl, show longOf 102 = (fmt 102).2.1 from rfl, show fmtOk 102 = (fmt 102).2.2 from rfl]
    simp only [fmt]
    go_enter Tryz.func103, Tryz.ntmps103
    go_wp2_with fail
    go_ret3
    exact ⟨rfl, rfl⟩
  · have hf : fmt n = (0, 0, false) := by
      unfold fmt
      repeat rw [if_neg (by omega)]
    have hk : kindOf n = 0 ∧ longOf n = 0 ∧ fmtOk n = false := by unfold kindOf longOf fmtOk; rw [hf]; exact ⟨rfl, rfl, rfl⟩
    unfold FmtP
    rw [hk.1, hk.2.1, hk.2.2]
    clear hf hk
    go_enter Tryz.func103, Tryz.ntmps103
    go_wp2_with fail
    go_ret3
    exact ⟨rfl, rfl⟩
theorem digit_any (c : Int) (w : World) : Calls Tryz.prog 236 #[.int .i32 c] w fun e w' => e = .returned (.bool (decide (48 ≤ c) && decide (c ≤ 57))) ∧ w = w' := by
  by_cases h1 : 48 ≤ c
  · have e : (decide (48 ≤ c) && decide (c ≤ 57)) = decide (c ≤ 57) := by simp [h1]
    rw [e]
    clear e
    go_enter Tryz.func236, Tryz.ntmps236
    go_wp2_with fail
    go_ret
    exact ⟨rfl, rfl⟩
  · have e : (decide (48 ≤ c) && decide (c ≤ 57)) = false := by simp [h1]
    rw [e]
    have h1' : c < 48 := by omega
    clear e h1
    go_enter Tryz.func236, Tryz.ntmps236
    go_wp2_with fail
    go_ret
    exact ⟨rfl, rfl⟩
theorem sign_any (c : Int) (w : World) : Calls Tryz.prog 235 #[.int .i32 c] w fun e w' => e = .returned (.bool (decide (32 ≤ c) && decide (c ≤ 126))) ∧ w = w' := by
  by_cases h1 : 32 ≤ c
  · have e : (decide (32 ≤ c) && decide (c ≤ 126)) = decide (c ≤ 126) := by simp [h1]
    rw [e]
    clear e
    go_enter Tryz.func235, Tryz.ntmps235
    go_wp2_with fail
    go_ret
    exact ⟨rfl, rfl⟩
  · have e : (decide (32 ≤ c) && decide (c ≤ 126)) = false := by simp [h1]
    rw [e]
    have h1' : c < 32 := by omega
    clear e h1
    go_enter Tryz.func235, Tryz.ntmps235
    go_wp2_with fail
    go_ret
    exact ⟨rfl, rfl⟩
theorem other_step {s : ByteArray} {k : Nat} {kind : Int} (hk : k < s.size) : otherB ((bl s).take (k + 1)) kind = (otherB ((bl s).take k) kind || badC kind s[k]) := by
  unfold otherB
  have h : k < (bl s).length := by rw [bl_len]; exact hk
  rw [List.take_succ_eq_append_getElem h, List.any_append]
  congr 1
  rw [List.any_cons, List.any_nil, Bool.or_false]
  rfl
theorem other_mono {s : ByteArray} {k : Nat} {kind : Int} (h : otherB ((bl s).take k) kind = true) : otherB (bl s) kind = true := by
  unfold otherB at h ⊢
  rw [List.any_eq_true] at h ⊢
  obtain ⟨c, hc, hb⟩ := h
  exact ⟨c, List.mem_of_mem_take hc, hb⟩
theorem other_at {s : ByteArray} {k : Nat} {kind : Int} (hk : k < s.size) (h : badC kind s[k] = true) : otherB (bl s) kind = true := by
  refine other_mono (k := k + 1) ?_
  rw [other_step hk, h, Bool.or_true]
set_option maxRecDepth 100000 in
set_option maxHeartbeats 1600000 in
theorem other_any (s : ByteArray) (kind : Int) (w : World) (hs : s.size ≤ maxLen) : Calls Tryz.prog 171 #[.string s, .int .i64 kind] w fun e w' => e = .returned (.bool (otherB (bl s) kind)) ∧ w = w' := by
  unfold maxLen at hs
  by_cases h5 : kind = 5
  · subst h5
    have e : otherB (bl s) 5 = false := by unfold otherB; exact List.any_eq_false.2 (fun c _ => by unfold badC; simp)
    rw [e]
    clear e
    go_enter Tryz.func171, Tryz.ntmps171
    go_wp2_with fail
    go_ret
    exact ⟨rfl, rfl⟩
  by_cases h1' : kind = 1
  · subst h1'
    have hbad : ∀ c : UInt8, badC 1 c = !(decide ((48 : Int) ≤ (c.toNat : Int)) && decide ((c.toNat : Int) ≤ 57)) := by
      intro c
      unfold badC isDig
      rw [if_neg (by omega), if_pos (by omega)]
      have e1 : decide ((48 : Int) ≤ (c.toNat : Int)) = decide (48 ≤ c.toNat) := by simp only [decide_eq_decide]; omega
      have e2 : decide ((c.toNat : Int) ≤ 57) = decide (c.toNat ≤ 57) := by simp only [decide_eq_decide]; omega
      rw [e1, e2]
    have Hbad := Lib.hid hbad
    clear hbad
    go_enter Tryz.func171, Tryz.ntmps171
    go_wp2_with fail
    go_loop [15] (fun s15 => ∃ k : Nat, k ≤ s.size ∧ s15 = .int .i64 k ∧ Hid (otherB ((bl s).take k) 1 = false)) (fun s15 => s.size - (intOf s15).toNat)
    case atStart => exact ⟨0, Nat.zero_le _, rfl, Lib.hid rfl⟩
    case round =>
      obtain ⟨k, hk, rfl, hn⟩ := hrel
      by_cases hlt : k < s.size
      · have h1 : (k : Int) < (s.size : Int) := by omega
        have hc256 : (s[k].toNat : Int) < 256 := by have := s[k].toNat_lt; omega
        have hat := run_at s k hlt
        have hk1 : k + 1 ≤ s.size := hlt
        have hb := Hbad.out s[k]
        have Hst := Lib.hid (fun (h : badC 1 s[k] = false) => (by rw [other_step hlt, hn.out, h]; rfl : otherB ((bl s).take (k + 1)) 1 = false))
        have Hno := Lib.hid (fun (h : badC 1 s[k] = true) => other_at hlt h)
        obtain ⟨bb, hbb⟩ : ∃ bb, (decide ((48 : Int) ≤ (s[k].toNat : Int)) && decide ((s[k].toNat : Int) ≤ 57)) = bb := ⟨_, rfl⟩
        have HD := Lib.hid (digit_any (s[k].toNat : Int))
        rw [hbb] at hb HD
        have HST := Lib.hid (fun (h : bb = true) => Hst.out (by rw [hb, h]; rfl))
        have HNO := Lib.hid (fun (h : bb = false) => Hno.out (by rw [hb, h]; rfl))
        have hc0 : (0 : Int) ≤ (s[k].toNat : Int) := by omega
        clear hbb hb Hst Hno
        generalize (s[k].toNat : Int) = c at *
        go_wp2_with fail
        refine (HD.out _).mono ?_
        rintro e w' ⟨rfl, rfl⟩
        cases bb with
        | true =>
          have H2 := Lib.hid (HST.out rfl)
          go_wp2_with fail
          go_round
          case rel => exact ⟨k + 1, hk1, by go_num, H2⟩
          case measure => simp [intOf]; omega
        | false =>
          have H2 := Lib.hid (HNO.out rfl)
          go_wp2_with fail
          go_ret
          exact ⟨ret_bool H2.out.symm, rfl⟩
      · have h1 : (s.size : Int) ≤ (k : Int) := by omega
        have H2 := Lib.hid (show otherB (bl s) 1 = false from (by have := hn.out; rwa [List.take_of_length_le (by rw [bl_len]; omega)] at this))
        clear hlt hn
        go_wp2_with fail
        go_ret
        exact ⟨ret_bool H2.out.symm, rfl⟩
  by_cases h2' : kind = 2
  · subst h2'
    have hbad : ∀ c : UInt8, badC 2 c = !(decide ((48 : Int) ≤ (c.toNat : Int)) && decide ((c.toNat : Int) ≤ 57)) := by
      intro c
      unfold badC isDig
      rw [if_neg (by omega), if_pos (by omega)]
      have e1 : decide ((48 : Int) ≤ (c.toNat : Int)) = decide (48 ≤ c.toNat) := by simp only [decide_eq_decide]; omega
      have e2 : decide ((c.toNat : Int) ≤ 57) = decide (c.toNat ≤ 57) := by simp only [decide_eq_decide]; omega
      rw [e1, e2]
    have Hbad := Lib.hid hbad
    clear hbad
    go_enter Tryz.func171, Tryz.ntmps171
    go_wp2_with fail
    go_loop [15] (fun s15 => ∃ k : Nat, k ≤ s.size ∧ s15 = .int .i64 k ∧ Hid (otherB ((bl s).take k) 2 = false)) (fun s15 => s.size - (intOf s15).toNat)
    case atStart => exact ⟨0, Nat.zero_le _, rfl, Lib.hid rfl⟩
    case round =>
      obtain ⟨k, hk, rfl, hn⟩ := hrel
      by_cases hlt : k < s.size
      · have h1 : (k : Int) < (s.size : Int) := by omega
        have hc256 : (s[k].toNat : Int) < 256 := by have := s[k].toNat_lt; omega
        have hat := run_at s k hlt
        have hk1 : k + 1 ≤ s.size := hlt
        have hb := Hbad.out s[k]
        have Hst := Lib.hid (fun (h : badC 2 s[k] = false) => (by rw [other_step hlt, hn.out, h]; rfl : otherB ((bl s).take (k + 1)) 2 = false))
        have Hno := Lib.hid (fun (h : badC 2 s[k] = true) => other_at hlt h)
        obtain ⟨bb, hbb⟩ : ∃ bb, (decide ((48 : Int) ≤ (s[k].toNat : Int)) && decide ((s[k].toNat : Int) ≤ 57)) = bb := ⟨_, rfl⟩
        have HD := Lib.hid (digit_any (s[k].toNat : Int))
        rw [hbb] at hb HD
        have HST := Lib.hid (fun (h : bb = true) => Hst.out (by rw [hb, h]; rfl))
        have HNO := Lib.hid (fun (h : bb = false) => Hno.out (by rw [hb, h]; rfl))
        have hc0 : (0 : Int) ≤ (s[k].toNat : Int) := by omega
        clear hbb hb Hst Hno
        generalize (s[k].toNat : Int) = c at *
        go_wp2_with fail
        refine (HD.out _).mono ?_
        rintro e w' ⟨rfl, rfl⟩
        cases bb with
        | true =>
          have H2 := Lib.hid (HST.out rfl)
          go_wp2_with fail
          go_round
          case rel => exact ⟨k + 1, hk1, by go_num, H2⟩
          case measure => simp [intOf]; omega
        | false =>
          have H2 := Lib.hid (HNO.out rfl)
          go_wp2_with fail
          go_ret
          exact ⟨ret_bool H2.out.symm, rfl⟩
      · have h1 : (s.size : Int) ≤ (k : Int) := by omega
        have H2 := Lib.hid (show otherB (bl s) 2 = false from (by have := hn.out; rwa [List.take_of_length_le (by rw [bl_len]; omega)] at this))
        clear hlt hn
        go_wp2_with fail
        go_ret
        exact ⟨ret_bool H2.out.symm, rfl⟩
  · have hbad : ∀ c : UInt8, badC kind c = !(decide ((32 : Int) ≤ (c.toNat : Int)) && decide ((c.toNat : Int) ≤ 126)) := by
      intro c
      unfold badC isSign
      rw [if_neg h5, if_neg (by omega)]
      have e1 : decide ((32 : Int) ≤ (c.toNat : Int)) = decide (32 ≤ c.toNat) := by simp only [decide_eq_decide]; omega
      have e2 : decide ((c.toNat : Int) ≤ 126) = decide (c.toNat ≤ 126) := by simp only [decide_eq_decide]; omega
      rw [e1, e2]
    have Hbad := Lib.hid hbad
    clear hbad
    go_enter Tryz.func171, Tryz.ntmps171
    go_wp2_with fail
    rw [show (kind == 5) = false by simpa using h5, show (kind == 1) = false by simpa using h1', show (kind == 2) = false by simpa using h2']
    go_loop [15] (fun s15 => ∃ k : Nat, k ≤ s.size ∧ s15 = .int .i64 k ∧ Hid (otherB ((bl s).take k) kind = false)) (fun s15 => s.size - (intOf s15).toNat)
    case atStart => exact ⟨0, Nat.zero_le _, rfl, Lib.hid rfl⟩
    case round =>
      obtain ⟨k, hk, rfl, hn⟩ := hrel
      by_cases hlt : k < s.size
      · have h1 : (k : Int) < (s.size : Int) := by omega
        have hc256 : (s[k].toNat : Int) < 256 := by have := s[k].toNat_lt; omega
        have hat := run_at s k hlt
        have hk1 : k + 1 ≤ s.size := hlt
        have hb := Hbad.out s[k]
        have Hst := Lib.hid (fun (h : badC kind s[k] = false) => (by rw [other_step hlt, hn.out, h]; rfl : otherB ((bl s).take (k + 1)) kind = false))
        have Hno := Lib.hid (fun (h : badC kind s[k] = true) => other_at hlt h)
        obtain ⟨bb, hbb⟩ : ∃ bb, (decide ((32 : Int) ≤ (s[k].toNat : Int)) && decide ((s[k].toNat : Int) ≤ 126)) = bb := ⟨_, rfl⟩
        have HD := Lib.hid (sign_any (s[k].toNat : Int))
        rw [hbb] at hb HD
        have HST := Lib.hid (fun (h : bb = true) => Hst.out (by rw [hb, h]; rfl))
        have HNO := Lib.hid (fun (h : bb = false) => Hno.out (by rw [hb, h]; rfl))
        have hc0 : (0 : Int) ≤ (s[k].toNat : Int) := by omega
        clear hbb hb Hst Hno
        generalize (s[k].toNat : Int) = c at *
        go_wp2_with fail
        refine (HD.out _).mono ?_
        rintro e w' ⟨rfl, rfl⟩
        cases bb with
        | true =>
          have H2 := Lib.hid (HST.out rfl)
          go_wp2_with fail
          go_round
          case rel => exact ⟨k + 1, hk1, by go_num, H2⟩
          case measure => simp [intOf]; omega
        | false =>
          have H2 := Lib.hid (HNO.out rfl)
          go_wp2_with fail
          go_ret
          exact ⟨ret_bool H2.out.symm, rfl⟩
      · have h1 : (s.size : Int) ≤ (k : Int) := by omega
        have H2 := Lib.hid (show otherB (bl s) kind = false from (by have := hn.out; rwa [List.take_of_length_le (by rw [bl_len]; omega)] at this))
        clear hlt hn
        go_wp2_with fail
        go_ret
        exact ⟨ret_bool H2.out.symm, rfl⟩

set_option maxHeartbeats 1600000 in
theorem value_any (s : ByteArray) (kind long : Int) (w : World) (hs : s.size ≤ maxLen) (hl : 0 ≤ long ∧ long ≤ 9223372036854775807) : Calls Tryz.prog 102 #[.string s, .int .i64 kind, .int .i64 long] w fun e w' => e = .returned (.int .i64 (valueE (bl s) kind long)) ∧ w = w' := by
  have HO := Lib.hid (fun W => other_any s kind W hs)
  unfold maxLen at hs
  unfold valueE
  rw [bl_len]
  cases ho : otherB (bl s) kind with
  | true =>
    rw [ho] at HO
    simp only [if_true]
    clear ho
    go_enter Tryz.func102, Tryz.ntmps102
    go_wp2_with fail
    refine (HO.out _).mono ?_
    rintro e w' ⟨rfl, rfl⟩
    go_wp2_with fail
    go_ret
    exact ⟨rfl, rfl⟩
  | false =>
    rw [ho] at HO
    simp only [Bool.false_eq_true, if_false]
    clear ho
    by_cases hk : kind = 2 ∨ kind = 4
    · rw [if_pos hk]
      by_cases h1 : long < (s.size : Int)
      · rw [if_pos h1]
        rcases hk with rfl | rfl
        all_goals
          go_enter Tryz.func102, Tryz.ntmps102
          go_wp2_with fail
          refine (HO.out _).mono ?_
          rintro e w' ⟨rfl, rfl⟩
          go_wp2_with fail
          go_ret
          exact ⟨rfl, rfl⟩
      · rw [if_neg h1]
        have h1' : (s.size : Int) ≤ long := by omega
        by_cases h0 : s.size = 0
        · rw [if_pos h0]
          have h0' : (s.size : Int) = 0 := by omega
          clear h1 h0
          rcases hk with rfl | rfl
          all_goals
            go_enter Tryz.func102, Tryz.ntmps102
            go_wp2_with fail
            refine (HO.out _).mono ?_
            rintro e w' ⟨rfl, rfl⟩
            go_wp2_with fail
            go_ret
            exact ⟨rfl, rfl⟩
        · rw [if_neg h0]
          have h0' : 1 ≤ (s.size : Int) := by omega
          clear h1 h0
          rcases hk with rfl | rfl
          all_goals
            go_enter Tryz.func102, Tryz.ntmps102
            go_wp2_with fail
            refine (HO.out _).mono ?_
            rintro e w' ⟨rfl, rfl⟩
            go_wp2_with fail
            go_ret
            exact ⟨rfl, rfl⟩
    · rw [if_neg hk]
      have k2 : ¬ kind = 2 := fun h => hk (.inl h)
      have k4 : ¬ kind = 4 := fun h => hk (.inr h)
      clear hk
      by_cases h1 : (s.size : Int) = long
      · rw [if_neg (by simpa using h1)]
        have hx : ((s.size : Int) != long) = false := by simpa using h1
        clear h1
        go_enter Tryz.func102, Tryz.ntmps102
        go_wp2_with fail
        refine (HO.out _).mono ?_
        rintro e w' ⟨rfl, rfl⟩
        go_wp2_with fail
        go_ret
        exact ⟨rfl, rfl⟩
      · rw [if_pos h1]
        have hx : ((s.size : Int) != long) = true := by simpa using h1
        clear h1
        go_enter Tryz.func102, Tryz.ntmps102
        go_wp2_with fail
        refine (HO.out _).mono ?_
        rintro e w' ⟨rfl, rfl⟩
        go_wp2_with fail
        go_ret
        exact ⟨rfl, rfl⟩
end Go.Proofs.YtajhgejhdalobaaGreatDoor
