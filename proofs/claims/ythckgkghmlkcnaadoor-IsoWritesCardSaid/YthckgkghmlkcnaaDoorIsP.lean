/-
  MESSAGES IN BYTES (plain): formats, what is right, what is written, what is read.
-/
import Derived.Test.YthckgkghmlkcnaaDoorDgP
namespace Go.Proofs.YthckgkghmlkcnaaDoor

structure Fld where
  n : Int
  v : ByteArray
def fmt (n : Int) : Int × Int × Bool :=
  if n = 2 then (2, 19, true)
  else if n = 3 ∨ n = 11 ∨ n = 12 then (1, 6, true)
  else if n = 4 then (1, 12, true)
  else if n = 7 then (1, 10, true)
  else if n = 13 ∨ n = 14 ∨ n = 18 then (1, 4, true)
  else if n = 22 ∨ n = 49 ∨ n = 70 then (1, 3, true)
  else if n = 25 then (1, 2, true)
  else if n = 32 then (2, 11, true)
  else if n = 37 then (3, 12, true)
  else if n = 38 then (3, 6, true)
  else if n = 39 then (3, 2, true)
  else if n = 41 then (3, 8, true)
  else if n = 42 then (3, 15, true)
  else if n = 48 then (4, 999, true)
  else if n = 52 then (5, 8, true)
  else if n = 54 then (4, 120, true)
  else if n = 90 then (1, 42, true)
  else if n = 95 then (3, 42, true)
  else if n = 102 then (4, 28, true)
  else (0, 0, false)
def fmtOk (n : Int) : Bool := (fmt n).2.2
def kindOf (n : Int) : Int := (fmt n).1
def longOf (n : Int) : Int := (fmt n).2.1
def ahK (kind long : Int) : Nat := if kind = 2 ∨ (kind = 4 ∧ long < 100) then 2 else if kind = 4 then 3 else 0
def ah (n : Int) : Nat := ahK (kindOf n) (longOf n)
theorem fmt_range {n : Int} (h : fmtOk n = true) : 2 ≤ n ∧ n ≤ 102 := by
  by_cases hr : 2 ≤ n ∧ n ≤ 102
  · exact hr
  · have : fmt n = (0, 0, false) := by
      unfold fmt
      repeat rw [if_neg (by omega)]
    unfold fmtOk at h
    rw [this] at h
    exact absurd h Bool.false_ne_true
structure FmtF (n : Int) : Prop where
  k1 : 1 ≤ kindOf n
  k5 : kindOf n ≤ 5
  l1 : 1 ≤ longOf n
  l9 : longOf n ≤ 999
  a0 : ah n = 0 → kindOf n = 1 ∨ kindOf n = 3 ∨ kindOf n = 5
  a1 : 0 < ah n → (kindOf n = 2 ∨ kindOf n = 4) ∧ (ah n = 2 ∨ ah n = 3) ∧ longOf n < (10 ^ ah n : Nat)
def fmtChk (k : Nat) : Bool := !fmtOk (k : Int) || (decide (1 ≤ kindOf (k : Int)) && decide (kindOf (k : Int) ≤ 5) && decide (1 ≤ longOf (k : Int)) && decide (longOf (k : Int) ≤ 999) &&
  (!decide (ah (k : Int) = 0) || (decide (kindOf (k : Int) = 1) || decide (kindOf (k : Int) = 3) || decide (kindOf (k : Int) = 5))) &&
  (!decide (0 < ah (k : Int)) || ((decide (kindOf (k : Int) = 2) || decide (kindOf (k : Int) = 4)) && (decide (ah (k : Int) = 2) || decide (ah (k : Int) = 3)) && decide (longOf (k : Int) < ((10 ^ ah (k : Int) : Nat) : Int)))))
theorem fmt_facts' : ∀ k < 103, fmtChk k = true := by decide +kernel
theorem fmt_facts {n : Int} (h : fmtOk n = true) : FmtF n := by
  obtain ⟨h1, h2⟩ := fmt_range h
  obtain ⟨k, rfl⟩ : ∃ k : Nat, n = (k : Int) := ⟨n.toNat, by omega⟩
  have hc := fmt_facts' k (by omega)
  unfold fmtChk at hc
  simp only [h, Bool.not_true, Bool.false_or, Bool.and_eq_true, decide_eq_true_eq, Bool.or_eq_true, Bool.not_eq_true', decide_eq_false_iff_not] at hc
  obtain ⟨⟨⟨⟨⟨a, b⟩, c⟩, d⟩, e⟩, f⟩ := hc
  refine ⟨a, b, c, d, fun x => ?_, fun x => ?_⟩
  · rcases e with e | (e | e) | e
    · exact absurd x e
    · exact .inl e
    · exact .inr (.inl e)
    · exact .inr (.inr e)
  · rcases f with f | ⟨⟨f1, f2⟩, f3⟩
    · exact absurd x f
    · exact ⟨f1, f2, f3⟩
def isSign (c : UInt8) : Bool := decide (32 ≤ c.toNat) && decide (c.toNat ≤ 126)
def badC (kind : Int) (c : UInt8) : Bool := if kind = 5 then false else if kind = 1 ∨ kind = 2 then !isDig c else !isSign c
def otherB (l : Bs) (kind : Int) : Bool := l.any (badC kind)
def valueE (l : Bs) (kind long : Int) : Int :=
  if otherB l kind = true then 4 else if kind = 2 ∨ kind = 4 then (if long < l.length then 2 else if l.length = 0 then 4 else 0) else if (l.length : Int) ≠ long then 4 else 0
def rightF : Int → List Fld → Int
  | _, [] => 0
  | last, f :: l => if f.n ≤ last ∨ fmtOk f.n = false then 13 else if valueE (bl f.v) (kindOf f.n) (longOf f.n) ≠ 0 then valueE (bl f.v) (kindOf f.n) (longOf f.n) else rightF f.n l
def rightM (t : ByteArray) (l : List Fld) : Int := if valueE (bl t) 1 4 ≠ 0 then valueE (bl t) 1 4 else rightF 0 l
def packedK (kind : Int) : Bool := decide (kind = 1) || decide (kind = 2)
def fieldB (n : Int) (v : Bs) : Bs := (if 0 < ah n then packB (textB v.length (ah n)) else []) ++ (if packedK (kindOf n) = true then packB v else v)
/-- what is read -/
def readV (b : Bs) (kind : Int) (long : Nat) : Int × Bs × Bs :=
  if packedK kind = true then (if unpE b long ≠ 0 then (unpE b long, [], []) else (0, unpS b long, b.drop ((long + 1) / 2)))
  else if b.length < long then (3, [], []) else if otherB (b.take long) kind = true then (4, [], []) else (0, b.take long, b.drop long)
def readF (b : Bs) (n : Int) : Int × Bs × Bs :=
  if 0 < ah n then
    (if unpE b (ah n) ≠ 0 then (unpE b (ah n), [], [])
     else if numB (unpS b (ah n)) = 0 then (4, [], [])
     else if longOf n < numB (unpS b (ah n)) then (2, [], [])
     else readV (b.drop ((ah n + 1) / 2)) (kindOf n) (numB (unpS b (ah n))))
  else readV b (kindOf n) (longOf n).toNat
theorem other_dig {l : Bs} {kind : Int} (h : kind = 1 ∨ kind = 2) (ho : otherB l kind = false) : l.all isDig = true := by
  unfold otherB at ho
  rw [List.any_eq_false] at ho
  rw [List.all_eq_true]
  intro c hc
  have := ho c hc
  unfold badC at this
  rw [if_neg (by omega), if_pos h] at this
  simpa using this
theorem dig_other {l : Bs} {kind : Int} (h : kind = 1 ∨ kind = 2) (hd : l.all isDig = true) : otherB l kind = false := by
  unfold otherB
  rw [List.any_eq_false]
  rw [List.all_eq_true] at hd
  intro c hc
  unfold badC
  rw [if_neg (by omega), if_pos h, hd c hc]
  simp
theorem packed_iff {kind : Int} : packedK kind = true ↔ kind = 1 ∨ kind = 2 := by simp [packedK]
/-- a value that is right -/
theorem value_ok {l : Bs} {kind long : Int} (h : valueE l kind long = 0) : otherB l kind = false ∧ ((kind = 2 ∨ kind = 4) → 1 ≤ l.length ∧ (l.length : Int) ≤ long) ∧ (¬ (kind = 2 ∨ kind = 4) → (l.length : Int) = long) := by
  unfold valueE at h
  split at h
  · omega
  · rename_i ho
    refine ⟨by simpa using ho, fun hk => ?_, fun hk => ?_⟩
    · rw [if_pos hk] at h
      split at h
      · omega
      · split at h
        · omega
        · omega
    · rw [if_neg hk] at h
      split at h
      · omega
      · rename_i h2; omega
theorem ok_value {l : Bs} {kind long : Int} (h1 : otherB l kind = false) (h2 : (kind = 2 ∨ kind = 4) → 1 ≤ l.length ∧ (l.length : Int) ≤ long) (h3 : ¬ (kind = 2 ∨ kind = 4) → (l.length : Int) = long) : valueE l kind long = 0 := by
  unfold valueE
  rw [if_neg (by rw [h1]; simp)]
  by_cases hk : kind = 2 ∨ kind = 4
  · have := h2 hk
    rw [if_pos hk, if_neg (by omega), if_neg (by omega)]
  · rw [if_neg hk, if_neg (by simpa using h3 hk)]
theorem readV_ok {v : Bs} {kind : Int} (ho : otherB v kind = false) (hn : v.length ≤ 999) (r : Bs) : readV ((if packedK kind = true then packB v else v) ++ r) kind v.length = (0, v, r) := by
  unfold readV
  by_cases hp : packedK kind = true
  · rw [if_pos hp, if_pos hp]
    obtain ⟨h1, h2⟩ := unp_pack (other_dig (packed_iff.1 hp) ho) hn r
    rw [if_neg (by rw [h1]; simp), h2, ← packB_len v, List.drop_left']
    rfl
  · rw [if_neg hp, if_neg hp, if_neg (by rw [List.length_append]; omega), List.take_left', List.drop_left', if_neg (by rw [ho]; simp)]
    · rfl
    · rfl
/-- what was written is read -/
theorem readF_field {n : Int} {v : Bs} (hf : fmtOk n = true) (hv : valueE v (kindOf n) (longOf n) = 0) (r : Bs) : readF (fieldB n v ++ r) n = (0, v, r) := by
  have F := fmt_facts hf
  obtain ⟨ho, h1, h2⟩ := value_ok hv
  have hl9 := F.l9
  unfold readF fieldB
  by_cases ha : 0 < ah n
  · obtain ⟨hk, hd, hlt⟩ := F.a1 ha
    obtain ⟨hv1, hv2⟩ := h1 hk
    obtain ⟨e1, e2⟩ := num_text hd (n := v.length) (by omega)
    rw [if_pos ha, if_pos ha, List.append_assoc]
    have hlen := textB_len v.length (ah n)
    obtain ⟨u1, u2⟩ := unp_pack e2 (by omega) ((if packedK (kindOf n) = true then packB v else v) ++ r)
    rw [hlen] at u1 u2
    have hpl : (packB (textB v.length (ah n))).length = (ah n + 1) / 2 := by rw [packB_len, hlen]
    rw [if_neg (by rw [u1]; simp), u2, e1, if_neg (by omega), if_neg (by omega), List.drop_left' hpl]
    exact readV_ok ho (by omega) r
  · rw [if_neg ha, if_neg ha]
    have hk : ¬ (kindOf n = 2 ∨ kindOf n = 4) := by rcases F.a0 (by omega) with h | h | h <;> omega
    have := h2 hk
    rw [show (longOf n).toNat = v.length by omega]
    exact readV_ok ho (by omega) r
theorem ok_readV {b v r : Bs} {kind : Int} {long : Nat} (h : readV b kind long = (0, v, r)) : otherB v kind = false ∧ v.length = long ∧ b = (if packedK kind = true then packB v else v) ++ r := by
  unfold readV at h
  by_cases hp : packedK kind = true
  · rw [if_pos hp] at h
    split at h
    · rename_i hx; simp at h; exact absurd h.1 hx
    · rename_i hx
      simp only [Prod.mk.injEq, true_and] at h
      obtain ⟨rfl, rfl⟩ := h
      obtain ⟨-, -, p3, p4, p5⟩ := pack_unp (show unpE b long = 0 by simpa using hx)
      refine ⟨dig_other (packed_iff.1 hp) p4, p5, ?_⟩
      rw [if_pos hp, p3, List.take_append_drop]
  · rw [if_neg hp] at h
    split at h
    · simp at h
    · split at h
      · simp at h
      · rename_i h1 h2
        simp only [Prod.mk.injEq, true_and] at h
        obtain ⟨rfl, rfl⟩ := h
        refine ⟨by simpa using h2, by rw [List.length_take]; omega, ?_⟩
        rw [if_neg hp, List.take_append_drop]
/-- what was read is right, and is written so -/
theorem field_readF {n : Int} {b v r : Bs} (hf : fmtOk n = true) (h : readF b n = (0, v, r)) : valueE v (kindOf n) (longOf n) = 0 ∧ b = fieldB n v ++ r := by
  have F := fmt_facts hf
  have hl1 := F.l1
  unfold readF at h
  by_cases ha : 0 < ah n
  · obtain ⟨hk, hd, hlt⟩ := F.a1 ha
    rw [if_pos ha] at h
    split at h
    · rename_i hx; simp at h; exact absurd h.1 hx
    split at h
    · simp at h
    split at h
    · simp at h
    rename_i h1 h2 h3
    obtain ⟨o1, o2, o3⟩ := ok_readV h
    obtain ⟨-, -, p3, p4, p5⟩ := pack_unp (show unpE b (ah n) = 0 by simpa using h1)
    obtain ⟨t1, -⟩ := text_num hd p5 p4
    refine ⟨ok_value o1 (fun _ => by omega) (fun hk' => absurd hk hk'), ?_⟩
    unfold fieldB
    rw [if_pos ha, o2, t1, p3, List.append_assoc, ← o3, List.take_append_drop]
  · rw [if_neg ha] at h
    obtain ⟨o1, o2, o3⟩ := ok_readV h
    have hk : ¬ (kindOf n = 2 ∨ kindOf n = 4) := by rcases F.a0 (by omega) with h | h | h <;> omega
    refine ⟨ok_value o1 (fun hk' => absurd hk' hk) (fun _ => by omega), ?_⟩
    unfold fieldB
    rw [if_neg ha, List.nil_append]
    exact o3
end Go.Proofs.YthckgkghmlkcnaaDoor
