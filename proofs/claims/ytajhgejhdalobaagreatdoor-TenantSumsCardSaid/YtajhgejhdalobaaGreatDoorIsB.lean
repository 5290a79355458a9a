/-
  BITMAPS (plain); a message in bytes, and the way back.
-/
import Derived.Test.YtajhgejhdalobaaGreatDoorDgP
namespace Go.Proofs.YtajhgejhdalobaaGreatDoor

structure Fld where
  n : Int
  v : ByteArray
def fmt (n : Int) : Int × Int × Bool :=
  if n = 2 then (2, 19, true)
  else if n = 3 ∨ n = 11 ∨ n = 12 then (1, 6, true)
  else if n = 4 then (1, 12, true)
  else if n = 7 then (1, 10, true)
  else if n = 13 ∨ n = 14 ∨ n = 18 then (1, 4, true)
  else if n = 22 ∨ n = 49 ∨ n = 70 then (1, 3, true)
  else if n = 25 then (1, 2, true)
  else if n = 32 then (2, 11, true)
  else if n = 37 then (3, 12, true)
  else if n = 38 then (3, 6, true)
  else if n = 39 then (3, 2, true)
  else if n = 41 then (3, 8, true)
  else if n = 42 then (3, 15, true)
  else if n = 48 then (4, 999, true)
  else if n = 52 then (5, 8, true)
  else if n = 54 then (4, 120, true)
  else if n = 90 then (1, 42, true)
  else if n = 95 then (3, 42, true)
  else if n = 102 then (4, 28, true)
  else (0, 0, false)
def fmtOk (n : Int) : Bool := (fmt n).2.2
def kindOf (n : Int) : Int := (fmt n).1
def longOf (n : Int) : Int := (fmt n).2.1
def ahK (kind long : Int) : Nat := if kind = 2 ∨ (kind = 4 ∧ long < 100) then 2 else if kind = 4 then 3 else 0
def ah (n : Int) : Nat := ahK (kindOf n) (longOf n)
theorem fmt_range {n : Int} (h : fmtOk n = true) : 2 ≤ n ∧ n ≤ 102 := by
  by_cases hr : 2 ≤ n ∧ n ≤ 102
  · exact hr
  · have : fmt n = (0, 0, false) := by
      unfold fmt
      repeat rw [if_neg (by omega)]
    unfold fmtOk at h
    rw [this] at h
    exact absurd h Bool.false_ne_true
structure FmtF (n : Int) : Prop where
  k1 : 1 ≤ kindOf n
  k5 : kindOf n ≤ 5
  l1 : 1 ≤ longOf n
  l9 : longOf n ≤ 999
  a0 : ah n = 0 → kindOf n = 1 ∨ kindOf n = 3 ∨ kindOf n = 5
  a1 : 0 < ah n → (kindOf n = 2 ∨ kindOf n = 4) ∧ (ah n = 2 ∨ ah n = 3) ∧ longOf n < (10 ^ ah n : Nat)
def fmtChk (k : Nat) : Bool := !fmtOk (k : Int) || (decide (1 ≤ kindOf (k : Int)) && decide (kindOf (k : Int) ≤ 5) && decide (1 ≤ longOf (k : Int)) && decide (longOf (k : Int) ≤ 999) &&
  (!decide (ah (k : Int) = 0) || (decide (kindOf (k : Int) = 1) || decide (kindOf (k : Int) = 3) || decide (kindOf (k : Int) = 5))) &&
  (!decide (0 < ah (k : Int)) || ((decide (kindOf (k : Int) = 2) || decide (kindOf (k : Int) = 4)) && (decide (ah (k : Int) = 2) || decide (ah (k : Int) = 3)) && decide (longOf (k : Int) < ((10 ^ ah (k : Int) : Nat) : Int)))))
theorem fmt_facts' : ∀ k < 103, fmtChk k = true := by decide +kernel
theorem fmt_facts {n : Int} (h : fmtOk n = true) : FmtF n := by
  obtain ⟨h1, h2⟩ := fmt_range h
  obtain ⟨k, rfl⟩ : ∃ k : Nat, n = (k : Int) := ⟨n.toNat, by omega⟩
  have hc := fmt_facts' k (by omega)
  unfold fmtChk at hc
  simp only [h, Bool.not_true, Bool.false_or, Bool.and_eq_true, decide_eq_true_eq, Bool.or_eq_true, Bool.not_eq_true', decide_eq_false_iff_not] at hc
  obtain ⟨⟨⟨⟨⟨a, b⟩, c⟩, d⟩, e⟩, f⟩ := hc
  refine ⟨a, b, c, d, fun x => ?_, fun x => ?_⟩
  · rcases e with e | (e | e) | e
    · exact absurd x e
    · exact .inl e
    · exact .inr (.inl e)
    · exact .inr (.inr e)
  · rcases f with f | ⟨⟨f1, f2⟩, f3⟩
    · exact absurd x f
    · exact ⟨f1, f2, f3⟩
def isSign (c : UInt8) : Bool := decide (32 ≤ c.toNat) && decide (c.toNat ≤ 126)
def badC (kind : Int) (c : UInt8) : Bool := if kind = 5 then false else if kind = 1 ∨ kind = 2 then !isDig c else !isSign c
def otherB (l : Bs) (kind : Int) : Bool := l.any (badC kind)
def valueE (l : Bs) (kind long : Int) : Int :=
  if otherB l kind = true then 4 else if kind = 2 ∨ kind = 4 then (if long < l.length then 2 else if l.length = 0 then 4 else 0) else if (l.length : Int) ≠ long then 4 else 0
def rightF : Int → List Fld → Int
  | _, [] => 0
  | last, f :: l => if f.n ≤ last ∨ fmtOk f.n = false then 13 else if valueE (bl f.v) (kindOf f.n) (longOf f.n) ≠ 0 then valueE (bl f.v) (kindOf f.n) (longOf f.n) else rightF f.n l
def rightM (t : ByteArray) (l : List Fld) : Int := if valueE (bl t) 1 4 ≠ 0 then valueE (bl t) 1 4 else rightF 0 l
def packedK (kind : Int) : Bool := decide (kind = 1) || decide (kind = 2)
def fieldB (n : Int) (v : Bs) : Bs := (if 0 < ah n then packB (textB v.length (ah n)) else []) ++ (if packedK (kindOf n) = true then packB v else v)
/-- what is read -/
def readV (b : Bs) (kind : Int) (long : Nat) : Int × Bs × Bs :=
  if packedK kind = true then (if unpE b long ≠ 0 then (unpE b long, [], []) else (0, unpS b long, b.drop ((long + 1) / 2)))
  else if b.length < long then (3, [], []) else if otherB (b.take long) kind = true then (4, [], []) else (0, b.take long, b.drop long)
def readF (b : Bs) (n : Int) : Int × Bs × Bs :=
  if 0 < ah n then
    (if unpE b (ah n) ≠ 0 then (unpE b (ah n), [], [])
     else if numB (unpS b (ah n)) = 0 then (4, [], [])
     else if longOf n < numB (unpS b (ah n)) then (2, [], [])
     else readV (b.drop ((ah n + 1) / 2)) (kindOf n) (numB (unpS b (ah n))))
  else readV b (kindOf n) (longOf n).toNat
theorem other_dig {l : Bs} {kind : Int} (h : kind = 1 ∨ kind = 2) (ho : otherB l kind = false) : l.all isDig = true := by
  unfold otherB at ho
  rw [List.any_eq_false] at ho
  rw [List.all_eq_true]
  intro c hc
  have := ho c hc
  unfold badC at this
  rw [if_neg (by omega), if_pos h] at this
  simpa using this
theorem dig_other {l : Bs} {kind : Int} (h : kind = 1 ∨ kind = 2) (hd : l.all isDig = true) : otherB l kind = false := by
  unfold otherB
  rw [List.any_eq_false]
  rw [List.all_eq_true] at hd
  intro c hc
  unfold badC
  rw [if_neg (by omega), if_pos h, hd c hc]
  simp
theorem packed_iff {kind : Int} : packedK kind = true ↔ kind = 1 ∨ kind = 2 := by simp [packedK]
/-- a value that is right -/
theorem value_ok {l : Bs} {kind long : Int} (h : valueE l kind long = 0) : otherB l kind = false ∧ ((kind = 2 ∨ kind = 4) → 1 ≤ l.length ∧ (l.length : Int) ≤ long) ∧ (¬ (kind = 2 ∨ kind = 4) → (l.length : Int) = long) := by
  unfold valueE at h
  split at h
  · omega
  · rename_i ho
    refine ⟨by simpa using ho, fun hk => ?_, fun hk => ?_⟩
    · rw [if_pos hk] at h
      split at h
      · omega
      · split at h
        · omega
        · omega
    · rw [if_neg hk] at h
      split at h
      · omega
      · rename_i h2; omega
theorem ok_value {l : Bs} {kind long : Int} (h1 : otherB l kind = false) (h2 : (kind = 2 ∨ kind = 4) → 1 ≤ l.length ∧ (l.length : Int) ≤ long) (h3 : ¬ (kind = 2 ∨ kind = 4) → (l.length : Int) = long) : valueE l kind long = 0 := by
  unfold valueE
  rw [if_neg (by rw [h1]; simp)]
  by_cases hk : kind = 2 ∨ kind = 4
  · have := h2 hk
    rw [if_pos hk, if_neg (by omega), if_neg (by omega)]
  · rw [if_neg hk, if_neg (by simpa using h3 hk)]
theorem readV_ok {v : Bs} {kind : Int} (ho : otherB v kind = false) (hn : v.length ≤ 999) (r : Bs) : readV ((if packedK kind = true then packB v else v) ++ r) kind v.length = (0, v, r) := by
  unfold readV
  by_cases hp : packedK kind = true
  · rw [if_pos hp, if_pos hp]
    obtain ⟨h1, h2⟩ := unp_pack (other_dig (packed_iff.1 hp) ho) hn r
    rw [if_neg (by rw [h1]; simp), h2, ← packB_len v, List.drop_left']
    rfl
  · rw [if_neg hp, if_neg hp, if_neg (by rw [List.length_append]; omega), List.take_left', List.drop_left', if_neg (by rw [ho]; simp)]
    · rfl
    · rfl
/-- what was written is read -/
theorem readF_field {n : Int} {v : Bs} (hf : fmtOk n = true) (hv : valueE v (kindOf n) (longOf n) = 0) (r : Bs) : readF (fieldB n v ++ r) n = (0, v, r) := by
  have F := fmt_facts hf
  obtain ⟨ho, h1, h2⟩ := value_ok hv
  have hl9 := F.l9
  unfold readF fieldB
  by_cases ha : 0 < ah n
  · obtain ⟨hk, hd, hlt⟩ := F.a1 ha
    obtain ⟨hv1, hv2⟩ := h1 hk
    obtain ⟨e1, e2⟩ := num_text hd (n := v.length) (by omega)
    rw [if_pos ha, if_pos ha, List.append_assoc]
    have hlen := textB_len v.length (ah n)
    obtain ⟨u1, u2⟩ := unp_pack e2 (by omega) ((if packedK (kindOf n) = true then packB v else v) ++ r)
    rw [hlen] at u1 u2
    have hpl : (packB (textB v.length (ah n))).length = (ah n + 1) / 2 := by rw [packB_len, hlen]
    rw [if_neg (by rw [u1]; simp), u2, e1, if_neg (by omega), if_neg (by omega), List.drop_left' hpl]
    exact readV_ok ho (by omega) r
  · rw [if_neg ha, if_neg ha]
    have hk : ¬ (kindOf n = 2 ∨ kindOf n = 4) := by rcases F.a0 (by omega) with h | h | h <;> omega
    have := h2 hk
    rw [show (longOf n).toNat = v.length by omega]
    exact readV_ok ho (by omega) r
theorem ok_readV {b v r : Bs} {kind : Int} {long : Nat} (h : readV b kind long = (0, v, r)) : otherB v kind = false ∧ v.length = long ∧ b = (if packedK kind = true then packB v else v) ++ r := by
  unfold readV at h
  by_cases hp : packedK kind = true
  · rw [if_pos hp] at h
    split at h
    · rename_i hx; simp at h; exact absurd h.1 hx
    · rename_i hx
      simp only [Prod.mk.injEq, true_and] at h
      obtain ⟨rfl, rfl⟩ := h
      obtain ⟨-, -, p3, p4, p5⟩ := pack_unp (show unpE b long = 0 by simpa using hx)
      refine ⟨dig_other (packed_iff.1 hp) p4, p5, ?_⟩
      rw [if_pos hp, p3, List.take_append_drop]
  · rw [if_neg hp] at h
    split at h
    · simp at h
    · split at h
      · simp at h
      · rename_i h1 h2
        simp only [Prod.mk.injEq, true_and] at h
        obtain ⟨rfl, rfl⟩ := h
        refine ⟨by simpa using h2, by rw [List.length_take]; omega, ?_⟩
        rw [if_neg hp, List.take_append_drop]
/-- what was read is right, and is written so -/
theorem field_readF {n : Int} {b v r : Bs} (hf : fmtOk n = true) (h : readF b n = (0, v, r)) : valueE v (kindOf n) (longOf n) = 0 ∧ b = fieldB n v ++ r := by
  have F := fmt_facts hf
  have hl1 := F.l1
  unfold readF at h
  by_cases ha : 0 < ah n
  · obtain ⟨hk, hd, hlt⟩ := F.a1 ha
    rw [if_pos ha] at h
    split at h
    · rename_i hx; simp at h; exact absurd h.1 hx
    split at h
    · simp at h
    split at h
    · simp at h
    rename_i h1 h2 h3
    obtain ⟨o1, o2, o3⟩ := ok_readV h
    obtain ⟨-, -, p3, p4, p5⟩ := pack_unp (show unpE b (ah n) = 0 by simpa using h1)
    obtain ⟨t1, -⟩ := text_num hd p5 p4
    refine ⟨ok_value o1 (fun _ => by omega) (fun hk' => absurd hk hk'), ?_⟩
    unfold fieldB
    rw [if_pos ha, o2, t1, p3, List.append_assoc, ← o3, List.take_append_drop]
  · rw [if_neg ha] at h
    obtain ⟨o1, o2, o3⟩ := ok_readV h
    have hk : ¬ (kindOf n = 2 ∨ kindOf n = 4) := by rcases F.a0 (by omega) with h | h | h <;> omega
    refine ⟨ok_value o1 (fun hk' => absurd hk' hk) (fun _ => by omega), ?_⟩
    unfold fieldB
    rw [if_neg ha, List.nil_append]
    exact o3
end Go.Proofs.YtajhgejhdalobaaGreatDoor
namespace Go.Proofs.YtajhgejhdalobaaGreatDoor

def bitC (c : UInt8) (j : Nat) : Bool := decide (c.toNat / 2 ^ (7 - j) % 2 = 1)
def bitAt (a : Bs) (k : Nat) : Bool := bitC (a.getD (k / 8) 0) (k % 8)
def orB (c : UInt8) (j : Nat) : UInt8 := c ||| UInt8.ofNat (2 ^ (7 - j))
theorem bit_or' : ∀ c < 256, ∀ j < 8, ∀ i < 8, bitC (orB (UInt8.ofNat c) j) i = (decide (i = j) || bitC (UInt8.ofNat c) i) := by decide +kernel
theorem bit_or (c : UInt8) {j i : Nat} (hj : j < 8) (hi : i < 8) : bitC (orB c j) i = (decide (i = j) || bitC c i) := by
  have := bit_or' c.toNat c.toNat_lt j hj i hi
  rwa [u8_eta] at this
def sumC (c : UInt8) : Nat := (if bitC c 0 then 128 else 0) + (if bitC c 1 then 64 else 0) + (if bitC c 2 then 32 else 0) + (if bitC c 3 then 16 else 0) + (if bitC c 4 then 8 else 0) + (if bitC c 5 then 4 else 0) + (if bitC c 6 then 2 else 0) + (if bitC c 7 then 1 else 0)
theorem sumC' : ∀ c < 256, sumC (UInt8.ofNat c) = c := by decide +kernel
theorem byte_ext {c d : UInt8} (h : ∀ j < 8, bitC c j = bitC d j) : c = d := by
  have h1 := sumC' c.toNat c.toNat_lt
  have h2 := sumC' d.toNat d.toNat_lt
  rw [u8_eta] at h1 h2
  apply UInt8.toNat_inj.1
  rw [← h1, ← h2]
  unfold sumC
  rw [h 0 (by omega), h 1 (by omega), h 2 (by omega), h 3 (by omega), h 4 (by omega), h 5 (by omega), h 6 (by omega), h 7 (by omega)]
def setBit (a : Bs) (k : Nat) : Bs := a.set (k / 8) (orB (a.getD (k / 8) 0) (k % 8))
theorem setBit_len (a : Bs) (k : Nat) : (setBit a k).length = a.length := by simp [setBit]
theorem bit_set {a : Bs} {k : Nat} (hk : k / 8 < a.length) (i : Nat) : bitAt (setBit a k) i = (decide (i = k) || bitAt a i) := by
  unfold bitAt setBit
  by_cases hi : i / 8 = k / 8
  · rw [hi]
    have e : (a.set (k / 8) (orB (a.getD (k / 8) 0) (k % 8))).getD (k / 8) 0 = orB (a.getD (k / 8) 0) (k % 8) := by simp [List.getD, hk]
    rw [e, bit_or _ (by omega) (by omega)]
    congr 1
    simp only [decide_eq_decide]
    omega
  · have e : (a.set (k / 8) (orB (a.getD (k / 8) 0) (k % 8))).getD (i / 8) 0 = a.getD (i / 8) 0 := by
      simp only [List.getD_eq_getElem?_getD]
      rw [List.getElem?_set_ne (fun e => hi e.symm)]
    rw [e]
    have : decide (i = k) = false := by simp; intro e; exact hi (by rw [e])
    rw [this, Bool.false_or]
theorem bits_ext {a b : Bs} (hl : a.length = b.length) (h : ∀ i < 8 * a.length, bitAt a i = bitAt b i) : a = b := by
  apply List.ext_getElem hl
  intro n h1 h2
  apply byte_ext
  intro j hj
  have := h (8 * n + j) (by omega)
  unfold bitAt at this
  rw [show (8 * n + j) / 8 = n by omega, show (8 * n + j) % 8 = j by omega] at this
  simpa [List.getD, h1, h2] using this
def mapF (a : Bs) : List Fld → Bs
  | [] => a
  | f :: l => mapF (setBit (if 64 < f.n then setBit a 0 else a) (f.n.toNat - 1)) l
def above (l : List Fld) : Bool := l.any (fun f => decide (64 < f.n))
def zeros (n : Nat) : Bs := List.replicate n 0
def mapsB (l : List Fld) : Bs := if above l = true then mapF (zeros 16) l else (mapF (zeros 16) l).take 8
def hasN (l : List Fld) (k : Nat) : Bool := l.any (fun f => decide (((k : Int) + 1) = f.n))
theorem mapF_bit : ∀ (l : List Fld) (a : Bs), (∀ f ∈ l, 2 ≤ f.n ∧ f.n ≤ 128) → a.length = 16 → (mapF a l).length = 16 ∧ ∀ i, bitAt (mapF a l) i = (bitAt a i || hasN l i || (decide (i = 0) && above l))
  | [], a, _, ha => ⟨ha, fun i => by simp [mapF, hasN, above]⟩
  | f :: l, a, hf, ha => by
    obtain ⟨f1, f2⟩ := hf f List.mem_cons_self
    obtain ⟨h1, h2⟩ := mapF_bit l (setBit (if 64 < f.n then setBit a 0 else a) (f.n.toNat - 1)) (fun g hg => hf g (List.mem_cons_of_mem _ hg)) (by rw [setBit_len]; split <;> simp [setBit_len, ha])
    refine ⟨h1, fun i => ?_⟩
    show bitAt (mapF (setBit (if 64 < f.n then setBit a 0 else a) (f.n.toNat - 1)) l) i = _
    rw [h2 i, bit_set (by split <;> simp only [setBit_len, ha] <;> omega)]
    have e1 : hasN (f :: l) i = (decide (i = f.n.toNat - 1) || hasN l i) := by
      unfold hasN
      rw [List.any_cons]
      congr 1
      simp only [decide_eq_decide]
      omega
    have e2 : above (f :: l) = (decide (64 < f.n) || above l) := by unfold above; rw [List.any_cons]
    rw [e1, e2]
    by_cases h64 : 64 < f.n
    · rw [if_pos h64, bit_set (by rw [ha]; omega)]
      have : decide (64 < f.n) = true := by simpa using h64
      rw [this]
      cases decide (i = f.n.toNat - 1) <;> cases decide (i = 0) <;> cases bitAt a i <;> cases hasN l i <;> cases above l <;> rfl
    · rw [if_neg h64]
      have : decide (64 < f.n) = false := by simpa using h64
      rw [this]
      cases decide (i = f.n.toNat - 1) <;> cases decide (i = 0) <;> cases bitAt a i <;> cases hasN l i <;> cases above l <;> rfl
theorem zeros_bit (n i : Nat) : bitAt (zeros n) i = false := by
  unfold bitAt zeros
  have : (List.replicate n (0 : UInt8)).getD (i / 8) 0 = 0 := by
    simp only [List.getD_eq_getElem?_getD, List.getElem?_replicate]
    split <;> rfl
  rw [this]
  unfold bitC
  simp
theorem take_bit {a : Bs} {n i : Nat} (hi : i < 8 * n) : bitAt (a.take n) i = bitAt a i := by
  unfold bitAt
  have : (a.take n).getD (i / 8) 0 = a.getD (i / 8) 0 := by
    simp only [List.getD_eq_getElem?_getD]
    rw [List.getElem?_take, if_pos (by omega)]
  rw [this]
theorem mapsB_bit {l : List Fld} (hf : ∀ f ∈ l, 2 ≤ f.n ∧ f.n ≤ 128) : (mapsB l).length = (if above l = true then 16 else 8) ∧ ∀ i, i < 8 * (mapsB l).length → bitAt (mapsB l) i = (hasN l i || (decide (i = 0) && above l)) := by
  obtain ⟨h1, h2⟩ := mapF_bit l (zeros 16) hf (by simp [zeros])
  unfold mapsB
  by_cases ha : above l = true
  · rw [if_pos ha, if_pos ha]
    exact ⟨h1, fun i _ => by rw [h2, zeros_bit, Bool.false_or]⟩
  · rw [if_neg ha, if_neg ha]
    have hl : ((mapF (zeros 16) l).take 8).length = 8 := by rw [List.length_take, h1]; rfl
    exact ⟨hl, fun i hi => by rw [take_bit (by omega), h2, zeros_bit, Bool.false_or]⟩
def numsOf (maps : Bs) : List Nat := ((List.range (8 * maps.length)).filter (fun k => decide (1 ≤ k) && bitAt maps k)).map (fun k => k + 1)
theorem nums_mem {maps : Bs} {n : Nat} : n ∈ numsOf maps ↔ 2 ≤ n ∧ n ≤ 8 * maps.length ∧ bitAt maps (n - 1) = true := by
  unfold numsOf
  simp only [List.mem_map, List.mem_filter, List.mem_range, Bool.and_eq_true, decide_eq_true_eq]
  constructor
  · rintro ⟨k, ⟨h1, h2, h3⟩, rfl⟩
    exact ⟨by omega, by omega, by simpa using h3⟩
  · rintro ⟨h1, h2, h3⟩
    exact ⟨n - 1, ⟨by omega, by omega, h3⟩, by omega⟩
theorem nums_sorted (maps : Bs) : (numsOf maps).Pairwise (· < ·) := by
  unfold numsOf
  rw [List.pairwise_map]
  exact (List.Pairwise.filter _ List.pairwise_lt_range).imp (fun h => by omega)
theorem asc_ext : ∀ {a b : List Nat}, a.Pairwise (· < ·) → b.Pairwise (· < ·) → (∀ n, n ∈ a ↔ n ∈ b) → a = b
  | [], [], _, _, _ => rfl
  | [], y :: b, _, _, h => by have := (h y).2 List.mem_cons_self; simp at this
  | x :: a, [], _, _, h => by have := (h x).1 List.mem_cons_self; simp at this
  | x :: a, y :: b, ha, hb, h => by
    rw [List.pairwise_cons] at ha hb
    have exy : x = y := by
      have h1 := (h x).1 List.mem_cons_self
      have h2 := (h y).2 List.mem_cons_self
      rcases List.mem_cons.1 h1 with e | h1
      · exact e
      · rcases List.mem_cons.1 h2 with e | h2
        · exact e.symm
        · have := ha.1 y h2; have := hb.1 x h1; omega
    subst exy
    rw [asc_ext ha.2 hb.2 (fun n => ?_)]
    constructor
    · intro hn
      rcases List.mem_cons.1 ((h n).1 (List.mem_cons_of_mem _ hn)) with e | q
      · have := ha.1 n hn; omega
      · exact q
    · intro hn
      rcases List.mem_cons.1 ((h n).2 (List.mem_cons_of_mem _ hn)) with e | q
      · have := hb.1 n hn; omega
      · exact q
/-- the fields of a right message -/
theorem right_fields : ∀ (l : List Fld) (last : Int), rightF last l = 0 → (∀ f ∈ l, last < f.n ∧ fmtOk f.n = true ∧ valueE (bl f.v) (kindOf f.n) (longOf f.n) = 0) ∧ l.Pairwise (fun f g => f.n < g.n)
  | [], _, _ => ⟨fun f hf => by simp at hf, List.Pairwise.nil⟩
  | f :: l, last, h => by
    unfold rightF at h
    split at h
    · omega
    split at h
    · rename_i h1 h2; exact absurd h h2
    rename_i h1 h2
    obtain ⟨h3, h4⟩ := right_fields l f.n h
    have hok : fmtOk f.n = true := by
      cases hx : fmtOk f.n with
      | true => rfl
      | false => exact absurd (Or.inr hx) h1
    have hlast : last < f.n := by
      by_cases hx : f.n ≤ last
      · exact absurd (Or.inl hx) h1
      · omega
    refine ⟨fun g hg => ?_, List.pairwise_cons.2 ⟨fun g hg => (h3 g hg).1, h4⟩⟩
    rcases List.mem_cons.1 hg with rfl | hg
    · exact ⟨hlast, hok, by simpa using h2⟩
    · obtain ⟨a, b, c⟩ := h3 g hg
      exact ⟨by omega, b, c⟩
theorem fields_right : ∀ (l : List Fld) (last : Int), (∀ f ∈ l, last < f.n ∧ fmtOk f.n = true ∧ valueE (bl f.v) (kindOf f.n) (longOf f.n) = 0) → l.Pairwise (fun f g => f.n < g.n) → rightF last l = 0
  | [], _, _, _ => rfl
  | f :: l, last, h, hp => by
    obtain ⟨a, b, c⟩ := h f List.mem_cons_self
    rw [List.pairwise_cons] at hp
    unfold rightF
    rw [if_neg (by rw [b]; simp; omega), if_neg (by rw [c]; simp)]
    exact fields_right l f.n (fun g hg => ⟨hp.1 g hg, (h g (List.mem_cons_of_mem _ hg)).2⟩) hp.2
theorem nums_maps {l : List Fld} (h : rightF 0 l = 0) : numsOf (mapsB l) = l.map (fun f => f.n.toNat) := by
  obtain ⟨h1, h2⟩ := right_fields l 0 h
  have hr : ∀ f ∈ l, 2 ≤ f.n ∧ f.n ≤ 102 := fun f hf => fmt_range (h1 f hf).2.1
  obtain ⟨m1, m2⟩ := mapsB_bit (l := l) (fun f hf => ⟨(hr f hf).1, by have := (hr f hf).2; omega⟩)
  refine asc_ext (nums_sorted _) ?_ (fun n => ?_)
  · rw [List.pairwise_map]
    exact List.Pairwise.imp_of_mem (fun {a b} ha hb hab => by have := hr a ha; have := hr b hb; omega) h2
  · rw [nums_mem]
    constructor
    · rintro ⟨n1, n2, n3⟩
      rw [m2 _ (by omega)] at n3
      have e0 : decide (n - 1 = 0) = false := by simp; omega
      rw [e0, Bool.false_and, Bool.or_false] at n3
      unfold hasN at n3
      rw [List.any_eq_true] at n3
      obtain ⟨f, hf, hn⟩ := n3
      exact List.mem_map.2 ⟨f, hf, by have hn' : ((n - 1 : Nat) : Int) + 1 = f.n := by simpa using hn
                                      omega⟩
    · intro hn
      obtain ⟨f, hf, rfl⟩ := List.mem_map.1 hn
      have := hr f hf
      have hlt : f.n.toNat ≤ 8 * (mapsB l).length := by
        rw [m1]
        by_cases ha : above l = true
        · rw [if_pos ha]; omega
        · rw [if_neg ha]
          have : ¬ 64 < f.n := fun hx => ha (by unfold above; rw [List.any_eq_true]; exact ⟨f, hf, by simpa using hx⟩)
          omega
      refine ⟨by omega, hlt, ?_⟩
      rw [m2 _ (by omega)]
      have : hasN l (f.n.toNat - 1) = true := by
        unfold hasN
        rw [List.any_eq_true]
        exact ⟨f, hf, by simp; omega⟩
      rw [this]
      rfl
/-- bytes that are not all 0 have a 1 -/
theorem some_bit {a : Bs} (h : a.all (fun c => decide (c = 0)) = false) : ∃ i, i < 8 * a.length ∧ bitAt a i = true := by
  by_cases hx : ∃ i, i < 8 * a.length ∧ bitAt a i = true
  · exact hx
  · have : a = zeros a.length := bits_ext (by simp [zeros]) (fun i hi => by
      rw [zeros_bit]
      cases hb : bitAt a i with
      | false => rfl
      | true => exact absurd ⟨i, hi, hb⟩ hx)
    rw [this] at h
    unfold zeros at h
    simp at h
theorem drop_bit (a : Bs) (n i : Nat) : bitAt (a.drop n) i = bitAt a (8 * n + i) := by
  unfold bitAt
  rw [show (8 * n + i) / 8 = n + i / 8 by omega, show (8 * n + i) % 8 = i % 8 by omega]
  simp only [List.getD_eq_getElem?_getD, List.getElem?_drop]
theorem maps_nums {maps : Bs} {l : List Fld} (hl : (maps.length = 8 ∧ bitAt maps 0 = false) ∨ (maps.length = 16 ∧ bitAt maps 0 = true ∧ (maps.drop 8).all (fun c => decide (c = 0)) = false))
    (hf : ∀ f ∈ l, fmtOk f.n = true) (hn : l.map (fun f => f.n.toNat) = numsOf maps) : mapsB l = maps := by
  have hr : ∀ f ∈ l, 2 ≤ f.n ∧ f.n ≤ 102 := fun f h => fmt_range (hf f h)
  obtain ⟨m1, m2⟩ := mapsB_bit (l := l) (fun f hf => ⟨(hr f hf).1, by have := (hr f hf).2; omega⟩)
  have hmem : ∀ k : Nat, 1 ≤ k → k < 8 * maps.length → (hasN l k = bitAt maps k) := by
    intro k k1 k2
    have h1 : hasN l k = true ↔ k + 1 ∈ l.map (fun f => f.n.toNat) := by
      unfold hasN
      rw [List.any_eq_true, List.mem_map]
      constructor
      · rintro ⟨f, hf, he⟩
        have he' : (k : Int) + 1 = f.n := by simpa using he
        exact ⟨f, hf, by omega⟩
      · rintro ⟨f, hf, he⟩
        have := hr f hf
        exact ⟨f, hf, by simp; omega⟩
    rw [hn, nums_mem] at h1
    cases hb : bitAt maps k with
    | true => exact h1.2 ⟨by omega, by omega, by simpa using hb⟩
    | false =>
      cases hh : hasN l k with
      | false => rfl
      | true => have := (h1.1 hh).2.2; rw [Nat.add_sub_cancel, hb] at this; simp at this
  have h0 : hasN l 0 = false := by
    cases hh : hasN l 0 with
    | false => rfl
    | true =>
      unfold hasN at hh
      rw [List.any_eq_true] at hh
      obtain ⟨f, hf, he⟩ := hh
      have he' : ((0 : Nat) : Int) + 1 = f.n := by simpa using he
      have := hr f hf
      omega
  have key : ∀ (A : Bool), above l = A → (maps.length = if A = true then 16 else 8) → bitAt maps 0 = A → mapsB l = maps := by
    intro A ha hlen hb0
    rw [ha] at m1
    refine bits_ext (by rw [m1, hlen]) (fun i hi => ?_)
    rw [m2 i hi]
    by_cases hi0 : i = 0
    · subst hi0
      rw [h0, hb0, ha]
      simp
    · have e0 : decide (i = 0) = false := by simpa using hi0
      rw [e0, Bool.false_and, Bool.or_false]
      exact hmem i (by omega) (by rw [hlen, ← m1]; exact hi)
  rcases hl with ⟨l8, b0⟩ | ⟨l16, b0, hz⟩
  · refine key false ?_ l8 b0
    cases ha : above l with
    | false => rfl
    | true =>
      unfold above at ha
      rw [List.any_eq_true] at ha
      obtain ⟨f, hf, he⟩ := ha
      have he' : 64 < f.n := by simpa using he
      have : f.n.toNat ∈ numsOf maps := by rw [← hn]; exact List.mem_map.2 ⟨f, hf, rfl⟩
      have := (nums_mem.1 this).2.1
      omega
  · refine key true ?_ l16 b0
    obtain ⟨i, hi, hb⟩ := some_bit hz
    rw [drop_bit] at hb
    rw [List.length_drop] at hi
    have hm : 8 * 8 + i + 1 ∈ numsOf maps := nums_mem.2 ⟨by omega, by omega, by simpa using hb⟩
    rw [← hn] at hm
    obtain ⟨f, hf, he⟩ := List.mem_map.1 hm
    unfold above
    rw [List.any_eq_true]
    exact ⟨f, hf, by simp; omega⟩
/-- a message in bytes -/
def bytesM (t : ByteArray) (l : List Fld) : Bs := packB (bl t) ++ mapsB l ++ l.flatMap (fun f => fieldB f.n (bl f.v))
/-- fields that are read, one behind another -/
def readL : List Nat → Bs → Int × List (Nat × Bs) × Bs
  | [], b => (0, [], b)
  | n :: ns, b => if (readF b n).1 ≠ 0 then ((readF b n).1, [], []) else
    if (readL ns (readF b n).2.2).1 ≠ 0 then ((readL ns (readF b n).2.2).1, [], []) else (0, (n, (readF b n).2.1) :: (readL ns (readF b n).2.2).2.1, (readL ns (readF b n).2.2).2.2)
def parseR (maps b : Bs) : Int × List (Nat × Bs) × Bs := if (numsOf maps).all (fun n => fmtOk n) = false then (13, [], []) else readL (numsOf maps) b
/-- the bitmaps, and what is behind them; an error -/
def mapsR (b : Bs) : Int × Bs × Bs :=
  if b.length < 8 then (3, [], [])
  else if bitAt b 0 = true then
    (if b.length < 16 then (3, [], []) else if ((b.drop 8).take 8).all (fun c => decide (c = 0)) = true then (4, [], []) else (0, b.take 16, b.drop 16))
  else (0, b.take 8, b.drop 8)
/-- the way back: error, type, fields, what is behind -/
def parseM (b : Bs) : Int × Bs × List (Nat × Bs) × Bs :=
  if unpE b 4 ≠ 0 then (unpE b 4, [], [], [])
  else if (mapsR (b.drop 2)).1 ≠ 0 then ((mapsR (b.drop 2)).1, [], [], [])
  else if (parseR (mapsR (b.drop 2)).2.1 (mapsR (b.drop 2)).2.2).1 ≠ 0 then ((parseR (mapsR (b.drop 2)).2.1 (mapsR (b.drop 2)).2.2).1, [], [], [])
  else (0, unpS b 4, (parseR (mapsR (b.drop 2)).2.1 (mapsR (b.drop 2)).2.2).2.1, (parseR (mapsR (b.drop 2)).2.1 (mapsR (b.drop 2)).2.2).2.2)
theorem readL_write : ∀ (l : List Fld) (r : Bs), (∀ f ∈ l, fmtOk f.n = true ∧ valueE (bl f.v) (kindOf f.n) (longOf f.n) = 0) → readL (l.map (fun f => f.n.toNat)) (l.flatMap (fun f => fieldB f.n (bl f.v)) ++ r) = (0, l.map (fun f => (f.n.toNat, bl f.v)), r)
  | [], r, _ => rfl
  | f :: l, r, h => by
    obtain ⟨a, b⟩ := h f List.mem_cons_self
    have := fmt_range a
    have e : ((f.n.toNat : Nat) : Int) = f.n := by omega
    have ih := readL_write l r (fun g hg => h g (List.mem_cons_of_mem _ hg))
    simp only [List.map_cons, List.flatMap_cons, List.append_assoc]
    unfold readL
    rw [e, readF_field a b]
    simp only [ne_eq, not_true_eq_false, if_false]
    rw [ih]
    simp
theorem bit_take {a b : Bs} {i : Nat} (hi : i < 8 * a.length) : bitAt (a ++ b) i = bitAt a i := by
  unfold bitAt
  simp only [List.getD_eq_getElem?_getD]
  rw [List.getElem?_append_left (by omega)]
/-- what is written is read -/
theorem parse_bytes {t : ByteArray} {l : List Fld} (h : rightM t l = 0) (r : Bs) : parseM (bytesM t l ++ r) = (0, bl t, l.map (fun f => (f.n.toNat, bl f.v)), r) := by
  have ht : valueE (bl t) 1 4 = 0 ∧ rightF 0 l = 0 := by
    unfold rightM at h
    split at h
    · rename_i hx; exact absurd h hx
    · rename_i hx; exact ⟨by simpa using hx, h⟩
  obtain ⟨ht, hl⟩ := ht
  obtain ⟨o1, -, o3⟩ := value_ok ht
  have o3 := o3 (by omega)
  have h4 : (bl t).length = 4 := by omega
  obtain ⟨h1, h2⟩ := right_fields l 0 hl
  have hr : ∀ f ∈ l, 2 ≤ f.n ∧ f.n ≤ 102 := fun f hf => fmt_range (h1 f hf).2.1
  obtain ⟨m1, m2⟩ := mapsB_bit (l := l) (fun f hf => ⟨(hr f hf).1, by have := (hr f hf).2; omega⟩)
  have hb0 : bitAt (mapsB l) 0 = above l := by
    rw [m2 0 (by rw [m1]; split <;> omega)]
    have : hasN l 0 = false := by
      cases hh : hasN l 0 with
      | false => rfl
      | true =>
        unfold hasN at hh
        rw [List.any_eq_true] at hh
        obtain ⟨f, hf, he⟩ := hh
        have he' : ((0 : Nat) : Int) + 1 = f.n := by simpa using he
        have := hr f hf
        omega
    rw [this]
    simp
  obtain ⟨u1, u2⟩ := unp_pack (other_dig (.inl rfl) o1) (by omega) (mapsB l ++ l.flatMap (fun f => fieldB f.n (bl f.v)) ++ r)
  rw [h4] at u1 u2
  have e : bytesM t l ++ r = packB (bl t) ++ (mapsB l ++ l.flatMap (fun f => fieldB f.n (bl f.v)) ++ r) := by unfold bytesM; simp only [List.append_assoc]
  have hp2 : (packB (bl t)).length = 2 := by rw [packB_len, h4]
  rw [e]
  have hmr : mapsR (mapsB l ++ l.flatMap (fun f => fieldB f.n (bl f.v)) ++ r) = (0, mapsB l, l.flatMap (fun f => fieldB f.n (bl f.v)) ++ r) := by
    unfold mapsR
    rw [List.append_assoc, bit_take (by rw [m1]; split <;> omega), hb0]
    cases ha : above l with
    | false =>
      rw [ha] at m1
      simp only [Bool.false_eq_true, if_false] at m1 ⊢
      rw [if_neg (by rw [List.length_append, m1]; omega), List.take_left' m1, List.drop_left' m1]
    | true =>
      rw [ha] at m1
      simp only [if_true] at m1 ⊢
      have hz : (((mapsB l ++ (l.flatMap (fun f => fieldB f.n (bl f.v)) ++ r)).drop 8).take 8).all (fun c => decide (c = 0)) = false := by
        have e : ((mapsB l ++ (l.flatMap (fun f => fieldB f.n (bl f.v)) ++ r)).drop 8).take 8 = (mapsB l).drop 8 := by
          rw [List.drop_append_of_le_length (by omega), List.take_left']
          rw [List.length_drop, m1]
        rw [e]
        unfold above at ha
        rw [List.any_eq_true] at ha
        obtain ⟨f, hf, he⟩ := ha
        have he' : 64 < f.n := by simpa using he
        have := hr f hf
        cases hz : ((mapsB l).drop 8).all (fun c => decide (c = 0)) with
        | false => rfl
        | true =>
          exfalso
          have hzz : (mapsB l).drop 8 = zeros 8 := by
            rw [List.all_eq_true] at hz
            apply List.ext_getElem
            · simp [zeros, m1]
            · intro i h1 h2
              have := hz _ (List.getElem_mem h1)
              simp only [decide_eq_true_eq] at this
              rw [this]
              exact (List.getElem_replicate ..).symm
          have hb : bitAt ((mapsB l).drop 8) (f.n.toNat - 65) = true := by
            rw [drop_bit, show 8 * 8 + (f.n.toNat - 65) = f.n.toNat - 1 by omega, m2 _ (by rw [m1]; omega)]
            have : hasN l (f.n.toNat - 1) = true := by
              unfold hasN
              rw [List.any_eq_true]
              exact ⟨f, hf, by simp; omega⟩
            rw [this]
            rfl
          rw [hzz, zeros_bit] at hb
          simp at hb
      rw [if_neg (by rw [List.length_append, m1]; omega), if_neg (by rw [List.length_append, m1]; omega), hz, List.take_left' m1, List.drop_left' m1]
      simp
  have hpr : parseR (mapsB l) (l.flatMap (fun f => fieldB f.n (bl f.v)) ++ r) = (0, l.map (fun f => (f.n.toNat, bl f.v)), r) := by
    unfold parseR
    rw [nums_maps hl, if_neg, readL_write l r (fun f hf => (h1 f hf).2)]
    · rw [Bool.not_eq_false, List.all_eq_true]
      intro n hn
      obtain ⟨f, hf, rfl⟩ := List.mem_map.1 hn
      have := hr f hf
      rw [show ((f.n.toNat : Nat) : Int) = f.n by omega]
      exact (h1 f hf).2.1
  unfold parseM
  rw [u1, u2, List.drop_left' hp2, hmr, hpr]
  simp
theorem write_readL : ∀ (ns : List Nat) (b r : Bs) (q : List (Nat × Bs)), (∀ n ∈ ns, fmtOk (n : Int) = true) → readL ns b = (0, q, r) → q.map Prod.fst = ns ∧ (∀ p ∈ q, valueE p.2 (kindOf p.1) (longOf p.1) = 0) ∧ b = q.flatMap (fun p => fieldB p.1 p.2) ++ r
  | [], b, r, q, _, h => by
    unfold readL at h
    simp only [Prod.mk.injEq, true_and] at h
    obtain ⟨rfl, rfl⟩ := h
    exact ⟨rfl, fun p hp => by simp at hp, rfl⟩
  | n :: ns, b, r, q, hf, h => by
    unfold readL at h
    split at h
    · rename_i hx; simp at h; exact absurd h.1 hx
    split at h
    · rename_i hx; simp at h; exact absurd h.1 hx
    rename_i h1 h2
    simp only [Prod.mk.injEq, true_and] at h
    obtain ⟨rfl, rfl⟩ := h
    have hF : readF b n = (0, (readF b n).2.1, (readF b n).2.2) := by
      have : (readF b n).1 = 0 := by simpa using h1
      rw [← this]
    obtain ⟨v1, v2⟩ := field_readF (hf n List.mem_cons_self) hF
    have hL : readL ns (readF b n).2.2 = (0, (readL ns (readF b n).2.2).2.1, (readL ns (readF b n).2.2).2.2) := by
      have : (readL ns (readF b n).2.2).1 = 0 := by simpa using h2
      rw [← this]
    obtain ⟨q1, q2, q3⟩ := write_readL ns _ _ _ (fun m hm => hf m (List.mem_cons_of_mem _ hm)) hL
    refine ⟨by rw [List.map_cons, q1], fun p hp => ?_, ?_⟩
    · rcases List.mem_cons.1 hp with rfl | hp
      · exact v1
      · exact q2 p hp
    · rw [List.flatMap_cons, List.append_assoc, ← q3]
      exact v2
/-- the fields that were read, as a message's -/
def fldsOf (q : List (Nat × Bs)) : List Fld := q.map (fun p => ⟨(p.1 : Int), ⟨p.2.toArray⟩⟩)
theorem maps_ok {b maps r : Bs} (h : mapsR b = (0, maps, r)) : b = maps ++ r ∧ ((maps.length = 8 ∧ bitAt maps 0 = false) ∨ (maps.length = 16 ∧ bitAt maps 0 = true ∧ (maps.drop 8).all (fun c => decide (c = 0)) = false)) := by
  unfold mapsR at h
  split at h
  · simp at h
  split at h
  · split at h
    · simp at h
    split at h
    · simp at h
    rename_i h1 h2 h3 h4
    simp only [Prod.mk.injEq, true_and] at h
    obtain ⟨rfl, rfl⟩ := h
    refine ⟨(List.take_append_drop _ _).symm, .inr ⟨by rw [List.length_take]; omega, by rw [take_bit (by omega)]; exact h2, ?_⟩⟩
    rw [List.drop_take]
    simpa using h4
  · rename_i h1 h2
    simp only [Prod.mk.injEq, true_and] at h
    obtain ⟨rfl, rfl⟩ := h
    exact ⟨(List.take_append_drop _ _).symm, .inl ⟨by rw [List.length_take]; omega, by rw [take_bit (by omega)]; simpa using h2⟩⟩
/-- what is read is right, and is written so -/
theorem bytes_parse {b t r : Bs} {q : List (Nat × Bs)} (h : parseM b = (0, t, q, r)) : rightM ⟨t.toArray⟩ (fldsOf q) = 0 ∧ b = bytesM ⟨t.toArray⟩ (fldsOf q) ++ r := by
  unfold parseM at h
  split at h
  · rename_i hx; simp at h; exact absurd h.1 hx
  split at h
  · rename_i hx; simp at h; exact absurd h.1 hx
  split at h
  · rename_i hx; simp at h; exact absurd h.1 hx
  rename_i h1 h2 h3
  simp only [Prod.mk.injEq, true_and] at h
  obtain ⟨rfl, rfl, rfl⟩ := h
  obtain ⟨-, p2, p3, p4, p5⟩ := pack_unp (show unpE b 4 = 0 by simpa using h1)
  have hM : mapsR (b.drop 2) = (0, (mapsR (b.drop 2)).2.1, (mapsR (b.drop 2)).2.2) := by
    have : (mapsR (b.drop 2)).1 = 0 := by simpa using h2
    rw [← this]
  obtain ⟨e1, e2⟩ := maps_ok hM
  generalize (mapsR (b.drop 2)).2.1 = maps at *
  generalize (mapsR (b.drop 2)).2.2 = b3 at *
  unfold parseR at h3 ⊢
  by_cases hall : (numsOf maps).all (fun n => fmtOk (n : Int)) = false
  · rw [if_pos hall] at h3; simp at h3
  rw [if_neg hall] at h3 ⊢
  have hall' : ∀ n ∈ numsOf maps, fmtOk (n : Int) = true := by
    rw [Bool.not_eq_false, List.all_eq_true] at hall
    exact hall
  have hL : readL (numsOf maps) b3 = (0, (readL (numsOf maps) b3).2.1, (readL (numsOf maps) b3).2.2) := by
    have : (readL (numsOf maps) b3).1 = 0 := by simpa using h3
    rw [← this]
  obtain ⟨q1, q2, q3⟩ := write_readL _ _ _ _ hall' hL
  generalize (readL (numsOf maps) b3).2.1 = q at *
  generalize (readL (numsOf maps) b3).2.2 = r at *
  have hfl : ∀ f ∈ fldsOf q, fmtOk f.n = true ∧ valueE (bl f.v) (kindOf f.n) (longOf f.n) = 0 := by
    intro f hf
    unfold fldsOf at hf
    obtain ⟨p, hp, rfl⟩ := List.mem_map.1 hf
    exact ⟨hall' p.1 (by rw [← q1]; exact List.mem_map.2 ⟨p, hp, rfl⟩), q2 p hp⟩
  have hns : (fldsOf q).map (fun f => f.n.toNat) = numsOf maps := by
    rw [← q1]
    unfold fldsOf
    rw [List.map_map]
    rfl
  have hmb : mapsB (fldsOf q) = maps := maps_nums e2 (fun f hf => (hfl f hf).1) hns
  have hsort : (fldsOf q).Pairwise (fun f g => f.n < g.n) := by
    have := nums_sorted maps
    rw [← hns, List.pairwise_map] at this
    exact List.Pairwise.imp_of_mem (fun {a c} ha hc hab => by have := fmt_range (hfl a ha).1; have := fmt_range (hfl c hc).1; omega) this
  constructor
  · unfold rightM
    have : valueE (bl ⟨(unpS b 4).toArray⟩) 1 4 = 0 := ok_value (dig_other (.inl rfl) p4) (fun hk => by omega) (fun _ => by show ((unpS b 4).length : Int) = 4; omega)
    rw [if_neg (by rw [this]; simp)]
    exact fields_right _ 0 (fun f hf => ⟨by have := fmt_range (hfl f hf).1; omega, hfl f hf⟩) hsort
  · unfold bytesM
    rw [hmb]
    have e3 : packB (bl ⟨(unpS b 4).toArray⟩) = b.take 2 := p3
    have e4 : (fldsOf q).flatMap (fun f => fieldB f.n (bl f.v)) = q.flatMap (fun p => fieldB p.1 p.2) := by
      unfold fldsOf
      rw [List.flatMap_map]
    rw [e3, e4, List.append_assoc, List.append_assoc, ← q3, ← e1, List.take_append_drop]
end Go.Proofs.YtajhgejhdalobaaGreatDoor
