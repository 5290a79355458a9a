/-
  DIGITS (plain): packed, unpacked, their numbers.
-/
import Derived.Test.YtajhgejhdalobaaGreatDoorBase
namespace Go.Proofs.YtajhgejhdalobaaGreatDoor

/-- a text's bytes -/
abbrev bl (s : ByteArray) : Bs := s.data.toList
def isDig (c : UInt8) : Bool := decide (48 ≤ c.toNat) && decide (c.toNat ≤ 57)
def digB (s : ByteArray) : Bool := s.data.toList.all isDig
def lookE (s : ByteArray) : Int := if digB s = false then 4 else if 999 < s.size then 2 else 0
theorem bl_len (s : ByteArray) : (bl s).length = s.size := by simp [bl]
theorem bl_inj {s t : ByteArray} (h : bl s = bl t) : s = t := by
  cases s with | mk a => cases t with | mk b => cases a; cases b; simp [bl] at h; rw [h]

theorem dig_no {s : ByteArray} {k : Nat} (hk : k < s.size) (h : isDig s[k] = false) : digB s = false := by
  unfold digB
  rw [List.all_eq_false]
  exact ⟨s[k], by rw [ByteArray.getElem_eq_getElem_data]; simp, by simpa using h⟩
theorem dig_step {s : ByteArray} {k : Nat} (hk : k < s.size) (h : isDig s[k] = true) (hn : ∀ c ∈ s.data.toList.take k, isDig c = true) : ∀ c ∈ s.data.toList.take (k + 1), isDig c = true := by
  intro c hc
  rw [List.take_succ_eq_append_getElem (by simpa using hk), List.mem_append] at hc
  rcases hc with hc | hc
  · exact hn c hc
  · simp at hc
    subst hc
    rw [ByteArray.getElem_eq_getElem_data] at h
    exact h
theorem dig_yes {s : ByteArray} (hn : ∀ c ∈ s.data.toList.take s.size, isDig c = true) : digB s = true := by
  unfold digB
  rw [List.all_eq_true]
  rwa [List.take_of_length_le (by simp)] at hn

def pairsB : List UInt8 → List UInt8
  | a :: b :: r => UInt8.ofNat ((a.toNat - 48) * 16 + (b.toNat - 48)) :: pairsB r
  | _ => []
def padB (s : ByteArray) : ByteArray := if s.size % 2 = 1 then ⟨#[48]⟩ ++ s else s
def packL (s : ByteArray) : List UInt8 := pairsB (padB s).data.toList
theorem pairsB_take : ∀ (l : List UInt8) (k : Nat) (h : 2 * k + 1 < l.length), pairsB (l.take (2 * (k + 1))) = pairsB (l.take (2 * k)) ++ [UInt8.ofNat ((l[2 * k].toNat - 48) * 16 + (l[2 * k + 1].toNat - 48))]
  | [], k, h => by simp at h
  | [a], k, h => by simp at h
  | a :: b :: r, 0, h => by simp [pairsB]
  | a :: b :: r, k + 1, h => by
    have ih := pairsB_take r k (by simp at h; omega)
    have e1 : 2 * (k + 1 + 1) = (2 * (k + 1)) + 1 + 1 := by omega
    have e2 : 2 * (k + 1) = 2 * k + 1 + 1 := by omega
    rw [e1, List.take_succ_cons, List.take_succ_cons, pairsB, ih]
    simp only [e2, List.take_succ_cons, pairsB, List.cons_append, List.getElem_cons_succ]
theorem pad_even (s : ByteArray) : (padB s).size = 2 * ((padB s).size / 2) := by
  unfold padB
  split
  · have : (⟨#[48]⟩ ++ s : ByteArray).size = 1 + s.size := ByteArray.size_append
    omega
  · omega
theorem pad_dig {s : ByteArray} (h : digB s = true) (k : Nat) (hk : k < (padB s).size) : 48 ≤ (padB s)[k].toNat ∧ (padB s)[k].toNat ≤ 57 := by
  have hall : ∀ c ∈ (padB s).data.toList, isDig c = true := by
    unfold digB at h
    rw [List.all_eq_true] at h
    unfold padB
    split
    · intro c hc
      have e : (⟨#[48]⟩ ++ s : ByteArray).data.toList = 48 :: s.data.toList := by simp
      rw [e] at hc
      rcases List.mem_cons.1 hc with rfl | hc
      · rfl
      · exact h c hc
    · exact h
  have := hall (padB s)[k] (by rw [ByteArray.getElem_eq_getElem_data]; simp)
  simpa [isDig] using this
theorem look_dig {s : ByteArray} (h : lookE s = 0) : digB s = true := by
  cases hd : digB s with
  | true => rfl
  | false => unfold lookE at h; rw [if_pos hd] at h; omega

/-- a list's digits, an even number -/
def padL (l : Bs) : Bs := if l.length % 2 = 1 then 48 :: l else l
def packB (l : Bs) : Bs := pairsB (padL l)
theorem packL_eq (s : ByteArray) : packL s = packB (bl s) := by
  unfold packL packB padB padL bl
  simp only [Array.length_toList, ByteArray.size_data]
  split
  · have e : (⟨#[48]⟩ ++ s : ByteArray).data.toList = 48 :: s.data.toList := by simp
    rw [e]
  · rfl
theorem padL_len (l : Bs) : (padL l).length = 2 * ((l.length + 1) / 2) := by
  unfold padL
  split
  · simp; omega
  · omega
theorem pairsB_len : ∀ (k : Nat) (l : Bs), l.length = 2 * k → (pairsB l).length = k
  | 0, [], _ => rfl
  | 0, a :: r, h => by simp at h
  | k + 1, [], h => by simp at h
  | k + 1, [a], h => by simp at h; omega
  | k + 1, a :: b :: r, h => by simp [pairsB]; exact pairsB_len k r (by simp at h; omega)
theorem packB_len (l : Bs) : (packB l).length = (l.length + 1) / 2 := pairsB_len _ _ (padL_len l)

/-- a byte's two digits -/
def hiD (c : UInt8) : UInt8 := UInt8.ofNat (48 + c.toNat / 16)
def loD (c : UInt8) : UInt8 := UInt8.ofNat (48 + c.toNat % 16)
def unpairs : Bs → Bs
  | [] => []
  | c :: r => hiD c :: loD c :: unpairs r
def okN (c : UInt8) : Bool := decide (c.toNat / 16 ≤ 9) && decide (c.toNat % 16 ≤ 9)
def unpE (b : Bs) (n : Nat) : Int :=
  if 999 < n then 2 else if b.length < (n + 1) / 2 then 3 else if (b.take ((n + 1) / 2)).all okN = false then 4
  else if n % 2 = 1 ∧ (unpairs (b.take ((n + 1) / 2))).getD 0 0 ≠ 48 then 4 else 0
def unpS (b : Bs) (n : Nat) : Bs := (unpairs (b.take ((n + 1) / 2))).drop (n % 2)
theorem unpairs_len (b : Bs) : (unpairs b).length = 2 * b.length := by
  induction b with
  | nil => rfl
  | cons c r ih => simp [unpairs, ih]; omega
theorem unpairs_append (a b : Bs) : unpairs (a ++ b) = unpairs a ++ unpairs b := by
  induction a with
  | nil => rfl
  | cons c r ih => simp [unpairs, ih]
theorem nib : ∀ x < 10, ∀ y < 10, hiD (UInt8.ofNat (x * 16 + y)) = UInt8.ofNat (48 + x) ∧ loD (UInt8.ofNat (x * 16 + y)) = UInt8.ofNat (48 + y) ∧ okN (UInt8.ofNat (x * 16 + y)) = true := by decide
theorem bin : ∀ x < 256, okN (UInt8.ofNat x) = true → isDig (hiD (UInt8.ofNat x)) = true ∧ isDig (loD (UInt8.ofNat x)) = true ∧ UInt8.ofNat (((hiD (UInt8.ofNat x)).toNat - 48) * 16 + ((loD (UInt8.ofNat x)).toNat - 48)) = UInt8.ofNat x := by decide +kernel
theorem u8_eta (c : UInt8) : UInt8.ofNat c.toNat = c := by simp
theorem dig_nat {c : UInt8} (h : isDig c = true) : ∃ x, x < 10 ∧ c = UInt8.ofNat (48 + x) ∧ c.toNat = 48 + x := by
  unfold isDig at h
  simp at h
  refine ⟨c.toNat - 48, by omega, ?_, by omega⟩
  rw [show 48 + (c.toNat - 48) = c.toNat by omega, u8_eta]
theorem pair_dig {a b : UInt8} (ha : isDig a = true) (hb : isDig b = true) : hiD (UInt8.ofNat ((a.toNat - 48) * 16 + (b.toNat - 48))) = a ∧ loD (UInt8.ofNat ((a.toNat - 48) * 16 + (b.toNat - 48))) = b ∧ okN (UInt8.ofNat ((a.toNat - 48) * 16 + (b.toNat - 48))) = true := by
  obtain ⟨x, hx, ea, na⟩ := dig_nat ha
  obtain ⟨y, hy, eb, nb⟩ := dig_nat hb
  rw [na, nb, Nat.add_sub_cancel_left, Nat.add_sub_cancel_left, ea, eb]
  exact nib x hx y hy
theorem dig_pair {c : UInt8} (h : okN c = true) : isDig (hiD c) = true ∧ isDig (loD c) = true ∧ UInt8.ofNat (((hiD c).toNat - 48) * 16 + ((loD c).toNat - 48)) = c := by
  have := bin c.toNat c.toNat_lt
  rw [u8_eta] at this
  exact this h
theorem unpairs_pairs : ∀ (k : Nat) (l : Bs), l.length = 2 * k → l.all isDig = true → unpairs (pairsB l) = l ∧ (pairsB l).all okN = true
  | 0, [], _, _ => ⟨rfl, rfl⟩
  | 0, a :: r, h, _ => by simp at h
  | k + 1, [], h, _ => by simp at h
  | k + 1, [a], h, _ => by simp at h; omega
  | k + 1, a :: b :: r, h, hd => by
    simp only [List.all_cons, Bool.and_eq_true] at hd
    obtain ⟨h1, h2⟩ := unpairs_pairs k r (by simp at h; omega) hd.2.2
    obtain ⟨e1, e2, e3⟩ := pair_dig hd.1 hd.2.1
    exact ⟨by rw [pairsB, unpairs, e1, e2, h1], by rw [pairsB, List.all_cons, e3, h2]; rfl⟩
theorem pairs_unpairs : ∀ (b : Bs), b.all okN = true → pairsB (unpairs b) = b ∧ (unpairs b).all isDig = true
  | [], _ => ⟨rfl, rfl⟩
  | c :: r, h => by
    simp only [List.all_cons, Bool.and_eq_true] at h
    obtain ⟨h1, h2⟩ := pairs_unpairs r h.2
    obtain ⟨e1, e2, e3⟩ := dig_pair h.1
    exact ⟨by rw [unpairs, pairsB, e3, h1], by rw [unpairs, List.all_cons, List.all_cons, e1, e2, h2]; rfl⟩
theorem padL_dig {l : Bs} (h : l.all isDig = true) : (padL l).all isDig = true := by
  unfold padL
  split
  · simpa [isDig] using h
  · exact h
/-- what was packed is unpacked -/
theorem unp_pack {l : Bs} (hd : l.all isDig = true) (hn : l.length ≤ 999) (r : Bs) : unpE (packB l ++ r) l.length = 0 ∧ unpS (packB l ++ r) l.length = l := by
  obtain ⟨h1, h2⟩ := unpairs_pairs _ _ (padL_len l) (padL_dig hd)
  have hk := packB_len l
  have ht : (packB l ++ r).take ((l.length + 1) / 2) = packB l := by rw [← hk, List.take_left']; rfl
  unfold unpE unpS
  rw [ht, if_neg (by omega), if_neg (by rw [List.length_append, hk]; omega), if_neg (by unfold packB; rw [h2]; simp)]
  have hu : unpairs (packB l) = padL l := h1
  rw [hu]
  unfold padL
  by_cases ho : l.length % 2 = 1
  · rw [if_pos ho, ho]; simp
  · rw [if_neg ho, show l.length % 2 = 0 by omega]; simp
/-- what was unpacked is packed -/
theorem pack_unp {b : Bs} {n : Nat} (h : unpE b n = 0) : n ≤ 999 ∧ (n + 1) / 2 ≤ b.length ∧ packB (unpS b n) = b.take ((n + 1) / 2) ∧ (unpS b n).all isDig = true ∧ (unpS b n).length = n := by
  unfold unpE at h
  split at h
  · omega
  split at h
  · omega
  split at h
  · omega
  split at h
  · omega
  rename_i h1 h2 h3 h4
  have hk : (b.take ((n + 1) / 2)).length = (n + 1) / 2 := by rw [List.length_take]; omega
  have hok : (b.take ((n + 1) / 2)).all okN = true := by
    cases hx : (b.take ((n + 1) / 2)).all okN with
    | true => rfl
    | false => exact absurd hx h3
  obtain ⟨e1, e2⟩ := pairs_unpairs _ hok
  have hl := unpairs_len (b.take ((n + 1) / 2))
  rw [hk] at hl
  refine ⟨by omega, by omega, ?_, ?_, ?_⟩
  · unfold unpS packB padL
    generalize b.take ((n + 1) / 2) = u at *
    by_cases ho : n % 2 = 1
    · rw [ho, List.length_drop, if_pos (by omega)]
      cases hu : unpairs u with
      | nil => rw [hu] at hl; simp at hl; omega
      | cons a v =>
        have ha : a = 48 := by
          rw [hu] at h4
          simpa [ho] using h4
        rw [hu, ha] at e1
        exact e1
    · rw [show n % 2 = 0 by omega, List.drop_zero, if_neg (by omega)]
      exact e1
  · unfold unpS
    rw [List.all_eq_true] at e2 ⊢
    exact fun c hc => e2 c (List.mem_of_mem_drop hc)
  · unfold unpS
    rw [List.length_drop, hl]
    omega
/-- digits' number -/
def numB (l : Bs) : Nat := l.foldl (fun n c => 10 * n + (c.toNat - 48)) 0
def textB (n : Nat) : Nat → Bs
  | 0 => []
  | k + 1 => UInt8.ofNat (48 + n / 10 ^ k % 10) :: textB n k
theorem textB_len (n k : Nat) : (textB n k).length = k := by
  induction k with
  | zero => rfl
  | succ k ih => simp [textB, ih]
theorem num2 : ∀ n < 100, numB (textB n 2) = n ∧ (textB n 2).all isDig = true := by decide +kernel
theorem num3 : ∀ n < 1000, numB (textB n 3) = n ∧ (textB n 3).all isDig = true := by decide +kernel
theorem text2' : ∀ x < 10, ∀ y < 10, textB (numB [UInt8.ofNat (48 + x), UInt8.ofNat (48 + y)]) 2 = [UInt8.ofNat (48 + x), UInt8.ofNat (48 + y)] ∧ numB [UInt8.ofNat (48 + x), UInt8.ofNat (48 + y)] < 100 := by decide +kernel
theorem text3' : ∀ x < 10, ∀ y < 10, ∀ z < 10, textB (numB [UInt8.ofNat (48 + x), UInt8.ofNat (48 + y), UInt8.ofNat (48 + z)]) 3 = [UInt8.ofNat (48 + x), UInt8.ofNat (48 + y), UInt8.ofNat (48 + z)] ∧ numB [UInt8.ofNat (48 + x), UInt8.ofNat (48 + y), UInt8.ofNat (48 + z)] < 1000 := by decide +kernel
theorem text_num {l : Bs} {k : Nat} (hk : k = 2 ∨ k = 3) (hl : l.length = k) (hd : l.all isDig = true) : textB (numB l) k = l ∧ numB l < 10 ^ k := by
  rcases hk with rfl | rfl
  · match l, hl with
    | [a, b], _ =>
      simp at hd
      obtain ⟨x, hx, rfl, _⟩ := dig_nat hd.1
      obtain ⟨y, hy, rfl, _⟩ := dig_nat hd.2
      exact text2' x hx y hy
  · match l, hl with
    | [a, b, c], _ =>
      simp at hd
      obtain ⟨x, hx, rfl, _⟩ := dig_nat hd.1
      obtain ⟨y, hy, rfl, _⟩ := dig_nat hd.2.1
      obtain ⟨z, hz, rfl, _⟩ := dig_nat hd.2.2
      exact text3' x hx y hy z hz
theorem num_text {n k : Nat} (hk : k = 2 ∨ k = 3) (hn : n < 10 ^ k) : numB (textB n k) = n ∧ (textB n k).all isDig = true := by
  rcases hk with rfl | rfl
  · exact num2 n (by omega)
  · exact num3 n (by omega)
end Go.Proofs.YtajhgejhdalobaaGreatDoor
