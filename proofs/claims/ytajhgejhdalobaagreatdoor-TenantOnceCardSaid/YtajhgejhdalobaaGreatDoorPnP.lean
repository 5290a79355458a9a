/-
  CARD NUMBERS AND TOKENS (plain): shaped texts, masks, tokens and the way back; a vault's tokens.
-/
import Derived.Test.YtajhgejhdalobaaGreatDoorDgP
namespace Go.Proofs.YtajhgejhdalobaaGreatDoor

theorem numL_fold : ∀ (l : Bs) (acc : Nat), l.foldl (fun n c => 10 * n + (c.toNat - 48)) acc = acc * 10 ^ l.length + numB l
  | [], acc => by simp [numB]
  | c :: r, acc => by
    rw [List.foldl_cons, numL_fold r, show numB (c :: r) = List.foldl (fun n c => 10 * n + (c.toNat - 48)) (10 * 0 + (c.toNat - 48)) r from rfl, numL_fold r (10 * 0 + (c.toNat - 48)), List.length_cons, Nat.pow_succ, Nat.add_mul, Nat.add_mul, Nat.mul_comm 10 acc, Nat.mul_assoc acc, Nat.mul_comm 10 (10 ^ r.length)]
    omega
theorem numL_cons (c : UInt8) (r : Bs) : numB (c :: r) = (c.toNat - 48) * 10 ^ r.length + numB r := by
  show List.foldl (fun n c => 10 * n + (c.toNat - 48)) (10 * 0 + (c.toNat - 48)) r = _
  rw [numL_fold]
  congr 2
  omega
theorem numL_lt : ∀ {l : Bs}, l.all isDig = true → numB l < 10 ^ l.length
  | [], _ => by simp [numB]
  | c :: r, h => by
    rw [List.all_cons, Bool.and_eq_true] at h
    obtain ⟨x, hx, rfl, hn⟩ := dig_nat h.1
    have := numL_lt h.2
    rw [numL_cons, hn, List.length_cons, Nat.pow_succ, show 48 + x - 48 = x by omega]
    have := Nat.mul_le_mul_right (10 ^ r.length) (show x + 1 ≤ 10 by omega)
    rw [Nat.add_mul] at this
    omega
theorem textL_dig (n k : Nat) : (textB n k).all isDig = true := by
  induction k with
  | zero => rfl
  | succ k ih =>
    show (UInt8.ofNat (48 + n / 10 ^ k % 10) :: textB n k).all isDig = true
    rw [List.all_cons, ih, Bool.and_true]
    have : n / 10 ^ k % 10 < 10 := Nat.mod_lt _ (by decide)
    generalize n / 10 ^ k % 10 = x at *
    have g : ∀ x < 10, isDig (UInt8.ofNat (48 + x)) = true := by decide
    exact g x this
theorem numL_text (n k : Nat) : numB (textB n k) = n % 10 ^ k := by
  induction k with
  | zero => simp [textB, numB, Nat.mod_one]
  | succ k ih =>
    show numB (UInt8.ofNat (48 + n / 10 ^ k % 10) :: textB n k) = _
    rw [numL_cons, ih, textB_len, Nat.mod_pow_succ]
    have : n / 10 ^ k % 10 < 10 := Nat.mod_lt _ (by decide)
    rw [UInt8.toNat_ofNat', Nat.mod_eq_of_lt (by omega), Nat.add_sub_cancel_left, Nat.mul_comm, Nat.add_comm]
theorem textL_add (a m n : Nat) : ∀ k, k ≤ m → textB (a * 10 ^ m + n) k = textB n k
  | 0, _ => rfl
  | k + 1, h => by
    have e : (a * 10 ^ m + n) / 10 ^ k % 10 = n / 10 ^ k % 10 := by
      have h1 : a * 10 ^ m = (a * 10 ^ (m - k - 1) * 10) * 10 ^ k := by
        rw [Nat.mul_assoc, Nat.mul_assoc]
        congr 1
        rw [← Nat.pow_succ', ← Nat.pow_add]
        congr 1
        omega
      rw [h1, Nat.add_comm, Nat.add_mul_div_right _ _ (Nat.pow_pos (by decide)), Nat.add_mul_mod_self_right]
    show UInt8.ofNat _ :: textB _ k = UInt8.ofNat _ :: textB n k
    rw [e, textL_add a m n k (by omega)]
theorem textL_num : ∀ {l : Bs}, l.all isDig = true → textB (numB l) l.length = l
  | [], _ => rfl
  | c :: r, h => by
    rw [List.all_cons, Bool.and_eq_true] at h
    have hr := numL_lt h.2
    have ih := textL_num h.2
    obtain ⟨x, hx, rfl, hn⟩ := dig_nat h.1
    rw [numL_cons, hn, show 48 + x - 48 = x by omega, List.length_cons]
    show UInt8.ofNat (48 + (x * 10 ^ r.length + numB r) / 10 ^ r.length % 10) :: textB (x * 10 ^ r.length + numB r) r.length = _
    rw [textL_add x r.length (numB r) r.length (Nat.le_refl _), ih, Nat.add_comm (x * 10 ^ r.length), Nat.add_mul_div_right _ _ (Nat.pow_pos (by decide)), Nat.div_eq_of_lt hr, Nat.zero_add, Nat.mod_eq_of_lt hx]
theorem textL_of_num {n k : Nat} {l : Bs} (hl : l.length = k) (hd : l.all isDig = true) (hn : n = numB l) : textB n k = l := by
  subst hl hn
  exact textL_num hd
def numR (l : Bs) : Nat × Int := if l.all isDig = false then (0, 4) else if 999 < l.length then (0, 2) else if l = [] then (0, 3) else if 9223372036854775807 < numB l then (0, 5) else (numB l, 0)
end Go.Proofs.YtajhgejhdalobaaGreatDoor
namespace Go.Proofs.YtajhgejhdalobaaGreatDoor

def halfN (n i : Nat) : Nat := (n + i % 2) / 2
def fxE (M : Nat → Nat → Nat) (n : Nat) : Nat → Nat × Nat → Nat × Nat
  | 0, s => s
  | k + 1, s => ((fxE M n k s).2, ((fxE M n k s).1 + M k (fxE M n k s).2) % 10 ^ halfN n k)
def fxD (M : Nat → Nat → Nat) (n : Nat) : Nat → Nat × Nat → Nat × Nat
  | 0, s => s
  | k + 1, s => fxD M n k ((s.2 + (10 ^ halfN n k - M k s.1 % 10 ^ halfN n k)) % 10 ^ halfN n k, s.1)
theorem halfN_two (n k : Nat) : halfN n (k + 2) = halfN n k := by
  unfold halfN
  rw [show (k + 2) % 2 = k % 2 by omega]
theorem fxE_lt (M : Nat → Nat → Nat) (n : Nat) : ∀ (k : Nat) {s : Nat × Nat}, s.1 < 10 ^ halfN n 0 → s.2 < 10 ^ halfN n 1 → (fxE M n k s).1 < 10 ^ halfN n k ∧ (fxE M n k s).2 < 10 ^ halfN n (k + 1)
  | 0, _, h1, h2 => ⟨h1, h2⟩
  | k + 1, s, h1, h2 => by
    obtain ⟨i1, i2⟩ := fxE_lt M n k h1 h2
    refine ⟨i2, ?_⟩
    rw [halfN_two]
    exact Nat.mod_lt _ (Nat.pow_pos (by decide))
theorem sub_add {p a m : Nat} (hp : 0 < p) (ha : a < p) : ((a + m) % p + (p - m % p)) % p = a := by
  have hm : m % p < p := Nat.mod_lt _ hp
  have h1 : (a + m) % p = (a + m % p) % p := by rw [Nat.add_mod_mod]
  rw [h1]
  rcases Nat.lt_or_ge (a + m % p) p with h | h
  · rw [Nat.mod_eq_of_lt h, show a + m % p + (p - m % p) = a + p by omega, Nat.add_mod_right, Nat.mod_eq_of_lt ha]
  · have h2 : (a + m % p) % p = a + m % p - p := by rw [Nat.mod_eq_sub_mod h, Nat.mod_eq_of_lt (by omega)]
    rw [h2, show a + m % p - p + (p - m % p) = a by omega, Nat.mod_eq_of_lt ha]
theorem fx_back (M : Nat → Nat → Nat) (n : Nat) : ∀ (k : Nat) {s : Nat × Nat}, s.1 < 10 ^ halfN n 0 → s.2 < 10 ^ halfN n 1 → fxD M n k (fxE M n k s) = s
  | 0, _, _, _ => rfl
  | k + 1, s, h1, h2 => by
    obtain ⟨i1, i2⟩ := fxE_lt M n k h1 h2
    show fxD M n k (((((fxE M n k s).1 + M k (fxE M n k s).2) % 10 ^ halfN n k) + (10 ^ halfN n k - M k (fxE M n k s).2 % 10 ^ halfN n k)) % 10 ^ halfN n k, (fxE M n k s).2) = s
    rw [sub_add (Nat.pow_pos (by decide)) i1]
    exact fx_back M n k h1 h2
def joinB (n : Nat) (s : Nat × Nat) : Bs := textB s.1 (n / 2) ++ textB s.2 (n - n / 2)
def halvesB (l : Bs) : Nat × Nat := (numB (l.take (l.length / 2)), numB (l.drop (l.length / 2)))
theorem joinB_len (n : Nat) (s : Nat × Nat) : (joinB n s).length = n := by
  unfold joinB
  rw [List.length_append, textB_len, textB_len]
  omega
theorem joinB_dig (n : Nat) (s : Nat × Nat) : (joinB n s).all isDig = true := by
  unfold joinB
  rw [List.all_append, textL_dig, textL_dig]
  rfl
theorem half0 (n : Nat) : halfN n 0 = n / 2 := by unfold halfN; rw [show n + 0 % 2 = n by omega]
theorem half1 (n : Nat) : halfN n 1 = n - n / 2 := by unfold halfN; omega
theorem all_take {l : Bs} (h : l.all isDig = true) (k : Nat) : (l.take k).all isDig = true := by
  rw [List.all_eq_true] at h ⊢
  exact fun c hc => h c (List.mem_of_mem_take hc)
theorem all_drop {l : Bs} (h : l.all isDig = true) (k : Nat) : (l.drop k).all isDig = true := by
  rw [List.all_eq_true] at h ⊢
  exact fun c hc => h c (List.mem_of_mem_drop hc)
theorem halves_lt {l : Bs} (h : l.all isDig = true) : (halvesB l).1 < 10 ^ halfN l.length 0 ∧ (halvesB l).2 < 10 ^ halfN l.length 1 := by
  have h1 := numL_lt (all_take h (l.length / 2))
  have h2 := numL_lt (all_drop h (l.length / 2))
  rw [List.length_take, Nat.min_eq_left (by omega)] at h1
  rw [List.length_drop] at h2
  rw [half0, half1]
  exact ⟨h1, h2⟩
theorem join_halves {l : Bs} (h : l.all isDig = true) : joinB l.length (halvesB l) = l := by
  unfold joinB halvesB
  dsimp only
  rw [textL_of_num (l := l.take (l.length / 2)) (by rw [List.length_take, Nat.min_eq_left (by omega)]) (all_take h _) rfl, textL_of_num (l := l.drop (l.length / 2)) (by rw [List.length_drop]) (all_drop h _) rfl, List.take_append_drop]
theorem halves_join {n : Nat} {s : Nat × Nat} (h1 : s.1 < 10 ^ halfN n 0) (h2 : s.2 < 10 ^ halfN n 1) : halvesB (joinB n s) = s := by
  unfold halvesB
  rw [joinB_len]
  unfold joinB
  rw [half0] at h1
  rw [half1] at h2
  rw [List.take_append_of_le_length (by rw [textB_len]; exact Nat.le_refl _), List.take_of_length_le (by rw [textB_len]; exact Nat.le_refl _), List.drop_append_of_le_length (by rw [textB_len]; exact Nat.le_refl _), List.drop_of_length_le (by rw [textB_len]; exact Nat.le_refl _), List.nil_append, numL_text, numL_text, Nat.mod_eq_of_lt h1, Nat.mod_eq_of_lt h2]
def ffxE (M : Nat → Nat → Nat → Nat) (l : Bs) : Bs := joinB l.length (fxE (M l.length) l.length 10 (halvesB l))
def ffxD (M : Nat → Nat → Nat → Nat) (l : Bs) : Bs := joinB l.length (fxD (M l.length) l.length 10 (halvesB l))
theorem ffxE_len (M : Nat → Nat → Nat → Nat) (l : Bs) : (ffxE M l).length = l.length := joinB_len _ _
theorem ffxD_len (M : Nat → Nat → Nat → Nat) (l : Bs) : (ffxD M l).length = l.length := joinB_len _ _
theorem ffxE_dig (M : Nat → Nat → Nat → Nat) (l : Bs) : (ffxE M l).all isDig = true := joinB_dig _ _
theorem ffxD_dig (M : Nat → Nat → Nat → Nat) (l : Bs) : (ffxD M l).all isDig = true := joinB_dig _ _
theorem ffx_back (M : Nat → Nat → Nat → Nat) {l : Bs} (h : l.all isDig = true) : ffxD M (ffxE M l) = l := by
  obtain ⟨h1, h2⟩ := halves_lt h
  obtain ⟨e1, e2⟩ := fxE_lt (M l.length) l.length 10 h1 h2
  unfold ffxD
  rw [ffxE_len]
  unfold ffxE
  rw [halves_join (by rw [show halfN l.length 0 = halfN l.length 10 by unfold halfN; rfl]; exact e1) (by rw [show halfN l.length 1 = halfN l.length 11 by unfold halfN; rfl]; exact e2), fx_back _ _ _ h1 h2, join_halves h]
end Go.Proofs.YtajhgejhdalobaaGreatDoor
namespace Go.Proofs.YtajhgejhdalobaaGreatDoor

def shapeB (l : Bs) : Bool := l.all isDig && decide (16 ≤ l.length) && decide (l.length ≤ 19)
def twiceD (d : Nat) : Nat := if d < 5 then 2 * d else 2 * d - 9
def weighB : Bs → Nat
  | [] => 0
  | c :: l => (if l.length % 2 = 1 then twiceD (c.toNat - 48) else c.toNat - 48) + weighB l
def panB (l : Bs) : Bool := shapeB l && decide (weighB l % 10 = 0)
def binB (l : Bs) : Bs := l.take 6
def midB (l : Bs) : Bs := (l.drop 6).take (l.length - 10)
def lastB (l : Bs) : Bs := l.drop (l.length - 4)
theorem shape_iff {l : Bs} : shapeB l = true ↔ l.all isDig = true ∧ 16 ≤ l.length ∧ l.length ≤ 19 := by simp [shapeB, and_assoc]
theorem cut_join {l : Bs} (h : 16 ≤ l.length) : binB l ++ midB l ++ lastB l = l := by
  unfold binB midB lastB
  have e : (l.drop 6).drop (l.length - 10) = l.drop (l.length - 4) := by rw [List.drop_drop]; congr 1; omega
  rw [List.append_assoc, ← e, List.take_append_drop, List.take_append_drop]
theorem cut_len {l : Bs} (h : 16 ≤ l.length) : (binB l).length = 6 ∧ (midB l).length = l.length - 10 ∧ (lastB l).length = 4 := by
  unfold binB midB lastB
  simp
  omega
theorem cut_new {l m : Bs} (h : 16 ≤ l.length) (hm : m.length = l.length - 10) : (binB l ++ m ++ lastB l).length = l.length ∧ binB (binB l ++ m ++ lastB l) = binB l ∧ midB (binB l ++ m ++ lastB l) = m ∧ lastB (binB l ++ m ++ lastB l) = lastB l := by
  obtain ⟨h1, h2, h3⟩ := cut_len h
  have hl : (binB l ++ m ++ lastB l).length = l.length := by rw [List.length_append, List.length_append, h1, h3, hm]; omega
  refine ⟨hl, ?_, ?_, ?_⟩
  · show (binB l ++ m ++ lastB l).take 6 = _
    rw [List.append_assoc, List.take_append_of_le_length (by omega), List.take_of_length_le (by omega)]
  · show ((binB l ++ m ++ lastB l).drop 6).take ((binB l ++ m ++ lastB l).length - 10) = _
    rw [hl, List.append_assoc, List.drop_append_of_le_length (by omega), List.drop_of_length_le (by omega), List.nil_append, List.take_append_of_le_length (by omega), List.take_of_length_le (by omega)]
  · show (binB l ++ m ++ lastB l).drop ((binB l ++ m ++ lastB l).length - 4) = _
    rw [hl, List.drop_append, List.drop_of_length_le (by rw [List.length_append]; omega), List.nil_append, List.length_append, h1, hm, show l.length - 4 - (6 + (l.length - 10)) = 0 by omega, List.drop_zero]
theorem shape_new {l m : Bs} (h : shapeB l = true) (hm : m.length = l.length - 10) (hd : m.all isDig = true) : shapeB (binB l ++ m ++ lastB l) = true := by
  obtain ⟨h1, h2, h3⟩ := shape_iff.1 h
  refine shape_iff.2 ⟨?_, by rw [(cut_new h2 hm).1]; omega, by rw [(cut_new h2 hm).1]; omega⟩
  rw [List.all_append, List.all_append, hd]
  unfold binB lastB
  rw [all_take h1, all_drop h1]
  rfl
def itoB (n : Nat) : Bs := if n < 10 then [UInt8.ofNat (48 + n)] else itoB (n / 10) ++ [UInt8.ofNat (48 + n % 10)]
def tokB (l : Bs) (v : Nat) : Bs := l ++ 46 :: itoB v
def splitB (t : Bs) : Option (Bs × Nat) :=
  let s := t.takeWhile (fun c => c != 46)
  let n := numB ((t.dropWhile (fun c => c != 46)).drop 1)
  if shapeB s = true ∧ 1 ≤ n ∧ n ≤ 255 ∧ tokB s n = t then some (s, n) else none
theorem ito_small : ∀ n < 256, numB (itoB n) = n ∧ (itoB n).all isDig = true ∧ 1 ≤ (itoB n).length ∧ (itoB n).length ≤ 3 := by decide +kernel
theorem dig_dot {l : Bs} (h : l.all isDig = true) : ∀ c ∈ l, (c != 46) = true := by
  intro c hc
  rw [List.all_eq_true] at h
  have := h c hc
  unfold isDig at this
  simp at this ⊢
  rintro rfl
  revert this
  decide
theorem split_tok {l : Bs} {v : Nat} (h : shapeB l = true) (h1 : 1 ≤ v) (h2 : v ≤ 255) : splitB (tokB l v) = some (l, v) := by
  have hd := (shape_iff.1 h).1
  have e1 : (tokB l v).takeWhile (fun c => c != 46) = l := by
    unfold tokB
    rw [List.takeWhile_append_of_pos (dig_dot hd), List.takeWhile_cons]
    simp
  have e2 : (tokB l v).dropWhile (fun c => c != 46) = 46 :: itoB v := by
    unfold tokB
    rw [List.dropWhile_append_of_pos (dig_dot hd), List.dropWhile_cons]
    simp
  unfold splitB
  simp only [e1, e2, List.drop_succ_cons, List.drop_zero]
  rw [(ito_small v (by omega)).1, if_pos ⟨h, h1, h2, rfl⟩]
theorem split_some {t l : Bs} {v : Nat} (h : splitB t = some (l, v)) : shapeB l = true ∧ 1 ≤ v ∧ v ≤ 255 ∧ t = tokB l v := by
  unfold splitB at h
  dsimp only at h
  split at h
  · rename_i hc
    cases h
    exact ⟨hc.1, hc.2.1, hc.2.2.1, hc.2.2.2.symm⟩
  · cases h
theorem shape_split {l : Bs} (h : shapeB l = true) : splitB l = none := by
  cases hs : splitB l with
  | none => rfl
  | some q =>
    obtain ⟨s, v⟩ := q
    obtain ⟨_, _, _, e⟩ := split_some hs
    have hd := (shape_iff.1 h).1
    have := dig_dot hd 46 (by rw [e]; unfold tokB; simp)
    simp at this
def starsB (n : Nat) : Bs := List.replicate n 42
def maskB (s : Bs) : Bs := match splitB s with
  | some (t, v) => binB t ++ starsB (midB t).length ++ lastB t ++ 46 :: itoB v
  | none => if shapeB s = true then binB s ++ starsB (midB s).length ++ lastB s else starsB (min s.length 32)
theorem mask_shape {l : Bs} (h : shapeB l = true) : maskB l = binB l ++ starsB (midB l).length ++ lastB l := by
  unfold maskB
  rw [shape_split h]
  dsimp only
  rw [if_pos h]
theorem mask_new {l m : Bs} (h : shapeB l = true) (hm : m.length = l.length - 10) (hd : m.all isDig = true) : maskB (binB l ++ m ++ lastB l) = maskB l := by
  obtain ⟨_, h2, _⟩ := shape_iff.1 h
  obtain ⟨c1, c2, c3, c4⟩ := cut_new h2 hm
  rw [mask_shape (shape_new h hm hd), mask_shape h, c2, c3, c4, (cut_len h2).2.1, hm]

abbrev MaskF := Nat → Bs → Nat → Nat → Nat → Nat
def hideB (M : MaskF) (v : Nat) (l : Bs) : Bs := binB l ++ ffxE (M v (binB l ++ lastB l)) (midB l) ++ lastB l
def showB (M : MaskF) (v : Nat) (l : Bs) : Bs := binB l ++ ffxD (M v (binB l ++ lastB l)) (midB l) ++ lastB l
theorem mid_dig {l : Bs} (h : l.all isDig = true) : (midB l).all isDig = true := all_take (all_drop h _) _
theorem hide_shape (M : MaskF) (v : Nat) {l : Bs} (h : shapeB l = true) : shapeB (hideB M v l) = true :=
  shape_new h (by rw [ffxE_len, (cut_len (shape_iff.1 h).2.1).2.1]) (ffxE_dig _ _)
theorem show_shape (M : MaskF) (v : Nat) {l : Bs} (h : shapeB l = true) : shapeB (showB M v l) = true :=
  shape_new h (by rw [ffxD_len, (cut_len (shape_iff.1 h).2.1).2.1]) (ffxD_dig _ _)
theorem show_mask (M : MaskF) (v : Nat) {l : Bs} (h : shapeB l = true) : maskB (showB M v l) = maskB l :=
  mask_new h (by rw [ffxD_len, (cut_len (shape_iff.1 h).2.1).2.1]) (ffxD_dig _ _)
theorem show_hide (M : MaskF) (v : Nat) {l : Bs} (h : shapeB l = true) : showB M v (hideB M v l) = l := by
  obtain ⟨h1, h2, h3⟩ := shape_iff.1 h
  have hm : (ffxE (M v (binB l ++ lastB l)) (midB l)).length = l.length - 10 := by rw [ffxE_len, (cut_len h2).2.1]
  obtain ⟨c1, c2, c3, c4⟩ := cut_new h2 hm
  unfold showB
  unfold hideB
  rw [c2, c3, c4, ffx_back _ (mid_dig h1), cut_join h2]
def tokenB (M : MaskF) (v : Nat) (l : Bs) : Bs × Int := if panB l = true then (tokB (hideB M v l) v, 0) else ([], 10)
def backB (M : MaskF) (now : Nat) (t : Bs) : Bs × Int := match splitB t with
  | none => ([], 11)
  | some (s, v) => if now < v then ([], 12) else if panB (showB M v s) = true then (showB M v s, 0) else ([], 11)
theorem pan_shape {l : Bs} (h : panB l = true) : shapeB l = true := by
  unfold panB at h
  rw [Bool.and_eq_true] at h
  exact h.1
theorem back_token (M : MaskF) {v now : Nat} {l : Bs} (h : panB l = true) (h1 : 1 ≤ v) (h2 : v ≤ 255) (hn : v ≤ now) : (tokenB M v l).2 = 0 ∧ backB M now (tokenB M v l).1 = (l, 0) := by
  have hs := pan_shape h
  unfold tokenB
  rw [if_pos h]
  refine ⟨rfl, ?_⟩
  unfold backB
  rw [split_tok (hide_shape M v hs) h1 h2]
  dsimp only
  rw [if_neg (by omega), show_hide M v hs, if_pos h]
theorem back_some (M : MaskF) {now : Nat} {t l : Bs} (h : backB M now t = (l, 0)) : ∃ s v, splitB t = some (s, v) ∧ v ≤ now ∧ shapeB s = true ∧ maskB s = maskB l ∧ l = showB M v s ∧ panB l = true := by
  unfold backB at h
  cases hs : splitB t with
  | none => rw [hs] at h; cases h
  | some q =>
    obtain ⟨s, v⟩ := q
    rw [hs] at h
    dsimp only at h
    split at h
    · cases h
    · split at h
      · rename_i h1 h2
        cases h
        have hsh := (split_some hs).1
        exact ⟨s, v, rfl, by omega, hsh, (show_mask M v hsh).symm, rfl, h2⟩
      · cases h
theorem back_later (M : MaskF) {now now' : Nat} {t l : Bs} (h : backB M now t = (l, 0)) (hn : now ≤ now') : backB M now' t = (l, 0) := by
  obtain ⟨s, v, h1, h2, h3, h4, rfl, h6⟩ := back_some M h
  unfold backB
  rw [h1]
  dsimp only
  rw [if_neg (by omega), if_pos h6]
end Go.Proofs.YtajhgejhdalobaaGreatDoor
