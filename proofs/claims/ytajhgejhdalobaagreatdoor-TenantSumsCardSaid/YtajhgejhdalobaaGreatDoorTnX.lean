/-
  TenantSums: THE WALK.
-/
import Derived.Test.YtajhgejhdalobaaGreatDoorTnV
namespace Go.Proofs.YtajhgejhdalobaaGreatDoor

def nB (n : Int) : Bs := be8 n.toNat
def txB (s : ByteArray) : Bs := be8 s.size ++ bl s
def routeB (r : Rt.Route) : Bs := txB r.pre ++ nB r.target
def useB (u : Lm.Use) : Bs := txB u.card ++ (nB u.window ++ (nB u.times ++ nB u.sum))
def postB (p : Lg.Post) : Bs := txB p.key ++ (nB p.amount ++ (nB p.state ++ txB p.answer))
def rowB {α : Type} (f : α → Bs) (l : List α) : Bs := be8 l.length ++ l.flatMap f
def stateR (S : TenS) (r : Bs) : Bs := be8 S.v ++ (nB S.rule.ticks ++ (nB S.rule.times ++ (nB S.rule.sum ++ (nB S.rule.once ++ (rowB routeB S.rs ++ (rowB useB S.us ++ (rowB postB S.ps ++ r)))))))
def stateB (S : TenS) : Bs := stateR S []
/-! taken -/
def tkN (b : Bs) : Option (Nat × Bs) := if 8 ≤ b.length ∧ (b.getD 0 0).toNat < 128 then some (num8 (b.take 8), b.drop 8) else none
def tkT (b : Bs) : Option (ByteArray × Bs) := (tkN b).bind fun x => if x.1 ≤ x.2.length then some (strB (x.2.take x.1), x.2.drop x.1) else none
def tkL {α : Type} (f : Bs → Option (α × Bs)) : Nat → Bs → Option (List α × Bs)
  | 0, b => some ([], b)
  | n + 1, b => (f b).bind fun x => (tkL f n x.2).bind fun y => some (x.1 :: y.1, y.2)
def tkR {α : Type} (most : Nat) (f : Bs → Option (α × Bs)) (b : Bs) : Option (List α × Bs) := (tkN b).bind fun x => if x.1 ≤ most then tkL f x.1 x.2 else none
def tkRoute (b : Bs) : Option (Rt.Route × Bs) := (tkT b).bind fun x => (tkN x.2).bind fun y => some (⟨x.1, y.1⟩, y.2)
def tkUse (b : Bs) : Option (Lm.Use × Bs) := (tkT b).bind fun x => (tkN x.2).bind fun y => (tkN y.2).bind fun z => (tkN z.2).bind fun u => some (⟨x.1, y.1, z.1, u.1⟩, u.2)
def tkPost (b : Bs) : Option (Lg.Post × Bs) := (tkT b).bind fun x => (tkN x.2).bind fun y => (tkN y.2).bind fun z => (tkT z.2).bind fun u => some (⟨x.1, y.1, z.1, u.1⟩, u.2)
def tkS (b : Bs) : Option (TenS × Bs) :=
  (tkN b).bind fun x0 => (tkN x0.2).bind fun x1 => (tkN x1.2).bind fun x2 => (tkN x2.2).bind fun x3 => (tkN x3.2).bind fun x4 =>
  (tkR 24 tkRoute x4.2).bind fun x5 => (tkR 16 tkUse x5.2).bind fun x6 => (tkR 24 tkPost x6.2).bind fun x7 =>
  some (⟨x0.1, ⟨x1.1, x2.1, x3.1, x4.1⟩, x5.1, x6.1, x7.1⟩, x7.2)
/-! numbers -/
theorem be8_head (n : Nat) : ∃ l, be8 n = UInt8.ofNat (n >>> 56) :: l := ⟨_, rfl⟩
theorem tkN_be8 {n : Nat} (h : n < 9223372036854775808) (r : Bs) : tkN (be8 n ++ r) = some (n, r) := by
  have e := be8_len n
  have h0 : ((be8 n ++ r).getD 0 0).toNat < 128 := by
    obtain ⟨l, hl⟩ := be8_head n
    rw [hl]
    show (UInt8.ofNat (n >>> 56)).toNat < 128
    rw [u8_shift]
    omega
  unfold tkN
  rw [if_pos ⟨by rw [List.length_append, e]; omega, h0⟩, List.take_append_of_le_length (by omega), List.take_of_length_le (by omega), List.drop_append_of_le_length (by omega), List.drop_of_length_le (by omega), List.nil_append, num8_be8 (by omega)]
theorem be8_num8 {l : Bs} (h : l.length = 8) : be8 (num8 l) = l := by
  rcases l with _ | ⟨a0, _ | ⟨a1, _ | ⟨a2, _ | ⟨a3, _ | ⟨a4, _ | ⟨a5, _ | ⟨a6, _ | ⟨a7, _ | ⟨a8, l⟩⟩⟩⟩⟩⟩⟩⟩⟩ <;> simp at h
  obtain ⟨N, hN⟩ : ∃ N, num8 [a0, a1, a2, a3, a4, a5, a6, a7] = N := ⟨_, rfl⟩
  rw [hN]
  simp only [num8, List.foldl_cons, List.foldl_nil] at hN
  have b0 := a0.toNat_lt
  have b1 := a1.toNat_lt
  have b2 := a2.toNat_lt
  have b3 := a3.toNat_lt
  have b4 := a4.toNat_lt
  have b5 := a5.toNat_lt
  have b6 := a6.toNat_lt
  have b7 := a7.toNat_lt
  have g : ∀ (k : Nat) (a : UInt8), N / 2 ^ k % 256 = a.toNat → UInt8.ofNat (N >>> k) = a := fun k a e => UInt8.toNat_inj.1 ((u8_shift N k).trans e)
  have e : be8 N = [UInt8.ofNat (N >>> 56), UInt8.ofNat (N >>> 48), UInt8.ofNat (N >>> 40), UInt8.ofNat (N >>> 32), UInt8.ofNat (N >>> 24), UInt8.ofNat (N >>> 16), UInt8.ofNat (N >>> 8), UInt8.ofNat (N >>> 0)] := rfl
  rw [e, g 56 a0 (by omega), g 48 a1 (by omega), g 40 a2 (by omega), g 32 a3 (by omega), g 24 a4 (by omega), g 16 a5 (by omega), g 8 a6 (by omega), g 0 a7 (by omega)]
theorem num8_lt {l : Bs} (h : l.length = 8) (h0 : (l.getD 0 0).toNat < 128) : num8 l < 9223372036854775808 := by
  rcases l with _ | ⟨a0, _ | ⟨a1, _ | ⟨a2, _ | ⟨a3, _ | ⟨a4, _ | ⟨a5, _ | ⟨a6, _ | ⟨a7, _ | ⟨a8, l⟩⟩⟩⟩⟩⟩⟩⟩⟩ <;> simp at h
  have h0 : a0.toNat < 128 := h0
  simp only [num8, List.foldl_cons, List.foldl_nil]
  have b1 := a1.toNat_lt
  have b2 := a2.toNat_lt
  have b3 := a3.toNat_lt
  have b4 := a4.toNat_lt
  have b5 := a5.toNat_lt
  have b6 := a6.toNat_lt
  have b7 := a7.toNat_lt
  omega
theorem tkN_some {b r : Bs} {n : Nat} (h : tkN b = some (n, r)) : b = be8 n ++ r ∧ n < 9223372036854775808 := by
  unfold tkN at h
  split at h
  · rename_i hc
    simp only [Option.some.injEq, Prod.mk.injEq] at h
    obtain ⟨rfl, rfl⟩ := h
    have hl : (b.take 8).length = 8 := by rw [List.length_take]; omega
    refine ⟨by rw [be8_num8 hl, List.take_append_drop], num8_lt hl ?_⟩
    rcases b with _ | ⟨a, b⟩
    · exact hc.2
    · exact hc.2
  · cases h
theorem tkN_nB {n : Int} (h0 : 0 ≤ n) (h : n ≤ 9223372036854775807) (r : Bs) : ∃ m : Nat, tkN (nB n ++ r) = some (m, r) ∧ (m : Int) = n := ⟨n.toNat, tkN_be8 (by omega) r, by omega⟩
theorem nB_nat (n : Nat) : nB (n : Int) = be8 n := rfl
/-! texts -/
theorem tkT_txB {s : ByteArray} (h : s.size < 9223372036854775808) (r : Bs) : tkT (txB s ++ r) = some (s, r) := by
  unfold tkT txB
  rw [List.append_assoc, tkN_be8 h]
  simp only [Option.bind_some]
  have e := bl_len s
  rw [if_pos (by rw [List.length_append]; omega), List.take_append_of_le_length (by omega), List.take_of_length_le (by omega), List.drop_append_of_le_length (by omega), List.drop_of_length_le (by omega), List.nil_append, strB_bl]
theorem tkT_some {b r : Bs} {s : ByteArray} (h : tkT b = some (s, r)) : b = txB s ++ r := by
  unfold tkT at h
  rw [Option.bind_eq_some_iff] at h
  obtain ⟨⟨n, b1⟩, h1, h2⟩ := h
  dsimp only at h2
  split at h2
  · rename_i hc
    simp only [Option.some.injEq, Prod.mk.injEq] at h2
    obtain ⟨rfl, rfl⟩ := h2
    unfold txB
    rw [strB_size, bl_strB, List.length_take, Nat.min_eq_left hc, List.append_assoc, List.take_append_drop]
    exact (tkN_some h1).1
  · cases h2
/-! rows -/
theorem tkL_flat {α : Type} {f : Bs → Option (α × Bs)} {enc : α → Bs} : ∀ {l : List α}, (∀ x ∈ l, ∀ r, f (enc x ++ r) = some (x, r)) → ∀ r, tkL f l.length (l.flatMap enc ++ r) = some (l, r)
  | [], _, r => rfl
  | x :: l, h, r => by
    show (f (List.flatMap enc (x :: l) ++ r)).bind _ = _
    rw [List.flatMap_cons, List.append_assoc, h x List.mem_cons_self]
    simp only [Option.bind_some]
    rw [tkL_flat (fun y hy => h y (List.mem_cons_of_mem _ hy))]
    rfl
theorem tkL_some {α : Type} {f : Bs → Option (α × Bs)} {enc : α → Bs} (hf : ∀ b x r, f b = some (x, r) → b = enc x ++ r) : ∀ {n : Nat} {b : Bs} {l : List α} {r : Bs}, tkL f n b = some (l, r) → b = l.flatMap enc ++ r ∧ l.length = n
  | 0, b, l, r, h => by
    simp only [tkL, Option.some.injEq, Prod.mk.injEq] at h
    obtain ⟨rfl, rfl⟩ := h
    exact ⟨rfl, rfl⟩
  | n + 1, b, l, r, h => by
    simp only [tkL, Option.bind_eq_some_iff] at h
    obtain ⟨⟨x, b1⟩, h1, ⟨l1, b2⟩, h2, h3⟩ := h
    simp only [Option.some.injEq, Prod.mk.injEq] at h3
    obtain ⟨rfl, rfl⟩ := h3
    obtain ⟨h4, h5⟩ := tkL_some hf h2
    dsimp only at h4
    refine ⟨?_, by rw [List.length_cons, h5]⟩
    rw [hf _ _ _ h1, h4, List.flatMap_cons, List.append_assoc]
theorem tkL_snoc {α : Type} (f : Bs → Option (α × Bs)) : ∀ (n : Nat) {b : Bs} {l : List α} {r : Bs}, tkL f n b = some (l, r) → tkL f (n + 1) b = (f r).bind fun x => some (l ++ [x.1], x.2)
  | 0, b, l, r, h => by
    simp only [tkL, Option.some.injEq, Prod.mk.injEq] at h
    obtain ⟨rfl, rfl⟩ := h
    simp only [tkL, Option.bind_some, List.nil_append]
  | n + 1, b, l, r, h => by
    simp only [tkL, Option.bind_eq_some_iff] at h
    obtain ⟨⟨x, b1⟩, h1, ⟨l1, b2⟩, h2, h3⟩ := h
    simp only [Option.some.injEq, Prod.mk.injEq] at h3
    obtain ⟨rfl, rfl⟩ := h3
    have h4 := tkL_snoc f n h2
    show (f b).bind _ = _
    rw [h1]
    simp only [Option.bind_some]
    rw [h4]
    cases f b2 with
    | none => rfl
    | some y => rfl
theorem tkL_take {α : Type} (f : Bs → Option (α × Bs)) : ∀ (k : Nat) {n : Nat} {b : Bs} {l L : List α} {r R : Bs}, k ≤ n → tkL f n b = some (L, R) → tkL f k b = some (l, r) → L.take k = l
  | 0, n, b, l, L, r, R, _, _, h => by
    simp only [tkL, Option.some.injEq, Prod.mk.injEq] at h
    obtain ⟨rfl, rfl⟩ := h
    rfl
  | k + 1, n, b, l, L, r, R, hk, h1, h2 => by
    obtain ⟨n, rfl⟩ : ∃ m, n = m + 1 := ⟨n - 1, by omega⟩
    simp only [tkL, Option.bind_eq_some_iff] at h1 h2
    obtain ⟨⟨x, b1⟩, u1, ⟨l1, b2⟩, u2, u3⟩ := h1
    obtain ⟨⟨y, c1⟩, v1, ⟨m1, c2⟩, v2, v3⟩ := h2
    rw [u1] at v1
    cases v1
    simp only [Option.some.injEq, Prod.mk.injEq] at u3 v3
    obtain ⟨rfl, rfl⟩ := u3
    obtain ⟨rfl, rfl⟩ := v3
    rw [List.take_succ_cons, tkL_take f k (by omega) u2 v2]
/-- one that cannot be taken -/
theorem tkL_none {α : Type} (f : Bs → Option (α × Bs)) : ∀ (k : Nat) {n : Nat} {b : Bs}, k ≤ n → tkL f k b = none → tkL f n b = none
  | 0, _, _, _, h => by cases h
  | k + 1, n, b, hk, h => by
    obtain ⟨n, rfl⟩ : ∃ m, n = m + 1 := ⟨n - 1, by omega⟩
    simp only [tkL] at h ⊢
    cases hf : f b with
    | none => rfl
    | some x =>
      rw [hf] at h
      simp only [Option.bind_some] at h ⊢
      cases hk2 : tkL f k x.2 with
      | none => rw [tkL_none f k (by omega) hk2]; rfl
      | some y => rw [hk2] at h; cases h
theorem tkR_rowB {α : Type} {f : Bs → Option (α × Bs)} {enc : α → Bs} {l : List α} {most : Nat} (hm : most < 1000) (hl : l.length ≤ most) (h : ∀ x ∈ l, ∀ r, f (enc x ++ r) = some (x, r)) (r : Bs) : tkR most f (rowB enc l ++ r) = some (l, r) := by
  unfold tkR rowB
  rw [List.append_assoc, tkN_be8 (by omega)]
  simp only [Option.bind_some]
  rw [if_pos hl, tkL_flat h]
theorem tkR_some {α : Type} {f : Bs → Option (α × Bs)} {enc : α → Bs} (hf : ∀ b x r, f b = some (x, r) → b = enc x ++ r) {most : Nat} {b r : Bs} {l : List α} (h : tkR most f b = some (l, r)) : b = rowB enc l ++ r ∧ l.length ≤ most := by
  unfold tkR at h
  rw [Option.bind_eq_some_iff] at h
  obtain ⟨⟨n, b1⟩, h1, h2⟩ := h
  dsimp only at h2
  split at h2
  · rename_i hc
    obtain ⟨h3, h4⟩ := tkL_some hf h2
    unfold rowB
    rw [h4, List.append_assoc, ← h3]
    exact ⟨(tkN_some h1).1, hc⟩
  · cases h2
/-! the three kinds -/
theorem route_tk {r : Rt.Route} (h1 : r.pre.size < 1000) (h2 : 0 ≤ r.target) (h3 : r.target ≤ 9223372036854775807) (t : Bs) : tkRoute (routeB r ++ t) = some (r, t) := by
  obtain ⟨m, e, hm⟩ := tkN_nB h2 h3 t
  unfold tkRoute routeB
  rw [List.append_assoc, tkT_txB (by omega)]
  simp only [Option.bind_some]
  rw [e]
  simp only [Option.bind_some]
  rw [hm]
theorem tk_route (b : Bs) (x : Rt.Route) (r : Bs) (h : tkRoute b = some (x, r)) : b = routeB x ++ r := by
  simp only [tkRoute, Option.bind_eq_some_iff] at h
  obtain ⟨⟨s, b1⟩, h1, ⟨n, b2⟩, h2, h3⟩ := h
  simp only [Option.some.injEq, Prod.mk.injEq] at h3
  obtain ⟨rfl, rfl⟩ := h3
  unfold routeB
  dsimp only at h2 ⊢
  rw [nB_nat, List.append_assoc, ← (tkN_some h2).1]
  exact tkT_some h1
theorem use_tk {u : Lm.Use} (h1 : u.card.size < 1000) (h2 : 0 ≤ u.window) (h3 : u.window ≤ 9223372036854775807) (h4 : 0 ≤ u.times) (h5 : u.times ≤ 9223372036854775807) (h6 : 0 ≤ u.sum) (h7 : u.sum ≤ 9223372036854775807) (t : Bs) : tkUse (useB u ++ t) = some (u, t) := by
  obtain ⟨m3, e3, hm3⟩ := tkN_nB h6 h7 t
  obtain ⟨m2, e2, hm2⟩ := tkN_nB h4 h5 (nB u.sum ++ t)
  obtain ⟨m1, e1, hm1⟩ := tkN_nB h2 h3 (nB u.times ++ (nB u.sum ++ t))
  unfold tkUse useB
  rw [List.append_assoc, List.append_assoc, List.append_assoc, tkT_txB (by omega)]
  simp only [Option.bind_some]
  rw [e1]
  simp only [Option.bind_some]
  rw [e2]
  simp only [Option.bind_some]
  rw [e3]
  simp only [Option.bind_some]
  rw [hm1, hm2, hm3]
theorem tk_use (b : Bs) (x : Lm.Use) (r : Bs) (h : tkUse b = some (x, r)) : b = useB x ++ r := by
  simp only [tkUse, Option.bind_eq_some_iff] at h
  obtain ⟨⟨s, b1⟩, h1, ⟨n, b2⟩, h2, ⟨m, b3⟩, h3, ⟨k, b4⟩, h4, h5⟩ := h
  simp only [Option.some.injEq, Prod.mk.injEq] at h5
  obtain ⟨rfl, rfl⟩ := h5
  unfold useB
  dsimp only at h2 h3 h4 ⊢
  rw [nB_nat, nB_nat, nB_nat, List.append_assoc, List.append_assoc, List.append_assoc, ← (tkN_some h4).1, ← (tkN_some h3).1, ← (tkN_some h2).1]
  exact tkT_some h1
theorem post_tk {p : Lg.Post} (h1 : p.key.size < 1000) (h2 : 0 ≤ p.amount) (h3 : p.amount ≤ 9223372036854775807) (h4 : 0 ≤ p.state) (h5 : p.state ≤ 9223372036854775807) (h6 : p.answer.size < 1000) (t : Bs) : tkPost (postB p ++ t) = some (p, t) := by
  obtain ⟨m2, e2, hm2⟩ := tkN_nB h4 h5 (txB p.answer ++ t)
  obtain ⟨m1, e1, hm1⟩ := tkN_nB h2 h3 (nB p.state ++ (txB p.answer ++ t))
  unfold tkPost postB
  rw [List.append_assoc, List.append_assoc, List.append_assoc, tkT_txB (by omega)]
  simp only [Option.bind_some]
  rw [e1]
  simp only [Option.bind_some]
  rw [e2]
  simp only [Option.bind_some]
  rw [tkT_txB (by omega)]
  simp only [Option.bind_some]
  rw [hm1, hm2]
theorem tk_post (b : Bs) (x : Lg.Post) (r : Bs) (h : tkPost b = some (x, r)) : b = postB x ++ r := by
  simp only [tkPost, Option.bind_eq_some_iff] at h
  obtain ⟨⟨s, b1⟩, h1, ⟨n, b2⟩, h2, ⟨m, b3⟩, h3, ⟨k, b4⟩, h4, h5⟩ := h
  simp only [Option.some.injEq, Prod.mk.injEq] at h5
  obtain ⟨rfl, rfl⟩ := h5
  unfold postB
  dsimp only at h2 h3 h4 ⊢
  rw [nB_nat, nB_nat, List.append_assoc, List.append_assoc, List.append_assoc, ← tkT_some h4, ← (tkN_some h3).1, ← (tkN_some h2).1]
  exact tkT_some h1
/-! all of it -/
theorem may_post {p : Lg.Post} (h : p.may = true) : p.key.size ≤ 40 ∧ 0 ≤ p.amount ∧ p.amount ≤ 999999999999 ∧ p.answer.size ≤ 256 ∧ (p.state = 1 ∨ p.state = 2) := by
  unfold Lg.Post.may at h
  simp only [Bool.and_eq_true, decide_eq_true_eq, Bool.or_eq_true, beq_iff_eq, Bool.not_eq_true'] at h
  obtain ⟨⟨⟨⟨⟨_, h2⟩, h3⟩, h4⟩, h5⟩, h6⟩ := h
  exact ⟨h2, h3, h4, h5, h6⟩
theorem card_size {s : ByteArray} (h : Lm.cardB s = true) : s.size ≤ 32 := by
  unfold Lm.cardB at h
  simp only [Bool.and_eq_true, decide_eq_true_eq] at h
  exact h.2
theorem tk_stateR {M : MaskF} {S : TenS} (ho : TenantOk M S) (r : Bs) : tkS (stateR S r) = some (S, r) := by
  obtain ⟨r1, r2, r3, r4, r5, r6, r7, r8⟩ := Lm.right_iff.1 ho.rule
  have hv := ho.v2
  obtain ⟨m1, e1, h1⟩ := tkN_nB (n := S.rule.ticks) (by omega) (by omega) (nB S.rule.times ++ (nB S.rule.sum ++ (nB S.rule.once ++ (rowB routeB S.rs ++ (rowB useB S.us ++ (rowB postB S.ps ++ r))))))
  obtain ⟨m2, e2, h2⟩ := tkN_nB (n := S.rule.times) (by omega) (by omega) (nB S.rule.sum ++ (nB S.rule.once ++ (rowB routeB S.rs ++ (rowB useB S.us ++ (rowB postB S.ps ++ r)))))
  obtain ⟨m3, e3, h3⟩ := tkN_nB (n := S.rule.sum) (by omega) (by omega) (nB S.rule.once ++ (rowB routeB S.rs ++ (rowB useB S.us ++ (rowB postB S.ps ++ r))))
  obtain ⟨m4, e4, h4⟩ := tkN_nB (n := S.rule.once) (by omega) (by omega) (rowB routeB S.rs ++ (rowB useB S.us ++ (rowB postB S.ps ++ r)))
  have e5 := tkR_rowB (f := tkRoute) (enc := routeB) (most := 24) (by omega) ho.rs.len (fun x hx t => by
    have h1 := (preB_iff.1 (ho.rs.pre x hx)).2.2
    have h2 := ho.rs.tgt x hx
    exact route_tk (by omega) (by omega) (by omega) t) (rowB useB S.us ++ (rowB postB S.ps ++ r))
  have e6 := tkR_rowB (f := tkUse) (enc := useB) (most := 16) (by omega) ho.us.len (fun x hx t => by
    have h1 := ho.us.each x hx
    have h2 := ho.win x hx
    have h3 := card_size h1.card
    have h4 := h1.t1
    have h5 := h1.s1
    exact use_tk (by omega) h1.win h2 h1.t0 (by omega) h1.s0 (by omega) t) (rowB postB S.ps ++ r)
  have e7 := tkR_rowB (f := tkPost) (enc := postB) (most := 24) (by omega) ho.ps.len (fun x hx t => by
    obtain ⟨h1, h2, h3, h4, h5⟩ := may_post (ho.ps.may x hx)
    exact post_tk (by omega) h2 (by omega) (by omega) (by omega) (by omega) t) r
  unfold tkS stateR
  rw [tkN_be8 (by omega)]
  simp only [Option.bind_some]
  rw [e1]
  simp only [Option.bind_some]
  rw [e2]
  simp only [Option.bind_some]
  rw [e3]
  simp only [Option.bind_some]
  rw [e4]
  simp only [Option.bind_some]
  rw [e5]
  simp only [Option.bind_some]
  rw [e6]
  simp only [Option.bind_some]
  rw [e7]
  simp only [Option.bind_some]
  rw [h1, h2, h3, h4]
theorem stateR_tk {b r : Bs} {S : TenS} (h : tkS b = some (S, r)) : b = stateR S r := by
  simp only [tkS, Option.bind_eq_some_iff] at h
  obtain ⟨⟨v, b0⟩, h0, ⟨a1, b1⟩, h1, ⟨a2, b2⟩, h2, ⟨a3, b3⟩, h3, ⟨a4, b4⟩, h4, ⟨rs, b5⟩, h5, ⟨us, b6⟩, h6, ⟨ps, b7⟩, h7, h8⟩ := h
  simp only [Option.some.injEq, Prod.mk.injEq] at h8
  obtain ⟨rfl, rfl⟩ := h8
  unfold stateR
  dsimp only at h1 h2 h3 h4 h5 h6 h7 ⊢
  rw [nB_nat, nB_nat, nB_nat, nB_nat, ← (tkR_some tk_post h7).1, ← (tkR_some tk_use h6).1, ← (tkR_some tk_route h5).1, ← (tkN_some h4).1, ← (tkN_some h3).1, ← (tkN_some h2).1, ← (tkN_some h1).1]
  exact (tkN_some h0).1
theorem state_inj {M M' : MaskF} {S S' : TenS} (h : TenantOk M S) (h' : TenantOk M' S') (e : stateB S = stateB S') : S = S' := by
  have h1 := tk_stateR h []
  have h2 := tk_stateR h' []
  unfold stateB at e
  rw [e, h2] at h1
  simp only [Option.some.injEq, Prod.mk.injEq] at h1
  exact h1.1.symm
/-- bytes are a state's -/
def IsState (M : MaskF) (b : Bs) : Prop := ∃ S, TenantOk M S ∧ stateB S = b
theorem not_state {M : MaskF} {b : Bs} (h : ∀ S, TenantOk M S → tkS b ≠ some (S, [])) : ¬ IsState M b := by
  rintro ⟨S, ho, rfl⟩
  exact h S ho (tk_stateR ho [])
end Go.Proofs.YtajhgejhdalobaaGreatDoor
namespace Go.Proofs.YtajhgejhdalobaaGreatDoor
open Go.RowKit

theorem only_sum {M : MaskF} {S : TenS} (ho : TenantOk M S) {a : TAct} (hd : a.d = 0) (hx : (onlyT M S a).2.1 = t4 48 52 49 48 ∨ (onlyT M S a).2.1 = t4 48 52 51 48) : Lg.sumA (onlyT M S a).1.ps ≤ Lg.sumA S.ps := by
  rw [only_handle (.inl hd)] at hx ⊢
  exact handle_sum ho (han_cases M S _ _ _) hx
theorem sum_take {ps : List Lg.Post} {k : Nat} (hk : k < ps.length) : Lg.sumA (ps.take (k + 1)) = Lg.sumA (ps.take k) + (if ps[k].state = 1 then ps[k].amount else 0) := by
  rw [List.take_succ_eq_append_getElem hk, Lg.sumA_append]
  simp [Lg.sumA, Lg.Post.counts]
theorem sum_take_nonneg {ps : List Lg.Post} (h : Lg.Good ps) (k : Nat) : 0 ≤ Lg.sumA (ps.take k) ∧ Lg.sumA (ps.take k) ≤ 5000000000000 := by
  have h1 : 0 ≤ Lg.sumA (ps.take k) := Lg.sumA_nonneg (fun p hp => h.may p (List.mem_of_mem_take hp))
  have h2 : 0 ≤ Lg.sumA (ps.drop k) := Lg.sumA_nonneg (fun p hp => h.may p (List.mem_of_mem_drop hp))
  have h3 : Lg.sumA ps = Lg.sumA (ps.take k) + Lg.sumA (ps.drop k) := by rw [← Lg.sumA_append, List.take_append_drop]
  have := h.total
  exact ⟨h1, by omega⟩
set_option maxRecDepth 100000 in
set_option maxHeartbeats 6400000 in
theorem sums_walk {w : World} (hG : Glob w noBlock) {ao : Option Addr} {xs : List MAct} (hx : RowRd MActR w ao xs) (hok : ∀ y ∈ xs, y.Ok w) (cap : Nat) (n : Int) :
    Calls Tryz.prog 4 #[.int .i64 n, .slice ao xs.length cap] w fun e w' => e = .returned (.bool true) ∧ Below w.heap.size w w' := by
  have HX := Lib.hid (And.intro hG (And.intro hx hok))
  have HM := Lib.hid (fun W => tmaster_any W)
  have HSm := Lib.hid (tsmall_any hG)
  clear hG hx hok
  go_enter Tryz.func4, Tryz.ntmps4
  go_wp2_with fail
  refine HSm.out.mono ?_
  rintro e w1 ⟨rfl, f1⟩
  have H1 := Lib.hid f1
  clear f1 HSm
  go_wp2_with fail
  refine (HM.out _).mono ?_
  rintro e w2 ⟨g, rfl, k1, k2, k3⟩
  have H2 := Lib.hid (And.intro k1 (H1.out.trans' k2))
  clear k1 k2 k3 HM H1
  by_cases hn : n < 1 ∨ 64 < n
  · have HN := Lib.hid (tnew_bad H2.out.1 16 (by decide) (by decide) hn)
    clear hn
    go_wp2_with fail
    refine HN.out.mono ?_
    rintro e w3 ⟨rfl, f3⟩
    have H3 := Lib.hid (H2.out.2.trans' f3)
    clear f3 HN H2
    go_wp2_with fail
    go_ret
    exact ⟨rfl, H3.out.below (Nat.le_refl _) (fun _ h => h.elim)⟩
  obtain ⟨m, rfl⟩ : ∃ m : Nat, n = (m : Int) := ⟨n.toNat, by omega⟩
  have hm1 : 1 ≤ m := by omega
  have hm2 : m ≤ 64 := by omega
  clear hn
  have HN := Lib.hid (tnew_ok H2.out.1 16 (by decide) (by decide) hm1 hm2)
  unfold TNewP at HN
  go_wp2_with fail
  refine HN.out.mono ?_
  rintro e w3 ⟨A, H, rfl, t1, t2, t3⟩
  have O3 := Lib.hid (OwnL.start (show OwnT w w3 A mastB m newT H from ⟨t1, H2.out.2.trans' t2, fun k hk => Nat.le_trans H2.out.2.size (t3 k hk)⟩))
  obtain ⟨pb, hpb⟩ : ∃ x, w3.heap.size = x := ⟨_, rfl⟩
  clear t1 t2 t3 HN H2
  go_upto_region 6 with fail
  refine wp_at (fun W => OwnL w W A mastB m newT H [(pb, .cells #[.slice none 0 0, .int .i64 0, .pointer (some ⟨A.tb, 0, none⟩), .pointer none, .slice none 0 0] 43 (0, 0))]) (hpb ▸ O3.out.new _) ?_
  rintro w4 k4
  have H4 := Lib.hid k4
  clear k4 O3 hpb
  go_wp2_with fail
  go_loopw [9] (fun s9 W => ∃ (k : Nat) (S : TenS) (H : Nat → Prop), k ≤ xs.length ∧ k ≤ 50 ∧ s9 = .int .i64 k ∧ TenantOk (maskV mastB m) S ∧ Hid (OwnL w W A mastB m S H [(pb, .cells #[.slice none 0 0, .int .i64 0, .pointer (some ⟨A.tb, 0, none⟩), .pointer none, .slice none 0 0] 43 (0, 0))])) (fun s9 _ => 50 - (intOf s9).toNat)
  case atStart => exact ⟨0, newT, H, Nat.zero_le _, Nat.zero_le _, rfl, ok_new _, Lib.hid H4.out⟩
  case round =>
    clear H4
    obtain ⟨k, S, H4, hk, hk50, rfl, ho, HI⟩ := hrel
    by_cases hlt : k < xs.length ∧ k < 50
    · obtain ⟨hlt, hlt2⟩ := hlt
      have q1 : (k : Int) < (xs.length : Int) := by omega
      have q2 : (k : Int) < 50 := by omega
      have q0 : (0 : Int) ≤ (k : Int) := by omega
      obtain ⟨b, off, rfl, hbw, y0, y1, y2, y3, y4, y5, y6, y7, y8, y9⟩ := mact_cells HX.out.2.1 hlt
      have HTo := Lib.hid (ttotal_any HI.out.own.it)
      obtain ⟨was, hwas⟩ : ∃ x, Lg.sumA S.ps = x := ⟨_, rfl⟩
      rw [hwas] at HTo
      have HY := Lib.hid (And.intro hbw (And.intro y0 (And.intro y1 (And.intro y2 (And.intro y3 (And.intro y4 (And.intro y5 (And.intro y6 (And.intro y7 (And.intro y8 y9))))))))))
      have HWas := Lib.hid hwas
      clear y0 y1 y2 y3 y4 y5 y6 y7 y8 y9 hbw hwas
      go_wp2_with fail
      refine HTo.out.mono ?_
      rintro e w5 ⟨rfl, rfl⟩
      have HOn := Lib.hid (HI.out.only HX.out.1 (by decide) hm1 hm2 ho in0 rfl (HX.out.2.2 _ (List.getElem_mem hlt)))
      obtain ⟨hbw, y0, y1, y2, y3, y4, y5, y6, y7, y8, y9⟩ := HY.out
      have HF := Lib.hid HI.out.own.fr
      have z0 := (HF.out.cell (p := ⟨b, _, none⟩) hbw (fun z => z)).trans y0
      have z1 := (HF.out.cell (p := ⟨b, _, none⟩) hbw (fun z => z)).trans y1
      have z2 := (HF.out.cell (p := ⟨b, _, none⟩) hbw (fun z => z)).trans y2
      have z3 := (HF.out.cell (p := ⟨b, _, none⟩) hbw (fun z => z)).trans y3
      have z4 := (HF.out.cell (p := ⟨b, _, none⟩) hbw (fun z => z)).trans y4
      have z5 := (HF.out.cell (p := ⟨b, _, none⟩) hbw (fun z => z)).trans y5
      have z6 := (HF.out.cell (p := ⟨b, _, none⟩) hbw (fun z => z)).trans y6
      have z7 := (HF.out.cell (p := ⟨b, _, none⟩) hbw (fun z => z)).trans y7
      have z8 := (HF.out.cell (p := ⟨b, _, none⟩) hbw (fun z => z)).trans y8
      have z9 := (HF.out.cell (p := ⟨b, _, none⟩) hbw (fun z => z)).trans y9
      have HD := Lib.hid (And.intro hbw y0)
      have HSu := Lib.hid (only_sum ho (a := xs[k].plain))
      have HO2 := Lib.hid (ok_only ho xs[k].plain)
      clear y0 y1 y2 y3 y4 y5 y6 y7 y8 y9 hbw HF HTo HY
      generalize xs[k] = a at *
      obtain ⟨d, an, now, t, fo, fc, q, ⟨rt, rm, rs, ro⟩, s⟩ := a
      unfold MAct.val at HOn
      unfold MAct.plain at HSu HO2
      dsimp only at HOn HSu HO2 HD z0 z1 z2 z3 z4 z5 z6 z7 z8 z9
      unfold MAct.plain at HOn
      dsimp only at HOn
      obtain ⟨⟨S5, T, l⟩, hr⟩ : ∃ r, onlyT (maskV mastB m) S ⟨d, an, now, t, q, ⟨rt, rm, rs, ro⟩, s⟩ = r := ⟨_, rfl⟩
      rw [hr] at HOn HSu HO2
      rw [HWas.out] at HSu
      dsimp only at HOn HSu HO2
      clear hr ho HWas
      go_wp2_with fail
      refine HOn.out.mono ?_
      rintro e w6 ⟨⟨xa, xn, xc⟩, H6, rfl, -, -, j3, -, -⟩
      have HJ := Lib.hid j3
      obtain ⟨gx, hgx⟩ : ∃ x, w6.heap.size = x := ⟨_, rfl⟩
      clear j3 HOn HI z0 z1 z2 z3 z4 z5 z6 z7 z8 z9
      dsimp only [SV.val]
      go_upto_region 11 with fail
      refine wp_at (fun W => OwnL w W A mastB m S5 H6 [(gx, .cells #[.string T, .slice xa xn xc] 25 (0, 0)), (pb, .cells #[.slice none 0 0, .int .i64 0, .pointer (some ⟨A.tb, 0, none⟩), .pointer none, .slice none 0 0] 43 (0, 0))]) (hgx ▸ HJ.out.new _) ?_
      clear HJ hgx
      rintro w7 k7
      have H7 := Lib.hid k7
      have HPo := Lib.hid (tposts_any k7.own.it)
      clear k7
      go_wp2_with fail
      refine HPo.out.mono ?_
      rintro e w8 ⟨v, rfl, r8, f8, n8⟩
      obtain ⟨vo, vc, rfl⟩ := Lg.PostsAt.shape r8
      have H8 := Lib.hid (And.intro (H7.out.on f8) r8)
      obtain ⟨ps, hps⟩ : ∃ x, S5.ps = x := ⟨_, rfl⟩
      have HGo := Lib.hid (show Lg.Good ps from hps ▸ HO2.out.ps)
      rw [hps] at H8 HSu ⊢
      have HPs := Lib.hid hps
      have hpl : ps.length ≤ 24 := HGo.out.len
      clear r8 f8 n8 HPo H7 hps
      go_wp2_with fail
      go_loopw [12, 14] (fun s12 s14 W => ∃ j : Nat, j ≤ ps.length ∧ s12 = .int .i64 (Lg.sumA (ps.take j)) ∧ s14 = .int .i64 j ∧ Hid (OwnL w W A mastB m S5 H6 [(gx, .cells #[.string T, .slice xa xn xc] 25 (0, 0)), (pb, .cells #[.slice none 0 0, .int .i64 0, .pointer (some ⟨A.tb, 0, none⟩), .pointer none, .slice none 0 0] 43 (0, 0))] ∧ Lg.PostsAt W (.slice vo ps.length vc) ps)) (fun _ s14 _ => ps.length - (intOf s14).toNat)
      case atStart => exact ⟨0, Nat.zero_le _, rfl, rfl, H8⟩
      case round =>
        clear H8
        obtain ⟨j, hj, rfl, rfl, HL⟩ := hrel
        by_cases hjl : j < ps.length
        · have p1 : (j : Int) < (ps.length : Int) := by omega
          have p0 : (0 : Int) ≤ (j : Int) := by omega
          obtain ⟨gp, rfl, -, -, -, u1, u2, -⟩ := HL.out.2.post hjl
          have hS := sum_take hjl
          have b1 := sum_take_nonneg HGo.out j
          have b2 := sum_take_nonneg HGo.out (j + 1)
          have b3 : 0 ≤ ps[j].amount ∧ ps[j].amount ≤ 999999999999 := by
            have := may_post (HGo.out.may _ (List.getElem_mem hjl))
            exact ⟨this.2.1, this.2.2.1⟩
          have HS := Lib.hid hS
          generalize ps[j] = po at *
          obtain ⟨pk, pa, pst, pan⟩ := po
          dsimp only at u1 u2 b3 HS
          by_cases hst : pst = 1
          · subst hst
            have q7 : wrap64 (Lg.sumA (ps.take j) + pa) = Lg.sumA (ps.take j) + pa := by unfold wrap64; omega
            have HS2 := Lib.hid (show Lg.sumA (ps.take (j + 1)) = Lg.sumA (ps.take j) + pa from by rw [HS.out, if_pos rfl])
            clear hS HS b1 b2 b3
            generalize Lg.sumA (ps.take j) = sj at *
            go_wp2_with fail
            go_roundw
            case rel => exact ⟨j + 1, hjl, by rw [HS2.out, q7], by go_num, HL⟩
            case measure => simp [intOf]; omega
          · have hst' : (pst == 1) = false := by simpa using hst
            have HS2 := Lib.hid (show Lg.sumA (ps.take (j + 1)) = Lg.sumA (ps.take j) from by rw [HS.out, if_neg hst]; omega)
            clear hS HS b1 b2 b3 hst
            generalize Lg.sumA (ps.take j) = sj at *
            go_wp2_with fail
            go_roundw
            case rel => exact ⟨j + 1, hjl, by rw [HS2.out], by go_num, HL⟩
            case measure => simp [intOf]; omega
        · obtain rfl : j = ps.length := by omega
          rw [List.take_length]
          have hb := sum_take_nonneg HGo.out ps.length
          rw [List.take_length] at hb
          obtain ⟨b1, b2⟩ := hb
          have p1 : ¬ ((24 : Int) < (ps.length : Int)) := by omega
          have HT2 := Lib.hid (ttotal_any HL.out.1.own.it)
          rw [HPs.out] at HT2
          obtain ⟨sm, hsm⟩ : ∃ x, Lg.sumA ps = x := ⟨_, rfl⟩
          rw [hsm] at HT2 HSu b1 b2 ⊢
          have p2 : ¬ sm < 0 := by omega
          have p3 : ¬ (5000000000000 < sm) := by omega
          have HLc := Lib.hid HL.out.1
          clear hsm HPs HGo hpl hjl HL
          go_wp2_with fail
          refine HT2.out.mono ?_
          rintro e w9 ⟨rfl, rfl⟩
          clear HT2
          have q5 : (k : Int) + 1 = ((k + 1 : Nat) : Int) := by omega
          have z0 := (HLc.out.own.fr.cell (p := ⟨b, _, none⟩) HD.out.1 (fun z => z)).trans HD.out.2
          have b6 := HLc.out.at' in0
          have c0 := cell_of b6 0
          clear b6
          have HR := Lib.hid (show OwnL w wr A mastB m S5 H6 [(pb, .cells #[.slice none 0 0, .int .i64 0, .pointer (some ⟨A.tb, 0, none⟩), .pointer none, .slice none 0 0] 43 (0, 0))] from HLc.out.sub (fun p hp => List.mem_cons_of_mem _ hp))
          clear HLc HD q5
          by_cases hd : d = 0
          · subst hd
            by_cases e1 : T = t4 48 52 49 48
            · have p4 : ¬ (was < sm) := by have := HSu.out rfl (.inl e1); omega
              unfold t4 at e1
              subst e1
              clear HSu
              go_wp2_with fail
              go_roundw
              case rel => exact ⟨k + 1, S5, H6, hlt, by omega, by go_num, HO2.out, HR⟩
              case measure => simp [intOf]; omega
            · by_cases e2 : T = t4 48 52 51 48
              · have p4 : ¬ (was < sm) := by have := HSu.out rfl (.inr e2); omega
                have n1 := lit_ne e1
                unfold t4 at e2
                subst e2
                clear HSu e1
                go_wp2_with fail
                go_roundw
                case rel => exact ⟨k + 1, S5, H6, hlt, by omega, by go_num, HO2.out, HR⟩
                case measure => simp [intOf]; omega
              · have n1 := lit_ne e1
                have n2 := lit_ne e2
                clear HSu e1 e2
                go_wp2_with fail
                go_roundw
                case rel => exact ⟨k + 1, S5, H6, hlt, by omega, by go_num, HO2.out, HR⟩
                case measure => simp [intOf]; omega
          · have n0 : (d == 0) = false := by simpa using hd
            clear HSu
            go_wp2_with fail
            go_roundw
            case rel => exact ⟨k + 1, S5, H6, hlt, by omega, by go_num, HO2.out, HR⟩
            case measure => simp [intOf]; omega
    · have hcs : (xs.length : Int) ≤ (k : Int) ∨ ((k : Int) < (xs.length : Int) ∧ (50 : Int) ≤ (k : Int)) := by omega
      clear hlt
      rcases hcs with q | ⟨q, q'⟩
      all_goals
        go_wp2_with fail
        go_ret
        exact ⟨rfl, HI.out.own.fr.below (Nat.le_refl _) (fun _ h => h.elim)⟩
end Go.Proofs.YtajhgejhdalobaaGreatDoor
