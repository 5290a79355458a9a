/-
  THE WALKS of the field of 256.
-/
import Derived.Laws.BitsAllLaws
import Derived.Lib.RabinKarpLaws
import Derived.Test.YthabllnhlhkejaaGreatDoorBytes
namespace Go.Proofs.YthabllnhlhkejaaGreatDoor

/-! ### a number in eight bytes -/
def be8 (n : Nat) : List UInt8 := (List.range 8).map (fun i => UInt8.ofNat (n >>> (56 - 8 * i)))
theorem be8_len (n : Nat) : (be8 n).length = 8 := by simp [be8]
def num8 (l : List UInt8) : Nat := l.foldl (fun n c => n * 256 + c.toNat) 0
def be4 (n : Nat) : List UInt8 := (List.range 4).map (fun i => UInt8.ofNat (n >>> (24 - 8 * i)))
theorem be4_len (n : Nat) : (be4 n).length = 4 := by simp [be4]
theorem u8_shift (n k : Nat) : (UInt8.ofNat (n >>> k)).toNat = n / 2 ^ k % 256 := by
  rw [UInt8.toNat_ofNat', Nat.shiftRight_eq_div_pow]
theorem num8_be8 {n : Nat} (h : n < 2 ^ 64) : num8 (be8 n) = n := by
  simp only [num8, be8, List.range, List.range.loop, List.map_cons, List.map_nil, List.foldl_cons, List.foldl_nil, u8_shift]
  omega
theorem num8_be4 {n : Nat} (h : n < 2 ^ 32) : num8 (be4 n) = n := by
  simp only [num8, be4, List.range, List.range.loop, List.map_cons, List.map_nil, List.foldl_cons, List.foldl_nil, u8_shift]
  omega

/-! ### the digest -/
abbrev W32 := BitVec 32
def rotr (x : W32) (n : Nat) : W32 := (x >>> n) ||| (x <<< (32 - n))
/-- four bytes, the great one ahead -/
def wordOf (b : List UInt8) (i : Nat) : W32 :=
  (((BitVec.ofNat 32 (b.getD i 0).toNat <<< 24) ||| (BitVec.ofNat 32 (b.getD (i + 1) 0).toNat <<< 16)) ||| (BitVec.ofNat 32 (b.getD (i + 2) 0).toNat <<< 8)) ||| BitVec.ofNat 32 (b.getD (i + 3) 0).toNat
/-- the next word of a block's row of 64 -/
def nextW (b : List UInt8) (l : List W32) (t : Nat) : W32 :=
  if t < 16 then wordOf b (4 * t) else
    ((l.getD (t - 16) 0 + ((rotr (l.getD (t - 15) 0) 7 ^^^ rotr (l.getD (t - 15) 0) 18) ^^^ (l.getD (t - 15) 0) >>> 3)) + l.getD (t - 7) 0) + ((rotr (l.getD (t - 2) 0) 17 ^^^ rotr (l.getD (t - 2) 0) 19) ^^^ (l.getD (t - 2) 0) >>> 10)
def sched (b : List UInt8) : Nat → List W32
  | 0 => []
  | t + 1 => sched b t ++ [nextW b (sched b t) t]
theorem sched_len (b : List UInt8) (t : Nat) : (sched b t).length = t := by
  induction t with
  | zero => rfl
  | succ t ih => simp [sched, ih]

structure S8 where
  a : W32
  b : W32
  c : W32
  d : W32
  e : W32
  f : W32
  g : W32
  h : W32
namespace S8
def list (s : S8) : List W32 := [s.a, s.b, s.c, s.d, s.e, s.f, s.g, s.h]
def add (s t : S8) : S8 := ⟨s.a + t.a, s.b + t.b, s.c + t.c, s.d + t.d, s.e + t.e, s.f + t.f, s.g + t.g, s.h + t.h⟩
def sumX (s : S8) (k w : W32) : W32 := (((s.h + ((rotr s.e 6 ^^^ rotr s.e 11) ^^^ rotr s.e 25)) + (s.g ^^^ (s.e &&& (s.f ^^^ s.g)))) + k) + w
def sumY (s : S8) : W32 := ((rotr s.a 2 ^^^ rotr s.a 13) ^^^ rotr s.a 22) + (((s.a &&& s.b) ^^^ (s.a &&& s.c)) ^^^ (s.b &&& s.c))
def round (s : S8) (k w : W32) : S8 := ⟨s.sumX k w + s.sumY, s.a, s.b, s.c, s.d + s.sumX k w, s.e, s.f, s.g⟩
end S8
def shaK : List W32 := [0x428a2f98, 0x71374491, 0xb5c0fbcf, 0xe9b5dba5, 0x3956c25b, 0x59f111f1, 0x923f82a4, 0xab1c5ed5,
  0xd807aa98, 0x12835b01, 0x243185be, 0x550c7dc3, 0x72be5d74, 0x80deb1fe, 0x9bdc06a7, 0xc19bf174,
  0xe49b69c1, 0xefbe4786, 0x0fc19dc6, 0x240ca1cc, 0x2de92c6f, 0x4a7484aa, 0x5cb0a9dc, 0x76f988da,
  0x983e5152, 0xa831c66d, 0xb00327c8, 0xbf597fc7, 0xc6e00bf3, 0xd5a79147, 0x06ca6351, 0x14292967,
  0x27b70a85, 0x2e1b2138, 0x4d2c6dfc, 0x53380d13, 0x650a7354, 0x766a0abb, 0x81c2c92e, 0x92722c85,
  0xa2bfe8a1, 0xa81a664b, 0xc24b8b70, 0xc76c51a3, 0xd192e819, 0xd6990624, 0xf40e3585, 0x106aa070,
  0x19a4c116, 0x1e376c08, 0x2748774c, 0x34b0bcb5, 0x391c0cb3, 0x4ed8aa4a, 0x5b9cca4f, 0x682e6ff3,
  0x748f82ee, 0x78a5636f, 0x84c87814, 0x8cc70208, 0x90befffa, 0xa4506ceb, 0xbef9a3f7, 0xc67178f2]
theorem shaK_len : shaK.length = 64 := rfl
def sha0 : S8 := ⟨0x6a09e667, 0xbb67ae85, 0x3c6ef372, 0xa54ff53a, 0x510e527f, 0x9b05688c, 0x1f83d9ab, 0x5be0cd19⟩
def rounds (b : List UInt8) (s : S8) : Nat → S8
  | 0 => s
  | t + 1 => (rounds b s t).round (shaK.getD t 0) ((sched b 64).getD t 0)
/-- a block of 64 bytes -/
def shaB (s : S8) (b : List UInt8) : S8 := s.add (rounds b s 64)
/-- all whole blocks are taken; what is left -/
def absorb (n : Nat) (s : S8) (l : List UInt8) : S8 × List UInt8 :=
  match n with
  | 0 => (s, l)
  | n + 1 => if 64 ≤ l.length then absorb n (shaB s (l.take 64)) (l.drop 64) else (s, l)
theorem absorb_short {n : Nat} {s : S8} {l : List UInt8} (h : l.length < 64) : absorb n s l = (s, l) := by
  cases n with
  | zero => rfl
  | succ n => rw [absorb, if_neg (by omega)]
theorem absorb_more {n m : Nat} {s : S8} {l : List UInt8} (h : l.length < 64 * (n + 1)) (hm : n ≤ m) : absorb m s l = absorb n s l := by
  induction n generalizing m s l with
  | zero => rw [absorb_short (by omega)]; rfl
  | succ n ih =>
    cases m with
    | zero => omega
    | succ m =>
      rw [absorb, absorb]
      split
      · exact ih (by rw [List.length_drop]; omega) (by omega)
      · rfl
/-- what was absorbed -/
def eat (s : S8) (l : List UInt8) : S8 × List UInt8 := absorb l.length s l
theorem eat_short {s : S8} {l : List UInt8} (h : l.length < 64) : eat s l = (s, l) := absorb_short h
theorem eat_step {s : S8} {l : List UInt8} (h : 64 ≤ l.length) : eat s l = eat (shaB s (l.take 64)) (l.drop 64) := by
  unfold eat
  obtain ⟨n, hn⟩ : ∃ n, l.length = n + 1 := ⟨l.length - 1, by omega⟩
  rw [hn, absorb, if_pos h]
  exact absorb_more (by rw [List.length_drop]; omega) (by rw [List.length_drop]; omega)
theorem eat_rest (s : S8) (l : List UInt8) : (eat s l).2.length < 64 := by
  obtain ⟨n, hn⟩ : ∃ n, l.length = n := ⟨_, rfl⟩
  induction n using Nat.strongRecOn generalizing s l with
  | ind n ih =>
    by_cases h : 64 ≤ l.length
    · rw [eat_step h]
      exact ih (l.drop 64).length (by rw [List.length_drop]; omega) _ _ rfl
    · rw [eat_short (by omega)]
      show l.length < 64
      omega
theorem eat_append (s : S8) (l m : List UInt8) : eat s (l ++ m) = eat (eat s l).1 ((eat s l).2 ++ m) := by
  obtain ⟨n, hn⟩ : ∃ n, l.length = n := ⟨_, rfl⟩
  induction n using Nat.strongRecOn generalizing s l with
  | ind n ih =>
    by_cases h : 64 ≤ l.length
    · rw [eat_step (l := l ++ m) (by rw [List.length_append]; omega), eat_step h, List.take_append_of_le_length h, List.drop_append_of_le_length h]
      exact ih (l.drop 64).length (by rw [List.length_drop]; omega) _ _ rfl
    · rw [eat_short (l := l) (by omega)]
theorem eat_count (s : S8) (l : List UInt8) : ∃ k, l.length = 64 * k + (eat s l).2.length := by
  obtain ⟨n, hn⟩ : ∃ n, l.length = n := ⟨_, rfl⟩
  induction n using Nat.strongRecOn generalizing s l with
  | ind n ih =>
    by_cases h : 64 ≤ l.length
    · rw [eat_step h]
      obtain ⟨k, hk⟩ := ih (l.drop 64).length (by rw [List.length_drop]; omega) (shaB s (l.take 64)) (l.drop 64) rfl
      rw [List.length_drop] at hk
      exact ⟨k + 1, by omega⟩
    · rw [eat_short (by omega)]
      exact ⟨0, by show l.length = 64 * 0 + l.length; omega⟩
/-- four bytes of a word -/
def bytes4 (w : W32) : List UInt8 := [UInt8.ofNat (w >>> 24).toNat, UInt8.ofNat (w >>> 16).toNat, UInt8.ofNat (w >>> 8).toNat, UInt8.ofNat w.toNat]
def shaPad (r n : Nat) : List UInt8 := 128 :: List.replicate ((119 - r) % 64) 0 ++ be8 (8 * n)
def shaEnd (s : S8) (r : List UInt8) (n : Nat) : List UInt8 := (eat s (r ++ shaPad r.length n)).1.list.flatMap bytes4
def sha (l : List UInt8) : List UInt8 := shaEnd (eat sha0 l).1 (eat sha0 l).2 l.length
theorem shaEnd_len (s : S8) (r : List UInt8) (n : Nat) : (shaEnd s r n).length = 32 := by simp [shaEnd, S8.list, bytes4]
theorem sha_len (l : List UInt8) : (sha l).length = 32 := shaEnd_len _ _ _

/-! ### tags -/
def macK (key : List UInt8) : List UInt8 := if 64 < key.length then sha key else key
def macX (x : UInt8) (key : List UInt8) : List UInt8 := ((macK key) ++ List.replicate (64 - (macK key).length) 0).map (· ^^^ x)
theorem macK_len (key : List UInt8) : (macK key).length ≤ 64 := by
  unfold macK
  split
  · rw [sha_len]; omega
  · omega
theorem macX_len (x : UInt8) (key : List UInt8) : (macX x key).length = 64 := by
  have := macK_len key
  simp [macX]
  omega
def mac (key m : List UInt8) : List UInt8 := sha (macX 0x5c key ++ sha (macX 0x36 key ++ m))
theorem mac_len (key m : List UInt8) : (mac key m).length = 32 := sha_len _
def foldK (key : List UInt8) : List (List UInt8) → List UInt8
  | [] => key
  | s :: l => foldK (mac key (be8 s.length ++ s)) l

/-! ### the field of 256 and the blocks' map -/
def fTwice (a : UInt8) : UInt8 := (a <<< 1) ^^^ ((0x1b : UInt8) &&& ((0 : UInt8) - (a >>> 7)))
def mulL : Nat → UInt8 → UInt8 → UInt8 → UInt8
  | 0, p, _, _ => p
  | k + 1, p, a, b => if b = 0 then p else mulL k (p ^^^ (a &&& ((0 : UInt8) - (b &&& 1)))) (fTwice a) (b >>> 1)
def fMul (a b : UInt8) : UInt8 := mulL 8 0 a b
def powL : Nat → UInt8 → UInt8 → Nat → UInt8
  | 0, p, _, _ => p
  | k + 1, p, a, n => if n = 0 then p else if n % 2 = 0 then powL k p (fMul a a) (n / 2) else powL k (fMul p a) a (n - 1)
def fPow (a : UInt8) (n : Nat) : UInt8 := powL n 1 a n
def rotl8 (a : UInt8) (k : Nat) : UInt8 := UInt8.ofBitVec (a.toBitVec.rotateLeft k)
def boxL : Nat → UInt8 → UInt8 → UInt8
  | 0, _, p => p
  | k + 1, i, p => boxL k (rotl8 i 1) (p ^^^ rotl8 i 1)
def fInv (a : UInt8) : UInt8 := fPow a 254
def fBox (a : UInt8) : UInt8 := boxL 4 (fInv a) (fInv a ^^^ 0x63)

/-! ### pads -/
theorem zip_back (p q : List UInt8) (h : p.length ≤ q.length) : List.zipWith (· ^^^ ·) (List.zipWith (· ^^^ ·) p q) q = p := by
  induction p generalizing q with
  | nil => simp
  | cons x p ih =>
    cases q with
    | nil => simp at h
    | cons y q =>
      simp only [List.zipWith_cons_cons]
      rw [ih q (by simpa using h), UInt8.xor_assoc, UInt8.xor_self, UInt8.xor_zero]
end Go.Proofs.YthabllnhlhkejaaGreatDoor
namespace Go.Proofs.YthabllnhlhkejaaGreatDoor
open Go.RowKit

theorem u8_all {P : UInt8 → Prop} (h : ∀ n, n < 256 → P (UInt8.ofNat n)) (a : UInt8) : P a := by
  have := h a.toNat a.toNat_lt
  rwa [UInt8.ofNat_toNat] at this
theorem u8x (a b : UInt8) : bits .xor .u8 (a.toNat : Int) (b.toNat : Int) = ((a ^^^ b).toNat : Int) := by rw [u8_xor_nat _ _ a.toNat_lt b.toNat_lt, UInt8.toNat_xor]
theorem u8a (a b : UInt8) : bits .and .u8 (a.toNat : Int) (b.toNat : Int) = ((a &&& b).toNat : Int) := by rw [u8_and_nat _ _ a.toNat_lt b.toNat_lt, UInt8.toNat_and]
theorem u8neg (a : UInt8) : (-(a.toNat : Int)) % 256 = (((0 : UInt8) - a).toNat : Int) := by
  rw [UInt8.toNat_sub]
  have := a.toNat_lt
  have e : (0 : UInt8).toNat = 0 := rfl
  rw [e]
  omega
theorem twice_u8 (a : UInt8) : bits .xor .u8 ((a.toNat : Int) * 2 % 256) (bits .and .u8 27 (-((a.toNat : Int) / 128) % 256)) = ((fTwice a).toNat : Int) := by
  have h1 : ((a.toNat : Int) * (2 : Int) % (256 : Int)) = ((a <<< 1).toNat : Int) := by
    revert a; apply u8_all; decide +kernel
  have h2 : ((a.toNat : Int) / (128 : Int)) = ((a >>> 7).toNat : Int) := by
    revert a; apply u8_all; decide +kernel
  rw [h1, h2, u8neg, show (27 : Int) = ((0x1b : UInt8).toNat : Int) from rfl, u8a, u8x]
  rfl
theorem twice_any (a : UInt8) (w : World) : Calls Tryz.prog 162 #[byteV a] w fun e w' => e = .returned (byteV (fTwice a)) ∧ w = w' := by
  have H := twice_u8 a
  unfold byteV
  go_enter Tryz.func162, Tryz.ntmps162
  go_wp2_with fail
  go_ret
  exact ⟨by rw [← H]; rfl, rfl⟩

theorem mul_u8 (p a b : UInt8) : bits .xor .u8 (p.toNat : Int) (bits .and .u8 (a.toNat : Int) (-bits .and .u8 (b.toNat : Int) 1 % 256)) = ((p ^^^ (a &&& ((0 : UInt8) - (b &&& 1)))).toNat : Int) := by
  rw [show (1 : Int) = ((1 : UInt8).toNat : Int) from rfl, u8a, u8neg, u8a, u8x]
theorem half_u8 (b : UInt8) : (b.toNat : Int) / (2 : Int) = ((b >>> 1).toNat : Int) := by
  revert b; apply u8_all; decide +kernel
theorem half_nat (b : UInt8) : (b >>> 1).toNat = b.toNat / 2 := by have := half_u8 b; omega
set_option maxHeartbeats 800000 in
theorem mul_any (a b : UInt8) (w : World) : Calls Tryz.prog 157 #[byteV a, byteV b] w fun e w' => e = .returned (byteV (fMul a b)) ∧ w = w' := by
  unfold byteV
  go_enter Tryz.func157, Tryz.ntmps157
  go_wp2_with fail
  go_loopw [0, 1, 5] (fun s0 s1 s5 wr => ∃ (k : Nat) (A B P : UInt8), s0 = .int .u8 (A.toNat : Int) ∧ s1 = .int .u8 (B.toNat : Int) ∧ s5 = .int .u8 (P.toNat : Int) ∧ mulL k P A B = fMul a b ∧ B.toNat < 2 ^ k ∧ wr = w) (fun _ s1 _ _ => (intOf s1).toNat)
  case atStart => exact ⟨8, a, b, 0, rfl, rfl, rfl, rfl, b.toNat_lt, rfl⟩
  case round =>
    obtain ⟨k, A, B, P, rfl, rfl, rfl, hm, hk, rfl⟩ := hrel
    by_cases hb : B = 0
    · subst hb
      have e : P = fMul a b := by
        rw [← hm]
        cases k with
        | zero => rfl
        | succ k => rw [mulL, if_pos rfl]
      have q : ((0 : UInt8).toNat : Int) = 0 := rfl
      rw [q]
      go_wp2_with fail
      go_ret
      exact ⟨by rw [← e]; rfl, rfl⟩
    · have hB : 0 < B.toNat := by
        rcases Nat.eq_zero_or_pos B.toNat with h | h
        · exact (hb (UInt8.toNat_inj.1 h)).elim
        · exact h
      have q : (0 : Int) < (B.toNat : Int) := by omega
      have HT := Lib.hid (twice_any A)
      unfold byteV at HT
      have h1 := Lib.hid (mul_u8 P A B)
      have h2 := Lib.hid (half_u8 B)
      have hn := Lib.hid (half_nat B)
      have HM := Lib.hid hm
      clear hm
      go_wp2_with fail
      refine (HT.out _).mono ?_
      rintro e w' ⟨rfl, rfl⟩
      go_wp2_with fail
      go_roundw
      case rel =>
        cases k with
        | zero => omega
        | succ k =>
          have hm := HM.out
          rw [mulL, if_neg hb] at hm
          have hn' := hn.out
          rw [Nat.pow_succ] at hk
          exact ⟨k, fTwice A, B >>> 1, _, rfl, by rw [← h2.out], by rw [h1.out], hm, by omega, trivial⟩
      case measure => simp [intOf]; omega

theorem and1 (n : Nat) (h : n < 9223372036854775808) : bits .and .i64 (n : Int) 1 = ((n % 2 : Nat) : Int) := by
  exact Go.Proofs.and_one n h
set_option maxHeartbeats 800000 in
theorem pow_any (a : UInt8) (n : Nat) (hn : n < 9223372036854775808) (w : World) : Calls Tryz.prog 164 #[byteV a, .int .i64 (n : Int)] w fun e w' => e = .returned (byteV (fPow a n)) ∧ w = w' := by
  unfold byteV
  go_enter Tryz.func164, Tryz.ntmps164
  go_wp2_with fail
  go_step3
  go_wp2_with fail
  go_step3
  go_wp2_with fail
  go_loopw [0, 1, 5] (fun s0 s1 s5 wr => ∃ (k : Nat) (A P : UInt8) (m : Nat), s0 = .int .u8 (A.toNat : Int) ∧ s1 = .int .i64 (m : Int) ∧ s5 = .int .u8 (P.toNat : Int) ∧ powL k P A m = fPow a n ∧ m ≤ k ∧ k ≤ n ∧ wr = w) (fun _ s1 _ _ => (intOf s1).toNat)
  case atStart => exact ⟨n, a, 1, n, rfl, rfl, rfl, rfl, Nat.le_refl _, Nat.le_refl _, rfl⟩
  case round =>
    obtain ⟨k, A, P, m, rfl, rfl, rfl, hm, hk, hkn, rfl⟩ := hrel
    have HM := Lib.hid hm
    clear hm
    by_cases h0 : m = 0
    · subst h0
      have e : P = fPow a n := by
        rw [← HM.out]
        cases k with
        | zero => rfl
        | succ k => rw [powL, if_pos rfl]
      go_wp2_with fail
      simp only [Exit.noGoto]
      go_wp2_with fail
      go_ret
      exact ⟨by rw [← e]; rfl, rfl⟩
    · have q : (0 : Int) < (m : Int) := by omega
      obtain ⟨k, rfl⟩ : ∃ k', k = k' + 1 := ⟨k - 1, by omega⟩
      have ha := and1 m (by omega)
      have HT := Lib.hid (mul_any A A)
      have HT2 := Lib.hid (mul_any P A)
      unfold byteV at HT HT2
      by_cases hp : m % 2 = 0
      · have t : (bits .and .i64 (m : Int) 1 == 0) = true := by rw [ha, hp]; rfl
        clear ha
        go_wp2_with fail
        refine (HT.out _).mono ?_
        rintro e w' ⟨rfl, rfl⟩
        go_wp2_with fail
        go_roundw
        case rel =>
          have hm := HM.out
          rw [powL, if_neg h0, if_pos hp] at hm
          exact ⟨k, _, P, m / 2, rfl, by go_num, rfl, hm, by omega, by omega, trivial⟩
        case measure => simp [intOf]; omega
      · have t : (bits .and .i64 (m : Int) 1 == 0) = false := by
          rw [ha, beq_eq_false_iff_ne]
          omega
        clear ha
        go_wp2_with fail
        refine (HT2.out _).mono ?_
        rintro e w' ⟨rfl, rfl⟩
        go_wp2_with fail
        go_roundw
        case rel =>
          have hm := HM.out
          rw [powL, if_neg h0, if_neg hp] at hm
          exact ⟨k, A, _, m - 1, rfl, by go_num, rfl, hm, by omega, by omega, trivial⟩
        case measure => simp [intOf]; omega
theorem inv_any (a : UInt8) (w : World) : Calls Tryz.prog 160 #[byteV a] w fun e w' => e = .returned (byteV (fInv a)) ∧ w = w' := by
  have HT := Lib.hid (pow_any a 254 (by omega))
  unfold byteV at HT ⊢
  go_enter Tryz.func160, Tryz.ntmps160
  go_wp2_with fail
  refine (HT.out _).mono ?_
  rintro e w' ⟨rfl, rfl⟩
  go_wp2_with fail
  go_ret
  exact ⟨rfl, rfl⟩
theorem u8o (a b : UInt8) : bits .or .u8 (a.toNat : Int) (b.toNat : Int) = ((a ||| b).toNat : Int) := by rw [u8_or_nat _ _ a.toNat_lt b.toNat_lt, UInt8.toNat_or]
theorem shl1_u8 (a : UInt8) : ((a.toNat : Int) * (2 : Int) % (256 : Int)) = ((a <<< 1).toNat : Int) := by
  revert a; apply u8_all; decide +kernel
theorem shr7_u8 (a : UInt8) : ((a.toNat : Int) / (128 : Int)) = ((a >>> 7).toNat : Int) := by
  revert a; apply u8_all; decide +kernel
theorem rl8_u8 (a : UInt8) : bits .or .u8 ((a.toNat : Int) * 2 % 256) ((a.toNat : Int) / 128) = ((rotl8 a 1).toNat : Int) := by
  have h3 : (a <<< 1) ||| (a >>> 7) = rotl8 a 1 := by
    revert a; apply u8_all; decide +kernel
  rw [shl1_u8, shr7_u8, u8o, h3]
theorem rl8_any (a : UInt8) (w : World) : Calls Tryz.prog 161 #[byteV a, .int .i64 1] w fun e w' => e = .returned (byteV (rotl8 a 1)) ∧ w = w' := by
  have H := Lib.hid (rl8_u8 a)
  unfold byteV
  have q1 : bits .and .u64 1 7 = 1 := by decide
  go_enter Tryz.func161, Tryz.ntmps161
  go_wp2_with fail
  go_ret
  exact ⟨by rw [← H.out]; rfl, rfl⟩
theorem boxL_next (k : Nat) (i p : UInt8) : boxL (k + 1) i p = boxL k (rotl8 i 1) (p ^^^ rotl8 i 1) := rfl
set_option maxHeartbeats 800000 in
theorem box_any (a : UInt8) (w : World) : Calls Tryz.prog 156 #[byteV a] w fun e w' => e = .returned (byteV (fBox a)) ∧ w = w' := by
  have HI := Lib.hid (inv_any a)
  have H0 := Lib.hid (u8x (fInv a) 0x63)
  unfold byteV at HI ⊢
  have e99 : ((0x63 : UInt8).toNat : Int) = 99 := rfl
  rw [e99] at H0
  go_enter Tryz.func156, Tryz.ntmps156
  go_wp2_with fail
  refine (HI.out _).mono ?_
  rintro e w' ⟨rfl, rfl⟩
  go_wp2_with fail
  go_loopw [3, 4, 9] (fun s3 s4 s9 wr => ∃ (k : Nat) (I P : UInt8), k ≤ 4 ∧ s9 = .int .i64 k ∧ s3 = .int .u8 (I.toNat : Int) ∧ s4 = .int .u8 (P.toNat : Int) ∧ boxL (4 - k) I P = fBox a ∧ wr = w) (fun _ _ s9 _ => 4 - (intOf s9).toNat)
  case atStart => exact ⟨0, fInv a, _, by omega, rfl, rfl, by rw [H0.out], rfl, rfl⟩
  case round =>
    clear HI H0
    obtain ⟨k, I, P, hk, rfl, rfl, rfl, hm, rfl⟩ := hrel
    have HM := Lib.hid hm
    clear hm
    by_cases hlt : k < 4
    · have q1 : (k : Int) < 4 := by omega
      have HR := Lib.hid (rl8_any I)
      unfold byteV at HR
      have HX := Lib.hid (u8x P (rotl8 I 1))
      go_wp2_with fail
      refine (HR.out _).mono ?_
      rintro e w' ⟨rfl, rfl⟩
      go_wp2_with fail
      go_roundw
      case rel =>
        have hm := HM.out
        rw [show 4 - k = (4 - (k + 1)) + 1 by omega, boxL_next] at hm
        exact ⟨k + 1, _, _, hlt, by go_num, rfl, by rw [HX.out], hm, trivial⟩
      case measure => simp [intOf]; omega
    · have q1 : (4 : Int) ≤ (k : Int) := by omega
      have e : P = fBox a := by
        rw [← HM.out, show 4 - k = 0 by omega]
        rfl
      go_wp2_with fail
      go_ret
      exact ⟨by rw [← e]; rfl, rfl⟩
theorem atwice_any (a : UInt8) (w : World) : Calls Tryz.prog 141 #[byteV a] w fun e w' => e = .returned (byteV (fMul a 2)) ∧ w = w' := by
  have HT := Lib.hid (mul_any a 2)
  unfold byteV at HT ⊢
  have e2 : ((2 : UInt8).toNat : Int) = 2 := rfl
  rw [e2] at HT
  go_enter Tryz.func141, Tryz.ntmps141
  go_wp2_with fail
  refine (HT.out _).mono ?_
  rintro e w' ⟨rfl, rfl⟩
  go_wp2_with fail
  go_ret
  exact ⟨rfl, rfl⟩
end Go.Proofs.YthabllnhlhkejaaGreatDoor
