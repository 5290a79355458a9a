/-
  THE WALKS of the digest's start and of its block.
-/
import Derived.Laws.BitsAllLaws
import Derived.Lib.RabinKarpLaws
import Derived.Shelf.Slices.Clone
import Derived.IntWalk
import Derived.Laws.CopyOwn
import Derived.Laws.Rows
import Derived.Deep.MidRow
import Derived.Deep.RegionHeld3
import Derived.Deep.CutBlock
import Derived.Deep.DeepCutAuto
import Derived.BigQuiet
import Derived.Deep.QuietTactic
import Derived.Laws.CopyRow
import Derived.StillTailTactics
import Derived.Test.YtajhgejhdalobaaGreatDoorRow2
import Derived.Test.YtajhgejhdalobaaGreatDoorThing2
import Derived.Test.YtajhgejhdalobaaGreatDoorBytes
namespace Go.Proofs.YtajhgejhdalobaaGreatDoor

def be8 (n : Nat) : List UInt8 := (List.range 8).map (fun i => UInt8.ofNat (n >>> (56 - 8 * i)))
theorem be8_len (n : Nat) : (be8 n).length = 8 := by simp [be8]
theorem u8_shift (n k : Nat) : (UInt8.ofNat (n >>> k)).toNat = n / 2 ^ k % 256 := by
  rw [UInt8.toNat_ofNat', Nat.shiftRight_eq_div_pow]
abbrev W32 := BitVec 32
def rotr (x : W32) (n : Nat) : W32 := (x >>> n) ||| (x <<< (32 - n))
def wordOf (b : List UInt8) (i : Nat) : W32 :=
  (((BitVec.ofNat 32 (b.getD i 0).toNat <<< 24) ||| (BitVec.ofNat 32 (b.getD (i + 1) 0).toNat <<< 16)) ||| (BitVec.ofNat 32 (b.getD (i + 2) 0).toNat <<< 8)) ||| BitVec.ofNat 32 (b.getD (i + 3) 0).toNat
def nextW (b : List UInt8) (l : List W32) (t : Nat) : W32 :=
  if t < 16 then wordOf b (4 * t) else
    ((l.getD (t - 16) 0 + ((rotr (l.getD (t - 15) 0) 7 ^^^ rotr (l.getD (t - 15) 0) 18) ^^^ (l.getD (t - 15) 0) >>> 3)) + l.getD (t - 7) 0) + ((rotr (l.getD (t - 2) 0) 17 ^^^ rotr (l.getD (t - 2) 0) 19) ^^^ (l.getD (t - 2) 0) >>> 10)
def sched (b : List UInt8) : Nat → List W32
  | 0 => []
  | t + 1 => sched b t ++ [nextW b (sched b t) t]
theorem sched_len (b : List UInt8) (t : Nat) : (sched b t).length = t := by
  induction t with
  | zero => rfl
  | succ t ih => simp [sched, ih]

structure S8 where
  a : W32
  b : W32
  c : W32
  d : W32
  e : W32
  f : W32
  g : W32
  h : W32
namespace S8
def list (s : S8) : List W32 := [s.a, s.b, s.c, s.d, s.e, s.f, s.g, s.h]
def add (s t : S8) : S8 := ⟨s.a + t.a, s.b + t.b, s.c + t.c, s.d + t.d, s.e + t.e, s.f + t.f, s.g + t.g, s.h + t.h⟩
def sumX (s : S8) (k w : W32) : W32 := (((s.h + ((rotr s.e 6 ^^^ rotr s.e 11) ^^^ rotr s.e 25)) + (s.g ^^^ (s.e &&& (s.f ^^^ s.g)))) + k) + w
def sumY (s : S8) : W32 := ((rotr s.a 2 ^^^ rotr s.a 13) ^^^ rotr s.a 22) + (((s.a &&& s.b) ^^^ (s.a &&& s.c)) ^^^ (s.b &&& s.c))
def round (s : S8) (k w : W32) : S8 := ⟨s.sumX k w + s.sumY, s.a, s.b, s.c, s.d + s.sumX k w, s.e, s.f, s.g⟩
end S8
def shaK : List W32 := [0x428a2f98, 0x71374491, 0xb5c0fbcf, 0xe9b5dba5, 0x3956c25b, 0x59f111f1, 0x923f82a4, 0xab1c5ed5,
  0xd807aa98, 0x12835b01, 0x243185be, 0x550c7dc3, 0x72be5d74, 0x80deb1fe, 0x9bdc06a7, 0xc19bf174,
  0xe49b69c1, 0xefbe4786, 0x0fc19dc6, 0x240ca1cc, 0x2de92c6f, 0x4a7484aa, 0x5cb0a9dc, 0x76f988da,
  0x983e5152, 0xa831c66d, 0xb00327c8, 0xbf597fc7, 0xc6e00bf3, 0xd5a79147, 0x06ca6351, 0x14292967,
  0x27b70a85, 0x2e1b2138, 0x4d2c6dfc, 0x53380d13, 0x650a7354, 0x766a0abb, 0x81c2c92e, 0x92722c85,
  0xa2bfe8a1, 0xa81a664b, 0xc24b8b70, 0xc76c51a3, 0xd192e819, 0xd6990624, 0xf40e3585, 0x106aa070,
  0x19a4c116, 0x1e376c08, 0x2748774c, 0x34b0bcb5, 0x391c0cb3, 0x4ed8aa4a, 0x5b9cca4f, 0x682e6ff3,
  0x748f82ee, 0x78a5636f, 0x84c87814, 0x8cc70208, 0x90befffa, 0xa4506ceb, 0xbef9a3f7, 0xc67178f2]
theorem shaK_len : shaK.length = 64 := rfl
def sha0 : S8 := ⟨0x6a09e667, 0xbb67ae85, 0x3c6ef372, 0xa54ff53a, 0x510e527f, 0x9b05688c, 0x1f83d9ab, 0x5be0cd19⟩
def rounds (b : List UInt8) (s : S8) : Nat → S8
  | 0 => s
  | t + 1 => (rounds b s t).round (shaK.getD t 0) ((sched b 64).getD t 0)
def shaB (s : S8) (b : List UInt8) : S8 := s.add (rounds b s 64)
def absorb (n : Nat) (s : S8) (l : List UInt8) : S8 × List UInt8 :=
  match n with
  | 0 => (s, l)
  | n + 1 => if 64 ≤ l.length then absorb n (shaB s (l.take 64)) (l.drop 64) else (s, l)
theorem absorb_short {n : Nat} {s : S8} {l : List UInt8} (h : l.length < 64) : absorb n s l = (s, l) := by
  cases n with
  | zero => rfl
  | succ n => rw [absorb, if_neg (by omega)]
theorem absorb_more {n m : Nat} {s : S8} {l : List UInt8} (h : l.length < 64 * (n + 1)) (hm : n ≤ m) : absorb m s l = absorb n s l := by
  induction n generalizing m s l with
  | zero => rw [absorb_short (by omega)]; rfl
  | succ n ih =>
    cases m with
    | zero => omega
    | succ m =>
      rw [absorb, absorb]
      split
      · exact ih (by rw [List.length_drop]; omega) (by omega)
      · rfl
def eat (s : S8) (l : List UInt8) : S8 × List UInt8 := absorb l.length s l
theorem eat_short {s : S8} {l : List UInt8} (h : l.length < 64) : eat s l = (s, l) := absorb_short h
theorem eat_step {s : S8} {l : List UInt8} (h : 64 ≤ l.length) : eat s l = eat (shaB s (l.take 64)) (l.drop 64) := by
  unfold eat
  obtain ⟨n, hn⟩ : ∃ n, l.length = n + 1 := ⟨l.length - 1, by omega⟩
  rw [hn, absorb, if_pos h]
  exact absorb_more (by rw [List.length_drop]; omega) (by rw [List.length_drop]; omega)
theorem eat_rest (s : S8) (l : List UInt8) : (eat s l).2.length < 64 := by
  obtain ⟨n, hn⟩ : ∃ n, l.length = n := ⟨_, rfl⟩
  induction n using Nat.strongRecOn generalizing s l with
  | ind n ih =>
    by_cases h : 64 ≤ l.length
    · rw [eat_step h]
      exact ih (l.drop 64).length (by rw [List.length_drop]; omega) _ _ rfl
    · rw [eat_short (by omega)]
      show l.length < 64
      omega
theorem eat_append (s : S8) (l m : List UInt8) : eat s (l ++ m) = eat (eat s l).1 ((eat s l).2 ++ m) := by
  obtain ⟨n, hn⟩ : ∃ n, l.length = n := ⟨_, rfl⟩
  induction n using Nat.strongRecOn generalizing s l with
  | ind n ih =>
    by_cases h : 64 ≤ l.length
    · rw [eat_step (l := l ++ m) (by rw [List.length_append]; omega), eat_step h, List.take_append_of_le_length h, List.drop_append_of_le_length h]
      exact ih (l.drop 64).length (by rw [List.length_drop]; omega) _ _ rfl
    · rw [eat_short (l := l) (by omega)]
def bytes4 (w : W32) : List UInt8 := [UInt8.ofNat (w >>> 24).toNat, UInt8.ofNat (w >>> 16).toNat, UInt8.ofNat (w >>> 8).toNat, UInt8.ofNat w.toNat]
def shaPad (r n : Nat) : List UInt8 := 128 :: List.replicate ((119 - r) % 64) 0 ++ be8 (8 * n)
def shaEnd (s : S8) (r : List UInt8) (n : Nat) : List UInt8 := (eat s (r ++ shaPad r.length n)).1.list.flatMap bytes4
def sha (l : List UInt8) : List UInt8 := shaEnd (eat sha0 l).1 (eat sha0 l).2 l.length
theorem shaEnd_len (s : S8) (r : List UInt8) (n : Nat) : (shaEnd s r n).length = 32 := by simp [shaEnd, S8.list, bytes4]
theorem sha_len (l : List UInt8) : (sha l).length = 32 := shaEnd_len _ _ _

def macK (key : List UInt8) : List UInt8 := if 64 < key.length then sha key else key
def macX (x : UInt8) (key : List UInt8) : List UInt8 := ((macK key) ++ List.replicate (64 - (macK key).length) 0).map (· ^^^ x)
theorem macK_len (key : List UInt8) : (macK key).length ≤ 64 := by
  unfold macK
  split
  · rw [sha_len]; omega
  · omega
theorem macX_len (x : UInt8) (key : List UInt8) : (macX x key).length = 64 := by
  have := macK_len key
  simp [macX]
  omega
def mac (key m : List UInt8) : List UInt8 := sha (macX 0x5c key ++ sha (macX 0x36 key ++ m))
theorem mac_len (key m : List UInt8) : (mac key m).length = 32 := sha_len _
def foldK (key : List UInt8) : List (List UInt8) → List UInt8
  | [] => key
  | s :: l => foldK (mac key (be8 s.length ++ s)) l

def fTwice (a : UInt8) : UInt8 := (a <<< 1) ^^^ ((0x1b : UInt8) &&& ((0 : UInt8) - (a >>> 7)))
def mulL : Nat → UInt8 → UInt8 → UInt8 → UInt8
  | 0, p, _, _ => p
  | k + 1, p, a, b => if b = 0 then p else mulL k (p ^^^ (a &&& ((0 : UInt8) - (b &&& 1)))) (fTwice a) (b >>> 1)
def fMul (a b : UInt8) : UInt8 := mulL 8 0 a b
def powL : Nat → UInt8 → UInt8 → Nat → UInt8
  | 0, p, _, _ => p
  | k + 1, p, a, n => if n = 0 then p else if n % 2 = 0 then powL k p (fMul a a) (n / 2) else powL k (fMul p a) a (n - 1)
def fPow (a : UInt8) (n : Nat) : UInt8 := powL n 1 a n
def rotl8 (a : UInt8) (k : Nat) : UInt8 := UInt8.ofBitVec (a.toBitVec.rotateLeft k)
def boxL : Nat → UInt8 → UInt8 → UInt8
  | 0, _, p => p
  | k + 1, i, p => boxL k (rotl8 i 1) (p ^^^ rotl8 i 1)
def fInv (a : UInt8) : UInt8 := fPow a 254
def fBox (a : UInt8) : UInt8 := boxL 4 (fInv a) (fInv a ^^^ 0x63)

end Go.Proofs.YtajhgejhdalobaaGreatDoor
namespace Go.Proofs.YtajhgejhdalobaaGreatDoor
open Go.RowKit

theorem u8_all {P : UInt8 → Prop} (h : ∀ n, n < 256 → P (UInt8.ofNat n)) (a : UInt8) : P a := by
  have := h a.toNat a.toNat_lt
  rwa [UInt8.ofNat_toNat] at this
theorem u8x (a b : UInt8) : bits .xor .u8 (a.toNat : Int) (b.toNat : Int) = ((a ^^^ b).toNat : Int) := by rw [u8_xor_nat _ _ a.toNat_lt b.toNat_lt, UInt8.toNat_xor]
theorem u8a (a b : UInt8) : bits .and .u8 (a.toNat : Int) (b.toNat : Int) = ((a &&& b).toNat : Int) := by rw [u8_and_nat _ _ a.toNat_lt b.toNat_lt, UInt8.toNat_and]
theorem u8neg (a : UInt8) : (-(a.toNat : Int)) % 256 = (((0 : UInt8) - a).toNat : Int) := by
  rw [UInt8.toNat_sub]
  have := a.toNat_lt
  have e : (0 : UInt8).toNat = 0 := rfl
  rw [e]
  omega
theorem twice_u8 (a : UInt8) : bits .xor .u8 ((a.toNat : Int) * 2 % 256) (bits .and .u8 27 (-((a.toNat : Int) / 128) % 256)) = ((fTwice a).toNat : Int) := by
  have h1 : ((a.toNat : Int) * (2 : Int) % (256 : Int)) = ((a <<< 1).toNat : Int) := by
    revert a; apply u8_all; decide +kernel
  have h2 : ((a.toNat : Int) / (128 : Int)) = ((a >>> 7).toNat : Int) := by
    revert a; apply u8_all; decide +kernel
  rw [h1, h2, u8neg, show (27 : Int) = ((0x1b : UInt8).toNat : Int) from rfl, u8a, u8x]
  rfl
theorem twice_any (a : UInt8) (w : World) : Calls Tryz.prog 410 #[byteV a] w fun e w' => e = .returned (byteV (fTwice a)) ∧ w = w' := by
  have H := twice_u8 a
  unfold byteV
  go_enter Tryz.func410, Tryz.ntmps410
  go_wp2_with fail
  go_ret
  exact ⟨by rw [← H]; rfl, rfl⟩

theorem mul_u8 (p a b : UInt8) : bits .xor .u8 (p.toNat : Int) (bits .and .u8 (a.toNat : Int) (-bits .and .u8 (b.toNat : Int) 1 % 256)) = ((p ^^^ (a &&& ((0 : UInt8) - (b &&& 1)))).toNat : Int) := by
  rw [show (1 : Int) = ((1 : UInt8).toNat : Int) from rfl, u8a, u8neg, u8a, u8x]
theorem half_u8 (b : UInt8) : (b.toNat : Int) / (2 : Int) = ((b >>> 1).toNat : Int) := by
  revert b; apply u8_all; decide +kernel
theorem half_nat (b : UInt8) : (b >>> 1).toNat = b.toNat / 2 := by have := half_u8 b; omega
set_option maxHeartbeats 800000 in
theorem mul_any (a b : UInt8) (w : World) : Calls Tryz.prog 406 #[byteV a, byteV b] w fun e w' => e = .returned (byteV (fMul a b)) ∧ w = w' := by
  unfold byteV
  go_enter Tryz.func406, Tryz.ntmps406
  go_wp2_with fail
  go_loopw [0, 1, 5] (fun s0 s1 s5 wr => ∃ (k : Nat) (A B P : UInt8), s0 = .int .u8 (A.toNat : Int) ∧ s1 = .int .u8 (B.toNat : Int) ∧ s5 = .int .u8 (P.toNat : Int) ∧ mulL k P A B = fMul a b ∧ B.toNat < 2 ^ k ∧ wr = w) (fun _ s1 _ _ => (intOf s1).toNat)
  case atStart => exact ⟨8, a, b, 0, rfl, rfl, rfl, rfl, b.toNat_lt, rfl⟩
  case round =>
    obtain ⟨k, A, B, P, rfl, rfl, rfl, hm, hk, rfl⟩ := hrel
    by_cases hb : B = 0
    · subst hb
      have e : P = fMul a b := by
        rw [← hm]
        cases k with
        | zero => rfl
        | succ k => rw [mulL, if_pos rfl]
      have q : ((0 : UInt8).toNat : Int) = 0 := rfl
      rw [q]
      go_wp2_with fail
      go_ret
      exact ⟨by rw [← e]; rfl, rfl⟩
    · have hB : 0 < B.toNat := by
        rcases Nat.eq_zero_or_pos B.toNat with h | h
        · exact (hb (UInt8.toNat_inj.1 h)).elim
        · exact h
      have q : (0 : Int) < (B.toNat : Int) := by omega
      have HT := Lib.hid (twice_any A)
      unfold byteV at HT
      have h1 := Lib.hid (mul_u8 P A B)
      have h2 := Lib.hid (half_u8 B)
      have hn := Lib.hid (half_nat B)
      have HM := Lib.hid hm
      clear hm
      go_wp2_with fail
      refine (HT.out _).mono ?_
      rintro e w' ⟨rfl, rfl⟩
      go_wp2_with fail
      go_roundw
      case rel =>
        cases k with
        | zero => omega
        | succ k =>
          have hm := HM.out
          rw [mulL, if_neg hb] at hm
          have hn' := hn.out
          rw [Nat.pow_succ] at hk
          exact ⟨k, fTwice A, B >>> 1, _, rfl, by rw [← h2.out], by rw [h1.out], hm, by omega, trivial⟩
      case measure => simp [intOf]; omega

theorem and1 (n : Nat) (h : n < 9223372036854775808) : bits .and .i64 (n : Int) 1 = ((n % 2 : Nat) : Int) := by
  exact Go.Proofs.and_one n h
set_option maxHeartbeats 800000 in
theorem pow_any (a : UInt8) (n : Nat) (hn : n < 9223372036854775808) (w : World) : Calls Tryz.prog 411 #[byteV a, .int .i64 (n : Int)] w fun e w' => e = .returned (byteV (fPow a n)) ∧ w = w' := by
  unfold byteV
  go_enter Tryz.func411, Tryz.ntmps411
  go_wp2_with fail
  go_step3
  go_wp2_with fail
  go_step3
  go_wp2_with fail
  go_loopw [0, 1, 5] (fun s0 s1 s5 wr => ∃ (k : Nat) (A P : UInt8) (m : Nat), s0 = .int .u8 (A.toNat : Int) ∧ s1 = .int .i64 (m : Int) ∧ s5 = .int .u8 (P.toNat : Int) ∧ powL k P A m = fPow a n ∧ m ≤ k ∧ k ≤ n ∧ wr = w) (fun _ s1 _ _ => (intOf s1).toNat)
  case atStart => exact ⟨n, a, 1, n, rfl, rfl, rfl, rfl, Nat.le_refl _, Nat.le_refl _, rfl⟩
  case round =>
    obtain ⟨k, A, P, m, rfl, rfl, rfl, hm, hk, hkn, rfl⟩ := hrel
    have HM := Lib.hid hm
    clear hm
    by_cases h0 : m = 0
    · subst h0
      have e : P = fPow a n := by
        rw [← HM.out]
        cases k with
        | zero => rfl
        | succ k => rw [powL, if_pos rfl]
      go_wp2_with fail
      simp only [Exit.noGoto]
      go_wp2_with fail
      go_ret
      exact ⟨by rw [← e]; rfl, rfl⟩
    · have q : (0 : Int) < (m : Int) := by omega
      obtain ⟨k, rfl⟩ : ∃ k', k = k' + 1 := ⟨k - 1, by omega⟩
      have ha := and1 m (by omega)
      have HT := Lib.hid (mul_any A A)
      have HT2 := Lib.hid (mul_any P A)
      unfold byteV at HT HT2
      by_cases hp : m % 2 = 0
      · have t : (bits .and .i64 (m : Int) 1 == 0) = true := by rw [ha, hp]; rfl
        clear ha
        go_wp2_with fail
        refine (HT.out _).mono ?_
        rintro e w' ⟨rfl, rfl⟩
        go_wp2_with fail
        go_roundw
        case rel =>
          have hm := HM.out
          rw [powL, if_neg h0, if_pos hp] at hm
          exact ⟨k, _, P, m / 2, rfl, by go_num, rfl, hm, by omega, by omega, trivial⟩
        case measure => simp [intOf]; omega
      · have t : (bits .and .i64 (m : Int) 1 == 0) = false := by
          rw [ha, beq_eq_false_iff_ne]
          omega
        clear ha
        go_wp2_with fail
        refine (HT2.out _).mono ?_
        rintro e w' ⟨rfl, rfl⟩
        go_wp2_with fail
        go_roundw
        case rel =>
          have hm := HM.out
          rw [powL, if_neg h0, if_neg hp] at hm
          exact ⟨k, A, _, m - 1, rfl, by go_num, rfl, hm, by omega, by omega, trivial⟩
        case measure => simp [intOf]; omega
theorem inv_any (a : UInt8) (w : World) : Calls Tryz.prog 408 #[byteV a] w fun e w' => e = .returned (byteV (fInv a)) ∧ w = w' := by
  have HT := Lib.hid (pow_any a 254 (by omega))
  unfold byteV at HT ⊢
  go_enter Tryz.func408, Tryz.ntmps408
  go_wp2_with fail
  refine (HT.out _).mono ?_
  rintro e w' ⟨rfl, rfl⟩
  go_wp2_with fail
  go_ret
  exact ⟨rfl, rfl⟩
theorem u8o (a b : UInt8) : bits .or .u8 (a.toNat : Int) (b.toNat : Int) = ((a ||| b).toNat : Int) := by rw [u8_or_nat _ _ a.toNat_lt b.toNat_lt, UInt8.toNat_or]
theorem shl1_u8 (a : UInt8) : ((a.toNat : Int) * (2 : Int) % (256 : Int)) = ((a <<< 1).toNat : Int) := by
  revert a; apply u8_all; decide +kernel
theorem shr7_u8 (a : UInt8) : ((a.toNat : Int) / (128 : Int)) = ((a >>> 7).toNat : Int) := by
  revert a; apply u8_all; decide +kernel
theorem rl8_u8 (a : UInt8) : bits .or .u8 ((a.toNat : Int) * 2 % 256) ((a.toNat : Int) / 128) = ((rotl8 a 1).toNat : Int) := by
  have h3 : (a <<< 1) ||| (a >>> 7) = rotl8 a 1 := by
    revert a; apply u8_all; decide +kernel
  rw [shl1_u8, shr7_u8, u8o, h3]
theorem rl8_any (a : UInt8) (w : World) : Calls Tryz.prog 409 #[byteV a, .int .i64 1] w fun e w' => e = .returned (byteV (rotl8 a 1)) ∧ w = w' := by
  have H := Lib.hid (rl8_u8 a)
  unfold byteV
  have q1 : bits .and .u64 1 7 = 1 := by decide
  go_enter Tryz.func409, Tryz.ntmps409
  go_wp2_with fail
  go_ret
  exact ⟨by rw [← H.out]; rfl, rfl⟩
theorem boxL_next (k : Nat) (i p : UInt8) : boxL (k + 1) i p = boxL k (rotl8 i 1) (p ^^^ rotl8 i 1) := rfl
set_option maxHeartbeats 800000 in
theorem box_any (a : UInt8) (w : World) : Calls Tryz.prog 405 #[byteV a] w fun e w' => e = .returned (byteV (fBox a)) ∧ w = w' := by
  have HI := Lib.hid (inv_any a)
  have H0 := Lib.hid (u8x (fInv a) 0x63)
  unfold byteV at HI ⊢
  have e99 : ((0x63 : UInt8).toNat : Int) = 99 := rfl
  rw [e99] at H0
  go_enter Tryz.func405, Tryz.ntmps405
  go_wp2_with fail
  refine (HI.out _).mono ?_
  rintro e w' ⟨rfl, rfl⟩
  go_wp2_with fail
  go_loopw [3, 4, 9] (fun s3 s4 s9 wr => ∃ (k : Nat) (I P : UInt8), k ≤ 4 ∧ s9 = .int .i64 k ∧ s3 = .int .u8 (I.toNat : Int) ∧ s4 = .int .u8 (P.toNat : Int) ∧ boxL (4 - k) I P = fBox a ∧ wr = w) (fun _ _ s9 _ => 4 - (intOf s9).toNat)
  case atStart => exact ⟨0, fInv a, _, by omega, rfl, rfl, by rw [H0.out], rfl, rfl⟩
  case round =>
    clear HI H0
    obtain ⟨k, I, P, hk, rfl, rfl, rfl, hm, rfl⟩ := hrel
    have HM := Lib.hid hm
    clear hm
    by_cases hlt : k < 4
    · have q1 : (k : Int) < 4 := by omega
      have HR := Lib.hid (rl8_any I)
      unfold byteV at HR
      have HX := Lib.hid (u8x P (rotl8 I 1))
      go_wp2_with fail
      refine (HR.out _).mono ?_
      rintro e w' ⟨rfl, rfl⟩
      go_wp2_with fail
      go_roundw
      case rel =>
        have hm := HM.out
        rw [show 4 - k = (4 - (k + 1)) + 1 by omega, boxL_next] at hm
        exact ⟨k + 1, _, _, hlt, by go_num, rfl, by rw [HX.out], hm, trivial⟩
      case measure => simp [intOf]; omega
    · have q1 : (4 : Int) ≤ (k : Int) := by omega
      have e : P = fBox a := by
        rw [← HM.out, show 4 - k = 0 by omega]
        rfl
      go_wp2_with fail
      go_ret
      exact ⟨by rw [← e]; rfl, rfl⟩
theorem atwice_any (a : UInt8) (w : World) : Calls Tryz.prog 394 #[byteV a] w fun e w' => e = .returned (byteV (fMul a 2)) ∧ w = w' := by
  have HT := Lib.hid (mul_any a 2)
  unfold byteV at HT ⊢
  have e2 : ((2 : UInt8).toNat : Int) = 2 := rfl
  rw [e2] at HT
  go_enter Tryz.func394, Tryz.ntmps394
  go_wp2_with fail
  refine (HT.out _).mono ?_
  rintro e w' ⟨rfl, rfl⟩
  go_wp2_with fail
  go_ret
  exact ⟨rfl, rfl⟩
end Go.Proofs.YtajhgejhdalobaaGreatDoor
namespace Go.Proofs.YtajhgejhdalobaaGreatDoor
open Go.RowKit

theorem ret_bool {a b : Bool} (h : a = b) : Ending.returned (.bool a) = .returned (.bool b) := by rw [h]
theorem ret_int {a b : Int} (h : a = b) : Ending.returned (.int .i64 a) = .returned (.int .i64 b) := by rw [h]

theorem clone_any {w : World} {ao : Option Addr} {bs : Bs} (h : RowRd ByteR w ao bs) (cap : Nat) (hb : bs.length ≤ 140737488355328) : Calls Tryz.prog 186 #[.slice ao bs.length cap] w (CloneP bs w) := by
  have q := fun (w : World) (a : Option Addr) (n c : Nat) => Lib.run_eql_slice_nil (P := Tryz.prog) w 34 5 a n c 0 0 Tryz.underlying34
  have H := Lib.hid h
  cases ao with
  | none =>
    have hn : bs = [] := by
      cases bs with
      | nil => rfl
      | cons y ys => obtain ⟨b, off, e, _⟩ := h.at' 0 (by simp); cases e
    subst hn
    clear h
    go_enter Tryz.func186, Tryz.ntmps186
    go_wp2
    go_ret
    exact ⟨⟨none, 0, 0⟩, rfl, rfl, RowAt.nil, Fr.refl _ _, fun k hk => by cases hk⟩
  | some a =>
    clear h
    go_enter Tryz.func186, Tryz.ntmps186
    go_wp2_with (at_builtin; apply stop_here)
    refine ⟨?_, trivial⟩
    refine wpList_app rfl _ _ rfl el_bytes (v := .slice (some ⟨w.heap.size, 0, none⟩) 0 0) [] bs bs rfl w.heap.size 0 bs.length rfl rfl (World.ownsRow_made w #[] 0 (Nat.le_refl _) (Nat.zero_le _) rfl) rfl (H.out.fr0 ((Fr.refl _ _).alloc _)) rfl (by unfold maxLen; omega) (by omega) (by simp) ?_
    intro ao2 cap2 w2 o2 g2 _
    go_frame
    have O2 := Lib.hid o2
    have hf := (((Fr.refl noBlock w).alloc (.cells #[] 5)).grown g2 (fun k hk => by simp [Value.ownBlock] at hk; subst hk; exact .inr (Nat.le_refl _)))
    have Hf := Lib.hid hf
    clear o2 g2 hf
    go_wp2_with fail
    go_ret
    exact ⟨⟨ao2, bs.length, cap2⟩, rfl, rfl, RowAt.of_own O2.out rfl, Hf.out, fun k hk => (O2.out.lt k hk).1⟩
end Go.Proofs.YtajhgejhdalobaaGreatDoor
namespace Go.Proofs.YtajhgejhdalobaaGreatDoor
open Go.RowKit

theorem fr_setRow {w : World} (g : Nat) (cs : Array Value) : Fr (fun k => k = g) w (w.setRow g cs) := by
  refine ⟨rfl, rfl, rfl, by simp [World.setRow], fun k hk hn => ?_⟩
  simp only [World.setRow, Array.getElem?_modify]
  rw [if_neg (fun e => hn e.symm)]
end Go.Proofs.YtajhgejhdalobaaGreatDoor
namespace Go.Proofs.YtajhgejhdalobaaGreatDoor
open Go.RowKit

def u32V (r : BitVec 32) : Value := .int .u32 (r.toNat : Int)
def PartsRd (w : World) (ss : List SV) (ps : List Bs) : Prop := ss.length = ps.length ∧ ∀ (i : Nat) (s : SV) (p : Bs), ss[i]? = some s → ps[i]? = some p → s.n = p.length ∧ RowRd ByteR w s.ao p
theorem PartsRd.fr0 {w w' : World} {ss : List SV} {ps : List Bs} (h : PartsRd w ss ps) (hf : Fr noBlock w w') : PartsRd w' ss ps := ⟨h.1, fun i s p a b => ⟨(h.2 i s p a b).1, (h.2 i s p a b).2.fr0 hf⟩⟩
theorem or_u64 (x : Nat) (c : UInt8) (hx : x < 72057594037927936) : bits .or .u64 ((x : Int) * 256) (c.toNat : Int) = ((x * 256 + c.toNat : Nat) : Int) := by
  have hc := c.toNat_lt
  have e : ((x : Int) * 256) = ((x * 256 : Nat) : Int) := by omega
  rw [e, u64_or_nat _ _ (by omega) (by omega)]
  congr 1
  have h := Nat.shiftLeft_add_eq_or_of_lt (show c.toNat < 2 ^ 8 from hc) x
  rw [Nat.shiftLeft_eq] at h
  exact h.symm
end Go.Proofs.YtajhgejhdalobaaGreatDoor
namespace Go.Proofs.YtajhgejhdalobaaGreatDoor
open Go.RowKit


theorem u32x (a b : W32) : bits .xor .u32 (a.toNat : Int) (b.toNat : Int) = ((a ^^^ b).toNat : Int) := by rw [u32_xor_nat _ _ a.isLt b.isLt, BitVec.toNat_xor]
theorem u32a (a b : W32) : bits .and .u32 (a.toNat : Int) (b.toNat : Int) = ((a &&& b).toNat : Int) := by rw [u32_and_nat _ _ a.isLt b.isLt, BitVec.toNat_and]
theorem u32o (a b : W32) : bits .or .u32 (a.toNat : Int) (b.toNat : Int) = ((a ||| b).toNat : Int) := by rw [u32_or_nat _ _ a.isLt b.isLt, BitVec.toNat_or]
theorem u32add (a b : W32) : ((a.toNat : Int) + (b.toNat : Int)) % 4294967296 = ((a + b).toNat : Int) := by
  rw [BitVec.toNat_add]; omega
theorem u32shr (a : W32) (k : Nat) : (a.toNat : Int) / (2 ^ k : Nat) = ((a >>> k).toNat : Int) := by
  rw [BitVec.toNat_ushiftRight, Nat.shiftRight_eq_div_pow]; omega
theorem u32shl (a : W32) (k : Nat) : ((a.toNat : Int) * (2 ^ k : Nat)) % 4294967296 = ((a <<< k).toNat : Int) := by
  rw [BitVec.toNat_shiftLeft, Nat.shiftLeft_eq]; omega
theorem rot_u32 (a : W32) (n : Nat) : bits .or .u32 (((a.toNat : Int) * (2 ^ (32 - n) : Nat)) % 4294967296) ((a.toNat : Int) / (2 ^ n : Nat)) = ((rotr a n).toNat : Int) := by
  rw [u32shl, u32shr, u32o, BitVec.or_comm]
  rfl
def RotP (n : Nat) : Prop := ∀ (a : W32) (w : World), Calls Tryz.prog 407 #[.int .u32 (a.toNat : Int), .int .i64 (-(n : Int))] w fun e w' => e = .returned (.int .u32 ((rotr a n).toNat : Int)) ∧ w = w'
theorem rl32_2 : RotP 2 := by
  intro a w
  have H := Lib.hid (rot_u32 a 2)
  have q1 : bits .and .u64 (IntKind.u64.wrap (-2)) 31 = 30 := by decide
  go_enter Tryz.func407, Tryz.ntmps407
  go_wp2_with fail
  go_ret
  exact ⟨by rw [← H.out]; rfl, rfl⟩
theorem rl32_6 : RotP 6 := by
  intro a w
  have H := Lib.hid (rot_u32 a 6)
  have q1 : bits .and .u64 (IntKind.u64.wrap (-6)) 31 = 26 := by decide
  go_enter Tryz.func407, Tryz.ntmps407
  go_wp2_with fail
  go_ret
  exact ⟨by rw [← H.out]; rfl, rfl⟩
theorem rl32_7 : RotP 7 := by
  intro a w
  have H := Lib.hid (rot_u32 a 7)
  have q1 : bits .and .u64 (IntKind.u64.wrap (-7)) 31 = 25 := by decide
  go_enter Tryz.func407, Tryz.ntmps407
  go_wp2_with fail
  go_ret
  exact ⟨by rw [← H.out]; rfl, rfl⟩
theorem rl32_11 : RotP 11 := by
  intro a w
  have H := Lib.hid (rot_u32 a 11)
  have q1 : bits .and .u64 (IntKind.u64.wrap (-11)) 31 = 21 := by decide
  go_enter Tryz.func407, Tryz.ntmps407
  go_wp2_with fail
  go_ret
  exact ⟨by rw [← H.out]; rfl, rfl⟩
theorem rl32_13 : RotP 13 := by
  intro a w
  have H := Lib.hid (rot_u32 a 13)
  have q1 : bits .and .u64 (IntKind.u64.wrap (-13)) 31 = 19 := by decide
  go_enter Tryz.func407, Tryz.ntmps407
  go_wp2_with fail
  go_ret
  exact ⟨by rw [← H.out]; rfl, rfl⟩
theorem rl32_17 : RotP 17 := by
  intro a w
  have H := Lib.hid (rot_u32 a 17)
  have q1 : bits .and .u64 (IntKind.u64.wrap (-17)) 31 = 15 := by decide
  go_enter Tryz.func407, Tryz.ntmps407
  go_wp2_with fail
  go_ret
  exact ⟨by rw [← H.out]; rfl, rfl⟩
theorem rl32_18 : RotP 18 := by
  intro a w
  have H := Lib.hid (rot_u32 a 18)
  have q1 : bits .and .u64 (IntKind.u64.wrap (-18)) 31 = 14 := by decide
  go_enter Tryz.func407, Tryz.ntmps407
  go_wp2_with fail
  go_ret
  exact ⟨by rw [← H.out]; rfl, rfl⟩
theorem rl32_19 : RotP 19 := by
  intro a w
  have H := Lib.hid (rot_u32 a 19)
  have q1 : bits .and .u64 (IntKind.u64.wrap (-19)) 31 = 13 := by decide
  go_enter Tryz.func407, Tryz.ntmps407
  go_wp2_with fail
  go_ret
  exact ⟨by rw [← H.out]; rfl, rfl⟩
theorem rl32_22 : RotP 22 := by
  intro a w
  have H := Lib.hid (rot_u32 a 22)
  have q1 : bits .and .u64 (IntKind.u64.wrap (-22)) 31 = 10 := by decide
  go_enter Tryz.func407, Tryz.ntmps407
  go_wp2_with fail
  go_ret
  exact ⟨by rw [← H.out]; rfl, rfl⟩
theorem rl32_25 : RotP 25 := by
  intro a w
  have H := Lib.hid (rot_u32 a 25)
  have q1 : bits .and .u64 (IntKind.u64.wrap (-25)) 31 = 7 := by decide
  go_enter Tryz.func407, Tryz.ntmps407
  go_wp2_with fail
  go_ret
  exact ⟨by rw [← H.out]; rfl, rfl⟩
theorem rot_all {n : Nat} (h : n ∈ [2, 6, 7, 11, 13, 17, 18, 19, 22, 25]) : RotP n := by
  simp only [List.mem_cons, List.not_mem_nil, or_false] at h
  rcases h with rfl | rfl | rfl | rfl | rfl | rfl | rfl | rfl | rfl | rfl
  · exact rl32_2
  · exact rl32_6
  · exact rl32_7
  · exact rl32_11
  · exact rl32_13
  · exact rl32_17
  · exact rl32_18
  · exact rl32_19
  · exact rl32_22
  · exact rl32_25
theorem sright_any (a : W32) (n : Nat) (h : n ∈ [2, 6, 7, 11, 13, 17, 18, 19, 22, 25]) (w : World) : Calls Tryz.prog 404 #[.int .u32 (a.toNat : Int), .int .i64 (n : Int)] w fun e w' => e = .returned (.int .u32 ((rotr a n).toNat : Int)) ∧ w = w' := by
  have HR := Lib.hid (rot_all h)
  unfold RotP at HR
  have hb : n < 32 := by simp at h; omega
  have q : wrap64 (-(n : Int)) = -(n : Int) := by unfold wrap64; omega
  clear h
  go_enter Tryz.func404, Tryz.ntmps404
  go_wp2_with fail
  refine (HR.out a w).mono ?_
  rintro e w' ⟨rfl, rfl⟩
  go_wp2_with fail
  go_ret
  exact ⟨rfl, rfl⟩
theorem u32b (c : UInt8) : (c.toNat : Int) = ((BitVec.ofNat 32 c.toNat).toNat : Int) := by
  rw [BitVec.toNat_ofNat]
  have := c.toNat_lt
  omega
theorem u32b' (c : UInt8) : (c.toNat : Int) % 4294967296 = ((BitVec.ofNat 32 c.toNat).toNat : Int) := by
  rw [← u32b]
  have := c.toNat_lt
  omega
theorem word_u32 (b0 b1 b2 b3 : UInt8) : bits .or .u32 (bits .or .u32 (bits .or .u32 ((b0.toNat : Int) % 4294967296 * 16777216 % 4294967296) ((b1.toNat : Int) % 4294967296 * 65536 % 4294967296)) ((b2.toNat : Int) % 4294967296 * 256 % 4294967296)) ((b3.toNat : Int) % 4294967296) =
    (((((BitVec.ofNat 32 b0.toNat <<< 24) ||| (BitVec.ofNat 32 b1.toNat <<< 16)) ||| (BitVec.ofNat 32 b2.toNat <<< 8)) ||| BitVec.ofNat 32 b3.toNat).toNat : Int) := by
  have h0 := u32shl (BitVec.ofNat 32 b0.toNat) 24
  have h1 := u32shl (BitVec.ofNat 32 b1.toNat) 16
  have h2 := u32shl (BitVec.ofNat 32 b2.toNat) 8
  rw [u32b', u32b', u32b', u32b', show (16777216 : Int) = ((2 ^ 24 : Nat) : Int) from rfl, show (65536 : Int) = ((2 ^ 16 : Nat) : Int) from rfl, show (256 : Int) = ((2 ^ 8 : Nat) : Int) from rfl, h0, h1, h2, u32o, u32o, u32o]
theorem word_any {x : List UInt8} {b off : Nat} {w : World} (h : RowRd ByteR w (some ⟨b, off, none⟩) x) (n c : Nat) (hn : 4 ≤ n) (hl : 4 ≤ x.length) : Calls Tryz.prog 403 #[.slice (some ⟨b, off, none⟩) n c] w fun e w' => e = .returned (.int .u32 ((wordOf x 0).toNat : Int)) ∧ Fr noBlock w w' := by
  have c0 := byte_rd h (i := 0) (by omega)
  have c1 := byte_rd h (i := 1) (by omega)
  have c2 := byte_rd h (i := 2) (by omega)
  have c3 := byte_rd h (i := 3) (by omega)
  have HW := Lib.hid (show wordOf x 0 = (((BitVec.ofNat 32 x[0].toNat <<< 24) ||| (BitVec.ofNat 32 x[1].toNat <<< 16)) ||| (BitVec.ofNat 32 x[2].toNat <<< 8)) ||| BitVec.ofNat 32 x[3].toNat by
    unfold wordOf
    rw [List.getD_eq_getElem?_getD, List.getD_eq_getElem?_getD, List.getD_eq_getElem?_getD, List.getD_eq_getElem?_getD, List.getElem?_eq_getElem (by omega), List.getElem?_eq_getElem (by omega), List.getElem?_eq_getElem (by omega), List.getElem?_eq_getElem (by omega)]
    rfl)
  unfold byteV at c0 c1 c2 c3
  rw [Nat.add_zero] at c0
  generalize x[0] = b0 at *
  generalize x[1] = b1 at *
  generalize x[2] = b2 at *
  generalize x[3] = b3 at *
  have p0 : (0 : Int) < (n : Int) := by omega
  have p1 : (1 : Int) < (n : Int) := by omega
  have p2 : (2 : Int) < (n : Int) := by omega
  have p3 : (3 : Int) < (n : Int) := by omega
  clear h hn hl
  go_enter Tryz.func403, Tryz.ntmps403
  go_wp2_with fail
  go_quiet (fail)
  go_wp2_with fail
  go_ret
  exact ⟨by rw [HW.out, ← word_u32]; rfl, (Fr.refl noBlock w).drewN _⟩
theorem shaK_one : ∀ v ∈ shaK.map u32V, v.oneCell' = true := by
  intro v hv
  obtain ⟨k, _, rfl⟩ := List.mem_map.1 hv
  rfl
theorem there_of {w : World} {b n : Nat} {cs : Array Value} {t : TypeId} (h : w.heap[b]? = some (.cells cs t (0, 0))) (hn : cs.size = n) : w.there b 0 n := fun j hj => by
  rw [Nat.zero_add, cell_of h, free_of h]
  exact ⟨by rw [Array.getElem?_eq_getElem (by omega)]; rfl, rfl⟩
theorem heap_over {w : World} {b : Nat} {cs : Array Value} {t : TypeId} {fr : Nat × Nat} (vs : List Value) (h : w.heap[b]? = some (.cells cs t fr)) (hn : cs.size = vs.length) : (w.setCells b 0 vs).heap[b]? = some (.cells vs.toArray t fr) := by
  obtain ⟨cur, h1, h2, h3⟩ := heap_setCells vs 0 w cs h (by omega)
  rw [h1]
  have : cur.toList = vs := by
    rw [h3, List.take_zero, List.nil_append, List.drop_of_length_le (by simp; omega), List.append_nil]
  rw [← this]
set_option maxRecDepth 100000 in
set_option maxHeartbeats 1600000 in
theorem words_any (w : World) : Calls Tryz.prog 387 #[] w fun e w' => e = .returned (.agg (shaK.map u32V).toArray) ∧ Fr noBlock w w' := by
  go_enter Tryz.func387, Tryz.ntmps387
  go_upto_region 1 with fail
  refine wp_at (fun W => (∃ cs, W.heap[w.heap.size]? = some (.cells cs 441 (0, 0)) ∧ cs.size = 64) ∧ Fr noBlock w W) ⟨⟨_, heap_new w _, by rfl⟩, (Fr.refl noBlock w).alloc _⟩ ?_
  rintro W ⟨⟨cs, hc, hs⟩, hf⟩
  have ht := there_of hc hs
  have HO := Lib.hid (fun vs (hv : vs.length = 64) => heap_over vs hc (by rw [hs, hv]))
  have HF := Lib.hid (fun vs => fr_setCells hf (.inr (Nat.le_refl w.heap.size)) (g := w.heap.size) (o := 0) vs)
  clear hc hs hf
  have hinfo : (Tryz.prog.info? 441).map (·.size) = some 64 := by kernel_rfl
  go_step
  go_step
  go_step
  go_step
  refine wpList_store_mid (by rfl) 441 _ _ (by rfl) w.heap.size 0 _ (by rfl) (by rfl) (by exact ht) (by exact hinfo) (by kernel_rfl) ?_
  obtain ⟨WE, hWE⟩ : ∃ WE : World, WE = W := ⟨_, rfl⟩
  go_step
  go_step
  go_step
  go_step
  refine bodyPost_ret (v := .agg (shaK.map u32V).toArray) (results_cell_row Tryz.results387 _ _ w.heap.size 441 _ (0, 0) _ rfl (HO.out _ rfl) Tryz.underlying441 rfl hinfo) rfl ⟨rfl, HF.out _⟩
end Go.Proofs.YtajhgejhdalobaaGreatDoor
namespace Go.Proofs.YtajhgejhdalobaaGreatDoor
open Go.RowKit

theorem start_any (w : World) : Calls Tryz.prog 386 #[] w fun e w' => e = .returned (.agg (sha0.list.map u32V).toArray) ∧ Fr noBlock w w' := by
  have hinfo : (Tryz.prog.info? 437).map (·.size) = some 8 := by kernel_rfl
  go_enter Tryz.func386, Tryz.ntmps386
  go_wp2_with fail
  exact bodyPost_ret (v := .agg (sha0.list.map u32V).toArray) (results_cell_row Tryz.results386 _ _ w.heap.size 437 _ (0, 0) _ rfl (heap_new w _) Tryz.underlying437 rfl hinfo) rfl ⟨rfl, (Fr.refl noBlock w).alloc _⟩

def schedL (b : List UInt8) (t : Nat) : List W32 := sched b t ++ List.replicate (64 - t) 0
theorem schedL_len (b : List UInt8) {t : Nat} (h : t ≤ 64) : (schedL b t).length = 64 := by
  unfold schedL
  rw [List.length_append, sched_len, List.length_replicate]
  omega
theorem schedL_set (b : List UInt8) {t : Nat} (h : t < 64) : (schedL b t).set t (nextW b (sched b t) t) = schedL b (t + 1) := by
  unfold schedL
  rw [List.set_append_right _ _ (by rw [sched_len]; exact Nat.le_refl _), sched_len, Nat.sub_self, show 64 - t = (64 - (t + 1)) + 1 by omega, List.replicate_succ, List.set_cons_zero, sched, List.append_assoc]
  rfl
theorem schedL_get (b : List UInt8) {t i : Nat} (h : i < t) : (schedL b t)[i]? = some ((sched b t).getD i 0) := by
  unfold schedL
  rw [List.getElem?_append_left (by rw [sched_len]; exact h), List.getD_eq_getElem?_getD, List.getElem?_eq_getElem (by rw [sched_len]; exact h)]
  rfl
def wordsO (l : List W32) (t : TypeId) : Obj := .cells (l.map u32V).toArray t (0, 0)
theorem words_cell {w : World} {b : Nat} {l : List W32} {t : TypeId} (h : w.heap[b]? = some (wordsO l t)) {i : Nat} {x : W32} (hi : l[i]? = some x) : w.cell? ⟨b, i, none⟩ = some (.int .u32 (x.toNat : Int)) ∧ w.frozen? ⟨b, i, none⟩ = false := by
  refine ⟨?_, free_of h i⟩
  rw [cell_of h]
  simp [hi, u32V]
theorem words_set {w : World} {b : Nat} {l : List W32} {t : TypeId} (h : w.heap[b]? = some (wordsO l t)) (i : Nat) (x : W32) : (w.setCell ⟨b, i, none⟩ (.int .u32 (x.toNat : Int))).heap[b]? = some (wordsO (l.set i x) t) := by
  have := heap_set_eq (i := i) (u := .int .u32 (x.toNat : Int)) h
  rw [this]
  unfold wordsO
  congr 2
  simp [u32V, List.map_set]
def cellAt (W : World) (p : Addr) : Value := (W.cell? p).getD undef
theorem cellAt_some {W : World} {p : Addr} {v : Value} (h : W.cell? p = some v) : W.cell? p = some (cellAt W p) := by
  unfold cellAt
  rw [h]
  rfl
theorem keep_two {W : World} {b i j t : Nat} {x y z v : Value} (h1 : W.cell? ⟨b, i, none⟩ = some x) (h2 : W.cell? ⟨b, j, none⟩ = some y) (h3 : W.cell? ⟨b, t, none⟩ = some z) (h4 : W.frozen? ⟨b, t, none⟩ = false) (hi : i ≠ t) (hj : j ≠ t) :
    ((W.setCell ⟨b, t, none⟩ v).drew).cell? ⟨b, i, none⟩ = some x ∧ ((W.setCell ⟨b, t, none⟩ v).drew).cell? ⟨b, j, none⟩ = some y ∧ ((W.setCell ⟨b, t, none⟩ v).drew).cell? ⟨b, t, none⟩ = some (cellAt ((W.setCell ⟨b, t, none⟩ v).drew) ⟨b, t, none⟩) ∧ ((W.setCell ⟨b, t, none⟩ v).drew).frozen? ⟨b, t, none⟩ = false := by
  have e1 : ((W.setCell ⟨b, t, none⟩ v).drew).cell? ⟨b, i, none⟩ = some x := (World.cell?_setCell_other _ ⟨b, t, none⟩ ⟨b, i, none⟩ _ (by simp <;> omega)).trans h1
  have e2 : ((W.setCell ⟨b, t, none⟩ v).drew).cell? ⟨b, j, none⟩ = some y := (World.cell?_setCell_other _ ⟨b, t, none⟩ ⟨b, j, none⟩ _ (by simp <;> omega)).trans h2
  have e3 : ((W.setCell ⟨b, t, none⟩ v).drew).cell? ⟨b, t, none⟩ = some v := World.cell?_setCell_same W ⟨b, t, none⟩ v h3
  exact ⟨e1, e2, cellAt_some e3, by simpa using h4⟩
set_option maxRecDepth 100000 in
theorem step_copyW {ops : Array Oper} {o : Oper} {a : Act} {w : World} {K : Act → World → Prop} {Q : Exit → Act → World → Prop} {G : Prop} (hgd : o.guard = none) (d s : Operand) (ho : o.op = .call { callee := .builtin .copy, args := #[d, s], argTypes := #[454, 454] })
    {g : Nat} {l : List W32} {t : TypeId} (hg : w.heap[g]? = some (wordsO l t)) (hl : l.length = 8) {dc sc : Nat} (ed : a.eval d = .slice (some ⟨g, 1, none⟩) 7 dc) (es : a.eval s = .slice (some ⟨g, 0, none⟩) 7 sc)
    (h : ∀ w', w'.heap[g]? = some (wordsO (l.take 1 ++ l.take 7) t) → Fr (fun k => k = g) w w' → K (a.put o.dst (.int .i64 7)) w') :
    if Region.wanted o (yielded ops a.tmps) = true then Oper.wp Tryz.prog o a w K Q else G := by
  have hw : Region.wanted o (yielded ops a.tmps) = true := by simp [Region.wanted, hgd]
  rw [if_pos hw]
  have hsz : (Tryz.prog.info? 194).map (·.size) = some 1 := by kernel_rfl
  have hcl : ((l.take 7).map u32V).length = 7 := by rw [List.length_map, List.length_take]; omega
  have hrun := run_copy_row (P := Tryz.prog) w 454 454 o.type 194 g 1 7 dc ⟨g, 0, none⟩ 7 sc _ t ((l.take 7).map u32V) Tryz.underlying454 hsz hg (by rw [hcl]; rfl)
    (by
      intro j v hj
      rw [Addr.add_lit, Nat.zero_add, cell_of hg]
      rw [List.getElem?_map, List.getElem?_take] at hj
      split at hj
      · simpa using hj
      · cases hj)
    (by rw [hcl]; simp [hl]) (by intro v hv; obtain ⟨q, _, rfl⟩ := List.mem_map.1 hv; rfl)
  rw [hcl] at hrun
  unfold Oper.wp execOp
  simp only [ho, resolve, invoke, builtin, Sem.run_bind, Sem.run_pure, Result.andThen_ok, List.map_toArray, List.map_cons, List.map_nil, ed, es, hrun]
  refine h _ ?_ (fr_setRow g _)
  rw [setRow_heap w g _ _ t _ hg]
  unfold wordsO
  congr 2
  simp [List.map_take, List.map_append, hl]
theorem wordOf_take {x : List UInt8} (_hl : 64 ≤ x.length) {i : Nat} (hi : i + 3 < 64) : wordOf (x.take 64) i = wordOf x i := by
  have g : ∀ j, j < 64 → (x.take 64).getD j 0 = x.getD j 0 := by
    intro j hj
    rw [List.getD_eq_getElem?_getD, List.getD_eq_getElem?_getD, List.getElem?_take, if_pos hj]
  unfold wordOf
  rw [g i (by omega), g (i + 1) (by omega), g (i + 2) (by omega), g (i + 3) (by omega)]
theorem sched_take {x : List UInt8} (hl : 64 ≤ x.length) (t : Nat) : sched (x.take 64) t = sched x t := by
  induction t with
  | zero => rfl
  | succ t ih =>
    have e : nextW (x.take 64) (sched x t) t = nextW x (sched x t) t := by
      unfold nextW
      split
      · rw [wordOf_take hl (by omega)]
      · rfl
    rw [sched, sched, ih, e]
theorem rounds_take {x : List UInt8} (hl : 64 ≤ x.length) (s : S8) (t : Nat) : rounds (x.take 64) s t = rounds x s t := by
  induction t with
  | zero => rfl
  | succ t ih => rw [rounds, rounds, ih, sched_take hl]
def addL (s r : S8) (i : Nat) : List W32 := (s.add r).list.take i ++ s.list.drop i
theorem addL_step (s r : S8) {i : Nat} (h : i < 8) : ∃ p q, (addL s r i)[i]? = some p ∧ r.list[i]? = some q ∧ (addL s r i).set i (p + q) = addL s r (i + 1) := by
  rcases (show i = 0 ∨ i = 1 ∨ i = 2 ∨ i = 3 ∨ i = 4 ∨ i = 5 ∨ i = 6 ∨ i = 7 by omega) with rfl | rfl | rfl | rfl | rfl | rfl | rfl | rfl <;> exact ⟨_, _, rfl, rfl, by simp [addL, S8.add, S8.list]⟩
theorem addL_len (s r : S8) {i : Nat} (h : i ≤ 8) : (addL s r i).length = 8 := by
  unfold addL
  simp [S8.list]
  omega
theorem addL_all (s r : S8) : addL s r 8 = (s.add r).list := rfl
def headO (l : List W32) (r : List Value) (t : TypeId) : Obj := .cells (l.map u32V ++ r).toArray t (0, 0)
theorem head_cell {w : World} {b : Nat} {l : List W32} {r : List Value} {t : TypeId} (h : w.heap[b]? = some (headO l r t)) {i : Nat} {x : W32} (hi : l[i]? = some x) : w.cell? ⟨b, i, none⟩ = some (.int .u32 (x.toNat : Int)) ∧ w.frozen? ⟨b, i, none⟩ = false := by
  refine ⟨?_, free_of h i⟩
  have hlt := (List.getElem?_eq_some_iff.1 hi).1
  rw [cell_of h, List.getElem?_toArray, List.getElem?_append_left (by simpa using hlt), List.getElem?_map, hi]
  rfl
theorem head_set {w : World} {b : Nat} {l : List W32} {r : List Value} {t : TypeId} (h : w.heap[b]? = some (headO l r t)) {i : Nat} (hi : i < l.length) (x : W32) : (w.setCell ⟨b, i, none⟩ (.int .u32 (x.toNat : Int))).heap[b]? = some (headO (l.set i x) r t) := by
  have := heap_set_eq (i := i) (u := .int .u32 (x.toNat : Int)) h
  rw [this]
  unfold headO
  congr 2
  rw [List.setIfInBounds_toArray, List.set_append_left _ _ (by simpa using hi), List.map_set]
  rfl
theorem add4_u32 (h s c k w : W32) : (((h.toNat : Int) + (s.toNat : Int) + (c.toNat : Int) + (k.toNat : Int)) % 4294967296 + (w.toNat : Int)) % 4294967296 = ((((((h + s) + c) + k) + w)).toNat : Int) := by
  simp only [BitVec.toNat_add]
  omega
theorem sumX_u32 (R : S8) (k w : W32) : (((R.h.toNat : Int) + bits .xor .u32 (bits .xor .u32 ((rotr R.e 6).toNat : Int) ((rotr R.e 11).toNat : Int)) ((rotr R.e 25).toNat : Int) + bits .xor .u32 (R.g.toNat : Int) (bits .and .u32 (R.e.toNat : Int) (bits .xor .u32 (R.f.toNat : Int) (R.g.toNat : Int))) + (k.toNat : Int)) % 4294967296 + (w.toNat : Int)) % 4294967296 = ((R.sumX k w).toNat : Int) := by
  rw [u32x, u32x, u32x, u32a, u32x, add4_u32]
  rfl
theorem sumY_u32 (R : S8) : ((bits .xor .u32 (bits .xor .u32 ((rotr R.a 2).toNat : Int) ((rotr R.a 13).toNat : Int)) ((rotr R.a 22).toNat : Int)) + bits .xor .u32 (bits .xor .u32 (bits .and .u32 (R.a.toNat : Int) (R.b.toNat : Int)) (bits .and .u32 (R.a.toNat : Int) (R.c.toNat : Int))) (bits .and .u32 (R.b.toNat : Int) (R.c.toNat : Int))) % 4294967296 = (R.sumY.toNat : Int) := by
  rw [u32x, u32x, u32a, u32a, u32x, u32a, u32x, u32add]
  rfl
def SRightP (a : W32) (z : Int) (n : Nat) : Prop := ∀ W, Calls Tryz.prog 404 #[.int .u32 (a.toNat : Int), .int .i64 z] W fun e w' => e = .returned (.int .u32 ((rotr a n).toNat : Int)) ∧ W = w'
theorem rightP (a : W32) {n : Nat} (h : n ∈ [2, 6, 7, 11, 13, 17, 18, 19, 22, 25]) {z : Int} (hz : z = (n : Int)) : SRightP a z n := by
  subst hz
  exact fun W => sright_any a n h W
theorem sig0_u32 (b : W32) : bits .xor .u32 (bits .xor .u32 ((rotr b 7).toNat : Int) ((rotr b 18).toNat : Int)) ((b.toNat : Int) / 8) = ((((rotr b 7 ^^^ rotr b 18) ^^^ b >>> 3)).toNat : Int) := by
  have h := u32shr b 3
  rw [show (8 : Int) = ((2 ^ 3 : Nat) : Int) from rfl, h, u32x, u32x]
theorem sig1_u32 (b : W32) : bits .xor .u32 (bits .xor .u32 ((rotr b 17).toNat : Int) ((rotr b 19).toNat : Int)) ((b.toNat : Int) / 1024) = ((((rotr b 17 ^^^ rotr b 19) ^^^ b >>> 10)).toNat : Int) := by
  have h := u32shr b 10
  rw [show (1024 : Int) = ((2 ^ 10 : Nat) : Int) from rfl, h, u32x, u32x]
theorem next_u32 (A16 A15 A7 A2 : W32) : IntKind.u32.wrap (IntKind.u32.wrap (IntKind.u32.wrap ((A16.toNat : Int) + bits .xor .u32 (bits .xor .u32 ((rotr A15 7).toNat : Int) ((rotr A15 18).toNat : Int)) ((A15.toNat : Int) / 8)) + (A7.toNat : Int)) + bits .xor .u32 (bits .xor .u32 ((rotr A2 17).toNat : Int) ((rotr A2 19).toNat : Int)) ((A2.toNat : Int) / 1024)) =
    ((((A16 + ((rotr A15 7 ^^^ rotr A15 18) ^^^ A15 >>> 3)) + A7) + ((rotr A2 17 ^^^ rotr A2 19) ^^^ A2 >>> 10)).toNat : Int) := by
  rw [sig0_u32, sig1_u32, IntKind.wrap_u32', IntKind.wrap_u32', IntKind.wrap_u32', u32add, u32add, u32add]
end Go.Proofs.YtajhgejhdalobaaGreatDoor
