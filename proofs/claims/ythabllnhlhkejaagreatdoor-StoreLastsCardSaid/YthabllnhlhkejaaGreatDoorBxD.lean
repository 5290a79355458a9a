/-
  THE WALK of box.Open.
-/
import Derived.OwnWalk
import Derived.Test.YthabllnhlhkejaaGreatDoorBxC
namespace Go.Proofs.YthabllnhlhkejaaGreatDoor
open Go.RowKit

theorem orX_or (a b : List UInt8) (p : UInt8) : orX a b p = p ||| orX a b 0 := by
  induction a generalizing b p with
  | nil => simp [orX]
  | cons x a ih =>
    cases b with
    | nil => simp [orX]
    | cons y b =>
      show orX a b (p ||| (x ^^^ y)) = p ||| orX a b (0 ||| (x ^^^ y))
      rw [ih b (p ||| (x ^^^ y)), ih b (0 ||| (x ^^^ y)), UInt8.zero_or, UInt8.or_assoc]
theorem u8_or0 (p q : UInt8) : (p ||| q) = 0 ↔ p = 0 ∧ q = 0 := UInt8.or_eq_zero_iff
theorem orX_zero {a b : List UInt8} (h : a.length = b.length) : orX a b 0 = 0 ↔ a = b := by
  induction a generalizing b with
  | nil =>
    cases b with
    | nil => simp [orX]
    | cons y b => simp at h
  | cons x a ih =>
    cases b with
    | nil => simp at h
    | cons y b =>
      show orX a b (0 ||| (x ^^^ y)) = 0 ↔ _
      rw [orX_or, u8_or0, UInt8.zero_or, ih (by simpa using h), List.cons.injEq]
      exact and_congr_left fun _ => UInt8.xor_eq_zero_iff
theorem same_tag {a b : List UInt8} (h : a.length = b.length) : (decide (a.length = b.length) && (orX a b 0 == 0)) = decide (a = b) := by
  rw [decide_eq_true h, Bool.true_and]
  by_cases e : a = b
  · rw [decide_eq_true e, (orX_zero h).2 e]
    rfl
  · rw [decide_eq_false e]
    have : ¬ orX a b 0 = 0 := fun z => e ((orX_zero h).1 z)
    simp [this]
theorem or_u64 (x : Nat) (c : UInt8) (hx : x < 72057594037927936) : bits .or .u64 ((x : Int) * 256) (c.toNat : Int) = ((x * 256 + c.toNat : Nat) : Int) := by
  have hc := c.toNat_lt
  have e : ((x : Int) * 256) = ((x * 256 : Nat) : Int) := by omega
  rw [e, u64_or_nat _ _ (by omega) (by omega)]
  congr 1
  have h := Nat.shiftLeft_add_eq_or_of_lt (show c.toNat < 2 ^ 8 from hc) x
  rw [Nat.shiftLeft_eq] at h
  exact h.symm
theorem num8_take {l : List UInt8} {j : Nat} (h : j < l.length) : num8 (l.take (j + 1)) = num8 (l.take j) * 256 + l[j].toNat := by
  unfold num8
  rw [List.take_succ_eq_append_getElem h, List.foldl_append]
  rfl
theorem num8_lt (l : List UInt8) : num8 l < 256 ^ l.length := by
  have g : ∀ (l : List UInt8) (n m : Nat), n < 256 ^ m → l.foldl (fun n c => n * 256 + c.toNat) n < 256 ^ (m + l.length) := by
    intro l
    induction l with
    | nil => intro n m h; simpa using h
    | cons c l ih =>
      intro n m h
      have hc := c.toNat_lt
      have h1 : n * 256 + c.toNat < 256 ^ (m + 1) := by rw [Nat.pow_succ]; omega
      have := ih _ _ h1
      rw [List.foldl_cons, List.length_cons, show m + (l.length + 1) = m + 1 + l.length by omega]
      exact this
  have := g l 0 0 (by simp)
  simpa [num8] using this
/-- what Open tells: the bytes, the nonce, the error -/
def boxR (enc tag about b : List UInt8) : List UInt8 × Nat × Int :=
  if b.length < 24 then ([], 0, 3)
  else if 65560 < b.length then ([], 0, 2)
  else if tagB tag about (b.take (b.length - 16)) = b.drop (b.length - 16) then
    (if num8 (b.take 8) < 9223372036854775808 then (xorB enc (num8 (b.take 8)) ((b.take (b.length - 16)).drop 8), num8 (b.take 8), 0) else ([], 0, 1))
  else ([], 0, 7)
theorem boxR_seal {enc : List UInt8} (he : enc.length = 32) (tag : List UInt8) {nonce : Nat} (hn : nonce < 9223372036854775808) (about p : List UInt8) (hp : p.length ≤ 65536) : boxR enc tag about (sealB enc tag nonce about p) = (p, nonce, 0) := by
  have h := open_seal he tag (show nonce < 2 ^ 64 by omega) about p
  have hl := sealB_len he tag nonce about p
  unfold openB at h
  rw [if_neg (by omega)] at h
  unfold boxR
  rw [if_neg (by omega), if_neg (by omega)]
  split at h
  · rename_i h1
    rw [if_pos h1]
    have h2 := Option.some.inj h
    have h3 : num8 ((sealB enc tag nonce about p).take 8) = nonce := congrArg Prod.snd h2
    rw [if_pos (by omega)]
    have h4 := congrArg Prod.fst h2
    simp only at h4
    rw [h4, h3]
  · cases h
def BoxP (r : List UInt8 × Nat × Int) (w : World) (e : Ending) (w' : World) : Prop := ∃ s : SV, e = .returned (.tuple #[s.val, .int .i64 (r.2.1 : Int), .int .i64 r.2.2]) ∧ s.n = r.1.length ∧ RowAt 5 ByteR w' s.val r.1 ∧ Fr noBlock w w' ∧ ∀ k, s.val.ownBlock = some k → w.heap.size ≤ k
theorem boxP_nil {w w' : World} {x : Int} (hf : Fr noBlock w w') : BoxP ([], 0, x) w (.returned (.tuple #[.slice none 0 0, .int .i64 0, .int .i64 x])) w' := ⟨⟨none, 0, 0⟩, rfl, rfl, RowAt.nil, hf, fun k hk => by cases hk⟩
set_option maxRecDepth 100000 in
set_option maxHeartbeats 3200000 in
theorem open_any {w : World} {eo to_ bo po : Option Addr} {enc tag about b : List UInt8} (he : RowRd ByteR w eo enc) (ec : Nat) (hel : enc.length = 32) (ht : RowRd ByteR w to_ tag) (tc : Nat) (htl : tag.length ≤ 1000000)
    (hb : RowRd ByteR w bo about) (bc : Nat) (hbl : about.length ≤ 1000000) (hp : RowRd ByteR w po b) (pc : Nat) (hpc : b.length ≤ pc) :
    Calls Tryz.prog 25 #[.slice eo enc.length ec, .slice to_ tag.length tc, .slice bo about.length bc, .slice po b.length pc] w (BoxP (boxR enc tag about b) w) := by
  have HK := Lib.hid (bkey_any he ec hel)
  have HE := Lib.hid (And.intro he hel)
  have HB := Lib.hid (And.intro hb hbl)
  have HT := Lib.hid (And.intro ht htl)
  have HP := Lib.hid hp
  have hlen := hp.len
  have hnot : ∀ (x : Bool) (w : World), (Op.unary .not (.bool x)).run Tryz.prog w = .ok (.bool (!x)) w := fun _ _ => rfl
  clear he hel ht htl hb hbl hp
  by_cases h24 : b.length < 24
  · have e : boxR enc tag about b = ([], 0, 3) := by unfold boxR; rw [if_pos h24]
    rw [e]
    have q1 : (b.length : Int) < 24 := by omega
    go_enter Tryz.func25, Tryz.ntmps25
    go_wp2_with fail
    refine HK.out.mono ?_
    rintro e w1 ⟨rfl, hf⟩
    have HF := Lib.hid hf
    clear hf HK
    go_wp2_with fail
    go_ret3
    exact boxP_nil HF.out
  · by_cases h65 : 65560 < b.length
    · have e : boxR enc tag about b = ([], 0, 2) := by unfold boxR; rw [if_neg h24, if_pos h65]
      rw [e]
      have q1 : (24 : Int) ≤ (b.length : Int) := by omega
      have q2 : (65560 : Int) < (b.length : Int) := by omega
      go_enter Tryz.func25, Tryz.ntmps25
      go_wp2_with fail
      refine HK.out.mono ?_
      rintro e w1 ⟨rfl, hf⟩
      have HF := Lib.hid hf
      clear hf HK
      go_wp2_with fail
      go_ret3
      exact boxP_nil HF.out
    · have q1 : (24 : Int) ≤ (b.length : Int) := by omega
      have q2 : (b.length : Int) ≤ 65560 := by omega
      obtain ⟨m, hm⟩ : ∃ m, b.length - 16 = m := ⟨_, rfl⟩
      have q3 : IntKind.i64.wrap ((b.length : Int) - 16) = (m : Int) := by rw [IntKind.wrap_i64]; omega
      have q4 : ¬ pc = m := by omega
      have q5 : (m : Int) ≤ (b.length : Int) := by omega
      have q6 : (m : Int) ≤ (pc : Int) := by omega
      have q7 : (b.length : Int) ≤ (pc : Int) := by omega
      have q8 : b.length - m = 16 := by omega
      obtain ⟨bg, off, rfl, -⟩ := byte_addr HP.out (i := 0) (by omega)
      have HO := Lib.hid (show boxR enc tag about b = if tagB tag about (b.take m) = b.drop m then (if num8 (b.take 8) < 9223372036854775808 then (xorB enc (num8 (b.take 8)) ((b.take m).drop 8), num8 (b.take 8), 0) else ([], 0, 1)) else ([], 0, 7) by
        unfold boxR
        rw [if_neg h24, if_neg h65, hm])
      have HM := Lib.hid hm
      clear hm h24 h65
      go_enter Tryz.func25, Tryz.ntmps25
      go_wp2_with fail
      refine HK.out.mono ?_
      rintro e w1 ⟨rfl, hf⟩
      have HF := Lib.hid hf
      clear hf HK
      go_wp2_with fail
      go_quiet (fail)
      have HF2 := Lib.hid (HF.out.drewN nq)
      clear HF q3 q6 q7 q8
      go_wp2_with fail
      go_loopw [13, 43] (fun s13 s43 W => ∃ j : Nat, j ≤ 8 ∧ s43 = .int .i64 j ∧ s13 = .int .u64 (num8 (b.take j) : Int) ∧ Hid (Fr noBlock w W)) (fun _ s43 _ => 8 - (intOf s43).toNat)
      case atStart => exact ⟨0, by omega, rfl, rfl, HF2⟩
      case round =>
        clear HF2
        obtain ⟨j, hj, rfl, rfl, HF⟩ := hrel
        by_cases hlt : j < 8
        · have q9 : (j : Int) < 8 := by omega
          have q10 : (0 : Int) ≤ (j : Int) := by omega
          have hjb : j < b.length := by omega
          have y0 := byte_rd (HP.out.fr0 HF.out) hjb
          have HN := Lib.hid (num8_take hjb)
          have hx := num8_lt (b.take j)
          have hx2 : 256 ^ (b.take j).length ≤ 256 ^ 7 := Nat.pow_le_pow_right (by omega) (by rw [List.length_take]; omega)
          obtain ⟨x, hxe⟩ : ∃ x, num8 (b.take j) = x := ⟨_, rfl⟩
          rw [hxe] at hx HN ⊢
          have hx3 : x < 72057594037927936 := Nat.lt_of_lt_of_le hx hx2
          unfold byteV at y0
          generalize b[j] = c at *
          have hc := c.toNat_lt
          have q11 : (x : Int) * 256 % 18446744073709551616 = (x : Int) * 256 := by omega
          have q12 : (c.toNat : Int) % 18446744073709551616 = (c.toNat : Int) := by omega
          have q13 : IntKind.u64.wrap (c.toNat : Int) = (c.toNat : Int) := by rw [IntKind.wrap_u64]; omega
          have HV := Lib.hid (or_u64 x c hx3)
          clear hx hx2 hxe hx3 hc
          go_wp2_with fail
          go_roundw
          case rel => exact ⟨j + 1, hlt, by go_num, by rw [HN.out, ← HV.out], HF⟩
          case measure => simp [intOf]; omega
        · have q9 : (8 : Int) ≤ (j : Int) := by omega
          obtain rfl : j = 8 := by omega
          have hN := num8_lt (b.take 8)
          have hN2 : 256 ^ (b.take 8).length ≤ 256 ^ 8 := Nat.pow_le_pow_right (by omega) (by rw [List.length_take]; omega)
          obtain ⟨N, hNe⟩ : ∃ N, num8 (b.take 8) = N := ⟨_, rfl⟩
          rw [hNe] at hN HO ⊢
          have hN3 : N < 18446744073709551616 := Nat.lt_of_lt_of_le hN hN2
          have HNl := Lib.hid hN3
          have hTl : (b.take m).length = m := by rw [List.length_take]; omega
          have hel : (b.drop m).length = 16 := by rw [List.length_drop]; have := HM.out; omega
          have HG := Lib.hid (show Calls Tryz.prog 40 #[.slice to_ tag.length tc, .slice bo about.length bc, .slice (some ⟨wr.heap.size, 0, none⟩) 1 1] (wr.alloc (.cells #[.slice (some ⟨bg, off, none⟩) m pc] 28)) (TagP (tagB tag about (b.take m)) (wr.alloc (.cells #[.slice (some ⟨bg, off, none⟩) m pc] 28))) from by
            have ha := (Fr.refl noBlock wr).alloc (.cells #[.slice (some ⟨bg, off, none⟩) m pc] 28)
            have hf := HF.out.trans' ha
            have hr : RowRd SliceR (wr.alloc (.cells #[.slice (some ⟨bg, off, none⟩) m pc] 28)) (some ⟨wr.heap.size, 0, none⟩) [(⟨some ⟨bg, off, none⟩, m, pc⟩ : SV)] := RowRd.of_flat (heap_new wr _) rfl (by unfold maxLen; simp)
            have hp : PartsRd (wr.alloc (.cells #[.slice (some ⟨bg, off, none⟩) m pc] 28)) [(⟨some ⟨bg, off, none⟩, m, pc⟩ : SV)] [b.take m] := PartsRd.cons hTl.symm ((HP.out.takeN m).fr0 hf) (PartsRd.nil _)
            have h := tagged_any (HT.out.1.fr0 hf) tc HT.out.2 (HB.out.1.fr0 hf) bc HB.out.2 hr hp 1 (by
              simp only [List.flatten_cons, List.flatten_nil, List.append_nil, hTl]
              omega) (by simp)
            have e2 : [b.take m].flatten = b.take m := by simp
            rw [e2] at h
            exact h)
          unfold TagP at HG
          clear hN hN2 hN3 hNe
          go_wp2_with fail
          refine HG.out.mono ?_
          rintro e w3 ⟨⟨ta, tn, tc2⟩, rfl, h1, h2, h3⟩
          unfold SV.val
          dsimp only at h1 h2 ⊢
          rw [tagB_len] at h1
          subst h1
          have hf3 : Fr noBlock w w3 := (HF.out.trans' ((Fr.refl noBlock wr).alloc _)).trans' h3
          have HSm := Lib.hid (show Calls Tryz.prog 50 #[.slice ta 16 tc2, .slice (some ⟨bg, off + m, none⟩) 16 (pc - m)] w3 fun e w' => e = .returned (.bool (decide (tagB tag about (b.take m) = b.drop m))) ∧ Fr noBlock w3 w' from by
            have hpc := (HP.out.fr0 hf3).piece m 16
            rw [byteK, Nat.mul_one, List.take_of_length_le (by omega)] at hpc
            have hl : (tagB tag about (b.take m)).length = 16 := tagB_len _ _ _
            have h := same_any h2 hpc tc2 (pc - m)
            rw [same_tag (by rw [hl, hel]), hl, hel] at h
            exact h)
          have HF3 := Lib.hid hf3
          clear h2 h3 hf3 HG HF
          go_wp2_with fail
          refine HSm.out.mono ?_
          rintro e w4 ⟨rfl, hf4⟩
          have HF4 := Lib.hid (HF3.out.trans' hf4)
          clear hf4 HSm HF3
          by_cases hT : tagB tag about (b.take m) = b.drop m
          · rw [if_pos hT] at HO
            rw [decide_eq_true hT]
            by_cases hN63 : N < 9223372036854775808
            · have hm := HM.out
              have q10 : (N : Int) ≤ 9223372036854775807 := by omega
              have q11 : wrap64 (N : Int) = (N : Int) := by unfold wrap64; omega
              have q12 : IntKind.i64.wrap (N : Int) = (N : Int) := by rw [IntKind.wrap_i64]; omega
              have q13 : ¬ pc = 8 := by omega
              have q14 : (8 : Int) ≤ (m : Int) := by omega
              have q15 : (m : Int) ≤ (pc : Int) := by omega
              rw [if_pos hN63] at HO
              have hXl : ((b.take m).drop 8).length = m - 8 := by rw [List.length_drop, hTl]
              have HX := Lib.hid (show Calls Tryz.prog 37 #[.slice eo enc.length ec, .int .i64 (N : Int), .int .i64 0, .slice (some ⟨bg, off + 8, none⟩) (m - 8) (pc - 8)] w4 (ReadP (xorB enc N ((b.take m).drop 8)) 0 w4) from by
                have hpc := (((HP.out.fr0 HF4.out).takeN m).piece 8 (m - 8))
                rw [byteK, Nat.mul_one, List.take_of_length_le (by omega)] at hpc
                have h := xor_any (HE.out.1.fr0 HF4.out) ec HE.out.2 N hN63 hpc (pc - 8) (by omega)
                rw [hXl] at h
                exact h)
              unfold ReadP at HX
              have HOe := Lib.hid HO.out
              clear HO hT hN63 hTl hel hXl hm
              go_wp2_with fail
              refine HX.out.mono ?_
              rintro e w5 ⟨⟨xa, xn, xc⟩, rfl, k1, k2, k3, k4⟩
              unfold SV.val at k2 k4 ⊢
              dsimp only at k1 k2 k4 ⊢
              have H5 := Lib.hid (And.intro k1 (And.intro k2 (And.intro k3 k4)))
              clear k1 k2 k3 k4 HX
              go_wp2_with fail
              go_ret3
              rw [HOe.out]
              exact ⟨⟨xa, xn, xc⟩, rfl, H5.out.1, H5.out.2.1, HF4.out.trans' H5.out.2.2.1, fun k hk => Nat.le_trans HF4.out.size (H5.out.2.2.2 k hk)⟩
            · have q10 : (9223372036854775807 : Int) < (N : Int) := by omega
              rw [if_neg hN63] at HO
              clear hT hN63 hTl hel
              go_wp2_with fail
              go_ret3
              rw [HO.out]
              exact boxP_nil HF4.out
          · rw [if_neg hT] at HO
            rw [decide_eq_false hT]
            clear hT hTl hel
            go_wp2_with fail
            go_ret3
            rw [HO.out]
            exact boxP_nil HF4.out
end Go.Proofs.YthabllnhlhkejaaGreatDoor
