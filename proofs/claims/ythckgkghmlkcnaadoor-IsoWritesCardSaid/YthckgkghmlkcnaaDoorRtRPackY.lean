/-
  moneyerref01.Pack where the text is taken.
-/
import Derived.Laws.Concat
import Derived.Deep.AppendLies
import Derived.IntWalk
import Derived.Deep.Onto
import Derived.Test.YthckgkghmlkcnaaDoorBytes
import Derived.Test.YthckgkghmlkcnaaDoorRtTexts
namespace Go.Proofs.YthckgkghmlkcnaaDoor
open Go.RowKit

theorem rpack_no (s : ByteArray) (w : World) (hs : s.size ≤ maxLen) (h : ¬ lookE s = 0) : Calls Tryd.prog 37 #[.string s] w (PackPost (lookE s) w) := by
  have Ht := Lib.hid (fun W => rtexts_any s W hs)
  generalize lookE s = x at *
  go_enter Tryd.func37, Tryd.ntmps37
  go_wp2_with fail
  refine (Ht.out _).mono ?_
  rintro e w1 ⟨rfl, rfl⟩
  go_wp2_with fail
  go_ret2
  exact ⟨_, rfl, Fr.refl _ _⟩
end Go.Proofs.YthckgkghmlkcnaaDoor
namespace Go.Proofs.YthckgkghmlkcnaaDoor
open Go.RowKit

/-- what the document's Pack answers -/
def RPackYes (s : ByteArray) (w : World) (e : Ending) (w' : World) : Prop := ∃ v, e = .returned (.tuple #[v, .int .i64 0]) ∧ RowAt 5 ByteR w' v (packL s) ∧ Fr noBlock w w' ∧ ∀ k, v.ownBlock = some k → w.heap.size ≤ k
theorem pairs_val {x y : Nat} (hx : 48 ≤ x ∧ x ≤ 57) (hy : 48 ≤ y ∧ y ≤ 57) : (((UInt8.ofNat ((x - 48) * 16 + (y - 48))).toNat : Nat) : Int) = ((x : Int) - 48) * 16 + ((y : Int) - 48) := by
  rw [UInt8.toNat_ofNat']; omega

set_option maxRecDepth 100000 in
set_option maxHeartbeats 800000 in
theorem rpack_yes (s : ByteArray) (w : World) (hs : s.size ≤ 999) (h : lookE s = 0) : Calls Tryd.prog 37 #[.string s] w (RPackYes s w) := by
  have Ht := Lib.hid (fun W => rtexts_any s W (by unfold maxLen; omega))
  rw [h] at Ht
  obtain ⟨t, ht⟩ : ∃ t, padB s = t := ⟨_, rfl⟩
  obtain ⟨m, hm⟩ : ∃ m : Nat, t.size = 2 * m := ⟨t.size / 2, by rw [← ht]; exact pad_even s⟩
  have hm5 : t.size ≤ 1000 := by
    rw [← ht]; unfold padB; split
    · have : (⟨#[48]⟩ ++ s : ByteArray).size = 1 + s.size := ByteArray.size_append
      omega
    · omega
  have Hd := Lib.hid (show ∀ (k : Nat) (hk : k < t.size), 48 ≤ t[k].toNat ∧ t[k].toNat ≤ 57 by subst ht; exact pad_dig (look_dig h))
  have Hres := Lib.hid (show packL s = pairsB t.data.toList by unfold packL; rw [ht])
  have Hm := Lib.hid hm
  obtain ⟨i0, hi0, hz0, hz1, hz2⟩ := info_parts infoB
  have hadd : ∀ W, (s.size : Int) % 2 = 1 → (Op.stringOp BinOp.add ⟨#[48]⟩ s).run Tryd.prog W = .ok (.string t) W := fun W q => by
    rw [run_string_add_sum (P := Tryd.prog) W ⟨#[48]⟩ s (by have : (⟨#[48]⟩ : ByteArray).size = 1 := rfl; omega), ← ht, padB, if_pos (by omega)]
  have heven : (s.size : Int) % 2 ≠ 1 → s = t := fun q => by rw [← ht, padB, if_neg (by omega)]
  have hcs : (((s.size : Int) % 2 == 1) = true ∧ ∀ W, (Op.stringOp BinOp.add ⟨#[48]⟩ s).run Tryd.prog W = .ok (.string t) W) ∨ (((s.size : Int) % 2 == 1) = false ∧ t = s) := by
    by_cases hodd : (s.size : Int) % 2 = 1
    · exact .inl ⟨by simpa using hodd, fun W => hadd W hodd⟩
    · exact .inr ⟨by simpa using hodd, (heven hodd).symm⟩
  clear h ht hadd heven hm
  rcases hcs with ⟨hb, ha⟩ | ⟨hb, rfl⟩
  all_goals
    go_enter Tryd.func37, Tryd.ntmps37
    go_wp2_with fail
    refine (Ht.out _).mono ?_
    rintro e w1 ⟨rfl, rfl⟩
    go_wp2_with fail
    go_loopw [5, 6] (fun s5 s6 wr => ∃ (k j : Nat) (ao : Option Addr) (cap : Nat), j ≤ t.size ∧ k ≤ j ∧ Hid (j = 2 * k) ∧ s6 = .int .i64 j ∧ s5 = .slice ao k cap ∧ wr.ownsRow w.heap.size 5 1 s5 k (ByteR.flat (pairsB (t.data.toList.take j))) ∧ Fr noBlock w wr) (fun _ s6 _ => t.size - (intOf s6).toNat)
    case atStart => exact ⟨0, 0, none, 0, Nat.zero_le _, Nat.le_refl _, Lib.hid rfl, rfl, rfl, World.ownsRow_nil _ _ _ _, Fr.refl _ _⟩
    case round =>
      obtain ⟨k, j, ao, cap, hk, hkj, HJ, rfl, rfl, hrow, hf⟩ := hrel
      try clear hb
      try clear ha
      by_cases hlt : j < t.size
      · have hk1 : j + 1 < t.size := by have := Hm.out; have := HJ.out; omega
        have hk2 : j + 2 ≤ t.size := by omega
        obtain ⟨d1, d2⟩ := Hd.out j hlt
        obtain ⟨d3, d4⟩ := Hd.out (j + 1) hk1
        have a1 := run_at t j hlt
        have a2 := run_at t (j + 1) hk1
        have Hv := Lib.hid (pairs_val ⟨d1, d2⟩ ⟨d3, d4⟩)
        have hp := pairsB_take t.data.toList k (by have := HJ.out; simp; omega)
        have e2 : 2 * (k + 1) = j + 2 := by have := HJ.out; omega
        have e3 := HJ.out
        simp only [e2, ← e3] at hp
        have g1 : t.data.toList[j]'(by simpa using hlt) = t[j] := rfl
        have g2 : t.data.toList[j + 1]'(by simpa using hk1) = t[j + 1] := rfl
        rw [g1, g2] at hp
        generalize t[j].toNat = x at *
        generalize t[j + 1].toNat = y at *
        have Hp := Lib.hid hp
        have q1 : (j : Int) < (t.size : Int) := by omega
        have q2 : (j : Int) + 1 < (t.size : Int) := by omega
        have x1 : (48 : Int) ≤ (x : Int) := by omega
        have x2 : (x : Int) ≤ 57 := by omega
        have y1 : (48 : Int) ≤ (y : Int) := by omega
        have y2 : (y : Int) ≤ 57 := by omega
        rw [show ((j + 1 : Nat) : Int) = (j : Int) + 1 from by omega] at a2
        have Hrow := Lib.hid hrow
        have Hf := Lib.hid hf
        have Hs := Lib.hid hf.size
        have hkl : k ≤ 1000 := by omega
        clear hrow hf hlt hp e2 e3 g1 g2 d1 d2 d3 d4 hk1
        have v1 : IntKind.u8.wrap ((x : Int) - 48) = (x : Int) - 48 := IntWalk.u8_in _ (by omega)
        have v2 : IntKind.u8.wrap ((y : Int) - 48) = (y : Int) - 48 := IntWalk.u8_in _ (by omega)
        have v3 : IntKind.u8.wrap (((x : Int) - 48) * 16) = ((x : Int) - 48) * 16 := IntWalk.u8_in _ (by omega)
        have v4 : IntKind.u8.wrap (((x : Int) - 48) * 16 + ((y : Int) - 48)) = ((x : Int) - 48) * 16 + ((y : Int) - 48) := IntWalk.u8_in _ (by omega)
        have v5 : IntKind.i64.wrap ((j : Int) + 1) = (j : Int) + 1 := IntWalk.i64_in _ (by omega)
        go_wp2_with fail
        go_region_law
            ((refine step_append_lies _ (by rfl) _ _ _ (by rfl) w.heap.size 5 i0 _ 1 1 Tryd.underlying22 hi0 hz0 hz1 hz2 rfl (by omega) (.slice ao k cap) k (ByteR.flat (pairsB (t.data.toList.take j))) (by rfl) ((Hrow.out.alloc _).drew)
                ⟨wr.heap.size, 0, none⟩ 1 1 [.int .u8 (((x : Int) - 48) * 16 + ((y : Int) - 48))] (by rfl) (by rfl) (World.news_of_block (cs := #[.int .u8 (((x : Int) - 48) * 16 + ((y : Int) - 48))]) (t := 5) (fr := (0, 0)) (heap_alloc_new wr _)) (by simp [Value.oneCell'])
                (by omega) (by unfold maxLen; omega) (by omega) (by have := Hs.out; simp; omega) (wr.heap.size + 1) (by simp) ?_; intro gg cap5 w5 hown5 hgrow5 hat5 hlt5))
        all_goals go_wp2_with fail
        all_goals
          have hlow := hown5.lt
          refine ⟨⟨k + 1, j + 2, some ⟨gg, 0, none⟩, cap5, hk2, by omega, Lib.hid (by have := HJ.out; omega), by go_num, rfl, ?_, ((Hf.out.alloc _).drew).grown hgrow5 (fun q hq => .inr (Hrow.out.lt q hq).1)⟩, by simp [intOf]; omega⟩
          rw [Hp.out, ByteR.flat_append, ByteR.flat_one]
          show w5.ownsRow w.heap.size _ _ _ _ (_ ++ [Value.int .u8 _])
          rw [Hv.out]
          exact hown5
      · have hlt' : (t.size : Int) ≤ (j : Int) := by omega
        have e : j = t.size := by omega
        have e2 : t.data.toList.take j = t.data.toList := List.take_of_length_le (by simp; omega)
        rw [e2] at hrow
        have hkn : k = (pairsB t.data.toList).length := by
          have := hrow.1
          rw [ByteR.flat_len] at this
          have e3 : ByteR.k = 1 := rfl
          rw [e3] at this
          omega
        have Hrow := Lib.hid hrow
        have Hkn := Lib.hid hkn
        clear hrow e e2 hlt hkn
        go_wp2_with fail
        go_ret2
        refine ⟨_, rfl, ?_, hf, fun q hq => (Hrow.out.lt q hq).1⟩
        unfold RowAt
        rw [Hres.out, ← Hkn.out]
        exact Hrow.out.mono (Nat.zero_le _)

theorem rpack_any (s : ByteArray) (w : World) (hs : s.size ≤ maxLen) : Calls Tryd.prog 37 #[.string s] w (PackPost (lookE s) w) := by
  by_cases h : lookE s = 0
  · have hsz : s.size ≤ 999 := by
      have hd := look_dig h
      unfold lookE at h
      rw [if_neg (by simp [hd])] at h
      split at h
      · omega
      · omega
    rw [h]
    exact (rpack_yes s w hsz h).mono fun e w' ⟨v, he, _, hf, _⟩ => ⟨v, he, hf⟩
  · exact rpack_no s w hs h
end Go.Proofs.YthckgkghmlkcnaaDoor
