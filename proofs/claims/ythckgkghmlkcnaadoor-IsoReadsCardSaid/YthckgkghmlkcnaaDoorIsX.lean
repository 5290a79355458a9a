/-
  THE WALK of IsoReads.
-/
import Derived.Test.YthckgkghmlkcnaaDoorIsZ
import Derived.Test.YthckgkghmlkcnaaDoorIsQ
import Derived.Test.YthckgkghmlkcnaaDoorIsL
import Derived.Test.YthckgkghmlkcnaaDoorLaw01
namespace Go.Proofs.YthckgkghmlkcnaaDoor
open Go.RowKit

theorem parL_len {b : Bs} : (parL b).length ≤ maxLen := by
  by_cases h : parE b = 0
  · have hq : parseM b = (0, (parseM b).2.1, (parseM b).2.2.1, (parseM b).2.2.2) := by
      unfold parE at h
      rw [← h]
    have := (right_sizes (bytes_parse hq).1).2
    unfold maxLen
    show (fldsOf (parseM b).2.2.1).length ≤ _
    omega
  · have : parL b = [] := by
      unfold parE at h
      unfold parL
      unfold parseM at h ⊢
      split
      · rfl
      · rename_i h0
        rw [if_neg h0] at h
        split
        · rfl
        · rename_i h1
          rw [if_neg h1] at h
          split
          · rfl
          · rename_i h2
            rw [if_neg h2] at h
            exact absurd rfl h
    rw [this]
    exact Nat.zero_le _
set_option maxRecDepth 100000 in
set_option maxHeartbeats 3200000 in
theorem reads_walk {bo : Option Addr} {bc : Nat} {b : Bs} {w : World} (hb : RowRd ByteR w bo b) (hb48 : b.length ≤ 140737488351232) (hs : ArgS bo b.length bc) : Calls Tryd.prog 3 #[.slice bo b.length bc] w (LawP w) := by
  have HB := Lib.hid (And.intro hb hs)
  clear hb hs
  go_enter Tryd.func3, Tryd.ntmps3
  go_wp2_with fail
  refine (small_any _).mono ?_
  rintro e w1 ⟨rfl, f1⟩
  have HF1 := Lib.hid f1
  clear f1
  go_wp2_with fail
  refine (lent_any (HB.out.1.fr0 HF1.out) bc hb48).mono ?_
  rintro e w2 ⟨g, rfl, hL, hg1, f2⟩
  have HL2 := Lib.hid hL
  have HF2 := Lib.hid (HF1.out.trans' f2)
  have hgw : w.heap.size ≤ g := Nat.le_trans HF1.out.size hg1
  clear hL f2 hg1
  have HP := Lib.hid (parse_any (RowAt.rd HL2.out.row) (b.length + 1) (by omega) (by omega) (fun e => by cases e))
  unfold ParseP at HP
  go_wp2_with fail
  refine HP.out.mono ?_
  rintro e w3 ⟨⟨fa, fn, fc⟩, rfl, h1, h2, h3, h4⟩
  simp only at h1
  subst h1
  have HL3 := Lib.hid (HL2.out.fr0 h3)
  have HF3 := Lib.hid (HF2.out.trans' h3)
  have hfa : ∀ k, (Value.slice fa (parL b).length fc).ownBlock = some k → k ≠ g := fun k hk e => by have := h4 k hk; have := HL2.out.lt; omega
  have HR3 := Lib.hid (And.intro h2 hfa)
  clear h2 h3 h4 hfa HP
  unfold SV.val
  dsimp only
  have HM3 := Lib.hid (heap_new w3 (.cells #[.string (parT b), .slice fa (parL b).length fc] 27))
  have HA := Lib.hid ((Fr.refl noBlock w3).alloc (.cells #[.string (parT b), .slice fa (parL b).length fc] 27))
  have HK := Lib.hid (kept_any (HL3.out.fr0 HA.out) (HB.out.1.fr0 (HF3.out.trans' HA.out)) bc hb48)
  go_wp2_with fail
  refine HK.out.mono ?_
  rintro e w4 ⟨rfl, rfl⟩
  go_upto_region 5 with fail
  refine wp_at (φ := fun W => Fr noBlock w3 W ∧ W.heap[w3.heap.size]? = some (.cells #[.string (parT b), .slice fa (parL b).length fc] 27 (0, 0))) ⟨HA.out, HM3.out⟩ ?_
  rintro w4 ⟨f4, hm4⟩
  have hgp : g < w3.heap.size := HL3.out.lt
  have HM4 := Lib.hid hm4
  have HR4 := Lib.hid (And.intro (HR3.out.1.fr0 f4) HR3.out.2)
  have HL4 := Lib.hid (HL3.out.fr0 f4)
  have HF4 := Lib.hid (HF3.out.trans' f4)
  have hg4 : g < w4.heap.size := HL4.out.lt
  clear hm4 f4 HM3 HA HK HR3 HL3 HF3 HL2 HF2
  generalize w3.heap.size = p at *
  have HO := Lib.hid (owned_one (s := ⟨some ⟨g, 0, none⟩, b.length, b.length + 1⟩) (heap_new w4 (.cells #[.slice (some ⟨g, 0, none⟩) b.length (b.length + 1)] 22)) rfl (HL4.out.row.fr0 ((Fr.refl noBlock w4).alloc (.cells #[.slice (some ⟨g, 0, none⟩) b.length (b.length + 1)] 22))) (by unfold SV.val; simp [Value.ownBlock]; omega) 1)
  unfold OwnedP at HO
  go_wp2_with fail
  refine HO.out.mono ?_
  rintro e w5 ⟨rfl, f5⟩
  have hf5 : Fr (fun k => k = g) w4 w5 := (((Fr.refl (fun k => k = g) w4).alloc (.cells #[.slice (some ⟨g, 0, none⟩) b.length (b.length + 1)] 22)).trans f5 (fun k hk => by
    obtain ⟨s, hs, hk⟩ := hk
    simp at hs
    subst hs
    unfold SV.val at hk
    simp [Value.ownBlock] at hk
    exact .inl hk.symm))
  have HM5 := Lib.hid (hf5.obj HM4.out (by intro e; omega))
  have HR5 := Lib.hid (HR4.out.1.fr hf5 (fun k hk e => HR4.out.2 k hk e))
  have HF5 := Lib.hid (HF4.out.trans hf5 (fun k hk => by subst hk; exact .inr hgw))
  clear f5 hf5 HM4 HR4 HF4 HL4 HO
  have HRP := Lib.hid (rparse_any (HB.out.1.fr0 HF5.out) bc HB.out.2.le HB.out.2.max hb48)
  unfold ParseP at HRP
  go_wp2_with fail
  refine HRP.out.mono ?_
  rintro e w6 ⟨⟨ra, rn, rc⟩, rfl, h1, h2, h3, h4⟩
  simp only at h1
  subst h1
  have HM6 := Lib.hid (h3.obj HM5.out (fun x => x))
  have HR6 := Lib.hid (HR5.out.fr0 h3)
  have HQ6 := Lib.hid (show RowAt 41 FldR w6 (.slice ra (parL b).length rc) (parL b) from h2)
  have HF6 := Lib.hid (HF5.out.trans' h3)
  unfold SV.val
  dsimp only
  clear h2 h3 h4 HRP HM5 HR5 HF5
  have HA6 := Lib.hid ((Fr.refl noBlock w6).alloc (.cells #[.string (parT b), .slice ra (parL b).length rc] 27))
  have hm6 := HA6.out.obj HM6.out (fun x => x)
  have x0 := cell_of hm6 0
  have x1 := cell_of hm6 1
  simp at x0 x1
  have HS := Lib.hid (same_yes (parT b) (RowAt.rd (HR6.out.fr0 HA6.out)) (RowAt.rd (HQ6.out.fr0 HA6.out)) fc rc parL_len)
  unfold SameP at HS
  clear hm6
  go_wp2_with fail
  refine HS.out.mono ?_
  rintro e w7 ⟨rfl, f7⟩
  have HF7 := Lib.hid ((HF6.out.trans' HA6.out).trans' f7)
  clear f7 x0 x1
  go_wp2_with fail
  go_ret
  exact LawP.mk' HF7.out
end Go.Proofs.YthckgkghmlkcnaaDoor
