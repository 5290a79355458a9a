/-
  A CIPHER of a key and a tweak, as a thing. THE WALK of mask: what a round adds.
-/
import Derived.Deep.RegionHeld3
import Derived.Test.YtajhgejhdalobaaGreatDoorFxC
import Derived.Test.YtajhgejhdalobaaGreatDoorDkShelf
namespace Go.Proofs.YtajhgejhdalobaaGreatDoor
open Go.RowKit

theorem PartsRd.cons {w : World} {s : SV} {p : Bs} {ss : List SV} {ps : List Bs} (hn : s.n = p.length) (hr : RowRd ByteR w s.ao p) (h : PartsRd w ss ps) : PartsRd w (s :: ss) (p :: ps) := by
  refine ⟨by rw [List.length_cons, List.length_cons, h.1], fun i s' p' a b => ?_⟩
  cases i with
  | zero =>
    simp only [List.getElem?_cons_zero, Option.some.injEq] at a b
    subst a b
    exact ⟨hn, hr⟩
  | succ i =>
    rw [List.getElem?_cons_succ] at a b
    exact h.2 i s' p' a b
theorem PartsRd.nil (w : World) : PartsRd w [] [] := ⟨rfl, fun i s p a _ => by simp at a⟩
theorem parts_at {w : World} {b o : Nat} {ss : List SV} {ps : List Bs} (hr : RowRd SliceR w (some ⟨b, o, none⟩) ss) (hp : PartsRd w ss ps) : Lib.PartsAt w ⟨b, o, none⟩ (ss.map SV.val) ps := by
  refine ⟨by rw [List.length_map, hp.1], fun i v h => ?_, fun i v l h1 h2 => ?_⟩
  · rw [List.getElem?_map] at h
    obtain ⟨s, hs, rfl⟩ := Option.map_eq_some_iff.1 h
    have hi := (List.getElem?_eq_some_iff.1 hs).1
    obtain ⟨b', o', e, _, h3⟩ := hr.at' i hi
    cases e
    have := h3 0 s.val (by rw [(List.getElem?_eq_some_iff.1 hs).2]; rfl)
    rw [Addr.add_lit]
    have e1 : SliceR.k = 1 := rfl
    rw [e1, Nat.mul_one, Nat.add_zero] at this
    exact this
  · rw [List.getElem?_map] at h1
    obtain ⟨s, hs, rfl⟩ := Option.map_eq_some_iff.1 h1
    obtain ⟨hn, hrd⟩ := hp.2 i s l hs h2
    refine ⟨s.ao, s.cap, by unfold SV.val; rw [hn], fun e => ?_, fun a e j x hx => ?_⟩
    · cases l with
      | nil => rfl
      | cons y l => obtain ⟨b', o', e', _⟩ := hrd.at' 0 (by simp); rw [e] at e'; cases e'
    · have hj := (List.getElem?_eq_some_iff.1 hx).1
      obtain ⟨b', o', e', _⟩ := hrd.at' j hj
      rw [e] at e'
      cases e'
      rw [e] at hrd
      rw [Addr.add_lit, byte_rd hrd hj, (List.getElem?_eq_some_iff.1 hx).2]
theorem fresh_rd {B : Nat} {w : World} {v : Value} {l : List UInt8} (h : Lib.FreshBytes B w v l) : ∃ (g cap : Nat), v = .slice (some ⟨g, 0, none⟩) l.length cap ∧ B ≤ g ∧ l.length ≤ cap ∧ RowRd ByteR w (some ⟨g, 0, none⟩) l := by
  obtain ⟨g, cap, zs, hv, hB, hc, hm, hz, hx, hb, hcell, _⟩ := h
  refine ⟨g, cap, hv, hB, hc, ⟨by omega, fun i hi => ⟨g, 0, rfl, World.block_lt_of_cell? _ _ (hcell i (by omega)), fun j u hu => ?_⟩⟩⟩
  have hj : j = 0 := by
    have := (List.getElem?_eq_some_iff.1 hu).1
    rw [ByteR.len] at this
    have e : ByteR.k = 1 := byteK
    omega
  subst hj
  rw [byteK, Nat.mul_one, Nat.zero_add, Nat.add_zero, hcell i (by omega)]
  have hu2 : u = byteV l[i] := (Option.some.inj hu).symm
  rw [hu2]
  have hiz : i < zs.length := by omega
  have e : l[i]? = some (UInt8.ofNat (zs.getD i 0).toNat) := by
    rw [← hb]
    unfold Go.Lib.bytesOf
    rw [List.getElem?_map, List.getElem?_take, if_pos (by omega), List.getD_eq_getElem?_getD, List.getElem?_eq_getElem hiz]
    rfl
  rw [List.getElem?_eq_getElem hi] at e
  rw [Option.some.inj e]
  obtain ⟨h0, h1⟩ := hx zs[i] (List.getElem_mem hiz)
  have hd : zs.getD i 0 = zs[i] := by rw [List.getD_eq_getElem?_getD, List.getElem?_eq_getElem hiz]; rfl
  rw [hd]
  unfold byteV
  rw [UInt8.toNat_ofNat']
  congr 2
  omega
end Go.Proofs.YtajhgejhdalobaaGreatDoor
namespace Go.Proofs.YtajhgejhdalobaaGreatDoor
open Go.RowKit

theorem join_flat (ls : List Bs) : Lib.join ls [] = ls.flatten := by
  unfold Lib.join
  rw [List.intercalate]
  induction ls with
  | nil => rfl
  | cons a l ih =>
    cases l with
    | nil => simp
    | cons b l =>
      show (a :: [] :: (b :: l).intersperse []).flatten = _
      rw [List.flatten_cons, List.flatten_cons, ih]
      simp
theorem lens_flat (ls : List Bs) : Lib.lens ls = ls.flatten.length := by
  unfold Lib.lens
  rw [List.length_flatten]
def JoinP (x : Bs) (w : World) (e : Ending) (w' : World) : Prop := ∃ g cap, e = .returned (.slice (some ⟨g, 0, none⟩) x.length cap) ∧ RowRd ByteR w' (some ⟨g, 0, none⟩) x ∧ w.heap.size ≤ g ∧ x.length ≤ cap ∧ Fr noBlock w w'
theorem join_any {w : World} {b n : Nat} {ss : List SV} {ps : List Bs} (hr : RowRd SliceR w (some ⟨b, 0, none⟩) ss) (hp : PartsRd w ss ps) (hn : ps.length = n) (h2 : 2 ≤ n) (h9 : n ≤ 1000) (hl : ps.flatten.length ≤ 140737488355328) :
    Calls Tryz.prog 290 #[.slice (some ⟨b, 0, none⟩) n n, .slice none 0 0] w (JoinP ps.flatten w) := by
  refine (Tryz.bytes_Join_many b 0 n n _ ps (.slice none 0 0) [] w hn h2 (parts_at hr hp) (Nat.le_refl _) ⟨none, 0, rfl, fun _ => rfl, fun a e => by cases e⟩ (by omega) (by
    rw [lens_flat]
    show ps.flatten.length + 0 * (n - 1) ≤ _
    rw [Nat.zero_mul]
    exact hl)).mono ?_
  rintro e w' ⟨v, rfl, hf, hb⟩
  obtain ⟨g, cap, rfl, h1, h2, h3⟩ := fresh_rd hf
  rw [join_flat] at h2 h3 ⊢
  exact ⟨g, cap, rfl, h3, h1, h2, Fr.of_below hb⟩
theorem wrap_small {x : Nat} (h : x ≤ 1000) : IntKind.i64.wrap (x : Int) = (x : Int) ∧ wrap64 (x : Int) = (x : Int) ∧ IntKind.u8.wrap (x : Int) = ((UInt8.ofNat x).toNat : Int) ∧ (x : Int) % 256 = ((UInt8.ofNat x).toNat : Int) := by
  refine ⟨by rw [IntKind.wrap_i64]; omega, by unfold wrap64; omega, ?_, ?_⟩
  · rw [UInt8.toNat_ofNat', IntKind.wrap_u8]
    omega
  · rw [UInt8.toNat_ofNat']
    omega
theorem half_three {n m : Nat} (h6 : 6 ≤ n) (h9 : n ≤ 9) (hm : n - n / 2 = m) : m = 3 ∨ m = 4 ∨ m = 5 := by
  have h : n = 6 ∨ n = 7 ∨ n = 8 ∨ n = 9 := by omega
  rcases h with rfl | rfl | rfl | rfl <;> omega
def CipT (cb : Nat) (key tl : Bs) : Thing := fun W F => ∃ (ka tg tc : Nat) (G : Nat → Prop), W.heap[cb]? = some (.cells #[.pointer (some ⟨ka, 0, none⟩), .slice (some ⟨tg, 0, none⟩) tl.length tc] 358 (0, 0)) ∧ AKeyT ka key W G ∧ RowRd ByteR W (some ⟨tg, 0, none⟩) tl ∧ tg < W.heap.size ∧ tg ≠ cb ∧ ¬ G tg ∧ ¬ G cb ∧ ∀ k, F k ↔ (k = cb ∨ k = tg ∨ G k)
theorem CipT.ok {cb : Nat} {key tl : Bs} (hl : key.length = 32) : (CipT cb key tl).Ok := by
  refine ⟨?_, ?_⟩
  · rintro w F ⟨ka, tg, tc, G, h1, h2, h3, h4, h5, h6, h7, h8⟩ k hk
    rcases (h8 k).1 hk with rfl | rfl | hk
    · exact heap_lt h1
    · exact h4
    · exact (AKeyT.ok hl).lt h2 k hk
  · rintro w w' F S ⟨ka, tg, tc, G, h1, h2, h3, h4, h5, h6, h7, h8⟩ hf hs
    exact ⟨ka, tg, tc, G, hf.obj h1 (hs _ ((h8 _).2 (.inl rfl))), (AKeyT.ok hl).fr h2 hf (fun k hk => hs _ ((h8 _).2 (.inr (.inr hk)))), h3.fr hf (fun b off e => by cases e; exact hs _ ((h8 _).2 (.inr (.inl rfl)))), Nat.lt_of_lt_of_le h4 hf.size, h5, h6, h7, h8⟩
set_option maxRecDepth 100000 in
set_option maxHeartbeats 3200000 in
theorem mask_any {w : World} {F : Nat → Prop} {cb : Nat} {key tl : Bs} (h : CipT cb key tl w F) (hl : key.length = 32) (ht : tl.length = 10) {n i b : Nat} (h6 : 6 ≤ n) (h9 : n ≤ 9) (hi : i < 10) (hb : b < 9223372036854775808) :
    Calls Tryz.prog 221 #[.pointer (some ⟨cb, 0, none⟩), .int .i64 (n : Int), .int .i64 (i : Int), .int .i64 (b : Int)] w fun e w' => e = .returned (.int .i64 (maskK key tl n i b : Int)) ∧ ∃ F', CipT cb key tl w' F' ∧ Step F F' w w' := by
  obtain ⟨ka, tg, tc, G, c1, c2, c3, c4, c5, c6, c7, c8⟩ := h
  rw [ht] at c1
  have HC := Lib.hid (And.intro c1 (And.intro c2 (And.intro c3 c4)))
  have HC2 := Lib.hid (And.intro c5 (And.intro c6 (And.intro c7 c8)))
  have x0 := cell_of c1 0
  have x1 := cell_of c1 1
  have xf := free_of c1
  have hcb := heap_lt c1
  have HK := Lib.hid (show ∀ W, Fr noBlock w W → W.cell? ⟨cb, 0, none⟩ = some (.pointer (some ⟨ka, 0, none⟩)) ∧ W.cell? ⟨cb, 1, none⟩ = some (.slice (some ⟨tg, 0, none⟩) 10 tc) from fun W hf => by
    have h := hf.obj c1 (fun z => z)
    exact ⟨cell_of h 0, cell_of h 1⟩)
  clear c1 c2 c3 c5 c6 c7 c8 xf
  obtain ⟨h, hh⟩ : ∃ h, n / 2 = h := ⟨_, rfl⟩
  obtain ⟨m, hm⟩ : ∃ m, n - n / 2 = m := ⟨_, rfl⟩
  have q2 : (n : Int) / 2 = (h : Int) := by omega
  have q3 : (n : Int) - (h : Int) = (m : Int) := by omega
  have b1 : h ≤ 1000 := by omega
  have b2 : m ≤ 1000 := by omega
  obtain ⟨q5, q8, q10, q11⟩ := wrap_small b1
  obtain ⟨-, q7, -, -⟩ := wrap_small b2
  obtain ⟨c, hc⟩ : ∃ c, UInt8.ofNat h = c := ⟨_, rfl⟩
  rw [hc] at q10 q11
  have HW := Lib.hid (fun W => width_ok (half_three h6 h9 hm) W)
  have HN1 := Lib.hid (show ∀ W, Calls Tryz.prog 291 #[.int .i64 (n : Int), .int .i64 4] W (ShaP (beN n 4) W) from fun W => fnum_any n 4 (Nat.lt_of_le_of_lt h9 (by decide)) (by decide) (by decide) W)
  have HN2 := Lib.hid (show ∀ W, Calls Tryz.prog 291 #[.int .i64 10, .int .i64 4] W (ShaP (beN 10 4) W) from fun W => fnum_any 10 4 (by decide) (by decide) (by decide) W)
  unfold ShaP at HN1 HN2
  have HH := Lib.hid (And.intro hc (And.intro hh (And.intro hm (And.intro b1 (And.intro b2 (And.intro h6 h9))))))
  clear hc hh hm b1 b2 h6 h9
  go_enter Tryz.func221, Tryz.ntmps221
  go_wp2_with fail
  refine (HW.out _).mono ?_
  rintro e w1 ⟨rfl, f1⟩
  obtain ⟨x0, x1⟩ := HK.out _ f1
  have H1 := Lib.hid f1
  clear f1 HW
  have HJ := Lib.hid (show ∀ (W : World) (xa ya : Option Addr) (xc yc gA gB : Nat), W.heap.size = gB → Fr noBlock w1 W → W.heap[gA]? = some (.cells #[.int .u8 1, .int .u8 2, .int .u8 1, .int .u8 0, .int .u8 0, .int .u8 10, .int .u8 10, .int .u8 (c.toNat : Int)] 5 (0, 0)) → RowRd ByteR W xa (beN n 4) → RowRd ByteR W ya (beN 10 4) →
      Calls Tryz.prog 290 #[.slice (some ⟨gB, 0, none⟩) 4 4, .slice none 0 0] (W.alloc (.cells #[.slice (some ⟨gA, 0, none⟩) 8 8, .slice xa 4 xc, .slice ya 4 yc, .slice (some ⟨tg, 0, none⟩) 10 tc] 34)) (fun e w' => ∃ g cap, e = .returned (.slice (some ⟨g, 0, none⟩) 26 cap) ∧ RowRd ByteR w' (some ⟨g, 0, none⟩) (headB n tl) ∧ Fr noBlock (W.alloc (.cells #[.slice (some ⟨gA, 0, none⟩) 8 8, .slice xa 4 xc, .slice ya 4 yc, .slice (some ⟨tg, 0, none⟩) 10 tc] 34)) w') from fun W xa ya xc yc gA gB hB hW hA hx hy => by
    subst hB
    obtain ⟨o, ho⟩ : ∃ o, (Obj.cells #[.slice (some ⟨gA, 0, none⟩) 8 8, .slice xa 4 xc, .slice ya 4 yc, .slice (some ⟨tg, 0, none⟩) 10 tc] 34 (0, 0)) = o := ⟨_, rfl⟩
    have ha := (Fr.refl noBlock W).alloc o
    have hr : RowRd SliceR (W.alloc o) (some ⟨W.heap.size, 0, none⟩) [(⟨some ⟨gA, 0, none⟩, 8, 8⟩ : SV), ⟨xa, 4, xc⟩, ⟨ya, 4, yc⟩, ⟨some ⟨tg, 0, none⟩, 10, tc⟩] := RowRd.of_flat (by rw [← ho]; exact heap_new W _) rfl (by unfold maxLen; simp)
    have hA' : RowRd ByteR W (some ⟨gA, 0, none⟩) [1, 2, 1, 0, 0, 10, 10, c] := RowRd.of_flat hA rfl (by unfold maxLen; simp)
    have hp : PartsRd (W.alloc o) [(⟨some ⟨gA, 0, none⟩, 8, 8⟩ : SV), ⟨xa, 4, xc⟩, ⟨ya, 4, yc⟩, ⟨some ⟨tg, 0, none⟩, 10, tc⟩] [[1, 2, 1, 0, 0, 10, 10, c], beN n 4, beN 10 4, tl] :=
      PartsRd.cons rfl (hA'.fr0 ha) (PartsRd.cons (beN_len _ _).symm (hx.fr0 ha) (PartsRd.cons (beN_len _ _).symm (hy.fr0 ha) (PartsRd.cons ht.symm ((HC.out.2.2.1.fr0 (H1.out.trans' hW)).fr0 ha) (PartsRd.nil _))))
    have e : ([[1, 2, 1, 0, 0, 10, 10, c], beN n 4, beN 10 4, tl] : List Bs).flatten = headB n tl := by
      unfold headB
      rw [HH.out.2.1, HH.out.1, ht]
      simp
    have hj := join_any (n := 4) hr hp rfl (by decide) (by decide) (by rw [e]; unfold headB; rw [List.length_append, List.length_append, List.length_append, beN_len, beN_len, ht]; show (8 + 4 + 4 + 10 : Nat) ≤ _; decide)
    rw [e] at hj
    rw [ho]
    refine hj.mono ?_
    rintro e w' ⟨g, cap, rfl, j1, _, _, j4⟩
    rw [show (headB n tl).length = 26 by unfold headB; rw [List.length_append, List.length_append, List.length_append, beN_len, beN_len, ht]; rfl]
    exact ⟨g, cap, rfl, j1, j4⟩)
  have HBI := Lib.hid (And.intro hi hb)
  clear hcb q3 q7 q8 hi hb
  go_upto_region 2 with fail
  go_cut [10] from 21 to 38 (fun s10 wx => ∃ hg hc : Nat, s10 = .slice (some ⟨hg, 0, none⟩) 26 hc ∧ Hid (RowRd ByteR wx (some ⟨hg, 0, none⟩) (headB n tl) ∧ Fr noBlock w1 wx))
  case first =>
   go_region_held3 (fun W => W.cell? ⟨cb, 0, none⟩ = some (.pointer (some ⟨ka, 0, none⟩)) ∧ W.cell? ⟨cb, 1, none⟩ = some (.slice (some ⟨tg, 0, none⟩) 10 tc))
    (first | exact HK.out _ (H1.out.trans' (by repeat (first | (with_reducible exact Fr.refl _ _) | (with_reducible refine Fr.drew ?_) | (with_reducible refine Fr.alloc ?_ _) | (with_reducible refine Fr.trans' ?_ f5) | (with_reducible refine Fr.trans' ?_ f6) | (with_reducible refine Fr.trans' ?_ f7)))) | fail "nokeep")
    (first
      | (go_at_call 291; (with_reducible refine (HN1.out _).mono ?_); rintro e w5 ⟨⟨xa, xn, xc⟩, rfl, k1, k2, f5, k4⟩; unfold SV.val at k2 k4 ⊢; dsimp only at k1 k2 k4 ⊢; rw [beN_len] at k1; subst k1; clear k4)
      | (go_at_call 291; (with_reducible refine (HN2.out _).mono ?_); rintro e w6 ⟨⟨ya, yn, yc⟩, rfl, l1, l2, f6, l4⟩; unfold SV.val at l2 l4 ⊢; dsimp only at l1 l2 l4 ⊢; rw [beN_len] at l1; subst l1; clear l4)
      | (go_at_call 290; (with_reducible refine (HJ.out _ _ _ _ _ _ _ ?_ ?_ ?_ ?_ ?_).mono ?_); (first | rfl | simp); (exact (by repeat (first | (with_reducible exact Fr.refl _ _) | (with_reducible refine Fr.drew ?_) | (with_reducible refine Fr.alloc ?_ _) | (with_reducible refine Fr.trans' ?_ f5) | (with_reducible refine Fr.trans' ?_ f6)))); (exact Fr.obj (S := noBlock) (by repeat (first | (with_reducible exact Fr.refl _ _) | (with_reducible refine Fr.drew ?_) | (with_reducible refine Fr.alloc ?_ _) | (with_reducible refine Fr.trans' ?_ f5) | (with_reducible refine Fr.trans' ?_ f6))) (heap_new _ _) (fun z => z)); (exact (RowAt.rd k2).fr0 (by repeat (first | (with_reducible exact Fr.refl _ _) | (with_reducible refine Fr.drew ?_) | (with_reducible refine Fr.alloc ?_ _) | (with_reducible refine Fr.trans' ?_ f5) | (with_reducible refine Fr.trans' ?_ f6)))); (exact (RowAt.rd l2).fr0 (by repeat (first | (with_reducible exact Fr.refl _ _) | (with_reducible refine Fr.drew ?_) | (with_reducible refine Fr.alloc ?_ _) | (with_reducible refine Fr.trans' ?_ f5) | (with_reducible refine Fr.trans' ?_ f6)))); rintro e w7 ⟨hg, hc, rfl, m1, f7⟩)
      | fail "noarm")
   all_goals
     have HX := Lib.hid (And.intro m1 (show Fr noBlock w1 w7 from (by repeat (first | (with_reducible exact Fr.refl _ _) | (with_reducible refine Fr.drew ?_) | (with_reducible refine Fr.alloc ?_ _) | (with_reducible refine Fr.trans' ?_ f5) | (with_reducible refine Fr.trans' ?_ f6) | (with_reducible refine Fr.trans' ?_ f7)))))
     clear m1
     go_wp2_with fail
     go_meet
     exact ⟨hg, hc, rfl, HX⟩
  obtain ⟨hg, hc, rfl, HD⟩ := hcut
  generalize wc = w2 at *
  clear HN1 HN2 HJ x0 x1 q5 q10 q11 q2
  have hwd : widN m = 2 ∨ widN m = 3 := by unfold widN; split <;> simp
  have HN3 := Lib.hid (show ∀ W, Calls Tryz.prog 291 #[.int .i64 (b : Int), .int .i64 (widN m : Int)] W (ShaP (beN b (widN m)) W) from fun W => fnum_any b (widN m) HBI.out.2 (by rcases hwd with h | h <;> rw [h] <;> decide) (by rcases hwd with h | h <;> rw [h] <;> decide) W)
  unfold ShaP at HN3
  obtain ⟨-, -, z1, z2⟩ := wrap_small (x := i) (by have := HBI.out.1; omega)
  obtain ⟨ci, hci⟩ : ∃ c, UInt8.ofNat i = c := ⟨_, rfl⟩
  rw [hci] at z1 z2
  have HW2 := Lib.hid (And.intro hwd hci)
  obtain ⟨wd, hwe⟩ : ∃ x, widN m = x := ⟨_, rfl⟩
  rw [hwe] at HN3 HW2
  rw [hwe]
  have HW3 := Lib.hid hwe
  clear hwd hci hwe
  go_upto_region 3 with fail
  go_wp2_with (first | (refine (HN3.out _).mono ?_; rintro e w3 ⟨⟨xa, xn, xc⟩, rfl, k1, k2, f5, -⟩; unfold SV.val at k2 ⊢; dsimp only at k1 k2 ⊢; rw [beN_len] at k1; subst k1) | (at_builtin; apply stop_here))
  refine ⟨?_, trivial⟩
  have ha := (Fr.refl noBlock w2).alloc (.cells #[.int .u8 (ci.toNat : Int)] 5)
  have hA := f5.obj (heap_new w2 (.cells #[.int .u8 (ci.toNat : Int)] 5)) (fun z => z)
  have ho : w3.ownsRow 0 5 ByteR.k (.slice (some ⟨w2.heap.size, 0, none⟩) 1 1) 1 (ByteR.flat [ci]) := RowAt.of_block (xs := [ci]) hA (Nat.le_refl _) (by unfold maxLen; simp) rfl rfl
  have hwd9 : xn ≤ 3 := by rcases HW2.out.1 with h | h <;> omega
  refine wpList_app rfl _ _ rfl el_bytes (v := .slice (some ⟨w2.heap.size, 0, none⟩) 1 1) [ci] (beN b xn) (ci :: beN b xn) rfl 0 1 (1 + xn) (by rw [List.length_cons, beN_len]; omega) rfl ho rfl (RowAt.rd k2) (beN_len _ _).symm (by unfold maxLen; omega) (by omega) (Nat.zero_le _) ?_
  intro ao2 cap2 w4 o4 g4 a4
  go_frame
  have hf24 : Fr noBlock w2 w4 := (ha.trans' f5).grown g4 (fun k hk => by cases hk; exact .inr (Nat.le_refl _))
  have H4 := Lib.hid (show RowRd ByteR w4 ao2 (tailB n i b) ∧ RowRd ByteR w4 (some ⟨hg, 0, none⟩) (headB n tl) ∧ Fr noBlock w1 w4 from by
    refine ⟨?_, HD.out.1.fr0 hf24, HD.out.2.trans' hf24⟩
    have hr : RowAt 5 ByteR w4 (.slice ao2 (1 + xn) cap2) (ci :: beN b xn) := RowAt.of_own o4 (by rw [List.length_cons, beN_len]; omega)
    unfold tailB
    rw [HW2.out.2, HH.out.2.2.1, HW3.out]
    exact hr.rd)
  clear o4 g4 a4 hf24 ho ha hA k2 f5 HN3 HD z1 z2
  obtain ⟨x0, x1⟩ := HK.out _ (H1.out.trans' H4.out.2.2)
  go_upto_region 4 with fail
  obtain ⟨fz, hfz⟩ : ∃ fz, (48 - 10 - (1 + xn)) % 16 = fz := ⟨_, rfl⟩
  have q0 : (0 : Int) ≤ 38 - (1 + (xn : Int)) := by omega
  have q1 : wrap64 (38 - (1 + (xn : Int))) = 38 - (1 + (xn : Int)) := by unfold wrap64; omega
  have q2 : (38 - (1 + (xn : Int))) % 16 = (fz : Int) := by omega
  have q3 : Int.tmod (38 - (1 + (xn : Int))) 16 = (fz : Int) := by rw [Int.tmod_eq_emod_of_nonneg q0]; exact q2
  have hfz16 : fz ≤ 16 := by omega
  have HFz := Lib.hid hfz
  clear hfz
  obtain ⟨Z, hZ, hmk⟩ := mk_bytes fz fz (Nat.le_refl _) (by omega)
  have HZ := Lib.hid hZ
  clear hZ
  go_upto_region 5 with fail
  refine wp_at (fun W => OwnB w4 W (some ⟨w4.heap.size, 0, none⟩) fz fz (List.replicate fz 0)) (OwnB.room w4 HZ.out (Nat.le_refl _) (by unfold maxLen; omega)) ?_
  clear hmk HZ x0 x1 q0 q1 q2 q3
  rintro w5 ho5
  obtain ⟨gf, hgf⟩ : ∃ g, w4.heap.size = g := ⟨_, rfl⟩
  rw [hgf] at ho5 ⊢
  have H5 := Lib.hid (show RowRd ByteR w5 ao2 (tailB n i b) ∧ RowRd ByteR w5 (some ⟨hg, 0, none⟩) (headB n tl) ∧ RowRd ByteR w5 (some ⟨gf, 0, none⟩) (fillB n tl) ∧ Fr noBlock w1 w5 from by
    refine ⟨H4.out.1.fr0 ho5.fr, H4.out.2.1.fr0 ho5.fr, ?_, H4.out.2.2.trans' ho5.fr⟩
    have : fillB n tl = List.replicate fz 0 := by
      unfold fillB
      rw [HH.out.2.2.1, HW3.out, ht, ← HFz.out]
    rw [this]
    exact ho5.rd)
  clear ho5 hgf H4
  have hlen : (headB n tl ++ fillB n tl ++ tailB n i b).length = 32 := data_len HH.out.2.2.2.2.2.1 HH.out.2.2.2.2.2.2 ht i b
  have HJ := Lib.hid (show ∀ (W : World) (gB : Nat), Fr noBlock w5 W → W.heap[gB]? = some (.cells #[.slice (some ⟨hg, 0, none⟩) 26 hc, .slice (some ⟨gf, 0, none⟩) fz fz, .slice ao2 (1 + xn) cap2] 34 (0, 0)) → Calls Tryz.prog 290 #[.slice (some ⟨gB, 0, none⟩) 3 3, .slice none 0 0] W (fun e w' => ∃ g cap, e = .returned (.slice (some ⟨g, 0, none⟩) 32 cap) ∧ 32 ≤ cap ∧ RowRd ByteR w' (some ⟨g, 0, none⟩) (headB n tl ++ fillB n tl ++ tailB n i b) ∧ W.heap.size ≤ g ∧ Fr noBlock W w') from fun W gB hW hB => by
    have hr : RowRd SliceR W (some ⟨gB, 0, none⟩) [(⟨some ⟨hg, 0, none⟩, 26, hc⟩ : SV), ⟨some ⟨gf, 0, none⟩, fz, fz⟩, ⟨ao2, 1 + xn, cap2⟩] := RowRd.of_flat hB rfl (by unfold maxLen; simp)
    have e1 : (headB n tl).length = 26 := by unfold headB; rw [List.length_append, List.length_append, List.length_append, beN_len, beN_len, ht]; rfl
    have e2 : (fillB n tl).length = fz := by
      unfold fillB
      rw [HH.out.2.2.1, HW3.out, ht, List.length_replicate, ← HFz.out]
    have e3 : (tailB n i b).length = 1 + xn := by rw [tailB_len, HH.out.2.2.1, HW3.out]
    have hp : PartsRd W [(⟨some ⟨hg, 0, none⟩, 26, hc⟩ : SV), ⟨some ⟨gf, 0, none⟩, fz, fz⟩, ⟨ao2, 1 + xn, cap2⟩] [headB n tl, fillB n tl, tailB n i b] :=
      PartsRd.cons e1.symm (H5.out.2.1.fr0 hW) (PartsRd.cons e2.symm (H5.out.2.2.1.fr0 hW) (PartsRd.cons e3.symm (H5.out.1.fr0 hW) (PartsRd.nil _)))
    have e : ([headB n tl, fillB n tl, tailB n i b] : List Bs).flatten = headB n tl ++ fillB n tl ++ tailB n i b := by simp
    have hj := join_any (n := 3) hr hp rfl (by decide) (by decide) (by rw [e, hlen]; decide)
    unfold JoinP at hj
    rw [e, hlen] at hj
    refine hj.mono ?_
    rintro e w' ⟨g, cap, rfl, j1, j2, j3, j4⟩
    exact ⟨g, cap, rfl, j3, j1, j2, j4⟩)
  obtain ⟨x0, x1⟩ := HK.out _ (H1.out.trans' H5.out.2.2.2)
  obtain ⟨D, hD⟩ : ∃ D, headB n tl ++ fillB n tl ++ tailB n i b = D := ⟨_, rfl⟩
  rw [hD] at hlen HJ
  have HC5 := Lib.hid (show AKeyT ka key w5 G ∧ ∀ W, Fr noBlock w5 W → AKeyT ka key W G from ⟨(AKeyT.ok hl).fr0 HC.out.2.1 (H1.out.trans' H5.out.2.2.2), fun W hf => (AKeyT.ok hl).fr0 HC.out.2.1 ((H1.out.trans' H5.out.2.2.2).trans' hf)⟩)
  have HCh := Lib.hid (show ∀ (W : World) (g cap : Nat), Fr noBlock w5 W → RowRd ByteR W (some ⟨g, 0, none⟩) D → w5.heap.size ≤ g → 32 ≤ cap → Calls Tryz.prog 292 #[.agg #[.pointer (some ⟨ka, 0, none⟩)], .slice (some ⟨g, 0, none⟩) 32 cap] W (fun e w' => ∃ sg sc, e = .returned (.slice (some ⟨sg, 0, none⟩) 16 sc) ∧ ChS ka key G W w' sg sc (chainB key D)) from fun W g cap hW hr hg hcap => by
    have h := chain_any (HC5.out.2 W hW) hl hr (fun hk => by have := (AKeyT.ok hl).lt HC5.out.1 _ hk; omega) (m := 2) (by rw [hlen]) (by decide) cap (by rw [hlen]; exact hcap)
    rw [hlen] at h
    exact h)
  have HKc := Lib.hid (show ∀ (W W' : World) (sg sc : Nat), Fr noBlock w5 W → ChS ka key G W W' sg sc (chainB key D) → W'.cell? ⟨cb, 0, none⟩ = some (.pointer (some ⟨ka, 0, none⟩)) ∧ W'.cell? ⟨cb, 1, none⟩ = some (.slice (some ⟨tg, 0, none⟩) 10 tc) from fun W W' sg sc hW hc => by
    obtain ⟨G', -, j2, -⟩ := hc
    have h := j2.fr.obj (((H1.out.trans' H5.out.2.2.2).trans' hW).obj HC.out.1 (fun z => z)) HC2.out.2.2.1
    exact ⟨cell_of h 0, cell_of h 1⟩)
  have HHl := Lib.hid (fun W => half_any n i (by have := HH.out.2.2.2.2.2.2; omega) (by have := HBI.out.1; omega) W)
  have hf1 : 1 ≤ halfN n i ∧ halfN n i ≤ 16 := by
    have := HH.out.2.2.2.2.2
    have := HBI.out.1
    unfold halfN
    omega
  have HR := Lib.hid (show ∀ (W : World) (sg sc : Nat), RowRd ByteR W (some ⟨sg, 0, none⟩) ((chainB key D).take 8) → Calls Tryz.prog 293 #[.slice (some ⟨sg, 0, none⟩) 8 sc, .int .i64 (halfN n i : Int)] W fun e w' => e = .returned (.tuple #[.int .i64 (restB (10 ^ halfN n i) ((chainB key D).take 8) : Int), .int .i64 0]) ∧ Fr noBlock W w' from fun W sg sc hr => by
    have hl8 : ((chainB key D).take 8).length = 8 := by
      rw [List.length_take]
      have : (chainB key D).length = 16 := by
        unfold chainB
        rw [hlen]
        exact chain_len hl 2 (by rw [hlen]; decide)
      omega
    have h := rest_ok hr sc (by rw [hl8]; decide) hf1.1 hf1.2
    rw [hl8] at h
    exact h)
  have HM := Lib.hid (show maskK key tl n i b = restB (10 ^ halfN n i) ((chainB key D).take 8) by unfold maskK; rw [hD])
  obtain ⟨RS, hRS⟩ : ∃ x, restB (10 ^ halfN n i) ((chainB key D).take 8) = x := ⟨_, rfl⟩
  obtain ⟨hf, hhf⟩ : ∃ x, halfN n i = x := ⟨_, rfl⟩
  rw [hRS] at HR HM
  rw [hhf] at HR HHl
  obtain ⟨C, hCh⟩ : ∃ x, chainB key D = x := ⟨_, rfl⟩
  rw [hCh] at HR HCh HKc
  have HCl := Lib.hid (show C.length = 16 by
    rw [← hCh]
    unfold chainB
    rw [hlen]
    exact chain_len hl 2 (by rw [hlen]; decide))
  have q1 : wrap64 ((xn : Int) + 3) = (xn : Int) + 3 := by unfold wrap64; omega
  have HXn := Lib.hid (And.intro hwd9 (And.intro hfz16 (And.intro hlen hf1)))
  clear hRS hhf hCh hD hf1 hlen hwd9 hfz16
  go_region_held3 (fun W => W.cell? ⟨cb, 0, none⟩ = some (.pointer (some ⟨ka, 0, none⟩)) ∧ W.cell? ⟨cb, 1, none⟩ = some (.slice (some ⟨tg, 0, none⟩) 10 tc))
    (first | exact HKc.out _ _ _ _ (by repeat (first | (with_reducible exact Fr.refl _ _) | (with_reducible refine Fr.drew ?_) | (with_reducible refine Fr.alloc ?_ _) | (with_reducible refine Fr.trans' ?_ f7))) c7 | exact HK.out _ ((H1.out.trans' H5.out.2.2.2).trans' (by repeat (first | (with_reducible exact Fr.refl _ _) | (with_reducible refine Fr.drew ?_) | (with_reducible refine Fr.alloc ?_ _) | (with_reducible refine Fr.trans' ?_ f7)))) | fail "nokeep")
    (first
      | (go_at_call 290; (with_reducible refine (HJ.out _ _ ?_ ?_).mono ?_); (exact (by repeat (first | (with_reducible exact Fr.refl _ _) | (with_reducible refine Fr.drew ?_) | (with_reducible refine Fr.alloc ?_ _) | (with_reducible refine Fr.trans' ?_ f7)))); (exact Fr.obj (S := noBlock) (by repeat (first | (with_reducible exact Fr.refl _ _) | (with_reducible refine Fr.drew ?_) | (with_reducible refine Fr.alloc ?_ _) | (with_reducible refine Fr.trans' ?_ f7))) (heap_new _ _) (fun z => z)); rintro e w7 ⟨jg, jc, rfl, j1, j2, j3, f7⟩)
      | (go_at_call 292; (with_reducible refine (HCh.out _ _ _ ?_ ?_ ?_ ?_).mono ?_); (exact (by repeat (first | (with_reducible exact Fr.refl _ _) | (with_reducible refine Fr.drew ?_) | (with_reducible refine Fr.alloc ?_ _) | (with_reducible refine Fr.trans' ?_ f7)))); (exact j2.fr0 (by repeat (first | (with_reducible exact Fr.refl _ _) | (with_reducible refine Fr.drew ?_) | (with_reducible refine Fr.alloc ?_ _) | (with_reducible refine Fr.trans' ?_ f7)))); (exact Nat.le_trans (Fr.size (S := noBlock) (show Fr noBlock w5 _ from (by repeat (first | (with_reducible exact Fr.refl _ _) | (with_reducible refine Fr.drew ?_) | (with_reducible refine Fr.alloc ?_ _) | (with_reducible refine Fr.trans' ?_ f7))))) j3); (exact j1); rintro e w8 ⟨sg, sc, rfl, c7⟩)
      | fail "noarm")
  obtain ⟨G', a1, a2, a3, a4, a5, a6, a7⟩ := c7
  have H8 := Lib.hid (show RowAt 5 ByteR w8 (.slice (some ⟨sg, 0, none⟩) 16 sc) C ∧ ∃ F', CipT cb key tl w8 F' ∧ Step F F' w w8 from by
    have hs : Step G G' w w8 := (Step.same ((H1.out.trans' H5.out.2.2.2).trans' (by repeat (first | (with_reducible exact Fr.refl _ _) | (with_reducible refine Fr.drew ?_) | (with_reducible refine Fr.alloc ?_ _) | (with_reducible refine Fr.trans' ?_ f7))))).trans a2
    obtain ⟨d5, d6, d7, d8⟩ := HC2.out
    have hcw := heap_lt HC.out.1
    refine ⟨a3, fun k => k = cb ∨ k = tg ∨ G' k, ⟨ka, tg, tc, G', by rw [ht]; exact hs.fr.obj HC.out.1 d7, a1, HC.out.2.2.1.fr hs.fr (fun b off e => by cases e; exact d6), Nat.lt_of_lt_of_le HC.out.2.2.2 hs.fr.size, d5, fun hk => ?_, fun hk => ?_, fun _ => Iff.rfl⟩, hs.fr.mono (fun k hk => (d8 k).2 (.inr (.inr hk))), fun k hk => ?_⟩
    · rcases hs.foot _ hk with h | h
      · exact d6 h
      · have := HC.out.2.2.2; omega
    · rcases hs.foot _ hk with h | h
      · exact d7 h
      · omega
    · rcases hk with h | h | h
      · exact .inl ((d8 k).2 (.inl h))
      · exact .inl ((d8 k).2 (.inr (.inl h)))
      · exact (hs.foot k h).imp (fun h => (d8 k).2 (.inr (.inr h))) id)
  clear a1 a2 a3 a4 a5 a6 a7 j1 j2 j3 f7 HJ HCh HC5 HKc x0 x1
  have hx := HW2.out.1
  have hsc := row_room H8.out.1
  have q6 : (8 : Int) ≤ (sc : Int) := by omega
  have q6n : 8 ≤ sc := by omega
  have q6z : ¬ sc = 0 := by omega
  clear HXn q1 hsc
  have b5 : bits .andNot .i64 (IntKind.i64.wrap 5) 3 = 4 := by decide +kernel
  have b6 : bits .andNot .i64 (IntKind.i64.wrap 6) 3 = 4 := by decide +kernel
  have wn8 : IntKind.i64.wrap (4 + 4) = 8 := by decide +kernel
  have wn9 : IntKind.i64.wrap 8 = 8 := by decide +kernel
  rcases hx with rfl | rfl
  all_goals
    go_upto_region 6 with fail
    go_region_held3 (fun _ => True) (trivial)
      (first
        | (go_at_call 222; (with_reducible refine (HHl.out _).mono ?_); rintro e w9 ⟨rfl, rfl⟩)
        | (go_at_call 293; (with_reducible refine (HR.out _ _ _ ?_).mono ?_); (exact ((RowAt.rd H8.out.1).takeN 8).fr0 (by repeat (first | (with_reducible exact Fr.refl _ _) | (with_reducible refine Fr.drew ?_) | (with_reducible refine Fr.alloc ?_ _)))); rintro e w10 ⟨rfl, f10⟩)
        | fail "noarm")
    all_goals
      have H10 := Lib.hid ((show Fr noBlock w8 _ from (by repeat (first | (with_reducible exact Fr.refl _ _) | (with_reducible refine Fr.drew ?_) | (with_reducible refine Fr.alloc ?_ _)))).trans' f10)
      clear f10
      go_wp2_with fail
      go_ret
      obtain ⟨-, F', k1, k2⟩ := H8.out
      exact ⟨by rw [HM.out]; rfl, F', (CipT.ok hl).fr0 k1 H10.out, k2.trans (Step.same H10.out)⟩
end Go.Proofs.YtajhgejhdalobaaGreatDoor
