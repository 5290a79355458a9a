/-
  THE WALK of the reader's maps.
-/
import Derived.Lib.SliceRun
import Derived.Test.YthckgkghmlkcnaaDoorIsD
import Derived.Test.YthckgkghmlkcnaaDoorIsA
import Derived.Test.YthckgkghmlkcnaaDoorIntR
import Derived.Test.YthckgkghmlkcnaaDoorIsShelf
namespace Go.Proofs.YthckgkghmlkcnaaDoor
open Go.RowKit

set_option maxHeartbeats 800000 in
theorem sclone_any {w : World} {ao : Option Addr} {bs : Bs} (h : RowRd ByteR w ao bs) (cap : Nat) (hb : bs.length ≤ 140737488355328) (hs : ∃ a, ao = some a) : Calls Tryd.prog 48 #[.slice ao bs.length cap] w (CloneP bs w) := by
  have q := fun (w : World) (a : Option Addr) (n c : Nat) => Lib.run_eql_slice_nil (P := Tryd.prog) w 22 5 a n c 0 0 Tryd.underlying22
  have H := Lib.hid h
  obtain ⟨a, rfl⟩ := hs
  clear h
  go_enter Tryd.func48, Tryd.ntmps48
  go_wp2_with (at_builtin; apply stop_here)
  refine ⟨?_, trivial⟩
  refine wpList_app rfl _ _ rfl el_bytes (v := .slice (some ⟨w.heap.size, 0, none⟩) 0 0) [] bs bs rfl w.heap.size 0 bs.length rfl rfl (World.ownsRow_made w #[] 0 (Nat.le_refl _) (Nat.zero_le _) rfl) rfl (H.out.fr0 ((Fr.refl _ _).alloc _)) rfl (by unfold maxLen; omega) (by omega) (by simp) ?_
  intro ao2 cap2 w2 o2 g2 _
  go_frame
  have O2 := Lib.hid o2
  have hf := (((Fr.refl noBlock w).alloc (.cells #[] 5)).grown g2 (fun k hk => by simp [Value.ownBlock] at hk; subst hk; exact .inr (Nat.le_refl _)))
  have Hf := Lib.hid hf
  clear o2 g2 hf
  go_wp2_with fail
  go_ret
  exact ⟨⟨ao2, bs.length, cap2⟩, rfl, rfl, RowAt.of_own O2.out rfl, Hf.out, fun k hk => (O2.out.lt k hk).1⟩
/-- what maps holds while it runs -/
structure MSt (w wr : World) (r : Nat) (co : Option Addr) (cn cc : Nat) (B : Bs) (oo : Option Addr) (on oc : Nat) (ns : List Int) : Prop where
  c : RowAt 5 ByteR wr (.slice co cn cc) B
  new : ∀ k, (Value.slice co cn cc).ownBlock = some k → w.heap.size ≤ k
  o : wr.ownsRow w.heap.size 3 IntR.k (.slice oo on oc) on (IntR.flat ns)
  len : ns.length = on
  fr : Fr (fun k => k = r) w wr
namespace MSt
variable {w wr w1 w2 : World} {r : Nat} {co oo oo2 : Option Addr} {cn cc on oc on2 oc2 : Nat} {B : Bs} {ns ns2 : List Int}
theorem turn (h : MSt w wr r co cn cc B oo on oc ns) (hr : r < w.heap.size) (f : Fr (fun k => k = r) wr w1) : MSt w w1 r co cn cc B oo on oc ns :=
  ⟨h.c.fr f (fun k hk e => by have := h.new k hk; have e' : k = r := e; omega), h.new, ownsRow_fr h.o f (fun k hk e => by have := (h.o.lt k hk).1; have e' : k = r := e; omega), h.len, h.fr.trans f (fun k hk => .inl hk)⟩
theorem on' (h : MSt w wr r co cn cc B oo on oc ns) (f : Fr noBlock wr w1) : MSt w w1 r co cn cc B oo on oc ns :=
  ⟨h.c.fr0 f, h.new, ownsRow_fr h.o f (fun _ _ x => x), h.len, h.fr.trans f (fun _ hk => hk.elim)⟩
theorem grown (h : MSt w wr r co cn cc B oo on oc ns) (hf : Fr noBlock wr w1) (ho : w2.ownsRow w.heap.size 3 IntR.k (.slice oo2 on2 oc2) on2 (IntR.flat ns2)) (hn : ns2.length = on2) (hg : w1.grownBy w2 (Value.slice oo on oc).ownBlock) : MSt w w2 r co cn cc B oo2 on2 oc2 ns2 := by
  have hfg : Fr (fun k => (Value.slice oo on oc).ownBlock = some k) w1 w2 := (Fr.refl _ w1).grown hg (fun k hk => .inl hk)
  have hc1 : RowAt 5 ByteR w1 (.slice co cn cc) B := h.c.fr0 hf
  have ho1 := ownsRow_fr h.o hf (fun _ _ x => x)
  have hro : RowAt 3 IntR w1 (.slice oo on oc) ns := RowAt.of_own ho1 h.len.symm
  refine ⟨hc1.fr hfg (fun k hk e => ?_), h.new, ho, hn, (h.fr.trans hf (fun _ hk => hk.elim)).grown hg (fun k hk => .inr (h.o.lt k hk).1)⟩
  obtain ⟨c1, e1⟩ := hc1.kind hk
  obtain ⟨c2, e2⟩ := hro.kind e
  rw [e1] at e2
  simp at e2
/-- the bitmaps grow -/
theorem more (h : MSt w wr r co cn cc B none 0 0 []) {M : Bs} {co2 : Option Addr} {cn2 cc2 : Nat} (ho : w2.ownsRow 0 5 ByteR.k (.slice co2 cn2 cc2) cn2 (ByteR.flat (B ++ M))) (hn : (B ++ M).length = cn2) (hg : wr.grownBy w2 (Value.slice co cn cc).ownBlock)
    (ha : (Value.slice co2 cn2 cc2).ownBlock = (Value.slice co cn cc).ownBlock ∨ (Value.slice co2 cn2 cc2).ownBlock = some wr.heap.size) : MSt w w2 r co2 cn2 cc2 (B ++ M) none 0 0 [] := by
  refine ⟨RowAt.of_own ho hn.symm, fun k hk => ?_, World.ownsRow_nil _ _ _ _, rfl, h.fr.grown hg (fun k hk => .inr (h.new k hk))⟩
  rcases ha with e | e
  · rw [e] at hk
    exact h.new k hk
  · rw [e] at hk
    cases hk
    exact h.fr.size
theorem own_fr (h : MSt w wr r co cn cc B none 0 0 []) (hr : r < w.heap.size) (hg : wr.grownBy w2 (Value.slice co cn cc).ownBlock) {w0 : World} {b : Bs} {e : Int} (hd : Rdr w0 r b e wr) : Rdr w0 r b e w2 :=
  hd.turn (S := fun k => (Value.slice co cn cc).ownBlock = some k) ((Fr.refl _ wr).grown hg (fun k hk => .inl hk)) (fun hk => by have := h.new r hk; omega) (fun k hk => by have := h.new k hk; have := hd.new; omega)
end MSt
def allOk (l : List Nat) : Bool := l.all (fun n => fmtOk (n : Int))
theorem bit_shl' : ∀ c < 256, ∀ j < 8, (((c : Nat) : Int) * 2 ^ j % 256 / 128 == 0) = !bitC (UInt8.ofNat c) j := by decide +kernel
theorem bit_shl (c : UInt8) {j : Nat} (hj : j < 8) : ((c.toNat : Int) * 2 ^ j % 256 / 128 == 0) = !bitC c j := by
  have := bit_shl' c.toNat c.toNat_lt j hj
  rwa [u8_eta] at this
theorem allOk_snoc (l : List Nat) (n : Nat) : allOk (l ++ [n]) = (allOk l && fmtOk (n : Int)) := by unfold allOk; simp
/-- the numbers ahead of the k-th bit -/
def nsK (B : Bs) (k : Nat) : List Nat := ((List.range k).filter (fun i => decide (1 ≤ i) && bitAt B i)).map (fun i => i + 1)
theorem nsK_step (B : Bs) (k : Nat) (hk : 1 ≤ k) : nsK B (k + 1) = nsK B k ++ (if bitAt B k = true then [k + 1] else []) := by
  unfold nsK
  rw [List.range_succ, List.filter_append, List.map_append]
  congr 1
  cases hb : bitAt B k with
  | true => simp [hb, hk]
  | false => simp [hb]
theorem nsK_all (B : Bs) : nsK B (8 * B.length) = numsOf B := rfl
theorem nsK_one (B : Bs) : nsK B 1 = [] := rfl
def mapsE (b : Bs) (e : Int) : Int := if e ≠ 0 then e else (mapsR b).1
def mapsF (b : Bs) (e : Int) : Int := if mapsE b e ≠ 0 then mapsE b e else if allOk (numsOf (mapsR b).2.1) = true then 0 else 13
def MapsP (w0 : World) (r : Nat) (b : Bs) (e : Int) (w : World) (en : Ending) (w' : World) : Prop := ∃ (oo : Option Addr) (oc : Nat) (ns : List Int) (b' : Bs), en = .returned (.slice oo ns.length oc) ∧ RowRd IntR w' oo ns ∧ (∀ a, 0 < ns.length → oo = some a → w.heap.size ≤ a.block ∧ a.block < w'.heap.size) ∧ ns.length ≤ 128 ∧ Rdr w0 r b' (mapsF b e) w' ∧ Fr (fun k => k = r) w w' ∧ (mapsF b e = 0 → ns = (numsOf (mapsR b).2.1).map (fun (n : Nat) => (n : Int)) ∧ b' = (mapsR b).2.2)
theorem dropWhile_nil {p : UInt8 → Bool} : ∀ {l : Bs}, l.dropWhile p = [] ↔ ∀ x ∈ l, p x = true
  | [] => by simp
  | a :: l => by
    rw [List.dropWhile_cons]
    by_cases h : p a = true
    · rw [if_pos h, dropWhile_nil]
      simp [h]
    · rw [if_neg h]
      simp [h]
theorem trim_empty (l : Bs) : (Lib.trimB l 0).isEmpty = l.all (fun c => decide (c = 0)) := by
  unfold Lib.trimB Lib.trimLeftB Lib.trimRightB
  by_cases h : l.all (fun c => decide (c = 0)) = true
  · rw [h]
    have hr : l.reverse.dropWhile (· == (0 : UInt8)) = [] := by
      rw [dropWhile_nil]
      rw [List.all_eq_true] at h
      intro c hc
      have := h c (by simpa using hc)
      simpa using this
    rw [hr]
    rfl
  · have hf : l.all (fun c => decide (c = 0)) = false := by simpa using h
    rw [hf]
    rw [List.isEmpty_eq_false_iff]
    intro he
    rw [dropWhile_nil] at he
    have : l.reverse.dropWhile (· == (0 : UInt8)) = [] := by
      cases hd : l.reverse.dropWhile (· == (0 : UInt8)) with
      | nil => rfl
      | cons x t =>
        have hx := he x (by rw [hd]; simp)
        have hn := List.head?_dropWhile_not (· == (0 : UInt8)) l.reverse
        rw [hd] at hn
        simp at hn hx
        exact absurd hx hn
    rw [dropWhile_nil] at this
    apply h
    rw [List.all_eq_true]
    intro c hc
    have := this c (by simpa using hc)
    simpa using this
theorem heap_new_set (w : World) (p : Addr) (u : Value) (o : Obj) : ((w.setCell p u).alloc o).heap[w.heap.size]? = some o := by
  have := heap_new (w.setCell p u) o
  simpa using this
theorem bit0_of (c : UInt8) (X : Bs) (h : X.getD 0 0 = c) : bitAt X 0 = decide ((c.toNat : Int) / 128 = 1) := by
  unfold bitAt bitC
  rw [show (0 : Nat) / 8 = 0 from rfl, h, show (2 : Nat) ^ (7 - 0 % 8) = 128 from rfl]
  have := c.toNat_lt
  simp only [decide_eq_decide]
  omega
set_option maxRecDepth 100000 in
set_option maxHeartbeats 3200000 in
theorem maps_any {w0 w : World} {r : Nat} {b : Bs} {e : Int} (h : Rdr w0 r b e w) : Calls Tryd.prog 28 #[.pointer (some ⟨r, 0, none⟩)] w (MapsP w0 r b e w) := by
  have hrw := h.lt
  have HT := Lib.hid (take_any h 8 (by omega) (by omega))
  clear h
  go_enter Tryd.func28, Tryd.ntmps28
  go_wp2_with fail
  refine HT.out.mono ?_
  rintro en w1 ⟨⟨sa, sn, sc⟩, rfl, h1, h2, h3, h4, h5, h6, h7⟩
  simp only at h1 h2 h4 h5
  subst h1
  have H1 := Lib.hid (And.intro h6 h7)
  obtain ⟨X, hX⟩ : ∃ X, takeX b e 8 = X := ⟨_, rfl⟩
  rw [hX] at h3 h4
  obtain ⟨xb, xo, rfl, hxb⟩ := byte_addr h4 (i := 0) (by omega)
  have HC := Lib.hid (sclone_any h4 sc (by omega) ⟨_, rfl⟩)
  rw [h3] at HC
  have Hh3 := Lib.hid h3
  unfold SV.val
  dsimp only
  clear h2 h4 h5 h6 h7 h3
  go_wp2_with fail
  refine HC.out.mono ?_
  rintro en w2 ⟨⟨ca, cn, cc⟩, rfl, h1, h2, h3, h4⟩
  simp only at h1
  rw [Hh3.out] at h1
  subst h1
  obtain ⟨g, cp, eg, hcp, -⟩ := h2.block' (by rw [Hh3.out]; omega)
  rw [Hh3.out] at eg hcp
  unfold SV.val at eg
  simp only [Value.slice.injEq] at eg
  obtain ⟨rfl, -, rfl⟩ := eg
  unfold SV.val at h2 h4 ⊢
  dsimp only at h2 h4 ⊢
  obtain ⟨y0, -⟩ := byte_at h2 (i := 0) (by rw [Hh3.out]; omega)
  have HX := Lib.hid (And.intro h2 (And.intro h3 h4))
  clear h2 h3 h4
  have hX0 : X[0]'(by rw [Hh3.out]; omega) = X.getD 0 0 := by simp [List.getD, Hh3.out]
  rw [hX0] at y0
  have hbit := bit0_of _ X rfl
  have hc256 := (X.getD 0 0).toNat_lt
  have HFc := Lib.hid (H1.out.2.trans HX.out.2.1 (fun k hk => hk.elim))
  have HM := Lib.hid (show MSt w w2 r (some ⟨g, 0, none⟩) 8 cc X none 0 0 [] from ⟨HX.out.1, fun k hk => Nat.le_trans (by have := H1.out.2.size; omega) (HX.out.2.2 k hk), World.ownsRow_nil _ _ _ _, rfl, HFc.out⟩)
  have HR2 := Lib.hid (H1.out.1.on HX.out.2.1)
  unfold byteV at y0
  generalize ((X.getD 0 0).toNat : Int) = x0 at *
  go_upto_if 17 with fail
  go_cut [3] from 16 to 36 (fun s3 wx => ∃ (co : Option Addr) (cn cc : Nat) (B b' : Bs) (e1 : Int), s3 = .slice co cn cc ∧ (cn = 8 ∨ cn = 16) ∧ B.length = cn ∧ Hid (MSt w wx r co cn cc B none 0 0 [] ∧ Rdr w0 r b' e1 wx ∧ e1 = mapsE b e ∧ (e1 = 0 → mapsR b = (0, B, b'))))
  case first =>
    by_cases hb : bitAt X 0 = true
    · have hE8 : takeE b e 8 = 0 := by
        by_cases h0 : takeE b e 8 = 0
        · exact h0
        · exfalso
          have : X = zeros 8 := by rw [← hX]; unfold takeX; rw [if_neg h0]
          rw [this, zeros_bit] at hb
          cases hb
      have he0 : e = 0 ∧ 8 ≤ b.length := by
        unfold takeE at hE8
        split at hE8
        · rename_i hx; exact absurd hE8 hx
        · rename_i hx
          split at hE8
          · omega
          · exact ⟨by simpa using hx, by omega⟩
      obtain ⟨rfl, hl8⟩ := he0
      have hXt : X = b.take 8 := by rw [← hX]; unfold takeX; rw [if_pos hE8]
      have hBt : takeB b 0 8 = b.drop 8 := by unfold takeB; rw [if_pos hE8]
      rw [hBt, hE8] at HR2
      have hx1 : x0 / 128 = 1 := by rw [hb] at hbit; simpa using hbit.symm
      have hbb : bitAt b 0 = true := by rw [hXt, take_bit (by omega)] at hb; exact hb
      have HT2 := Lib.hid (take_any HR2.out 8 (by omega) (by omega))
      clear hbit hE8 hBt hX HT hX0
      go_wp2_with fail
      refine HT2.out.mono ?_
      rintro en w3 ⟨⟨ma, mn, mc⟩, rfl, h1, h2, h3, h4, h5, h6, h7⟩
      simp only at h1 h2 h4 h5
      subst h1
      have H3 := Lib.hid (And.intro h6 h7)
      obtain ⟨ao', cap', d0, d1, z, -⟩ := h6.cells
      have z1 := z 1
      have HM3 := Lib.hid (HM.out.turn hrw h7)
      obtain ⟨M, hM⟩ : ∃ M, takeX (b.drop 8) 0 8 = M := ⟨_, rfl⟩
      rw [hM] at h3 h4
      have hcv := conv_rd h4 mc
      rw [h3] at hcv
      have HR4 := Lib.hid (And.intro h4 (And.intro h5 h3))
      unfold SV.val
      dsimp only
      clear h2 h3 h4 h5 h6 h7 d0 z
      by_cases hl16 : b.length < 16
      · have hE9 : takeE (b.drop 8) 0 8 = 3 := by unfold takeE; rw [if_neg (by simp), if_pos (by rw [List.length_drop]; omega)]
        rw [hE9] at d1 H3
        have HF := Lib.hid (show (3 : Int) = mapsE b 0 ∧ ((3 : Int) = 0 → mapsR b = (0, X ++ M, takeB (b.drop 8) 0 8)) from ⟨by unfold mapsE mapsR; rw [if_neg (by simp), if_neg (by omega), if_pos hbb, if_pos hl16], fun h => absurd h (by decide)⟩)
        clear hE9 hl16 hbb hXt hM
        go_wp2_with (at_builtin; apply stop_here)
        refine ⟨?_, trivial⟩
        refine wpList_app rfl _ _ rfl el_bytes (v := .slice (some ⟨g, 0, none⟩) 8 cc) X M (X ++ M) rfl 0 8 16 (by rw [List.length_append, Hh3.out, HR4.out.2.2]) rfl (by have := (HM3.out).c; unfold RowAt at this; rw [Hh3.out] at this; exact this) rfl (HR4.out.1) HR4.out.2.2.symm (by unfold maxLen; omega) (by omega) (Nat.zero_le _) ?_
        intro ao6 cap6 w6 o6 g6 a6
        go_frame
        have HG := Lib.hid (And.intro ((HM3.out).more o6 (by rw [List.length_append, Hh3.out, HR4.out.2.2]) g6 a6) ((HM3.out).own_fr hrw g6 (H3.out.1)))
        clear o6 g6 a6
        go_wp2_with fail
        go_meet
        exact ⟨ao6, 16, cap6, X ++ M, _, _, rfl, .inr rfl, by rw [List.length_append, Hh3.out, HR4.out.2.2], Lib.hid ⟨HG.out.1, HG.out.2, HF.out.1, fun h => by first | exact HF.out.2 h | exact HF.out.2 trivial | exact absurd h (by decide)⟩⟩
      · have hE9 : takeE (b.drop 8) 0 8 = 0 := by unfold takeE; rw [if_neg (by simp), if_neg (by rw [List.length_drop]; omega)]
        have hB9 : takeB (b.drop 8) 0 8 = b.drop 16 := by unfold takeB; rw [if_pos hE9, List.drop_drop]
        have hM9 : M = (b.drop 8).take 8 := by rw [← hM]; unfold takeX; rw [if_pos hE9]
        rw [hE9] at d1 H3
        rw [hB9] at H3
        have HTr := Lib.hid (fun W => Tryd.strings_Trim_one (strB M) 0 (by decide) W (by rw [strB_size, HR4.out.2.2]; omega))
        obtain ⟨tr, htr⟩ : ∃ t : ByteArray, (⟨(Lib.trimB (strB M).data.toList 0).toArray⟩ : ByteArray) = t := ⟨_, rfl⟩
        have hte : tr.toList.isEmpty = M.all (fun c => decide (c = 0)) := by rw [← htr, ByteArray.toList_eq]; exact trim_empty M
        rw [htr] at HTr
        have hXM : X ++ M = b.take 16 := by rw [hXt, hM9, show (16 : Nat) = 8 + 8 from rfl, List.take_add]
        by_cases hz : M.all (fun c => decide (c = 0)) = true
        · rw [hz] at hte
          have HF := Lib.hid (show (4 : Int) = mapsE b 0 ∧ ((4 : Int) = 0 → mapsR b = (0, X ++ M, b.drop 16)) from ⟨by unfold mapsE mapsR; rw [if_neg (by simp), if_neg (by omega), if_pos hbb, if_neg hl16, ← hM9, if_pos hz], fun h => absurd h (by decide)⟩)
          clear hE9 hB9 hl16 hbb hXt hM hM9 htr hz hXM
          go_wp2_with fail
          refine (HTr.out _).mono ?_
          rintro en w4 ⟨rfl, hw4⟩
          have hf4 : Fr noBlock w3 w4 := by rcases hw4 with rfl | rfl; exact Fr.refl _ _; exact (Fr.refl _ _).drew
          have HR5 := Lib.hid (H3.out.1.on hf4)
          have HM5 := Lib.hid (HM3.out.on' hf4)
          have HD5 := Lib.hid (HR4.out.1.fr0 hf4)
          have HS := Lib.hid (HR5.out.setE 4)
          obtain ⟨ao5, cap5, k0, k1, zz, -⟩ := HR5.out.cells
          have zz1 := zz 1
          have HMS := Lib.hid (HM5.out.turn hrw HS.out.2)
          have HDS := Lib.hid (HD5.out.fr HS.out.2 (fun b2 off2 ea => (HR4.out.2.1 ⟨b2, off2, none⟩ ea).1))
          clear hw4 hf4 d1 z1 k0 zz
          go_wp2_with (at_builtin; apply stop_here)
          refine ⟨?_, trivial⟩
          refine wpList_app rfl _ _ rfl el_bytes (v := .slice (some ⟨g, 0, none⟩) 8 cc) X M (X ++ M) rfl 0 8 16 (by rw [List.length_append, Hh3.out, HR4.out.2.2]) rfl (by have := (HMS.out).c; unfold RowAt at this; rw [Hh3.out] at this; exact this) rfl (HDS.out) HR4.out.2.2.symm (by unfold maxLen; omega) (by omega) (Nat.zero_le _) ?_
          intro ao6 cap6 w6 o6 g6 a6
          go_frame
          have HG := Lib.hid (And.intro ((HMS.out).more o6 (by rw [List.length_append, Hh3.out, HR4.out.2.2]) g6 a6) ((HMS.out).own_fr hrw g6 (HS.out.1)))
          clear o6 g6 a6
          go_wp2_with fail
          go_meet
          exact ⟨ao6, 16, cap6, X ++ M, _, _, rfl, .inr rfl, by rw [List.length_append, Hh3.out, HR4.out.2.2], Lib.hid ⟨HG.out.1, HG.out.2, HF.out.1, fun h => by first | exact HF.out.2 h | exact HF.out.2 trivial | exact absurd h (by decide)⟩⟩
        · rw [show M.all (fun c => decide (c = 0)) = false by simpa using hz] at hte
          have HF := Lib.hid (show (0 : Int) = mapsE b 0 ∧ ((0 : Int) = 0 → mapsR b = (0, X ++ M, b.drop 16)) from by
            have hR : mapsR b = (0, X ++ M, b.drop 16) := by unfold mapsR; rw [if_neg (by omega), if_pos hbb, if_neg hl16, ← hM9, if_neg hz, hXM]
            exact ⟨by unfold mapsE; rw [if_neg (by simp), hR], fun _ => hR⟩)
          clear hE9 hB9 hl16 hbb hXt hM hM9 htr hz hXM
          go_wp2_with fail
          refine (HTr.out _).mono ?_
          rintro en w4 ⟨rfl, hw4⟩
          have hf4 : Fr noBlock w3 w4 := by rcases hw4 with rfl | rfl; exact Fr.refl _ _; exact (Fr.refl _ _).drew
          have HR5 := Lib.hid (H3.out.1.on hf4)
          have HM5 := Lib.hid (HM3.out.on' hf4)
          have HD5 := Lib.hid (HR4.out.1.fr0 hf4)
          clear hw4 hf4 d1 z1
          go_wp2_with (at_builtin; apply stop_here)
          refine ⟨?_, trivial⟩
          refine wpList_app rfl _ _ rfl el_bytes (v := .slice (some ⟨g, 0, none⟩) 8 cc) X M (X ++ M) rfl 0 8 16 (by rw [List.length_append, Hh3.out, HR4.out.2.2]) rfl (by have := (HM5.out).c; unfold RowAt at this; rw [Hh3.out] at this; exact this) rfl (HD5.out) HR4.out.2.2.symm (by unfold maxLen; omega) (by omega) (Nat.zero_le _) ?_
          intro ao6 cap6 w6 o6 g6 a6
          go_frame
          have HG := Lib.hid (And.intro ((HM5.out).more o6 (by rw [List.length_append, Hh3.out, HR4.out.2.2]) g6 a6) ((HM5.out).own_fr hrw g6 (HR5.out)))
          clear o6 g6 a6
          go_wp2_with fail
          go_meet
          exact ⟨ao6, 16, cap6, X ++ M, _, _, rfl, .inr rfl, by rw [List.length_append, Hh3.out, HR4.out.2.2], Lib.hid ⟨HG.out.1, HG.out.2, HF.out.1, fun h => by first | exact HF.out.2 h | exact HF.out.2 trivial | exact absurd h (by decide)⟩⟩
    · have hb0 : bitAt X 0 = false := by simpa using hb
      have hx1 : ¬ x0 / 128 = 1 := by rw [hb0] at hbit; simpa using hbit.symm
      have hx1b : (x0 / 128 == 1) = false := by simpa using hx1
      have HF := Lib.hid (show takeE b e 8 = mapsE b e ∧ (takeE b e 8 = 0 → mapsR b = (0, X, takeB b e 8)) by
        by_cases he : e = 0
        · subst he
          by_cases hl : b.length < 8
          · have hE : takeE b 0 8 = 3 := by unfold takeE; rw [if_neg (by simp), if_pos hl]
            rw [hE]
            exact ⟨by unfold mapsE mapsR; rw [if_neg (by simp), if_pos hl], fun h => absurd h (by decide)⟩
          · have hE : takeE b 0 8 = 0 := by unfold takeE; rw [if_neg (by simp), if_neg hl]
            have hXt : X = b.take 8 := by rw [← hX]; unfold takeX; rw [if_pos hE]
            have hBt : takeB b 0 8 = b.drop 8 := by unfold takeB; rw [if_pos hE]
            have hbb : bitAt b 0 = false := by rw [hXt, take_bit (by omega)] at hb0; exact hb0
            have hR : mapsR b = (0, X, b.drop 8) := by unfold mapsR; rw [if_neg hl, hbb, if_neg (by simp), hXt]
            rw [hE, hBt]
            exact ⟨by unfold mapsE; rw [if_neg (by simp), hR], fun _ => hR⟩
        · have hE : takeE b e 8 = e := by unfold takeE; rw [if_pos he]
          rw [hE]
          exact ⟨by unfold mapsE; rw [if_pos he], fun h => absurd h he⟩)
      clear hb hbit hX HT hX0 hb0 hx1
      go_wp2_with fail
      go_meet
      exact ⟨_, 8, cc, X, _, _, rfl, .inl rfl, Hh3.out, Lib.hid ⟨HM.out, HR2.out, HF.out⟩⟩
  obtain ⟨co, cn, cc, B, b', e1, rfl, hcn, hBl, H5⟩ := hcut
  clear HT HC HX HM HR2 H1 HFc hbit y0 hX0 hX
  have hcnI : (cn : Int) = 8 ∨ (cn : Int) = 16 := by omega
  have hcn16 : (cn : Int) ≤ 16 := by omega
  go_wp2_with fail
  go_loopw [5, 6] (fun s5 s6 wr => ∃ (k : Nat) (oo : Option Addr) (on oc : Nat) (ns : List Int) (ek : Int), 1 ≤ k ∧ k ≤ 8 * cn ∧ s6 = .int .i64 k ∧ s5 = .slice oo on oc ∧ on ≤ k ∧ Hid (MSt w wr r co cn cc B oo on oc ns ∧ Rdr w0 r b' ek wr) ∧
    Hid ((e1 ≠ 0 → ek = e1) ∧ (e1 = 0 → (ek = 0 ∧ allOk (nsK B k) = true ∧ ns = (nsK B k).map (fun (n : Nat) => (n : Int))) ∨ (ek = 13 ∧ allOk (nsK B k) = false)))) (fun _ s6 _ => 8 * cn - (intOf s6).toNat)
  case atStart =>
    refine ⟨1, none, 0, 0, [], e1, Nat.le_refl _, by omega, rfl, rfl, by omega, Lib.hid ⟨H5.out.1, H5.out.2.1⟩, Lib.hid ⟨fun _ => rfl, fun h => .inl ⟨h, rfl, rfl⟩⟩⟩
  case round =>
    obtain ⟨k, oo, on, oc, ns, ek, hk1, hk8, rfl, rfl, hon, HS, HI⟩ := hrel
    obtain ⟨ao, cap, d0, d1, z, -⟩ := HS.out.2.cells
    have z1 := z 1
    have hkI : (1 : Int) ≤ (k : Int) := by omega
    by_cases hlt : k < 8 * cn
    · have r1 : (k : Int) < 8 * (cn : Int) := by omega
      obtain ⟨q, hq⟩ : ∃ q : Nat, (k : Int) / 8 = (q : Int) := ⟨k / 8, by omega⟩
      have hqk : k / 8 = q := by omega
      have hqc : q < cn := by omega
      have hqI : (q : Int) < (cn : Int) := by omega
      have hqB : q < B.length := by omega
      obtain ⟨j, hj⟩ : ∃ j : Nat, (k : Int) % 8 = (j : Int) := ⟨k % 8, by omega⟩
      have hjk : k % 8 = j := by omega
      have hj8 : j < 8 := by omega
      obtain ⟨gc, cp, eg, hcp, -⟩ := HS.out.1.c.block' (by omega)
      simp only [Value.slice.injEq] at eg
      obtain ⟨rfl, -, rfl⟩ := eg
      obtain ⟨y0, -⟩ := byte_at HS.out.1.c hqB
      have hB0 : B[q] = B.getD q 0 := by simp [List.getD, hqB]
      rw [hB0] at y0
      have hbit : bitAt B k = bitC (B.getD q 0) j := by unfold bitAt; rw [hqk, hjk]
      have hc256 := (B.getD q 0).toNat_lt
      unfold byteV at y0
      have hsh := bit_shl (B.getD q 0) hj8
      rw [← hbit] at hsh
      have hstep := nsK_step B k hk1
      have hk1' : 1 ≤ k + 1 := by omega
      have hk8' : k + 1 ≤ 8 * cn := hlt
      have hon' : on ≤ k + 1 := by omega
      have HSt := Lib.hid hstep
      generalize ((B.getD q 0).toNat : Int) = c8 at *
      clear hB0 hbit hstep hlt
      by_cases hsk : bitAt B k = false ∨ ek ≠ 0
      · have HN := Lib.hid (show (e1 ≠ 0 → ek = e1) ∧ (e1 = 0 → (ek = 0 ∧ allOk (nsK B (k + 1)) = true ∧ ns = (nsK B (k + 1)).map (fun (n : Nat) => (n : Int))) ∨ (ek = 13 ∧ allOk (nsK B (k + 1)) = false)) by
          refine ⟨HI.out.1, fun h => ?_⟩
          rcases HI.out.2 h with ⟨a1, a2, a3⟩ | ⟨a1, a2⟩
          · have hbf : bitAt B k = false := by
              rcases hsk with h | h
              · exact h
              · exact absurd a1 h
            left
            rw [HSt.out, hbf]
            simpa using ⟨a1, a2, a3⟩
          · right
            refine ⟨a1, ?_⟩
            rw [HSt.out]
            split
            · rw [allOk_snoc, a2]; rfl
            · rw [List.append_nil]; exact a2)
        have hcs : (c8 * 2 ^ j % 256 / 128 == 0) = true ∨ ((c8 * 2 ^ j % 256 / 128 == 0) = false ∧ (ek != 0) = true) := by
          cases hb : bitAt B k with
          | false => rw [hb] at hsh; exact .inl hsh
          | true =>
            rw [hb] at hsh
            right
            refine ⟨hsh, ?_⟩
            rcases hsk with h | h
            · rw [hb] at h; cases h
            · simpa using h
        clear hsk hsh HI
        rcases hcs with q1 | ⟨q1, q2⟩
        all_goals
          go_wp2_with fail
          go_roundw
          case rel => exact ⟨k + 1, oo, on, oc, ns, ek, hk1', hk8', by go_num, rfl, hon', HS, HN⟩
          case measure => simp [intOf]; omega
      · have hbt : bitAt B k = true := by
          cases hb : bitAt B k with
          | true => rfl
          | false => exact absurd (.inl hb) hsk
        have he0 : ek = 0 := by
          by_cases h : ek = 0
          · exact h
          · exact absurd (.inr h) hsk
        subst he0
        rw [hbt] at hsh
        have q1 : (c8 * 2 ^ j % 256 / 128 == 0) = false := hsh
        have hst2 := HSt.out
        rw [hbt, if_pos rfl] at hst2
        obtain ⟨kd, hkd⟩ : ∃ x, kindOf ((k : Int) + 1) = x := ⟨_, rfl⟩
        obtain ⟨lg, hlg⟩ : ∃ x, longOf ((k : Int) + 1) = x := ⟨_, rfl⟩
        obtain ⟨ok, hok⟩ : ∃ x, fmtOk ((k : Int) + 1) = x := ⟨_, rfl⟩
        have HFm := Lib.hid (fun W => format_any ((k : Int) + 1) W)
        unfold FmtP at HFm
        rw [hkd, hlg, hok] at HFm
        have hok2 : fmtOk (((k + 1 : Nat)) : Int) = ok := by rw [← hok]; rfl
        have hmap : (nsK B (k + 1)).map (fun (n : Nat) => (n : Int)) = (nsK B k).map (fun (n : Nat) => (n : Int)) ++ [(k : Int) + 1] := by rw [hst2, List.map_append]; rfl
        have hall : allOk (nsK B (k + 1)) = (allOk (nsK B k) && ok) := by rw [hst2, allOk_snoc, hok2]
        have HMap := Lib.hid hmap
        have HAll := Lib.hid hall
        have hk64 : (k : Int) + 1 ≤ 128 := by omega
        have hon8 : on ≤ 128 := by omega
        clear hsk hsh hst2 hkd hlg hok hok2 hmap hall hbt HSt
        cases ok with
        | true =>
          go_wp2_with fail
          refine (HFm.out _).mono ?_
          rintro en w5 ⟨rfl, rfl⟩
          go_wp2_with (at_builtin; apply stop_here)
          refine ⟨?_, trivial⟩
          refine wpList_app rfl _ _ rfl el_ints (v := .slice oo on oc) ns [(k : Int) + 1] (ns ++ [(k : Int) + 1]) rfl w.heap.size on (on + 1) (by rw [List.length_append, HS.out.1.len]; rfl) rfl (ownsRow_fr HS.out.1.o ((Fr.refl noBlock wr).alloc (.cells #[.int .i64 ((k : Int) + 1)] 3)) (fun _ _ x => x)) rfl (RowRd.of_flat (heap_new wr _) rfl (by unfold maxLen; simp)) rfl (by unfold maxLen; omega) (by omega) (Nat.le_trans HS.out.1.fr.size (by simp)) ?_
          intro ao6 cap6 w6 o6 g6 a6
          go_frame
          have HG := Lib.hid (And.intro (HS.out.1.grown ((Fr.refl noBlock wr).alloc (.cells #[.int .i64 ((k : Int) + 1)] 3)) o6 (by rw [List.length_append, HS.out.1.len]; rfl) g6) (HS.out.2.turn (S := fun k => (Value.slice oo on oc).ownBlock = some k) ((((Fr.refl noBlock wr).alloc (.cells #[.int .i64 ((k : Int) + 1)] 3)).mono (fun _ x => x.elim)).grown g6 (fun k hk => .inl hk)) (fun hk => by have := (HS.out.1.o.lt r hk).1; omega) (fun k hk => by have := (HS.out.1.o.lt k hk).1; have := HS.out.2.new; omega)))
          have HN := Lib.hid (show (e1 ≠ 0 → (0 : Int) = e1) ∧ (e1 = 0 → ((0 : Int) = 0 ∧ allOk (nsK B (k + 1)) = true ∧ ns ++ [(k : Int) + 1] = (nsK B (k + 1)).map (fun (n : Nat) => (n : Int))) ∨ ((0 : Int) = 13 ∧ allOk (nsK B (k + 1)) = false)) by
            refine ⟨HI.out.1, fun h => ?_⟩
            rcases HI.out.2 h with ⟨a1, a2, a3⟩ | ⟨a1, a2⟩
            · exact .inl ⟨rfl, by rw [HAll.out, a2]; rfl, by rw [HMap.out, a3]⟩
            · exact absurd a1 (by decide))
          have hon2 : on + 1 ≤ k + 1 := by omega
          clear o6 g6 a6
          go_wp2_with fail
          go_roundw
          case rel => exact ⟨k + 1, ao6, on + 1, cap6, _, 0, hk1', hk8', by go_num, rfl, hon2, HG, HN⟩
          case measure => simp [intOf]; omega
        | false =>
          have HSE := Lib.hid (HS.out.2.setE 13)
          have HMT := Lib.hid (HS.out.1.turn hrw HSE.out.2)
          go_wp2_with fail
          refine (HFm.out _).mono ?_
          rintro en w5 ⟨rfl, rfl⟩
          go_wp2_with (at_builtin; apply stop_here)
          refine ⟨?_, trivial⟩
          refine wpList_app rfl _ _ rfl el_ints (v := .slice oo on oc) ns [(k : Int) + 1] (ns ++ [(k : Int) + 1]) rfl w.heap.size on (on + 1) (by rw [List.length_append, HMT.out.len]; rfl) rfl (ownsRow_fr HMT.out.o ((Fr.refl noBlock _).alloc (.cells #[.int .i64 ((k : Int) + 1)] 3)) (fun _ _ x => x)) rfl (RowRd.of_flat (heap_new_set _ _ _ _) rfl (by unfold maxLen; simp)) rfl (by unfold maxLen; omega) (by omega) (Nat.le_trans HMT.out.fr.size (by simp)) ?_
          intro ao6 cap6 w6 o6 g6 a6
          go_frame
          have HG := Lib.hid (And.intro (HMT.out.grown ((Fr.refl noBlock _).alloc (.cells #[.int .i64 ((k : Int) + 1)] 3)) o6 (by rw [List.length_append, HMT.out.len]; rfl) g6) (HSE.out.1.turn (S := fun k => (Value.slice oo on oc).ownBlock = some k) ((((Fr.refl noBlock _).alloc (.cells #[.int .i64 ((k : Int) + 1)] 3)).mono (fun _ x => x.elim)).grown g6 (fun k hk => .inl hk)) (fun hk => by have := (HMT.out.o.lt r hk).1; omega) (fun k hk => by have := (HMT.out.o.lt k hk).1; have := HSE.out.1.new; omega)))
          have HN := Lib.hid (show (e1 ≠ 0 → (13 : Int) = e1) ∧ (e1 = 0 → ((13 : Int) = 0 ∧ allOk (nsK B (k + 1)) = true ∧ ns ++ [(k : Int) + 1] = (nsK B (k + 1)).map (fun (n : Nat) => (n : Int))) ∨ ((13 : Int) = 13 ∧ allOk (nsK B (k + 1)) = false)) by
            refine ⟨fun h => absurd (HI.out.1 h).symm h, fun h => .inr ⟨rfl, by rw [HAll.out, Bool.and_false]⟩⟩)
          have hon2 : on + 1 ≤ k + 1 := by omega
          clear o6 g6 a6
          go_wp2_with fail
          go_roundw
          case rel => exact ⟨k + 1, ao6, on + 1, cap6, _, 13, hk1', hk8', by go_num, rfl, hon2, HG, HN⟩
          case measure => simp [intOf]; omega
    · have r1 : 8 * (cn : Int) ≤ (k : Int) := by omega
      have ek8 : k = 8 * cn := by omega
      have hns : nsK B k = numsOf B := by rw [ek8, ← hBl]; exact nsK_all B
      rw [hns] at HI
      have hl := HS.out.1.len
      subst hl
      have hF : mapsF b e = ek ∧ (ek = 0 → ns = (numsOf (mapsR b).2.1).map (fun (n : Nat) => (n : Int)) ∧ b' = (mapsR b).2.2) := by
        obtain ⟨_, _, f1, f2⟩ := H5.out
        unfold mapsF
        rw [← f1]
        by_cases h0 : e1 = 0
        · have hR := f2 h0
          rw [if_neg (by simpa using h0), hR]
          rcases HI.out.2 h0 with ⟨a1, a2, a3⟩ | ⟨a1, a2⟩
          · rw [if_pos a2]
            exact ⟨a1.symm, fun _ => ⟨a3, rfl⟩⟩
          · rw [if_neg (by rw [a2]; simp)]
            exact ⟨a1.symm, fun h => by rw [a1] at h; exact absurd h (by decide)⟩
        · have h1 := HI.out.1 h0
          rw [if_pos h0]
          exact ⟨h1.symm, fun h => absurd (h1.symm.trans h) h0⟩
      have HF := Lib.hid hF
      have hn128 : ns.length ≤ 128 := by omega
      clear hlt HI hns hF
      go_wp2_with fail
      go_ret
      refine ⟨oo, oc, ns, b', rfl, RowAt.rd (RowAt.of_own HS.out.1.o rfl), fun a _ ea => ?_, hn128, by rw [HF.out.1]; exact HS.out.2, HS.out.1.fr, fun h => HF.out.2 (HF.out.1 ▸ h)⟩
      subst ea
      exact HS.out.1.o.lt a.block rfl
end Go.Proofs.YthckgkghmlkcnaaDoor
