/-
  THE WALK of the journal's told: the writes that a head tells.
-/
import Derived.Deep.RegionHeld3
import Derived.Test.YthabllnhlhkejaaGreatDoorJnSum
namespace Go.Proofs.YthabllnhlhkejaaGreatDoor
open Go.RowKit

theorem infoWrite : (Tryz.prog.info? 79).map (fun i => (i.zero, i.size, i.bytes)) = some (some (.agg #[.int .i64 0, .slice none 0 0]), 2, 32) := by kernel_rfl
theorem el_writes : Elem Tryz.prog 72 79 DirtR.k 32 := Elem.mk' Tryz.underlying72 infoWrite (by decide) rfl
/-- writes in a row of one's own, their bytes in rows of one's own -/
structure OwnW (w0 w : World) (lo : Option Addr) (n lc : Nat) (ws : List (Int × SV)) (l : List JW) : Prop where
  own : w.ownsRow w0.heap.size 79 DirtR.k (.slice lo n lc) n (DirtR.flat ws)
  len : ws.length = n
  len2 : l.length = n
  each : ∀ (i : Nat) (p : Int × SV) (q : JW), ws[i]? = some p → l[i]? = some q → p.1 = q.1 ∧ p.2.n = q.2.length ∧ RowAt 5 ByteR w p.2.val q.2 ∧ ∀ k, p.2.val.ownBlock = some k → w0.heap.size ≤ k
  fr : Fr noBlock w0 w
namespace OwnW
variable {w0 w w' w1 w2 : World} {lo lo2 : Option Addr} {n lc n2 lc2 : Nat} {ws : List (Int × SV)} {l : List JW}
theorem nil (hf : Fr noBlock w0 w) : OwnW w0 w none 0 0 [] [] := ⟨World.ownsRow_nil _ _ _ _, rfl, rfl, fun i p q h => by simp at h, hf⟩
theorem own' (h : OwnW w0 w lo n lc ws l) (hf : Fr noBlock w w') : w'.ownsRow w0.heap.size 79 DirtR.k (.slice lo n lc) n (DirtR.flat ws) := ownsRow_fr h.own hf (fun _ _ x => x)
theorem to (h : OwnW w0 w lo n lc ws l) (hf : Fr noBlock w w') : OwnW w0 w' lo n lc ws l := ⟨h.own' hf, h.len, h.len2, fun i p q a b => ⟨(h.each i p q a b).1, (h.each i p q a b).2.1, (h.each i p q a b).2.2.1.fr0 hf, (h.each i p q a b).2.2.2⟩, h.fr.trans' hf⟩
theorem row (h : OwnW w0 w lo n lc ws l) : RowAt 79 DirtR w (.slice lo n lc) ws := RowAt.of_own h.own h.len.symm
theorem cap (h : OwnW w0 w lo n lc ws l) : n ≤ lc := by
  obtain ⟨ao, cap, e, h1, _⟩ := h.row.shape
  simp only [Value.slice.injEq] at e
  omega
theorem more (h : OwnW w0 w lo n lc ws l) (hf : Fr noBlock w w1) {x : Int × SV} {q : JW} (hq : x.1 = q.1) (hn : x.2.n = q.2.length) (hr : RowAt 5 ByteR w1 x.2.val q.2) (hnew : ∀ k, x.2.val.ownBlock = some k → w0.heap.size ≤ k)
    (ho : w2.ownsRow w0.heap.size 79 DirtR.k (.slice lo2 n2 lc2) n2 (DirtR.flat (ws ++ [x]))) (hn2 : n2 = n + 1) (hg : w1.grownBy w2 (Value.slice lo n lc).ownBlock) : OwnW w0 w2 lo2 n2 lc2 (ws ++ [x]) (l ++ [q]) := by
  have hrow : RowAt 79 DirtR w1 (.slice lo n lc) ws := h.row.fr0 hf
  have hf2 : Fr noBlock w0 w2 := (h.fr.trans' hf).grown hg (fun k hk => .inr (h.own.lt k hk).1)
  have hfg : Fr (fun k => (Value.slice lo n lc).ownBlock = some k) w1 w2 := (Fr.refl _ w1).grown hg (fun k hk => .inl hk)
  have keep : ∀ {s : SV} {b : Bs}, RowAt 5 ByteR w1 s.val b → RowAt 5 ByteR w2 s.val b := fun hb => hb.fr hfg (fun k hk e => by
    obtain ⟨c1, e1⟩ := hb.kind hk
    obtain ⟨c2, e2⟩ := hrow.kind e
    rw [e1] at e2
    simp at e2)
  have hl := h.len
  have hl2 := h.len2
  refine ⟨ho, by simp; omega, by simp; omega, fun i p q' a b => ?_, hf2⟩
  by_cases hi : i < ws.length
  · rw [List.getElem?_append_left hi] at a
    rw [List.getElem?_append_left (by omega)] at b
    obtain ⟨e1, e2, e3, e4⟩ := h.each i p q' a b
    exact ⟨e1, e2, keep (e3.fr0 hf), e4⟩
  · have hlt := (List.getElem?_eq_some_iff.1 a).1
    simp at hlt
    have hi' : i = ws.length := by omega
    subst hi'
    rw [List.getElem?_append_right (Nat.le_refl _)] at a
    rw [List.getElem?_append_right (by omega), hl, ← hl2] at b
    simp at a b
    subst a b
    exact ⟨hq, hn, keep hr, hnew⟩
/-- beside what was there -/
theorem jwrs (h : OwnW w0 w lo n lc ws l) {H : Nat → Prop} (hH : ∀ k, H k → k < w0.heap.size) : JWrs w H lo ws l := by
  refine ⟨Bes.new (w0 := w0) h.row (fun k hk => (h.own.lt k hk).1) hH, by rw [h.len, h.len2], fun i p q a b => ?_⟩
  obtain ⟨e1, e2, e3, e4⟩ := h.each i p q a b
  exact ⟨e1, e2, Bes.new (w0 := w0) e3 e4 hH⟩
end OwnW
def ToldP (d : DK) (h : Bs) (w : World) (e : Ending) (w' : World) : Prop := ∃ lo n lc, e = .returned (.tuple #[.slice lo n lc, .bool (toldB d h)]) ∧ Fr noBlock w w' ∧ (toldB d h = true → ∃ ws, OwnW w w' lo n lc ws (toldL d h (h.getD 1 0).toNat))
theorem equal_any {w : World} {ao bo : Option Addr} {a b : Bs} (ha : RowRd ByteR w ao a) (hb : RowRd ByteR w bo b) (ca cb : Nat) : Calls Tryz.prog 76 #[.slice ao a.length ca, .slice bo b.length cb] w fun e w' => e = .returned (.bool (decide (a = b))) ∧ w = w' := by
  have k1 := conv_rd ha ca
  have k2 := conv_rd hb cb
  by_cases h : a = b
  · subst h
    rw [decide_eq_true rfl]
    clear ha hb
    go_enter Tryz.func76, Tryz.ntmps76
    go_wp2_with fail
    go_ret
    exact ⟨rfl, rfl⟩
  · rw [decide_eq_false h]
    have hne : ((strB a).toList == (strB b).toList) = false := by
      rw [strB_list, strB_list]
      simpa using h
    clear ha hb h
    go_enter Tryz.func76, Tryz.ntmps76
    go_wp2_with fail
    go_ret
    exact ⟨rfl, rfl⟩
theorem equal_len {w : World} {ao bo : Option Addr} {a b : Bs} (ha : RowRd ByteR w ao a) (hb : RowRd ByteR w bo b) {na nb : Nat} (hna : a.length = na) (hnb : b.length = nb) (ca cb : Nat) : Calls Tryz.prog 76 #[.slice ao na ca, .slice bo nb cb] w fun e w' => e = .returned (.bool (decide (a = b))) ∧ w = w' := by
  subst hna hnb
  exact equal_any ha hb ca cb
theorem told_take {d : DK} {h : Bs} {i n : Nat} (hi : i ≤ n) : (toldL d h n).take i = toldL d h i := by
  unfold toldL
  rw [← List.map_take, List.take_range, Nat.min_eq_left hi]
theorem told_bad {d : DK} {h : Bs} {i n : Nat} (hi : i ≤ n) (hb : (toldL d h i).all (fun w => isJ d w.1) = false) : (toldL d h n).all (fun w => isJ d w.1) = false := by
  rw [← told_take hi] at hb
  rw [← Bool.not_eq_true] at hb ⊢
  rw [List.all_eq_true] at hb ⊢
  exact fun h => hb (fun x hx => h x (List.mem_of_mem_take hx))
theorem or_byte (a b : UInt8) : bits .or .i64 ((a.toNat : Int) * 256) (b.toNat : Int) = ((a.toNat * 256 + b.toNat : Nat) : Int) := by
  have ha := a.toNat_lt
  have hb := b.toNat_lt
  show IntKind.i64.wrap ((BitVec.ofInt 64 ((a.toNat : Int) * 256) ||| BitVec.ofInt 64 (b.toNat : Int)).toNat : Int) = _
  have e1 : (BitVec.ofInt 64 ((a.toNat : Int) * 256)).toNat = a.toNat * 256 := by
    rw [show ((a.toNat : Int) * 256) = ((a.toNat * 256 : Nat) : Int) by omega, BitVec.ofInt_natCast, BitVec.toNat_ofNat]
    exact Nat.mod_eq_of_lt (by omega)
  have e2 : (BitVec.ofInt 64 (b.toNat : Int)).toNat = b.toNat := by
    rw [BitVec.ofInt_natCast, BitVec.toNat_ofNat]
    exact Nat.mod_eq_of_lt (by omega)
  have e3 : a.toNat * 256 ||| b.toNat = a.toNat * 256 + b.toNat := by
    have := Nat.shiftLeft_add_eq_or_of_lt (b := b.toNat) (i := 8) (by omega) a.toNat
    rw [Nat.shiftLeft_eq] at this
    exact this.symm
  rw [BitVec.toNat_or, e1, e2, e3]
  exact IntWalk.i64_in _ (by omega)
set_option maxRecDepth 100000 in
set_option maxHeartbeats 3200000 in
theorem jtold_any {j L : Nat} {d : DK} {bad : Int} {w : World} {H : Nat → Prop} (hj : JAt j L d bad w H) {ho : Option Addr} {h : Bs} (hh : RowRd ByteR w ho h) (hc : Nat) (hhl : h.length = d.size) (_hoff : d.off = false) (_hn : 10 ≤ d.safe.length) (hcap : h.length ≤ hc) :
    Calls Tryz.prog 56 #[.pointer (some ⟨j, 0, none⟩), .slice ho h.length hc] w (ToldP d h w) := by
  have HA := Lib.hid hj
  have HR := Lib.hid hh
  obtain ⟨c0, -, -, hjl⟩ := hj.cells
  have C0 := Lib.hid c0
  have hs0 := hj.good.s0
  have hs1 := hj.good.s1
  have hn1 := hj.good.n1
  have hsz := hj.good.sizes
  have HH := Lib.hid (JAt.ok.lt hj)
  have hl64 : 64 ≤ h.length := by omega
  obtain ⟨b, off, rfl, hbl⟩ := byte_addr hh (i := 0) (by omega)
  have y0 := byte_rd hh (i := 0) (by omega)
  have y1 := byte_rd hh (i := 1) (by omega)
  have g0 : h.getD 0 0 = h[0]'(by omega) := by simp [List.getD, List.getElem?_eq_getElem (show 0 < h.length by omega)]
  have g1 : h.getD 1 0 = h[1]'(by omega) := by simp [List.getD, List.getElem?_eq_getElem (show 1 < h.length by omega)]
  have HTB := Lib.hid (show toldB d h = (let n := (h[1]'(by omega)).toNat
    decide (h[0]'(by omega) = 1) && decide (1 ≤ n) && decide (n ≤ 8) && (toldL d h n).all (fun w => isJ d w.1) && decide (sumB (toldL d h n) = (h.drop 18).take 4)) by unfold toldB; rw [g0, g1])
  have HG1 := Lib.hid g1
  generalize h[0]'(by omega) = b0 at *
  generalize h[1]'(by omega) = b1 at *
  unfold byteV at y0 y1
  rw [Nat.add_zero] at y0
  have hb0 := b0.toNat_lt
  have hb1 := b1.toNat_lt
  clear g0 g1 hj hh
  by_cases hok : b0 = 1 ∧ 1 ≤ b1.toNat ∧ b1.toNat ≤ 8
  · obtain ⟨hk0, hk1, hk2⟩ := hok
    have hb0' : ((b0.toNat : Int) != 1) = false := by rw [hk0]; rfl
    have HK0 := Lib.hid hk0
    clear hk0
    go_enter Tryz.func56, Tryz.ntmps56
    go_wp2_with fail
    go_loopw [7, 29] (fun s7 s29 wr => ∃ (i : Nat) (lo : Option Addr) (lc : Nat) (ws : List (Int × SV)), i ≤ b1.toNat ∧ s29 = .int .i64 i ∧ s7 = .slice lo i lc ∧ OwnW w wr lo i lc ws (toldL d h i) ∧ Hid ((toldL d h i).all (fun w => isJ d w.1) = true)) (fun _ s29 _ => b1.toNat - (intOf s29).toNat)
    case atStart => exact ⟨0, none, 0, [], Nat.zero_le _, rfl, rfl, OwnW.nil (Fr.refl _ _), Lib.hid rfl⟩
    case round =>
      obtain ⟨i, lo, lc, ws, hi, rfl, rfl, hW, HI⟩ := hrel
      have HW := Lib.hid hW
      have hf := hW.fr
      have Hf := Lib.hid hf
      have hsz0 := hf.size
      have x0 := (hf.cell (p := ⟨j, 0, none⟩) hjl (fun x => x)).trans C0.out
      clear hW y0 y1 c0
      by_cases hlt : i < b1.toNat
      · have q1 : (i : Int) < (b1.toNat : Int) := by omega
        have hrd := HR.out.fr0 hf
        have ya := byte_rd hrd (i := 2 + 2 * i) (by omega)
        have yb := byte_rd hrd (i := 3 + 2 * i) (by omega)
        have ga : h.getD (2 + 2 * i) 0 = h[2 + 2 * i]'(by omega) := by simp [List.getD, List.getElem?_eq_getElem (show 2 + 2 * i < h.length by omega)]
        have gb : h.getD (3 + 2 * i) 0 = h[3 + 2 * i]'(by omega) := by simp [List.getD, List.getElem?_eq_getElem (show 3 + 2 * i < h.length by omega)]
        have htl : toldL d h (i + 1) = toldL d h i ++ [((((h[2 + 2 * i]'(by omega)).toNat * 256 + (h[3 + 2 * i]'(by omega)).toNat : Nat) : Int), d.readB (1 + (i : Int)))] := by
          unfold toldL
          rw [List.range_succ, List.map_append, List.map_singleton, ga, gb, show ((1 + i : Nat) : Int) = 1 + (i : Int) by omega]
        generalize h[2 + 2 * i]'(by omega) = ba at *
        generalize h[3 + 2 * i]'(by omega) = bb at *
        have hor := or_byte ba bb
        obtain ⟨sec, hsec⟩ : ∃ sec : Nat, ba.toNat * 256 + bb.toNat = sec := ⟨_, rfl⟩
        rw [hsec] at hor htl
        have hsl : (sec : Int) < 65536 := by have := ba.toNat_lt; have := bb.toNat_lt; omega
        have Htl := Lib.hid htl
        clear hsec
        unfold byteV at ya yb
        have hba := ba.toNat_lt
        have hbb := bb.toNat_lt
        have hba1 : (ba.toNat : Int) < 256 := by omega
        have hbb1 : (bb.toNat : Int) < 256 := by omega
        clear ga gb htl hrd hf
        go_wp2_with fail
        obtain ⟨G, hG, -, -⟩ := (JAt.ok.fr0 HA.out Hf.out).disk
        refine (read_any hG _).mono ?_
        rintro e w2 ⟨s, rfl, hls, hrs, hfs, hns⟩
        have HF2 := Lib.hid (Hf.out.trans' hfs)
        have HFs := Lib.hid hfs
        have HNs := Lib.hid hns
        obtain ⟨sa, sn, sc⟩ := s
        simp only at hls
        obtain ⟨rb, hrb⟩ : ∃ rb, d.readB (1 + (i : Int)) = rb := ⟨_, rfl⟩
        rw [hrb] at hls hrs Htl
        subst hls
        have HRs := Lib.hid hrs
        unfold SV.val
        simp only
        obtain ⟨x, hx⟩ : ∃ x, d.readE (1 + (i : Int)) = x := ⟨_, rfl⟩
        rw [hx]
        have ya2 := (hfs.cell (p := ⟨b, off + (2 + 2 * i), none⟩) (lt_of_cell ya) (fun x => x)).trans ya
        have yb2 := (hfs.cell (p := ⟨b, off + (3 + 2 * i), none⟩) (lt_of_cell yb) (fun x => x)).trans yb
        have HY := Lib.hid (fun (W : World) (hW : Fr noBlock w2 W) => And.intro ((hW.cell (p := ⟨b, off + (2 + 2 * i), none⟩) (lt_of_cell ya2) (fun x => x)).trans ya2) ((hW.cell (p := ⟨b, off + (3 + 2 * i), none⟩) (lt_of_cell yb2) (fun x => x)).trans yb2))
        have x2 := (hfs.cell (p := ⟨j, 0, none⟩) (lt_of_cell x0) (fun x => x)).trans x0
        clear hfs hns hrs hG ya yb x0 ya2 yb2 hrb hx
        go_upto_region 9 with (fail)
        have wp1 : IntKind.i64.wrap (2 * (i : Int)) = 2 * (i : Int) := IntWalk.i64_in _ (by omega)
        have wp2 : IntKind.i64.wrap (2 + 2 * (i : Int)) = 2 + 2 * (i : Int) := IntWalk.i64_in _ (by omega)
        have wp3 : IntKind.i64.wrap (3 + 2 * (i : Int)) = 3 + 2 * (i : Int) := IntWalk.i64_in _ (by omega)
        have wp4 : IntKind.i64.wrap ((ba.toNat : Int) * 256) = (ba.toNat : Int) * 256 := IntWalk.i64_in _ (by omega)
        have wp5 : IntKind.i64.wrap (ba.toNat : Int) = (ba.toNat : Int) := IntWalk.i64_in _ (by omega)
        have wp6 : IntKind.i64.wrap (bb.toNat : Int) = (bb.toNat : Int) := IntWalk.i64_in _ (by omega)
        have hq1 : (0 : Int) ≤ 2 + 2 * (i : Int) := by omega
        have hq2 : 2 + 2 * (i : Int) < (d.size : Int) := by omega
        have hq3 : (0 : Int) ≤ 3 + 2 * (i : Int) := by omega
        have hq4 : 3 + 2 * (i : Int) < (d.size : Int) := by omega
        have ht1 : (2 + 2 * (i : Int)).toNat = 2 + 2 * i := by omega
        have ht2 : (3 + 2 * (i : Int)).toNat = 3 + 2 * i := by omega
        go_region_held3 (fun W => W.cell? ⟨b, off + (2 + 2 * i), none⟩ = some (.int .u8 (ba.toNat : Int)) ∧ W.cell? ⟨b, off + (3 + 2 * i), none⟩ = some (.int .u8 (bb.toNat : Int))) (first | exact HY.out _ ((Fr.refl _ _).drew) | exact HY.out _ (((Fr.refl _ _).alloc _).drew) | exact HY.out _ (((Fr.refl _ _).drew).alloc _)) (fail)
        clear wp1 wp2 wp3 wp4 wp5 wp6 ht1 ht2 hq1 hq2 hq3 hq4 hor
        have fA := ((Fr.refl noBlock w2).alloc (.cells #[.int .i64 (sec : Int), .slice sa rb.length sc] 79)).drew
        have HFA := Lib.hid fA
        clear fA
        go_wp2_with fail
        refine (jis_any (JAt.ok.fr0 HA.out (HF2.out.trans' HFA.out)) (sec : Int)).mono ?_
        rintro e w3 ⟨rfl, rfl⟩
        cases hj : isJ d (sec : Int) with
        | false =>
          have hbad : toldB d h = false := by
            have h1 : (toldL d h (i + 1)).all (fun w => isJ d w.1) = false := by rw [Htl.out, List.all_append]; simp [hj]
            have h2 := told_bad (n := b1.toNat) (by omega) h1
            rw [HTB.out, h2]
            simp
          have Hbad := Lib.hid hbad
          clear hbad hj
          go_wp2_with fail
          go_ret2
          exact ⟨none, 0, 0, by rw [Hbad.out]; rfl, HF2.out.trans' HFA.out, fun h => by rw [Hbad.out] at h; cases h⟩
        | true =>
          have hI2 : (toldL d h (i + 1)).all (fun w => isJ d w.1) = true := by rw [Htl.out, List.all_append, HI.out]; simp [hj]
          have HI2 := Lib.hid hI2
          have hi2 : i + 1 ≤ b1.toNat := by omega
          clear hj hI2 hlt
          go_upto_region 12 with (fail)
          have hbx := heap_new w2 (.cells #[.int .i64 (sec : Int), .slice sa rb.length sc] 79 (0, 0))
          refine wp_at (φ := fun W => Fr noBlock w2 W ∧ W.cell? ⟨w2.heap.size, 0, none⟩ = some (.int .i64 (sec : Int)) ∧ W.cell? ⟨w2.heap.size, 1, none⟩ = some (.slice sa rb.length sc)) ⟨HFA.out, cell_of hbx 0, cell_of hbx 1⟩ ?_
          rintro w4 ⟨f4, z0, z1⟩
          have HF4 := Lib.hid f4
          have hFF := Lib.hid (HFs.out.trans' f4)
          have hsz4 := hFF.out.size
          clear f4 hbx
          go_wp2_with (at_builtin; apply stop_here)
          refine ⟨?_, trivial⟩
          refine wpList_app rfl _ _ rfl el_writes (v := .slice lo i lc) ws [((sec : Int), (⟨sa, rb.length, sc⟩ : SV))] (ws ++ [((sec : Int), (⟨sa, rb.length, sc⟩ : SV))]) rfl w.heap.size i (i + 1) (by rw [List.length_append, HW.out.len]; rfl) rfl (HW.out.own' (hFF.out.alloc _)) rfl (RowRd.one (heap_new w4 _) ((sec : Int), (⟨sa, rb.length, sc⟩ : SV)) rfl) rfl (by unfold maxLen; omega) (by omega) (by simp; omega) ?_
          intro lo5 lc5 w5 o5 g5 _
          go_frame
          have hM := HW.out.more (hFF.out.alloc (.cells #[.int .i64 (sec : Int), .slice sa rb.length sc] 79)) (x := ((sec : Int), (⟨sa, rb.length, sc⟩ : SV))) (q := ((sec : Int), rb)) rfl rfl (HRs.out.fr0 (HF4.out.alloc _)) (fun k hk => Nat.le_trans hsz0 (HNs.out k hk)) o5 rfl g5
          rw [← Htl.out] at hM
          have HM := Lib.hid hM
          clear hM o5 g5
          go_wp2_with fail
          go_roundw
          case rel => exact ⟨i + 1, lo5, lc5, _, hi2, by go_num, rfl, HM.out, HI2⟩
          case measure => simp [intOf]; omega
      · have q1 : (b1.toNat : Int) ≤ (i : Int) := by omega
        have e : i = b1.toNat := by omega
        subst e
        have hlen := HW.out.len2
        have hJ := HW.out.jwrs HH.out
        have hsb : sumB (toldL d h b1.toNat) = sumB (toldL d h b1.toNat) := rfl
        have Hsum := Lib.hid (fun (W : World) (hW : Fr noBlock wr W) => jsum_any (hJ.fr hW) lc (by omega))
        rw [hlen] at Hsum
        have HT2 := HTB.out
        rw [HI.out, HK0.out] at HT2
        have hd1 : decide (1 ≤ b1.toNat) = true := by simpa using hk1
        have hd2 : decide (b1.toNat ≤ 8) = true := by simpa using hk2
        rw [hd1, hd2] at HT2
        simp only [decide_true, Bool.true_and] at HT2
        have HT3 := Lib.hid HT2
        have hhr : RowRd ByteR w (some ⟨b, off + 18, none⟩) ((h.drop 18).take 4) := by
          have := HR.out.piece 18 4
          simpa [byteK] using this
        have hhl4 : ((h.drop 18).take 4).length = 4 := by simp; omega
        have Hhr := Lib.hid hhr
        have hne : ¬ hc = 18 := by omega
        have hic : (22 : Int) ≤ (hc : Int) := by omega
        clear hlen hJ hsb HT2 hd1 hd2 hhr hlt hf
        go_wp2_with fail
        go_region_held3 (fun W => True) (trivial)
          (first
            | (go_at_call 72; (with_reducible refine (Hsum.out _ ((Fr.refl _ _).drew)).mono ?_); rintro e w5 ⟨s5, rfl, h5a, h5b, h5c, h5d⟩; obtain ⟨sa, sn, sc⟩ := s5; simp only at h5a; rw [sumB_len] at h5a; subst h5a; unfold SV.val; dsimp only)
            | (go_at_call 76; (with_reducible refine (equal_len (RowAt.rd h5b) (Hhr.out.fr0 ((Hf.out.drew).trans' h5c)) (sumB_len _) hhl4 sc (hc - 18)).mono ?_); rintro e w6 ⟨rfl, rfl⟩))
        have HF5 := Lib.hid ((Hf.out.drew).trans' h5c)
        have HW5 := Lib.hid (HW.out.to (((Fr.refl noBlock wr).drew).trans' h5c))
        clear h5b h5c h5d
        go_wp2_with fail
        go_ret2
        exact ⟨lo, b1.toNat, lc, by rw [HT3.out]; rfl, HF5.out, fun _ => ⟨ws, by rw [HG1.out]; exact HW5.out⟩⟩
  · have hbad : toldB d h = false := by
      have hT := HTB.out
      simp only at hT
      rw [hT]
      by_cases h0 : b0 = 1
      · have : ¬ (1 ≤ b1.toNat ∧ b1.toNat ≤ 8) := fun h => hok ⟨h0, h⟩
        by_cases h1 : 1 ≤ b1.toNat
        · have h2 : decide (b1.toNat ≤ 8) = false := decide_eq_false (fun h => this ⟨h1, h⟩)
          rw [h2]; simp
        · have h2 : decide (1 ≤ b1.toNat) = false := decide_eq_false h1
          rw [h2]; simp
      · have h2 : decide (b0 = 1) = false := decide_eq_false h0
        rw [h2]; simp
    have Hbad := Lib.hid hbad
    have hcs : ((b0.toNat : Int) != 1) = true ∨ (((b0.toNat : Int) != 1) = false ∧ (b1.toNat : Int) < 1) ∨ (((b0.toNat : Int) != 1) = false ∧ (1 : Int) ≤ (b1.toNat : Int) ∧ (8 : Int) < (b1.toNat : Int)) := by
      by_cases h0 : b0 = 1
      · have hx : ((b0.toNat : Int) != 1) = false := by rw [h0]; rfl
        have : ¬ (1 ≤ b1.toNat ∧ b1.toNat ≤ 8) := fun h => hok ⟨h0, h⟩
        by_cases h1 : 1 ≤ b1.toNat
        · exact .inr (.inr ⟨hx, by omega, by omega⟩)
        · exact .inr (.inl ⟨hx, by omega⟩)
      · left
        have : b0.toNat ≠ 1 := fun h => h0 (by rw [← UInt8.toNat_inj]; exact h)
        simp; omega
    clear hbad hok
    rcases hcs with q | ⟨q, q2⟩ | ⟨q, q2, q3⟩
    all_goals
      go_enter Tryz.func56, Tryz.ntmps56
      go_wp2_with fail
      go_ret2
      exact ⟨none, 0, 0, by rw [Hbad.out]; rfl, Fr.refl _ _, fun h => by rw [Hbad.out] at h; cases h⟩
end Go.Proofs.YthabllnhlhkejaaGreatDoor
