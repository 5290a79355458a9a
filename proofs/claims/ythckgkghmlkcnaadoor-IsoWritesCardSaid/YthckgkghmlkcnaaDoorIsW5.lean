/-
  THE WALK of the document's Bytes.
-/
import Derived.Laws.IdiomStrings
import Derived.Test.YthckgkghmlkcnaaDoorIsW4
namespace Go.Proofs.YthckgkghmlkcnaaDoor
open Go.RowKit

theorem conv_sb (W : World) (s : ByteArray) (hs : s.size ≤ maxLen) : ∃ ao cap w', (convert 9 22 (.string s)).run Tryd.prog W = .ok (.slice ao s.size cap) w' ∧ RowRd ByteR w' ao (bl s) ∧ Fr noBlock W w' := by
  refine ⟨_, _, _, run_bytes_of_string W 9 22 5 s Tryd.underlying9 Tryd.underlying22 Tryd.underlying5, ?_, (Fr.refl noBlock W).drew.alloc _⟩
  refine ⟨by rw [bl_len]; exact hs, fun i hi => ⟨W.heap.size, 0, rfl, heap_lt (heap_new W.drew _), fun j u hu => ?_⟩⟩
  have hj : j = 0 := by
    have := (List.getElem?_eq_some_iff.1 hu).1
    have e : (ByteR.cells (bl s)[i]).length = 1 := rfl
    omega
  subst hj
  rw [byteK, Nat.mul_one, Nat.zero_add, Nat.add_zero]
  have hsz : i < s.data.size := by have := hi; rw [bl_len] at this; exact this
  have c := cell_of (heap_new W.drew (.cells (bytesRow s (grownCap W s.size 0 5)) 5 ((bytesRow s (grownCap W s.size 0 5)).size, (bytesRow s (grownCap W s.size 0 5)).size + 1))) i
  rw [bytesRow_at s _ i hsz] at c
  have hu2 : u = .int .u8 (s.data[i].toNat : Int) := (Option.some.inj hu).symm
  rw [hu2]
  exact c
theorem getD_set_ne (a : Bs) {i j : Nat} (c : UInt8) (h : i ≠ j) : (a.set i c).getD j 0 = a.getD j 0 := by
  rw [List.getD_eq_getElem?_getD, List.getD_eq_getElem?_getD, List.getElem?_set_ne h]
/-- bits in other bytes -/
theorem bits_swap (a : Bs) {k : Nat} (hk : 8 ≤ k) : setBit (setBit a 0) k = setBit (setBit a k) 0 := by
  unfold setBit
  have h0 : 0 / 8 = 0 := rfl
  rw [h0]
  have hq : k / 8 ≠ 0 := by omega
  rw [getD_set_ne _ _ (fun e => hq e.symm), getD_set_ne _ _ hq, List.set_comm _ _ hq]
theorem maps_first {l : List Fld} (hf : ∀ f ∈ l, 2 ≤ f.n ∧ f.n ≤ 128) : (mapF (zeros 16) l).length = 16 ∧ (above l = true ↔ 128 ≤ ((mapF (zeros 16) l).getD 0 0).toNat) := by
  obtain ⟨h1, h2⟩ := mapF_bit l (zeros 16) hf (by simp [zeros])
  refine ⟨h1, ?_⟩
  have h0 := h2 0
  have hn : hasN l 0 = false := by
    unfold hasN
    rw [List.any_eq_false]
    intro f hm
    have := (hf f hm).1
    simp
    omega
  rw [zeros_bit, hn] at h0
  unfold bitAt bitC at h0
  obtain ⟨c, hc⟩ : ∃ c, (mapF (zeros 16) l).getD 0 0 = c := ⟨_, rfl⟩
  rw [show (0 : Nat) / 8 = 0 from rfl, show (0 : Nat) % 8 = 0 from rfl, hc] at h0
  rw [hc]
  have hlt := c.toNat_lt
  simp at h0
  rw [← h0, decide_eq_true_iff]
  omega
set_option maxRecDepth 100000 in
set_option maxHeartbeats 3200000 in
theorem rbytes_any (t : ByteArray) {ao : Option Addr} {l : List Fld} {w : World} (h : RowRd FldR w ao l) (cap : Nat) (hs : SmallM t l) : Calls Tryd.prog 18 #[.agg #[.string t, .slice ao l.length cap]] w (ReadP (bytesR t l) (rightM t l) w) := by
  have HR := Lib.hid h
  have HRt := Lib.hid (fun W (f : Fr noBlock w W) => rright_any t (h.fr0 f) cap hs)
  unfold bytesR
  by_cases hz : rightM t l = 0
  · obtain ⟨hv, hrf⟩ : valueE (bl t) 1 4 = 0 ∧ rightF 0 l = 0 := by
      unfold rightM at hz
      split at hz
      · rename_i hx; exact absurd hz hx
      · rename_i hx; exact ⟨by simpa using hx, hz⟩
    have hn103 := right_len hrf
    obtain ⟨hfs, hpw⟩ := right_fields l 0 hrf
    have HFs := Lib.hid (fun (f : Fld) (hf : f ∈ l) => (hfs f hf).2)
    obtain ⟨ho, -, hv4⟩ := value_ok hv
    have hv4 := hv4 (by omega)
    have ht4 : t.size = 4 := by rw [bl_len] at hv4; omega
    have HPk := Lib.hid (fun W => rpack_new t W (other_dig (.inl rfl) ho) (by omega))
    unfold ReadP at HPk
    have hmk0 : ∃ Z : Array Value, Z.toList = ByteR.flat (zeros 16) ∧ ∀ W : World, (Instr.makeSlice 22 (.int .i64 16) (.int .i64 16)).run Tryd.prog W = .ok (.slice (some ⟨W.heap.size, 0, none⟩) 16 16) (W.alloc (.cells Z 5)) := by
      obtain ⟨i, z, hi, hz, hs, hby, hzs⟩ := el_bytes.info
      have hz' : z = .int .u8 0 := by
        have := infoB
        rw [hi] at this
        simp at this
        rw [hz] at this
        simpa using this.1
      subst hz'
      refine ⟨madeCells #[.int .u8 0] 16, ?_, fun W => ?_⟩
      · have hl : (madeCells #[Value.int .u8 0] 16).toList = List.replicate 16 (.int .u8 0) := toList_madeCells_one _ _
        rw [hl]
        rfl
      · have := run_make W 22 5 i _ Tryd.underlying22 hi hz .i64 .i64 16 16 (by omega) (by omega) (by rw [hby]; omega) (by omega)
        rw [this, hs, byteK]
        rfl
    obtain ⟨Z, hZ, hmk⟩ := hmk0
    have HZ := Lib.hid hZ
    rw [if_pos hz, hz]
    unfold RightP at HRt
    rw [hz] at HRt
    clear h hs hz hv hrf hfs hpw ho hv4 hZ
    go_enter Tryd.func18, Tryd.ntmps18
    go_wp2_with fail
    refine (HRt.out _ ((Fr.refl _ _).alloc _)).mono ?_
    rintro e w1 ⟨rfl, f1⟩
    have HB1 := Lib.hid (f1.obj (heap_new w (.cells #[.string t, .slice ao l.length cap] 27)) (fun x => x))
    have HF1 := Lib.hid (((Fr.refl noBlock w).alloc (.cells #[.string t, .slice ao l.length cap] 27)).trans' f1)
    have x0 := cell_of HB1.out 0
    simp at x0
    clear f1 HRt
    go_wp2_with fail
    refine (HPk.out _).mono ?_
    rintro e w2 ⟨⟨pa, pn, pc⟩, rfl, h1, h2, h3, h4⟩
    unfold SV.val at h2 h4 ⊢
    dsimp only at h1 h2 h4 ⊢
    have hpn : pn ≤ 2 := by rw [h1, packB_len, bl_len, ht4]; decide
    have HP2 := Lib.hid (OwnB.of_row (w0 := w) h2 (fun k hk => Nat.le_trans HF1.out.size (h4 k hk)) (HF1.out.trans' h3))
    have HB2 := Lib.hid (h3.obj HB1.out (fun x => x))
    clear h1 h2 h3 h4 x0 HB1 HF1
    have HO0 := Lib.hid (show Own2 w2 (w2.alloc (.cells Z 5)) (some ⟨w2.heap.size, 0, none⟩) 16 16 (mapF (zeros 16) (l.take 0)) none 0 0 (restB (l.take 0)) by
      have hzs : Z.size = 16 := by have := congrArg List.length HZ.out; rw [ByteR.flat_len] at this; simpa [zeros, byteK] using this
      refine ⟨⟨⟨ByteR.flat_len _, .inr ⟨w2.heap.size, 16, Z, rfl, Nat.le_refl _, heap_new w2 _, Nat.le_refl _, by decide, by rw [byteK, Nat.mul_one]; exact hzs, ?_⟩⟩, rfl, (Fr.refl _ _).alloc _⟩, OwnB.nil ((Fr.refl _ _).alloc _), fun k _ e => by cases e⟩
      rw [byteK, Nat.mul_one, HZ.out]
      rfl)
    obtain ⟨g, hg⟩ : ∃ g, w2.heap.size = g := ⟨_, rfl⟩
    rw [hg] at HO0
    go_wp2_with fail
    clear hg hmk HZ HPk hv4 ht4
    go_loopw [8, 9] (fun s8 s9 wr => ∃ (i : Nat) (ro : Option Addr) (rm rc : Nat), i ≤ l.length ∧ s9 = .int .i64 i ∧ s8 = .slice ro rm rc ∧ Hid (Own2 w2 wr (some ⟨g, 0, none⟩) 16 16 (mapF (zeros 16) (l.take i)) ro rm rc (restB (l.take i)))) (fun _ s9 _ => l.length - (intOf s9).toNat)
    case atStart => exact ⟨0, none, 0, 0, Nat.zero_le _, rfl, rfl, HO0⟩
    case round =>
      obtain ⟨i, ro, rm, rc, hi, rfl, rfl, HI⟩ := hrel
      clear HO0
      have HBr := Lib.hid (HI.out.one.fr.obj HB2.out (fun x => x))
      have x0 := cell_of HBr.out 0
      have x1 := cell_of HBr.out 1
      simp at x0 x1
      clear HBr
      by_cases hlt : i < l.length
      · have q1 : (i : Int) < (l.length : Int) := by omega
        have q0 : (0 : Int) ≤ (i : Int) := by omega
        have hi1 : i + 1 ≤ l.length := hlt
        obtain ⟨b, off, rfl, hb, y0, y1⟩ := fld_cells (HR.out.fr0 (HP2.out.fr.trans' HI.out.one.fr)) hlt
        have HY := Lib.hid (show ∀ W, Fr noBlock w2 W → W.cell? ⟨b, off + i * 2, none⟩ = some (.int .i64 l[i].n) ∧ W.cell? ⟨b, off + i * 2 + 1, none⟩ = some (.string l[i].v) ∧ W.cell? ⟨w.heap.size, 0, none⟩ = some (.string t) ∧ W.cell? ⟨w.heap.size, 1, none⟩ = some (.slice (some ⟨b, off, none⟩) l.length cap) from fun W hf => by
          obtain ⟨b', off', e, _, z0, z1⟩ := fld_cells (HR.out.fr0 (HP2.out.fr.trans' hf)) hlt
          cases e
          have hb := hf.obj HB2.out (fun x => x)
          have c0 := cell_of hb 0
          have c1 := cell_of hb 1
          simp at c0 c1
          exact ⟨z0, z1, c0, c1⟩)
        have htk : l.take (i + 1) = l.take i ++ [l[i]] := List.take_succ_eq_append_getElem hlt
        obtain ⟨hfo, hfv⟩ := HFs.out l[i] (List.getElem_mem hlt)
        have hml : (mapF (zeros 16) (l.take i)).length = 16 := (mapF_bit (l.take i) (zeros 16) (fun f hf => by have := fmt_range (HFs.out f (List.mem_of_mem_take hf)).1; omega) (by simp [zeros])).1
        have hmf := mapF_snoc (l.take i) (zeros 16) l[i]
        have hrb := restB_snoc (l.take i) l[i]
        rw [← htk] at hmf hrb
        have hrl := restB_len (l.take i) (fun f hf => HFs.out f (List.mem_of_mem_take hf))
        rw [HI.out.two.len, List.length_take] at hrl
        have hfl := field_len hfo hfv
        rw [bl_len] at hfl
        obtain ⟨hn2, hn102⟩ := fmt_range hfo
        have F := fmt_facts hfo
        obtain ⟨ho, hk1, hk2⟩ := value_ok hfv
        obtain ⟨L, hL⟩ : ∃ L, mapF (zeros 16) (l.take i) = L := ⟨_, rfl⟩
        obtain ⟨R, hRR⟩ : ∃ R, restB (l.take i) = R := ⟨_, rfl⟩
        rw [hL] at hml hmf HI
        rw [hRR] at hrb HI
        have Hmf := Lib.hid hmf
        have Hrb := Lib.hid hrb
        have HFF := Lib.hid F
        clear htk hL hRR hmf hrb F hfo hfv
        generalize l[i] = f at *
        obtain ⟨fn, fv⟩ := f
        simp only at y0 y1 hn2 hn102 HY hfl ho hk1 hk2 HFF
        obtain ⟨nn, hnn⟩ : ∃ nn : Nat, fn = (nn : Int) + 1 := ⟨(fn - 1).toNat, by omega⟩
        subst hnn
        have hnt : ((nn : Int) + 1).toNat - 1 = nn := by omega
        have Hmf2 := Lib.hid (show mapF (zeros 16) (l.take (i + 1)) = if 64 ≤ nn then setBit (setBit L nn) 0 else setBit L nn by
          rw [Hmf.out]
          show setBit (if 64 < (nn : Int) + 1 then setBit L 0 else L) (((nn : Int) + 1).toNat - 1) = _
          rw [hnt]
          by_cases h64 : 64 ≤ nn
          · rw [if_pos h64, if_pos (by omega), bits_swap L (by omega)]
          · rw [if_neg h64, if_neg (by omega)])
        obtain ⟨kd, hkd⟩ : ∃ x, kindOf ((nn : Int) + 1) = x := ⟨_, rfl⟩
        obtain ⟨lg, hlg⟩ : ∃ x, longOf ((nn : Int) + 1) = x := ⟨_, rfl⟩
        obtain ⟨a, ha⟩ : ∃ x, ah ((nn : Int) + 1) = x := ⟨_, rfl⟩
        have HFm := Lib.hid (fun W => rformat_any ((nn : Int) + 1) W)
        unfold FmtP at HFm
        rw [hkd, hlg] at HFm
        have haK : ahK kd lg = a := by rw [← ha, ← hkd, ← hlg]; rfl
        have HAh := Lib.hid (fun W => rahead_any kd lg W)
        rw [haK] at HAh
        have hfb : fieldB ((nn : Int) + 1) (bl fv) = (if 0 < a then packB (textB fv.size a) else []) ++ (if packedK kd = true then packB (bl fv) else bl fv) := by unfold fieldB; rw [ha, hkd, bl_len]
        have Hrb2 := Lib.hid (show restB (l.take (i + 1)) = R ++ (if 0 < a then packB (textB fv.size a) else []) ++ (if packedK kd = true then packB (bl fv) else bl fv) from Hrb.out.trans (by rw [List.append_assoc]; exact congrArg _ hfb))
        have hdig : packedK kd = true → (bl fv).all isDig = true := fun h => other_dig (packed_iff.1 h) (by rw [← hkd]; exact ho)
        have HDig := Lib.hid (fun (h : packedK kd = true) W => rpack_new fv W (hdig h) hfl)
        have HA1 := Lib.hid (show 0 < a → (a = 2 ∨ a = 3) ∧ fv.size < 10 ^ a by
          intro h
          obtain ⟨q1, q2, q3⟩ := HFF.out.a1 (by rw [ha]; exact h)
          rw [ha] at q2 q3
          have := (hk1 q1).2
          rw [bl_len] at this
          exact ⟨q2, by omega⟩)
        obtain ⟨A0, hA0⟩ : ∃ A, (if 0 < a then packB (textB fv.size a) else []) = A := ⟨_, rfl⟩
        obtain ⟨B0, hB0⟩ : ∃ B, (if packedK kd = true then packB (bl fv) else bl fv) = B := ⟨_, rfl⟩
        rw [hA0, hB0] at Hrb2
        have HAp := Lib.hid (show 0 < a → packB (textB fv.size a) = A0 from fun h => by rw [← hA0, if_pos h])
        have HAz := Lib.hid (show ¬ 0 < a → A0 = [] from fun h => by rw [← hA0, if_neg h])
        have HBp := Lib.hid (show packedK kd = true → packB (bl fv) = B0 from fun h => by rw [← hB0, if_pos h])
        have HBz := Lib.hid (show packedK kd = false → bl fv = B0 from fun h => by rw [← hB0, h]; rfl)
        clear hA0 hB0
        obtain ⟨q, hqn⟩ : ∃ q : Nat, nn / 8 = q := ⟨_, rfl⟩
        obtain ⟨j, hjn⟩ : ∃ j : Nat, nn % 8 = j := ⟨_, rfl⟩
        have hj8 : j < 8 := by omega
        have hq16 : q < 16 := by omega
        have hq : (nn : Int) / 8 = (q : Int) := by omega
        have hj : (nn : Int) % 8 = (j : Int) := by omega
        have hqI : (q : Int) < 16 := by omega
        obtain ⟨z0, z1⟩ := byte_at HI.out.one.row (i := q) (by rw [hml]; omega)
        have hL0 : L[q]'(by rw [hml]; omega) = L.getD q 0 := by simp [List.getD, show q < L.length by omega]
        rw [hL0] at z0
        have HPu := Lib.hid (HI.out.put (i := q) (by rw [hml]; omega) (orB (L.getD q 0) j))
        have hset : L.set q (orB (L.getD q 0) j) = setBit L nn := by unfold setBit; rw [hqn, hjn]
        rw [hset] at HPu
        have n1 := or_bit (L.getD q 0) hj8
        have hc256 := (L.getD q 0).toNat_lt
        have hM1 : (setBit L nn).length = 16 := by rw [setBit_len, hml]
        generalize setBit L nn = M1 at *
        generalize orB (L.getD q 0) j = c9 at *
        unfold byteV at z0
        generalize (L.getD q 0).toNat = c8 at *
        have hpw : (128 : Int) / 2 ^ j = ((2 ^ (7 - j) : Nat) : Int) := by
          have hjc : j = 0 ∨ j = 1 ∨ j = 2 ∨ j = 3 ∨ j = 4 ∨ j = 5 ∨ j = 6 ∨ j = 7 := by omega
          rcases hjc with rfl | rfl | rfl | rfl | rfl | rfl | rfl | rfl <;> rfl
        rw [← hpw] at n1
        have N1 := Lib.hid n1
        have haN := haK
        clear hL0 hset hqn hjn n1 hpw hml hkd hlg ha haK haN hfb hdig hlt hk1 hk2 ho HFF Hmf Hrb hnt
        have hd1 : (nn : Int).tdiv 8 = (q : Int) := by rw [Int.tdiv_eq_ediv_of_nonneg (by omega)]; exact hq
        have hd2 : (nn : Int).tmod 8 = (j : Int) := by rw [Int.tmod_eq_emod_of_nonneg (by omega)]; exact hj
        go_upto_region 11 with fail
        go_region
        all_goals
          rw [N1.out]
          go_upto_region 12 with fail
          refine wp_at (φ := fun W => Own2 w2 W (some ⟨g, 0, none⟩) 16 16 M1 ro rm rc R) (HPu.out.«to» ((Fr.refl _ _).drew)) ?_
          rintro w3 hO3
          have HO3 := Lib.hid hO3
          obtain ⟨y0, y1, x0, x1⟩ := HY.out _ hO3.one.fr
          clear hO3 N1 HPu z0 z1 hd1 hd2 HI
          have hmin : min i l.length ≤ 103 := by omega
          have hrm0 : rm ≤ 103103 := by omega
          go_wp2_with fail
          refine (HFm.out _).mono ?_
          rintro e w4 ⟨rfl, rfl⟩
          go_wp2_with fail
          refine (HAh.out _).mono ?_
          rintro e w4 ⟨rfl, rfl⟩
          go_upto_if 71 with fail
          go_cut [8] from 71 to 79 (fun s8 wx => ∃ (r2 : Option Addr) (m2 c2 : Nat), s8 = .slice r2 m2 c2 ∧ m2 ≤ rm + 2 ∧ Hid (Own2 w2 wx (some ⟨g, 0, none⟩) 16 16 M1 r2 m2 c2 (R ++ A0)))
          case first =>
            by_cases hp : 0 < a
            · obtain ⟨ha23, hlt⟩ := HA1.out hp
              have hpI : (0 : Int) < (a : Int) := by omega
              have HCt := Lib.hid (fun W => rcount_new fv.size a W ha23 hlt)
              unfold CloneP at HCt
              have hX : (packB (textB fv.size a)).length ≤ 2 := by rw [packB_len, textB_len]; omega
              rw [HAp.out hp] at HCt hX
              clear hlt ha23 hp
              go_wp2_with fail
              refine (HAh.out _).mono ?_
              rintro e w4 ⟨rfl, rfl⟩
              go_wp2_with fail
              refine (HCt.out _).mono ?_
              rintro e w4 ⟨⟨sa, sn, sc⟩, rfl, h1, h2, h3, h4⟩
              unfold SV.val at h2 ⊢
              dsimp only at h1 h2 ⊢
              have H := Lib.hid (And.intro h1 (And.intro (RowAt.rd h2) h3))
              have hsn : sn ≤ 2 := by omega
              clear h1 h2 h3 h4
              go_wp2_with (at_builtin; apply stop_here)
              refine ⟨?_, trivial⟩
              refine wpList_app rfl _ _ rfl el_bytes (v := .slice ro rm rc) R A0 (R ++ A0) rfl w2.heap.size rm (rm + sn) (by rw [List.length_append, HO3.out.two.len, ← H.out.1]) rfl (HO3.out.two.own' H.out.2.2) rfl H.out.2.1 H.out.1 (by unfold maxLen; omega) (by omega) (HO3.out.two.base H.out.2.2) ?_
              intro ao6 cap6 w6 o6 g6 a6
              go_frame
              have HG := Lib.hid ((HO3.out.symm.grown H.out.2.2 o6 (by rw [List.length_append, HO3.out.two.len, ← H.out.1]) g6 a6).symm)
              clear o6 g6 a6
              go_wp2_with fail
              go_meet
              exact ⟨ao6, rm + sn, cap6, rfl, by omega, HG⟩
            · have hpI : (a : Int) = 0 := by omega
              have hA := Lib.hid (HAz.out hp)
              clear hp
              go_wp2_with fail
              go_meet
              exact ⟨ro, rm, rc, rfl, by omega, by rw [hA.out, List.append_nil]; exact HO3⟩
          obtain ⟨r2, m2, c2, rfl, hm2, HO4⟩ := hcut
          generalize wc = w4 at *
          clear HFm HAh HA1 HAp HAz HO3 x0 x1 y0 y1
          obtain ⟨ba, bc, w5, hcv, hcr, hcf⟩ := conv_sb w4 fv (by unfold maxLen; omega)
          have HC5 := Lib.hid (And.intro hcr hcf)
          clear hcr hcf
          go_upto_region 17 with fail
          go_cut [87] from 82 to 87 (fun s87 wx => s87 = .bool (packedK kd) ∧ wx = w5)
          case first =>
            by_cases k1 : kd = 1
            · have Hpk := Lib.hid (show Value.bool true = .bool (packedK kd) from congrArg _ (packed_iff.2 (.inl k1)).symm)
              go_wp2_with fail
              go_meet
              exact ⟨Hpk.out, rfl⟩
            · by_cases k2 : kd = 2
              · have Hpk := Lib.hid (show Value.bool true = .bool (packedK kd) from congrArg _ (packed_iff.2 (.inr k2)).symm)
                go_wp2_with fail
                go_meet
                exact ⟨Hpk.out, rfl⟩
              · have Hpk := Lib.hid (show Value.bool (kd == 1 || kd == 2) = .bool (packedK kd) from rfl)
                go_wp2_with fail
                go_meet
                exact ⟨Hpk.out, rfl⟩
          obtain ⟨rfl, hw⟩ := hcut
          subst hw
          generalize hpk : packedK kd = pk at *
          have Hpk := Lib.hid hpk
          clear hpk hcv
          go_upto_if 87 with fail
          go_cut [15] from 88 to 92 (fun s15 wx => ∃ (xa : Option Addr) (xn xc : Nat), s15 = .slice xa xn xc ∧ xn ≤ 999 ∧ Hid (xn = B0.length ∧ RowRd ByteR wx xa B0 ∧ Fr noBlock w4 wx))
          case first =>
            cases pk with
            | true =>
              have HD := Lib.hid (HDig.out rfl)
              rw [HBp.out rfl] at HD
              unfold ReadP at HD
              have hbl : B0.length ≤ 999 := by rw [← HBp.out rfl, packB_len, bl_len]; omega
              go_wp2_with fail
              refine (HD.out _).mono ?_
              rintro e w6 ⟨⟨sa, sn, sc⟩, rfl, h1, h2, h3, h4⟩
              unfold SV.val at h2 ⊢
              dsimp only at h1 h2 ⊢
              have H := Lib.hid (show sn = B0.length ∧ RowRd ByteR w6 sa B0 ∧ Fr noBlock w4 w6 from ⟨h1, RowAt.rd h2, HC5.out.2.trans' h3⟩)
              have hsn : sn ≤ 999 := by omega
              clear h1 h2 h3 h4
              go_wp2_with fail
              go_meet
              exact ⟨sa, sn, sc, rfl, hsn, H⟩
            | false =>
              have hb := HBz.out rfl
              have H := Lib.hid (show fv.size = B0.length ∧ RowRd ByteR _ ba B0 ∧ Fr noBlock w4 _ by rw [← hb]; exact ⟨(bl_len fv).symm, HC5.out.1, HC5.out.2⟩)
              clear hb
              go_wp2_with fail
              go_meet
              exact ⟨ba, fv.size, bc, rfl, hfl, H⟩
          obtain ⟨xa, xn, xc, rfl, hxn, HX⟩ := hcut
          generalize wc = w6 at *
          go_wp2_with (at_builtin; apply stop_here)
          refine ⟨?_, trivial⟩
          refine wpList_app rfl _ _ rfl el_bytes (v := .slice r2 m2 c2) (R ++ A0) B0 (R ++ A0 ++ B0) rfl w2.heap.size m2 (m2 + xn) (by rw [List.length_append (bs := B0), HO4.out.two.len, ← HX.out.1]) rfl (HO4.out.two.own' HX.out.2.2) rfl HX.out.2.1 HX.out.1 (by unfold maxLen; omega) (by omega) (HO4.out.two.base HX.out.2.2) ?_
          intro ao7 cap7 w7 o7 g7 a7
          go_frame
          have HG := Lib.hid ((HO4.out.symm.grown HX.out.2.2 o7 (by rw [List.length_append (bs := B0), HO4.out.two.len, ← HX.out.1]) g7 a7).symm)
          rw [← Hrb2.out] at HG
          clear o7 g7 a7 HX HO4
          by_cases h64 : 64 ≤ nn
          · have h64I : (64 : Int) ≤ (nn : Int) := by omega
            rw [if_pos h64] at Hmf2
            obtain ⟨z0, z1⟩ := byte_at HG.out.one.row (i := 0) (by rw [hM1]; omega)
            have hL0 : M1[0]'(by rw [hM1]; omega) = M1.getD 0 0 := by simp [List.getD, hM1]
            rw [hL0] at z0
            have HP := Lib.hid (HG.out.put (i := 0) (by rw [hM1]; omega) (orB (M1.getD 0 0) 0))
            have n1 := or_bit (M1.getD 0 0) (j := 0) (by omega)
            have hset : M1.set 0 (orB (M1.getD 0 0) 0) = setBit M1 0 := rfl
            rw [hset, ← Hmf2.out] at HP
            have hc256 := (M1.getD 0 0).toNat_lt
            generalize orB (M1.getD 0 0) 0 = d9 at *
            unfold byteV at z0
            generalize (M1.getD 0 0).toNat = d8 at *
            have N1 := Lib.hid (show bits .or .u8 (d8 : Int) 128 = (d9.toNat : Int) from n1)
            clear n1 hL0 h64 hset
            go_wp2_with fail
            rw [N1.out]
            go_roundw
            case rel => exact ⟨i + 1, ao7, m2 + xn, cap7, hi1, by go_num, rfl, HP⟩
            case measure => simp [intOf]; omega
          · have h64I : (nn : Int) < 64 := by omega
            rw [if_neg h64] at Hmf2
            rw [← Hmf2.out] at HG
            clear h64
            go_wp2_with fail
            go_roundw
            case rel => exact ⟨i + 1, ao7, m2 + xn, cap7, hi1, by go_num, rfl, HG⟩
            case measure => simp [intOf]; omega
      · have q1 : (l.length : Int) ≤ (i : Int) := by omega
        have e : i = l.length := by omega
        subst e
        rw [List.take_length] at HI
        obtain ⟨hm16, hab⟩ := maps_first (l := l) (fun f hf => by have := fmt_range (HFs.out f hf).1; omega)
        have hrl := restB_len l HFs.out
        rw [HI.out.two.len] at hrl
        have hrm : rm ≤ 103103 := by omega
        obtain ⟨P, hP⟩ : ∃ P, packB (bl t) = P := ⟨_, rfl⟩
        obtain ⟨M, hM⟩ : ∃ M, mapF (zeros 16) l = M := ⟨_, rfl⟩
        obtain ⟨R, hRR⟩ : ∃ R, restB l = R := ⟨_, rfl⟩
        obtain ⟨Q, hQ⟩ : ∃ Q, mapsB l = Q := ⟨_, rfl⟩
        have hres : bytesM t l = P ++ Q ++ R := by rw [← hP, ← hQ, ← hRR]; rfl
        have HRes := Lib.hid hres
        unfold mapsB at hQ
        rw [hM] at hm16 hab HI hQ
        rw [hRR] at HI
        rw [hP] at HP2
        obtain ⟨z0, z1⟩ := byte_at HI.out.one.row (i := 0) (by rw [hm16]; omega)
        have hL0 : M[0]'(by rw [hm16]; omega) = M.getD 0 0 := by simp [List.getD, hm16]
        rw [hL0] at z0
        unfold byteV at z0
        have hc256 := (M.getD 0 0).toNat_lt
        generalize (M.getD 0 0).toNat = d8 at *
        by_cases ha : above l = true
        · have hd8 : (128 : Int) ≤ (d8 : Int) := by have := hab.1 ha; omega
          rw [if_pos ha] at hQ
          subst hQ
          have HQl := Lib.hid hm16
          have HRd := Lib.hid (show RowRd ByteR wr (some ⟨g, 0, none⟩) M from HI.out.one.rd)
          clear hab ha hres hL0 hM hRR hP hlt hrl hm16
          go_wp2_with (at_builtin; apply stop_here)
          refine ⟨?_, trivial⟩
          refine wpList_app rfl _ _ rfl el_bytes (v := .slice pa pn pc) P M (P ++ M) rfl w.heap.size pn (pn + 16) (by rw [List.length_append, HP2.out.len, HQl.out]) rfl (HP2.out.own' HI.out.one.fr) rfl HRd.out HQl.out.symm (by unfold maxLen; omega) (by omega) (HP2.out.base HI.out.one.fr) ?_
          intro ao6 cap6 w6 o6 g6 a6
          go_frame
          have HG6 := Lib.hid (HP2.out.grown HI.out.one.fr o6 (by rw [List.length_append, HP2.out.len, HQl.out]) g6)
          have hfg : Fr (fun k => (Value.slice pa pn pc).ownBlock = some k) wr w6 := (Fr.refl _ wr).grown g6 (fun k hk => .inl hk)
          have HR6 := Lib.hid (RowAt.rd (HI.out.two.row.fr hfg (fun k hk e => by have a := HI.out.two.new k hk; have b := HP2.out.lt k e; omega)))
          clear o6 g6 a6 hfg
          go_wp2_with (at_builtin; apply stop_here)
          refine ⟨?_, trivial⟩
          refine wpList_app rfl _ _ rfl el_bytes (v := .slice ao6 (pn + 16) cap6) (P ++ M) R (P ++ M ++ R) rfl w.heap.size (pn + 16) (pn + 16 + rm) (by rw [List.length_append (bs := R), HG6.out.len, HI.out.two.len]) rfl HG6.out.own rfl HR6.out HI.out.two.len.symm (by unfold maxLen; omega) (by omega) HG6.out.fr.size ?_
          intro ao7 cap7 w7 o7 g7 a7
          go_frame
          have HG7 := Lib.hid (HG6.out.grown (Fr.refl _ _) o7 (by rw [List.length_append (bs := R), HG6.out.len, HI.out.two.len]) g7)
          rw [← HRes.out] at HG7
          clear o7 g7 a7
          go_wp2_with fail
          go_ret2
          exact ⟨⟨ao7, pn + 16 + rm, cap7⟩, rfl, HG7.out.len.symm, HG7.out.row, HG7.out.fr, HG7.out.new⟩
        · have hd8 : (d8 : Int) < 128 := by
            have : ¬ 128 ≤ d8 := fun h => ha (hab.2 h)
            omega
          rw [if_neg ha] at hQ
          subst hQ
          have HQl := Lib.hid (show (M.take 8).length = 8 by rw [List.length_take, hm16]; rfl)
          have HRd := Lib.hid (show RowRd ByteR wr (some ⟨g, 0, none⟩) (M.take 8) from RowRd.takeN HI.out.one.rd 8)
          clear hab ha hres hL0 hM hRR hP hlt hrl hm16
          go_wp2_with (at_builtin; apply stop_here)
          refine ⟨?_, trivial⟩
          refine wpList_app rfl _ _ rfl el_bytes (v := .slice pa pn pc) P (M.take 8) (P ++ M.take 8) rfl w.heap.size pn (pn + 8) (by rw [List.length_append, HP2.out.len, HQl.out]) rfl (HP2.out.own' HI.out.one.fr) rfl HRd.out HQl.out.symm (by unfold maxLen; omega) (by omega) (HP2.out.base HI.out.one.fr) ?_
          intro ao6 cap6 w6 o6 g6 a6
          go_frame
          have HG6 := Lib.hid (HP2.out.grown HI.out.one.fr o6 (by rw [List.length_append, HP2.out.len, HQl.out]) g6)
          have hfg : Fr (fun k => (Value.slice pa pn pc).ownBlock = some k) wr w6 := (Fr.refl _ wr).grown g6 (fun k hk => .inl hk)
          have HR6 := Lib.hid (RowAt.rd (HI.out.two.row.fr hfg (fun k hk e => by have a := HI.out.two.new k hk; have b := HP2.out.lt k e; omega)))
          clear o6 g6 a6 hfg
          go_wp2_with (at_builtin; apply stop_here)
          refine ⟨?_, trivial⟩
          refine wpList_app rfl _ _ rfl el_bytes (v := .slice ao6 (pn + 8) cap6) (P ++ M.take 8) R (P ++ M.take 8 ++ R) rfl w.heap.size (pn + 8) (pn + 8 + rm) (by rw [List.length_append (bs := R), HG6.out.len, HI.out.two.len]) rfl HG6.out.own rfl HR6.out HI.out.two.len.symm (by unfold maxLen; omega) (by omega) HG6.out.fr.size ?_
          intro ao7 cap7 w7 o7 g7 a7
          go_frame
          have HG7 := Lib.hid (HG6.out.grown (Fr.refl _ _) o7 (by rw [List.length_append (bs := R), HG6.out.len, HI.out.two.len]) g7)
          rw [← HRes.out] at HG7
          clear o7 g7 a7
          go_wp2_with fail
          go_ret2
          exact ⟨⟨ao7, pn + 8 + rm, cap7⟩, rfl, HG7.out.len.symm, HG7.out.row, HG7.out.fr, HG7.out.new⟩
  · rw [if_neg hz]
    obtain ⟨x, hx⟩ : ∃ x, rightM t l = x := ⟨_, rfl⟩
    unfold RightP at HRt
    rw [hx] at hz HRt ⊢
    have hb0 : (x != 0) = true := by simpa using hz
    clear h hs hz hx
    go_enter Tryd.func18, Tryd.ntmps18
    go_wp2_with fail
    refine (HRt.out _ ((Fr.refl _ _).alloc _)).mono ?_
    rintro e w1 ⟨rfl, f1⟩
    have HF := Lib.hid (((Fr.refl noBlock w).alloc (.cells #[.string t, .slice ao l.length cap] 27)).trans' f1)
    clear f1
    go_wp2_with fail
    go_ret2
    exact ⟨⟨none, 0, 0⟩, rfl, rfl, RowAt.nil, HF.out, fun k hk => by cases hk⟩
end Go.Proofs.YthckgkghmlkcnaaDoor
