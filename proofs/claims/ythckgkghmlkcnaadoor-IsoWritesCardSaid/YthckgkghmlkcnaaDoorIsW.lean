/-
  THE WALKS of iso.pack, iso.field.
-/
import Derived.Lib.AppendStr
import Derived.OwnWalk
import Derived.Test.YthckgkghmlkcnaaDoorIsR
import Derived.Test.YthckgkghmlkcnaaDoorDgPk
import Derived.Test.YthckgkghmlkcnaaDoorDgT
import Derived.Test.YthckgkghmlkcnaaDoorOwnB
namespace Go.Proofs.YthckgkghmlkcnaaDoor
open Go.RowKit Go.Lib

theorem strCells_flat (s : ByteArray) : strCells s = ByteR.flat s.data.toList := by
  rw [flat_bytes]
  rfl
theorem wpList_appS {ops : Array Oper} {rest : List Oper} {o : Oper} {a : Act} {w : World} {Q : Exit → Act → World → Prop} (hgd : o.guard = none) (sl x : Operand) (ho : o.op = .call { callee := .builtin .append, args := #[sl, x], argTypes := #[22, 9] })
    {v : Value} (xs : List UInt8) (base n : Nat) (hs : a.eval sl = v) (hv : w.ownsRow base 5 ByteR.k v n (ByteR.flat xs)) (s : ByteArray) (hx : a.eval x = .string s) (hsz : n + s.size ≤ 140737488355328) (hbase : base ≤ w.heap.size)
    (h : ∀ ao cap w', w'.ownsRow base 5 ByteR.k (.slice ao (n + s.size) cap) (n + s.size) (ByteR.flat (xs ++ s.data.toList)) → w.grownBy w' v.ownBlock → wpList Tryd.prog ops Q rest (a.put o.dst (.slice ao (n + s.size) cap)) w') :
    wpList Tryd.prog ops Q (o :: rest) a w := by
  obtain ⟨i, hi, hz, h1, h2⟩ := info_parts infoB
  obtain ⟨v', w', hrun, r1, r2, -⟩ := run_append_own_string (P := Tryd.prog) w base 22 9 o.type 5 i Tryd.underlying22 Tryd.underlying9 hi hz h1 h2 v n (ByteR.flat xs) hv s (by unfold maxLen; omega) hsz hbase
  rw [strCells_flat, ← ByteR.flat_append] at r1
  obtain ⟨ao, cap, rfl⟩ := shape_own r1
  refine wpList_plain hgd fun K hK => ?_
  unfold Oper.wp execOp
  simp only [ho, resolve, invoke, builtin, Sem.run_bind, Sem.run_pure, Result.andThen_ok, List.map_toArray, List.map_cons, List.map_nil, hs, hx, hrun]
  exact hK _ _ (h ao cap w' r1 r2)
end Go.Proofs.YthckgkghmlkcnaaDoor
namespace Go.Proofs.YthckgkghmlkcnaaDoor
open Go.RowKit

theorem dig_look {s : ByteArray} (hd : (bl s).all isDig = true) (hl : s.size ≤ 999) : lookE s = 0 := by
  unfold lookE
  rw [if_neg (by unfold digB; rw [show s.data.toList.all isDig = true from hd]; simp), if_neg (by omega)]
theorem bl_strB (l : Bs) : bl (strB l) = l := rfl
theorem pack_any (s : ByteArray) (w : World) (hd : (bl s).all isDig = true) (hl : s.size ≤ 999) : Calls Tryd.prog 35 #[.string s] w (CloneP (packB (bl s)) w) := by
  have HP := Lib.hid (fun W => dpack_yes s W hl (dig_look hd hl))
  unfold PackYes at HP
  rw [packL_eq] at HP
  clear hd
  go_enter Tryd.func35, Tryd.ntmps35
  go_wp2_with fail
  refine (HP.out _).mono ?_
  rintro e w' ⟨sv, rfl, h1, h2, h3, h4⟩
  have H := Lib.hid (And.intro h1 (And.intro h2 (And.intro h3 h4)))
  clear h1 h2 h3 h4
  go_wp2_with fail
  go_ret
  exact ⟨sv, rfl, H.out.1, H.out.2.1, H.out.2.2.1, H.out.2.2.2⟩
theorem lt_of_cell' {w : World} {p : Nat} {o : Nat} {v : Value} (h : w.cell? ⟨p, o, none⟩ = some v) : p < w.heap.size := World.block_lt_of_cell? w _ h
theorem field_len {n : Int} {v : Bs} (hf : fmtOk n = true) (hv : valueE v (kindOf n) (longOf n) = 0) : v.length ≤ 999 := by
  have F := fmt_facts hf
  obtain ⟨-, h1, h2⟩ := value_ok hv
  have := F.l9
  by_cases hk : kindOf n = 2 ∨ kindOf n = 4
  · have := h1 hk; omega
  · have := h2 hk; omega
set_option maxRecDepth 100000 in
set_option maxHeartbeats 1600000 in
theorem field_any (f : Fld) (w : World) (hf : fmtOk f.n = true) (hv : valueE (bl f.v) (kindOf f.n) (longOf f.n) = 0) : Calls Tryd.prog 33 #[.agg #[.int .i64 f.n, .string f.v]] w (CloneP (fieldB f.n (bl f.v)) w) := by
  obtain ⟨n, v⟩ := f
  simp only at hf hv ⊢
  have F := fmt_facts hf
  have hlen := field_len hf hv
  rw [bl_len] at hlen
  obtain ⟨ho, hk1, hk2⟩ := value_ok hv
  obtain ⟨kd, hkd⟩ : ∃ x, kindOf n = x := ⟨_, rfl⟩
  obtain ⟨lg, hlg⟩ : ∃ x, longOf n = x := ⟨_, rfl⟩
  obtain ⟨a, ha⟩ : ∃ x, ah n = x := ⟨_, rfl⟩
  have HFm := Lib.hid (fun W => format_any n W)
  unfold FmtP at HFm
  rw [hkd, hlg] at HFm
  have haK : ahK kd lg = a := by rw [← ha, ← hkd, ← hlg]; rfl
  have HAh := Lib.hid (fun W => ahead_any kd lg W)
  rw [haK] at HAh
  have HPk := Lib.hid (fun W => packed_any kd W)
  have hdig : packedK kd = true → (bl v).all isDig = true := fun h => other_dig (packed_iff.1 h) (by rw [← hkd]; exact ho)
  have HDig := Lib.hid (fun (h : packedK kd = true) W => pack_any v W (hdig h) hlen)
  obtain ⟨pk, hpk⟩ : ∃ p, packedK kd = p := ⟨_, rfl⟩
  rw [hpk] at HPk HDig
  have hfb : fieldB n (bl v) = (if 0 < a then packB (textB v.size a) else []) ++ (if pk = true then packB (bl v) else bl v) := by unfold fieldB; rw [ha, hkd, hpk, bl_len]
  obtain ⟨RES, hres⟩ : ∃ r, fieldB n (bl v) = r := ⟨_, rfl⟩
  rw [hres] at hfb ⊢
  have HRes := Lib.hid hfb
  have ha1 : 0 < a → (a = 2 ∨ a = 3) ∧ v.size < 10 ^ a := by
    intro h
    obtain ⟨q1, q2, q3⟩ := F.a1 (by rw [ha]; exact h)
    rw [ha] at q2 q3
    have := (hk1 q1).2
    rw [bl_len] at this
    exact ⟨q2, by omega⟩
  have HA1 := Lib.hid ha1
  have haS : (0 : Int) ≤ (a : Int) := by omega
  clear hf hv F ho hk1 hk2 hkd hlg ha haK hdig hpk hfb ha1 hres
  go_enter Tryd.func33, Tryd.ntmps33
  go_wp2_with fail
  refine (HFm.out _).mono ?_
  rintro e w1 ⟨rfl, rfl⟩
  obtain ⟨wb, hwb⟩ : ∃ wb, w.alloc (.cells #[.int .i64 n, .string v] 41) = wb := ⟨_, rfl⟩
  have c0 : wb.cell? ⟨w.heap.size, 0, none⟩ = some (.int .i64 n) := by rw [← hwb]; simp
  have c1 : wb.cell? ⟨w.heap.size, 1, none⟩ = some (.string v) := by rw [← hwb]; simp
  have hbz : wb.heap.size = w.heap.size + 1 := by rw [← hwb]; simp
  have HC1 := Lib.hid c1
  have HFb := Lib.hid (show Fr noBlock w wb by rw [← hwb]; exact (Fr.refl _ _).alloc _)
  rw [hwb]
  clear hwb c0
  go_wp2_with fail
  refine (HAh.out _).mono ?_
  rintro e w1 ⟨rfl, rfl⟩
  go_upto_if 21 with fail
  go_cut [6] from 21 to 31 (fun s6 wx => ∃ (ao : Option Addr) (m cap : Nat) (x : Bs), s6 = .slice ao m cap ∧ Hid (OwnB wb wx ao m cap x ∧ x = (if 0 < a then packB (textB v.size a) else []) ∧ m ≤ 2))
  case first =>
    by_cases hp : 0 < a
    · obtain ⟨ha23, hlt⟩ := HA1.out hp
      have hpI : (0 : Int) < (a : Int) := by omega
      obtain ⟨nt1, nt2⟩ := num_text ha23 hlt
      have HT := Lib.hid (fun W => dtext_any v.size a W (by omega) hlt (by omega))
      have HPT := Lib.hid (fun W => pack_any (strB (textB v.size a)) W (by rw [bl_strB]; exact nt2) (by rw [strB_size, textB_len]; omega))
      rw [bl_strB] at HPT
      have hvs : ((v.size : Nat) : Int) ≤ 999 := by omega
      clear nt1 nt2
      go_wp2_with fail
      refine (HT.out _).mono ?_
      rintro e w2 ⟨rfl, f2⟩
      have HF2 := Lib.hid f2
      clear f2
      go_wp2_with fail
      refine (HPT.out _).mono ?_
      rintro e w3 ⟨sv, rfl, h1, h2, h3, h4⟩
      obtain ⟨sa, sn, sc⟩ := sv
      have HO := Lib.hid (OwnB.of_row (w0 := wb) h2 (fun k hk => Nat.le_trans HF2.out.size (h4 k hk)) (HF2.out.trans' h3))
      have hn2 : sn ≤ 2 := by
        simp only at h1
        rw [h1, packB_len, textB_len]
        omega
      unfold SV.val
      clear h1 h2 h3 h4
      go_wp2_with fail
      go_meet
      exact ⟨sa, sn, sc, _, rfl, Lib.hid ⟨HO.out, by rw [if_pos hp], hn2⟩⟩
    · have hpI : (a : Int) = 0 := by omega
      go_wp2_with fail
      go_meet
      exact ⟨none, 0, 0, [], rfl, Lib.hid ⟨OwnB.nil (Fr.refl _ _), by rw [if_neg hp], by omega⟩⟩
  obtain ⟨ao, m, cap, x, rfl, HO⟩ := hcut
  rw [← HO.out.2.1] at HRes
  have hm2 := HO.out.2.2

  have hvs2 : v.size ≤ 999 := hlen
  cases pk with
  | true =>
    have HD := Lib.hid (HDig.out rfl)
    simp only [if_true] at HRes
    clear HDig
    go_wp2_with fail
    refine (HPk.out _).mono ?_
    rintro e w4 ⟨rfl, rfl⟩
    have y1 := (HO.out.1.fr.cell (p := ⟨w.heap.size, 1, none⟩) (lt_of_cell' HC1.out) (fun x => x)).trans HC1.out
    go_wp2_with fail
    refine (HD.out _).mono ?_
    rintro e w5 ⟨⟨sa, sn, sc⟩, rfl, h1, h2, h3, h4⟩
    have H := Lib.hid (And.intro h1 (And.intro (RowAt.rd h2) h3))
    unfold SV.val
    dsimp only at h1 ⊢
    have hl2 : sn ≤ 500 := by rw [h1, packB_len, bl_len]; omega
    clear h1 h2 h3 h4
    go_wp2_with (at_builtin; apply stop_here)
    refine ⟨?_, trivial⟩
    refine wpList_app rfl _ _ rfl el_bytes (v := .slice ao m cap) x (packB (bl v)) (x ++ packB (bl v)) rfl wb.heap.size m (m + sn) (by rw [List.length_append, HO.out.1.len, ← H.out.1]) rfl (HO.out.1.own' H.out.2.2) rfl H.out.2.1 H.out.1 (by unfold maxLen; omega) (by omega) (HO.out.1.base H.out.2.2) ?_
    intro ao6 cap6 w6 o6 g6 a6
    go_frame
    have HG := Lib.hid (HO.out.1.grown H.out.2.2 o6 (by rw [List.length_append, HO.out.1.len, ← H.out.1]) g6)
    rw [← HRes.out] at HG
    clear o6 g6 a6
    go_wp2_with fail
    go_ret
    exact ⟨⟨ao6, m + sn, cap6⟩, rfl, HG.out.len.symm, HG.out.row, HFb.out.trans' HG.out.fr, fun k hk => by have := HG.out.new k hk; omega⟩
  | false =>
    simp only [Bool.false_eq_true, if_false] at HRes
    clear HDig
    go_wp2_with fail
    refine (HPk.out _).mono ?_
    rintro e w4 ⟨rfl, rfl⟩
    have y1 := (HO.out.1.fr.cell (p := ⟨w.heap.size, 1, none⟩) (lt_of_cell' HC1.out) (fun x => x)).trans HC1.out
    go_wp2_with (at_builtin; apply stop_here)
    refine ⟨?_, trivial⟩
    refine wpList_appS rfl _ _ rfl x wb.heap.size m rfl HO.out.1.own v rfl (by omega) HO.out.1.fr.size ?_
    intro ao6 cap6 w6 o6 g6
    go_frame
    have HG := Lib.hid (HO.out.1.grown (Fr.refl _ _) o6 (by rw [List.length_append, HO.out.1.len]; simp) g6)
    rw [show x ++ v.data.toList = RES from HRes.out.symm] at HG
    clear o6 g6
    go_wp2_with fail
    go_ret
    exact ⟨⟨ao6, m + v.size, cap6⟩, rfl, HG.out.len.symm, HG.out.row, HFb.out.trans' HG.out.fr, fun k hk => by have := HG.out.new k hk; omega⟩
end Go.Proofs.YthckgkghmlkcnaaDoor
