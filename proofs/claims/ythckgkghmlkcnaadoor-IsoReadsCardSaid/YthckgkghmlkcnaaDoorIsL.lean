/-
  THE WALK of the document's Parse.
-/
import Derived.Test.YthckgkghmlkcnaaDoorIsJ
import Derived.Test.YthckgkghmlkcnaaDoorIsN
import Derived.Deep.QuietTactic
import Derived.BigQuiet
namespace Go.Proofs.YthckgkghmlkcnaaDoor
open Go.RowKit

/-- the document's message that grows -/
structure DSt (w2 wr : World) (m : Nat) (t : ByteArray) (fo : Option Addr) (fn fc : Nat) (fs : List Fld) : Prop where
  box : wr.heap[m]? = some (.cells #[.string t, .slice fo fn fc] 27 (0, 0))
  row : RowAt 41 FldR wr (.slice fo fn fc) fs
  new : ∀ k, (Value.slice fo fn fc).ownBlock = some k → w2.heap.size ≤ k
  fr : Fr (fun k => k = m) w2 wr
namespace DSt
variable {w2 wr w5 w6 : World} {m : Nat} {t : ByteArray} {fo fo2 : Option Addr} {fn fc fn2 fc2 : Nat} {fs : List Fld}
theorem cells (h : DSt w2 wr m t fo fn fc fs) : wr.cell? ⟨m, 0, none⟩ = some (.string t) ∧ wr.cell? ⟨m, 1, none⟩ = some (.slice fo fn fc) ∧ wr.frozen? ⟨m, 1, none⟩ = false := by
  have c0 := cell_of h.box 0
  have c1 := cell_of h.box 1
  simp at c0 c1
  exact ⟨c0, c1, free_of h.box 1⟩
theorem on (h : DSt w2 wr m t fo fn fc fs) (f : Fr noBlock wr w5) : DSt w2 w5 m t fo fn fc fs :=
  ⟨f.obj h.box (fun x => x), h.row.fr0 f, h.new, h.fr.trans f (fun _ hk => hk.elim)⟩
theorem grow (h : DSt w2 wr m t fo fn fc fs) (hm : m < w2.heap.size) (f : Fr noBlock wr w5) (f2 : Fld) (o6 : w6.ownsRow 0 41 FldR.k (.slice fo2 fn2 fc2) fn2 (FldR.flat (fs ++ [f2]))) (hn : fn2 = fn + 1) (g6 : w5.grownBy w6 (Value.slice fo fn fc).ownBlock)
    (a6 : (Value.slice fo2 fn2 fc2).ownBlock = (Value.slice fo fn fc).ownBlock ∨ (Value.slice fo2 fn2 fc2).ownBlock = some w5.heap.size) :
    DSt w2 (w6.setCell ⟨m, 1, none⟩ (.slice fo2 fn2 fc2)) m t fo2 fn2 fc2 (fs ++ [f2]) := by
  have hne : ∀ k, (Value.slice fo fn fc).ownBlock = some k → k ≠ m := fun k hk => by have := h.new k hk; omega
  have hb5 := f.obj h.box (fun x => x)
  have hb6 : w6.heap[m]? = _ := (g6.block m (heap_lt hb5) (fun e => hne m e.symm rfl)).trans hb5
  have hb := heap_set_eq (i := 1) (u := .slice fo2 fn2 fc2) hb6
  have hl := h.row.len
  have h25 := h.fr.size
  have hnew : ∀ k, (Value.slice fo2 fn2 fc2).ownBlock = some k → w2.heap.size ≤ k := fun k hk => by
    rcases a6 with e | e
    · exact h.new k (e ▸ hk)
    · rw [e] at hk
      cases hk
      have := f.size
      omega
  have hr6 : RowAt 41 FldR w6 (.slice fo2 fn2 fc2) (fs ++ [f2]) := RowAt.of_own o6 (by rw [List.length_append, ← hl, hn]; rfl)
  exact ⟨by simpa using hb, hr6.fr ((Fr.refl (fun k => k = m) w6).setCell (p := ⟨m, 1, none⟩) (.inl rfl) _) (fun k hk e => by have := hnew k hk; have e' : k = m := e; omega), hnew, ((h.fr.trans f (fun _ hk => hk.elim)).grown g6 (fun k hk => .inr (h.new k hk))).setCell (p := ⟨m, 1, none⟩) (.inl rfl) _⟩
/-- a value is written -/
theorem put {g : Nat} (h : DSt w2 wr m t (some ⟨g, 0, none⟩) fn fc fs) (hm : m < w2.heap.size) {i : Nat} (hi : i < fs.length) (v : ByteArray) : DSt w2 (wr.setCell ⟨g, i * 2 + 1, none⟩ (.string v)) m t (some ⟨g, 0, none⟩) fn fc (fs.set i ⟨fs[i].n, v⟩) := by
  have hg := h.new g rfl
  have hrow := h.row.set (g := g) (i := i) (j := 1) (u := .string v) hi (by show 1 < 2; omega) ⟨fs[i].n, v⟩ rfl
  exact ⟨heap_set_ne h.box (by omega), hrow, h.new, h.fr.setCell (p := ⟨g, _, none⟩) (.inr hg) _⟩
end DSt
def em (n : Nat) : Fld := ⟨(n : Int), ⟨#[]⟩⟩
theorem inv_more {b : Bs} {err : Int} {fs : List Fld} {bi : Bs} (he : err ≠ 0) : ∀ (d i : Nat), Inv b i err fs bi → Inv b (i + d) err fs bi
  | 0, _, h => h
  | d + 1, i, h => by
    have := inv_more he d (i + 1) (inv_bad h he)
    rwa [show i + 1 + d = i + (d + 1) by omega] at this
theorem em_set {fs : List Fld} {l : List Nat} {i : Nat} (hi : fs.length = i) (hl : i < l.length) (v : ByteArray) : (fs ++ (l.drop i).map em).set i ⟨(l[i] : Nat), v⟩ = (fs ++ [⟨(l[i] : Nat), v⟩]) ++ (l.drop (i + 1)).map em := by
  subst hi
  rw [List.set_append_right _ _ (Nat.le_refl _), Nat.sub_self, List.drop_eq_getElem_cons hl, List.map_cons, List.set_cons_zero]
  simp
theorem em_get {fs : List Fld} {l : List Nat} {i : Nat} (hi : fs.length = i) (hl : i < l.length) : ∃ h : i < (fs ++ (l.drop i).map em).length, (fs ++ (l.drop i).map em)[i] = em l[i] := by
  subst hi
  refine ⟨by rw [List.length_append, List.length_map, List.length_drop]; omega, ?_⟩
  rw [List.getElem_append_right (Nat.le_refl _)]
  simp
theorem high_bit {c : UInt8} {X : Bs} (h : X.getD 0 0 = c) : bitAt X 0 = decide (128 ≤ (c.toNat : Int)) := by
  rw [bit0_of c X h]
  have := c.toNat_lt
  simp only [decide_eq_decide]
  omega
def ones (l : Bs) : Bool := !l.all (fun c => decide (c = 0))
theorem ones_snoc (l : Bs) (c : UInt8) : ones (l ++ [c]) = (ones l || !decide (c = 0)) := by
  unfold ones
  rw [List.all_append]
  simp
theorem bit_and' : ∀ c < 256, ∀ j < 8, (bits .and .u8 ((c : Nat) : Int) (128 / 2 ^ j) != 0) = bitC (UInt8.ofNat c) j := by decide +kernel
theorem bit_and (c : UInt8) {j : Nat} (hj : j < 8) : (bits .and .u8 (c.toNat : Int) (128 / 2 ^ j) != 0) = bitC c j := by
  have := bit_and' c.toNat c.toNat_lt j hj
  rwa [u8_eta] at this
/-- an error in the bitmaps, or in what is ahead of them -/
theorem par_early {b : Bs} {x : Int} (h : parF b = x) (hx : x ≠ 0) : parE b = x ∧ parT b = ⟨#[]⟩ ∧ parL b = [] ∧ parN b = 0 := by
  have hb := par_bad (b := b) (by rw [h]; exact hx)
  have he : parE b = x := by unfold parE; rw [hb]; exact h
  exact ⟨he, by unfold parT; rw [hb]; rfl, by unfold parL; rw [hb]; rfl, if_neg (by rw [he]; exact hx)⟩
theorem ParseP.bad {b : Bs} {x : Int} {w w1 : World} {p : Nat} (h : parE b = x ∧ parT b = ⟨#[]⟩ ∧ parL b = [] ∧ parN b = 0) (hf : Fr noBlock w w1) (hp : w.heap.size ≤ p) (u v : Value) : ParseP b w (.returned (.tuple #[.agg #[.string ⟨#[]⟩, .slice none 0 0], .int .i64 0, .int .i64 x])) ((w1.setCell ⟨p, 0, none⟩ u).setCell ⟨p, 1, none⟩ v) := by
  obtain ⟨e0, e1, e2, e3⟩ := h
  refine ⟨⟨none, 0, 0⟩, by rw [e0, e1, e3]; rfl, by rw [e2]; rfl, by rw [e2]; exact RowAt.nil, (hf.setCell (p := ⟨p, 0, none⟩) (.inr hp) u).setCell (p := ⟨p, 1, none⟩) (.inr hp) v, fun k hk => by cases hk⟩
/-- the parts of the bitmaps' errors -/
theorem parF_maps {b : Bs} (hu : unpE b 4 = 0) (h : (mapsR (b.drop 2)).1 ≠ 0) : parF b = (mapsR (b.drop 2)).1 := by
  obtain ⟨e1, e2⟩ := par_maps hu
  unfold parF mapsF
  rw [e1, if_pos h]
theorem parF_bits {b B : Bs} {r : Bs} (hu : unpE b 4 = 0) (h : mapsR (b.drop 2) = (0, B, r)) : parF b = if allOk (numsOf B) = true then 0 else 13 := by
  obtain ⟨e1, e2⟩ := par_maps hu
  unfold parF mapsF
  rw [e1, e2, h, if_neg (by simp)]
set_option maxRecDepth 100000 in
set_option maxHeartbeats 6400000 in
theorem rparse_any {w : World} {ao : Option Addr} {b : Bs} (h : RowRd ByteR w ao b) (cap : Nat) (hc : b.length ≤ cap) (hb63 : cap ≤ 9223372036854775807) (hb40 : b.length ≤ 140737488351232) : Calls Tryd.prog 14 #[.slice ao b.length cap] w (ParseP b w) := by
  have HR := Lib.hid h
  have hbI : (b.length : Int) ≤ 140737488351232 := by omega
  have HF0 := Lib.hid ((Fr.refl noBlock w).alloc (.cells #[.string ⟨#[]⟩, .slice none 0 0] 27))
  have HU := Lib.hid (runpack_any (h.fr0 ((Fr.refl noBlock w).alloc (.cells #[.string ⟨#[]⟩, .slice none 0 0] 27))) cap 4 hc hb63 (by omega) (by omega))
  unfold UnpP at HU
  clear h
  go_enter Tryd.func14, Tryd.ntmps14
  go_wp2_with fail
  refine HU.out.mono ?_
  rintro e w1 ⟨rfl, f1⟩
  have HB1 := Lib.hid (f1.obj (heap_new w (.cells #[.string ⟨#[]⟩, .slice none 0 0] 27)) (fun x => x))
  have HF1 := Lib.hid (HF0.out.trans' f1)
  clear f1 HU HF0
  have x0 := cell_of HB1.out 0
  have x1 := cell_of HB1.out 1
  have xz := fun i => free_of HB1.out i
  have xz0 := xz 0
  have xz1 := xz 1
  simp at x0 x1
  by_cases hu : unpE b 4 = 0
  · have hN : unpN b 4 = 2 := by unfold unpN; rw [if_pos hu]
    obtain ⟨-, hl2, -⟩ := pack_unp hu
    have hl2' : 2 ≤ b.length := by omega
    rw [hu, hN]
    obtain ⟨t0, ht0⟩ : ∃ x, strB (unpT b 4) = x := ⟨_, rfl⟩
    rw [ht0]
    have Ht0 := Lib.hid ht0
    have Hu := Lib.hid hu
    obtain ⟨bb, off, rfl, hbb⟩ := byte_addr HR.out (i := 0) (by omega)
    have HT := Lib.hid (rtake_any (HR.out.fr0 HF1.out) cap hc hb63 2 8 hl2' (by omega))
    have HBad := Lib.hid (fun (x : Int) (W : World) (hx : (mapsR (b.drop 2)).1 = x) (hx0 : x ≠ 0) (hf : Fr noBlock w W) => ParseP.bad (b := b) (x := x) (w := w) (w1 := W) (p := w.heap.size) (par_early (by rw [parF_maps Hu.out (by rw [hx]; exact hx0), hx]) hx0) hf (Nat.le_refl _) (.string ⟨#[]⟩) (.slice none 0 0))
    have HSet := Lib.hid (fun (W : World) (hf : Fr noBlock w1 W) => set_cells (hf.obj HB1.out (fun x => x)) (.string ⟨#[]⟩) (.slice none 0 0))
    have hmr : mapsR (b.drop 2) = if (b.drop 2).length < 8 then (3, [], []) else if bitAt (b.drop 2) 0 = true then (if (b.drop 2).length < 16 then (3, [], []) else if (((b.drop 2).drop 8).take 8).all (fun c => decide (c = 0)) = true then (4, [], []) else (0, (b.drop 2).take 16, (b.drop 2).drop 16)) else (0, (b.drop 2).take 8, (b.drop 2).drop 8) := rfl
    rw [List.length_drop, List.drop_drop, List.drop_drop, show (2 : Nat) + 8 = 10 from rfl, show (2 : Nat) + 16 = 18 from rfl] at hmr
    have HMr := Lib.hid hmr
    clear hmr hu hN hl2 ht0 xz
    go_wp2_with fail
    refine HT.out.mono ?_
    rintro e w2 ⟨so, sn, sc, x, rfl, rfl, hx⟩
    rcases hx with ⟨rfl, hlx⟩ | ⟨rfl, hlx, rfl, hrow⟩
    · have HFin := Lib.hid (HBad.out 3 w1 (by rw [HMr.out, if_pos (by omega)]) (by decide) HF1.out)
      obtain ⟨-, f2, f3⟩ := HSet.out w1 (Fr.refl _ _)
      clear hlx
      go_wp2_with fail
      exact bodyPost_ret (v := .tuple #[.agg #[.string ⟨#[]⟩, .slice none 0 0], .int .i64 0, .int .i64 3]) (by simp [results, Tryd.results14, go_sem, f2, f3]) rfl HFin.out
    · obtain ⟨M, hM⟩ : ∃ M, (b.drop 2).take 8 = M := ⟨_, rfl⟩
      have hMl : M.length = 8 := by rw [← hM, List.length_take, List.length_drop]; omega
      have hbit : bitAt (b.drop 2) 0 = bitAt M 0 := by rw [← hM, take_bit (by omega)]
      have hmr := HMr.out
      rw [if_neg (by omega), hbit, hM] at hmr
      rw [hM] at hrow
      have hh := high_bit (c := M.getD 0 0) (X := M) rfl
      obtain ⟨ms, mo, rfl, hms⟩ := byte_addr hrow (i := 0) (by omega)
      have y0 := byte_rd hrow (i := 0) (by omega)
      have hM0 : M[0]'(by omega) = M.getD 0 0 := by simp [List.getD, hMl]
      rw [hM0] at y0
      unfold byteV at y0
      have hc256 := (M.getD 0 0).toNat_lt
      have HRow := Lib.hid hrow
      have HM8 := Lib.hid (And.intro hMl hM)
      have HMr2 := Lib.hid hmr
      have hl10 : 10 ≤ b.length := by omega
      rw [hh] at HMr2
      clear hmr hrow hbit hMl hM hM0 hh HMr hlx
      generalize ((M.getD 0 0).toNat : Int) = c0 at *
      rw [Nat.add_zero] at y0
      go_upto_if 47 with fail
      go_cut [6, 8, 9, 10, 11, 12] from 47 to 79 (fun s6 s8 s9 s10 s11 s12 wx => ∃ (at2 : Nat) (co : Option Addr) (cn cc : Nat) (B : Bs), s6 = .int .i64 at2 ∧ s8 = .slice co cn cc ∧ (cn = 8 ∨ cn = 16) ∧ B.length = cn ∧ at2 ≤ b.length ∧ Hid (RowRd ByteR wx co B ∧ Fr noBlock w1 wx ∧ mapsR (b.drop 2) = (0, B, b.drop at2)))
      case first =>
        by_cases hhi : 128 ≤ c0
        · have hm16 := HMr2.out
          rw [if_pos (by simpa using hhi)] at hm16
          have HT2 := Lib.hid (rtake_any (HR.out.fr0 HF1.out) cap hc hb63 10 8 hl10 (by omega))
          have HM16 := Lib.hid hm16
          clear hm16
          go_wp2_with fail
          refine HT2.out.mono ?_
          rintro e w2 ⟨no, nn, nc, x, rfl, rfl, hx⟩
          rcases hx with ⟨rfl, hlx⟩ | ⟨rfl, hlx, rfl, hrow⟩
          · have HFin := Lib.hid (HBad.out 3 w1 (by rw [HM16.out, if_pos (by omega)]) (by decide) HF1.out)
            obtain ⟨-, f2, f3⟩ := HSet.out w1 (Fr.refl _ _)
            clear hlx
            go_wp2_with fail
            exact bodyPost_ret (v := .tuple #[.agg #[.string ⟨#[]⟩, .slice none 0 0], .int .i64 0, .int .i64 3]) (by simp [results, Tryd.results14, go_sem, f2, f3]) rfl HFin.out
          · obtain ⟨N, hN⟩ : ∃ N, (b.drop 10).take 8 = N := ⟨_, rfl⟩
            have hNl : N.length = 8 := by rw [← hN, List.length_take, List.length_drop]; omega
            have hm16 := HM16.out
            rw [if_neg (by omega), hN] at hm16
            rw [hN] at hrow
            have HN8 := Lib.hid (And.intro hNl hN)
            have HNr := Lib.hid hrow
            have HM17 := Lib.hid hm16
            have hl18 : 18 ≤ b.length := by omega
            clear hm16 HM16 hrow hNl hN hlx
            go_wp2_with fail
            go_loop [11, 12] (fun s11 s12 => ∃ (i : Nat) (o : Bool), i ≤ 8 ∧ s12 = .int .i64 i ∧ s11 = .bool o ∧ Hid (o = ones (N.take i))) (fun _ s12 => 8 - (intOf s12).toNat)
            case atStart => exact ⟨0, false, by omega, rfl, rfl, Lib.hid rfl⟩
            case round =>
              obtain ⟨i, o, hi, rfl, rfl, HO⟩ := hrel
              by_cases hlt : i < 8
              · have r1 : (i : Int) < 8 := by omega
                have r0 : (0 : Int) ≤ (i : Int) := by omega
                have hi1 : i + 1 ≤ 8 := hlt
                have hiN : i < N.length := by rw [HN8.out.1]; exact hlt
                obtain ⟨ns, nf, rfl, -⟩ := byte_addr HNr.out hiN
                have yi := byte_rd HNr.out hiN
                have hst : ones (N.take (i + 1)) = (ones (N.take i) || !decide (N[i] = 0)) := by rw [List.take_succ_eq_append_getElem hiN, ones_snoc]
                have hd0 : (((N[i].toNat : Nat) : Int) != 0) = !decide (N[i] = 0) := by
                  by_cases h : N[i] = 0
                  · rw [h]; rfl
                  · have : N[i].toNat ≠ 0 := fun e => h (UInt8.toNat_inj.1 e)
                    simp [h]
                    omega
                unfold byteV at yi
                generalize N[i] = c at *
                rw [← hd0, ← HO.out] at hst
                have HSt := Lib.hid hst
                clear hst hd0 hlt hiN
                generalize ((c.toNat : Nat) : Int) = c8 at *
                cases o with
                | true =>
                  have HN2 := Lib.hid (show true = ones (N.take (i + 1)) by rw [HSt.out]; rfl)
                  go_wp2_with fail
                  go_round
                  case rel => exact ⟨i + 1, true, hi1, by go_num, rfl, HN2⟩
                  case measure => simp [intOf]; omega
                | false =>
                  have HN2 := Lib.hid (show (c8 != 0) = ones (N.take (i + 1)) by rw [HSt.out]; rfl)
                  go_wp2_with fail
                  go_round
                  case rel => exact ⟨i + 1, _, hi1, by go_num, rfl, HN2⟩
                  case measure => simp [intOf]; omega
              · have r1 : (8 : Int) ≤ (i : Int) := by omega
                have HOn := Lib.hid (show o = !N.all (fun c => decide (c = 0)) by
                  have := HO.out
                  rw [List.take_of_length_le (by rw [HN8.out.1]; omega)] at this
                  exact this)
                clear hlt HO
                cases o with
                | false =>
                  have hall : N.all (fun c => decide (c = 0)) = true := by simpa using HOn.out.symm
                  have HFin := Lib.hid (HBad.out 4 w1 (by rw [HM17.out, if_pos hall]) (by decide) HF1.out)
                  obtain ⟨-, f2, f3⟩ := HSet.out w1 (Fr.refl _ _)
                  clear hall
                  go_wp2_with fail
                  exact bodyPost_ret (v := .tuple #[.agg #[.string ⟨#[]⟩, .slice none 0 0], .int .i64 0, .int .i64 4]) (by simp [results, Tryd.results14, go_sem, f2, f3]) rfl HFin.out
                | true =>
                  have hall : N.all (fun c => decide (c = 0)) = false := by simpa using HOn.out.symm
                  have hm := HM17.out
                  rw [if_neg (by rw [hall]; simp)] at hm
                  have hMN : (b.drop 2).take 16 = M ++ N := by
                    rw [show (16 : Nat) = 8 + 8 from rfl, List.take_add, HM8.out.2, List.drop_drop, HN8.out.2]
                  rw [hMN] at hm
                  have HM18 := Lib.hid hm
                  clear hall hm hMN HOn
                  go_wp2_with (at_builtin; apply stop_here)
                  refine ⟨?_, trivial⟩
                  refine wpList_app rfl _ _ rfl el_bytes (v := .slice (some ⟨w1.heap.size, 0, none⟩) 0 0) [] M M rfl w1.heap.size 0 8 HM8.out.1.symm rfl (World.ownsRow_made w1 #[] 0 (Nat.le_refl _) (Nat.zero_le _) rfl) rfl (HRow.out.fr0 ((Fr.refl _ _).alloc _)) HM8.out.1.symm (by unfold maxLen; omega) (by omega) (by simp) ?_
                  intro ao3 cap3 w3 o3 g3 _
                  go_frame
                  have O3 := Lib.hid (show OwnB w1 w3 ao3 8 cap3 M from ⟨o3, HM8.out.1, ((Fr.refl noBlock w1).alloc _).grown g3 (fun k hk => by simp [Value.ownBlock] at hk; subst hk; exact .inr (Nat.le_refl _))⟩)
                  clear o3 g3
                  go_wp2_with (at_builtin; apply stop_here)
                  refine ⟨?_, trivial⟩
                  refine wpList_app rfl _ _ rfl el_bytes (v := .slice ao3 8 cap3) M N (M ++ N) rfl w1.heap.size 8 16 (by rw [List.length_append, HM8.out.1, HN8.out.1]) rfl O3.out.own rfl (HNr.out.fr0 O3.out.fr) HN8.out.1.symm (by unfold maxLen; omega) (by omega) (by have := O3.out.fr.size; omega) ?_
                  intro ao4 cap4 w4 o4 g4 _
                  go_frame
                  have O4 := Lib.hid (O3.out.grown (Fr.refl noBlock w3) o4 (by rw [List.length_append, HM8.out.1, HN8.out.1]) g4)
                  clear o4 g4
                  go_wp2_with fail
                  go_meet
                  exact ⟨18, ao4, 16, cap4, M ++ N, rfl, rfl, .inr rfl, by rw [List.length_append, HM8.out.1, HN8.out.1], hl18, Lib.hid ⟨O4.out.rd, O4.out.fr, HM18.out⟩⟩
        · have hlo : c0 < 128 := by omega
          have hm := HMr2.out
          rw [if_neg (by simpa using hlo)] at hm
          have HM18 := Lib.hid hm
          clear hm hhi
          go_wp2_with fail
          go_meet
          exact ⟨10, _, 8, _, M, rfl, rfl, .inl rfl, HM8.out.1, hl10, Lib.hid ⟨HRow.out, Fr.refl _ _, HM18.out⟩⟩
      obtain ⟨at2, co, cn, cc, B, rfl, rfl, hcn, hBl, h2l, H2⟩ := hcut
      have HRB := Lib.hid H2.out.1
      have HFc := Lib.hid H2.out.2.1
      have HMp := Lib.hid H2.out.2.2
      have HNs := Lib.hid (show parNs b = numsOf B by unfold parNs; rw [H2.out.2.2])
      have HPb := Lib.hid (show parB b = b.drop at2 by unfold parB; rw [H2.out.2.2])
      clear H2 HMr2 HM8 HRow y0 HT HBad x0 x1 xz0 xz1
      go_wp2_with fail
      refine wp_at (φ := fun W => Fr noBlock wc W ∧ W.heap[wc.heap.size]? = some (.cells #[.string t0, .slice none 0 0] 27 (0, 0)) ∧ wc.heap.size < W.heap.size) ⟨(Fr.refl noBlock wc).alloc _, heap_new wc _, by simp⟩ ?_
      rintro w2 ⟨f2, hm2, hmlt⟩
      have hwm : w.heap.size < wc.heap.size := by have := heap_lt HB1.out; have := HFc.out.size; omega
      have HB2 := Lib.hid (f2.obj (HFc.out.obj HB1.out (fun x => x)) (fun x => x))
      have HF2 := Lib.hid (HF1.out.trans' (HFc.out.trans' f2))
      have HRB2 := Lib.hid (HRB.out.fr0 f2)
      have HD0 := Lib.hid (show DSt w2 w2 wc.heap.size t0 none 0 0 [] from ⟨hm2, RowAt.nil, (fun k hk => by cases hk), Fr.refl _ _⟩)
      have hco : ∃ cb cf, co = some ⟨cb, cf, none⟩ ∧ cb < wc.heap.size := byte_addr HRB.out (i := 0) (by omega)
      obtain ⟨cb, cf, rfl, hcb⟩ := hco
      have HSet2 := Lib.hid (fun (W : World) (hf : W.heap[w.heap.size]? = w2.heap[w.heap.size]?) (u v : Value) => set_cells (hf.trans HB2.out) u v)
      clear f2 hm2 HSet HFc HRB HB1 HF1
      generalize wc.heap.size = m at *
      have hcnI : (cn : Int) = 8 ∨ (cn : Int) = 16 := by omega
      have hcn16 : (cn : Int) ≤ 16 := by omega
      have hcn0 : (8 : Int) ≤ (cn : Int) := by omega
      go_loopw [14] (fun s14 wr => ∃ (k fn fc : Nat) (fo : Option Addr), 2 ≤ k ∧ k ≤ 8 * cn + 1 ∧ fn ≤ k ∧ s14 = .int .i64 k ∧ Hid (DSt w2 wr m t0 fo fn fc ((nsK B (k - 1)).map em) ∧ allOk (nsK B (k - 1)) = true)) (fun s14 _ => 8 * cn + 1 - (intOf s14).toNat)
      case atStart => exact ⟨2, 0, 0, none, Nat.le_refl _, by omega, by omega, rfl, Lib.hid ⟨HD0.out, rfl⟩⟩
      case round =>
        obtain ⟨k, fn, fc, fo, hk2, hk8, hfn, rfl, HS⟩ := hrel
        have hkI : (2 : Int) ≤ (k : Int) := by omega
        obtain ⟨y0, y1, yz⟩ := HS.out.1.cells
        by_cases hlt : k ≤ 8 * cn
        · have r1 : (k : Int) ≤ 8 * (cn : Int) := by omega
          obtain ⟨q, hq⟩ : ∃ q : Nat, ((k : Int) - 1) / 8 = (q : Int) := ⟨(k - 1) / 8, by omega⟩
          obtain ⟨j, hj⟩ : ∃ j : Nat, ((k : Int) - 1) % 8 = (j : Int) := ⟨(k - 1) % 8, by omega⟩
          have hqk : (k - 1) / 8 = q := by omega
          have hjk : (k - 1) % 8 = j := by omega
          have hj8 : j < 8 := by omega
          have hqB : q < B.length := by omega
          have hqc : q < cn := by omega
          have hqI : (q : Int) < (cn : Int) := by omega
          have hq0 : (0 : Int) ≤ (q : Int) := by omega
          have yq := byte_rd (HRB2.out.fr HS.out.1.fr (fun _ a ea => by cases ea; show ¬ cb = m; omega)) hqB
          have hB0 : B[q] = B.getD q 0 := by simp [List.getD, hqB]
          rw [hB0] at yq
          have hba := bit_and (B.getD q 0) hj8
          have hbt : bitC (B.getD q 0) j = bitAt B (k - 1) := by unfold bitAt; rw [hqk, hjk]
          rw [hbt] at hba
          have hstep := nsK_step B (k - 1) (by omega)
          rw [show k - 1 + 1 = k by omega] at hstep
          have hc256 := (B.getD q 0).toNat_lt
          unfold byteV at yq
          generalize ((B.getD q 0).toNat : Int) = c8 at *
          have wr1 : IntKind.i64.wrap ((k : Int) - 1) = (k : Int) - 1 := IntWalk.i64_in _ (by omega)
          have wr2 : ((k : Int) - 1).tdiv 8 = (q : Int) := by rw [Int.tdiv_eq_ediv_of_nonneg (by omega)]; exact hq
          have wr3 : ((k : Int) - 1).tmod 8 = (j : Int) := by rw [Int.tmod_eq_emod_of_nonneg (by omega)]; exact hj
          have wr4 : IntKind.i64.wrap (q : Int) = (q : Int) := IntWalk.i64_in _ (by omega)
          have wr5 : IntKind.i64.wrap (j : Int) = (j : Int) := IntWalk.i64_in _ (by omega)
          have HSt := Lib.hid hstep
          have hk1 : k + 1 ≤ 8 * cn + 1 := by omega
          have hk3 : 2 ≤ k + 1 := by omega
          have hfn1 : fn ≤ k + 1 := by omega
          clear hq hj hqk hjk hB0 hbt hstep hlt
          cases hbv : bitAt B (k - 1) with
          | false =>
            rw [hbv] at hba
            have HN := Lib.hid (show nsK B (k + 1 - 1) = nsK B (k - 1) by rw [Nat.add_sub_cancel, HSt.out, hbv]; simp)
            clear hbv
            go_upto_region 25 with fail
            go_quiet (fail)
            clear wr1 wr2 wr3 wr4 wr5
            have HD := Lib.hid (show DSt w2 (wr.drewN nq) m t0 fo fn fc ((nsK B (k + 1 - 1)).map em) ∧ allOk (nsK B (k + 1 - 1)) = true by rw [HN.out]; exact ⟨HS.out.1.on ((Fr.refl noBlock wr).drewN nq), HS.out.2⟩)
            go_wp2_with fail
            go_roundw
            case rel => exact ⟨k + 1, fn, fc, fo, hk3, hk1, hfn1, by go_num, HD⟩
            case measure => simp [intOf]; omega
          | true =>
            rw [hbv] at hba
            have hns := HSt.out
            rw [hbv, if_pos rfl] at hns
            have hmem : k ∈ numsOf B := nums_mem.2 ⟨hk2, by omega, hbv⟩
            obtain ⟨kd, hkd⟩ : ∃ x, kindOf (k : Int) = x := ⟨_, rfl⟩
            obtain ⟨lg, hlg⟩ : ∃ x, longOf (k : Int) = x := ⟨_, rfl⟩
            obtain ⟨ok, hok⟩ : ∃ x, fmtOk (k : Int) = x := ⟨_, rfl⟩
            have HFm := Lib.hid (fun W => rformat_any (k : Int) W)
            unfold FmtP at HFm
            rw [hkd, hlg, hok] at HFm
            have HOk := Lib.hid hok
            have HNs2 := Lib.hid hns
            have HMem := Lib.hid hmem
            clear hbv hns hmem hkd hlg hok
            go_upto_region 25 with fail
            go_quiet (fail)
            clear wr1 wr2 wr3 wr4 wr5
            have HD := Lib.hid (HS.out.1.on ((Fr.refl noBlock wr).drewN nq))
            obtain ⟨wo, hwo⟩ : ∃ wo : World, wr.drewN nq = wo := ⟨_, rfl⟩
            rw [hwo] at HD ⊢
            clear hwo y0 y1 yz yq
            obtain ⟨y0, y1, yz⟩ := HD.out.cells
            cases ok with
            | false =>
              have hall : ¬ allOk (numsOf B) = true := fun h => by
                unfold allOk at h
                rw [List.all_eq_true] at h
                have := h k HMem.out
                rw [HOk.out] at this
                cases this
              have HFw := Lib.hid (HF2.out.trans HD.out.fr (fun k hk => by subst hk; exact .inr (by omega)))
              have HFin := Lib.hid (ParseP.bad (b := b) (x := 13) (w := w) (w1 := wo) (p := w.heap.size) (par_early (by rw [parF_bits Hu.out HMp.out, if_neg hall]) (by decide)) HFw.out (Nat.le_refl _) (.string ⟨#[]⟩) (.slice none 0 0))
              have hbx := HD.out.fr.obj HB2.out (by intro e; omega)
              have x0 := cell_of hbx 0
              have x1 := cell_of hbx 1
              have xz0 := free_of hbx 0
              have xz1 := free_of hbx 1
              simp at x0 x1
              obtain ⟨-, f2, f3⟩ := set_cells hbx (.string ⟨#[]⟩) (.slice none 0 0)
              clear hall hbx y0 y1 yz
              go_wp2_with fail
              refine (HFm.out _).mono ?_
              rintro e w5 ⟨rfl, rfl⟩
              go_wp2_with fail
              exact bodyPost_ret (v := .tuple #[.agg #[.string ⟨#[]⟩, .slice none 0 0], .int .i64 0, .int .i64 13]) (by simp [results, Tryd.results14, go_sem, f2, f3]) rfl HFin.out
            | true =>
              have hrl := HD.out.row.len
              have HN := Lib.hid (show nsK B (k + 1 - 1) = nsK B (k - 1) ++ [k] by rw [Nat.add_sub_cancel]; exact HNs2.out)
              have HAll := Lib.hid (show allOk (nsK B (k + 1 - 1)) = true by rw [HN.out, allOk_snoc, HS.out.2, HOk.out]; rfl)
              obtain ⟨FS, hFS⟩ : ∃ l, (nsK B (k - 1)).map em = l := ⟨_, rfl⟩
              rw [hFS] at HD hrl
              have HFS := Lib.hid hFS
              have Hrl := Lib.hid hrl
              have hmo : m < wo.heap.size := heap_lt HD.out.box
              have hfn128 : fn + 1 ≤ 200 := by omega
              have hnm : (Value.slice fo fn fc).ownBlock ≠ some m := fun e => by have := HD.out.new m e; omega
              have Hnm := Lib.hid hnm
              clear hFS hrl hnm
              go_wp2_with fail
              refine (HFm.out _).mono ?_
              rintro e w5 ⟨rfl, rfl⟩
              go_wp2_with (at_builtin; apply stop_here)
              refine ⟨?_, trivial⟩
              refine wpList_app rfl _ _ rfl el_fld (v := .slice fo fn fc) FS [em k] (FS ++ [em k]) rfl 0 fn (fn + 1) (by rw [List.length_append, ← Hrl.out]; rfl) rfl (by have := HD.out.row; unfold RowAt at this; rw [← Hrl.out] at this; exact ownsRow_fr this ((Fr.refl noBlock wo).alloc (.cells #[.int .i64 (k : Int), .string ⟨#[]⟩] 41)) (fun _ _ x => x)) rfl (RowRd.one (heap_new wo _) (em k) rfl) rfl (by unfold maxLen; omega) (by omega) (Nat.zero_le _) ?_
              intro ao6 cap6 w6 o6 g6 a6
              go_frame
              have hob : w6.cell? ⟨m, 1, none⟩ = some (.slice fo fn fc) := (g6.cell_far _ (by simp; omega) (Ne.symm Hnm.out)).trans ((World.cell?_alloc_lt _ _ _ hmo).trans y1)
              have hof : w6.frozen? ⟨m, 1, none⟩ = false := (g6.frozen_far _ (by simp; omega) (Ne.symm Hnm.out)).trans ((World.frozen?_alloc_past _ _ _ hmo).trans yz)
              have HG := Lib.hid (show DSt w2 (w6.setCell ⟨m, 1, none⟩ (.slice ao6 (fn + 1) cap6)) m t0 ao6 (fn + 1) cap6 ((nsK B (k + 1 - 1)).map em) ∧ allOk (nsK B (k + 1 - 1)) = true from by
                refine ⟨?_, HAll.out⟩
                rw [HN.out, List.map_append, HFS.out]
                exact HD.out.grow hmlt ((Fr.refl noBlock wo).alloc (.cells #[.int .i64 (k : Int), .string ⟨#[]⟩] 41)) (em k) o6 rfl g6 a6)
              have hfn2 : fn + 1 ≤ k + 1 := by omega
              clear o6 g6 a6 y0 y1 yz
              go_wp2_with fail
              go_roundw
              case rel => exact ⟨k + 1, fn + 1, cap6, ao6, hk3, hk1, hfn2, by go_num, HG⟩
              case measure => simp [intOf]; omega
        · have r1 : 8 * (cn : Int) < (k : Int) := by omega
          have ek : k - 1 = 8 * cn := by omega
          have hns : nsK B (k - 1) = parNs b := by rw [HNs.out, ek, ← hBl]; exact nsK_all B
          have hok := HS.out.2
          rw [hns] at HS hok
          have h0 : parF b = 0 := by
            rw [parF_bits Hu.out HMp.out, ← HNs.out, if_pos hok]
          have HD1 := Lib.hid HS.out.1
          have H0 := Lib.hid h0
          have HOk := Lib.hid hok
          have hnl : (parNs b).length ≤ 129 ∧ fn = (parNs b).length := by
            have h1 := HS.out.1.row.len
            rw [List.length_map] at h1
            exact ⟨by omega, h1⟩
          have HInv := Lib.hid (show Inv b 0 0 [] (b.drop at2) from ⟨fun h => absurd h0 h, fun _ => ⟨rfl, fun _ => ⟨rfl, HPb.out.symm⟩⟩⟩)
          obtain ⟨N, hN⟩ : ∃ N, (parNs b).length = N := ⟨_, rfl⟩
          rw [hN] at hnl
          obtain ⟨hN129, hfN⟩ := hnl
          subst hfN
          have HN := Lib.hid hN
          clear hlt ek hns hok h0 HS hN hk2 hk8 hfn
          go_wp2_with fail
          obtain ⟨wb, rfl⟩ : ∃ wb : World, wb = wr := ⟨_, rfl⟩
          go_loopw [6, 18] (fun s6 s18 wr => ∃ (i at3 fc : Nat) (fo : Option Addr) (fs : List Fld), i ≤ fn ∧ at3 ≤ b.length ∧ s18 = .int .i64 i ∧ s6 = .int .i64 at3 ∧ Hid (fs.length = i ∧ DSt w2 wr m t0 fo fn fc (fs ++ ((parNs b).drop i).map em)) ∧ Hid (Inv b i 0 fs (b.drop at3))) (fun _ s18 _ => fn - (intOf s18).toNat)
          case atStart => exact ⟨0, at2, fc, fo, [], Nat.zero_le _, h2l, rfl, rfl, Lib.hid ⟨rfl, by simpa using HD1.out⟩, HInv⟩
          case round =>
            obtain ⟨i, at3, fc, fo, fs, hi, h3l, rfl, rfl, HS, HI⟩ := hrel
            have i0 : (0 : Int) ≤ (i : Int) := by omega
            have t0' : (0 : Int) ≤ (at3 : Int) := by omega
            have t1' : (at3 : Int) ≤ 140737488351232 := by omega
            obtain ⟨y0, y1, yz⟩ := HS.out.2.cells
            by_cases hlt : i < fn
            · have r1 : (i : Int) < (fn : Int) := by omega
              have hi1 : i + 1 ≤ fn := hlt
              have hlN : i < (parNs b).length := by rw [HN.out]; exact hlt
              obtain ⟨hgl, hge⟩ := em_get HS.out.1 hlN
              obtain ⟨g, gc, eg, -, hown⟩ := HS.out.2.row.block' (by omega)
              simp only [Value.slice.injEq] at eg
              obtain ⟨rfl, -, rfl⟩ := eg
              obtain ⟨cur, hgb⟩ := HS.out.2.row.kind hown
              have zf := free_of hgb (i * 2 + 1)
              obtain ⟨gb, go, ego, -, p0, p1⟩ := fld_cells (RowAt.rd HS.out.2.row) hgl
              simp only [Option.some.injEq, Addr.mk.injEq] at ego
              obtain ⟨rfl, rfl, -⟩ := ego
              rw [hge] at p0 p1
              have hok : fmtOk ((parNs b)[i] : Int) = true := by
                have := HOk.out
                unfold allOk at this
                rw [List.all_eq_true] at this
                exact this _ (List.getElem_mem hlN)
              have HFd := Lib.hid (rfield_any (HR.out.fr0 (HF2.out.trans HS.out.2.fr (fun k hk => by subst hk; exact .inr (by omega)))) cap hc hb63 at3 h3l hb40 ((parNs b)[i] : Int) hok)
              unfold RFieldP at HFd
              have HNx := Lib.hid (fun (s : ByteArray) (b' : Bs) (hv : (readF (b.drop at3) ((parNs b)[i] : Nat)).1 = 0 → s = strB (readF (b.drop at3) ((parNs b)[i] : Nat)).2.1 ∧ b' = (readF (b.drop at3) ((parNs b)[i] : Nat)).2.2) => inv_good HI.out H0.out hlN hv)
              have HEm := Lib.hid (fun (v : ByteArray) => em_set HS.out.1 hlN v)
              have hge2 : (fs ++ ((parNs b).drop i).map em)[i].n = ((parNs b)[i] : Int) := by rw [hge]; rfl
              have HPut := Lib.hid (fun (W : World) (hf : Fr noBlock wr W) (v : ByteArray) => (HS.out.2.on hf).put hmlt hgl v)
              rw [hge2] at HPut
              have hgw : g < wr.heap.size := heap_lt hgb
              unfold em at p0 p1
              rw [Nat.zero_add] at p0 p1
              generalize (parNs b)[i] = nn at *
              obtain ⟨xe, hxe⟩ : ∃ x, (readF (b.drop at3) (nn : Int)).1 = x := ⟨_, rfl⟩
              rw [hxe] at HFd HNx
              have Hxe := Lib.hid hxe
              clear hge hge2 hok hxe hgb hown hlN hlt
              go_wp2_with fail
              refine HFd.out.mono ?_
              rintro e w5 ⟨s, k, rfl, f5, hv⟩
              by_cases hx0 : xe = 0
              · subst hx0
                obtain ⟨v1, v2, v3⟩ := hv rfl
                have HIn := Lib.hid (HNx.out s (b.drop (at3 + k)) (fun _ => ⟨v1, v2⟩))
                have hp := HPut.out w5 f5 s
                rw [show (⟨(nn : Int), s⟩ : Fld) = ⟨((nn : Nat) : Int), s⟩ from rfl, HEm.out s] at hp
                have HP5 := Lib.hid hp
                have zf5 := (f5.frozen (p := ⟨g, i * 2 + 1, none⟩) hgw (fun x => x)).trans zf
                have y15 := (f5.cell (p := ⟨m, 1, none⟩) (heap_lt HS.out.2.box) (fun x => x)).trans y1
                have hk3 : at3 + k ≤ b.length := v3
                have hkI : (at3 : Int) + (k : Int) ≤ 140737488351232 := by omega
                have hlen := HS.out.1
                have HL := Lib.hid (show (fs ++ [(⟨(nn : Int), s⟩ : Fld)]).length = i + 1 by rw [List.length_append, hlen]; rfl)
                have hpc := (f5.cell (p := ⟨g, i * 2 + 1, none⟩) hgw (fun x => x)).trans p1
                clear hp hv v1 v2 v3 f5 hlen zf y0 y1 yz p0 p1
                go_wp2_with fail
                go_roundw
                case rel => exact ⟨i + 1, at3 + k, fc, some ⟨g, 0, none⟩, fs ++ [⟨(nn : Int), s⟩], hi1, hk3, by go_num, by go_num, Lib.hid ⟨HL.out, HP5.out⟩, HIn⟩
                case measure => simp [intOf]; omega
              · have hne : (xe != 0) = true := by simpa using hx0
                have hIn := HNx.out s (b.drop (at3 + k)) (fun h => absurd h hx0)
                have hbad := (inv_end (inv_more hx0 (fn - (i + 1)) (i + 1) hIn) (fun _ => by rw [HN.out]; omega)).1 hx0
                have HFw := Lib.hid ((HF2.out.trans HS.out.2.fr (fun k hk => by subst hk; exact .inr (by omega))).trans' f5)
                have HFin := Lib.hid (ParseP.bad (b := b) (x := xe) (w := w) (w1 := w5) (p := w.heap.size) hbad HFw.out (Nat.le_refl _) (.string ⟨#[]⟩) (.slice none 0 0))
                have hbx := f5.obj (HS.out.2.fr.obj HB2.out (by intro e; omega)) (fun x => x)
                have x0 := cell_of hbx 0
                have x1 := cell_of hbx 1
                have xz0 := free_of hbx 0
                have xz1 := free_of hbx 1
                simp at x0 x1
                obtain ⟨-, f2, f3⟩ := set_cells hbx (.string ⟨#[]⟩) (.slice none 0 0)
                clear hIn hbad hbx y0 y1 yz p0 p1 hv f5 zf hx0
                go_wp2_with fail
                exact bodyPost_ret (v := .tuple #[.agg #[.string ⟨#[]⟩, .slice none 0 0], .int .i64 0, .int .i64 xe]) (by simp [results, Tryd.results14, go_sem, f2, f3]) rfl HFin.out
            · have r1 : (fn : Int) ≤ (i : Int) := by omega
              have ei : i = fn := by omega
              obtain ⟨-, hE⟩ := inv_end HI.out (fun _ => by rw [HN.out]; exact ei)
              have hE := hE rfl
              have hS2 := HS.out.2
              rw [List.drop_eq_nil_of_le (by rw [HN.out]; omega), List.map_nil, List.append_nil] at hS2
              have hfl : fn = fs.length := hS2.row.len
              have hFw := HF2.out.trans hS2.fr (fun k hk => by subst hk; exact .inr (by omega))
              have hf : Fr (fun k => k = w.heap.size) wr ((wr.setCell ⟨w.heap.size, 0, none⟩ (.string t0)).setCell ⟨w.heap.size, 1, none⟩ (.slice fo fn fc)) := ((Fr.refl (fun k => k = w.heap.size) wr).setCell (p := ⟨w.heap.size, 0, none⟩) (.inl rfl) _).setCell (p := ⟨w.heap.size, 1, none⟩) (.inl rfl) _
              have HFin := Lib.hid (show ParseP b w (.returned (.tuple #[.agg #[.string t0, .slice fo fn fc], .int .i64 (at3 : Int), .int .i64 0])) ((wr.setCell ⟨w.heap.size, 0, none⟩ (.string t0)).setCell ⟨w.heap.size, 1, none⟩ (.slice fo fn fc)) from by
                obtain ⟨e0, e1, e2, e3, _⟩ := hE
                refine ⟨⟨fo, fn, fc⟩, ?_, by rw [e2]; exact hfl, ?_, hFw.trans hf (fun k hk => by subst hk; exact .inr (Nat.le_refl _)), fun k hk => by have := hS2.new k hk; omega⟩
                · rw [e0, e1, Ht0.out, e3, List.length_drop]
                  have : (b.length : Int) - ((b.length - at3 : Nat) : Int) = (at3 : Int) := by omega
                  rw [this]
                  rfl
                · rw [e2]
                  exact hS2.row.fr hf (fun k hk e => by have := hS2.new k hk; have e' : k = w.heap.size := e; omega))
              have hbx := hS2.fr.obj HB2.out (by intro e; omega)
              have x0 := cell_of hbx 0
              have x1 := cell_of hbx 1
              have xz0 := free_of hbx 0
              have xz1 := free_of hbx 1
              simp at x0 x1
              obtain ⟨-, f2, f3⟩ := set_cells hbx (.string t0) (.slice fo fn fc)
              clear hE hS2 hfl hFw hf hbx ei hlt
              go_wp2_with fail
              exact bodyPost_ret (v := .tuple #[.agg #[.string t0, .slice fo fn fc], .int .i64 (at3 : Int), .int .i64 0]) (by simp [results, Tryd.results14, go_sem, f2, f3]) rfl HFin.out
  · have hx : (unpE b 4 != 0) = true := by simpa using hu
    have HFin := Lib.hid (ParseP.bad (b := b) (x := unpE b 4) (w := w) (w1 := w1) (p := w.heap.size) (par_early (show parF b = unpE b 4 by
      have e : mapsE (b.drop (unpN b 4)) (unpE b 4) = unpE b 4 := if_pos hu
      unfold parF mapsF
      rw [e, if_pos hu]) hu) HF1.out (Nat.le_refl _) (.string ⟨#[]⟩) (.slice none 0 0))
    obtain ⟨-, f2, f3⟩ := set_cells HB1.out (.string ⟨#[]⟩) (.slice none 0 0)
    generalize unpE b 4 = x at *
    clear hu xz
    go_wp2_with fail
    exact bodyPost_ret (v := .tuple #[.agg #[.string ⟨#[]⟩, .slice none 0 0], .int .i64 0, .int .i64 x]) (by simp [results, Tryd.results14, go_sem, f2, f3]) rfl HFin.out
end Go.Proofs.YthckgkghmlkcnaaDoor
