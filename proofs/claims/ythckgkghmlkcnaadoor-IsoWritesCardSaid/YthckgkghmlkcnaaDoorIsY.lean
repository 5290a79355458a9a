/-
  THE WALK of iso.Bytes.
-/
import Derived.Laws.MakeOwn
import Derived.Test.YthckgkghmlkcnaaDoorIsW
import Derived.Test.YthckgkghmlkcnaaDoorIsC
namespace Go.Proofs.YthckgkghmlkcnaaDoor
open Go.RowKit

theorem asc_len {N : Nat} : ∀ (l : List Nat) (lo : Nat), lo ≤ N → (∀ x ∈ l, lo ≤ x ∧ x < N) → l.Pairwise (· < ·) → lo + l.length ≤ N
  | [], lo, h, _, _ => h
  | x :: l, lo, h, ha, hp => by
    rw [List.pairwise_cons] at hp
    have hx := ha x List.mem_cons_self
    have := asc_len l (x + 1) (by omega) (fun y hy => ⟨hp.1 y hy, (ha y (List.mem_cons_of_mem _ hy)).2⟩) hp.2
    simp only [List.length_cons]
    omega
theorem right_len {l : List Fld} (h : rightF 0 l = 0) : l.length ≤ 103 := by
  obtain ⟨h1, h2⟩ := right_fields l 0 h
  have hr : ∀ f ∈ l, 2 ≤ f.n ∧ f.n ≤ 102 := fun f hf => fmt_range (h1 f hf).2.1
  have := asc_len (N := 103) (l.map (fun f => f.n.toNat)) 0 (by omega) (fun x hx => by
    obtain ⟨f, hf, rfl⟩ := List.mem_map.1 hx
    have := hr f hf
    omega) (by
    rw [List.pairwise_map]
    exact List.Pairwise.imp_of_mem (fun {a b} ha hb hab => by have := hr a ha; have := hr b hb; omega) h2)
  simpa using this
theorem fieldB_len {n : Int} {v : Bs} (hf : fmtOk n = true) (hv : valueE v (kindOf n) (longOf n) = 0) : (fieldB n v).length ≤ 1001 := by
  have h1 := field_len hf hv
  have F := fmt_facts hf
  unfold fieldB
  rw [List.length_append]
  have a : (if 0 < ah n then packB (textB v.length (ah n)) else []).length ≤ 2 := by
    split
    · rename_i ha
      rw [packB_len, textB_len]
      have := (F.a1 ha).2.1
      omega
    · simp
  have b : (if packedK (kindOf n) = true then packB v else v).length ≤ 999 := by
    split
    · rw [packB_len]; omega
    · exact h1
  omega
def restB (l : List Fld) : Bs := l.flatMap (fun f => fieldB f.n (bl f.v))
theorem restB_snoc (l : List Fld) (f : Fld) : restB (l ++ [f]) = restB l ++ fieldB f.n (bl f.v) := by unfold restB; simp
theorem restB_len : ∀ (l : List Fld), (∀ f ∈ l, fmtOk f.n = true ∧ valueE (bl f.v) (kindOf f.n) (longOf f.n) = 0) → (restB l).length ≤ 1001 * l.length
  | [], _ => by simp [restB]
  | f :: l, h => by
    have h1 := restB_len l (fun g hg => h g (List.mem_cons_of_mem _ hg))
    obtain ⟨a, b⟩ := h f List.mem_cons_self
    have h2 := fieldB_len a b
    have : restB (f :: l) = fieldB f.n (bl f.v) ++ restB l := by unfold restB; simp
    rw [this, List.length_append, List.length_cons]
    omega
theorem mapF_snoc : ∀ (l : List Fld) (a : Bs) (f : Fld), mapF a (l ++ [f]) = setBit (if 64 < f.n then setBit (mapF a l) 0 else mapF a l) (f.n.toNat - 1)
  | [], a, f => rfl
  | g :: l, a, f => by
    show mapF (setBit (if 64 < g.n then setBit a 0 else a) (g.n.toNat - 1)) (l ++ [f]) = _
    rw [mapF_snoc l _ f]
    rfl
theorem above_snoc (l : List Fld) (f : Fld) : above (l ++ [f]) = (above l || decide (64 < f.n)) := by unfold above; simp
theorem or_bit' : ∀ c < 256, ∀ j < 8, bits .or .u8 ((c : Nat) : Int) ((2 ^ (7 - j) : Nat) : Int) = ((orB (UInt8.ofNat c) j).toNat : Int) := by decide +kernel
theorem or_bit (c : UInt8) {j : Nat} (hj : j < 8) : bits .or .u8 (c.toNat : Int) ((2 ^ (7 - j) : Nat) : Int) = ((orB c j).toNat : Int) := by
  have := or_bit' c.toNat c.toNat_lt j hj
  rwa [u8_eta] at this
def bytesR (t : ByteArray) (l : List Fld) : Bs := if rightM t l = 0 then bytesM t l else []
set_option maxRecDepth 100000 in
set_option maxHeartbeats 3200000 in
theorem bytes_any (t : ByteArray) {ao : Option Addr} {l : List Fld} {w : World} (h : RowRd FldR w ao l) (cap : Nat) (hs : SmallM t l) : Calls Tryd.prog 16 #[.agg #[.string t, .slice ao l.length cap]] w (ReadP (bytesR t l) (rightM t l) w) := by
  have HR := Lib.hid h
  have HRt := Lib.hid (fun W (f : Fr noBlock w W) => right_any t (h.fr0 f) cap hs)
  unfold bytesR
  by_cases hz : rightM t l = 0
  · obtain ⟨hv, hrf⟩ : valueE (bl t) 1 4 = 0 ∧ rightF 0 l = 0 := by
      unfold rightM at hz
      split at hz
      · rename_i hx; exact absurd hz hx
      · rename_i hx; exact ⟨by simpa using hx, hz⟩
    have hn103 := right_len hrf
    obtain ⟨hfs, hpw⟩ := right_fields l 0 hrf
    have HFs := Lib.hid (fun (f : Fld) (hf : f ∈ l) => (hfs f hf).2)
    obtain ⟨ho, -, hv4⟩ := value_ok hv
    have hv4 := hv4 (by omega)
    have ht4 : t.size = 4 := by rw [bl_len] at hv4; omega
    have HPk := Lib.hid (fun W => pack_any t W (other_dig (.inl rfl) ho) (by omega))
    have hmk0 : ∃ Z : Array Value, Z.toList = ByteR.flat (zeros 16) ∧ ∀ W : World, (Instr.makeSlice 22 (.int .i64 8) (.int .i64 16)).run Tryd.prog W = .ok (.slice (some ⟨W.heap.size, 0, none⟩) 8 16) (W.alloc (.cells Z 5)) := by
      obtain ⟨i, z, hi, hz, hs, hby, hzs⟩ := el_bytes.info
      have hz' : z = .int .u8 0 := by
        have := infoB
        rw [hi] at this
        simp at this
        rw [hz] at this
        simpa using this.1
      subst hz'
      refine ⟨madeCells #[.int .u8 0] 16, ?_, fun W => ?_⟩
      · have hl : (madeCells #[Value.int .u8 0] 16).toList = List.replicate 16 (.int .u8 0) := toList_madeCells_one _ _
        rw [hl]
        rfl
      · have := run_make W 22 5 i _ Tryd.underlying22 hi hz .i64 .i64 8 16 (by omega) (by omega) (by rw [hby]; omega) (by omega)
        rw [this, hs, byteK]
        rfl
    obtain ⟨Z, hZ, hmk⟩ := hmk0
    have HZ := Lib.hid hZ
    rw [if_pos hz, hz]
    unfold RightP at HRt
    rw [hz] at HRt
    clear h hs hz hv hrf hfs hpw ho hv4 hZ
    go_enter Tryd.func16, Tryd.ntmps16
    go_wp2_with fail
    refine (HRt.out _ ((Fr.refl _ _).alloc _)).mono ?_
    rintro e w1 ⟨rfl, f1⟩
    have hb0 : (w.alloc (.cells #[.string t, .slice ao l.length cap] 27)).heap.size = w.heap.size + 1 := by simp
    have k0 : w1.cell? ⟨w.heap.size, 0, none⟩ = some (.string t) := (f1.cell (p := ⟨w.heap.size, 0, none⟩) (by rw [hb0]; exact Nat.lt_succ_self _) (fun x => x)).trans (by simp)
    have k1 : w1.cell? ⟨w.heap.size, 1, none⟩ = some (.slice ao l.length cap) := (f1.cell (p := ⟨w.heap.size, 1, none⟩) (by rw [hb0]; exact Nat.lt_succ_self _) (fun x => x)).trans (by simp)
    have HF1 := Lib.hid (((Fr.refl noBlock w).alloc (.cells #[.string t, .slice ao l.length cap] 27)).trans' f1)
    have hw1 : w.heap.size < w1.heap.size := by have := f1.size; omega
    have HK := Lib.hid (And.intro k0 k1)
    have hwb := hw1
    clear f1 hb0
    have HO0 := Lib.hid (show Own2 w1 (w1.alloc (.cells Z 5)) (some ⟨w1.heap.size, 0, none⟩) 16 16 (mapF (zeros 16) (l.take 0)) none 0 0 (restB (l.take 0)) by
      have hzs : Z.size = 16 := by have := congrArg List.length HZ.out; rw [ByteR.flat_len] at this; simpa [zeros, byteK] using this
      refine ⟨⟨⟨ByteR.flat_len _, .inr ⟨w1.heap.size, 16, Z, rfl, Nat.le_refl _, heap_new w1 _, Nat.le_refl _, by decide, by rw [byteK, Nat.mul_one]; exact hzs, ?_⟩⟩, rfl, (Fr.refl _ _).alloc _⟩, OwnB.nil ((Fr.refl _ _).alloc _), fun k _ e => by cases e⟩
      rw [byteK, Nat.mul_one, HZ.out]
      rfl)
    have HF2 := Lib.hid (HF1.out.alloc (.cells Z 5))
    have k2 : (w1.alloc (.cells Z 5)).cell? ⟨w.heap.size, 1, none⟩ = some (.slice ao l.length cap) := (((Fr.refl noBlock w1).alloc (.cells Z 5)).cell (p := ⟨w.heap.size, 1, none⟩) hw1 (fun x => x)).trans HK.out.2
    have K2 := Lib.hid k2
    clear HRt k2 k0 k1
    go_upto_region 5 with fail
    refine wp_at (φ := fun W => Own2 w1 W (some ⟨w1.heap.size, 0, none⟩) 16 16 (mapF (zeros 16) (l.take 0)) none 0 0 (restB (l.take 0)) ∧ W.cell? ⟨w.heap.size, 1, none⟩ = some (.slice ao l.length cap)) ⟨HO0.out, K2.out⟩ ?_
    rintro w2 ⟨hO, k2⟩
    obtain ⟨g, hg⟩ : ∃ g, w1.heap.size = g := ⟨_, rfl⟩
    rw [hg] at hO ⊢
    have HO := Lib.hid hO
    clear HO0 K2 HF2 hO
    rw [hg] at hw1
    clear hg
    go_wp2_with fail
    go_loopw [5, 6, 19] (fun s5 s6 s19 wr => ∃ (i m : Nat) (ro : Option Addr) (rm rc : Nat), i ≤ l.length ∧ s19 = .int .i64 i ∧ s5 = .slice (some ⟨g, 0, none⟩) m 16 ∧ s6 = .slice ro rm rc ∧ m = (if above (l.take i) = true then 16 else 8) ∧ Hid (Own2 w1 wr (some ⟨g, 0, none⟩) 16 16 (mapF (zeros 16) (l.take i)) ro rm rc (restB (l.take i)))) (fun _ _ s19 _ => l.length - (intOf s19).toNat)
    case atStart => exact ⟨0, 8, none, 0, 0, Nat.zero_le _, rfl, rfl, rfl, rfl, HO⟩
    case round =>
      obtain ⟨i, m, ro, rm, rc, hi, rfl, rfl, rfl, hm, HI⟩ := hrel
      clear HO
      by_cases hlt : i < l.length
      · have q1 : (i : Int) < (l.length : Int) := by omega
        have q0 : (0 : Int) ≤ (i : Int) := by omega
        have hi1 : i + 1 ≤ l.length := hlt
        have HFr := Lib.hid (HF1.out.trans' HI.out.one.fr)
        obtain ⟨b, off, rfl, hb, y0, y1⟩ := fld_cells (HR.out.fr0 HFr.out) hlt
        have htk : l.take (i + 1) = l.take i ++ [l[i]] := List.take_succ_eq_append_getElem hlt
        obtain ⟨hfo, hfv⟩ := HFs.out l[i] (List.getElem_mem hlt)
        have hml : (mapF (zeros 16) (l.take i)).length = 16 := (mapF_bit (l.take i) (zeros 16) (fun f hf => by have := fmt_range (HFs.out f (List.mem_of_mem_take hf)).1; omega) (by simp [zeros])).1
        have hab := above_snoc (l.take i) l[i]
        have hmf := mapF_snoc (l.take i) (zeros 16) l[i]
        have hrb := restB_snoc (l.take i) l[i]
        rw [← htk] at hab hmf hrb
        have hrl := restB_len (l.take i) (fun f hf => HFs.out f (List.mem_of_mem_take hf))
        rw [HI.out.two.len, List.length_take] at hrl
        have hfl := fieldB_len hfo hfv
        have HFd := Lib.hid (fun W => field_any l[i] W hfo hfv)
        obtain ⟨hn2, hn102⟩ := fmt_range hfo
        obtain ⟨L, hL⟩ : ∃ L, mapF (zeros 16) (l.take i) = L := ⟨_, rfl⟩
        obtain ⟨A, hA⟩ : ∃ A, above (l.take i) = A := ⟨_, rfl⟩
        rw [hL] at hml hmf HI
        rw [hA] at hm hab
        have Hab := Lib.hid hab
        have Hmf := Lib.hid hmf
        have Hrb := Lib.hid hrb
        clear htk hfo hfv hL hA hab hmf hrb
        generalize l[i] = f at *
        obtain ⟨fn, fv⟩ := f
        simp only at y0 y1 hn2 hn102
        go_upto_region 9 with fail
        obtain ⟨wf, hwf⟩ : ∃ wf, wr.alloc (.cells #[.int .i64 fn, .string fv] 41) = wf := ⟨_, rfl⟩
        have c0 : wf.cell? ⟨wr.heap.size, 0, none⟩ = some (.int .i64 fn) := by rw [← hwf]; simp
        have c1 : wf.cell? ⟨wr.heap.size, 1, none⟩ = some (.string fv) := by rw [← hwf]; simp
        have hfz : wf.heap.size = wr.heap.size + 1 := by rw [← hwf]; simp
        have HIf := Lib.hid (HI.out.«to» (show Fr noBlock wr wf by rw [← hwf]; exact (Fr.refl _ _).alloc _))
        have hgr : g < wr.heap.size := HI.out.one.lt g rfl
        rw [hwf]
        clear hwf y0 y1 HI
        go_upto_if 27 with fail
        go_cut [5] from 27 to 34 (fun s5 wx => ∃ m2, s5 = .slice (some ⟨g, 0, none⟩) m2 16 ∧ m2 = (if above (l.take (i + 1)) = true then 16 else 8) ∧ Hid (Own2 w1 wx (some ⟨g, 0, none⟩) 16 16 (if 64 < fn then setBit L 0 else L) ro rm rc (restB (l.take i))) ∧ Hid (Fr (fun k => k = g) wf wx))
        case first =>
          by_cases h64 : 64 < fn
          · have q64 : (64 : Int) ≤ fn - 1 := by omega
            have hm2 : m ≤ 16 := by rw [hm]; split <;> omega
            have hm0 : 1 ≤ m := by rw [hm]; split <;> omega
            have hmI : (m : Int) ≤ 16 := by omega
            obtain ⟨z0, z1⟩ := byte_at HIf.out.one.row (i := 0) (by rw [hml]; omega)
            have HP := Lib.hid (HIf.out.put (i := 0) (by rw [hml]; omega) (orB (L.getD 0 0) 0))
            have hL0 : L[0]'(by rw [hml]; omega) = L.getD 0 0 := by simp [List.getD, hml]
            rw [hL0] at z0
            have n1 := or_bit (L.getD 0 0) (j := 0) (by omega)
            have HF := Lib.hid ((Fr.refl (fun k => k = g) wf).setCell (p := ⟨g, 0, none⟩) (.inl rfl) (.int .u8 ((orB (L.getD 0 0) 0).toNat : Int)))
            have hab2 : (if above (l.take (i + 1)) = true then 16 else 8) = 16 := by rw [Hab.out]; simp [h64]
            have HS := Lib.hid (show L.set 0 (orB (L.getD 0 0) 0) = (if 64 < fn then setBit L 0 else L) by rw [if_pos h64]; rfl)
            have hc256 := (L.getD 0 0).toNat_lt
            generalize orB (L.getD 0 0) 0 = c9 at *
            unfold byteV at z0
            generalize (L.getD 0 0).toNat = c8 at *
            have N1 := Lib.hid (show bits .or .u8 (c8 : Int) 128 = (c9.toNat : Int) from n1)
            have Hab2 := Lib.hid hab2
            clear n1 hL0 hm hab2
            go_wp2_with fail
            rw [N1.out]
            go_meet
            exact ⟨16, rfl, Hab2.out.symm, by rw [← HS.out]; exact HP, HF⟩
          · have q64 : fn - 1 < 64 := by omega
            have hab2 : m = (if above (l.take (i + 1)) = true then 16 else 8) := by rw [Hab.out, show decide (64 < fn) = false by simpa using h64, Bool.or_false]; exact hm
            have HS := Lib.hid (show L = (if 64 < fn then setBit L 0 else L) by rw [if_neg h64])
            have Hab2 := Lib.hid hab2
            clear h64 hm hab2
            go_wp2_with fail
            go_meet
            exact ⟨m, rfl, Hab2.out, by rw [← HS.out]; exact HIf, Lib.hid (Fr.refl _ _)⟩
        obtain ⟨m2, rfl, hm2, HO, HFx⟩ := hcut
        rename_i wx
        have Hm2 := Lib.hid hm2
        clear HIf hm
        obtain ⟨L2, hL2⟩ : ∃ L2, (if 64 < fn then setBit L 0 else L) = L2 := ⟨_, rfl⟩
        have hl2 : L2.length = 16 := by rw [← hL2]; split <;> simp [setBit_len, hml]
        have hmf2 := Hmf.out
        rw [hL2] at HO hmf2
        obtain ⟨q, hq⟩ : ∃ q : Nat, (fn - 1) / 8 = (q : Int) := ⟨((fn - 1) / 8).toNat, by omega⟩
        obtain ⟨j, hj⟩ : ∃ j : Nat, (fn - 1) % 8 = (j : Int) := ⟨((fn - 1) % 8).toNat, by omega⟩
        have hj8 : j < 8 := by omega
        have hqk : (fn.toNat - 1) / 8 = q := by omega
        have hjk : (fn.toNat - 1) % 8 = j := by omega
        have hqm : q < m2 ∧ m2 ≤ 16 := by
          rw [hm2]
          by_cases h64 : 64 < fn
          · rw [Hab.out]; simp [h64]; omega
          · split <;> omega
        obtain ⟨hqm, hm16⟩ := hqm
        have hqI : (q : Int) < (m2 : Int) := by omega
        have hmI : (m2 : Int) ≤ 16 := by omega
        unfold setBit at hmf2
        rw [hqk, hjk] at hmf2
        obtain ⟨z0, z1⟩ := byte_at HO.out.one.row (i := q) (by rw [hl2]; omega)
        have hL0 : L2[q]'(by rw [hl2]; omega) = L2.getD q 0 := by simp [List.getD, show q < L2.length by omega]
        rw [hL0] at z0
        have HP := Lib.hid (HO.out.put (i := q) (by rw [hl2]; omega) (orB (L2.getD q 0) j))
        rw [← hmf2] at HP
        have n1 := or_bit (L2.getD q 0) hj8
        have hc256 := (L2.getD q 0).toNat_lt
        have x0 := (HFx.out.cell (p := ⟨wr.heap.size, 0, none⟩) (by rw [hfz]; exact Nat.lt_succ_self _) (by intro e; have e' : wr.heap.size = g := e; omega)).trans c0
        have x1 := (HFx.out.cell (p := ⟨wr.heap.size, 1, none⟩) (by rw [hfz]; exact Nat.lt_succ_self _) (by intro e; have e' : wr.heap.size = g := e; omega)).trans c1
        have X := Lib.hid (And.intro x0 x1)
        have HF := HFx.out.setCell (p := ⟨g, q, none⟩) (.inl rfl) (.int .u8 ((orB (L2.getD q 0) j).toNat : Int))
        have HZZ := Lib.hid (And.intro ((HF.cell (p := ⟨wr.heap.size, 0, none⟩) (by rw [hfz]; exact Nat.lt_succ_self _) (by intro e; have e' : wr.heap.size = g := e; omega)).trans c0) ((HF.cell (p := ⟨wr.heap.size, 1, none⟩) (by rw [hfz]; exact Nat.lt_succ_self _) (by intro e; have e' : wr.heap.size = g := e; omega)).trans c1))
        generalize orB (L2.getD q 0) j = c9 at *
        unfold byteV at z0
        generalize (L2.getD q 0).toNat = c8 at *
        have hpw : (128 : Int) / 2 ^ j = ((2 ^ (7 - j) : Nat) : Int) := by
          have hjc : j = 0 ∨ j = 1 ∨ j = 2 ∨ j = 3 ∨ j = 4 ∨ j = 5 ∨ j = 6 ∨ j = 7 := by omega
          rcases hjc with rfl | rfl | rfl | rfl | rfl | rfl | rfl | rfl <;> rfl
        rw [← hpw] at n1
        have N1 := Lib.hid n1
        clear hL0 hmf2 hjk hqk hL2 x0 x1 c0 c1 HO HFx n1 hpw hm2 HF
        go_upto_region 13 with fail
        go_region
        all_goals
          rw [N1.out]
          go_upto_region 14 with fail
          refine wp_at (φ := fun W => Own2 w1 W (some ⟨g, 0, none⟩) 16 16 (mapF (zeros 16) (l.take (i + 1))) ro rm rc (restB (l.take i)) ∧ W.cell? ⟨wr.heap.size, 0, none⟩ = some (.int .i64 fn) ∧ W.cell? ⟨wr.heap.size, 1, none⟩ = some (.string fv)) ⟨HP.out.«to» ((Fr.refl _ _).drew), HZZ.out.1, HZZ.out.2⟩ ?_
          rintro w3 ⟨hO3, z3, z4⟩
          have HO3 := Lib.hid hO3
          clear hO3
          have HFd2 := Lib.hid (show ∀ W, Calls Tryd.prog 33 #[.agg #[.int .i64 fn, .string fv]] W (CloneP (fieldB fn (bl fv)) W) from HFd.out)
          have hfl2 : (fieldB fn (bl fv)).length ≤ 1001 := hfl
          have Hrb2 := Lib.hid (show restB (l.take (i + 1)) = restB (l.take i) ++ fieldB fn (bl fv) from Hrb.out)
          obtain ⟨X2, hX2⟩ : ∃ X2, fieldB fn (bl fv) = X2 := ⟨_, rfl⟩
          rw [hX2] at HFd2 Hrb2 hfl2
          clear hX2 HFd hfl Hrb
          go_wp2_with fail
          refine (HFd2.out _).mono ?_
          rintro e w4 ⟨⟨sa, sn, sc⟩, rfl, h1, h2, h3, h4⟩
          have H := Lib.hid (And.intro h1 (And.intro (RowAt.rd h2) h3))
          unfold SV.val
          dsimp only at h1 ⊢
          have hrm2 : rm + sn ≤ 206206 := by omega
          clear h1 h2 h3 h4 z3 z4
          go_wp2_with (at_builtin; apply stop_here)
          refine ⟨?_, trivial⟩
          refine wpList_app rfl _ _ rfl el_bytes (v := .slice ro rm rc) (restB (l.take i)) X2 (restB (l.take (i + 1))) Hrb2.out.symm w1.heap.size rm (rm + sn) (by rw [Hrb2.out, List.length_append, HO3.out.two.len, ← H.out.1]) rfl (HO3.out.two.own' H.out.2.2) rfl H.out.2.1 H.out.1 (by unfold maxLen; omega) (by omega) (HO3.out.two.base H.out.2.2) ?_
          intro ao6 cap6 w6 o6 g6 a6
          go_frame
          have HG := Lib.hid ((HO3.out.symm.grown H.out.2.2 o6 (by rw [Hrb2.out, List.length_append, HO3.out.two.len, ← H.out.1]) g6 a6).symm)
          clear o6 g6 a6
          go_wp2_with fail
          go_roundw
          case rel => exact ⟨i + 1, m2, _, _, _, hi1, by go_num, rfl, rfl, Hm2.out, HG⟩
          case measure => simp [intOf]; omega
      · have q1 : (l.length : Int) ≤ (i : Int) := by omega
        have e : i = l.length := by omega
        subst e
        rw [List.take_length] at HI hm
        have HKb := Lib.hid (And.intro ((HI.out.one.fr.cell (p := ⟨w.heap.size, 0, none⟩) hwb (fun x => x)).trans HK.out.1) ((HI.out.one.fr.cell (p := ⟨w.heap.size, 1, none⟩) hwb (fun x => x)).trans HK.out.2))
        have Hm := Lib.hid hm
        have c0 := HKb.out.1
        clear hlt hm
        go_wp2_with fail
        refine (HPk.out _).mono ?_
        rintro e w4 ⟨⟨sa, sn, sc⟩, rfl, h1, h2, h3, h4⟩
        have HO4 := Lib.hid (HI.out.«to» h3)
        have HP4 := Lib.hid (And.intro h1 (RowAt.rd h2))
        have HF4 := Lib.hid ((HF1.out.trans' HI.out.one.fr).trans' h3)
        have hmb : mapsB l = (mapF (zeros 16) l).take m := by
          have hl16 := (mapF_bit l (zeros 16) (fun f hf => by have := fmt_range (HFs.out f hf).1; omega) (by simp [zeros])).1
          unfold mapsB
          rw [Hm.out]
          by_cases ha : above l = true
          · rw [if_pos ha, if_pos ha, List.take_of_length_le (by omega)]
          · rw [if_neg ha, if_neg ha]
        have hml2 : m = (mapsB l).length := by
          have hl16 := (mapF_bit l (zeros 16) (fun f hf => by have := fmt_range (HFs.out f hf).1; omega) (by simp [zeros])).1
          rw [hmb, List.length_take, hl16, Hm.out]
          split <;> rfl
        have hm16 : m ≤ 16 := by rw [Hm.out]; split <;> omega
        have hrl := restB_len l HFs.out
        rw [HI.out.two.len] at hrl
        have hres : bytesM t l = [packB (bl t), mapsB l, restB l].flatten := by unfold bytesM restB; simp
        have HRes := Lib.hid hres
        have HRows := Lib.hid (show Rows3 (w4.alloc (.cells #[.slice sa sn sc, .slice (some ⟨g, 0, none⟩) m 16, .slice ro rm rc] 22)) (some ⟨w4.heap.size, 0, none⟩) [⟨sa, sn, sc⟩, ⟨some ⟨g, 0, none⟩, m, 16⟩, ⟨ro, rm, rc⟩] [packB (bl t), mapsB l, restB l] by
          have fa := (Fr.refl noBlock w4).alloc (.cells #[.slice sa sn sc, .slice (some ⟨g, 0, none⟩) m 16, .slice ro rm rc] 22)
          refine ⟨RowRd.of_flat (heap_new w4 _) rfl (by unfold maxLen; simp), rfl, fun i s b x y => ?_⟩
          rcases i with _ | _ | _ | i
          · simp at x y
            subst x y
            exact ⟨HP4.out.1, HP4.out.2.fr0 fa⟩
          · simp at x y
            subst x y
            refine ⟨hml2, ?_⟩
            rw [hmb]
            exact (RowRd.takeN HO4.out.one.rd m).fr0 fa
          · simp at x y
            subst x y
            exact ⟨HO4.out.two.len.symm, HO4.out.two.rd.fr0 fa⟩
          · simp at x)
        have hsn : sn ≤ 2 := by
          have := HP4.out.1
          simp only at this
          rw [this, packB_len, bl_len, ht4]
          decide
        have hsum : sumL [packB (bl t), mapsB l, restB l] ≤ 140737488355328 := by
          have e1 : (packB (bl t)).length = sn := HP4.out.1.symm
          have e2 := HI.out.two.len
          unfold sumL
          simp
          omega
        have HC := Lib.hid (concat_any HRows.out 3 (by unfold maxLen; simp) hsum)
        unfold SV.val
        dsimp only
        clear h1 h2 h3 h4 hmb hml2 hrl hres hsum c0
        go_wp2_with fail
        refine HC.out.mono ?_
        rintro e w6 ⟨s6, rfl, h1, h2, h3, h4⟩
        rw [← HRes.out] at h1 h2
        have H6 := Lib.hid (And.intro h1 (And.intro h2 (And.intro ((HF4.out.alloc (.cells #[.slice sa sn sc, .slice (some ⟨g, 0, none⟩) m 16, .slice ro rm rc] 22)).trans' h3) (fun k hk => (by have := h4 k hk; have := HF4.out.size; simp at *; omega : w.heap.size ≤ k)))))
        clear h1 h2 h3 h4
        go_wp2_with fail
        go_ret2
        exact ⟨s6, rfl, H6.out.1, H6.out.2.1, H6.out.2.2.1, fun k hk => H6.out.2.2.2 k hk⟩
  · rw [if_neg hz]
    obtain ⟨x, hx⟩ : ∃ x, rightM t l = x := ⟨_, rfl⟩
    unfold RightP at HRt
    rw [hx] at hz HRt ⊢
    have hb0 : (x != 0) = true := by simpa using hz
    clear h hs hz hx
    go_enter Tryd.func16, Tryd.ntmps16
    go_wp2_with fail
    refine (HRt.out _ ((Fr.refl _ _).alloc _)).mono ?_
    rintro e w1 ⟨rfl, f1⟩
    have HF := Lib.hid (((Fr.refl noBlock w).alloc (.cells #[.string t, .slice ao l.length cap] 27)).trans' f1)
    clear f1
    go_wp2_with fail
    go_ret2
    exact ⟨⟨none, 0, 0⟩, rfl, rfl, RowAt.nil, HF.out, fun k hk => by cases hk⟩
end Go.Proofs.YthckgkghmlkcnaaDoor
