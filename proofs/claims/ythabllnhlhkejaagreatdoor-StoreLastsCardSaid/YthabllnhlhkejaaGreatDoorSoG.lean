/-
  BYTES APPENDED IN PLACE, in a block that is known whole. What Save lays in a partition (plain).
-/
import Derived.Test.YthabllnhlhkejaaGreatDoorSoE
namespace Go.Proofs.YthabllnhlhkejaaGreatDoor
open Go.RowKit

theorem sread_size {d : DK} (h : d.Good) {n : Int} (he : jreadE d n = 0) : (jreadB d n).length = d.size := by
  unfold jreadE at he
  unfold jreadB
  split at he
  · rename_i hj
    rw [if_pos hj]
    unfold DK.readE at he
    unfold DK.readB
    split at he
    · omega
    · rename_i h1
      rw [if_neg h1]
      split at he
      · omega
      · rename_i h2
        rw [if_neg h2]
        cases hlk : lookD d.dirty (9 + n) with
        | some b =>
          obtain ⟨p, hp, _, rfl⟩ := lookD_mem hlk
          exact (h.there p hp).2
        | none =>
          simp only [Option.getD_none]
          have hn : d.isS (9 + n) = true := by simpa using h2
          obtain ⟨a, b⟩ := DK.isS_iff.1 hn
          have h0 : (9 + n).toNat < d.safe.length := by omega
          have : d.safe.getD (9 + n).toNat [] = d.safe[(9 + n).toNat] := by simp [List.getD, List.getElem?_eq_getElem h0]
          rw [this]
          exact h.sizes _ (List.getElem_mem h0)
  · split at he <;> omega
theorem partR_full {d : DK} (hg : d.Good) (b : Int) (k : Nat) (h : (partR d b k).2 = 0) : (partR d b k).1.length = k * d.size := by
  induction k with
  | zero => simp [partR]
  | succ k ih =>
    unfold partR at h ⊢
    split at h
    · rename_i h1
      exact absurd h h1
    · rename_i h1
      rw [if_neg h1]
      split at h
      · rename_i h2
        exact absurd h h2
      · rename_i h2
        rw [if_neg h2]
        show ((partR d b k).1 ++ jreadB d (b + k)).length = _
        rw [List.length_append, ih (by simpa using h1), sread_size hg (by simpa using h2), Nat.succ_mul]
theorem or_i64 (x : Nat) (c : UInt8) (hx : x < 4294967296) : bits .or .i64 ((x : Int) * 256) (c.toNat : Int) = ((x * 256 + c.toNat : Nat) : Int) := by
  have hb := c.toNat_lt
  show IntKind.i64.wrap ((BitVec.ofInt 64 ((x : Int) * 256) ||| BitVec.ofInt 64 (c.toNat : Int)).toNat : Int) = _
  have e1 : (BitVec.ofInt 64 ((x : Int) * 256)).toNat = x * 256 := by
    rw [show ((x : Int) * 256) = ((x * 256 : Nat) : Int) by omega, BitVec.ofInt_natCast, BitVec.toNat_ofNat]
    exact Nat.mod_eq_of_lt (by omega)
  have e2 : (BitVec.ofInt 64 (c.toNat : Int)).toNat = c.toNat := by
    rw [BitVec.ofInt_natCast, BitVec.toNat_ofNat]
    exact Nat.mod_eq_of_lt (by omega)
  have e3 : x * 256 ||| c.toNat = x * 256 + c.toNat := by
    have h := Nat.shiftLeft_add_eq_or_of_lt (show c.toNat < 2 ^ 8 from hb) x
    rw [Nat.shiftLeft_eq] at h
    exact h.symm
  rw [BitVec.toNat_or, e1, e2, e3, IntKind.wrap_i64]
  omega
/-- what Load tells of a partition -/
def loadP (enc tag about : Bs) (r : Bs × Int) : Bs × Nat × Int :=
  if r.2 ≠ 0 then ([], 0, r.2)
  else if num8 (r.1.take 4) = 0 then ([], 0, 15)
  else if (r.1.drop 4).length < num8 (r.1.take 4) then ([], 0, 21)
  else if (boxR enc tag about ((r.1.drop 4).take (num8 (r.1.take 4)))).2.2 ≠ 0 ∨ (boxR enc tag about ((r.1.drop 4).take (num8 (r.1.take 4)))).2.1 = 0 then ([], 0, 21)
  else boxR enc tag about ((r.1.drop 4).take (num8 (r.1.take 4)))
def LoadP (sp j rg sg : Nat) (master : List UInt8) (tenants pages n : Nat) (G : Nat → Prop) (r : Bs × Nat × Int) (w : World) (e : Ending) (w' : World) : Prop :=
  ∃ (s : SV) (G' : Nat → Prop), e = .returned (.tuple #[s.val, .int .i64 (r.2.1 : Int), .int .i64 r.2.2]) ∧ s.n = r.1.length ∧ RowAt 5 ByteR w' s.val r.1 ∧ SealsMade sp j rg master tenants pages n w' G' sg ∧ Step G G' w w' ∧ ∀ k, s.val.ownBlock = some k → w.heap.size ≤ k ∧ ¬ G' k
theorem loadP_nil {sp j rg sg tenants pages n : Nat} {master : List UInt8} {G G' : Nat → Prop} {w w' : World} {x : Int} (hm : SealsMade sp j rg master tenants pages n w' G' sg) (hs : Step G G' w w') : LoadP sp j rg sg master tenants pages n G ([], 0, x) w (.returned (.tuple #[.slice none 0 0, .int .i64 0, .int .i64 x])) w' :=
  ⟨⟨none, 0, 0⟩, G', rfl, rfl, RowAt.nil, hm, hs, fun k hk => by cases hk⟩
set_option maxRecDepth 100000 in
set_option maxHeartbeats 3200000 in
theorem sload_any {w : World} {sp j rg sg L tenants pages n : Nat} {master : List UInt8} {d : DK} {bad : Int} {G H : Nat → Prop} (hj : JAt j L d bad w H) (hS : SealsT sp j rg sg master tenants pages w G) (hd : ∀ k, G k → ¬ H k) (hml : master.length ≤ 64) (hp1 : 1 ≤ pages) (hp : pages ≤ 8) (hn1 : 1 ≤ n) (hn64 : n ≤ 64) (hnt : n ≤ tenants) :
    Calls Tryz.prog 11 #[.pointer (some ⟨sp, 0, none⟩), .int .i64 (n : Int)] w (LoadP sp j rg sg master tenants pages n G (loadP (keyK master n 2 1) (keyK master n 3 1) (aboutB n) (partR d (((n - 1) * pages : Nat) : Int) pages)) w) := by
  have HO := Lib.hid (of_any hS hml hn1 hn64 hnt)
  unfold OfP at HO
  have HP0 := Lib.hid (show ∀ W, JAt j L d bad W H → W.cell? ⟨sp, 0, none⟩ = some (.pointer (some ⟨j, 0, none⟩)) → W.cell? ⟨sp, 3, none⟩ = some (.int .i64 (pages : Int)) → _ from fun W hj c0 c3 => part_any hj c0 c3 hp hn1 hn64)
  unfold ReadP at HP0
  have hs0 := hj.good.s0
  have hlen := partR_full hj.good (((n - 1) * pages : Nat) : Int) pages
  have hlen2 := partR_len hj.good (((n - 1) * pages : Nat) : Int) pages
  obtain ⟨r, hr⟩ : ∃ r, partR d (((n - 1) * pages : Nat) : Int) pages = r := ⟨_, rfl⟩
  rw [hr] at HP0 hlen hlen2 ⊢
  obtain ⟨X, E⟩ := r
  dsimp only at HP0 hlen hlen2
  have HLn := Lib.hid (show E = 0 → 64 ≤ X.length from fun e => by
    have h5 : 1 * 64 ≤ pages * d.size := Nat.mul_le_mul hp1 hs0
    rw [hlen e]
    omega)
  have hX : X.length ≤ 32768 := by
    have h5 : pages * 4096 ≤ 8 * 4096 := Nat.mul_le_mul_right _ hp
    omega
  have HJ := Lib.hid (And.intro hj hd)
  have HB := Lib.hid (And.intro hml hn64)
  obtain ⟨R, hR⟩ : ∃ R, loadP (keyK master n 2 1) (keyK master n 3 1) (aboutB n) (X, E) = R := ⟨_, rfl⟩
  have HRR := Lib.hid hR
  rw [hR]
  clear hj hS hd hml hp1 hp hn1 hn64 hnt hlen hlen2 hs0 hr hR
  go_enter Tryz.func11, Tryz.ntmps11
  go_wp2_with fail
  refine HO.out.mono ?_
  rintro e w1 ⟨G', rfl, h1, h2⟩
  have hj1 : JAt j L d bad w1 H := JAt.ok.fr HJ.out.1 h2.fr (fun k hk hg => HJ.out.2 k hg hk)
  obtain ⟨c0, c3, gs, -⟩ := h1.t.head
  have HP := Lib.hid (HP0.out w1 hj1 c0 c3)
  have H1 := Lib.hid (And.intro h1 h2)
  clear h1 h2 hj1 c0 c3 gs HO HP0 HJ
  go_wp2_with fail
  refine HP.out.mono ?_
  rintro e w2 ⟨⟨xa, xn, xc⟩, rfl, k1, k2, k3, k4⟩
  unfold SV.val at k2 k4 ⊢
  dsimp only at k1 k2 k4 ⊢
  subst k1
  have H2 := Lib.hid (show SealsMade sp j rg master tenants pages n w2 G' sg ∧ Step G G' w w2 from ⟨H1.out.1.fr k3 (fun _ _ z => z), H1.out.2.news k3 (fun _ z => z.elim)⟩)
  have HX2 := Lib.hid (RowAt.rd k2)
  have hxc := RowAt.room k2
  clear k2 k3 k4 HP H1
  by_cases hE : E = 0
  · subst hE
    have hX64 := HLn.out rfl
    have q1 : (64 : Int) ≤ (X.length : Int) := by omega
    obtain ⟨xg, xo, rfl, -⟩ := byte_addr HX2.out (i := 0) (by omega)
    have q2 : ¬ xc = 4 := by omega
    have q3 : (4 : Int) ≤ (xc : Int) := by omega
    have q4 : (X.length : Int) ≤ (xc : Int) := by omega
    have q5 : (4 : Int) ≤ (X.length : Int) := by omega
    go_wp2_with fail
    go_loopw [10, 32] (fun s10 s32 W => ∃ i : Nat, i ≤ 4 ∧ s32 = .int .i64 i ∧ s10 = .int .i64 (num8 (X.take i) : Int) ∧ W = w2) (fun _ s32 _ => 4 - (intOf s32).toNat)
    case atStart => exact ⟨0, by omega, rfl, rfl, rfl⟩
    case round =>
      obtain ⟨i, hi, rfl, rfl, hWr⟩ := hrel
      by_cases hlt : i < 4
      · have q6 : (i : Int) < 4 := by omega
        have q7 : (0 : Int) ≤ (i : Int) := by omega
        have hix : i < X.length := by omega
        have y0 := byte_rd HX2.out hix
        rw [← hWr] at y0
        have HN := Lib.hid (num8_take hix)
        have hx := num8_lt (X.take i)
        have hx2 : 256 ^ (X.take i).length ≤ 256 ^ 3 := Nat.pow_le_pow_right (by omega) (by rw [List.length_take]; omega)
        obtain ⟨x, hxe⟩ : ∃ x, num8 (X.take i) = x := ⟨_, rfl⟩
        rw [hxe] at hx HN ⊢
        have hx3 : x < 16777216 := Nat.lt_of_lt_of_le hx hx2
        unfold byteV at y0
        generalize X[i] = c at *
        have hc := c.toNat_lt
        have q8 : wrap64 ((x : Int) * 256) = (x : Int) * 256 := by unfold wrap64; omega
        have q9 : wrap64 (c.toNat : Int) = (c.toNat : Int) := by unfold wrap64; omega
        have q10 : IntKind.i64.wrap ((x : Int) * 256) = (x : Int) * 256 := by rw [IntKind.wrap_i64]; omega
        have q11 : IntKind.i64.wrap (c.toNat : Int) = (c.toNat : Int) := by rw [IntKind.wrap_i64]; omega
        have HV := Lib.hid (or_i64 x c (by omega))
        have HWr := Lib.hid hWr
        clear hx hx2 hxe hx3 hc hWr
        go_wp2_with fail
        go_roundw
        case rel => exact ⟨i + 1, hlt, by go_num, by rw [HN.out, ← HV.out], HWr.out⟩
        case measure => simp [intOf]; omega
      · have q6 : (4 : Int) ≤ (i : Int) := by omega
        obtain rfl : i = 4 := by omega
        subst hWr
        obtain ⟨N, hN⟩ : ∃ N, num8 (X.take 4) = N := ⟨_, rfl⟩
        have hNl := num8_lt (X.take 4)
        have hNl2 : 256 ^ (X.take 4).length ≤ 256 ^ 4 := Nat.pow_le_pow_right (by omega) (by rw [List.length_take]; omega)
        rw [hN] at hNl ⊢
        have hN32 : N < 4294967296 := Nat.lt_of_lt_of_le hNl hNl2
        have hR := HRR.out
        unfold loadP at hR
        rw [if_neg (by simp)] at hR
        dsimp only at hR
        rw [hN, List.length_drop] at hR
        have HR2 := Lib.hid hR
        clear hR hNl hNl2 hN HRR
        by_cases hN0 : N = 0
        · subst hN0
          have hR := HR2.out
          rw [if_pos rfl] at hR
          subst hR
          go_wp2_with fail
          go_ret3
          exact loadP_nil H2.out.1 H2.out.2
        · have hR := HR2.out
          rw [if_neg hN0] at hR
          have q7 : ((N : Int) == 0) = false := by simp; omega
          by_cases hNX : X.length - 4 < N
          · rw [if_pos hNX] at hR
            subst hR
            have q8 : ((X.length - 4 : Nat) : Int) < (N : Int) := by omega
            have q9 : (X.length : Int) - 4 < (N : Int) := by omega
            have q10 : ((X.length : Int) - 4 < (N : Int)) = True := by simp [q9]
            go_wp2_with fail
            go_ret3
            exact loadP_nil H2.out.1 H2.out.2
          · rw [if_neg hNX] at hR
            have q8 : (N : Int) ≤ ((X.length - 4 : Nat) : Int) := by omega
            have q9 : (N : Int) ≤ (X.length : Int) - 4 := by omega
            have q10 : (N : Int) ≤ ((xc - 4 : Nat) : Int) := by omega
            have q11 : (N : Int) ≤ (xc : Int) - 4 := by omega
            have q12 : (0 : Int) ≤ (N : Int) := by omega
            obtain ⟨e, t, a, ⟨d3, d4, d5⟩, e1, e2, t1, t2, a1, a2⟩ := H2.out.1.cells
            obtain ⟨ea, en, ec⟩ := e
            obtain ⟨ta, tn, tc⟩ := t
            obtain ⟨aa, an, ac⟩ := a
            unfold SV.val at d3 d4 d5
            dsimp only at d3 d4 d5 e1 e2 t1 t2 a1 a2
            subst e1 t1 a1
            have HRow := Lib.hid (And.intro e2 (And.intro t2 a2))
            obtain ⟨al, hal⟩ : ∃ al, (aboutB n).length = al := ⟨_, rfl⟩
            rw [hal] at d5
            have hpl : ((X.drop 4).take N).length = N := by rw [List.length_take, List.length_drop]; omega
            have HOp := Lib.hid (show ∀ W, Fr noBlock wr W → Calls Tryz.prog 25 #[.slice ea 32 ec, .slice ta 32 tc, .slice aa al ac, .slice (some ⟨xg, xo + 4, none⟩) N (xc - 4)] W (BoxP (boxR (keyK master n 2 1) (keyK master n 3 1) (aboutB n) ((X.drop 4).take N)) W) from fun W hW => by
              have hpc := (HX2.out.fr0 hW).piece 4 N
              rw [byteK, Nat.mul_one] at hpc
              have h := open_any (HRow.out.1.fr0 hW) ec (keyK_len _ _ _ _) (HRow.out.2.1.fr0 hW) tc (by rw [keyK_len]; omega) (HRow.out.2.2.fr0 hW) ac (by rw [hal]; exact hal ▸ (Nat.le_trans (aboutB_len (by have := HB.out.2; omega)) (by omega))) hpc (xc - 4) (by rw [hpl]; omega)
              rw [keyK_len, keyK_len, hal, hpl] at h
              exact h)
            unfold BoxP at HOp
            have HR3 := Lib.hid hR
            obtain ⟨o, ho⟩ : ∃ o, boxR (keyK master n 2 1) (keyK master n 3 1) (aboutB n) ((X.drop 4).take N) = o := ⟨_, rfl⟩
            rw [ho] at HOp HR3
            obtain ⟨ob, on, oe⟩ := o
            dsimp only at HOp HR3
            have HKp := Lib.hid (show ∀ W, Fr noBlock wr W → W.cell? ⟨sg, n * 6 + 3, none⟩ = some (.slice ea 32 ec) ∧ W.cell? ⟨sg, n * 6 + 4, none⟩ = some (.slice ta 32 tc) ∧ W.cell? ⟨sg, n * 6 + 5, none⟩ = some (.slice aa al ac) from fun W hf => ⟨(hf.cell (p := ⟨sg, n * 6 + 3, none⟩) (World.block_lt_of_cell? _ _ d3) (fun z => z)).trans d3, (hf.cell (p := ⟨sg, n * 6 + 4, none⟩) (World.block_lt_of_cell? _ _ d4) (fun z => z)).trans d4, (hf.cell (p := ⟨sg, n * 6 + 5, none⟩) (World.block_lt_of_cell? _ _ d5) (fun z => z)).trans d5⟩)
            clear hR ho hpl e2 t2 a2 HR2
            go_upto_region 18 with fail
            go_region_held3 (fun W => W.cell? ⟨sg, n * 6 + 3, none⟩ = some (.slice ea 32 ec) ∧ W.cell? ⟨sg, n * 6 + 4, none⟩ = some (.slice ta 32 tc) ∧ W.cell? ⟨sg, n * 6 + 5, none⟩ = some (.slice aa al ac))
              (first | exact ⟨d3, d4, d5⟩ | exact HKp.out _ (by repeat (first | (with_reducible exact Fr.refl _ _) | (with_reducible exact F5) | (with_reducible refine Fr.drew ?_))) | fail "nokeep")
              (first
                | (go_at_call 25; (with_reducible refine (HOp.out _ (by repeat (first | (with_reducible exact Fr.refl _ _) | (with_reducible refine Fr.drew ?_)))).mono ?_); rintro e w5 ⟨⟨ya, yn, yc⟩, rfl, k1, k2, k3, k4⟩; unfold SV.val at k2 k4 ⊢; dsimp only at k1 k2 k4 ⊢; have F5 : Fr noBlock wr w5 := ((Fr.refl noBlock wr).drew).trans' k3; have HE := Lib.hid (And.intro k1 (And.intro k2 k4)); clear k1 k2 k3 k4)
                | fail "noarm")
            all_goals
              have HM5 := Lib.hid (show SealsMade sp j rg master tenants pages n w5 G' sg ∧ Step G G' w w5 from ⟨H2.out.1.fr F5 (fun _ _ z => z), H2.out.2.news F5 (fun _ z => z.elim)⟩)
              have HSz := Lib.hid F5.size
              clear F5 d3 d4 d5 HKp HOp
              by_cases ho0 : oe = 0
              · subst ho0
                by_cases hon : on = 0
                · subst hon
                  have hR := HR3.out
                  rw [if_pos (.inr rfl)] at hR
                  subst hR
                  go_wp2_with fail
                  go_ret3
                  exact loadP_nil HM5.out.1 HM5.out.2
                · have hR := HR3.out
                  rw [if_neg (by simp [hon])] at hR
                  subst hR
                  have q13 : ((on : Int) == 0) = false := by simp; omega
                  have q14 : ¬ (on : Int) = 0 := by omega
                  go_wp2_with fail
                  go_ret3
                  refine ⟨⟨ya, yn, yc⟩, G', rfl, HE.out.1, HE.out.2.1, HM5.out.1, HM5.out.2, fun k hk => ?_⟩
                  have h1 := HE.out.2.2 k hk
                  exact ⟨Nat.le_trans H2.out.2.size h1, fun e => by have := SealsT.ok.lt H2.out.1.t k e; have h1' : wr.heap.size ≤ k := h1; omega⟩
              · have hR := HR3.out
                rw [if_pos (.inl ho0)] at hR
                subst hR
                have q13 : (oe != 0) = true := by simp [ho0]
                go_wp2_with fail
                go_ret3
                exact loadP_nil HM5.out.1 HM5.out.2
  · have q1 : (E != 0) = true := by simp [hE]
    have hR := HRR.out
    unfold loadP at hR
    rw [if_pos hE] at hR
    subst hR
    go_wp2_with fail
    go_ret3
    exact loadP_nil H2.out.1 H2.out.2
end Go.Proofs.YthabllnhlhkejaaGreatDoor
namespace Go.Proofs.YthabllnhlhkejaaGreatDoor
open Go.RowKit

theorem be4_cell1 (n i : Nat) (hi : i < 4) : ((n : Int) / 2 ^ (24 - 8 * i)) % 256 = (((be4 n).getD i 0).toNat : Int) := by
  have e : (be4 n).getD i 0 = UInt8.ofNat (n >>> (24 - 8 * i)) := by
    unfold be4
    rw [List.getD_eq_getElem?_getD, List.getElem?_map, List.getElem?_range hi]
    rfl
  rw [e, u8_shift]
  generalize 24 - 8 * i = k
  rw [show (2 : Int) ^ k = ((2 ^ k : Nat) : Int) from (Int.natCast_pow 2 k).symm]
  rfl
/-- in place: there is room -/
theorem wpList_app_room {ops : Array Oper} {rest : List Oper} {o : Oper} {a : Act} {w : World} {Q : Exit → Act → World → Prop} (hgd : o.guard = none) (s x : Operand) (ho : o.op = .call { callee := .builtin .append, args := #[s, x], argTypes := #[28, 28] })
    {g n cap N : Nat} {X y : List UInt8} (hX : w.heap[g]? = some (bytesO X 5)) (hl : X.length = cap) (hs : a.eval s = .slice (some ⟨g, 0, none⟩) n cap) {A : Option Addr} {m c : Nat} (hx : a.eval x = .slice A m c) (hy : RowRd ByteR w A y) (hm : m = y.length) (h0 : 0 < m) (hN : N = n + m) (hr : N ≤ cap)
    (h : ∀ w', w'.heap[g]? = some (bytesO (X.take n ++ y ++ X.drop N) 5) → Fr (fun k => k = g) w w' → wpList Tryz.prog ops Q rest (a.put o.dst (.slice (some ⟨g, 0, none⟩) N cap)) w') : wpList Tryz.prog ops Q (o :: rest) a w := by
  subst hm hN
  refine wpList_plain hgd fun _ hK => ?_
  obtain ⟨i, z, hi, hz, hsz, hby, hzs⟩ := el_bytes.info
  rw [byteK] at hsz hzs
  obtain ⟨b, off, rfl, -⟩ := byte_addr hy h0
  have hfl : ByteR.flat y = y.map byteV := flat_bytes y
  have hsrc : Src Tryz.prog i.size 28 (.slice (some ⟨b, off, none⟩) y.length c) y.length (y.map byteV) w := Src.ofSlice w Tryz.underlying28 ⟨b, off, none⟩ y.length c _ (by rw [hsz, List.length_map, Nat.mul_one]) (fun j u hu => hy.cells j u (by rw [hfl]; exact hu)) (fun u hu => by obtain ⟨q, _, rfl⟩ := List.mem_map.1 hu; rfl)
  have hg : w.heap[g]? = some (.cells (X.map byteV).toArray 5 (0, 0)) := hX
  have hcs : (X.map byteV).toArray.size = cap := by simp [hl]
  have hrun := run_append_room_src (P := Tryz.prog) w 28 28 o.type 5 i Tryz.underlying28 hi g 0 n cap _ _ _ hsrc hr
    (by intro j hj; rw [hsz, Nat.mul_one, cell_of hg]; rw [List.length_map] at hj; rw [Array.getElem?_eq_getElem (by omega)]; rfl) (by intro j _; exact free_of hg _)
  rw [hsz, Nat.mul_one, Nat.zero_add] at hrun
  obtain ⟨cur', g1, g2, g3⟩ := heap_setCells (y.map byteV) n w (X.map byteV).toArray hg (by rw [List.length_map]; omega)
  have hb : (w.setCells g n (y.map byteV)).heap[g]? = some (bytesO (X.take n ++ y ++ X.drop (n + y.length)) 5) := by
    have e : cur' = ((X.take n ++ y ++ X.drop (n + y.length)).map byteV).toArray := by
      apply Array.toList_inj.1
      rw [g3, List.map_append, List.map_append, List.map_take, List.map_drop, List.length_map]
    rw [g1, e]
    rfl
  have hf : Fr (fun k => k = g) w (w.setCells g n (y.map byteV)) := fr_setCells (S := fun k => k = g) (Fr.refl _ _) (.inl rfl) _
  unfold Oper.wp execOp
  simp only [ho, resolve, invoke, builtin, Sem.run_bind, Sem.run_pure, Result.andThen_ok, List.map_toArray, List.map_cons, List.map_nil, hs, hx, hrun]
  exact hK _ _ (h _ hb hf)
/-- what Save lays in a partition of m bytes -/
def allB (s : Bs) (m : Nat) : Bs := be4 s.length ++ s ++ List.replicate (m - 4 - s.length) 0
theorem allB_len {s : Bs} {m : Nat} (h : 4 + s.length ≤ m) : (allB s m).length = m := by
  unfold allB
  rw [List.length_append, List.length_append, be4_len, List.length_replicate]
  omega
/-- the writes of a Save -/
def saveL (base pages size : Nat) (all : Bs) : List JW := (List.range pages).map (fun i => (((base + i : Nat) : Int), (all.drop (i * size)).take size))
theorem saveL_len (base pages size : Nat) (all : Bs) : (saveL base pages size all).length = pages := by simp [saveL]
/-- a Save: the disk behind it, the error that stays, the error that is told -/
def saveR (enc tag about : Bs) (d : DK) (bad : Int) (pages n : Nat) (b : Bs) : DK × Int × Int :=
  if pages * d.size - 28 < b.length then (d, bad, 14)
  else if (loadP enc tag about (partR d (((n - 1) * pages : Nat) : Int) pages)).2.2 ≠ 0 ∧ (loadP enc tag about (partR d (((n - 1) * pages : Nat) : Int) pages)).2.2 ≠ 15 then (d, bad, (loadP enc tag about (partR d (((n - 1) * pages : Nat) : Int) pages)).2.2)
  else if (loadP enc tag about (partR d (((n - 1) * pages : Nat) : Int) pages)).2.1 = 9223372036854775807 then (d, bad, 14)
  else commitR d bad (saveL ((n - 1) * pages) pages d.size (allB (sealB enc tag ((loadP enc tag about (partR d (((n - 1) * pages : Nat) : Int) pages)).2.1 + 1) about b) (pages * d.size)))
theorem loadP_nonce (enc tag about : Bs) (r : Bs × Int) : (loadP enc tag about r).2.1 < 9223372036854775808 := by
  have h0 : (0 : Nat) < 9223372036854775808 := by decide
  unfold loadP
  split
  · exact h0
  · split
    · exact h0
    · split
      · exact h0
      · split
        · exact h0
        · unfold boxR
          split
          · exact h0
          · split
            · exact h0
            · split
              · split
                · assumption
                · exact h0
              · exact h0
end Go.Proofs.YthabllnhlhkejaaGreatDoor
