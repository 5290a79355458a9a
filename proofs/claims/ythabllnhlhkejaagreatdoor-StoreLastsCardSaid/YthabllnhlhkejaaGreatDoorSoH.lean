/-
  THE WALK of a store's Save.
-/
import Derived.Deep.CutBlock
import Derived.Deep.DeepCutAuto
import Derived.Deep.CutRange
import Derived.Test.YthabllnhlhkejaaGreatDoorSoG
namespace Go.Proofs.YthabllnhlhkejaaGreatDoor
open Go.RowKit

structure OwnG {α : Type} (E : TypeId) (R : Rec α) (w0 w : World) (ao : Option Addr) (n cap : Nat) (x : List α) : Prop where
  own : w.ownsRow w0.heap.size E R.k (.slice ao n cap) n (R.flat x)
  len : x.length = n
  fr : Fr noBlock w0 w
namespace OwnG
variable {α : Type} {E : TypeId} {R : Rec α} {w0 w w1 w2 : World} {ao ao2 : Option Addr} {n cap n2 cap2 : Nat} {x y : List α}
theorem nil (hf : Fr noBlock w0 w) : OwnG E R w0 w none 0 0 [] := ⟨World.ownsRow_nil _ _ _ _, rfl, hf⟩
theorem own' (h : OwnG E R w0 w ao n cap x) (hf : Fr noBlock w w1) : w1.ownsRow w0.heap.size E R.k (.slice ao n cap) n (R.flat x) := ownsRow_fr h.own hf (fun _ _ z => z)
theorem on (h : OwnG E R w0 w ao n cap x) (hf : Fr noBlock w w1) : OwnG E R w0 w1 ao n cap x := ⟨h.own' hf, h.len, h.fr.trans' hf⟩
theorem row (h : OwnG E R w0 w ao n cap x) : RowAt E R w (.slice ao n cap) x := RowAt.of_own h.own h.len.symm
theorem new (h : OwnG E R w0 w ao n cap x) : ∀ k, (Value.slice ao n cap).ownBlock = some k → w0.heap.size ≤ k := fun k hk => (h.own.lt k hk).1
theorem lt (h : OwnG E R w0 w ao n cap x) : ∀ k, (Value.slice ao n cap).ownBlock = some k → k < w.heap.size := fun k hk => (h.own.lt k hk).2
theorem cap' (h : OwnG E R w0 w ao n cap x) : n ≤ cap ∧ cap ≤ maxLen := by
  obtain ⟨ao, cap, e, h1, h2, _⟩ := h.row.shape
  simp only [Value.slice.injEq] at e
  have := h.len
  exact ⟨by omega, by omega⟩
theorem rd (h : OwnG E R w0 w ao n cap x) : RowRd R w ao x := RowRd.of_at h.row (by have h1 := h.cap'; have h2 := h.len; omega)
/-- something else turns, in a block elsewhere -/
theorem fr' {S : Nat → Prop} (h : OwnG E R w0 w ao n cap x) (hf : Fr S w w1) (hS : ∀ k, S k → w0.heap.size ≤ k) (ha : ∀ k, (Value.slice ao n cap).ownBlock = some k → ¬ S k) : OwnG E R w0 w1 ao n cap x :=
  ⟨ownsRow_fr h.own hf ha, h.len, h.fr.trans hf (fun k hk => .inr (hS k hk))⟩
theorem grown (h : OwnG E R w0 w ao n cap x) (hf : Fr noBlock w w1) (ho : w2.ownsRow w0.heap.size E R.k (.slice ao2 n2 cap2) n2 (R.flat y)) (hn : y.length = n2) (hg : w1.grownBy w2 (Value.slice ao n cap).ownBlock) : OwnG E R w0 w2 ao2 n2 cap2 y :=
  ⟨ho, hn, (h.fr.trans' hf).grown hg (fun k hk => .inr (h.new k hk))⟩
end OwnG
end Go.Proofs.YthabllnhlhkejaaGreatDoor
namespace Go.Proofs.YthabllnhlhkejaaGreatDoor
open Go.RowKit

/-- the writes as they lie in memory -/
def wsL (bas size m g i : Nat) : List (Int × SV) := (List.range i).map (fun k : Nat => ((bas : Int) + (k : Int), (⟨some ⟨g, k * size, none⟩, size, m - k * size⟩ : SV)))
theorem wsL_len (bas size m g i : Nat) : (wsL bas size m g i).length = i := by simp [wsL]
theorem wsL_succ (bas size m g i : Nat) : wsL bas size m g (i + 1) = wsL bas size m g i ++ [((bas : Int) + (i : Int), (⟨some ⟨g, i * size, none⟩, size, m - i * size⟩ : SV))] := by simp [wsL, List.range_succ]
def SaveP (sp j rg sg L : Nat) (master : List UInt8) (tenants pages n : Nat) (G H : Nat → Prop) (r : DK × Int × Int) (w : World) (e : Ending) (w' : World) : Prop :=
  ∃ (G' H' : Nat → Prop), e = .returned (.int .i64 r.2.2) ∧ JAt j L r.1 r.2.1 w' H' ∧ SealsMade sp j rg master tenants pages n w' G' sg ∧ (∀ k, G' k → ¬ H' k) ∧ Step (fun k => G k ∨ H k) (fun k => G' k ∨ H' k) w w'
set_option maxRecDepth 100000 in
set_option maxHeartbeats 6400000 in
theorem ssave_any {w : World} {sp j rg sg L tenants pages n : Nat} {master b : List UInt8} {d : DK} {bad : Int} {G H : Nat → Prop} {bo : Option Addr} (hj : JAt j L d bad w H) (hS : SealsT sp j rg sg master tenants pages w G) (hd : ∀ k, G k → ¬ H k) (hml : master.length ≤ 64) (hp1 : 1 ≤ pages) (hp : pages ≤ 8) (hn1 : 1 ≤ n) (hn64 : n ≤ 64) (hnt : n ≤ tenants)
    (hb : RowRd ByteR w bo b) (hbF : 0 < b.length → ∀ a, bo = some a → ¬ G a.block) (bc : Nat) :
    Calls Tryz.prog 9 #[.pointer (some ⟨sp, 0, none⟩), .int .i64 (n : Int), .slice bo b.length bc] w (SaveP sp j rg sg L master tenants pages n G H (saveR (keyK master n 2 1) (keyK master n 3 1) (aboutB n) d bad pages n b) w) := by
  have HO := Lib.hid (of_any hS hml hn1 hn64 hnt)
  unfold OfP at HO
  have HRm := Lib.hid (show ∀ W, JAt j L d bad W H → W.cell? ⟨sp, 0, none⟩ = some (.pointer (some ⟨j, 0, none⟩)) → W.cell? ⟨sp, 3, none⟩ = some (.int .i64 (pages : Int)) → _ from fun W hj c0 c3 => sroom_any hj c0 c3 hp1 hp)
  have HLg := Lib.hid (show ∀ W, JAt j L d bad W H → W.cell? ⟨sp, 0, none⟩ = some (.pointer (some ⟨j, 0, none⟩)) → W.cell? ⟨sp, 3, none⟩ = some (.int .i64 (pages : Int)) → _ from fun W hj c0 c3 => long_any hj c0 c3 hp)
  have HLd := Lib.hid (show ∀ W G', JAt j L d bad W H → SealsT sp j rg sg master tenants pages W G' → (∀ k, G' k → ¬ H k) → _ from fun W G' hj hS hd => sload_any hj hS hd hml hp1 hp hn1 hn64 hnt)
  unfold LoadP at HLd
  have HJ := Lib.hid (And.intro hj hd)
  have HBk := Lib.hid (show ∀ W, Fr G w W → RowRd ByteR W bo b from fun W hf => by
    cases b with
    | nil => exact RowRd.nil
    | cons x b => exact hb.fr hf (fun k off e => hbF (by simp) _ e))
  have hs0 := hj.good.s0
  have hs1 := hj.good.s1
  have hblen := hb.len
  have hmb : pages * d.size ≤ 8 * 4096 := Nat.mul_le_mul hp hs1
  have hma : 1 * 64 ≤ pages * d.size := Nat.mul_le_mul hp1 hs0
  have HPs := Lib.hid (And.intro hp1 (And.intro hp (And.intro hn1 (And.intro hn64 (And.intro hs0 hs1)))))
  obtain ⟨bas, hbas⟩ : ∃ bas, (n - 1) * pages = bas := ⟨_, rfl⟩
  have hbb : (n - 1) * pages ≤ 63 * 8 := Nat.mul_le_mul (by omega) hp
  have HBas := Lib.hid hbas
  obtain ⟨R, hR⟩ : ∃ R, saveR (keyK master n 2 1) (keyK master n 3 1) (aboutB n) d bad pages n b = R := ⟨_, rfl⟩
  rw [hR]
  unfold saveR at hR
  have hnon := loadP_nonce (keyK master n 2 1) (keyK master n 3 1) (aboutB n) (partR d (((n - 1) * pages : Nat) : Int) pages)
  obtain ⟨r, hr⟩ : ∃ r, loadP (keyK master n 2 1) (keyK master n 3 1) (aboutB n) (partR d (((n - 1) * pages : Nat) : Int) pages) = r := ⟨_, rfl⟩
  rw [hr] at hR HLd hnon
  obtain ⟨lb, ln, le⟩ := r
  dsimp only at hR HLd hnon
  obtain ⟨m, hm⟩ : ∃ m, pages * d.size = m := ⟨_, rfl⟩
  have HM := Lib.hid hm
  unfold roomN at HRm
  rw [hm] at hR HRm HLg hmb hma
  rw [hbas] at hR hbb
  have HR := Lib.hid hR
  clear hj hS hd hml hp1 hp hn1 hn64 hnt hb hbF hs0 hs1 hR hr hbas hm
  go_enter Tryz.func9, Tryz.ntmps9
  go_wp2_with fail
  refine HO.out.mono ?_
  rintro e w1 ⟨G1, rfl, h1, h2⟩
  have hj1 : JAt j L d bad w1 H := JAt.ok.fr HJ.out.1 h2.fr (fun k hk hg => HJ.out.2 k hg hk)
  have hd1 : ∀ k, G1 k → ¬ H k := h2.apart HJ.out.2 (JAt.ok.lt HJ.out.1)
  obtain ⟨c0, c3, gs, -⟩ := h1.t.head
  have HRm1 := Lib.hid (HRm.out w1 hj1 c0 c3)
  have H1 := Lib.hid (And.intro h1 (And.intro h2 (And.intro hj1 hd1)))
  clear h1 h2 hj1 hd1 c0 c3 gs HO HRm
  go_wp2_with fail
  refine HRm1.out.mono ?_
  rintro e w2 ⟨rfl, f2⟩
  have H2 := Lib.hid (show SealsMade sp j rg master tenants pages n w2 G1 sg ∧ Step G G1 w w2 ∧ JAt j L d bad w2 H ∧ (∀ k, G1 k → ¬ H k) from ⟨H1.out.1.fr f2 (fun _ _ z => z), H1.out.2.1.news f2 (fun _ z => z.elim), JAt.ok.fr0 H1.out.2.2.1 f2, H1.out.2.2.2⟩)
  clear f2 H1 HRm1
  by_cases hroom : m - 28 < b.length
  · have hR := HR.out
    rw [if_pos hroom] at hR
    subst hR
    have q1 : ((m - 28 : Nat) : Int) < (b.length : Int) := by omega
    go_wp2_with fail
    go_ret
    exact ⟨G1, H, rfl, H2.out.2.2.1, H2.out.1, H2.out.2.2.2, ⟨H2.out.2.1.fr.mono (fun _ z => .inl z), fun k hk => hk.elim (fun hk => (H2.out.2.1.foot k hk).imp .inl id) (fun hk => .inl (.inr hk))⟩⟩
  · have hR := HR.out
    rw [if_neg hroom] at hR
    have HR2 := Lib.hid hR
    have q1 : (b.length : Int) ≤ ((m - 28 : Nat) : Int) := by omega
    have q2 : (b.length : Int) ≤ 65536 := by omega
    have HLd2 := Lib.hid (HLd.out w2 G1 H2.out.2.2.1 H2.out.1.t H2.out.2.2.2)
    clear hR HR HLd
    go_wp2_with fail
    refine HLd2.out.mono ?_
    rintro e w3 ⟨⟨xa, xn, xc⟩, G3, rfl, k1, k2, k3, k4, k5⟩
    have hf3 := H2.out.2.1.trans k4
    have hj3 : JAt j L d bad w3 H := JAt.ok.fr H2.out.2.2.1 k4.fr (fun k hk hg => H2.out.2.2.2 k hg hk)
    have H3 := Lib.hid (show SealsMade sp j rg master tenants pages n w3 G3 sg ∧ Step G G3 w w3 ∧ JAt j L d bad w3 H ∧ (∀ k, G3 k → ¬ H k) from ⟨k3, hf3, hj3, k4.apart H2.out.2.2.2 (JAt.ok.lt H2.out.2.2.1)⟩)
    clear k1 k2 k3 k4 k5 hf3 hj3 H2 HLd2
    unfold SV.val
    dsimp only
    go_upto_region 8 with fail
    go_cut [40] from 41 to 46 (fun s40 W => s40 = .bool (decide (le ≠ 0 ∧ le ≠ 15)) ∧ W = w3)
    case first =>
      by_cases h0 : le = 0
      · subst h0
        go_wp2_with fail
        go_meet
        exact ⟨rfl, rfl⟩
      · have p1 : (le != 0) = true := by simp [h0]
        by_cases h15 : le = 15
        · subst h15
          go_wp2_with fail
          go_meet
          exact ⟨rfl, rfl⟩
        · have p2 : (le != 15) = true := by simp [h15]
          have p3 : decide (le ≠ 0 ∧ le ≠ 15) = true := by simp [h0, h15]
          go_wp2_with fail
          go_meet
          exact ⟨by rw [p3], rfl⟩
    obtain ⟨rfl, hwc⟩ := hcut
    subst hwc
    by_cases hle : le ≠ 0 ∧ le ≠ 15
    · have hR := HR2.out
      rw [if_pos hle] at hR
      subst hR
      rw [decide_eq_true hle]
      go_wp2_with fail
      go_ret
      exact ⟨G3, H, rfl, H3.out.2.2.1, H3.out.1, H3.out.2.2.2, ⟨H3.out.2.1.fr.mono (fun _ z => .inl z), fun k hk => hk.elim (fun hk => (H3.out.2.1.foot k hk).imp .inl id) (fun hk => .inl (.inr hk))⟩⟩
    · have hR := HR2.out
      rw [if_neg hle] at hR
      rw [decide_eq_false hle]
      have HR3 := Lib.hid hR
      clear hR HR2 hle
      by_cases hln : ln = 9223372036854775807
      · have hR := HR3.out
        rw [if_pos hln] at hR
        subst hR hln
        go_wp2_with fail
        go_ret
        exact ⟨G3, H, rfl, H3.out.2.2.1, H3.out.1, H3.out.2.2.2, ⟨H3.out.2.1.fr.mono (fun _ z => .inl z), fun k hk => hk.elim (fun hk => (H3.out.2.1.foot k hk).imp .inl id) (fun hk => .inl (.inr hk))⟩⟩
      · have hR := HR3.out
        rw [if_neg hln] at hR
        have HR4 := Lib.hid hR
        have q3 : ((ln : Int) == 9223372036854775807) = false := by simp; omega
        have q4 : ¬ (ln : Int) = 9223372036854775807 := by omega
        have q5 : IntKind.i64.wrap ((ln : Int) + 1) = (ln : Int) + 1 := by rw [IntKind.wrap_i64]; omega
        clear hR HR3 hln
        obtain ⟨e, t, a, ⟨d3, d4, d5⟩, e1, e2, t1, t2, a1, a2⟩ := H3.out.1.cells
        obtain ⟨ea, en, ec⟩ := e
        obtain ⟨ta, tn, tc⟩ := t
        obtain ⟨aa, an, ac⟩ := a
        unfold SV.val at d3 d4 d5
        dsimp only at d3 d4 d5 e1 e2 t1 t2 a1 a2
        subst e1 t1 a1
        obtain ⟨al, hal⟩ : ∃ al, (aboutB n).length = al := ⟨_, rfl⟩
        rw [hal] at d5
        have hbw := HBk.out wc H3.out.2.1.fr
        have HSe := Lib.hid (show ∀ W, Fr noBlock wc W → Calls Tryz.prog 19 #[.slice ea 32 ec, .slice ta 32 tc, .int .i64 ((ln : Int) + 1), .slice aa al ac, .slice bo b.length bc] W (SealP (sealB (keyK master n 2 1) (keyK master n 3 1) (ln + 1) (aboutB n) b) W) from fun W hW => by
          have hab := aboutB_len (n := n) (by have := HPs.out.2.2.2.1; omega)
          have h := seal_any (e2.fr0 hW) ec (keyK_len _ _ _ _) (t2.fr0 hW) tc (by rw [keyK_len]; omega) (ln + 1) (by omega) (a2.fr0 hW) ac (by omega) (hbw.fr0 hW) bc (by omega)
          rw [keyK_len, keyK_len, hal, show (((ln + 1 : Nat)) : Int) = (ln : Int) + 1 by omega] at h
          exact h)
        unfold SealP at HSe
        have hsl := sealB_len (enc := keyK master n 2 1) (keyK_len _ _ _ _) (keyK master n 3 1) (ln + 1) (aboutB n) b
        obtain ⟨S, hS⟩ : ∃ S, sealB (keyK master n 2 1) (keyK master n 3 1) (ln + 1) (aboutB n) b = S := ⟨_, rfl⟩
        rw [hS] at HSe hsl HR4
        have HKp := Lib.hid (show ∀ W, Fr noBlock wc W → W.cell? ⟨sg, n * 6 + 3, none⟩ = some (.slice ea 32 ec) ∧ W.cell? ⟨sg, n * 6 + 4, none⟩ = some (.slice ta 32 tc) ∧ W.cell? ⟨sg, n * 6 + 5, none⟩ = some (.slice aa al ac) from fun W hf => ⟨(hf.cell (p := ⟨sg, n * 6 + 3, none⟩) (World.block_lt_of_cell? _ _ d3) (fun z => z)).trans d3, (hf.cell (p := ⟨sg, n * 6 + 4, none⟩) (World.block_lt_of_cell? _ _ d4) (fun z => z)).trans d4, (hf.cell (p := ⟨sg, n * 6 + 5, none⟩) (World.block_lt_of_cell? _ _ d5) (fun z => z)).trans d5⟩)
        have hS24 : 24 ≤ S.length := by omega
        have hSm : 4 + S.length ≤ m := by omega
        have HSl := Lib.hid hsl
        clear e2 t2 a2 hal hS hbw hsl
        go_upto_region 12 with fail
        go_region_held3 (fun W => W.cell? ⟨sg, n * 6 + 3, none⟩ = some (.slice ea 32 ec) ∧ W.cell? ⟨sg, n * 6 + 4, none⟩ = some (.slice ta 32 tc) ∧ W.cell? ⟨sg, n * 6 + 5, none⟩ = some (.slice aa al ac))
          (first | exact ⟨d3, d4, d5⟩ | exact HKp.out _ (by repeat (first | (with_reducible exact Fr.refl _ _) | (with_reducible exact F5) | (with_reducible refine Fr.drew ?_))) | fail "nokeep")
          (first
            | (go_at_call 19; (with_reducible refine (HSe.out _ (by repeat (first | (with_reducible exact Fr.refl _ _) | (with_reducible refine Fr.drew ?_)))).mono ?_); rintro e w5 ⟨⟨ya, yn, yc⟩, rfl, k1, k2, k3⟩; unfold SV.val; dsimp only at k1 k2 ⊢; have F5 : Fr noBlock wc w5 := ((Fr.refl noBlock wc).drew).trans' k3; subst k1; have HE := Lib.hid (And.intro k2 F5); clear k2 k3)
            | fail "noarm")
        all_goals
          clear F5 d3 d4 d5 HKp HSe q3 q4 q5
          obtain ⟨c0, c3, gs, -⟩ := H3.out.1.t.head
          have hgl : ∀ k, G3 k → k < wc.heap.size := SealsT.ok.lt H3.out.1.t
          have HHd := Lib.hid (show ∀ W, Fr noBlock wc W → W.cell? ⟨sp, 0, none⟩ = some (.pointer (some ⟨j, 0, none⟩)) ∧ W.cell? ⟨sp, 3, none⟩ = some (.int .i64 (pages : Int)) from fun W hf => ⟨(hf.cell (p := ⟨sp, 0, none⟩) (hgl _ gs) (fun z => z)).trans c0, (hf.cell (p := ⟨sp, 3, none⟩) (hgl _ gs) (fun z => z)).trans c3⟩)
          have HLg5 := Lib.hid (show ∀ W, Fr noBlock wc W → Calls Tryz.prog 20 #[.pointer (some ⟨sp, 0, none⟩)] W fun e w' => e = .returned (.int .i64 (m : Int)) ∧ Fr noBlock W w' from fun W hf => HLg.out W (JAt.ok.fr0 H3.out.2.2.1 hf) (HHd.out W hf).1 (HHd.out W hf).2)
          obtain ⟨Z, hZ, hmk⟩ := mk_bytes 4 m (by omega) (by omega)
          have hmk4 : ∀ W : World, (Instr.makeSlice 28 (.int .i64 4) (.int .i64 (m : Int))).run Tryz.prog W = .ok (.slice (some ⟨W.heap.size, 0, none⟩) 4 m) (W.alloc (.cells Z 5)) := hmk
          have HZ := Lib.hid hZ
          clear hmk hZ c0 c3 gs hgl
          go_upto_region 13 with fail
          go_wp2_with (first | (go_at_call 20; refine (HLg5.out _ HE.out.2).mono ?_; rintro e w6 ⟨rfl, f6⟩; have HF6 := Lib.hid f6; clear f6))
          obtain ⟨g, hg⟩ : ∃ g, w6.heap.size = g := ⟨_, rfl⟩
          have hgw : w5.heap.size ≤ g := by rw [← hg]; exact HF6.out.size
          have hz4 : (be4 S.length).length = (List.replicate 4 (0 : UInt8)).length := by rw [be4_len]; rfl
          have H7 := Lib.hid (show (w6.alloc (.cells Z 5)).heap[g]? = some (bytesO (overL (be4 S.length) (List.replicate 4 0) 0 ++ List.replicate (m - 4) 0) 5) ∧ Fr noBlock w5 (w6.alloc (.cells Z 5)) from by
            refine ⟨?_, HF6.out.alloc _⟩
            rw [← hg, heap_new w6 _, overL_zero, List.replicate_append_replicate, show 4 + (m - 4) = m by omega]
            have e : Z = ((List.replicate m (0 : UInt8)).map byteV).toArray := by
              apply Array.toList_inj.1
              rw [HZ.out, List.map_replicate]
              rfl
            rw [e]
            rfl)
          rw [hg]
          clear hg HZ hmk4 HF6
          go_loopw [75] (fun s75 W => ∃ i : Nat, i ≤ 4 ∧ s75 = .int .i64 i ∧ Hid (W.heap[g]? = some (bytesO (overL (be4 S.length) (List.replicate 4 0) i ++ List.replicate (m - 4) 0) 5) ∧ Fr noBlock w5 W)) (fun s75 _ => 4 - (intOf s75).toNat)
          case atStart => exact ⟨0, by omega, rfl, H7⟩
          case round =>
            clear H7
            obtain ⟨i, hi, rfl, HI⟩ := hrel
            have hol : (overL (be4 S.length) (List.replicate 4 0) i).length = 4 := by rw [overL_len hz4 (by simpa using hi)]; rfl
            by_cases hi4 : i < 4
            · have p1 : (i : Int) < 4 := by omega
              have p0 : (0 : Int) ≤ (i : Int) := by omega
              have p2 : (0 : Int) ≤ 24 - 8 * (i : Int) := by omega
              have p3 : wrap64 (8 * (i : Int)) = 8 * (i : Int) := by unfold wrap64; omega
              have p4 : wrap64 (24 - 8 * (i : Int)) = ((24 - 8 * i : Nat) : Int) := by unfold wrap64; omega
              have hgi : (overL (be4 S.length) (List.replicate 4 0) i ++ List.replicate (m - 4) 0)[i]? = some (0 : UInt8) := by
                rw [List.getElem?_append_left (by omega), overL_get hz4 (by simpa using hi4)]
                rcases (show i = 0 ∨ i = 1 ∨ i = 2 ∨ i = 3 by omega) with rfl | rfl | rfl | rfl <;> rfl
              obtain ⟨y0, y1⟩ := bytesO_cell HI.out.1 hgi
              have hcb : (be4 S.length)[i]? = some ((be4 S.length).getD i 0) := by
                rw [List.getD_eq_getElem?_getD, List.getElem?_eq_getElem (by rw [be4_len]; exact hi4)]
                rfl
              have hs := bytesO_set HI.out.1 i ((be4 S.length).getD i 0)
              rw [List.set_append_left _ _ (by omega), overL_set hz4 (by simpa using hi4) _ hcb] at hs
              have HG := Lib.hid (And.intro hs (HI.out.2.setCell (p := ⟨g, i, none⟩) (.inr hgw) (.int .u8 (((be4 S.length).getD i 0).toNat : Int))))
              rw [← be4_cell1 S.length i hi4] at HG
              clear hcb hs hgi hol
              go_wp2_with fail
              go_roundw
              case rel => exact ⟨i + 1, hi4, by go_num, HG⟩
              case measure => simp [intOf]; omega
            · have p1 : (4 : Int) ≤ (i : Int) := by omega
              obtain rfl : i = 4 := by omega
              rw [overL_all hz4 (by simp)] at HI
              have hXl : (be4 S.length ++ List.replicate (m - 4) (0 : UInt8)).length = m := by rw [List.length_append, be4_len, List.length_replicate]; omega
              go_wp2_with (at_builtin; apply stop_here)
              refine ⟨?_, trivial⟩
              refine wpList_app_room rfl _ _ rfl HI.out.1 hXl rfl rfl (HE.out.1.fr0 HI.out.2) rfl (by omega) rfl (by omega) ?_
              intro w7 h7 f7
              go_frame
              obtain ⟨A, hA⟩ : ∃ A, allB S m = A := ⟨_, rfl⟩
              have hAl : A.length = m := by rw [← hA]; exact allB_len hSm
              have hXA : (be4 S.length ++ List.replicate (m - 4) (0 : UInt8)).take 4 ++ S ++ (be4 S.length ++ List.replicate (m - 4) (0 : UInt8)).drop (4 + S.length) = A := by
                rw [← hA]
                unfold allB
                have e4 := be4_len S.length
                rw [List.take_append_of_le_length (by omega), List.take_of_length_le (by omega), List.drop_append, List.drop_of_length_le (by omega), List.nil_append, e4, List.drop_replicate, show m - 4 - (4 + S.length - 4) = m - 4 - S.length by omega]
              rw [hXA] at h7
              rw [hA] at HR4
              have hgc : wc.heap.size ≤ g := Nat.le_trans HE.out.2.size hgw
              have H8 := Lib.hid (show w7.heap[g]? = some (bytesO A 5) ∧ Fr noBlock wc w7 from ⟨h7, (HE.out.2.trans' HI.out.2).trans f7 (fun k hk => .inr (by rw [hk]; exact hgc))⟩)
              clear h7 f7 hXA hA HI hXl HE hgw hz4
              go_upto_region 21 with (first | (go_at_call 20; refine (HLg5.out _ H8.out.2).mono ?_; rintro e w8 ⟨rfl, f8⟩; have H9 := Lib.hid (And.intro (f8.obj H8.out.1 (fun z => z)) (H8.out.2.trans' f8)); clear f8))
              obtain ⟨c0, c3⟩ := HHd.out w8 H9.out.2
              have hj8 : JAt j L d bad w8 H := JAt.ok.fr0 H3.out.2.2.1 H9.out.2
              have HSz := Lib.hid (jsize_any hj8)
              clear hj8 H8
              go_wp2_with fail
              refine HSz.out.mono ?_
              rintro e w9 ⟨rfl, rfl⟩
              go_wp2_with fail
              clear c0 c3 HSz
              obtain ⟨sz, hsz⟩ : ∃ sz, d.size = sz := ⟨_, rfl⟩
              have HPz := Lib.hid (show sz = d.size ∧ 64 ≤ sz ∧ sz ≤ 4096 ∧ pages * sz = m from ⟨hsz.symm, by rw [← hsz]; exact HPs.out.2.2.2.2.1, by rw [← hsz]; exact HPs.out.2.2.2.2.2, by rw [← hsz]; exact HM.out⟩)
              rw [hsz]
              clear hsz
              go_loopw [104, 15] (fun s104 s15 W => ∃ (i : Nat) (lo : Option Addr) (lc : Nat), i ≤ pages ∧ s104 = .int .i64 i ∧ s15 = .slice lo i lc ∧ Hid (OwnG 79 DirtR w8 W lo i lc (wsL bas sz m g i))) (fun s104 _ _ => pages - (intOf s104).toNat)
              case atStart => exact ⟨0, none, 0, by omega, rfl, rfl, Lib.hid (OwnG.nil (Fr.refl _ _))⟩
              case round =>
                obtain ⟨i, lo, lc, hi, rfl, rfl, HI⟩ := hrel
                have hp8 := HPs.out.2.1
                by_cases hip : i < pages
                · have p1 : (i : Int) < (pages : Int) := by omega
                  have p0 : (0 : Int) ≤ (i : Int) := by omega
                  have hn64 := HPs.out.2.2.2.1
                  have hn1 := HPs.out.2.2.1
                  obtain ⟨q, hq⟩ : ∃ q, i * sz = q := ⟨_, rfl⟩
                  have hq1 : (i + 1) * sz = q + sz := by rw [Nat.succ_mul, hq]
                  have hqm : (i + 1) * sz ≤ pages * sz := Nat.mul_le_mul_right _ hip
                  rw [hq1, HPz.out.2.2.2] at hqm
                  have hz64 := HPz.out.2.1
                  have e1 : ((n - 1 : Nat) : Int) * (pages : Int) = (bas : Int) := by rw [← HBas.out]; simp
                  have e2 : (i : Int) * (sz : Int) = (q : Int) := by rw [← hq]; simp
                  have e3 : ((i : Int) + 1) * (sz : Int) = ((q + sz : Nat) : Int) := by rw [← hq1]; simp
                  have p2 : IntKind.i64.wrap ((n : Int) - 1) = ((n - 1 : Nat) : Int) := by rw [IntKind.wrap_i64]; omega
                  have p3 : IntKind.i64.wrap (((n - 1 : Nat) : Int) * (pages : Int)) = (bas : Int) := by rw [IntKind.wrap_i64, e1]; omega
                  have p4 : IntKind.i64.wrap ((bas : Int) + (i : Int)) = (bas : Int) + (i : Int) := by rw [IntKind.wrap_i64]; omega
                  have p5 : IntKind.i64.wrap ((i : Int) * (sz : Int)) = (q : Int) := by rw [IntKind.wrap_i64, e2]; omega
                  have p6 : IntKind.i64.wrap ((i : Int) + 1) = (i : Int) + 1 := by rw [IntKind.wrap_i64]; omega
                  have p7 : IntKind.i64.wrap (((i : Int) + 1) * (sz : Int)) = ((q + sz : Nat) : Int) := by rw [IntKind.wrap_i64, e3]; omega
                  have p8 : (q : Int) ≤ ((q + sz : Nat) : Int) := by omega
                  have p9 : ((q + sz : Nat) : Int) ≤ (m : Int) := by omega
                  have p10 : ¬ m = q := by omega
                  have p11 : q + sz - q = sz := by omega
                  have p12 : (q : Int) ≤ (q : Int) + (sz : Int) := by omega
                  have p13 : (q : Int) + (sz : Int) ≤ (m : Int) := by omega
                  have p14 : ((q : Int) + (sz : Int)).toNat = q + sz := by omega
                  obtain ⟨-, c3⟩ := HHd.out wr (H9.out.2.trans' HI.out.fr)
                  have HWs := Lib.hid (show wsL bas sz m g (i + 1) = wsL bas sz m g i ++ [((bas : Int) + (i : Int), (⟨some ⟨g, q, none⟩, sz, m - q⟩ : SV))] by rw [wsL_succ, hq])
                  have HFx := Lib.hid (show ∀ cs : Array Value, Fr noBlock wr ((wr.alloc (.cells cs 79)).drew) from fun cs => (((Fr.refl noBlock wr).alloc _).drew))
                  have HOn := Lib.hid (show RowRd DirtR ((wr.alloc (.cells #[.int .i64 ((bas : Int) + (i : Int)), .slice (some ⟨g, q, none⟩) sz (m - q)] 79)).drew) (some ⟨wr.heap.size, 0, none⟩) [((bas : Int) + (i : Int), (⟨some ⟨g, q, none⟩, sz, m - q⟩ : SV))] from (RowRd.one (heap_new wr _) _ rfl).fr0 (Fr.refl noBlock _).drew)
                  clear e1 e2 e3 hq hq1 hqm hz64
                  go_wp2_with fail
                  go_region_law
                    ((refine step_app (by rfl) _ _ (by rfl) el_writes (v := .slice lo i lc) (wsL bas sz m g i) [((bas : Int) + (i : Int), (⟨some ⟨g, q, none⟩, sz, m - q⟩ : SV))] (wsL bas sz m g (i + 1)) HWs.out.symm w8.heap.size i (i + 1) (wsL_len _ _ _ _ _).symm (by rfl) (HI.out.own' (HFx.out _)) (by rfl) HOn.out rfl (by unfold maxLen; omega) (by omega) (Nat.le_trans HI.out.fr.size (HFx.out _).size) ?_; intro lo2 lc2 w10 o10 g10 a10; have HG := Lib.hid (HI.out.grown (HFx.out _) o10 (wsL_len _ _ _ _ _) g10)))
                  all_goals
                    clear o10 g10 a10
                    go_wp2_with fail
                    go_roundw
                    case rel => exact ⟨i + 1, lo2, lc2, hip, by go_num, rfl, HG⟩
                    case measure => simp [intOf]; omega
                · have p1 : (pages : Int) ≤ (i : Int) := by omega
                  have hie : i = pages := by omega
                  have HW := Lib.hid (show JWrs wr H lo (wsL bas sz m g i) (saveL bas pages sz A) from by
                    have hHl : ∀ k, H k → k < w8.heap.size := fun k hk => Nat.lt_of_lt_of_le (JAt.ok.lt H3.out.2.2.1 k hk) H9.out.2.size
                    have hg9 := HI.out.fr.obj H9.out.1 (fun z => z)
                    refine ⟨Bes.new HI.out.row HI.out.new hHl, by rw [wsL_len, saveL_len, hie], fun k p q h1 h2 => ?_⟩
                    have hk : k < i := by
                      have := (List.getElem?_eq_some_iff.1 h1).1
                      rw [wsL_len] at this
                      exact this
                    have hk2 : k < pages := by omega
                    unfold wsL at h1
                    unfold saveL at h2
                    rw [List.getElem?_map, List.getElem?_range hk] at h1
                    rw [List.getElem?_map, List.getElem?_range hk2] at h2
                    simp only [Option.map_some, Option.some.injEq] at h1 h2
                    subst h1 h2
                    have hkz : (k + 1) * sz ≤ pages * sz := Nat.mul_le_mul_right _ hk2
                    rw [Nat.succ_mul, HPz.out.2.2.2] at hkz
                    have hlen : ((A.drop (k * sz)).take sz).length = sz := by rw [List.length_take, List.length_drop, hAl]; omega
                    refine ⟨by simp, by rw [hlen], ⟨?_, fun _ a e => ?_⟩⟩
                    · have hr : RowRd ByteR wr (some ⟨g, 0, none⟩) A := RowRd.of_flat hg9 (by rw [flat_bytes]) (by rw [hAl]; unfold maxLen; omega)
                      have hp := hr.piece (k * sz) sz
                      rw [byteK, Nat.mul_one, Nat.zero_add] at hp
                      exact hp
                    · cases e
                      exact ⟨fun hk => by have := JAt.ok.lt H3.out.2.2.1 _ hk; dsimp only at this; omega, heap_lt hg9⟩)
                  obtain ⟨c0, c3⟩ := HHd.out wr (H9.out.2.trans' HI.out.fr)
                  have hfw : Fr noBlock wc wr := H9.out.2.trans' HI.out.fr
                  have HCm := Lib.hid (show Calls Tryz.prog 22 #[.pointer (some ⟨j, 0, none⟩), .slice lo pages lc] wr (JCommitP j L d bad (saveL bas pages sz A) H wr) from by
                    have h := jcommit_any (JAt.ok.fr0 H3.out.2.2.1 hfw) HW.out lc (by rw [saveL_len, ← hie]; exact HI.out.cap'.1) (by rw [saveL_len]; omega) (fun q hq => by
                      unfold saveL at hq
                      obtain ⟨k, -, rfl⟩ := List.mem_map.1 hq
                      show ((A.drop (k * sz)).take sz).length ≤ _
                      have := HPz.out.2.2.1
                      rw [List.length_take]
                      omega)
                    rw [saveL_len] at h
                    exact h)
                  unfold JCommitP at HCm
                  have H4 := Lib.hid (show SealsMade sp j rg master tenants pages n wr G3 sg ∧ Step G G3 w wr from ⟨H3.out.1.fr hfw (fun _ _ z => z), H3.out.2.1.news hfw (fun _ z => z.elim)⟩)
                  have hR := HR4.out
                  rw [← HPz.out.1] at hR
                  rw [hR] at HCm
                  clear c3 hfw HW
                  go_wp2_with fail
                  refine HCm.out.mono ?_
                  rintro e w11 ⟨H', rfl, k1, k2⟩
                  have HE := Lib.hid (And.intro k1 k2)
                  clear k1 k2 HCm c0
                  go_wp2_with fail
                  go_ret
                  have hdd := H3.out.2.2.2
                  refine ⟨G3, H', rfl, HE.out.1, H4.out.1.fr HE.out.2.fr (fun k hk hh => hdd k hk hh), fun k hk hh => ?_, ⟨?_, fun k hk => ?_⟩⟩
                  · exact (HE.out.2.foot k hh).elim (hdd k hk) (fun hle => by have := SealsT.ok.lt H4.out.1.t k hk; omega)
                  · exact (H4.out.2.fr.mono (fun _ z => .inl z)).trans' (HE.out.2.fr.mono (fun _ z => .inr z))
                  · rcases hk with hk | hk
                    · exact (H4.out.2.foot k hk).imp .inl id
                    · exact (HE.out.2.foot k hk).imp .inr (fun hle => Nat.le_trans H4.out.2.size hle)
end Go.Proofs.YthabllnhlhkejaaGreatDoor
