/-
  THE WALK of the law LimitsPlays.
-/
import Derived.Test.YtkcepppldhaiaaaLmRest2
import Derived.Test.YtkcepppldhaiaaaLmBack
import Derived.Test.YtkcepppldhaiaaaThing2
namespace Go.Proofs.Ytkcepppldhaiaaa
open Go.RowKit

/-- one use of a block is written over -/
theorem store_use {w : World} {g : Nat} {cur : Array Value} {n k : Nat} (h : w.heap[g]? = some (.cells cur 40 (0, 0))) (hs : n * 4 ≤ cur.size) (hk : k < n) :
    ∃ x0 x1 x2 x3, w.cell? ⟨g, k * 4, none⟩ = some x0 ∧ w.cell? ⟨g, k * 4 + 1, none⟩ = some x1 ∧ w.cell? ⟨g, k * 4 + 2, none⟩ = some x2 ∧ w.cell? ⟨g, k * 4 + 3, none⟩ = some x3 ∧ ∀ o, w.frozen? ⟨g, o, none⟩ = false :=
  ⟨_, _, _, _, (cell_of h _).trans (Array.getElem?_eq_getElem (by omega)), (cell_of h _).trans (Array.getElem?_eq_getElem (by omega)), (cell_of h _).trans (Array.getElem?_eq_getElem (by omega)), (cell_of h _).trans (Array.getElem?_eq_getElem (by omega)), fun o => free_of h o⟩
/-- a row's block, as it may be written -/
theorem row_block {w : World} {vo : Option Addr} {n cap : Nat} {us : List Use} (h : RowAt 40 UseR w (.slice vo n cap) us) : 0 < us.length → ∃ g cur, vo = some ⟨g, 0, none⟩ ∧ w.heap[g]? = some (.cells cur 40 (0, 0)) ∧ us.length * 4 ≤ cur.size := by
  intro h0
  obtain ⟨g, rfl, _⟩ := h.elem (i := 0) h0
  obtain ⟨cur, hg, rfl, hc, _, hs, _⟩ := h.block
  exact ⟨g, cur, rfl, hg, by rw [hs]; exact Nat.mul_le_mul_right 4 hc⟩

/-- the program's book and the document's, with the same uses -/
abbrev Both (l m : Nat) (us : List Use) : Thing := Two (BookAt l us) (RBookAt m us)
theorem Both.ok {l m : Nat} {us : List Use} : (Both l m us).Ok := Two.ok BookAt.ok RBookAt.ok

set_option maxRecDepth 100000 in
set_option maxHeartbeats 2000000 in
theorem plays_walk (lo ao : Option Addr) (lc ac : Nat) (ps : List Use) (fresh : Bool) (xs : List LAct) (w : World) (hp : RowRd UseR w lo ps) (hln : lo = none → ps = [] ∧ lc = 0) (hsz : ps.length * 40 ≤ 140737488351232) (ha : RowRd ActR w ao xs) :
    Calls Try.prog 6 #[.slice lo ps.length lc, .bool fresh, .slice ao xs.length ac] w fun e w' => e = .returned (.bool true) ∧ Below w.heap.size w w' := by
  have hlen := ha.len
  unfold maxLen at hlen
  have hpl := hp.len
  obtain ⟨i0, hi0, hz0, hz1, hz2⟩ := info_parts info_use
  go_enter Try.func6, Try.ntmps6
  go_wp2_with fail
  refine (small_any _).mono ?_
  rintro e w1 ⟨rfl, b1⟩
  go_upto_region 2 with fail
  go_cut [8] (fun s8 wx => ∃ vo cap, s8 = .slice vo ps.length cap ∧ RowAt 40 UseR wx (.slice vo ps.length cap) ps ∧ Fr noBlock w1 wx ∧ ∀ k, (Value.slice vo ps.length cap).ownBlock = some k → w1.heap.size ≤ k)
  case first =>
    have hp1 := hp.below b1
    have Hp1 := Lib.hid hp1
    clear hp1 ha hp b1
    cases lo with
    | some ad =>
      clear hln
      go_wp2_with (at_builtin; refine wpList_append_own_at (base := 0) (w := w1.alloc (.cells #[] 40)) rfl _ _ _ rfl 40 i0 _ 4 40 Try.underlying31 hi0 hz0 hz1 hz2 rfl (by decide) _ 0 [] rfl ?c1 ad ps.length lc (UseR.flat ps) rfl ?c2 ?c3 ?c4 ?c5 ?c6 ?c7 ?_)
      case c1 => exact World.ownsRow_made w1 #[] 0 (Nat.zero_le _) (Nat.zero_le _) (by simp)
      case c2 => exact UseR.flat_len ps
      case c3 =>
        intro j u hu
        have hc := Hp1.out.cells j u hu
        exact (World.cell?_alloc_lt _ _ _ (World.block_lt_of_cell? _ _ hc)).trans hc
      case c4 => exact UseR.flat_oneCell ps
      case c5 => rw [Nat.zero_add]; exact hpl
      case c6 => omega
      case c7 => exact Nat.zero_le _
      intro v' w2 hown hgrow _ hat
      have hF : Fr noBlock w1 w2 := ((Fr.refl noBlock w1).alloc _).grown hgrow (by intro k hk; simp [Value.ownBlock] at hk; exact .inr (by omega))
      have hown' : RowAt 40 UseR w2 v' ps := by
        show w2.ownsRow 0 40 4 v' ps.length _
        simpa using hown
      have hn : ∀ k, v'.ownBlock = some k → w1.heap.size ≤ k := by
        intro k hk
        rcases hat with hat | hat <;> (rw [hk] at hat; simp [Value.ownBlock] at hat; omega)
      obtain ⟨vo, vc, rfl, _⟩ := hown'.shape
      clear hown hgrow hat
      go_wp2_with fail
      go_meet
      exact ⟨vo, vc, rfl, hown', hF, hn⟩
    | none =>
      obtain ⟨rfl, rfl⟩ := hln rfl
      go_wp2_with fail
      go_meet
      refine ⟨some ⟨w1.heap.size, 0, none⟩, 0, rfl, World.ownsRow_made w1 #[] 0 (Nat.zero_le _) (Nat.zero_le _) (by simp), (Fr.refl _ _).alloc _, ?_⟩
      intro k hk
      simp [Value.ownBlock] at hk
      omega
  case rest =>
    obtain ⟨vo, vc, rfl, hv, f2, n2⟩ := hcut
    generalize wc = w2 at *
    have hrd := RowRd.of_at hv hpl
    go_wp2_with fail
    refine (restore_any vo vc ps w2 hrd).mono ?_
    rintro e w3 ⟨a0, E, rfl, f3, hA⟩
    have b2 : Below w.heap.size w w2 := b1.trans (f2.below b1.size (fun _ hk => hk.elim))
    have b3 : Below w.heap.size w w3 := b2.trans (f3.below b2.size (fun _ hk => hk.elim))
    have hp3 := hp.below b3
    have hv3 := hv.fr0 f3
    have Hs := Lib.hid (same_rd vo lo vc lc ps ps w3 (RowRd.of_at hv3 hpl) hp3 true ⟨fun _ => rfl, fun _ => rfl⟩)
    clear hrd hp3
    go_wp2_with fail
    refine Hs.out.mono ?_
    rintro e w4 ⟨rfl, f4⟩
    have hrow := row_block (hv3.fr0 f4)
    have hown : ∀ k, (Value.slice vo ps.length vc).ownBlock = some k → w1.heap.size ≤ k ∧ k < w2.heap.size := fun k hk => ⟨n2 k hk, hv.lt k hk⟩
    have Hown := Lib.hid hown
    have B1 := Lib.hid b1.size
    have B2 := Lib.hid b2.size
    have b4 := b3.trans (f4.below b3.size (fun _ hk => hk.elim))
    have Hp := Lib.hid hp
    have F3 := Lib.hid f3
    have F4 := Lib.hid f4
    have B4 := Lib.hid b4
    clear hv hv3 n2 b3 b4 b2 hown Hs f2 f3 f4 hp
    go_wp2_with fail
    go_loopw [12] (fun s12 wr => ∃ k : Nat, k ≤ ps.length ∧ s12 = .int .i64 k ∧ Fr (fun i => (Value.slice vo ps.length vc).ownBlock = some i) w4 wr ∧ (k < ps.length → ∃ g cur, vo = some ⟨g, 0, none⟩ ∧ wr.heap[g]? = some (.cells cur 40 (0, 0)) ∧ ps.length * 4 ≤ cur.size)) (fun s12 _ => ps.length - (intOf s12).toNat)
    case atStart => exact ⟨0, Nat.zero_le _, rfl, Fr.refl _ _, hrow⟩
    case round =>
      clear hrow
      obtain ⟨k, hk, rfl, hf, hblk⟩ := hrel
      by_cases hlt : k < ps.length
      · obtain ⟨g, cur, rfl, hcur, hsz'⟩ := hblk hlt
        obtain ⟨x0, x1, x2, x3, y0, y1, y2, y3, yf⟩ := store_use hcur hsz' hlt
        have yf0 := yf (k * 4)
        have yf1 := yf (k * 4 + 1)
        have yf2 := yf (k * 4 + 2)
        have yf3 := yf (k * 4 + 3)
        have h1' : (k : Int) < (ps.length : Int) := by omega
        have hgl := heap_lt hcur
        have HF := Lib.hid (And.intro hf hcur)
        clear yf hf hcur
        go_wp2_with fail
        go_roundw
        case rel =>
          refine ⟨k + 1, by omega, by go_num, ?_, fun _ => ⟨g, _, rfl, heap_set_eq (heap_set_eq (heap_set_eq (heap_set_eq HF.out.2))), by simpa using hsz'⟩⟩
          have hS : (Value.slice (some ⟨g, 0, none⟩) ps.length vc).ownBlock = some g := rfl
          exact (((HF.out.1.setCell (p := ⟨g, k * 4, none⟩) (.inl hS) _).setCell (p := ⟨g, k * 4 + 1, none⟩) (.inl hS) _).setCell (p := ⟨g, k * 4 + 2, none⟩) (.inl hS) _).setCell (p := ⟨g, k * 4 + 3, none⟩) (.inl hS) _
        case measure => simp [intOf]; omega
      · have h1' : (ps.length : Int) ≤ (k : Int) := by omega
        clear hlt hblk
        have b5 : Below w.heap.size w wr := B4.out.trans (hf.below B4.out.size (fun i hi => Nat.le_trans B1.out (Hown.out i hi).1))
        have hp5 := Hp.out.below b5
        go_wp2_with fail
        refine (rrestore_any lo lc ps wr hp5).mono ?_
        rintro e w5 ⟨m0, E2, rfl, f5, hB⟩
        have b6 := b5.trans (f5.below b5.size (fun _ hk => hk.elim))
        obtain rfl : E2 = E := by
          rcases hA with ⟨h1, h2, _⟩ | ⟨h1, h2, _⟩ <;> rcases hB with ⟨g1, g2, _⟩ | ⟨g1, g2, _⟩
          · rw [h1, g1]
          · exact absurd h2 g2
          · exact absurd g2 h2
          · rw [h1, g1]
        have HA := Lib.hid (And.intro hA (And.intro hB (And.intro hf f5)))
        have B6 := Lib.hid b6
        have hnil : (a0.isNone == (E2 != 0)) = true := by
          rcases hA with ⟨h1, _, _, _, h2, _⟩ | ⟨h1, _, h2⟩ <;> rw [h1, h2] <;> rfl
        clear hA hB hf f5 hp5 b5 b6
        go_upto_region 12 with fail
        go_cut [71] (fun s71 wx => s71 = .bool (fresh || (E2 != 0)) ∧ wx = w5)
        case first =>
          cases fresh
          all_goals
            go_wp2_with fail
            go_meet
            exact ⟨rfl, rfl⟩
        case rest =>
          obtain ⟨rfl, rfl⟩ := hcut
          go_upto_if 71 with fail
          go_cut [9, 13] (fun s9 s13 wx => ∃ l m qs H, s9 = .pointer (some ⟨l, 0, none⟩) ∧ s13 = .pointer (some ⟨m, 0, none⟩) ∧ Mine w (Both l m qs) wx H)
          case first =>
            cases hfr : (fresh || (E2 != 0))
            · simp only [Bool.or_eq_false_iff, bne_eq_false_iff_eq] at hfr
              obtain ⟨hfr1, hE0⟩ := hfr
              obtain ⟨hA, hB, hf, f5⟩ := HA.out
              have hbo : ∃ l m H, a0 = some ⟨l, 0, none⟩ ∧ m0 = some ⟨m, 0, none⟩ ∧ Mine w (Both l m ps) wc H := by
                rcases hA with ⟨_, _, l, F, h1, h2, h3⟩ | ⟨h1, _⟩
                · rcases hB with ⟨_, _, m, G, g1, g2, g3⟩ | ⟨g1, _⟩
                  · have hr := BookAt.ok.fr (BookAt.ok.fr0 h2 F4.out) hf (fun k hk hs => by have := h3 k hk; have := (Hown.out k hs).2; omega)
                    have hs3 := F3.out.size
                    have hs4 := F4.out.size
                    have hsr := hf.size
                    have hb2 := B2.out
                    exact ⟨l, m, _, h1, g1, ⟨Two.join BookAt.ok hr f5 g2 g3, fun k hk => hk.elim (fun hk => by have := h3 k hk; omega) (fun hk => by have := g3 k hk; omega), B6.out⟩⟩
                  · omega
                · omega
              obtain ⟨l, m, H, rfl, rfl, hb⟩ := hbo
              have Hb := Lib.hid hb
              clear hA hB hf f5 hb hnil hE0 hfr1 HA
              go_wp2_with fail
              go_meet
              exact ⟨l, m, ps, H, rfl, rfl, Hb.out⟩
            · clear hfr hnil HA
              go_wp2_with fail
              refine (new_any _).mono ?_
              rintro e w6 ⟨l, F, rfl, h1, g1, n1⟩
              have Hm6 := Lib.hid (Mine.new B6.out g1 h1 n1)
              clear h1 g1 n1
              go_wp2_with fail
              refine (rnew_any w6).mono ?_
              rintro e w7 ⟨m, G, rfl, h2, g2, n2⟩
              have Hb := Lib.hid (Mine.join Hm6.out BookAt.ok g2 h2 n2)
              clear h2 g2 n2
              go_wp2_with fail
              go_meet
              exact ⟨l, m, [], _, rfl, rfl, Hb.out⟩
          case rest =>
            obtain ⟨l, m, qs, H, rfl, rfl, hb⟩ := hcut
            have HB := Lib.hid hb
            clear hb HA hnil Hown hsz hpl B6 B4 B2 B1 F3 F4 hln
            go_wp2_with fail
            go_loopw [15] (fun s15 wr => ∃ (k : Nat) (qs : List Use) (H : Nat → Prop), k ≤ xs.length ∧ s15 = .int .i64 k ∧ Mine w (Both l m qs) wr H) (fun s15 _ => xs.length - (intOf s15).toNat)
            case atStart => exact ⟨0, qs, H, Nat.zero_le _, rfl, HB.out⟩
            case round =>
              clear HB
              obtain ⟨k, qs, H, hk1, rfl, hb⟩ := hrel
              by_cases hlt : k < xs.length ∧ k < 200
              · obtain ⟨h1, h200⟩ := hlt
                obtain ⟨b, off, rfl, hbl, c0, c1, c2, c3, c4, c5, c6, c7⟩ := act_cells (ha.below hb.below) h1
                have h1' : (k : Int) < (xs.length : Int) := by omega
                have h200' : (k : Int) < 200 := by omega
                have hk0 : (0 : Int) ≤ (k : Int) := by omega
                generalize xs[k] = a at *
                obtain ⟨op, ⟨r0, r1, r2, r3⟩, acard, aamt, aat⟩ := a
                simp only at c0 c1 c2 c3 c4 c5 c6 c7
                obtain ⟨H0, hT0⟩ := hb.withBox Both.ok (.cells #[.int .i64 op, .int .i64 r0, .int .i64 r1, .int .i64 r2, .int .i64 r3, .string acard, .int .i64 aamt, .int .i64 aat] 30 (0, 0))
                have hd1 := fun (x : Int) (vs : List Use) (hx : doE qs ⟨op, ⟨r0, r1, r2, r3⟩, acard, aamt, aat⟩ = x) (hv : doL qs ⟨op, ⟨r0, r1, r2, r3⟩, acard, aamt, aat⟩ = vs) (W : World) (G : Nat → Prop) (h : BookAt l qs W G) => do_any h ⟨op, ⟨r0, r1, r2, r3⟩, acard, aamt, aat⟩ hx hv
                have hdd : (op = 1 ∧ doE qs ⟨op, ⟨r0, r1, r2, r3⟩, acard, aamt, aat⟩ = undoE qs ⟨r0, r1, r2, r3⟩ acard aamt aat ∧ doL qs ⟨op, ⟨r0, r1, r2, r3⟩, acard, aamt, aat⟩ = undoL qs ⟨r0, r1, r2, r3⟩ acard aamt aat) ∨ (op ≠ 1 ∧ doE qs ⟨op, ⟨r0, r1, r2, r3⟩, acard, aamt, aat⟩ = tryE qs ⟨r0, r1, r2, r3⟩ acard aamt aat ∧ doL qs ⟨op, ⟨r0, r1, r2, r3⟩, acard, aamt, aat⟩ = tryL qs ⟨r0, r1, r2, r3⟩ acard aamt aat) := by
                  unfold doE doL
                  by_cases e : op = 1
                  · exact .inl ⟨e, by rw [if_pos e], by rw [if_pos e]⟩
                  · exact .inr ⟨e, by rw [if_neg e], by rw [if_neg e]⟩
                obtain ⟨x, hx⟩ : ∃ x, doE qs ⟨op, ⟨r0, r1, r2, r3⟩, acard, aamt, aat⟩ = x := ⟨_, rfl⟩
                obtain ⟨vs, hvs⟩ : ∃ vs, doL qs ⟨op, ⟨r0, r1, r2, r3⟩, acard, aamt, aat⟩ = vs := ⟨_, rfl⟩
                rw [hx, hvs] at hdd
                obtain ⟨G, hB, st⟩ := hT0.in1 RBookAt.ok BoxT.ok
                have Hd := Lib.hid (hd1 x vs hx hvs _ G hB)
                unfold LAct.val at Hd
                simp only at Hd
                have St := Lib.hid st
                have Hdd := Lib.hid hdd
                clear hb hT0 hd1 hdd hx hvs hB st
                go_wp2_with fail
                refine Hd.out.mono ?_
                rintro e w8 ⟨G', rfl, g1, s1⟩
                obtain ⟨H1, hT1⟩ := St.out _ _ _ g1 s1
                have hbx := hT1.box
                have z0 := cell_of hbx 0
                simp at z0
                have HT1 := Lib.hid hT1
                clear g1 s1 St Hd hbx hT1 c0 c1 c2 c3 c4 c5 c6 c7
                go_upto_if 97 with fail
                go_cut [18] (fun s18 wx => s18 = .int .i64 x ∧ ∃ H, Mine w (Two (Both l m vs) (BoxT wr.heap.size (.cells #[.int .i64 op, .int .i64 r0, .int .i64 r1, .int .i64 r2, .int .i64 r3, .string acard, .int .i64 aamt, .int .i64 aat] 30 (0, 0)))) wx H)
                case first =>
                  have hbx := HT1.out.box
                  have z1 := cell_of hbx 1
                  have z2 := cell_of hbx 2
                  have z3 := cell_of hbx 3
                  have z4 := cell_of hbx 4
                  have z5 := cell_of hbx 5
                  have z6 := cell_of hbx 6
                  have z7 := cell_of hbx 7
                  simp at z1 z2 z3 z4 z5 z6 z7
                  obtain ⟨G2, hR, st2⟩ := HT1.out.in2 BookAt.ok BoxT.ok
                  rcases Hdd.out with ⟨ho, e1, e2⟩ | ⟨ho, e1, e2⟩
                  · have ho' : (op == 1) = true := by simpa using ho
                    have Hu := Lib.hid (rundo_any hR ⟨r0, r1, r2, r3⟩ acard aamt aat e1.symm e2.symm)
                    unfold Rule.val at Hu
                    simp only at Hu
                    have St2 := Lib.hid st2
                    clear hbx hR st2 ho e1 e2
                    go_wp2_with fail
                    refine Hu.out.mono ?_
                    rintro e w9 ⟨G3, rfl, g2, s2⟩
                    have HT2 := Lib.hid (St2.out _ _ _ g2 s2)
                    clear g2 s2
                    go_wp2_with fail
                    go_meet
                    exact ⟨rfl, HT2.out⟩
                  · have ho' : (op == 1) = false := by simpa using ho
                    have Hu := Lib.hid (rtry_any hR ⟨r0, r1, r2, r3⟩ acard aamt aat e1.symm e2.symm)
                    unfold Rule.val at Hu
                    simp only at Hu
                    have St2 := Lib.hid st2
                    clear hbx hR st2 ho e1 e2
                    go_wp2_with fail
                    refine Hu.out.mono ?_
                    rintro e w9 ⟨G3, rfl, g2, s2⟩
                    have HT2 := Lib.hid (St2.out _ _ _ g2 s2)
                    clear g2 s2
                    go_wp2_with fail
                    go_meet
                    exact ⟨rfl, HT2.out⟩
                case rest =>
                  clear z0 HT1 Hdd
                  obtain ⟨rfl, H2, hT2⟩ := hcut
                  obtain ⟨G, hB, _⟩ := hT2.in1 RBookAt.ok BoxT.ok
                  have hml := small_len (Nat.le_trans hB.2.len (show 16 ≤ 100000 from of_decide_eq_true rfl))
                  have hv16 : vs.length ≤ 16 := hB.2.len
                  have Hl := Lib.hid (list_any hB.1 hB.2.len)
                  have HT2 := Lib.hid hT2
                  clear hB hT2
                  go_wp2_with fail
                  refine Hl.out.mono ?_
                  rintro e w9 ⟨v9, rfl, hr9, f9, hn9⟩
                  obtain ⟨ao9, vc9, rfl, _⟩ := hr9.shape
                  have hT3 := HT2.out.fr (Two.ok Both.ok BoxT.ok) f9
                  obtain ⟨G3, hR3, _⟩ := hT3.in2 BookAt.ok BoxT.ok
                  obtain ⟨rv, rc, d0, _, hml9, _, _, hrr, _⟩ := hR3.1.opened
                  have Hsm := Lib.hid (same_rd ao9 rv vc9 rc vs vs w9 (RowRd.of_at hr9 hml) (RowRd.of_at hrr hml) true ⟨fun _ => rfl, fun _ => rfl⟩)
                  have hap : ∀ q, H2 q → ¬ (Value.slice ao9 vs.length vc9).ownBlock = some q := fun q hq e => by have := (Two.ok Both.ok BoxT.ok).lt HT2.out.it q hq; have := hn9 q e; omega
                  have Hap := Lib.hid hap
                  have HT3 := Lib.hid hT3
                  have Hr9 := Lib.hid hr9
                  have Hn9 := Lib.hid hn9
                  have hszw := HT2.out.size
                  clear hr9 hrr hR3 hT3 hap hn9 f9 Hl
                  go_wp2_with fail
                  refine Hsm.out.mono ?_
                  rintro e w10 ⟨rfl, f10⟩
                  have hrow := row_block (Hr9.out.fr0 f10)
                  have hT4 := HT3.out.fr (Two.ok Both.ok BoxT.ok) f10
                  have HT4 := Lib.hid hT4
                  clear f10 hT4 Hsm HT3 d0
                  go_wp2_with fail
                  obtain ⟨wo, rfl⟩ : ∃ wo : World, wo = wr := ⟨_, rfl⟩
                  go_loopw [21] (fun s21 wr => ∃ j : Nat, j ≤ vs.length ∧ s21 = .int .i64 j ∧ Fr (fun i => (Value.slice ao9 vs.length vc9).ownBlock = some i) w10 wr ∧ (j < vs.length → ∃ g cur, ao9 = some ⟨g, 0, none⟩ ∧ wr.heap[g]? = some (.cells cur 40 (0, 0)) ∧ vs.length * 4 ≤ cur.size)) (fun s21 _ => vs.length - (intOf s21).toNat)
                  case atStart =>
                    refine ⟨0, Nat.zero_le _, rfl, Fr.refl _ _, fun h0 => ?_⟩
                    obtain ⟨g, cur, e, hc, hs⟩ := hrow h0
                    exact ⟨g, cur, e, hc, hs⟩
                  case round =>
                    clear hrow
                    obtain ⟨j, hj, rfl, hf, hblk⟩ := hrel
                    by_cases hlt3 : j < vs.length
                    · obtain ⟨g, cur, rfl, hcur, hsz'⟩ := hblk hlt3
                      obtain ⟨x0, x1, x2, x3, y0, y1, y2, y3, yf⟩ := store_use hcur hsz' hlt3
                      have yf0 := yf (j * 4)
                      have yf1 := yf (j * 4 + 1)
                      have yf2 := yf (j * 4 + 2)
                      have yf3 := yf (j * 4 + 3)
                      have hj1 : (j : Int) < (vs.length : Int) := by omega
                      have hgl := heap_lt hcur
                      have HF := Lib.hid (And.intro hf hcur)
                      clear yf hf hcur
                      go_wp2_with fail
                      go_roundw
                      case rel =>
                        refine ⟨j + 1, by omega, by go_num, ?_, fun _ => ⟨g, _, rfl, heap_set_eq (heap_set_eq (heap_set_eq (heap_set_eq HF.out.2))), by simpa using hsz'⟩⟩
                        have hS : (Value.slice (some ⟨g, 0, none⟩) vs.length vc9).ownBlock = some g := rfl
                        exact (((HF.out.1.setCell (p := ⟨g, j * 4, none⟩) (.inl hS) _).setCell (p := ⟨g, j * 4 + 1, none⟩) (.inl hS) _).setCell (p := ⟨g, j * 4 + 2, none⟩) (.inl hS) _).setCell (p := ⟨g, j * 4 + 3, none⟩) (.inl hS) _
                      case measure => simp [intOf]; omega
                    · have hj1 : (vs.length : Int) ≤ (j : Int) := by omega
                      have hT5 : Mine w (Two (Both l m vs) (BoxT wo.heap.size (.cells #[.int .i64 op, .int .i64 r0, .int .i64 r1, .int .i64 r2, .int .i64 r3, .string acard, .int .i64 aamt, .int .i64 aat] 30 (0, 0)))) wr H2 :=
                        ⟨(Two.ok Both.ok BoxT.ok).fr HT4.out.it hf Hap.out, HT4.out.base, HT4.out.below.trans (hf.below HT4.out.size (fun q hq => Nat.le_trans HT2.out.size (Hn9.out q hq)))⟩
                      have hbx := hT5.box
                      have z1 := cell_of hbx 1
                      have z2 := cell_of hbx 2
                      have z3 := cell_of hbx 3
                      have z4 := cell_of hbx 4
                      simp at z1 z2 z3 z4
                      obtain ⟨rb, hrb⟩ : ∃ rb, Rule.right ⟨r0, r1, r2, r3⟩ = rb := ⟨_, rfl⟩
                      have Hr1 := Lib.hid (fun W => right_any ⟨r0, r1, r2, r3⟩ rb hrb W)
                      have Hr2 := Lib.hid (fun W => rright_any ⟨r0, r1, r2, r3⟩ rb hrb W)
                      unfold Rule.val at Hr1 Hr2
                      simp only at Hr1 Hr2
                      have hbl5 := heap_lt hbx
                      have HT5 := Lib.hid hT5
                      have hS0 := And.intro z1 (And.intro z2 (And.intro z3 z4))
                      have HS0 := Lib.hid hS0
                      have hxx : (x != x) = false := by simp
                      clear hrb hf hblk hbx hT5 HT4 HT2 z1 z2 z3 z4 hS0
                      go_wp2_with fail
                      go_region_held3 (fun W => W.cell? ⟨wo.heap.size, 1, none⟩ = some (.int .i64 r0) ∧ W.cell? ⟨wo.heap.size, 2, none⟩ = some (.int .i64 r1) ∧ W.cell? ⟨wo.heap.size, 3, none⟩ = some (.int .i64 r2) ∧ W.cell? ⟨wo.heap.size, 4, none⟩ = some (.int .i64 r3))
                        (first | exact HS0.out | exact hS2 | exact hS1)
                        (first
                          | (go_at_call 10; (with_reducible refine (Hr1.out _).mono ?_); rintro e w11 ⟨rfl, f11⟩; have hT6 := (HT5.out.fr (Two.ok Both.ok BoxT.ok) ((Fr.refl _ _).drew)).fr (Two.ok Both.ok BoxT.ok) f11; have hk1 := fun o => f11.cell (p := ⟨wo.heap.size, o, none⟩) hbl5 (fun x => x); have hS1 := And.intro ((hk1 1).trans HS0.out.1) (And.intro ((hk1 2).trans HS0.out.2.1) (And.intro ((hk1 3).trans HS0.out.2.2.1) ((hk1 4).trans HS0.out.2.2.2))))
                          | (go_at_call 20; (with_reducible refine (Hr2.out _).mono ?_); rintro e w12 ⟨rfl, f12⟩; have hT7 := hT6.fr (Two.ok Both.ok BoxT.ok) f12; have hk2 := fun o => f12.cell (p := ⟨wo.heap.size, o, none⟩) (Nat.lt_of_lt_of_le hbl5 f11.size) (fun x => x); have hS2 := And.intro ((hk2 1).trans hS1.1) (And.intro ((hk2 2).trans hS1.2.1) (And.intro ((hk2 3).trans hS1.2.2.1) ((hk2 4).trans hS1.2.2.2)))))
                      go_wp2_with fail
                      go_roundw
                      case rel =>
                        obtain ⟨H8, hT8⟩ := hT7.fst
                        exact ⟨k + 1, vs, H8, by omega, by go_num, hT8⟩
                      case measure => simp [intOf]; omega
              · have hex : (k : Int) ≥ (xs.length : Int) ∨ ((k : Int) < (xs.length : Int) ∧ (k : Int) ≥ 200) := by omega
                obtain ⟨G, hB, _⟩ := hb.left RBookAt.ok
                have hml := small_len (Nat.le_trans hB.2.len (show 16 ≤ 100000 from of_decide_eq_true rfl))
                have Hl := Lib.hid (fun (W : World) (hW : Fr noBlock wr W) => list_any (Hold.ok.fr0 hB.1 hW) hB.2.len)
                obtain ⟨G3, hR3, _⟩ := hb.right BookAt.ok
                obtain ⟨rv, rc, d0, _, hmlt, _, _, hrr, _⟩ := hR3.1.opened
                have Hrr := Lib.hid hrr
                have HB := Lib.hid hb
                have D0 := Lib.hid d0
                clear hlt hB hR3 hrr hb
                rcases hex with hex | ⟨hex, hex2⟩
                all_goals
                  go_wp2_with fail
                  go_region_held3 (fun W => W.cell? ⟨m, 0, none⟩ = some (.slice rv qs.length rc))
                    (first | exact D0.out | exact hS2 | exact hS1)
                    (first
                      | (go_at_call 11; refine (Hl.out _ (by first | exact (Fr.refl _ _).drew | exact Fr.refl _ _ | exact (Fr.refl _ _).drewN _)).mono ?_; rintro e w13 ⟨v13, rfl, hr13, f13, _⟩; obtain ⟨ao13, vc13, rfl, _⟩ := hr13.shape; have g13 : Fr noBlock wr w13 := ((Fr.refl noBlock wr).drew).trans' f13; have hS1 := (g13.cell (p := ⟨m, 0, none⟩) hmlt (fun x => x)).trans D0.out; have Hsm := Lib.hid (same_rd ao13 rv vc13 rc qs qs w13 (RowRd.of_at hr13 hml) ((RowRd.of_at Hrr.out hml).fr0 g13) true ⟨fun _ => rfl, fun _ => rfl⟩))
                      | (go_at_call 13; (with_reducible refine Hsm.out.mono ?_); rintro e w15 ⟨rfl, f15⟩; have hS2 := (f15.cell (p := ⟨m, 0, none⟩) (Nat.lt_of_lt_of_le hmlt g13.size) (fun x => x)).trans hS1))
                  go_wp2_with fail
                  go_ret
                  exact ⟨rfl, (HB.out.below.trans (g13.below HB.out.size (fun _ h => h.elim))).trans (f15.below (Nat.le_trans HB.out.size g13.size) (fun _ h => h.elim))⟩
end Go.Proofs.Ytkcepppldhaiaaa
