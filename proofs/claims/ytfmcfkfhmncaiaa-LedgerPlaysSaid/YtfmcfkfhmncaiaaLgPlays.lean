/-
  THE WALK of the law LedgerPlays.
-/
import Derived.Test.YtfmcfkfhmncaiaaLgBoth
import Derived.Test.YtfmcfkfhmncaiaaLgActs
import Derived.Maps.AppendAt
import Derived.Deep.RegionHeld3
namespace Go.Proofs.Ytfmcfkfhmncaiaa
open Go.RowKit

theorem PostsRd.keys {w : World} {ao : Option Addr} {ps : List Post} (h : PostsRd w ao ps) : ∀ p ∈ ps, p.key.size ≤ maxLen := by
  intro p hp
  obtain ⟨i, hi, rfl⟩ := List.getElem_of_mem hp
  obtain ⟨_, _, _, _, _, hk⟩ := h.at' i hi
  exact hk
theorem PostsAt.rd' {w : World} {vo : Option Addr} {cap : Nat} {ps : List Post} (h : PostsAt w (.slice vo ps.length cap) ps) (hl : ps.length ≤ maxLen) (hk : ∀ p ∈ ps, p.key.size ≤ maxLen) : PostsRd w vo ps := by
  refine ⟨hl, fun i hi => ?_⟩
  obtain ⟨g, rfl, hgl, _, p0, p1, p2, p3⟩ := h.post hi
  exact ⟨g, 0, rfl, hgl, ⟨by rw [Nat.zero_add]; exact p0, by rw [Nat.zero_add]; exact p1, by rw [Nat.zero_add]; exact p2, by rw [Nat.zero_add]; exact p3⟩, hk _ (List.getElem_mem hi)⟩
theorem flat_len (ps : List Post) : (ps.flatMap Post.cells).length = ps.length * 4 := by
  induction ps with
  | nil => rfl
  | cons p ps ih => rw [List.flatMap_cons, List.length_append, ih]; simp [Post.cells]; omega
theorem flat_one (ps : List Post) : ∀ u ∈ ps.flatMap Post.cells, u.oneCell' = true := by
  intro u hu
  obtain ⟨p, _, hp⟩ := List.mem_flatMap.1 hu
  simp [Post.cells] at hp
  rcases hp with rfl | rfl | rfl | rfl <;> rfl
theorem PostsRd.cells {w : World} {a : Addr} {ps : List Post} (h : PostsRd w (some a) ps) : ∀ j u, (ps.flatMap Post.cells)[j]? = some u → w.cell? (a.add j) = some u := by
  intro j u hu
  have hj : j < (ps.flatMap Post.cells).length := (List.getElem?_eq_some_iff.1 hu).1
  have hlen := flat_len ps
  have hk : j / 4 < ps.length := by omega
  obtain ⟨b, off, e, hb, ⟨c0, c1, c2, c3⟩, _⟩ := h.at' (j / 4) hk
  obtain rfl := Option.some.inj e
  have e4 : j / 4 * 4 + j % 4 = j := by omega
  have hf := flat_get hk (j := j % 4) (by omega)
  rw [e4, hu] at hf
  rw [Addr.add_lit]
  have h4 : j % 4 = 0 ∨ j % 4 = 1 ∨ j % 4 = 2 ∨ j % 4 = 3 := by omega
  rcases h4 with h4 | h4 | h4 | h4 <;> rw [h4] at hf e4 <;> simp only [Post.cells] at hf <;> simp at hf <;> subst hf
  · rw [show off + j = off + j / 4 * 4 by omega]; exact c0
  · rw [show off + j = off + j / 4 * 4 + 1 by omega]; exact c1
  · rw [show off + j = off + j / 4 * 4 + 2 by omega]; exact c2
  · rw [show off + j = off + j / 4 * 4 + 3 by omega]; exact c3

/-- what the two Restores leave, told as one -/
theorem restored_ends {w w' : World} {ps : List Post} {e : Ending} (h : Restored w w' ps e) : ∃ (a0 : Option Addr) (E : Int), e = .returned (.tuple #[.pointer a0, .int .i64 E]) ∧ Fr noBlock w w' ∧
    ((E = 0 ∧ Good ps ∧ ∃ l F, a0 = some ⟨l, 0, none⟩ ∧ LedAt w' l ps F ∧ ∀ k, F k → w.heap.size ≤ k) ∨ (E = 1 ∧ ¬ Good ps ∧ a0 = none)) := by
  obtain ⟨hf, ⟨hg, l, F, rfl, h1, h2⟩ | ⟨hg, rfl⟩⟩ := h
  · exact ⟨_, _, rfl, hf, .inl ⟨rfl, hg, l, F, rfl, h1, h2⟩⟩
  · exact ⟨_, _, rfl, hf, .inr ⟨rfl, hg, rfl⟩⟩

theorem rrestored_ends {w w' : World} {ps : List Post} {e : Ending} (h : RRestored w w' ps e) : ∃ (a0 : Option Addr) (E : Int), e = .returned (.tuple #[.pointer a0, .int .i64 E]) ∧ Fr noBlock w w' ∧
    ((E = 0 ∧ Good ps ∧ ∃ l F, a0 = some ⟨l, 0, none⟩ ∧ RefAt w' l ps F ∧ ∀ k, F k → w.heap.size ≤ k) ∨ (E = 1 ∧ ¬ Good ps ∧ a0 = none)) := by
  obtain ⟨hf, ⟨hg, l, F, rfl, h1, h2⟩ | ⟨hg, rfl⟩⟩ := h
  · exact ⟨_, _, rfl, hf, .inl ⟨rfl, hg, l, F, rfl, h1, h2⟩⟩
  · exact ⟨_, _, rfl, hf, .inr ⟨rfl, hg, rfl⟩⟩

theorem both_new {w0 w5 w6 w7 : World} {l m : Nat} {F G : Nat → Prop} (hb : Below w0.heap.size w0 w5) (h1 : LedAt w6 l [] F) (f1 : Fr noBlock w5 w6) (n1 : ∀ k, F k → w5.heap.size ≤ k) (h2 : RefAt w7 m [] G) (f2 : Fr noBlock w6 w7) (n2 : ∀ k, G k → w6.heap.size ≤ k) :
    Both w0 w7 l m [] [] F G := by
  have s1 := hb.size
  have s2 := f1.size
  exact ⟨h1.fr f2 (fun _ _ x => x), h2, fun k hk hg => by have := h1.lt k hk; have := n2 k hg; omega, fun k hk => by have := n1 k hk; omega, fun k hk => by have := n2 k hk; omega,
    (hb.trans (f1.below hb.size (fun _ hk => hk.elim))).trans (f2.below (by omega) (fun _ hk => hk.elim))⟩
theorem both_kept {w0 w2 w3 w4 wr w5 : World} {l m : Nat} {ps : List Post} {S F G : Nat → Prop} (hb : Below w0.heap.size w0 w5) (hw2 : w0.heap.size ≤ w2.heap.size) (h1 : LedAt w3 l ps F) (n1 : ∀ k, F k → w2.heap.size ≤ k) (f4 : Fr noBlock w3 w4) (hf : Fr S w4 wr) (hS : ∀ k, S k → k < w2.heap.size)
    (hs4 : w0.heap.size ≤ wr.heap.size) (f5 : Fr noBlock wr w5) (h2 : RefAt w5 m ps G) (n2 : ∀ k, G k → wr.heap.size ≤ k) : Both w0 w5 l m ps ps F G := by
  have hr := (h1.fr f4 (fun _ _ x => x)).fr hf (fun k hk hs => by have := n1 k hk; have := hS k hs; omega)
  exact ⟨hr.fr f5 (fun _ _ x => x), h2, fun k hk hg => by have := hr.lt k hk; have := n2 k hg; omega, fun k hk => by have := n1 k hk; omega, fun k hk => by have := n2 k hk; omega, hb⟩

set_option maxRecDepth 100000 in
set_option maxHeartbeats 2000000 in
theorem plays_walk (lo ao : Option Addr) (lc ac : Nat) (ps : List Post) (fresh : Bool) (xs : List Act) (w : World) (hp : PostsRd w lo ps) (hln : lo = none → ps = [] ∧ lc = 0) (hsz : ps.length * 48 ≤ 140737488351232) (ha : ActsAt w ao xs) :
    Calls Try.prog 6 #[.slice lo ps.length lc, .bool fresh, .slice ao xs.length ac] w fun e w' => e = .returned (.bool true) ∧ Below w.heap.size w w' := by
  have hlen := ha.len
  unfold maxLen at hlen
  have hpl := hp.len
  have hpk := hp.keys
  obtain ⟨i0, hi0, hz0, hz1, hz2⟩ := info_parts info_post
  have Hpk := Lib.hid hpk
  clear hpk
  go_enter Try.func6, Try.ntmps6
  go_wp2_with fail
  refine (small_any _).mono ?_
  rintro e w1 ⟨rfl, b1⟩
  go_upto_region 2 with fail
  go_cut [8] (fun s8 wx => ∃ vo cap, s8 = .slice vo ps.length cap ∧ PostsAt wx (.slice vo ps.length cap) ps ∧ Fr noBlock w1 wx ∧ ∀ k, (Value.slice vo ps.length cap).ownBlock = some k → w1.heap.size ≤ k)
  case first =>
    have f1 : Fr noBlock w w1 := Fr.of_below b1 |>.mono (fun _ x => x)
    have hp1 := hp.fr f1 (fun _ _ _ x => x)
    have Hp1 := Lib.hid hp1
    clear hp1 f1 ha hp b1
    cases lo with
    | some ad =>
      clear hln
      go_wp2_with (at_builtin; refine wpList_append_own_at (base := 0) (w := w1.alloc (.cells #[] 34)) rfl _ _ _ rfl 34 i0 _ 4 48 Try.underlying39 hi0 hz0 hz1 hz2 rfl (by decide) _ 0 [] rfl ?c1 ad ps.length lc (ps.flatMap Post.cells) rfl ?c2 ?c3 ?c4 ?c5 ?c6 ?c7 ?_)
      case c1 => exact World.ownsRow_made w1 #[] 0 (Nat.zero_le _) (Nat.zero_le _) (by simp)
      case c2 => exact flat_len ps
      case c3 =>
        intro j u hu
        have hc := Hp1.out.cells j u hu
        exact (World.cell?_alloc_lt _ _ _ (World.block_lt_of_cell? _ _ hc)).trans hc
      case c4 => exact flat_one ps
      case c5 => rw [Nat.zero_add]; exact hpl
      case c6 => omega
      case c7 => exact Nat.zero_le _
      intro v' w2 hown hgrow _ hat
      have hF : Fr noBlock w1 w2 := ((Fr.refl noBlock w1).alloc _).grown hgrow (by intro k hk; simp [Value.ownBlock] at hk; exact .inr (by omega))
      have hown' : PostsAt w2 v' ps := by simpa [PostsAt] using hown
      have hn : ∀ k, v'.ownBlock = some k → w1.heap.size ≤ k := by
        intro k hk
        rcases hat with hat | hat <;> (rw [hk] at hat; simp [Value.ownBlock] at hat; omega)
      obtain ⟨vo, vc, rfl⟩ := hown'.shape
      clear hown hgrow hat
      go_wp2_with fail
      go_meet
      exact ⟨vo, vc, rfl, hown', hF, hn⟩
    | none =>
      obtain ⟨rfl, rfl⟩ := hln rfl
      go_wp2_with fail
      go_meet
      refine ⟨some ⟨w1.heap.size, 0, none⟩, 0, rfl, World.ownsRow_made w1 #[] 0 (Nat.zero_le _) (Nat.zero_le _) (by simp), (Fr.refl _ _).alloc _, ?_⟩
      intro k hk
      simp [Value.ownBlock] at hk
      omega
  case rest =>
    obtain ⟨vo, vc, rfl, hv, f2, n2⟩ := hcut
    generalize wc = w2 at *
    have f2' := Lib.hid f2.size
    have hrd := hv.rd' hpl Hpk.out
    go_wp2_with fail
    refine (restore_any vo vc ps w2 hrd).mono ?_
    rintro e w3 hR
    obtain ⟨a0, E, rfl, f3, hA⟩ := restored_ends hR
    clear hR
    have f13 := f2.trans' f3
    have b3 : Below w.heap.size w w3 := b1.trans (f13.below b1.size (fun _ hk => hk.elim))
    have hp3 := hp.fr (Fr.of_below b3 |>.mono (fun _ x => x)) (fun _ _ _ x => x)
    have hv3 := hv.fr f3 (fun _ _ x => x)
    have hsame := same_rd vo lo vc lc ps ps w3 (hv3.rd' hpl Hpk.out) hp3 true (by simp)
    have Hs := Lib.hid hsame
    clear hsame hrd
    go_wp2_with fail
    refine Hs.out.mono ?_
    rintro e w4 ⟨rfl, f4⟩
    have hrow : (∃ g cur, vo = some ⟨g, 0, none⟩ ∧ w4.heap[g]? = some (.cells cur 34 (0, 0)) ∧ ps.length * 4 ≤ cur.size) ∨ ps.length = 0 := by
      rcases (hv3.fr f4 (fun _ _ x => x)).2 with ⟨_, h2⟩ | ⟨g, cap, cur, h1, _, hg, hcap, _, hsz, _⟩
      · exact .inr h2
      · simp only [Value.slice.injEq] at h1
        exact .inl ⟨g, cur, h1.1, hg, by rw [hsz]; exact Nat.mul_le_mul_right 4 hcap⟩
    have hown : ∀ k, (Value.slice vo ps.length vc).ownBlock = some k → w1.heap.size ≤ k ∧ k < w2.heap.size := fun k hk => ⟨n2 k hk, (hv.lt k hk).2⟩
    have Hown := Lib.hid hown
    have b4 := b3.trans (f4.below b3.size (fun _ hk => hk.elim))
    have Hp := Lib.hid hp
    clear hv hv3 hp3 n2 b3 hown Hs f2 hp f13
    go_wp2_with fail
    go_loopw [12] (fun s12 wr => ∃ k : Nat, k ≤ ps.length ∧ s12 = .int .i64 k ∧ Fr (fun i => (Value.slice vo ps.length vc).ownBlock = some i) w4 wr ∧ (k < ps.length → ∃ g cur, vo = some ⟨g, 0, none⟩ ∧ wr.heap[g]? = some (.cells cur 34 (0, 0)) ∧ ps.length * 4 ≤ cur.size)) (fun s12 _ => ps.length - (intOf s12).toNat)
    case atStart => exact ⟨0, Nat.zero_le _, rfl, Fr.refl _ _, fun hk => hrow.elim (fun h => h) (fun h => by omega)⟩
    case round =>
      clear hrow
      obtain ⟨k, hk, rfl, hf, hblk⟩ := hrel
      by_cases hlt : k < ps.length
      · obtain ⟨g, cur, rfl, hcur, hsz'⟩ := hblk hlt
        obtain ⟨x0, x1, x2, x3, y0, y1, y2, y3, yf⟩ := store_post hcur hsz' hlt
        have yf0 := yf (k * 4)
        have yf1 := yf (k * 4 + 1)
        have yf2 := yf (k * 4 + 2)
        have yf3 := yf (k * 4 + 3)
        have h1' : (k : Int) < (ps.length : Int) := by omega
        have hgl := heap_lt hcur
        have HF := Lib.hid (And.intro hf hcur)
        clear yf hf hcur
        go_wp2_with fail
        go_roundw
        case rel =>
          refine ⟨k + 1, by omega, by go_num, ?_, fun _ => ⟨g, _, rfl, heap_set_eq (heap_set_eq (heap_set_eq (heap_set_eq HF.out.2))), by simpa using hsz'⟩⟩
          have hS : (Value.slice (some ⟨g, 0, none⟩) ps.length vc).ownBlock = some g := rfl
          exact (((HF.out.1.setCell (p := ⟨g, k * 4, none⟩) (.inl hS) _).setCell (p := ⟨g, k * 4 + 1, none⟩) (.inl hS) _).setCell (p := ⟨g, k * 4 + 2, none⟩) (.inl hS) _).setCell (p := ⟨g, k * 4 + 3, none⟩) (.inl hS) _
        case measure => simp [intOf]; omega
      · have h1' : (ps.length : Int) ≤ (k : Int) := by omega
        clear hlt hblk
        have b5 : Below w.heap.size w wr := b4.trans (hf.below b4.size (fun i hi => Nat.le_trans b1.size (Hown.out i hi).1))
        have hp5 := Hp.out.fr (Fr.of_below b5 |>.mono (fun _ x => x)) (fun _ _ _ x => x)
        go_wp2_with fail
        refine (rrestore_any lo lc ps wr hp5).mono ?_
        rintro e w5 hR
        obtain ⟨m0, E2, rfl, f5, hB⟩ := rrestored_ends hR
        have b6 := b5.trans (f5.below b5.size (fun _ hk => hk.elim))
        obtain rfl : E2 = E := by
          rcases hA with ⟨h1, h2, _⟩ | ⟨h1, h2, _⟩ <;> rcases hB with ⟨g1, g2, _⟩ | ⟨g1, g2, _⟩
          · rw [h1, g1]
          · exact absurd h2 g2
          · exact absurd g2 h2
          · rw [h1, g1]
        clear hR
        have HA := Lib.hid (And.intro hA (And.intro hB (And.intro f3 (And.intro f4 (And.intro hf f5)))))
        have hnil : (a0.isNone == (E2 != 0)) = true := by
          rcases hA with ⟨h1, _, _, _, h2, _⟩ | ⟨h1, _, h2⟩ <;> rw [h1, h2] <;> rfl
        clear hA hB f3 f4 hf f5 hp5 b5 b4
        go_upto_region 12 with fail
        go_cut [75] (fun s75 wx => s75 = .bool (fresh || (E2 != 0)) ∧ wx = w5)
        case first =>
          cases fresh
          all_goals
            go_wp2_with fail
            go_meet
            exact ⟨rfl, rfl⟩
        case rest =>
          obtain ⟨rfl, rfl⟩ := hcut
          go_upto_if 75 with fail
          go_cut [9, 13] (fun s9 s13 wx => ∃ l m qs F G, s9 = .pointer (some ⟨l, 0, none⟩) ∧ s13 = .pointer (some ⟨m, 0, none⟩) ∧ Both w wx l m qs qs F G)
          case first =>
            cases hfr : (fresh || (E2 != 0))
            · simp only [Bool.or_eq_false_iff, bne_eq_false_iff_eq] at hfr
              obtain ⟨hfr1, hE0⟩ := hfr
              obtain ⟨hA, hB, f3, f4, hf, f5⟩ := HA.out
              have hbo : ∃ l m F G, a0 = some ⟨l, 0, none⟩ ∧ m0 = some ⟨m, 0, none⟩ ∧ Both w wc l m ps ps F G := by
                rcases hA with ⟨_, _, l, F, h1, h2, h3⟩ | ⟨h1, _⟩
                · rcases hB with ⟨_, _, m, G, g1, g2, g3⟩ | ⟨g1, _⟩
                  · have hs2 := Nat.le_trans b1.size f2'.out
                    exact ⟨l, m, F, G, h1, g1, both_kept b6 hs2 h2 h3 f4 hf (fun k hk => (Hown.out k hk).2) (Nat.le_trans hs2 (Nat.le_trans f3.size (Nat.le_trans f4.size hf.size))) f5 g2 g3⟩
                  · omega
                · omega
              obtain ⟨l, m, F, G, rfl, rfl, hb⟩ := hbo
              have Hb := Lib.hid hb
              clear hA hB f3 f4 hf f5 hb hnil hE0 hfr1 HA
              go_wp2_with fail
              go_meet
              exact ⟨l, m, ps, F, G, rfl, rfl, Hb.out⟩
            · clear hfr hnil HA
              go_wp2_with fail
              refine (new_at _).mono ?_
              rintro e w6 ⟨l, F, h1, rfl, g1, n1⟩
              go_wp2_with fail
              refine (rnew_at w6).mono ?_
              rintro e w7 ⟨m, G, h2, rfl, g2, n2⟩
              have Hb := Lib.hid (both_new b6 h1 g1 n1 h2 g2 n2)
              clear h1 g1 n1 h2 g2 n2
              go_wp2_with fail
              go_meet
              exact ⟨l, m, [], F, G, rfl, rfl, Hb.out⟩
          case rest =>
            obtain ⟨l, m, qs, F, G, rfl, rfl, hb⟩ := hcut
            have HB := Lib.hid hb
            clear hb HA hnil Hown Hp hsz hpl b6 hln
            go_wp2_with fail
            go_loopw [15] (fun s15 wr => ∃ (k : Nat) (qs : List Post), k ≤ xs.length ∧ s15 = .int .i64 k ∧ ∃ F G, Both w wr l m qs qs F G) (fun s15 _ => xs.length - (intOf s15).toNat)
            case atStart => exact ⟨0, qs, Nat.zero_le _, rfl, F, G, HB.out⟩
            case round =>
              clear HB
              obtain ⟨k, qs, hk1, rfl, F, G, hb⟩ := hrel
              by_cases hlt : k < xs.length ∧ k < 200
              · obtain ⟨h1, h200⟩ := hlt
                obtain ⟨b, off, rfl, hbl, ⟨c0, c1, c2, c3⟩, hks⟩ := (ha.below hb.below).at' k h1
                generalize xs[k] = a at *
                obtain ⟨op, akey, aans, amt⟩ := a
                simp only at c0 c1 c2 c3 hks
                have h1' : (k : Int) < (xs.length : Int) := by omega
                have h200' : (k : Int) < 200 := by omega
                have hg := hb.led.good
                have hbox := hb.fr ((Fr.refl noBlock wr).alloc (.cells #[.int .i64 op, .string akey, .string aans, .int .i64 amt] 27))
                have hbF : ¬ F wr.heap.size := fun hf => Nat.lt_irrefl _ (hb.led.lt _ hf)
                have hbG : ¬ G wr.heap.size := fun hf => Nat.lt_irrefl _ (hb.ref.lt _ hf)
                have Hb := Lib.hid hbox
                have Hg := Lib.hid hg
                have x1 : (wr.alloc (.cells #[.int .i64 op, .string akey, .string aans, .int .i64 amt] 27)).cell? ⟨wr.heap.size, 1, none⟩ = some (.string akey) := by simp
                have x2 : (wr.alloc (.cells #[.int .i64 op, .string akey, .string aans, .int .i64 amt] 27)).cell? ⟨wr.heap.size, 2, none⟩ = some (.string aans) := by simp
                have x3 : (wr.alloc (.cells #[.int .i64 op, .string akey, .string aans, .int .i64 amt] 27)).cell? ⟨wr.heap.size, 3, none⟩ = some (.int .i64 amt) := by simp
                have HX := Lib.hid (And.intro x1 (And.intro x2 x3))
                clear hb hg hbox x1 x2 x3
                go_upto_block 4 with fail
                go_cut [] (fun wx => ∃ qs F G, Both w wx l m qs qs F G)
                case first =>
                  by_cases o0 : (op == 0) = true
                  · go_wp2_with fail
                    go_region_held3 (fun x => x.cell? ⟨wr.heap.size, 1, none⟩ = some (.string akey) ∧ x.cell? ⟨wr.heap.size, 2, none⟩ = some (.string aans) ∧ x.cell? ⟨wr.heap.size, 3, none⟩ = some (.int .i64 amt))
                      (first
                        | (exact HX.out)
                        | (exact ⟨(hk2 1).trans ((hk1' 1).trans HX.out.1), (hk2 2).trans ((hk1' 2).trans HX.out.2.1), (hk2 3).trans ((hk1' 3).trans HX.out.2.2)⟩)
                        | (exact ⟨(hk1' 1).trans HX.out.1, (hk1' 2).trans HX.out.2.1, (hk1' 3).trans HX.out.2.2⟩))
                      (first
                        | (go_at_call 10; refine ((Hb.out.fr ((Fr.refl _ _).drew)).approve akey amt aans hks).mono ?_; rintro e w' ⟨F', rfl, g1, s1⟩; obtain ⟨hk1', hlt1, _⟩ := s1.keep (b := wr.heap.size) (by simp) hbF)
                        | (go_at_call 21; refine (g1.rapprove Hg.out akey amt aans).mono ?_; rintro e w'' ⟨G', rfl, g2, s2⟩; obtain ⟨hk2, _, _⟩ := s2.keep (b := wr.heap.size) hlt1 hbG))
                    go_wp2_with fail
                    go_meet
                    exact ⟨_, _, _, g2⟩
                  · have o0' : (op == 0) = false := by simpa using o0
                    clear o0
                    by_cases o1 : (op == 1) = true
                    · go_wp2_with fail
                      refine (Hb.out.reverse akey hks).mono ?_
                      rintro e w' ⟨F', rfl, g1, s1⟩
                      obtain ⟨hk1', hlt1, _⟩ := s1.keep (b := wr.heap.size) (by simp) hbF
                      have y1 := (hk1' 1).trans HX.out.1
                      clear hk1' s1
                      have Hg1 := Lib.hid g1
                      clear g1
                      go_wp2_with fail
                      refine (Hg1.out.rreverse Hg.out akey).mono ?_
                      rintro e w'' ⟨G', rfl, g2, s2⟩
                      clear s2
                      go_wp2_with fail
                      go_meet
                      exact ⟨_, _, _, g2⟩
                    · have o1' : (op == 1) = false := by simpa using o1
                      clear o1
                      by_cases o2 : (op == 2) = true
                      · generalize hpp : (askP qs akey).getD zeroPost = p
                        go_wp2_with fail
                        refine (Hb.out.ask akey hks).mono ?_
                        rintro e w' ⟨rfl, s1⟩
                        have y1 := (s1.cell (p := ⟨wr.heap.size, 1, none⟩) (by simp) (fun x => x)).trans HX.out.1
                        have hlt1 : wr.heap.size < w'.heap.size := Nat.lt_of_lt_of_le (by simp) s1.size
                        have Hb1 := Lib.hid (Hb.out.fr s1)
                        rw [hpp]
                        obtain ⟨pk, pa, pst, pan⟩ := p
                        have hra := (Hb1.out.fr ((Fr.refl noBlock w').alloc (.cells #[.string pk, .int .i64 pa, .int .i64 pst, .string pan] 34))).rask Hg.out akey
                        rw [hpp] at hra
                        simp only [Post.val] at hra ⊢
                        have Hra := Lib.hid hra
                        clear hra hpp s1
                        generalize (askP qs akey).isSome = is at *
                        go_wp2_with fail
                        refine Hra.out.mono ?_
                        rintro e w'' ⟨rfl, s2⟩
                        have z0 := (s2.cell (p := ⟨w'.heap.size, 0, none⟩) (by simp) (fun x => x)).trans (show _ = some (Value.string pk) by simp)
                        have z1 := (s2.cell (p := ⟨w'.heap.size, 1, none⟩) (by simp) (fun x => x)).trans (show _ = some (Value.int .i64 pa) by simp)
                        have z2 := (s2.cell (p := ⟨w'.heap.size, 2, none⟩) (by simp) (fun x => x)).trans (show _ = some (Value.int .i64 pst) by simp)
                        have z3 := (s2.cell (p := ⟨w'.heap.size, 3, none⟩) (by simp) (fun x => x)).trans (show _ = some (Value.string pan) by simp)
                        have hlt2 : w'.heap.size < w''.heap.size := Nat.lt_of_lt_of_le (by simp) s2.size
                        have Hb2 := Lib.hid ((Hb1.out.fr ((Fr.refl noBlock w').alloc (.cells #[.string pk, .int .i64 pa, .int .i64 pst, .string pan] 34))).fr s2)
                        clear s2
                        go_wp2_with fail
                        go_meet
                        exact ⟨_, _, _, Hb2.out.fr ((Fr.refl _ _).alloc _)⟩
                      · have o2' : (op == 2) = false := by simpa using o2
                        clear o2
                        by_cases o3 : (op == 3) = true
                        · go_wp2_with fail
                          refine (Hb.out.close).mono ?_
                          rintro e w' ⟨F', rfl, g1, s1⟩
                          clear s1
                          have Hg1 := Lib.hid g1
                          clear g1
                          go_wp2_with fail
                          refine (Hg1.out.rclose Hg.out).mono ?_
                          rintro e w'' ⟨G', rfl, g2, s2⟩
                          clear s2
                          go_wp2_with fail
                          go_meet
                          exact ⟨_, _, _, g2⟩
                        · have o3' : (op == 3) = false := by simpa using o3
                          clear o3
                          go_wp2_with fail
                          go_meet
                          exact ⟨_, _, _, Hb.out⟩
                case rest =>
                  obtain ⟨qs', F', G', hb'⟩ := hcut
                  have Hb' := Lib.hid hb'
                  clear hb' Hb Hg HX
                  go_wp2_with fail
                  refine Hb'.out.tell.mono ?_
                  rintro e w8 ⟨rfl, f8⟩
                  have Hb8 := Lib.hid (Hb'.out.fr f8)
                  go_wp2_with fail
                  go_roundw
                  case rel => exact ⟨k + 1, qs', by omega, by go_num, F', G', Hb8.out⟩
                  case measure => simp [intOf]; omega
              · have hex : (k : Int) ≥ (xs.length : Int) ∨ ((k : Int) < (xs.length : Int) ∧ (k : Int) ≥ 200) := by omega
                clear hlt
                rcases hex with hex | ⟨hex, hex2⟩
                all_goals
                  go_wp2_with fail
                  refine hb.tell.mono ?_
                  rintro e w8 ⟨rfl, f8⟩
                  go_wp2_with fail
                  go_ret
                  exact ⟨rfl, (hb.fr f8).below⟩
end Go.Proofs.Ytfmcfkfhmncaiaa
