/-
  THE WALK of the law LedgerCounts.
-/
import Derived.Test.YtfmcfkfhmncaiaaLgDo
import Derived.Test.YtfmcfkfhmncaiaaLgPosts
import Derived.Deep.QuietTactic
import Derived.BigQuiet
namespace Go.Proofs.Ytfmcfkfhmncaiaa
open Go.RowKit

theorem ask_own {ps : List Post} (hg : Good ps) {k : Nat} (hk : k < ps.length) : askP ps ps[k].key = some ps[k] := by
  cases h : askP ps ps[k].key with
  | none =>
    have h2 : ∀ p ∈ ps, p.key ≠ ps[k].key := by simpa [askP] using h
    exact absurd rfl (h2 _ (List.getElem_mem hk))
  | some p =>
    obtain ⟨h1, h2⟩ := askP_key h
    obtain ⟨j, hj, rfl⟩ := List.getElem_of_mem h2
    have hkeys := List.pairwise_iff_getElem.1 hg.keys
    have hl : (ps.map Post.key).length = ps.length := by simp
    rcases Nat.lt_trichotomy j k with hlt | he | hlt
    · exact absurd (by rw [List.getElem_map, List.getElem_map]; exact h1) (hkeys j k (by omega) (by omega) hlt)
    · subst he; rfl
    · exact absurd (by rw [List.getElem_map, List.getElem_map]; exact h1.symm) (hkeys k j (by omega) (by omega) hlt)
theorem len_doL (ps : List Post) (a : Act) : (doL ps a).length = if a.op = 0 then (if doE ps a = 0 then ps.length + 1 else ps.length) else if a.op = 3 then 0 else ps.length := by
  unfold doL doE
  by_cases h0 : a.op = 0
  · rw [if_pos h0, if_pos h0, if_pos h0]
    unfold addL
    split <;> simp
  · rw [if_neg h0, if_neg h0]
    by_cases h1 : a.op = 1
    · have h3 : ¬ a.op = 3 := by omega
      rw [if_pos h1, if_neg h3]
      unfold revL
      split <;> simp
    · rw [if_neg h1]
      split <;> simp
theorem good_doL {ps : List Post} (hg : Good ps) (a : Act) : Good (doL ps a) := by
  unfold doL
  split
  · unfold addL
    split
    · rename_i h; exact good_snoc hg h
    · exact hg
  · split
    · by_cases h : revE ps a.key = 0
      · obtain ⟨k, hk, _, _, hs, _, hl⟩ := revE_zero h
        rw [hl]
        exact good_rev hg hk hs
      · rw [revL_no h]; exact hg
    · split
      · exact ⟨by simp, by simp, by simp, by simp [sumA]⟩
      · exact hg
theorem full_len {ps : List Post} (hg : Good ps) {a : Act} (h0 : a.op = 0) (h : doE ps a = 14) : ps.length = 24 := by
  unfold doE at h
  rw [if_pos h0] at h
  unfold addE at h
  have := hg.len
  by_cases h1 : a.post.may = false
  · simp [h1] at h
  rw [if_neg h1] at h
  by_cases h2 : (posOf ps a.post.key).isSome
  · simp [h2] at h
  rw [if_neg h2] at h
  by_cases h3 : 24 ≤ ps.length
  · omega
  rw [if_neg h3] at h
  split at h <;> simp at h

set_option maxRecDepth 100000 in
set_option maxHeartbeats 2000000 in
theorem counts_walk (ao : Option Addr) (cap : Nat) (xs : List Act) (w : World) (ha : ActsAt w ao xs) :
    Calls Try.prog 4 #[.slice ao xs.length cap] w fun e w' => e = .returned (.bool true) ∧ Below w.heap.size w w' := by
  have hlen := ha.len
  unfold maxLen at hlen
  go_enter Try.func4, Try.ntmps4
  go_wp2_with fail
  refine (small_any _).mono ?_
  rintro e w1 ⟨rfl, b1⟩
  go_wp2_with fail
  refine (Mine.new (w0 := w) b1).mono ?_
  rintro e w2 ⟨l, F2, rfl, h2, _, _⟩
  clear b1
  go_wp2_with fail
  go_loopw [5, 6] (fun s5 s6 wr => ∃ (k : Nat) (ps : List Post), k ≤ xs.length ∧ s6 = .int .i64 k ∧ s5 = .int .i64 ps.length ∧ (∃ F, Mine w wr l ps F)) (fun _ s6 _ => xs.length - (intOf s6).toNat)
  case atStart => exact ⟨0, [], Nat.zero_le _, rfl, rfl, ⟨F2, h2⟩⟩
  case round =>
    obtain ⟨k, ps, hk1, rfl, rfl, F, hm⟩ := hrel
    by_cases hlt : k < xs.length ∧ k < 150
    · obtain ⟨h1, h150⟩ := hlt
      obtain ⟨b, off, rfl, hb, ⟨c0, c1, c2, c3⟩, hks⟩ := (ha.below hm.below).at' k h1
      have hdo := hm.act xs[k] hks
      have hld := len_doL ps xs[k]
      have hfl : xs[k].op = 0 → doE ps xs[k] = 14 → ps.length = 24 := fun h0 h => full_len hm.good h0 h
      generalize xs[k] = a at *
      have h1' : (k : Int) < (xs.length : Int) := by omega
      have h150' : (k : Int) < 150 := by omega
      obtain ⟨op, akey, aans, amt⟩ := a
      simp only at c0 c1 c2 c3 hks hfl hld
      unfold Act.val at hdo
      simp only at hdo
      have hbn : ¬ F b := fun hf => by have := hm.base b hf; have := ha.blk h1; omega
      have Hd := Lib.hid hdo
      have hg' := good_doL hm.good ⟨op, akey, aans, amt⟩
      have hl24 := hg'.len
      have hx : (((op == 0) = true ∧ (op == 3) = false) ∧ doE ps ⟨op, akey, aans, amt⟩ = 0 ∧ Hid ((ps.length : Int) + 1 = ((doL ps ⟨op, akey, aans, amt⟩).length : Int))) ∨
          (((op == 0) = true ∧ (op == 3) = false) ∧ doE ps ⟨op, akey, aans, amt⟩ = 14 ∧ Hid ((ps.length : Int) = ((doL ps ⟨op, akey, aans, amt⟩).length : Int)) ∧ ((ps.length : Int) != 24) = false) ∨
          (((op == 0) = true ∧ (op == 3) = false) ∧ ((doE ps ⟨op, akey, aans, amt⟩ == 0) = false ∧ (doE ps ⟨op, akey, aans, amt⟩ == 14) = false) ∧ Hid ((ps.length : Int) = ((doL ps ⟨op, akey, aans, amt⟩).length : Int))) ∨
          (((op == 0) = false ∧ (op == 3) = true) ∧ Hid ((0 : Int) = ((doL ps ⟨op, akey, aans, amt⟩).length : Int))) ∨
          (((op == 0) = false ∧ (op == 3) = false) ∧ Hid ((ps.length : Int) = ((doL ps ⟨op, akey, aans, amt⟩).length : Int))) := by
        by_cases e0 : op = 0
        · have e3 : ¬ op = 3 := by omega
          rw [if_pos e0] at hld
          by_cases d0 : doE ps ⟨op, akey, aans, amt⟩ = 0
          · rw [if_pos d0] at hld
            exact .inl ⟨⟨by simpa using e0, by simpa using e3⟩, d0, Lib.hid (by rw [hld]; rfl)⟩
          · rw [if_neg d0] at hld
            by_cases d14 : doE ps ⟨op, akey, aans, amt⟩ = 14
            · exact .inr (.inl ⟨⟨by simpa using e0, by simpa using e3⟩, d14, Lib.hid (by rw [hld]), by have := hfl e0 d14; simp; omega⟩)
            · exact .inr (.inr (.inl ⟨⟨by simpa using e0, by simpa using e3⟩, ⟨by simpa using d0, by simpa using d14⟩, Lib.hid (by rw [hld])⟩))
        · rw [if_neg e0] at hld
          by_cases e3 : op = 3
          · rw [if_pos e3] at hld
            exact .inr (.inr (.inr (.inl ⟨⟨by simpa using e0, by simpa using e3⟩, Lib.hid (by rw [hld]; rfl)⟩)))
          · rw [if_neg e3] at hld
            exact .inr (.inr (.inr (.inr ⟨⟨by simpa using e0, by simpa using e3⟩, Lib.hid (by rw [hld])⟩)))
      clear hdo hld hfl hl24
      generalize doE ps ⟨op, akey, aans, amt⟩ = dE at *
      generalize doN ps ⟨op, akey, aans, amt⟩ = dN at *
      generalize hqs : doL ps ⟨op, akey, aans, amt⟩ = qs at *
      clear hqs
      have hq24 : (qs.length : Int) ≤ 24 := by have := hg'.len; omega
      rcases hx with ⟨⟨y1, y2⟩, y3, hn⟩ | ⟨⟨y1, y2⟩, y3, hn, y4⟩ | ⟨⟨y1, y2⟩, ⟨y3, y4⟩, hn⟩ | ⟨⟨y1, y2⟩, hn⟩ | ⟨⟨y1, y2⟩, hn⟩
      · subst y3
        have t1 : ((qs.length : Int) != (ps.length : Int) + 1) = false := by rw [bne_eq_false_iff_eq]; exact hn.out.symm
        have t2 : (ps.length : Int) + 1 ≤ 24 := by have := hn.out; omega
        go_wp2_with fail
        refine Hd.out.mono ?_
        rintro e w' ⟨F', rfl, g1, gs⟩
        obtain ⟨hk', hb', _⟩ := gs.keep hb hbn
        have d0 := (hk' _).trans c0
        clear hk'
        go_wp2_with fail
        refine g1.list.mono ?_
        rintro e w'' ⟨v, rfl, g2, gp, gf, gr⟩
        have d1 := (gr.cell (p := ⟨b, off + k * 4, none⟩) hb' (fun x => x)).trans d0
        have hfr : ∀ (wq : World), Fr noBlock w'' wq → wq.cell? ⟨b, off + k * 4, none⟩ = some (.int .i64 op) := fun wq hq => (hq.cell (p := ⟨b, off + k * 4, none⟩) (Nat.lt_of_lt_of_le hb' gr.size) (fun x => x)).trans d1
        have Hfr := Lib.hid hfr
        clear d0 hfr c0 c1 c2 c3 gs hb'
        obtain ⟨vo, vc, rfl⟩ := gp.shape
        go_wp2_with fail
        go_loopw [10] (fun s10 wq => ∃ j : Nat, j ≤ qs.length ∧ s10 = .int .i64 j ∧ Mine w wq l qs F' ∧ Fr noBlock w'' wq) (fun s10 _ => qs.length - (intOf s10).toNat)
        case atStart => exact ⟨0, Nat.zero_le _, rfl, g2, Fr.refl _ _⟩
        case round =>
          obtain ⟨j, hj, rfl, hmq, hfq⟩ := hrel
          by_cases hjl : j < qs.length
          · obtain ⟨g, rfl, hgl, hcap, p0, p1, p2, p3⟩ := (gp.fr hfq (fun _ _ x => x)).post hjl
            have hask := ask_own hg' hjl
            have hmay := hg'.may _ (List.getElem_mem hjl)
            generalize qs[j] = p at *
            have hks : p.key.size ≤ maxLen := by
              simp only [Post.may, Bool.and_eq_true, decide_eq_true_eq] at hmay
              unfold maxLen; omega
            have hA := hmq.ask p.key hks (p := p) (b := true) (by rw [hask]; rfl) (by rw [hask]; rfl)
            have HA := Lib.hid hA
            clear hA hask hmay hks
            have hj1 : (j : Int) < (qs.length : Int) := by omega
            obtain ⟨pk, pa, pst, pan⟩ := p
            simp only [Post.val] at p0 p1 p2 p3 HA
            go_wp2_with fail
            refine HA.out.mono ?_
            rintro e w3 ⟨rfl, g3, gr3⟩
            have hg3 := Nat.lt_of_lt_of_le hgl gr3.size
            have q0 := (gr3.cell (p := ⟨g, j * 4, none⟩) hgl (fun x => x)).trans p0
            have q1 := (gr3.cell (p := ⟨g, j * 4 + 1, none⟩) hgl (fun x => x)).trans p1
            have q2 := (gr3.cell (p := ⟨g, j * 4 + 2, none⟩) hgl (fun x => x)).trans p2
            have q3 := (gr3.cell (p := ⟨g, j * 4 + 3, none⟩) hgl (fun x => x)).trans p3
            clear p0 p1 p2 p3
            go_wp2_with fail
            go_quiet (fail)
            go_wp2_with fail
            go_roundw
            case rel => exact ⟨j + 1, by omega, by go_num, (g3.alloc _).drewN _, ((hfq.trans' gr3).alloc _).drewN _⟩
            case measure => simp [intOf]; omega
          · have hj1 : (qs.length : Int) ≤ (j : Int) := by omega
            go_wp2_with fail
            go_roundw
            case rel => exact ⟨k + 1, qs, by omega, by go_num, congrArg (Value.int .i64) hn.out, ⟨F', hmq⟩⟩
            case measure => simp [intOf]; omega
      · subst y3
        have t1 : ((qs.length : Int) != (ps.length : Int)) = false := by rw [bne_eq_false_iff_eq]; exact hn.out.symm
        have t2 : (ps.length : Int) ≤ 24 := by have := hn.out; omega
        go_wp2_with fail
        refine Hd.out.mono ?_
        rintro e w' ⟨F', rfl, g1, gs⟩
        obtain ⟨hk', hb', _⟩ := gs.keep hb hbn
        have d0 := (hk' _).trans c0
        clear hk'
        go_wp2_with fail
        refine g1.list.mono ?_
        rintro e w'' ⟨v, rfl, g2, gp, gf, gr⟩
        have d1 := (gr.cell (p := ⟨b, off + k * 4, none⟩) hb' (fun x => x)).trans d0
        have hfr : ∀ (wq : World), Fr noBlock w'' wq → wq.cell? ⟨b, off + k * 4, none⟩ = some (.int .i64 op) := fun wq hq => (hq.cell (p := ⟨b, off + k * 4, none⟩) (Nat.lt_of_lt_of_le hb' gr.size) (fun x => x)).trans d1
        have Hfr := Lib.hid hfr
        clear d0 hfr c0 c1 c2 c3 gs hb'
        obtain ⟨vo, vc, rfl⟩ := gp.shape
        go_wp2_with fail
        go_loopw [10] (fun s10 wq => ∃ j : Nat, j ≤ qs.length ∧ s10 = .int .i64 j ∧ Mine w wq l qs F' ∧ Fr noBlock w'' wq) (fun s10 _ => qs.length - (intOf s10).toNat)
        case atStart => exact ⟨0, Nat.zero_le _, rfl, g2, Fr.refl _ _⟩
        case round =>
          obtain ⟨j, hj, rfl, hmq, hfq⟩ := hrel
          by_cases hjl : j < qs.length
          · obtain ⟨g, rfl, hgl, hcap, p0, p1, p2, p3⟩ := (gp.fr hfq (fun _ _ x => x)).post hjl
            have hask := ask_own hg' hjl
            have hmay := hg'.may _ (List.getElem_mem hjl)
            generalize qs[j] = p at *
            have hks : p.key.size ≤ maxLen := by
              simp only [Post.may, Bool.and_eq_true, decide_eq_true_eq] at hmay
              unfold maxLen; omega
            have hA := hmq.ask p.key hks (p := p) (b := true) (by rw [hask]; rfl) (by rw [hask]; rfl)
            have HA := Lib.hid hA
            clear hA hask hmay hks
            have hj1 : (j : Int) < (qs.length : Int) := by omega
            obtain ⟨pk, pa, pst, pan⟩ := p
            simp only [Post.val] at p0 p1 p2 p3 HA
            go_wp2_with fail
            refine HA.out.mono ?_
            rintro e w3 ⟨rfl, g3, gr3⟩
            have hg3 := Nat.lt_of_lt_of_le hgl gr3.size
            have q0 := (gr3.cell (p := ⟨g, j * 4, none⟩) hgl (fun x => x)).trans p0
            have q1 := (gr3.cell (p := ⟨g, j * 4 + 1, none⟩) hgl (fun x => x)).trans p1
            have q2 := (gr3.cell (p := ⟨g, j * 4 + 2, none⟩) hgl (fun x => x)).trans p2
            have q3 := (gr3.cell (p := ⟨g, j * 4 + 3, none⟩) hgl (fun x => x)).trans p3
            clear p0 p1 p2 p3
            go_wp2_with fail
            go_quiet (fail)
            go_wp2_with fail
            go_roundw
            case rel => exact ⟨j + 1, by omega, by go_num, (g3.alloc _).drewN _, ((hfq.trans' gr3).alloc _).drewN _⟩
            case measure => simp [intOf]; omega
          · have hj1 : (qs.length : Int) ≤ (j : Int) := by omega
            go_wp2_with fail
            go_roundw
            case rel => exact ⟨k + 1, qs, by omega, by go_num, congrArg (Value.int .i64) hn.out, ⟨F', hmq⟩⟩
            case measure => simp [intOf]; omega
      · have t1 : ((qs.length : Int) != (ps.length : Int)) = false := by rw [bne_eq_false_iff_eq]; exact hn.out.symm
        have t2 : (ps.length : Int) ≤ 24 := by have := hn.out; omega
        go_wp2_with fail
        refine Hd.out.mono ?_
        rintro e w' ⟨F', rfl, g1, gs⟩
        obtain ⟨hk', hb', _⟩ := gs.keep hb hbn
        have d0 := (hk' _).trans c0
        clear hk'
        go_wp2_with fail
        refine g1.list.mono ?_
        rintro e w'' ⟨v, rfl, g2, gp, gf, gr⟩
        have d1 := (gr.cell (p := ⟨b, off + k * 4, none⟩) hb' (fun x => x)).trans d0
        have hfr : ∀ (wq : World), Fr noBlock w'' wq → wq.cell? ⟨b, off + k * 4, none⟩ = some (.int .i64 op) := fun wq hq => (hq.cell (p := ⟨b, off + k * 4, none⟩) (Nat.lt_of_lt_of_le hb' gr.size) (fun x => x)).trans d1
        have Hfr := Lib.hid hfr
        clear d0 hfr c0 c1 c2 c3 gs hb'
        obtain ⟨vo, vc, rfl⟩ := gp.shape
        go_wp2_with fail
        go_loopw [10] (fun s10 wq => ∃ j : Nat, j ≤ qs.length ∧ s10 = .int .i64 j ∧ Mine w wq l qs F' ∧ Fr noBlock w'' wq) (fun s10 _ => qs.length - (intOf s10).toNat)
        case atStart => exact ⟨0, Nat.zero_le _, rfl, g2, Fr.refl _ _⟩
        case round =>
          obtain ⟨j, hj, rfl, hmq, hfq⟩ := hrel
          by_cases hjl : j < qs.length
          · obtain ⟨g, rfl, hgl, hcap, p0, p1, p2, p3⟩ := (gp.fr hfq (fun _ _ x => x)).post hjl
            have hask := ask_own hg' hjl
            have hmay := hg'.may _ (List.getElem_mem hjl)
            generalize qs[j] = p at *
            have hks : p.key.size ≤ maxLen := by
              simp only [Post.may, Bool.and_eq_true, decide_eq_true_eq] at hmay
              unfold maxLen; omega
            have hA := hmq.ask p.key hks (p := p) (b := true) (by rw [hask]; rfl) (by rw [hask]; rfl)
            have HA := Lib.hid hA
            clear hA hask hmay hks
            have hj1 : (j : Int) < (qs.length : Int) := by omega
            obtain ⟨pk, pa, pst, pan⟩ := p
            simp only [Post.val] at p0 p1 p2 p3 HA
            go_wp2_with fail
            refine HA.out.mono ?_
            rintro e w3 ⟨rfl, g3, gr3⟩
            have hg3 := Nat.lt_of_lt_of_le hgl gr3.size
            have q0 := (gr3.cell (p := ⟨g, j * 4, none⟩) hgl (fun x => x)).trans p0
            have q1 := (gr3.cell (p := ⟨g, j * 4 + 1, none⟩) hgl (fun x => x)).trans p1
            have q2 := (gr3.cell (p := ⟨g, j * 4 + 2, none⟩) hgl (fun x => x)).trans p2
            have q3 := (gr3.cell (p := ⟨g, j * 4 + 3, none⟩) hgl (fun x => x)).trans p3
            clear p0 p1 p2 p3
            go_wp2_with fail
            go_quiet (fail)
            go_wp2_with fail
            go_roundw
            case rel => exact ⟨j + 1, by omega, by go_num, (g3.alloc _).drewN _, ((hfq.trans' gr3).alloc _).drewN _⟩
            case measure => simp [intOf]; omega
          · have hj1 : (qs.length : Int) ≤ (j : Int) := by omega
            go_wp2_with fail
            go_roundw
            case rel => exact ⟨k + 1, qs, by omega, by go_num, congrArg (Value.int .i64) hn.out, ⟨F', hmq⟩⟩
            case measure => simp [intOf]; omega
      · have t1 : ((qs.length : Int) != (0 : Int)) = false := by rw [bne_eq_false_iff_eq]; exact hn.out.symm
        have t2 : (0 : Int) ≤ 24 := by have := hn.out; omega
        go_wp2_with fail
        refine Hd.out.mono ?_
        rintro e w' ⟨F', rfl, g1, gs⟩
        obtain ⟨hk', hb', _⟩ := gs.keep hb hbn
        have d0 := (hk' _).trans c0
        clear hk'
        go_wp2_with fail
        refine g1.list.mono ?_
        rintro e w'' ⟨v, rfl, g2, gp, gf, gr⟩
        have d1 := (gr.cell (p := ⟨b, off + k * 4, none⟩) hb' (fun x => x)).trans d0
        have hfr : ∀ (wq : World), Fr noBlock w'' wq → wq.cell? ⟨b, off + k * 4, none⟩ = some (.int .i64 op) := fun wq hq => (hq.cell (p := ⟨b, off + k * 4, none⟩) (Nat.lt_of_lt_of_le hb' gr.size) (fun x => x)).trans d1
        have Hfr := Lib.hid hfr
        clear d0 hfr c0 c1 c2 c3 gs hb'
        obtain ⟨vo, vc, rfl⟩ := gp.shape
        go_wp2_with fail
        go_loopw [10] (fun s10 wq => ∃ j : Nat, j ≤ qs.length ∧ s10 = .int .i64 j ∧ Mine w wq l qs F' ∧ Fr noBlock w'' wq) (fun s10 _ => qs.length - (intOf s10).toNat)
        case atStart => exact ⟨0, Nat.zero_le _, rfl, g2, Fr.refl _ _⟩
        case round =>
          obtain ⟨j, hj, rfl, hmq, hfq⟩ := hrel
          by_cases hjl : j < qs.length
          · obtain ⟨g, rfl, hgl, hcap, p0, p1, p2, p3⟩ := (gp.fr hfq (fun _ _ x => x)).post hjl
            have hask := ask_own hg' hjl
            have hmay := hg'.may _ (List.getElem_mem hjl)
            generalize qs[j] = p at *
            have hks : p.key.size ≤ maxLen := by
              simp only [Post.may, Bool.and_eq_true, decide_eq_true_eq] at hmay
              unfold maxLen; omega
            have hA := hmq.ask p.key hks (p := p) (b := true) (by rw [hask]; rfl) (by rw [hask]; rfl)
            have HA := Lib.hid hA
            clear hA hask hmay hks
            have hj1 : (j : Int) < (qs.length : Int) := by omega
            obtain ⟨pk, pa, pst, pan⟩ := p
            simp only [Post.val] at p0 p1 p2 p3 HA
            go_wp2_with fail
            refine HA.out.mono ?_
            rintro e w3 ⟨rfl, g3, gr3⟩
            have hg3 := Nat.lt_of_lt_of_le hgl gr3.size
            have q0 := (gr3.cell (p := ⟨g, j * 4, none⟩) hgl (fun x => x)).trans p0
            have q1 := (gr3.cell (p := ⟨g, j * 4 + 1, none⟩) hgl (fun x => x)).trans p1
            have q2 := (gr3.cell (p := ⟨g, j * 4 + 2, none⟩) hgl (fun x => x)).trans p2
            have q3 := (gr3.cell (p := ⟨g, j * 4 + 3, none⟩) hgl (fun x => x)).trans p3
            clear p0 p1 p2 p3
            go_wp2_with fail
            go_quiet (fail)
            go_wp2_with fail
            go_roundw
            case rel => exact ⟨j + 1, by omega, by go_num, (g3.alloc _).drewN _, ((hfq.trans' gr3).alloc _).drewN _⟩
            case measure => simp [intOf]; omega
          · have hj1 : (qs.length : Int) ≤ (j : Int) := by omega
            go_wp2_with fail
            go_roundw
            case rel => exact ⟨k + 1, qs, by omega, by go_num, congrArg (Value.int .i64) hn.out, ⟨F', hmq⟩⟩
            case measure => simp [intOf]; omega
      · have t1 : ((qs.length : Int) != (ps.length : Int)) = false := by rw [bne_eq_false_iff_eq]; exact hn.out.symm
        have t2 : (ps.length : Int) ≤ 24 := by have := hn.out; omega
        go_wp2_with fail
        refine Hd.out.mono ?_
        rintro e w' ⟨F', rfl, g1, gs⟩
        obtain ⟨hk', hb', _⟩ := gs.keep hb hbn
        have d0 := (hk' _).trans c0
        clear hk'
        go_wp2_with fail
        refine g1.list.mono ?_
        rintro e w'' ⟨v, rfl, g2, gp, gf, gr⟩
        have d1 := (gr.cell (p := ⟨b, off + k * 4, none⟩) hb' (fun x => x)).trans d0
        have hfr : ∀ (wq : World), Fr noBlock w'' wq → wq.cell? ⟨b, off + k * 4, none⟩ = some (.int .i64 op) := fun wq hq => (hq.cell (p := ⟨b, off + k * 4, none⟩) (Nat.lt_of_lt_of_le hb' gr.size) (fun x => x)).trans d1
        have Hfr := Lib.hid hfr
        clear d0 hfr c0 c1 c2 c3 gs hb'
        obtain ⟨vo, vc, rfl⟩ := gp.shape
        go_wp2_with fail
        go_loopw [10] (fun s10 wq => ∃ j : Nat, j ≤ qs.length ∧ s10 = .int .i64 j ∧ Mine w wq l qs F' ∧ Fr noBlock w'' wq) (fun s10 _ => qs.length - (intOf s10).toNat)
        case atStart => exact ⟨0, Nat.zero_le _, rfl, g2, Fr.refl _ _⟩
        case round =>
          obtain ⟨j, hj, rfl, hmq, hfq⟩ := hrel
          by_cases hjl : j < qs.length
          · obtain ⟨g, rfl, hgl, hcap, p0, p1, p2, p3⟩ := (gp.fr hfq (fun _ _ x => x)).post hjl
            have hask := ask_own hg' hjl
            have hmay := hg'.may _ (List.getElem_mem hjl)
            generalize qs[j] = p at *
            have hks : p.key.size ≤ maxLen := by
              simp only [Post.may, Bool.and_eq_true, decide_eq_true_eq] at hmay
              unfold maxLen; omega
            have hA := hmq.ask p.key hks (p := p) (b := true) (by rw [hask]; rfl) (by rw [hask]; rfl)
            have HA := Lib.hid hA
            clear hA hask hmay hks
            have hj1 : (j : Int) < (qs.length : Int) := by omega
            obtain ⟨pk, pa, pst, pan⟩ := p
            simp only [Post.val] at p0 p1 p2 p3 HA
            go_wp2_with fail
            refine HA.out.mono ?_
            rintro e w3 ⟨rfl, g3, gr3⟩
            have hg3 := Nat.lt_of_lt_of_le hgl gr3.size
            have q0 := (gr3.cell (p := ⟨g, j * 4, none⟩) hgl (fun x => x)).trans p0
            have q1 := (gr3.cell (p := ⟨g, j * 4 + 1, none⟩) hgl (fun x => x)).trans p1
            have q2 := (gr3.cell (p := ⟨g, j * 4 + 2, none⟩) hgl (fun x => x)).trans p2
            have q3 := (gr3.cell (p := ⟨g, j * 4 + 3, none⟩) hgl (fun x => x)).trans p3
            clear p0 p1 p2 p3
            go_wp2_with fail
            go_quiet (fail)
            go_wp2_with fail
            go_roundw
            case rel => exact ⟨j + 1, by omega, by go_num, (g3.alloc _).drewN _, ((hfq.trans' gr3).alloc _).drewN _⟩
            case measure => simp [intOf]; omega
          · have hj1 : (qs.length : Int) ≤ (j : Int) := by omega
            go_wp2_with fail
            go_roundw
            case rel => exact ⟨k + 1, qs, by omega, by go_num, congrArg (Value.int .i64) hn.out, ⟨F', hmq⟩⟩
            case measure => simp [intOf]; omega
    · have hex : (k : Int) ≥ (xs.length : Int) ∨ ((k : Int) < (xs.length : Int) ∧ (k : Int) ≥ 150) := by omega
      clear hlt
      rcases hex with hex | ⟨hex, hex2⟩
      all_goals
        go_wp2_with fail
        go_ret
        exact ⟨rfl, hm.below⟩
end Go.Proofs.Ytfmcfkfhmncaiaa
