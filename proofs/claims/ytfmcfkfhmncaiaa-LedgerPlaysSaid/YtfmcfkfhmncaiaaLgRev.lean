/-
  THE WALK of ledger.Reverse.
-/
import Derived.Test.YtfmcfkfhmncaiaaLgApp
namespace Go.Proofs.Ytfmcfkfhmncaiaa
open Go.RowKit

/-- a store into an owned row -/
theorem ownsRow_set {w : World} {base : Nat} {e : TypeId} {size : Nat} {g len cap n : Nat} {xs : List Value} (h : w.ownsRow base e size (.slice (some ⟨g, 0, none⟩) len cap) n xs) (i : Nat) (u : Value) :
    (w.setCell ⟨g, i, none⟩ u).ownsRow base e size (.slice (some ⟨g, 0, none⟩) len cap) n (xs.set i u) := by
  obtain ⟨h1, h2 | ⟨g', cap', cur, hv, hb, hg, hn, hm, hc, ht⟩⟩ := h
  · simp at h2
  · simp only [Value.slice.injEq, Option.some.injEq, Addr.mk.injEq, and_true] at hv
    obtain ⟨rfl, rfl, rfl⟩ := hv
    refine ⟨by simpa using h1, .inr ⟨g, cap, cur.setIfInBounds i u, rfl, hb, heap_set_eq hg, hn, hm, by simpa using hc, ?_⟩⟩
    rw [Array.toList_setIfInBounds, List.take_set, ht]

def revP (p : Post) : Post := { p with state := 2 }
def revE (ps : List Post) (s : ByteArray) : Int := match askP ps s with | none => 15 | some p => if p.state = 2 then 20 else 0
def revN (ps : List Post) (s : ByteArray) : Int := match askP ps s with | none => 0 | some p => if p.state = 2 then 0 else p.amount
def revL (ps : List Post) (s : ByteArray) : List Post := match posOf ps s with | none => ps | some x => ps.modify x.toNat revP

theorem flat_set {ps : List Post} {k : Nat} (hk : k < ps.length) : (ps.flatMap Post.cells).set (k * 4 + 2) (.int .i64 2) = (ps.modify k revP).flatMap Post.cells := by
  induction ps generalizing k with
  | nil => simp at hk
  | cons p ps ih =>
    cases k with
    | zero => simp [List.flatMap_cons, Post.cells, revP]
    | succ k =>
      have := ih (k := k) (by simpa using hk)
      rw [List.modify_succ_cons, List.flatMap_cons, List.flatMap_cons, ← this]
      have e : (k + 1) * 4 + 2 = p.cells.length + (k * 4 + 2) := by simp [Post.cells]; omega
      rw [e, List.set_append_right _ _ (by omega)]
      simp
theorem keys_modify (ps : List Post) (k : Nat) : (ps.modify k revP).map Post.key = ps.map Post.key := by
  induction ps generalizing k with
  | nil => simp
  | cons p ps ih => cases k with
    | zero => simp [revP]
    | succ k => simp [List.modify_succ_cons, ih]
theorem posOf_keys {ps qs : List Post} (h : ps.map Post.key = qs.map Post.key) (s : ByteArray) : posOf ps s = posOf qs s := by
  have e : ∀ l : List Post, l.findIdx? (fun p => decide (p.key = s)) = (l.map Post.key).findIdx? (fun a => decide (a = s)) := fun l => by rw [List.findIdx?_map]; rfl
  unfold posOf
  rw [e, e, h]
theorem sum_modify {ps : List Post} {k : Nat} (hk : k < ps.length) (hs : ps[k].state ≠ 2) (hm : ps[k].may = true) : sumA (ps.modify k revP) = sumA ps - ps[k].amount := by
  induction ps generalizing k with
  | nil => simp at hk
  | cons p ps ih =>
    cases k with
    | zero =>
      simp only [List.getElem_cons_zero] at hs hm ⊢
      have : p.state = 1 := by
        simp only [Post.may, Bool.and_eq_true, Bool.or_eq_true, beq_iff_eq] at hm
        omega
      simp [sumA, revP, Post.counts, this]
      omega
    | succ k =>
      simp only [List.getElem_cons_succ] at hs hm ⊢
      have := ih (k := k) (by simpa using hk) hs hm
      simp only [sumA, List.modify_succ_cons, List.map_cons, List.sum_cons] at this ⊢
      omega
theorem may_rev {p : Post} (h : p.may = true) : (revP p).may = true := by
  simp only [Post.may, revP, Bool.and_eq_true, Bool.or_eq_true] at h ⊢
  exact ⟨h.1, .inr rfl⟩
theorem mem_modify {ps : List Post} {k : Nat} {q : Post} (h : q ∈ ps.modify k revP) : q ∈ ps ∨ ∃ p ∈ ps, q = revP p := by
  induction ps generalizing k with
  | nil => simp at h
  | cons p ps ih =>
    cases k with
    | zero =>
      simp only [List.modify_zero_cons, List.mem_cons] at h
      rcases h with h | h
      · exact .inr ⟨p, by simp, h⟩
      · exact .inl (List.mem_cons_of_mem _ h)
    | succ k =>
      simp only [List.modify_succ_cons, List.mem_cons] at h
      rcases h with h | h
      · exact .inl (by simp [h])
      · rcases ih h with h | ⟨p', h, e⟩
        · exact .inl (List.mem_cons_of_mem _ h)
        · exact .inr ⟨p', List.mem_cons_of_mem _ h, e⟩
theorem good_rev {ps : List Post} {k : Nat} (h : Good ps) (hk : k < ps.length) (hs : ps[k].state ≠ 2) : Good (ps.modify k revP) := by
  have hm := h.may _ (List.getElem_mem hk)
  refine ⟨fun q hq => ?_, by rw [keys_modify]; exact h.keys, by simpa using h.len, ?_⟩
  · rcases mem_modify hq with hq | ⟨p, hp, rfl⟩
    · exact h.may q hq
    · exact may_rev (h.may p hp)
  · rw [sum_modify hk hs hm]
    have h1 := h.total
    simp only [Post.may, Bool.and_eq_true, decide_eq_true_eq] at hm
    omega

theorem reverse_close {L : Led} {w : World} (h : L.At w) {g cap : Nat} (hv : L.v = .slice (some ⟨g, 0, none⟩) L.ps.length cap) {k : Nat} (hk : k < L.ps.length) (hs : L.ps[k].state ≠ 2) {W : World} (hW : W = w.setCell ⟨g, k * 4 + 2, none⟩ (.int .i64 2)) {tot : Int}
    (ht : sumA (L.ps.modify k revP) = tot) {n : Nat} :
    (⟨L.l, L.bm, L.v, L.ps.modify k revP⟩ : Led).At ((W.setCell ⟨L.l, 2, none⟩ (.int .i64 tot)).drewN n) ∧ Fr L.foot w ((W.setCell ⟨L.l, 2, none⟩ (.int .i64 tot)).drewN n) := by
  have hgl : g ≠ L.l := fun e => h.d2 (by rw [hv, ← e]; rfl)
  have hgm : g ≠ L.bm := fun e => h.d3 (by rw [hv, ← e]; rfl)
  have f1 : Fr (fun k => k = g) w W := by subst hW; exact (Fr.refl (fun k => k = g) _).setCell (.inl rfl) _
  have f2 : Fr (fun k => k = L.l) W ((W.setCell ⟨L.l, 2, none⟩ (.int .i64 tot)).drewN n) := ((Fr.refl (fun k => k = L.l) _).setCell (.inl rfl) _).drewN n
  have hrow := h.row
  rw [hv] at hrow
  have hrow1 := ownsRow_set hrow (k * 4 + 2) (.int .i64 2)
  rw [flat_set hk, ← hW] at hrow1
  refine ⟨⟨?_, ?_, ?_, h.d1, h.d2, h.d3, good_rev h.good hk hs⟩, ?_⟩
  · have hb : W.heap[L.l]? = _ := f1.obj h.blk (fun e => hgl e.symm)
    have := heap_set_eq (i := 2) (u := .int .i64 tot) hb
    show (W.setCell ⟨L.l, 2, none⟩ (.int .i64 tot)).heap[L.l]? = _
    simpa [ht] using this
  · have := ownsRow_fr hrow1 f2 (fun k hk e => hgl (by simp [Value.ownBlock] at hk; omega))
    rw [hv]
    simpa using this
  · exact (((h.map.fr f1 (fun e => hgm e.symm)).fr f2 (fun e => h.d1 e.symm)).congr (fun s => posOf_keys (keys_modify L.ps k).symm s)).mono (by simp)
  · exact (f1.mono (T := L.foot) (fun k hk => .inr (.inr (by rw [hv]; exact congrArg some hk.symm)))).trans f2 (fun k hk => .inl (.inl hk))

set_option maxHeartbeats 1000000 in
theorem reverse_any (L : Led) (w : World) (h : L.At w) (s : ByteArray) (hsz : s.size ≤ maxLen) :
    Calls Try.prog 11 #[.pointer (some ⟨L.l, 0, none⟩), .string s] w fun e w' => ∃ L' : Led, L'.At w' ∧ L'.l = L.l ∧ L'.ps = revL L.ps s ∧ e = .returned (.tuple #[.int .i64 (revN L.ps s), .int .i64 (revE L.ps s)]) ∧ Fr L.foot w w' ∧ ∀ k, L'.foot k → L.foot k ∨ w.heap.size ≤ k := by
  have c0 := cell_of h.blk 0
  have c1 := cell_of h.blk 1
  have c2 := cell_of h.blk 2
  simp at c0 c1 c2
  have hl := heap_lt h.blk
  have hL1 := look_led L w h s hsz (Fr.refl noBlock w) (fun h => h)
  cases hp : posOf L.ps s with
  | none =>
    have hA := askP_none hp
    rw [hp] at hL1
    simp only [Option.getD_none, Option.isSome_none] at hL1
    have H1 : Hid (revN L.ps s = 0 ∧ revE L.ps s = 15 ∧ revL L.ps s = L.ps) := Lib.hid ⟨by simp [revN, hA], by simp [revE, hA], by simp [revL, hp]⟩
    clear hp hA
    go_enter Try.func11, Try.ntmps11
    go_wp2
    go_ret2
    exact ⟨L, h, rfl, H1.out.2.2.symm, by rw [H1.out.1, H1.out.2.1]; rfl, Fr.refl _ _, fun k hk => .inl hk⟩
  | some x =>
    obtain ⟨k, hk, rfl, hkey, hask⟩ := askP_of hp
    obtain ⟨g, cap, hv, hcap, p0, p1, p2, p3⟩ := h.post hk
    rw [hp] at hL1
    simp only [Option.getD_some, Option.isSome_some] at hL1
    rw [hv] at c0
    have hgl := World.block_lt_of_cell? w _ p0
    simp only at hgl
    have hk' : (k : Int) < (L.ps.length : Int) := by omega
    have hk0 : (0 : Int) ≤ (k : Int) := by omega
    have hmay := h.good.may _ (List.getElem_mem hk)
    have hgne : g ≠ L.l := fun e => h.d2 (by rw [hv, ← e]; rfl)
    have hrow := h.row
    rw [hv] at hrow
    obtain ⟨_, _, h2 | ⟨g', cap', cur, hv', hb, hg, _⟩⟩ := (⟨0, hrow⟩ : ∃ _ : Nat, w.ownsRow 0 34 4 (.slice (some ⟨g, 0, none⟩) L.ps.length cap) L.ps.length (L.ps.flatMap Post.cells))
    · omega
    have hfz : w.frozen? ⟨g, k * 4 + 2, none⟩ = false := by
      simp only [Value.slice.injEq, Option.some.injEq, Addr.mk.injEq, and_true] at hv'
      obtain ⟨rfl, _⟩ := hv'
      exact free_of hg _
    have hfl := free_of h.blk 2
    have ham : 0 ≤ L.ps[k].amount ∧ L.ps[k].amount ≤ 999999999999 := by
      simp only [Post.may, Bool.and_eq_true, decide_eq_true_eq] at hmay; omega
    by_cases hs : L.ps[k].state = 2
    · have H1 : Hid (revN L.ps s = 0 ∧ revE L.ps s = 20 ∧ revL L.ps s = L.ps.modify k revP) := Lib.hid ⟨by simp [revN, hask, hs], by simp [revE, hask, hs], by simp [revL, hp]⟩
      have H2 : Hid (L.ps.modify k revP = L.ps) := Lib.hid (by
        apply List.ext_getElem
        · simp
        · intro i h1 h2
          rw [List.getElem_modify]
          split
          · rename_i e; subst e; simp [revP]; rw [← hs]
          · rfl)
      rw [hs] at p2
      clear hp hask hv hrow hv' hkey hs
      generalize L.ps[k] = p at *
      go_enter Try.func11, Try.ntmps11
      go_wp2
      go_ret2
      exact ⟨L, h, rfl, by rw [H1.out.2.2, H2.out], by rw [H1.out.1, H1.out.2.1]; rfl, Fr.refl _ _, fun k hk => .inl hk⟩
    · have H1 : Hid (revN L.ps s = L.ps[k].amount ∧ revE L.ps s = 0 ∧ revL L.ps s = L.ps.modify k revP) := Lib.hid ⟨by simp [revN, hask, hs], by simp [revE, hask, hs], by simp [revL, hp]⟩
      have hsum := sum_modify hk hs hmay
      have hgr := good_rev h.good hk hs
      have hn0 := sumA_nonneg hgr.may
      have hn1 := sumA_nonneg h.good.may
      have hn2 := h.good.total
      rw [hsum] at hn0
      have Hcl := Lib.hid (fun (W : World) (n : Nat) hW => reverse_close (W := W) h hv hk hs hW hsum (n := n))
      have hs' : (L.ps[k].state == 2) = false := by simpa using hs
      clear hp hask hv hrow hv' hkey hs hsum hgr
      have Hh := Lib.hid h
      clear h
      generalize hpk : L.ps[k] = p at *
      have Hpk := Lib.hid hpk
      clear hpk
      go_enter Try.func11, Try.ntmps11
      go_wp2
      have q1 : (w.setCell ⟨g, k * 4 + 2, none⟩ (.int .i64 2)).cell? ⟨g, k * 4 + 1, none⟩ = some (.int .i64 p.amount) := (World.cell?_setCell_other _ _ _ _ (by simp)).trans p1
      have q2 : (w.setCell ⟨g, k * 4 + 2, none⟩ (.int .i64 2)).cell? ⟨L.l, 2, none⟩ = some (.int .i64 (sumA L.ps)) := (World.cell?_setCell_other _ _ _ _ (by simp)).trans c2
      have q3 : (w.setCell ⟨g, k * 4 + 2, none⟩ (.int .i64 2)).frozen? ⟨L.l, 2, none⟩ = false := by simpa using hfl
      refine wp_at (fun W => Hid (W = w.setCell ⟨g, k * 4 + 2, none⟩ (.int .i64 2)) ∧ W.cell? ⟨g, k * 4 + 1, none⟩ = some (.int .i64 p.amount) ∧ W.cell? ⟨L.l, 2, none⟩ = some (.int .i64 (sumA L.ps)) ∧ W.frozen? ⟨L.l, 2, none⟩ = false) ⟨Lib.hid rfl, q1, q2, q3⟩ ?_
      intro W hW
      obtain ⟨HW, r1, r2, r3⟩ := hW
      clear q1 q2 q3 p0 p1 p2 p3 c0 c1 c2 hL1 hfz hfl
      go_region
      go_wp2
      go_ret2
      obtain ⟨hc1, hc2⟩ := Hcl.out W 1 HW.out
      exact ⟨⟨L.l, L.bm, L.v, L.ps.modify k revP⟩, hc1, rfl, H1.out.2.2.symm, by rw [H1.out.1, H1.out.2.1]; rfl, hc2, fun k hk => .inl hk⟩
end Go.Proofs.Ytfmcfkfhmncaiaa
