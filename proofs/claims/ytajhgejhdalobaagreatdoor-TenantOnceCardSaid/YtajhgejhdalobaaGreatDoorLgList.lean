/-
  THE WALKS of slices.Clone at posts, ledger.List.
-/
import Derived.Lib.Hide
import Derived.Deep.RegionLaw
import Derived.Deep.RegionHeld3
import Derived.Deep.RegionHeldLaw
import Derived.Deep.AppendLies
import Derived.Deep.QuietTactic
import Derived.BigQuiet
import Derived.StillTailTactics
import Derived.Test.YtajhgejhdalobaaGreatDoorBase
namespace Go.Proofs.YtajhgejhdalobaaGreatDoor.Lg
open Go.RowKit

structure Post where
  key : ByteArray
  amount : Int
  state : Int
  answer : ByteArray

def Post.cells (p : Post) : List Value := [.string p.key, .int .i64 p.amount, .int .i64 p.state, .string p.answer]
def Post.val (p : Post) : Value := .agg #[.string p.key, .int .i64 p.amount, .int .i64 p.state, .string p.answer]
def Post.may (p : Post) : Bool :=
  !p.key.toList.isEmpty && decide (p.key.size ≤ 40) && decide (0 ≤ p.amount) && decide (p.amount ≤ 999999999999) && decide (p.answer.size ≤ 256) && (p.state == 1 || p.state == 2)
def Post.counts (p : Post) : Int := if p.state = 1 then p.amount else 0

def sumA (ps : List Post) : Int := (ps.map Post.counts).sum
def posOf (ps : List Post) (s : ByteArray) : Option Int := (ps.findIdx? (fun p => decide (p.key = s))).map Int.ofNat

structure Good (ps : List Post) : Prop where
  may : ∀ p ∈ ps, p.may = true
  keys : (ps.map Post.key).Nodup
  len : ps.length ≤ 24
  total : sumA ps ≤ 5000000000000

def addE (ps : List Post) (p : Post) : Int :=
  if p.may = false then 1 else if (posOf ps p.key).isSome then 16 else if 24 ≤ ps.length then 14 else if 5000000000000 - sumA ps < p.counts then 19 else 0
def addL (ps : List Post) (p : Post) : List Post := if addE ps p = 0 then ps ++ [p] else ps

structure Led where
  l : Nat
  bm : Nat
  v : Value
  ps : List Post

def Led.foot (L : Led) (k : Nat) : Prop := k = L.l ∨ k = L.bm ∨ L.v.ownBlock = some k

structure Led.At (L : Led) (w : World) : Prop where
  blk : w.heap[L.l]? = some (.cells #[L.v, .map (some L.bm), .int .i64 (sumA L.ps)] 215 (0, 0))
  row : w.ownsRow 0 53 4 L.v L.ps.length (L.ps.flatMap Post.cells)
  map : MapIs Tryz.prog 9 3 w L.bm L.ps.length (posOf L.ps)
  d1 : L.l ≠ L.bm
  d2 : L.v.ownBlock ≠ some L.l
  d3 : L.v.ownBlock ≠ some L.bm
  good : Good L.ps

theorem Led.At.foot_lt {L : Led} {w : World} (h : L.At w) {k : Nat} (hk : L.foot k) : k < w.heap.size := by
  rcases hk with rfl | rfl | hk
  · exact heap_lt h.blk
  · exact h.map.lt
  · exact (h.row.lt k hk).2

theorem Led.At.fr {L : Led} {S : Nat → Prop} {w w' : World} (h : L.At w) (hf : Fr S w w') (hs : ∀ k, L.foot k → ¬ S k) : L.At w' :=
  ⟨hf.obj h.blk (hs _ (.inl rfl)), ownsRow_fr h.row hf (fun k hk => hs k (.inr (.inr hk))), h.map.fr hf (hs _ (.inr (.inl rfl))), h.d1, h.d2, h.d3, h.good⟩

theorem counts_nonneg {p : Post} (h : p.may = true) : 0 ≤ p.counts ∧ p.counts ≤ 999999999999 := by
  simp only [Post.may, Bool.and_eq_true, decide_eq_true_eq] at h
  unfold Post.counts
  split <;> omega
theorem sumA_nonneg : ∀ {ps : List Post}, (∀ p ∈ ps, p.may = true) → 0 ≤ sumA ps
  | [], _ => by simp [sumA]
  | p :: ps, h => by
    have h1 := sumA_nonneg (ps := ps) (fun q hq => h q (List.mem_cons_of_mem _ hq))
    have h2 := (counts_nonneg (h p List.mem_cons_self)).1
    simp only [sumA, List.map_cons, List.sum_cons] at h1 ⊢
    omega
theorem sumA_append (a b : List Post) : sumA (a ++ b) = sumA a + sumA b := by simp [sumA]
theorem posOf_none {ps : List Post} {s : ByteArray} : posOf ps s = none ↔ ∀ p ∈ ps, p.key ≠ s := by
  unfold posOf
  simp
theorem posOf_snoc (ps : List Post) (p : Post) (hp : posOf ps p.key = none) (s : ByteArray) : posOf (ps ++ [p]) s = if s = p.key then some (ps.length : Int) else posOf ps s := by
  unfold posOf at *
  rw [List.findIdx?_append]
  by_cases h : s = p.key
  · subst h
    simp only [Option.map_eq_none_iff] at hp
    simp [hp]
  · have h' : ¬ p.key = s := fun e => h e.symm
    rw [if_neg h]
    cases hf : List.findIdx? (fun p => decide (p.key = s)) ps <;> simp [h']

theorem good_snoc {ps : List Post} {p : Post} (h : Good ps) (he : addE ps p = 0) : Good (ps ++ [p]) := by
  unfold addE at he
  by_cases h1 : p.may = false
  · simp [h1] at he
  rw [if_neg h1] at he
  by_cases h2 : (posOf ps p.key).isSome
  · simp [h2] at he
  rw [if_neg h2] at he
  by_cases h3 : 24 ≤ ps.length
  · simp [h3] at he
  rw [if_neg h3] at he
  by_cases h4 : 5000000000000 - sumA ps < p.counts
  · simp [h4] at he
  refine ⟨?_, ?_, by simp; omega, ?_⟩
  · intro q hq
    rcases List.mem_append.1 hq with hq | hq
    · exact h.may q hq
    · simp at hq; subst hq; simpa using h1
  · have hn : posOf ps p.key = none := by simpa using h2
    rw [posOf_none] at hn
    rw [List.map_append, List.nodup_append]
    refine ⟨h.keys, by simp, ?_⟩
    intro a ha b hb
    simp at hb
    subst hb
    obtain ⟨q, hq, rfl⟩ := List.mem_map.1 ha
    exact hn q hq
  · rw [sumA_append]
    simp only [sumA, List.map_cons, List.map_nil, List.sum_cons, List.sum_nil]
    simp only [sumA] at h4
    omega
end Go.Proofs.YtajhgejhdalobaaGreatDoor.Lg
namespace Go.Proofs.YtajhgejhdalobaaGreatDoor.Lg
open Go.RowKit

set_option maxHeartbeats 400000 in
theorem may_any (p : Post) (w : World) :
    Calls Tryz.prog 240 #[p.val] w fun e w' => e = .returned (.bool p.may) ∧ w' = w.alloc (.cells #[.string p.key, .int .i64 p.amount, .int .i64 p.state, .string p.answer] 53) := by
  obtain ⟨key, amount, state, answer⟩ := p
  unfold Post.val
  go_enter Tryz.func240, Tryz.ntmps240
  go_wp2
  all_goals go_ret
  all_goals (try subst_vars)
  all_goals refine ⟨congrArg (fun b => Ending.returned (.bool b)) ((?_ : Post.may _ = _).symm), rfl⟩
  all_goals first
    | (simp [Post.may]; first | done | omega | (refine ⟨⟨⟨⟨⟨?_, ?_⟩, ?_⟩, ?_⟩, ?_⟩, ?_⟩ <;> first | assumption | omega))
    | (refine Bool.eq_false_iff.2 fun hm => ?_; simp [Post.may] at hm; first | omega | (obtain ⟨⟨⟨⟨⟨h0, _⟩, _⟩, _⟩, _⟩, _⟩ := hm; exact h0 ‹_›))
    | (have h1 : key.size ≤ 40 := by omega
       have h2 : answer.size ≤ 256 := by omega
       simp [Post.may, *])

set_option maxHeartbeats 400000 in
theorem new_any (w : World) :
    Calls Tryz.prog 52 #[] w fun e w' => ∃ L : Led, L.At w' ∧ e = .returned (.pointer (some ⟨L.l, 0, none⟩)) ∧ L.ps = [] ∧ Fr noBlock w w' ∧ ∀ k, L.foot k → w.heap.size ≤ k := by
  have hmm := @run_makeMap Tryz.prog
  go_enter Tryz.func52, Tryz.ntmps52
  go_wp2
  go_ret
  refine ⟨⟨w.heap.size + 1, w.heap.size, .slice none 0 0, []⟩, ⟨?_, World.ownsRow_nil _ _ _ _, ?_, by simp, by simp [Value.ownBlock], by simp [Value.ownBlock], ⟨by simp, by simp, by simp, by simp [sumA]⟩⟩, by simp, rfl, ?_, ?_⟩
  · show ((w.alloc (.map #[] 0)).alloc _).heap[w.heap.size + 1]? = _
    have := heap_new (w.alloc (.map #[] 0)) (.cells #[.slice none 0 0, .map (some w.heap.size), .int .i64 0] 215)
    simpa [sumA] using this
  · exact ((MapIs.made Tryz.prog 9 3 w).fr ((Fr.refl noBlock _).alloc _) (fun h => h)).congr (fun s => by simp [posOf])
  · exact ((Fr.refl _ _).alloc _).alloc _
  · rintro k (rfl | rfl | h)
    · exact Nat.le_succ _
    · exact Nat.le_refl _
    · simp [Value.ownBlock] at h

set_option maxHeartbeats 400000 in
theorem total_any (L : Led) (w : World) (h : L.At w) :
    Calls Tryz.prog 53 #[.pointer (some ⟨L.l, 0, none⟩)] w fun e w' => e = .returned (.int .i64 (sumA L.ps)) ∧ w' = w := by
  have c2 := cell_of h.blk 2
  simp at c2
  go_enter Tryz.func53, Tryz.ntmps53
  go_wp2
  go_ret
  exact ⟨rfl, rfl⟩

theorem clear_led (L : Led) (w : World) (h : L.At w) : ∃ w', (∀ ty, (Builtin.clear_ #[209] ty #[.map (some L.bm)]).run Tryz.prog w = .ok (.tuple #[]) w') ∧ MapIs Tryz.prog 9 3 w' L.bm 0 (fun _ => none) ∧ w.mapTurned w' L.bm := by
  obtain ⟨w', h1, h2, h3⟩ := h.map.clear (mt := 209) Tryz.underlying209 0
  exact ⟨w', fun ty => h1, h2, h3⟩

set_option maxHeartbeats 400000 in
theorem close_any (L : Led) (w : World) (h : L.At w) :
    Calls Tryz.prog 127 #[.pointer (some ⟨L.l, 0, none⟩)] w fun e w' => ∃ L' : Led, L'.At w' ∧ L'.l = L.l ∧ L'.ps = [] ∧ e = .returned (.int .i64 (sumA L.ps)) ∧ Fr L.foot w w' ∧ ∀ k, L'.foot k → L.foot k ∨ w.heap.size ≤ k := by
  obtain ⟨w1, hcl, hmap, ht⟩ := clear_led L w h
  have hg := ht.grown
  have hf : Fr L.foot w w1 := (Fr.refl _ _).grown hg (by intro k hk; cases hk; exact .inl (.inr (.inl rfl)))
  have hb1 : w1.heap[L.l]? = _ := (hg.block L.l (heap_lt h.blk) (by have := h.d1; simpa using this)).trans h.blk
  have c1 := cell_of h.blk 1
  have c2 := cell_of h.blk 2
  simp at c1 c2
  have e0 := cell_of hb1 0
  have e2 := cell_of hb1 2
  simp at e0 e2
  have f0 := free_of hb1 0
  have f2 := free_of hb1 2
  have Hb := Lib.hid hb1
  have Hf := Lib.hid hf
  clear hb1 hf hg ht
  go_enter Tryz.func127, Tryz.ntmps127
  go_wp2
  go_ret
  refine ⟨⟨L.l, L.bm, .slice none 0 0, []⟩, ⟨?_, World.ownsRow_nil _ _ _ _, ?_, h.d1, by simp [Value.ownBlock], by simp [Value.ownBlock], ⟨by simp, by simp, by simp, by simp [sumA]⟩⟩, rfl, rfl, rfl, ?_, ?_⟩
  · have := heap_set_eq (i := 2) (u := .int .i64 0) (heap_set_eq (i := 0) (u := .slice none 0 0) Hb.out)
    simpa [sumA] using this
  · refine (hmap.fr (((Fr.refl (fun k => k = L.l) _).setCell (.inl rfl) _).setCell (.inl rfl) _) (fun h' => h.d1 h'.symm)).congr (fun s => by simp [posOf])
  · exact (Hf.out.setCell (.inl (.inl rfl)) _).setCell (.inl (.inl rfl)) _
  · rintro k (rfl | rfl | h')
    · exact .inl (.inl rfl)
    · exact .inl (.inr (.inl rfl))
    · simp [Value.ownBlock] at h'
end Go.Proofs.YtajhgejhdalobaaGreatDoor.Lg
namespace Go.Proofs.YtajhgejhdalobaaGreatDoor.Lg
open Go.RowKit

theorem zero_int (w : World) : (zeroValue 3).run Tryz.prog w = .ok (.int .i64 0) w := by kernel_rfl
theorem look_led (L : Led) (w : World) (h : L.At w) (s : ByteArray) (hs : s.size ≤ maxLen) {S : Nat → Prop} {w' : World} (hf : Fr S w w') (hn : ¬ S L.bm) :
    (Instr.lookup 209 (.map (some L.bm)) (.string s) true).run Tryz.prog w' = .ok (.tuple #[.int .i64 ((posOf L.ps s).getD 0), .bool (posOf L.ps s).isSome]) w' :=
  (h.map.fr hf hn).look Tryz.underlying9 Tryz.underlying209 Tryz.underlying3 (zero_int _) s hs

theorem may_raw (key answer : ByteArray) (amount state : Int) (b : Bool) (h : Post.may ⟨key, amount, state, answer⟩ = b) (w : World) :
    Calls Tryz.prog 240 #[.agg #[.string key, .int .i64 amount, .int .i64 state, .string answer]] w fun e w' => e = .returned (.bool b) ∧ w.alloc (.cells #[.string key, .int .i64 amount, .int .i64 state, .string answer] 53) = w' :=
  (may_any ⟨key, amount, state, answer⟩ w).mono fun _ _ ⟨a, b⟩ => ⟨by rw [a, h], b.symm⟩

set_option maxRecDepth 100000 in
set_option maxHeartbeats 400000 in
theorem add_no (L : Led) (w : World) (h : L.At w) (p : Post) (hs : p.key.size ≤ maxLen) (hE : addE L.ps p ≠ 0) (hE' : addE L.ps p ≠ 19) :
    Calls Tryz.prog 175 #[.pointer (some ⟨L.l, 0, none⟩), p.val] w fun e w' => e = .returned (.int .i64 (addE L.ps p)) ∧ Fr noBlock w w' := by
  have c0 := cell_of h.blk 0
  have c1 := cell_of h.blk 1
  simp at c0 c1
  have hl := heap_lt h.blk
  have hlook := fun w' (hf : Fr noBlock w w') => look_led L w h p.key hs hf (fun h => h)
  obtain ⟨key, amount, state, answer⟩ := p
  unfold Post.val
  have hL1 := fun n => hlook _ (((Fr.refl noBlock w).alloc (.cells #[.string key, .int .i64 amount, .int .i64 state, .string answer] 53)).drewN n)
  clear hlook
  have hvl : ∃ (ao : Option Addr) (cap : Nat), L.v = .slice ao L.ps.length cap := by
    rcases h.row.2 with ⟨h1, h2⟩ | ⟨g, cap, cur, h1, _⟩
    · exact ⟨none, 0, by rw [h1, h2]⟩
    · exact ⟨_, cap, h1⟩
  obtain ⟨ao, cap, hv⟩ := hvl
  rw [hv] at c0
  have Hv := Lib.hid hv
  clear hv
  unfold addE at hE hE' ⊢
  simp only at hL1
  by_cases hm : Post.may ⟨key, amount, state, answer⟩ = false
  · rw [if_pos hm]
    clear hE hE'
    have Hm := Lib.hid hm
    generalize ((posOf L.ps key).getD 0) = pos at hL1
    generalize ((posOf L.ps key).isSome) = is at hL1
    clear hm
    by_cases hst : (state == 1) = true
    all_goals
      go_enter Tryz.func175, Tryz.ntmps175
      go_wp2
      go_quiet (fail)
      go_wp2_with (go_at_call 240; refine (may_raw key answer amount state false Hm.out _).mono ?_; rintro e w' ⟨rfl, rfl⟩)
      go_ret
      exact ⟨rfl, ((((Fr.refl _ _).alloc _).drewN _).alloc _)⟩
  · rw [if_neg hm] at hE hE' ⊢
    have Hm : Hid (Post.may ⟨key, amount, state, answer⟩ = true) := Lib.hid (by simpa using hm)
    clear hm
    by_cases hi : (posOf L.ps key).isSome = true
    · rw [if_pos hi]
      clear hE hE'
      rw [hi] at hL1
      generalize ((posOf L.ps key).getD 0) = pos at hL1
      clear hi
      by_cases hst : (state == 1) = true
      all_goals
        go_enter Tryz.func175, Tryz.ntmps175
        go_wp2
        go_quiet (fail)
        go_wp2_with (go_at_call 240; refine (may_raw key answer amount state true Hm.out _).mono ?_; rintro e w' ⟨rfl, rfl⟩)
        go_ret
        exact ⟨rfl, ((((Fr.refl _ _).alloc _).drewN _).alloc _)⟩
    · rw [if_neg hi] at hE hE' ⊢
      have hi' : (posOf L.ps key).isSome = false := by simpa using hi
      clear hi
      rw [hi'] at hL1
      generalize ((posOf L.ps key).getD 0) = pos at hL1
      have h24 : 24 ≤ L.ps.length := by
        refine Decidable.byContradiction fun hn => ?_
        rw [if_neg hn] at hE hE'
        split at hE <;> simp_all
      rw [if_pos h24]
      clear hE hE' hi'
      have h24' : (24 : Int) ≤ (L.ps.length : Int) := by omega
      by_cases hst : (state == 1) = true
      all_goals
        go_enter Tryz.func175, Tryz.ntmps175
        go_wp2
        go_quiet (fail)
        go_wp2_with (go_at_call 240; refine (may_raw key answer amount state true Hm.out _).mono ?_; rintro e w' ⟨rfl, rfl⟩)
        go_ret
        exact ⟨rfl, ((((Fr.refl _ _).alloc _).drewN _).alloc _)⟩

theorem counts_mk {key answer : ByteArray} {amount state : Int} (hm : Post.may ⟨key, amount, state, answer⟩ = true) : 0 ≤ amount ∧ amount ≤ 999999999999 := by
  simp only [Post.may, Bool.and_eq_true, decide_eq_true_eq] at hm; omega
theorem store_led (L : Led) (w : World) (h : L.At w) (s : ByteArray) (hs : s.size ≤ maxLen) {w' : World} (hf : Fr noBlock w w') :
    ∃ w1, (Instr.mapUpdate 209 (.map (some L.bm)) (.string s) (.int .i64 (L.ps.length : Int))).run Tryz.prog w' = .ok () w1 ∧ MapIs Tryz.prog 9 3 w1 L.bm (L.ps.length + 1) (fun t => if t = s then some (L.ps.length : Int) else posOf L.ps t) ∧ w'.mapTurned w1 L.bm := by
  have := h.good.len
  exact (h.map.fr hf (fun x => x)).store Tryz.underlying9 Tryz.underlying209 Tryz.underlying3 (by unfold maxLen; omega) s hs _ (by simp [Lit.wf, IntKind.min, IntKind.max, IntKind.signed, IntKind.bits]; omega)
theorem Led.At.shape {L : Led} {w : World} (h : L.At w) : ∃ (ao : Option Addr) (cap : Nat), L.v = .slice ao L.ps.length cap := by
  rcases h.row.2 with ⟨h1, h2⟩ | ⟨g, cap, cur, h1, _⟩
  · exact ⟨none, 0, by rw [h1, h2]⟩
  · exact ⟨_, cap, h1⟩
theorem info_post : (Tryz.prog.info? 53).map (fun i => (i.zero, i.size, i.bytes)) = some (some (.agg #[.string .empty, .int .i64 0, .int .i64 0, .string .empty]), 4, 48) := by kernel_rfl

theorem add_close {L : Led} {w w1 w2 : World} (h : L.At w) {p : Post} (hE : addE L.ps p = 0) (hF1 : Fr (fun k => k = L.bm) w w1)
    (hmap : MapIs Tryz.prog 9 3 w1 L.bm (L.ps.length + 1) (fun t => if t = p.key then some (L.ps.length : Int) else posOf L.ps t))
    {o : Obj} (hg2 : (w1.alloc o).drew.grownBy w2 L.v.ownBlock) {gg cap2 : Nat}
    (hown2 : w2.ownsRow 0 53 4 (.slice (some ⟨gg, 0, none⟩) (L.ps.length + 1) cap2) (L.ps.length + 1) (L.ps.flatMap Post.cells ++ p.cells))
    (hat : L.v.ownBlock = some gg ∨ gg = w1.heap.size + 1) {tot : Int} (htot : sumA (L.ps ++ [p]) = tot) :
    ∃ L' : Led, L'.At ((w2.setCell ⟨L.l, 0, none⟩ (.slice (some ⟨gg, 0, none⟩) (L.ps.length + 1) cap2)).setCell ⟨L.l, 2, none⟩ (.int .i64 tot)) ∧ L'.l = L.l ∧ L'.ps = L.ps ++ [p] ∧
      Fr L.foot w ((w2.setCell ⟨L.l, 0, none⟩ (.slice (some ⟨gg, 0, none⟩) (L.ps.length + 1) cap2)).setCell ⟨L.l, 2, none⟩ (.int .i64 tot)) ∧ ∀ k, L'.foot k → L.foot k ∨ w.heap.size ≤ k := by
  have hlt := heap_lt h.blk
  have hb1 : w1.heap[L.l]? = _ := hF1.obj h.blk h.d1
  have hF2 : Fr (fun k => L.v.ownBlock = some k) w1 w2 := (((Fr.refl _ _).alloc o).drew).grown hg2 (fun k hk => .inl hk)
  have hb2 : w2.heap[L.l]? = _ := hF2.obj hb1 h.d2
  have hlg : gg ≠ L.l := by
    rcases hat with hat | hat
    · intro e; exact h.d2 (e ▸ hat)
    · have := heap_lt hb1; omega
  have hset : Fr (fun k => k = L.l) w2 ((w2.setCell ⟨L.l, 0, none⟩ (.slice (some ⟨gg, 0, none⟩) (L.ps.length + 1) cap2)).setCell ⟨L.l, 2, none⟩ (.int .i64 tot)) := ((Fr.refl (fun k => k = L.l) _).setCell (.inl rfl) _).setCell (.inl rfl) _
  have hn : posOf L.ps p.key = none := by
    have he := hE
    unfold addE at he
    by_cases h1 : p.may = false
    · simp [h1] at he
    rw [if_neg h1] at he
    by_cases h2 : (posOf L.ps p.key).isSome
    · simp [h2] at he
    simpa using h2
  have h12 := hF1.size
  refine ⟨⟨L.l, L.bm, .slice (some ⟨gg, 0, none⟩) (L.ps.length + 1) cap2, L.ps ++ [p]⟩, ⟨?_, ?_, ?_, h.d1, ?_, ?_, good_snoc h.good hE⟩, rfl, rfl, ?_, ?_⟩
  · have := heap_set_eq (i := 2) (u := .int .i64 tot) (heap_set_eq (i := 0) (u := .slice (some ⟨gg, 0, none⟩) (L.ps.length + 1) cap2) hb2)
    simpa [htot] using this
  · have := ownsRow_fr hown2 hset (fun k hk e => hlg (by simp [Value.ownBlock] at hk; omega))
    simpa [List.flatMap_append] using this
  · refine (((hmap.fr hF2 h.d3).fr hset (fun e => h.d1 e.symm)).congr (fun s => (posOf_snoc L.ps p hn s).symm)).mono (by simp)
  · simp only [Value.ownBlock, ne_eq, Option.some.injEq]; exact hlg
  · simp only [Value.ownBlock, ne_eq, Option.some.injEq]
    rcases hat with hat | hat
    · intro e; exact h.d3 (e ▸ hat)
    · have := h.map.lt; omega
  · refine ((hF1.mono (T := L.foot) (fun k hk => .inr (.inl hk))).trans hF2 (fun k hk => .inl (.inr (.inr hk)))).trans hset (fun k hk => .inl (.inl hk))
  · rintro k (rfl | rfl | hk)
    · exact .inl (.inl rfl)
    · exact .inl (.inr (.inl rfl))
    · simp only [Value.ownBlock, Option.some.injEq] at hk
      subst hk
      rcases hat with hat | hat
      · exact .inl (.inr (.inr hat))
      · exact .inr (by omega)

set_option maxRecDepth 100000 in
set_option maxHeartbeats 1000000 in
theorem add_ok (L : Led) (w : World) (h : L.At w) (p : Post) (hs : p.key.size ≤ maxLen) (hE : addE L.ps p = 0) :
    Calls Tryz.prog 175 #[.pointer (some ⟨L.l, 0, none⟩), p.val] w fun e w' => ∃ L' : Led, L'.At w' ∧ L'.l = L.l ∧ L'.ps = L.ps ++ [p] ∧ e = .returned (.int .i64 0) ∧ Fr L.foot w w' ∧ ∀ k, L'.foot k → L.foot k ∨ w.heap.size ≤ k := by
  have c0 := cell_of h.blk 0
  have c1 := cell_of h.blk 1
  have c2 := cell_of h.blk 2
  simp at c0 c1 c2
  have hl := heap_lt h.blk
  have hlook := fun w' (hf : Fr noBlock w w') => look_led L w h p.key hs hf (fun h => h)
  obtain ⟨i0, hi0, hz0, hz1, hz2⟩ := info_parts info_post
  obtain ⟨key, amount, state, answer⟩ := p
  unfold Post.val
  have hL1 := fun n => hlook _ (((Fr.refl noBlock w).alloc (.cells #[.string key, .int .i64 amount, .int .i64 state, .string answer] 53)).drewN n)
  clear hlook
  obtain ⟨ao, cap, hv⟩ := h.shape
  rw [hv] at c0
  have Hv := Lib.hid hv
  clear hv
  have HE := Lib.hid hE
  unfold addE at hE
  simp only at hL1
  have hm : ¬ Post.may ⟨key, amount, state, answer⟩ = false := fun hm => by simp [hm] at hE
  rw [if_neg hm] at hE
  have Hm : Hid (Post.may ⟨key, amount, state, answer⟩ = true) := Lib.hid (by simpa using hm)
  have hi : ¬ (posOf L.ps key).isSome = true := fun hi => by simp [hi] at hE
  rw [if_neg hi] at hE
  have hi' : (posOf L.ps key).isSome = false := by simpa using hi
  rw [hi'] at hL1
  generalize ((posOf L.ps key).getD 0) = pos at hL1
  have h24 : ¬ 24 ≤ L.ps.length := fun h24 => by simp [h24] at hE
  rw [if_neg h24] at hE
  have h24' : (L.ps.length : Int) < 24 := by omega
  have h19 : Post.counts ⟨key, amount, state, answer⟩ ≤ 5000000000000 - sumA L.ps := by
    refine Decidable.byContradiction fun hn => ?_
    rw [if_pos (by omega)] at hE
    simp at hE
  obtain ⟨ha0, ha1⟩ := counts_mk Hm.out
  have hs0 := sumA_nonneg h.good.may
  have hs1 := h.good.total
  clear hE hm hi hi' h24
  have hcnt : Post.counts ⟨key, amount, state, answer⟩ = if (state == 1) = true then amount else 0 := by simp [Post.counts]
  have hx : ((state == 1) = true ∧ amount ≤ 5000000000000 - sumA L.ps ∧ Hid (sumA (L.ps ++ [⟨key, amount, state, answer⟩]) = sumA L.ps + amount)) ∨
      ((state == 1) = false ∧ (0 : Int) ≤ 5000000000000 - sumA L.ps ∧ Hid (sumA (L.ps ++ [⟨key, amount, state, answer⟩]) = sumA L.ps)) := by
    rw [hcnt] at h19
    by_cases hst : (state == 1) = true
    · rw [if_pos hst] at h19 hcnt
      exact .inl ⟨hst, h19, Lib.hid (by rw [sumA_append]; simp [sumA, hcnt])⟩
    · rw [if_neg hst] at hcnt
      exact .inr ⟨by simpa using hst, by omega, Lib.hid (by rw [sumA_append]; simp [sumA, hcnt])⟩
  clear hcnt h19
  rcases hx with ⟨hst, h19', Hsum⟩ | ⟨hst, h19', Hsum⟩
  all_goals
    go_enter Tryz.func175, Tryz.ntmps175
    go_wp2
    go_quiet (fail)
    go_wp2_with (go_at_call 240; refine (may_raw key answer amount state true Hm.out _).mono ?_; rintro e w' ⟨rfl, rfl⟩)
    refine wp_at (fun W => Fr noBlock w W ∧ W.heap[w.heap.size]? = some (.cells #[.string key, .int .i64 amount, .int .i64 state, .string answer] 53 (0, 0))) ⟨(((Fr.refl _ _).alloc _).drewN _).alloc _, heap_old _ (heap_new w _)⟩ ?_
    intro W hW
    obtain ⟨hF, hp⟩ := hW
    obtain ⟨w1, hst1, hmap1, ht1⟩ := store_led L w h key hs (hF.drew)
    have k0 := (hF.cell (p := ⟨L.l, 0, none⟩) hl (fun x => x)).trans c0
    have k1 := (hF.cell (p := ⟨L.l, 1, none⟩) hl (fun x => x)).trans c1
    have q0 := cell_of hp 0
    simp at q0
    have Hg := Lib.hid ht1.grown
    have HF := Lib.hid hF
    have Hp := Lib.hid hp
    have Hmap := Lib.hid hmap1
    have C2 := Lib.hid c2
    have H19 := Lib.hid h19'
    clear c0 c1 c2 hp hF ht1 hmap1 hL1 hst h19'
    go_region
    have hbm : w.heap.size ≠ L.bm := fun e => by have := h.map.lt; omega
    have hF1 : Fr (fun k => k = L.bm) w w1 := ((HF.out.drew).mono (fun _ x => x.elim)).grown Hg.out (by intro k hk; cases hk; exact .inl rfl)
    have hp1 : w1.heap[w.heap.size]? = _ := (Hg.out.block w.heap.size (heap_lt Hp.out) (by simpa using hbm)).trans Hp.out
    have row1 := ownsRow_fr h.row hF1 (fun k hk e => h.d3 (e ▸ hk))
    rw [Hv.out] at row1
    have hb1 : w1.heap[L.l]? = _ := hF1.obj h.blk h.d1
    rw [Hv.out] at hb1
    have g0 := cell_of hb1 0
    have g2 := cell_of hb1 2
    have gf := free_of hb1
    have y0 := cell_of hp1 0
    have y1 := cell_of hp1 1
    have y2 := cell_of hp1 2
    have y3 := cell_of hp1 3
    have gf0 := gf 0
    simp at g0 g2 y0 y1 y2 y3
    have hl1 : L.l < w1.heap.size := heap_lt hb1
    have hsz : w.heap.size < w1.heap.size := heap_lt hp1
    have Hb := Lib.hid hb1
    have Hf := Lib.hid hF1
    have ag : (Value.slice ao L.ps.length cap).ownBlock ≠ some L.l := by rw [← Hv.out]; exact h.d2
    have ap : (Value.slice ao L.ps.length cap).ownBlock ≠ some w.heap.size := fun e => by rw [← Hv.out] at e; have := (h.row.lt _ e).2; omega
    have Hrow := Lib.hid row1
    clear k0 k1 q0 hst1 hp1 hb1 hF1 gf row1
    go_wp2
    go_region_law
      ((refine step_append_lies _ (by rfl) _ _ _ (by rfl) 0 53 i0 _ 4 48 Tryz.underlying50 hi0 hz0 hz1 hz2 rfl (by omega) (.slice ao L.ps.length cap) L.ps.length (L.ps.flatMap Post.cells) (by rfl) ((Hrow.out.alloc _).drew)
          ⟨w1.heap.size, 0, none⟩ 1 1 [.string key, .int .i64 amount, .int .i64 state, .string answer] (by rfl) (by rfl) (World.news_of_block (cs := #[.string key, .int .i64 amount, .int .i64 state, .string answer]) (t := 53) (fr := (0, 0)) (heap_alloc_new w1 _)) (by simp [Value.oneCell'])
          (by omega) (by unfold maxLen; omega) (by omega) (by simp) (w1.heap.size + 1) (by simp) ?_; intro gg cap2 w2 hown2 hgrow2 hat hlt
        have hob : w2.heap[L.l]? = _ := (hgrow2.block L.l (by simp; omega) (Ne.symm ag)).trans ((Below.heap_alloc w1 _ _ hl1).trans Hb.out)
        have z0 := cell_of hob 0
        have z2 := cell_of hob 2
        have zf0 := free_of hob 0
        have zf2 := free_of hob 2
        simp at z0 z2
        have Hob := Lib.hid hob
        clear hob))
    all_goals go_wp2
    all_goals go_ret
    all_goals
      obtain ⟨L', h1, h2, h3, h4, h5⟩ := add_close h HE.out Hf.out Hmap.out (by rw [Hv.out]; exact hgrow2) hown2 (by rw [Hv.out]; exact hat) Hsum.out
      exact ⟨L', h1, h2, h3, rfl, h4, h5⟩

set_option maxRecDepth 100000 in
set_option maxHeartbeats 1000000 in
theorem add_total (L : Led) (w : World) (h : L.At w) (p : Post) (hs : p.key.size ≤ maxLen) (hE : addE L.ps p = 19) :
    Calls Tryz.prog 175 #[.pointer (some ⟨L.l, 0, none⟩), p.val] w fun e w' => e = .returned (.int .i64 19) ∧ Fr noBlock w w' := by
  have c0 := cell_of h.blk 0
  have c1 := cell_of h.blk 1
  have c2 := cell_of h.blk 2
  simp at c0 c1 c2
  have hl := heap_lt h.blk
  have hlook := fun w' (hf : Fr noBlock w w') => look_led L w h p.key hs hf (fun h => h)
  obtain ⟨key, amount, state, answer⟩ := p
  unfold Post.val
  have hL1 := fun n => hlook _ (((Fr.refl noBlock w).alloc (.cells #[.string key, .int .i64 amount, .int .i64 state, .string answer] 53)).drewN n)
  clear hlook
  obtain ⟨ao, cap, hv⟩ := h.shape
  rw [hv] at c0
  clear hv
  unfold addE at hE
  simp only at hL1
  have hm : ¬ Post.may ⟨key, amount, state, answer⟩ = false := fun hm => by simp [hm] at hE
  rw [if_neg hm] at hE
  have Hm : Hid (Post.may ⟨key, amount, state, answer⟩ = true) := Lib.hid (by simpa using hm)
  have hi : ¬ (posOf L.ps key).isSome = true := fun hi => by simp [hi] at hE
  rw [if_neg hi] at hE
  have hi' : (posOf L.ps key).isSome = false := by simpa using hi
  rw [hi'] at hL1
  generalize ((posOf L.ps key).getD 0) = pos at hL1
  have h24 : ¬ 24 ≤ L.ps.length := fun h24 => by simp [h24] at hE
  rw [if_neg h24] at hE
  have h24' : (L.ps.length : Int) < 24 := by omega
  have h19 : 5000000000000 - sumA L.ps < Post.counts ⟨key, amount, state, answer⟩ := by
    refine Decidable.byContradiction fun hn => ?_
    rw [if_neg (by omega)] at hE
    simp at hE
  obtain ⟨ha0, ha1⟩ := counts_mk Hm.out
  have hs0 := sumA_nonneg h.good.may
  have hs1 := h.good.total
  clear hE hm hi hi' h24
  have hcnt : Post.counts ⟨key, amount, state, answer⟩ = if (state == 1) = true then amount else 0 := by simp [Post.counts]
  by_cases hst : (state == 1) = true
  · rw [hcnt, if_pos hst] at h19
    clear hcnt
    go_enter Tryz.func175, Tryz.ntmps175
    go_wp2
    go_quiet (fail)
    go_wp2_with (go_at_call 240; refine (may_raw key answer amount state true Hm.out _).mono ?_; rintro e w' ⟨rfl, rfl⟩)
    go_ret
    exact ⟨rfl, ((((Fr.refl _ _).alloc _).drewN _).alloc _)⟩
  · rw [hcnt, if_neg hst] at h19
    omega

theorem add_any (L : Led) (w : World) (h : L.At w) (p : Post) (hs : p.key.size ≤ maxLen) :
    Calls Tryz.prog 175 #[.pointer (some ⟨L.l, 0, none⟩), p.val] w fun e w' => ∃ L' : Led, L'.At w' ∧ L'.l = L.l ∧ L'.ps = addL L.ps p ∧ e = .returned (.int .i64 (addE L.ps p)) ∧ Fr L.foot w w' ∧ ∀ k, L'.foot k → L.foot k ∨ w.heap.size ≤ k := by
  by_cases h0 : addE L.ps p = 0
  · refine (add_ok L w h p hs h0).mono ?_
    rintro e w' ⟨L', h1, h2, h3, h4, h5⟩
    exact ⟨L', h1, h2, by rw [h3, addL, if_pos h0], by rw [h4, h0], h5⟩
  · have hno : Calls Tryz.prog 175 #[.pointer (some ⟨L.l, 0, none⟩), p.val] w fun e w' => e = .returned (.int .i64 (addE L.ps p)) ∧ Fr noBlock w w' := by
      by_cases h19 : addE L.ps p = 19
      · rw [h19]; exact add_total L w h p hs h19
      · exact add_no L w h p hs h0 h19
    refine hno.mono ?_
    rintro e w' ⟨he, hf⟩
    exact ⟨L, h.fr hf (fun _ _ x => x), rfl, by rw [addL, if_neg h0], he, hf.mono (fun _ x => x.elim), fun k hk => .inl hk⟩
end Go.Proofs.YtajhgejhdalobaaGreatDoor.Lg
namespace Go.Proofs.YtajhgejhdalobaaGreatDoor.Lg
open Go.RowKit

set_option maxRecDepth 100000 in
set_option maxHeartbeats 400000 in
theorem approve_any (L : Led) (w : World) (h : L.At w) (key : ByteArray) (amount : Int) (answer : ByteArray) (hs : key.size ≤ maxLen) :
    Calls Tryz.prog 112 #[.pointer (some ⟨L.l, 0, none⟩), .string key, .int .i64 amount, .string answer] w fun e w' => ∃ L' : Led, L'.At w' ∧ L'.l = L.l ∧ L'.ps = addL L.ps ⟨key, amount, 1, answer⟩ ∧ e = .returned (.int .i64 (addE L.ps ⟨key, amount, 1, answer⟩)) ∧ Fr L.foot w w' ∧ ∀ k, L'.foot k → L.foot k ∨ w.heap.size ≤ k := by
  have hc := add_any L w h ⟨key, amount, 1, answer⟩ hs
  unfold Post.val at hc
  have Hc := Lib.hid hc
  have Hh := Lib.hid h
  clear hc h
  go_enter Tryz.func112, Tryz.ntmps112
  go_wp2_with (go_at_call 175; refine Hc.out.mono ?_; rintro e w' ⟨L', h1, h2, h3, rfl, h5⟩; have H1 := Lib.hid h1; have H2 := Lib.hid h2; have H3 := Lib.hid h3; clear h1 h2 h3)
  go_ret
  exact ⟨L', H1.out, H2.out, H3.out, rfl, h5⟩

def askP (ps : List Post) (s : ByteArray) : Option Post := ps.find? (fun p => decide (p.key = s))

theorem askP_of {ps : List Post} {s : ByteArray} {x : Int} (h : posOf ps s = some x) : ∃ (k : Nat) (hk : k < ps.length), x = k ∧ ps[k].key = s ∧ askP ps s = some ps[k] := by
  unfold posOf at h
  rw [Option.map_eq_some_iff] at h
  obtain ⟨k, hk, rfl⟩ := h
  have hk' := hk
  rw [List.findIdx?_eq_some_iff_getElem] at hk
  obtain ⟨hlt, h1, h2⟩ := hk
  refine ⟨k, hlt, rfl, by simpa using h1, ?_⟩
  unfold askP
  rw [List.find?_eq_some_iff_getElem]
  exact ⟨h1, k, hlt, rfl, fun j hj => by simpa using h2 j hj⟩
theorem askP_none {ps : List Post} {s : ByteArray} (h : posOf ps s = none) : askP ps s = none := by
  rw [posOf_none] at h
  simp [askP]
  exact h

theorem flat_get {ps : List Post} {k : Nat} (hk : k < ps.length) {j : Nat} (hj : j < 4) : (ps.flatMap Post.cells)[k * 4 + j]? = ps[k].cells[j]? := by
  induction ps generalizing k with
  | nil => simp at hk
  | cons p ps ih =>
    rw [List.flatMap_cons]
    cases k with
    | zero =>
      rw [List.getElem?_append_left (by simp [Post.cells]; omega)]
      simp
    | succ k =>
      have e : (k + 1) * 4 + j = p.cells.length + (k * 4 + j) := by simp [Post.cells]; omega
      rw [e, List.getElem?_append_right (by omega)]
      simp only [Nat.add_sub_cancel_left]
      rw [ih (by simpa using hk)]
      simp

theorem Led.At.post {L : Led} {w : World} (h : L.At w) {k : Nat} (hk : k < L.ps.length) :
    ∃ g cap, L.v = .slice (some ⟨g, 0, none⟩) L.ps.length cap ∧ L.ps.length ≤ cap ∧ w.cell? ⟨g, k * 4, none⟩ = some (.string L.ps[k].key) ∧ w.cell? ⟨g, k * 4 + 1, none⟩ = some (.int .i64 L.ps[k].amount) ∧
      w.cell? ⟨g, k * 4 + 2, none⟩ = some (.int .i64 L.ps[k].state) ∧ w.cell? ⟨g, k * 4 + 3, none⟩ = some (.string L.ps[k].answer) := by
  rcases h.row.2 with ⟨_, h2⟩ | ⟨g, cap, cur, hv, _, hg, hcap, _⟩
  · omega
  · have hc := h.row.cells (g := g) (by rw [hv]; rfl)
    refine ⟨g, cap, hv, hcap, ?_, ?_, ?_, ?_⟩
    · have := hc (k * 4 + 0) _ ((flat_get hk (j := 0) (by omega)).trans rfl); rwa [Addr.add_lit, Nat.zero_add] at this
    · have := hc (k * 4 + 1) _ ((flat_get hk (j := 1) (by omega)).trans rfl); rwa [Addr.add_lit, Nat.zero_add] at this
    · have := hc (k * 4 + 2) _ ((flat_get hk (j := 2) (by omega)).trans rfl); rwa [Addr.add_lit, Nat.zero_add] at this
    · have := hc (k * 4 + 3) _ ((flat_get hk (j := 3) (by omega)).trans rfl); rwa [Addr.add_lit, Nat.zero_add] at this

def zeroPost : Post := ⟨⟨#[]⟩, 0, 0, ⟨#[]⟩⟩

set_option maxRecDepth 100000 in
set_option maxHeartbeats 400000 in
theorem ask_any (L : Led) (w : World) (h : L.At w) (s : ByteArray) (hs : s.size ≤ maxLen) :
    Calls Tryz.prog 106 #[.pointer (some ⟨L.l, 0, none⟩), .string s] w fun e w' => e = .returned (.tuple #[((askP L.ps s).getD zeroPost).val, .bool (askP L.ps s).isSome]) ∧ Fr noBlock w w' := by
  have c0 := cell_of h.blk 0
  have c1 := cell_of h.blk 1
  simp at c0 c1
  have hl := heap_lt h.blk
  have hL1 := look_led L w h s hs ((Fr.refl noBlock w).alloc (.cells #[.string ⟨#[]⟩, .int .i64 0, .int .i64 0, .string ⟨#[]⟩] 53)) (fun h => h)
  cases hp : posOf L.ps s with
  | none =>
    rw [askP_none hp]
    rw [hp] at hL1
    simp only [Option.getD_none, Option.isSome_none] at hL1
    clear hp
    go_enter Tryz.func106, Tryz.ntmps106
    go_wp2
    exact bodyPost_ret (v := .tuple #[zeroPost.val, .bool false]) (by simp [results, Tryz.results106, go_sem, zeroPost, Post.val]) rfl ⟨rfl, (Fr.refl _ _).alloc _⟩
  | some x =>
    obtain ⟨k, hk, rfl, hkey, hask⟩ := askP_of hp
    obtain ⟨g, cap, hv, hcap, p0, p1, p2, p3⟩ := h.post hk
    rw [hask]
    rw [hp] at hL1
    simp only [Option.getD_some, Option.isSome_some] at hL1
    rw [hv] at c0
    have Hv := Lib.hid hv
    clear hp hask hv hkey
    have hk' : (k : Int) < (L.ps.length : Int) := by omega
    have hk0 : (0 : Int) ≤ (k : Int) := by omega
    generalize L.ps[k] = p at *
    have hgl := World.block_lt_of_cell? w _ p0
    simp only at hgl
    go_enter Tryz.func106, Tryz.ntmps106
    go_wp2
    exact bodyPost_ret (v := .tuple #[p.val, .bool true]) (by simp [results, Tryz.results106, go_sem, Post.val]) rfl ⟨rfl, (Fr.refl _ _).alloc _⟩
end Go.Proofs.YtajhgejhdalobaaGreatDoor.Lg
namespace Go.Proofs.YtajhgejhdalobaaGreatDoor.Lg
open Go.RowKit

theorem ownsRow_set {w : World} {base : Nat} {e : TypeId} {size : Nat} {g len cap n : Nat} {xs : List Value} (h : w.ownsRow base e size (.slice (some ⟨g, 0, none⟩) len cap) n xs) (i : Nat) (u : Value) :
    (w.setCell ⟨g, i, none⟩ u).ownsRow base e size (.slice (some ⟨g, 0, none⟩) len cap) n (xs.set i u) := by
  obtain ⟨h1, h2 | ⟨g', cap', cur, hv, hb, hg, hn, hm, hc, ht⟩⟩ := h
  · simp at h2
  · simp only [Value.slice.injEq, Option.some.injEq, Addr.mk.injEq, and_true] at hv
    obtain ⟨rfl, rfl, rfl⟩ := hv
    refine ⟨by simpa using h1, .inr ⟨g, cap, cur.setIfInBounds i u, rfl, hb, heap_set_eq hg, hn, hm, by simpa using hc, ?_⟩⟩
    rw [Array.toList_setIfInBounds, List.take_set, ht]

def revP (p : Post) : Post := { p with state := 2 }
def revE (ps : List Post) (s : ByteArray) : Int := match askP ps s with | none => 15 | some p => if p.state = 2 then 20 else 0
def revN (ps : List Post) (s : ByteArray) : Int := match askP ps s with | none => 0 | some p => if p.state = 2 then 0 else p.amount
def revL (ps : List Post) (s : ByteArray) : List Post := match posOf ps s with | none => ps | some x => ps.modify x.toNat revP

theorem flat_set {ps : List Post} {k : Nat} (hk : k < ps.length) : (ps.flatMap Post.cells).set (k * 4 + 2) (.int .i64 2) = (ps.modify k revP).flatMap Post.cells := by
  induction ps generalizing k with
  | nil => simp at hk
  | cons p ps ih =>
    cases k with
    | zero => simp [List.flatMap_cons, Post.cells, revP]
    | succ k =>
      have := ih (k := k) (by simpa using hk)
      rw [List.modify_succ_cons, List.flatMap_cons, List.flatMap_cons, ← this]
      have e : (k + 1) * 4 + 2 = p.cells.length + (k * 4 + 2) := by simp [Post.cells]; omega
      rw [e, List.set_append_right _ _ (by omega)]
      simp
theorem keys_modify (ps : List Post) (k : Nat) : (ps.modify k revP).map Post.key = ps.map Post.key := by
  induction ps generalizing k with
  | nil => simp
  | cons p ps ih => cases k with
    | zero => simp [revP]
    | succ k => simp [List.modify_succ_cons, ih]
theorem posOf_keys {ps qs : List Post} (h : ps.map Post.key = qs.map Post.key) (s : ByteArray) : posOf ps s = posOf qs s := by
  have e : ∀ l : List Post, l.findIdx? (fun p => decide (p.key = s)) = (l.map Post.key).findIdx? (fun a => decide (a = s)) := fun l => by rw [List.findIdx?_map]; rfl
  unfold posOf
  rw [e, e, h]
theorem sum_modify {ps : List Post} {k : Nat} (hk : k < ps.length) (hs : ps[k].state ≠ 2) (hm : ps[k].may = true) : sumA (ps.modify k revP) = sumA ps - ps[k].amount := by
  induction ps generalizing k with
  | nil => simp at hk
  | cons p ps ih =>
    cases k with
    | zero =>
      simp only [List.getElem_cons_zero] at hs hm ⊢
      have : p.state = 1 := by
        simp only [Post.may, Bool.and_eq_true, Bool.or_eq_true, beq_iff_eq] at hm
        omega
      simp [sumA, revP, Post.counts, this]
      omega
    | succ k =>
      simp only [List.getElem_cons_succ] at hs hm ⊢
      have := ih (k := k) (by simpa using hk) hs hm
      simp only [sumA, List.modify_succ_cons, List.map_cons, List.sum_cons] at this ⊢
      omega
theorem may_rev {p : Post} (h : p.may = true) : (revP p).may = true := by
  simp only [Post.may, revP, Bool.and_eq_true, Bool.or_eq_true] at h ⊢
  exact ⟨h.1, .inr rfl⟩
theorem mem_modify {ps : List Post} {k : Nat} {q : Post} (h : q ∈ ps.modify k revP) : q ∈ ps ∨ ∃ p ∈ ps, q = revP p := by
  induction ps generalizing k with
  | nil => simp at h
  | cons p ps ih =>
    cases k with
    | zero =>
      simp only [List.modify_zero_cons, List.mem_cons] at h
      rcases h with h | h
      · exact .inr ⟨p, by simp, h⟩
      · exact .inl (List.mem_cons_of_mem _ h)
    | succ k =>
      simp only [List.modify_succ_cons, List.mem_cons] at h
      rcases h with h | h
      · exact .inl (by simp [h])
      · rcases ih h with h | ⟨p', h, e⟩
        · exact .inl (List.mem_cons_of_mem _ h)
        · exact .inr ⟨p', List.mem_cons_of_mem _ h, e⟩
theorem good_rev {ps : List Post} {k : Nat} (h : Good ps) (hk : k < ps.length) (hs : ps[k].state ≠ 2) : Good (ps.modify k revP) := by
  have hm := h.may _ (List.getElem_mem hk)
  refine ⟨fun q hq => ?_, by rw [keys_modify]; exact h.keys, by simpa using h.len, ?_⟩
  · rcases mem_modify hq with hq | ⟨p, hp, rfl⟩
    · exact h.may q hq
    · exact may_rev (h.may p hp)
  · rw [sum_modify hk hs hm]
    have h1 := h.total
    simp only [Post.may, Bool.and_eq_true, decide_eq_true_eq] at hm
    omega

theorem reverse_close {L : Led} {w : World} (h : L.At w) {g cap : Nat} (hv : L.v = .slice (some ⟨g, 0, none⟩) L.ps.length cap) {k : Nat} (hk : k < L.ps.length) (hs : L.ps[k].state ≠ 2) {W : World} (hW : W = w.setCell ⟨g, k * 4 + 2, none⟩ (.int .i64 2)) {tot : Int}
    (ht : sumA (L.ps.modify k revP) = tot) {n : Nat} :
    (⟨L.l, L.bm, L.v, L.ps.modify k revP⟩ : Led).At ((W.setCell ⟨L.l, 2, none⟩ (.int .i64 tot)).drewN n) ∧ Fr L.foot w ((W.setCell ⟨L.l, 2, none⟩ (.int .i64 tot)).drewN n) := by
  have hgl : g ≠ L.l := fun e => h.d2 (by rw [hv, ← e]; rfl)
  have hgm : g ≠ L.bm := fun e => h.d3 (by rw [hv, ← e]; rfl)
  have f1 : Fr (fun k => k = g) w W := by subst hW; exact (Fr.refl (fun k => k = g) _).setCell (.inl rfl) _
  have f2 : Fr (fun k => k = L.l) W ((W.setCell ⟨L.l, 2, none⟩ (.int .i64 tot)).drewN n) := ((Fr.refl (fun k => k = L.l) _).setCell (.inl rfl) _).drewN n
  have hrow := h.row
  rw [hv] at hrow
  have hrow1 := ownsRow_set hrow (k * 4 + 2) (.int .i64 2)
  rw [flat_set hk, ← hW] at hrow1
  refine ⟨⟨?_, ?_, ?_, h.d1, h.d2, h.d3, good_rev h.good hk hs⟩, ?_⟩
  · have hb : W.heap[L.l]? = _ := f1.obj h.blk (fun e => hgl e.symm)
    have := heap_set_eq (i := 2) (u := .int .i64 tot) hb
    show (W.setCell ⟨L.l, 2, none⟩ (.int .i64 tot)).heap[L.l]? = _
    simpa [ht] using this
  · have := ownsRow_fr hrow1 f2 (fun k hk e => hgl (by simp [Value.ownBlock] at hk; omega))
    rw [hv]
    simpa using this
  · exact (((h.map.fr f1 (fun e => hgm e.symm)).fr f2 (fun e => h.d1 e.symm)).congr (fun s => posOf_keys (keys_modify L.ps k).symm s)).mono (by simp)
  · exact (f1.mono (T := L.foot) (fun k hk => .inr (.inr (by rw [hv]; exact congrArg some hk.symm)))).trans f2 (fun k hk => .inl (.inl hk))

set_option maxRecDepth 100000 in
set_option maxHeartbeats 1000000 in
theorem reverse_any (L : Led) (w : World) (h : L.At w) (s : ByteArray) (hsz : s.size ≤ maxLen) :
    Calls Tryz.prog 115 #[.pointer (some ⟨L.l, 0, none⟩), .string s] w fun e w' => ∃ L' : Led, L'.At w' ∧ L'.l = L.l ∧ L'.ps = revL L.ps s ∧ e = .returned (.tuple #[.int .i64 (revN L.ps s), .int .i64 (revE L.ps s)]) ∧ Fr L.foot w w' ∧ ∀ k, L'.foot k → L.foot k ∨ w.heap.size ≤ k := by
  have c0 := cell_of h.blk 0
  have c1 := cell_of h.blk 1
  have c2 := cell_of h.blk 2
  simp at c0 c1 c2
  have hl := heap_lt h.blk
  have hL1 := look_led L w h s hsz (Fr.refl noBlock w) (fun h => h)
  cases hp : posOf L.ps s with
  | none =>
    have hA := askP_none hp
    rw [hp] at hL1
    simp only [Option.getD_none, Option.isSome_none] at hL1
    have H1 : Hid (revN L.ps s = 0 ∧ revE L.ps s = 15 ∧ revL L.ps s = L.ps) := Lib.hid ⟨by simp [revN, hA], by simp [revE, hA], by simp [revL, hp]⟩
    clear hp hA
    go_enter Tryz.func115, Tryz.ntmps115
    go_wp2
    go_ret2
    exact ⟨L, h, rfl, H1.out.2.2.symm, by rw [H1.out.1, H1.out.2.1]; rfl, Fr.refl _ _, fun k hk => .inl hk⟩
  | some x =>
    obtain ⟨k, hk, rfl, hkey, hask⟩ := askP_of hp
    obtain ⟨g, cap, hv, hcap, p0, p1, p2, p3⟩ := h.post hk
    rw [hp] at hL1
    simp only [Option.getD_some, Option.isSome_some] at hL1
    rw [hv] at c0
    have hgl := World.block_lt_of_cell? w _ p0
    simp only at hgl
    have hk' : (k : Int) < (L.ps.length : Int) := by omega
    have hk0 : (0 : Int) ≤ (k : Int) := by omega
    have hmay := h.good.may _ (List.getElem_mem hk)
    have hgne : g ≠ L.l := fun e => h.d2 (by rw [hv, ← e]; rfl)
    have hrow := h.row
    rw [hv] at hrow
    obtain ⟨_, _, h2 | ⟨g', cap', cur, hv', hb, hg, _⟩⟩ := (⟨0, hrow⟩ : ∃ _ : Nat, w.ownsRow 0 53 4 (.slice (some ⟨g, 0, none⟩) L.ps.length cap) L.ps.length (L.ps.flatMap Post.cells))
    · omega
    have hfz : w.frozen? ⟨g, k * 4 + 2, none⟩ = false := by
      simp only [Value.slice.injEq, Option.some.injEq, Addr.mk.injEq, and_true] at hv'
      obtain ⟨rfl, _⟩ := hv'
      exact free_of hg _
    have hfl := free_of h.blk 2
    have ham : 0 ≤ L.ps[k].amount ∧ L.ps[k].amount ≤ 999999999999 := by
      simp only [Post.may, Bool.and_eq_true, decide_eq_true_eq] at hmay; omega
    by_cases hs : L.ps[k].state = 2
    · have H1 : Hid (revN L.ps s = 0 ∧ revE L.ps s = 20 ∧ revL L.ps s = L.ps.modify k revP) := Lib.hid ⟨by simp [revN, hask, hs], by simp [revE, hask, hs], by simp [revL, hp]⟩
      have H2 : Hid (L.ps.modify k revP = L.ps) := Lib.hid (by
        apply List.ext_getElem
        · simp
        · intro i h1 h2
          rw [List.getElem_modify]
          split
          · rename_i e; subst e; simp [revP]; rw [← hs]
          · rfl)
      rw [hs] at p2
      clear hp hask hv hrow hv' hkey hs
      generalize L.ps[k] = p at *
      go_enter Tryz.func115, Tryz.ntmps115
      go_wp2
      go_ret2
      exact ⟨L, h, rfl, by rw [H1.out.2.2, H2.out], by rw [H1.out.1, H1.out.2.1]; rfl, Fr.refl _ _, fun k hk => .inl hk⟩
    · have H1 : Hid (revN L.ps s = L.ps[k].amount ∧ revE L.ps s = 0 ∧ revL L.ps s = L.ps.modify k revP) := Lib.hid ⟨by simp [revN, hask, hs], by simp [revE, hask, hs], by simp [revL, hp]⟩
      have hsum := sum_modify hk hs hmay
      have hgr := good_rev h.good hk hs
      have hn0 := sumA_nonneg hgr.may
      have hn1 := sumA_nonneg h.good.may
      have hn2 := h.good.total
      rw [hsum] at hn0
      have Hcl := Lib.hid (fun (W : World) (n : Nat) hW => reverse_close (W := W) h hv hk hs hW hsum (n := n))
      have hs' : (L.ps[k].state == 2) = false := by simpa using hs
      clear hp hask hv hrow hv' hkey hs hsum hgr
      have Hh := Lib.hid h
      clear h
      generalize hpk : L.ps[k] = p at *
      have Hpk := Lib.hid hpk
      clear hpk
      go_enter Tryz.func115, Tryz.ntmps115
      go_wp2
      have q1 : (w.setCell ⟨g, k * 4 + 2, none⟩ (.int .i64 2)).cell? ⟨g, k * 4 + 1, none⟩ = some (.int .i64 p.amount) := (World.cell?_setCell_other _ _ _ _ (by simp)).trans p1
      have q2 : (w.setCell ⟨g, k * 4 + 2, none⟩ (.int .i64 2)).cell? ⟨L.l, 2, none⟩ = some (.int .i64 (sumA L.ps)) := (World.cell?_setCell_other _ _ _ _ (by simp)).trans c2
      have q3 : (w.setCell ⟨g, k * 4 + 2, none⟩ (.int .i64 2)).frozen? ⟨L.l, 2, none⟩ = false := by simpa using hfl
      refine wp_at (fun W => Hid (W = w.setCell ⟨g, k * 4 + 2, none⟩ (.int .i64 2)) ∧ W.cell? ⟨g, k * 4 + 1, none⟩ = some (.int .i64 p.amount) ∧ W.cell? ⟨L.l, 2, none⟩ = some (.int .i64 (sumA L.ps)) ∧ W.frozen? ⟨L.l, 2, none⟩ = false) ⟨Lib.hid rfl, q1, q2, q3⟩ ?_
      intro W hW
      obtain ⟨HW, r1, r2, r3⟩ := hW
      clear q1 q2 q3 p0 p1 p2 p3 c0 c1 c2 hL1 hfz hfl
      go_region
      go_wp2
      go_ret2
      obtain ⟨hc1, hc2⟩ := Hcl.out W 1 HW.out
      exact ⟨⟨L.l, L.bm, L.v, L.ps.modify k revP⟩, hc1, rfl, H1.out.2.2.symm, by rw [H1.out.1, H1.out.2.1]; rfl, hc2, fun k hk => .inl hk⟩
end Go.Proofs.YtajhgejhdalobaaGreatDoor.Lg
namespace Go.Proofs.YtajhgejhdalobaaGreatDoor.Lg
open Go.RowKit

def PostsAt (w : World) (v : Value) (ps : List Post) : Prop := w.ownsRow 0 53 4 v ps.length (ps.flatMap Post.cells)

set_option maxRecDepth 100000 in
set_option maxHeartbeats 400000 in
theorem clone_any (v : Value) (ps : List Post) (w : World) (h : PostsAt w v ps) (hlen : ps.length ≤ 100000) :
    Calls Tryz.prog 128 #[v] w fun e w' => ∃ v', e = .returned v' ∧ PostsAt w' v' ps ∧ Fr noBlock w w' ∧ ∀ k, v'.ownBlock = some k → w.heap.size ≤ k := by
  obtain ⟨i0, hi0, hz0, hz1, hz2⟩ := info_parts info_post
  rcases h.2 with ⟨rfl, h0⟩ | ⟨g, cap, cur, rfl, _, hg, hcap, _⟩
  · have hps : ps = [] := List.eq_nil_of_length_eq_zero h0
    subst hps
    have he := fun w : World => Lib.run_eql_slice_nil (P := Tryz.prog) w 50 53 none 0 0 0 0 Tryz.underlying50
    go_enter Tryz.func128, Tryz.ntmps128
    go_wp2
    go_ret
    exact ⟨_, rfl, h, Fr.refl _ _, fun k hk => by simp [Value.ownBlock] at hk⟩
  · have he := fun w : World => Lib.run_eql_slice_nil (P := Tryz.prog) w 50 53 (some ⟨g, 0, none⟩) ps.length cap 0 0 Tryz.underlying50
    have hc := h.cells (g := g) rfl
    have hl := h.1
    have hgl := heap_lt hg
    have Hc := Lib.hid hc
    have Hl := Lib.hid hl
    have h1 : ∀ u ∈ ps.flatMap Post.cells, u.oneCell' = true := by
      intro u hu
      obtain ⟨p, _, hp⟩ := List.mem_flatMap.1 hu
      simp [Post.cells] at hp
      rcases hp with rfl | rfl | rfl | rfl <;> rfl
    have H1 := Lib.hid h1
    clear hc hl h1
    go_enter Tryz.func128, Tryz.ntmps128
    go_wp2_with (at_builtin; refine wpList_append_own_at (base := 0) (w := w.alloc (.cells #[] 53)) rfl _ _ _ rfl 53 i0 _ 4 48 Tryz.underlying50 hi0 hz0 hz1 hz2 rfl (by decide) _ 0 [] rfl ?c1 ⟨g, 0, none⟩ ps.length cap (ps.flatMap Post.cells) rfl ?c2 ?c3 ?c4 ?c5 ?c6 ?c7 ?_)
    case c1 => exact World.ownsRow_made w #[] 0 (Nat.zero_le _) (Nat.zero_le _) (by simp)
    case c2 => exact Hl.out
    case c3 => intro j u hu; exact (World.cell?_alloc_lt _ _ _ (by rw [Addr.add_lit]; exact hgl)).trans (Hc.out j u hu)
    case c4 => exact H1.out
    case c5 => unfold maxLen; omega
    case c6 => omega
    case c7 => exact Nat.zero_le _
    intro v' w1 hown hgrow _ hat
    have hF : Fr noBlock w w1 := ((Fr.refl noBlock w).alloc _).grown hgrow (by intro k hk; simp [Value.ownBlock] at hk; exact .inr (by omega))
    go_wp2
    go_ret
    refine ⟨v', rfl, hown, hF, fun k hk => ?_⟩
    rcases hat with hat | hat <;> (rw [hk] at hat; simp [Value.ownBlock] at hat; omega)

set_option maxRecDepth 100000 in
set_option maxHeartbeats 400000 in
theorem list_any (L : Led) (w : World) (h : L.At w) :
    Calls Tryz.prog 57 #[.pointer (some ⟨L.l, 0, none⟩)] w fun e w' => ∃ v', e = .returned v' ∧ PostsAt w' v' L.ps ∧ Fr noBlock w w' ∧ ∀ k, v'.ownBlock = some k → w.heap.size ≤ k := by
  have c0 := cell_of h.blk 0
  simp at c0
  have hg := h.good.len
  have hc := clone_any L.v L.ps w h.row (by omega)
  obtain ⟨ao, cap, hv⟩ := h.shape
  rw [hv] at c0 hc
  have Hc := Lib.hid hc
  clear hc hv h
  go_enter Tryz.func57, Tryz.ntmps57
  go_wp2_with (go_at_call 128; refine Hc.out.mono ?_; rintro e w' ⟨v', rfl, h1, h2, h3⟩)
  go_ret
  exact ⟨v', rfl, h1, h2, h3⟩
end Go.Proofs.YtajhgejhdalobaaGreatDoor.Lg
