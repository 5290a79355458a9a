/-
  A TENANT (plain): its answers' fields and types.
-/
import Derived.Sort.KeysCollected
import Derived.Maps.RangeWalk
import Derived.Test.YtajhgejhdalobaaGreatDoorLgList
import Derived.Test.YtajhgejhdalobaaGreatDoorPnP
import Derived.Test.YtajhgejhdalobaaGreatDoorTnP0
import Derived.Test.YtajhgejhdalobaaGreatDoorIsP4
import Derived.Test.YtajhgejhdalobaaGreatDoorLmTry
import Derived.Test.YtajhgejhdalobaaGreatDoorDgWalk
import Derived.Test.YtajhgejhdalobaaGreatDoorThing2
namespace Go.Proofs.YtajhgejhdalobaaGreatDoor
open Go.RowKit
open Go.WideMaps (keyOf_string_mk)

structure MapD (D : DataW Unit) (f : ByteArray → Option Int) (N : Nat) : Prop where
  size : Maps.size D = N
  says : ∀ s, Maps.has D (keyLit s) = (f s).isSome ∧ ∀ x, f s = some x → D.atKey (keyLit s) (.lit (.int .i64 0)) = .lit (.int .i64 x)
def MapAt (P : Program) (kt et : TypeId) (w : World) (b : Nat) (f : ByteArray → Option Int) (N : Nat) : Prop :=
  ∃ D : DataW Unit, w.ownsMap P kt (plainElem P et) b N D ∧ MapD D f N

theorem ownsMap_tight {P : Program} {k : TypeId} {R : Value → Option (DataW Unit × List MemPlace)} {w : World} {b n : Nat} {D : DataW Unit} (h : w.ownsMap P k R b n D) : w.ownsMap P k R b (Maps.size D) D := by
  obtain ⟨es, clock, hb, F, hs, rfl⟩ := h
  exact ⟨es, clock, hb, F, by simp [Maps.size, length_sorted], rfl⟩

namespace MapAt
variable {P : Program} {kt et mt : TypeId} {w w' : World} {b N : Nat} {f : ByteArray → Option Int}
theorem lt (h : MapAt P kt et w b f N) : b < w.heap.size := by obtain ⟨D, h, _⟩ := h; exact h.lt
theorem fr {S : Nat → Prop} (h : MapAt P kt et w b f N) (hf : Fr S w w') (hn : ¬ S b) : MapAt P kt et w' b f N := by
  obtain ⟨D, h, r⟩ := h; exact ⟨D, ownsMap_fr h hf hn, r⟩
theorem congr (h : MapAt P kt et w b f N) {g : ByteArray → Option Int} (hg : ∀ s, f s = g s) : MapAt P kt et w b g N := by rwa [← funext hg]
theorem mapIs (h : MapAt P kt et w b f N) : MapIs P kt et w b N f := by obtain ⟨D, h, r⟩ := h; exact ⟨D, h, r.says⟩
theorem made (P : Program) (kt et : TypeId) (w : World) : MapAt P kt et (w.alloc (.map #[] 0)) w.heap.size (fun _ => none) 0 :=
  ⟨.map [], World.ownsMap_made w P kt _, ⟨rfl, fun s => ⟨by simp [Maps.has_eq], fun x hx => by cases hx⟩⟩⟩
theorem look (h : MapAt P kt et w b f N) (hk : P.underlying kt = some .string) (ht : P.underlying mt = some (.map kt et)) (he : P.underlying et = some (.int .i64)) (hz : (zeroValue et).run P w = .ok (.int .i64 0) w) (s : ByteArray) (hs : s.size ≤ maxLen) :
    (Instr.lookup mt (.map (some b)) (.string s) true).run P w = .ok (.tuple #[.int .i64 ((f s).getD 0), .bool (f s).isSome]) w := h.mapIs.look hk ht he hz s hs
theorem look1 (h : MapAt P kt et w b f N) (hk : P.underlying kt = some .string) (ht : P.underlying mt = some (.map kt et)) (he : P.underlying et = some (.int .i64)) (hz : (zeroValue et).run P w = .ok (.int .i64 0) w) (s : ByteArray) (hs : s.size ≤ maxLen) :
    (Instr.lookup mt (.map (some b)) (.string s) false).run P w = .ok (.int .i64 ((f s).getD 0)) w := by
  obtain ⟨D, h, r⟩ := h
  obtain ⟨r1, r2⟩ := r.says s
  have hkey : keyOf P kt (.string s) = some (keyLit s) := keyOf_string_mk hk hs
  obtain ⟨c, hrun, hc, _⟩ := h.lookup_int (Maps.string_keyed hk) ht he hz hkey
  rw [hrun]
  cases hf : f s with
  | none =>
    rw [hf] at r1
    have := Maps.atKey_of_not_has (by simpa using r1) (.lit (.int .i64 0))
    rw [this] at hc
    have h0 : (0 : Int) = c := by simpa using hc
    simp [h0]
  | some x =>
    have := r2 x hf
    rw [this] at hc
    have h0 : x = c := by simpa using hc
    simp [h0]
theorem len (h : MapAt P kt et w b f N) (ht : P.underlying mt = some (.map kt et)) (ty : TypeId) : (Builtin.len_ #[mt] ty #[.map (some b)]).run P w = .ok (.int .i64 N) w := by
  obtain ⟨D, h, r⟩ := h
  rw [h.len ht ty, r.size]
theorem store (h : MapAt P kt et w b f N) (hk : P.underlying kt = some .string) (ht : P.underlying mt = some (.map kt et)) (he : P.underlying et = some (.int .i64)) (hn : N < maxLen) (s : ByteArray) (hs : s.size ≤ maxLen) (x : Int) (hx : (Lit.int .i64 x).wf = true) :
    ∃ w', (Instr.mapUpdate mt (.map (some b)) (.string s) (.int .i64 x)).run P w = .ok () w' ∧ MapAt P kt et w' b (fun t => if t = s then some x else f t) (if (f s).isSome then N else N + 1) ∧ w.mapTurned w' b := by
  obtain ⟨D, h, r⟩ := h
  have hkey : keyOf P kt (.string s) = some (keyLit s) := keyOf_string_mk hk hs
  have htd := h.tidy (Maps.string_keyed hk)
  have him := h.isMap
  have hl : WideAt.IsKeyLit (keyLit s) := by simp [WideAt.IsKeyLit]
  obtain ⟨w', hrun, h', ht'⟩ := h.store (Maps.string_keyed hk) ht hn hkey (plainElem_int he hx)
  have hsz : Maps.size (D.put (keyLit s) (.lit (.int .i64 x))) = if (f s).isSome then N else N + 1 := by
    rw [Maps.size_put htd, (r.says s).1, r.size]
  refine ⟨w', hrun, ⟨_, by have := ownsMap_tight h'; rwa [hsz] at this, ⟨hsz, fun t => ?_⟩⟩, ht'⟩
  by_cases e : t = s
  · subst e
    rw [Maps.has_put_same him hl, Maps.atKey_put_same him hl]
    simp
  · have hne : keyLit t ≠ keyLit s := fun h => e (keyLit_inj h)
    rw [Maps.has_put_other hne, Maps.atKey_put_other hne]
    simpa [e] using r.says t
theorem drop (h : MapAt P kt et w b f N) (hk : P.underlying kt = some .string) (ht : P.underlying mt = some (.map kt et)) (s : ByteArray) (hs : s.size ≤ maxLen) (hp : (f s).isSome = true) :
    ∃ w', (∀ ty, (Builtin.delete_ #[mt, kt] ty #[.map (some b), .string s]).run P w = .ok (.tuple #[]) w') ∧ MapAt P kt et w' b (fun t => if t = s then none else f t) (N - 1) ∧ w.mapTurned w' b := by
  obtain ⟨D, h, r⟩ := h
  have hkey : keyOf P kt (.string s) = some (keyLit s) := keyOf_string_mk hk hs
  have htd := h.tidy (Maps.string_keyed hk)
  obtain ⟨es, clock, hb, F, hs', hD⟩ := h
  have key : ∀ ty : TypeId, ∃ es', (Builtin.delete_ #[mt, kt] ty #[.map (some b), .string s]).run P w = .ok (.tuple #[]) (ChangeMaps.setBlock w b (.map es' clock)) ∧ (ChangeMaps.setBlock w b (.map es' clock)).ownsMap P kt (plainElem P et) b N (D.del (keyLit s)) := by
    intro ty
    obtain ⟨es', hrun, F', hle, hdel, _⟩ := Maps.fit_drop (ty := ty) (Maps.string_keyed hk) ht hb F hkey
    exact ⟨es', hrun, es', clock, ChangeMaps.heap_setBlock_same hb _, F', Nat.le_trans hle hs', by rw [hD, DataW.del_eq, hdel]⟩
  obtain ⟨es0, hrun0, h0⟩ := key 0
  have hall : ∀ ty, (Builtin.delete_ #[mt, kt] ty #[.map (some b), .string s]).run P w = .ok (.tuple #[]) (ChangeMaps.setBlock w b (.map es0 clock)) := fun ty => hrun0
  have hsz : Maps.size (D.del (keyLit s)) = N - 1 := by
    have := Maps.size_del (k := keyLit s) htd
    rw [(r.says s).1, hp, r.size] at this
    simp at this
    omega
  refine ⟨_, hall, ⟨_, by have := ownsMap_tight h0; rwa [hsz] at this, ⟨hsz, fun t => ?_⟩⟩, ⟨es, clock, es0, clock, hb, rfl⟩⟩
  by_cases e : t = s
  · subst e
    rw [Maps.has_del_same]
    simp
  · have hne : keyLit t ≠ keyLit s := fun h => e (keyLit_inj h)
    rw [Maps.has_del_other hne, Maps.atKey_del_other hne]
    simpa [e] using r.says t
end MapAt
end Go.Proofs.YtajhgejhdalobaaGreatDoor
namespace Go.Proofs.YtajhgejhdalobaaGreatDoor.Rt
open Go.RowKit

structure GoodR (rs : List Route) : Prop where
  sorted : Sorted rs
  len : rs.length ≤ 24
  pre : ∀ r ∈ rs, preB r.pre = true
  tgt : ∀ r ∈ rs, 1 ≤ r.target ∧ r.target ≤ 99

def mayR (s : ByteArray) (t : Int) : Bool := preB s && decide (1 ≤ t) && decide (t ≤ 99)
def putE (rs : List Route) (s : ByteArray) (t : Int) : Int := if mayR s t = false then 1 else if (lookR rs s).isSome = false ∧ 24 ≤ rs.length then 14 else 0
def putR (rs : List Route) (s : ByteArray) (t : Int) : List Route := if putE rs s t = 0 then putL rs s t else rs
def dropE (rs : List Route) (s : ByteArray) : Int := if (lookR rs s).isSome then 0 else 15
def dropR (rs : List Route) (s : ByteArray) : List Route := if (lookR rs s).isSome then dropL rs s else rs

theorem putE_zero {rs : List Route} {s : ByteArray} {t : Int} (h : putE rs s t = 0) : mayR s t = true ∧ ((lookR rs s).isSome = true ∨ rs.length < 24) := by
  unfold putE at h
  split at h
  · simp at h
  · rename_i h1
    split at h
    · simp at h
    · rename_i h2
      refine ⟨by simpa using h1, ?_⟩
      cases hl : (lookR rs s).isSome with
      | true => exact .inl rfl
      | false => exact .inr (Decidable.byContradiction fun hn => h2 ⟨hl, by omega⟩)
theorem mayR_iff {s : ByteArray} {t : Int} : mayR s t = true ↔ preB s = true ∧ 1 ≤ t ∧ t ≤ 99 := by simp [mayR, and_assoc]
theorem GoodR.nil : GoodR [] := ⟨List.Pairwise.nil, by simp, by simp, by simp⟩
theorem GoodR.put {rs : List Route} (h : GoodR rs) (s : ByteArray) (t : Int) : GoodR (putR rs s t) := by
  unfold putR
  split
  · rename_i h0
    obtain ⟨h1, h2⟩ := putE_zero h0
    obtain ⟨hp, ht0, ht1⟩ := mayR_iff.1 h1
    refine ⟨putL_sorted h.sorted s t, ?_, ?_, ?_⟩
    · rw [putL_len h.sorted]
      have := h.len
      rcases h2 with h2 | h2
      · rw [if_pos h2]; omega
      · split <;> omega
    · intro r hr
      rcases putL_mem hr with hr | rfl
      · exact h.pre r hr
      · exact hp
    · intro r hr
      rcases putL_mem hr with hr | rfl
      · exact h.tgt r hr
      · exact ⟨ht0, ht1⟩
  · exact h
theorem GoodR.drop {rs : List Route} (h : GoodR rs) (s : ByteArray) : GoodR (dropR rs s) := by
  unfold dropR
  split
  · refine ⟨dropL_sorted h.sorted s, ?_, ?_, ?_⟩
    · have := h.len
      have h2 := List.length_filter_le (fun r : Route => decide (r.pre ≠ s)) rs
      unfold dropL; omega
    · intro r hr
      exact h.pre r ((List.mem_filter.1 hr).1)
    · intro r hr
      exact h.tgt r ((List.mem_filter.1 hr).1)
  · exact h

def TableAt (l : Nat) (rs : List Route) : Thing := fun w F =>
  ∃ bm, w.heap[l]? = some (.cells #[.map (some bm)] 211 (0, 0)) ∧ MapAt Tryz.prog 9 3 w bm (lookR rs) rs.length ∧ l ≠ bm ∧ (∀ k, F k ↔ k = l ∨ k = bm) ∧ GoodR rs
theorem TableAt.ok {l : Nat} {rs : List Route} : (TableAt l rs).Ok := by
  refine ⟨?_, ?_⟩
  · rintro w F ⟨bm, h1, h2, _, h4, _⟩ k hk
    rcases (h4 k).1 hk with rfl | rfl
    · exact heap_lt h1
    · exact h2.lt
  · rintro w w' F S ⟨bm, h1, h2, h3, h4, h5⟩ hf hs
    exact ⟨bm, hf.obj h1 (hs _ ((h4 _).2 (.inl rfl))), h2.fr hf (hs _ ((h4 _).2 (.inr rfl))), h3, h4, h5⟩
def RTableAt (l : Nat) (rs : List Route) : Thing := fun w F => Hold 161 125 RouteR l rs w F ∧ GoodR rs
theorem RTableAt.ok {l : Nat} {rs : List Route} : (RTableAt l rs).Ok := ⟨fun h => Hold.ok.lt h.1, fun h hf hs => ⟨Hold.ok.fr h.1 hf hs, h.2⟩⟩

theorem zero_int (w : World) : (zeroValue 3).run Tryz.prog w = .ok (.int .i64 0) w := by kernel_rfl
theorem pre_len {s : ByteArray} (h : preB s = true) : s.size ≤ maxLen := by
  have := (preB_iff.1 h).2.2
  unfold maxLen; omega
end Go.Proofs.YtajhgejhdalobaaGreatDoor.Rt
namespace Go.Proofs.YtajhgejhdalobaaGreatDoor.Lm
open Go.RowKit

def UndoPost (l : Nat) (us : List Use) (r : Rule) (s : ByteArray) (a n : Int) (F : Nat → Prop) (w : World) (e : Ending) (w' : World) : Prop :=
  ∃ F', e = .returned (.int .i64 (undoE us r s a n)) ∧ Hold 213 128 UseR l (undoL us r s a n) w' F' ∧ Step F F' w w'
theorem undo_no {l : Nat} {us : List Use} {r : Rule} {s : ByteArray} {a n : Int} {F : Nat → Prop} {w w' : World} {e : Ending} (h : Hold 213 128 UseR l us w F) {x : Int} (he : e = .returned (.int .i64 x)) (hx : undoE us r s a n = x) (h0 : x ≠ 0) (hf : Fr noBlock w w') : UndoPost l us r s a n F w e w' :=
  ⟨F, by rw [hx]; exact he, by rw [undoL, if_neg (by rw [hx]; exact h0)]; exact Hold.ok.fr0 h hf, Step.same hf⟩
theorem undo_arg {us : List Use} {r : Rule} {s : ByteArray} {a n : Int} (h : mayB r s a n = false) : undoE us r s a n = 1 := by unfold undoE; rw [if_pos h]
theorem undo_none {us : List Use} {r : Rule} {s : ByteArray} {a n : Int} (h : mayB r s a n = true) (hf : findU us s = none) : undoE us r s a n = 15 := by unfold undoE; rw [if_neg (by simp [h]), find_of_none hf]
theorem undo_other {us : List Use} {r : Rule} {s : ByteArray} {a n : Int} (h : mayB r s a n = true) {k : Nat} (hf : findU us s = some k) (hk : k < us.length) (hx : us[k].window ≠ n / r.ticks ∨ us[k].times = 0 ∨ us[k].sum < a) : undoE us r s a n = 15 := by
  obtain ⟨_, _, h2⟩ := find_of_findU hf
  unfold undoE; rw [if_neg (by simp [h]), h2]; simp only; rw [if_pos hx]
theorem undo_ok {us : List Use} {r : Rule} {s : ByteArray} {a n : Int} (h : mayB r s a n = true) {k : Nat} (hf : findU us s = some k) (hk : k < us.length) (hx : ¬ (us[k].window ≠ n / r.ticks ∨ us[k].times = 0 ∨ us[k].sum < a)) : undoE us r s a n = 0 ∧ undoL us r s a n = us.set k (subU a us[k]) := by
  obtain ⟨_, _, h2⟩ := find_of_findU hf
  have : undoE us r s a n = 0 := by unfold undoE; rw [if_neg (by simp [h]), h2]; simp only; rw [if_neg hx]
  refine ⟨this, ?_⟩
  unfold undoL; rw [if_pos this, hf]; simp only; rw [modify_eq_set _ _ _ hk]

set_option maxRecDepth 100000 in
set_option maxHeartbeats 800000 in
theorem undo_bad {l : Nat} {us : List Use} {w : World} {F : Nat → Prop} (h : Hold 213 128 UseR l us w F) (r : Rule) (s : ByteArray) (a n : Int) (hm : mayB r s a n = false) :
    Calls Tryz.prog 117 #[.pointer (some ⟨l, 0, none⟩), r.val, .string s, .int .i64 a, .int .i64 n] w (UndoPost l us r s a n F w) := by
  have Hm := Lib.hid (fun W => may_any r s a n false hm W)
  have Hh := Lib.hid h
  have Ha := Lib.hid (undo_arg (us := us) hm)
  have hf0 := (Fr.refl noBlock w).alloc (.cells #[.int .i64 r.ticks, .int .i64 r.times, .int .i64 r.sum, .int .i64 r.once] 47)
  clear h hm
  obtain ⟨ticks, times, sum, once⟩ := r
  unfold Rule.val at *
  simp only at *
  go_enter Tryz.func117, Tryz.ntmps117
  go_wp2_with fail
  refine (Hm.out _).mono ?_
  rintro e w1 ⟨rfl, f1⟩
  go_wp2_with fail
  go_ret
  exact undo_no Hh.out rfl Ha.out (by omega) (hf0.trans' f1)

theorem hold_put2 {T : TypeId} {l : Nat} {us : List Use} {w : World} {F : Nat → Prop} (h : Hold T 128 UseR l us w F) {g n cap k : Nat} (hc : w.cell? ⟨l, 0, none⟩ = some (.slice (some ⟨g, 0, none⟩) n cap)) (hk : k < us.length) (a : Int) :
    Hold T 128 UseR l (us.set k (subU a us[k])) ((w.setCell ⟨g, k * 4 + 2, none⟩ (.int .i64 (us[k].times - 1))).setCell ⟨g, k * 4 + 3, none⟩ (.int .i64 (us[k].sum - a))) F ∧
      Fr F w ((w.setCell ⟨g, k * 4 + 2, none⟩ (.int .i64 (us[k].times - 1))).setCell ⟨g, k * 4 + 3, none⟩ (.int .i64 (us[k].sum - a))) := by
  have hgl : g ≠ l := by
    obtain ⟨v, h1, h2, h3, h4⟩ := h
    intro e
    obtain rfl : v = .slice (some ⟨g, 0, none⟩) n cap := by
      have := cell_of h1 0
      rw [hc] at this
      simpa using this.symm
    exact h3 (by rw [e]; rfl)
  have k1 : (w.setCell ⟨g, k * 4 + 2, none⟩ (.int .i64 (us[k].times - 1))).cell? ⟨l, 0, none⟩ = w.cell? ⟨l, 0, none⟩ := World.cell?_of_block (w := w) (Below.heap_setCell w ⟨g, _, none⟩ _ l (fun e => hgl e.symm))
  obtain ⟨a1, b1⟩ := h.set (j := 2) (u := .int .i64 (us[k].times - 1)) hc hk (by show 2 < 4; omega) ⟨us[k].card, us[k].window, us[k].times - 1, us[k].sum⟩ rfl
  obtain ⟨a2, b2⟩ := a1.set (i := k) (j := 3) (u := .int .i64 (us[k].sum - a)) (k1.trans hc) (by simpa using hk) (by show 3 < 4; omega) (subU a us[k]) (by simp; rfl)
  rw [List.set_set] at a2
  exact ⟨a2, b1.trans' b2⟩

set_option maxRecDepth 100000 in
set_option maxHeartbeats 1600000 in
theorem undo_good {l : Nat} {us : List Use} {w : World} {F : Nat → Prop} (h : Hold 213 128 UseR l us w F) (hg : GoodU us) (r : Rule) (s : ByteArray) (a n : Int) (hm : mayB r s a n = true) :
    Calls Tryz.prog 117 #[.pointer (some ⟨l, 0, none⟩), r.val, .string s, .int .i64 a, .int .i64 n] w (UndoPost l us r s a n F w) := by
  have hlen := hg.len
  have Hm := Lib.hid (fun W => may_any r s a n true hm W)
  have Hh := Lib.hid h
  have Hfind := Lib.hid (fun (W : World) (hf : Fr noBlock w W) => find_any (Hold.ok.fr0 h hf) hlen s _ rfl)
  have hf0 := (Fr.refl noBlock w).alloc (.cells #[.int .i64 r.ticks, .int .i64 r.times, .int .i64 r.sum, .int .i64 r.once] 47)
  obtain ⟨hr, hcd, ha0, ha1, hn0, hn1⟩ := may_iff.1 hm
  obtain ⟨t1, t2, t3, t4, t5, t6, t7, t8⟩ := right_iff.1 hr
  have hdiv : 0 ≤ n / r.ticks := Int.ediv_nonneg hn0 (by omega)
  obtain ⟨vo, cap, c0, f0, hl, hc1, hc2, hrow, hgf, _⟩ := h.opened
  cases hfu : findU us s with
  | none =>
    have E := Lib.hid (undo_none hm hfu)
    rw [hfu] at Hfind
    simp only [idxI] at Hfind
    obtain ⟨ticks, times, sum, once⟩ := r
    unfold Rule.val at *
    simp only at *
    clear hm hr hcd h hg hrow hfu c0 f0 hgf
    go_enter Tryz.func117, Tryz.ntmps117
    go_wp2_with fail
    refine (Hm.out _).mono ?_
    rintro e w1 ⟨rfl, f1⟩
    have Hf01 := Lib.hid (hf0.trans' f1)
    clear f1 hf0
    go_wp2_with fail
    refine (Hfind.out _ Hf01.out).mono ?_
    rintro e w2 ⟨rfl, f2⟩
    have Hf02 := Lib.hid (Hf01.out.trans' f2)
    clear f2
    go_wp2_with fail
    go_ret
    exact undo_no Hh.out rfl E.out (by omega) Hf02.out
  | some k =>
    obtain ⟨hk, _, _⟩ := find_of_findU hfu
    obtain ⟨g, rfl, hgl, _, _, u0, u1, u2, u3, uf⟩ := use_own hrow hk
    obtain ⟨hu1, hu2, hu3, hu4, hu5, hu6⟩ := hg.each _ (List.getElem_mem hk)
    have E15 := Lib.hid (fun h => undo_other hm hfu hk h)
    have E0 := Lib.hid (fun h => undo_ok hm hfu hk h)
    have Hput := Lib.hid (fun (W : World) (hh : Hold 213 128 UseR l us W F) (hc : W.cell? ⟨l, 0, none⟩ = some (.slice (some ⟨g, 0, none⟩) us.length cap)) => hold_put2 hh hc hk a)
    rw [hfu] at Hfind
    simp only [idxI] at Hfind
    have hk0 : (0 : Int) ≤ (k : Int) := by omega
    have hk1 : (k : Int) < (us.length : Int) := by omega
    have hq : (us[k].window = n / r.ticks ∧ us[k].times ≠ 0 ∧ a ≤ us[k].sum) ∨ (us[k].window ≠ n / r.ticks) ∨ (us[k].window = n / r.ticks ∧ us[k].times = 0) ∨ (us[k].window = n / r.ticks ∧ us[k].times ≠ 0 ∧ us[k].sum < a) := by omega
    obtain ⟨ticks, times, sum, once⟩ := r
    unfold Rule.val at *
    simp only at *
    have C0 := Lib.hid c0
    have U1 := Lib.hid u1
    have U2 := Lib.hid u2
    have U3 := Lib.hid u3
    have Uf := Lib.hid uf
    clear hm hr hcd h hg hrow hfu c0 f0 hgf u0 u1 u2 u3 uf
    generalize us[k] = u at *
    have hq' : ∃ b1 b2 : Bool, (u.window != n / ticks) = b1 ∧ (u.times == 0) = b2 ∧ ((b1 = false ∧ b2 = false ∧ a ≤ u.sum ∧ Hid (¬(u.window ≠ n / ticks ∨ u.times = 0 ∨ u.sum < a))) ∨ ((b1 = true ∨ b2 = true ∨ u.sum < a) ∧ Hid (u.window ≠ n / ticks ∨ u.times = 0 ∨ u.sum < a))) := by
      refine ⟨_, _, rfl, rfl, ?_⟩
      simp only [bne_eq_false_iff_eq, bne_iff_ne, beq_iff_eq, beq_eq_false_iff_ne]
      unfold Hid
      omega
    clear hq
    obtain ⟨b1, b2, hb1, hb2, hb3⟩ := hq'
    rcases hb3 with ⟨rfl, rfl, hle, Hno⟩ | ⟨hyes, Hyes⟩
    · obtain ⟨e0, eL⟩ := E0.out Hno.out
      have E := Lib.hid e0
      have EL := Lib.hid eL
      clear e0 eL E0 E15
      go_enter Tryz.func117, Tryz.ntmps117
      go_wp2_with fail
      refine (Hm.out _).mono ?_
      rintro e w1 ⟨rfl, f1⟩
      have hb1' : w1.heap[w.heap.size]? = some (.cells #[.int .i64 ticks, .int .i64 times, .int .i64 sum, .int .i64 once] 47 (0, 0)) := f1.obj (heap_new w _) (fun x => x)
      have Hf01 := Lib.hid (hf0.trans' f1)
      have Hb1 := Lib.hid hb1'
      clear f1 hf0 hb1'
      go_wp2_with fail
      refine (Hfind.out _ Hf01.out).mono ?_
      rintro e w2 ⟨rfl, f2⟩
      have hb2' : w2.heap[w.heap.size]? = _ := f2.obj Hb1.out (fun x => x)
      have y0 := cell_of hb2' 0
      simp at y0
      have hf02 := Hf01.out.trans' f2
      have c0 := (hf02.cell (p := ⟨l, 0, none⟩) hl (fun x => x)).trans C0.out
      have u1 := (hf02.cell (p := ⟨g, k * 4 + 1, none⟩) hgl (fun x => x)).trans U1.out
      have u2 := (hf02.cell (p := ⟨g, k * 4 + 2, none⟩) hgl (fun x => x)).trans U2.out
      have u3 := (hf02.cell (p := ⟨g, k * 4 + 3, none⟩) hgl (fun x => x)).trans U3.out
      have uf2 := (hf02.frozen (p := ⟨g, k * 4 + 2, none⟩) hgl (fun x => x)).trans (Uf.out _)
      have uf3 := (hf02.frozen (p := ⟨g, k * 4 + 3, none⟩) hgl (fun x => x)).trans (Uf.out _)
      have Hput2 := Lib.hid (fun q => Hput.out (w2.drewN q) (Hold.ok.fr0 Hh.out (hf02.drewN q)) c0)
      have Hf02 := Lib.hid hf02
      clear f2 hf02 hb2'
      go_wp2_with fail
      go_quiet (fail)
      go_wp2_with fail
      go_ret
      obtain ⟨r1, r2⟩ := Hput2.out _
      exact ⟨F, by rw [E.out]; rfl, by rw [EL.out]; exact r1, (Step.same (Hf02.out.drewN _)).trans ⟨r2, fun _ h => .inl h⟩⟩
    · have E := Lib.hid (E15.out Hyes.out)
      clear E0 E15 Hput
      have hyes' : (b1 = true) ∨ (b1 = false ∧ b2 = true) ∨ (b1 = false ∧ b2 = false ∧ u.sum < a) := by
        cases b1 <;> cases b2 <;> simp_all
      clear hyes
      rcases hyes' with rfl | ⟨rfl, rfl⟩ | ⟨rfl, rfl, hsu⟩
      all_goals
        go_enter Tryz.func117, Tryz.ntmps117
        go_wp2_with fail
        refine (Hm.out _).mono ?_
        rintro e w1 ⟨rfl, f1⟩
        have hb1' : w1.heap[w.heap.size]? = some (.cells #[.int .i64 ticks, .int .i64 times, .int .i64 sum, .int .i64 once] 47 (0, 0)) := f1.obj (heap_new w _) (fun x => x)
        have Hf01 := Lib.hid (hf0.trans' f1)
        have Hb1 := Lib.hid hb1'
        clear f1 hb1'
        go_wp2_with fail
        refine (Hfind.out _ Hf01.out).mono ?_
        rintro e w2 ⟨rfl, f2⟩
        have hb2' : w2.heap[w.heap.size]? = _ := f2.obj Hb1.out (fun x => x)
        have y0 := cell_of hb2' 0
        simp at y0
        have hf02 := Hf01.out.trans' f2
        have c0 := (hf02.cell (p := ⟨l, 0, none⟩) hl (fun x => x)).trans C0.out
        have u1 := (hf02.cell (p := ⟨g, k * 4 + 1, none⟩) hgl (fun x => x)).trans U1.out
        have u2 := (hf02.cell (p := ⟨g, k * 4 + 2, none⟩) hgl (fun x => x)).trans U2.out
        have u3 := (hf02.cell (p := ⟨g, k * 4 + 3, none⟩) hgl (fun x => x)).trans U3.out
        have Hf02 := Lib.hid hf02
        clear f2 hf02 hb2'
        go_wp2_with fail
        go_quiet (fail)
        go_wp2_with fail
        go_ret
        exact undo_no Hh.out rfl E.out (by omega) (Hf02.out.drewN _)

theorem undo_any {l : Nat} {us : List Use} {w : World} {F : Nat → Prop} (h : BookAt l us w F) (r : Rule) (s : ByteArray) (a n : Int) {x : Int} (hx : undoE us r s a n = x) {vs : List Use} (hv : undoL us r s a n = vs) :
    Calls Tryz.prog 117 #[.pointer (some ⟨l, 0, none⟩), r.val, .string s, .int .i64 a, .int .i64 n] w fun e w' => ∃ F', e = .returned (.int .i64 x) ∧ BookAt l vs w' F' ∧ Step F F' w w' := by
  subst hx hv
  have key : Calls Tryz.prog 117 #[.pointer (some ⟨l, 0, none⟩), r.val, .string s, .int .i64 a, .int .i64 n] w (UndoPost l us r s a n F w) := by
    cases hm : mayB r s a n with
    | false => exact undo_bad h.1 r s a n hm
    | true => exact undo_good h.1 h.2 r s a n hm
  exact key.mono fun e w' ⟨F', h1, h2, h3⟩ => ⟨F', h1, ⟨h2, good_undo h.2 r s a n⟩, h3⟩

set_option maxHeartbeats 400000 in
theorem new_any (w : World) : Calls Tryz.prog 51 #[] w fun e w' => ∃ l F, e = .returned (.pointer (some ⟨l, 0, none⟩)) ∧ BookAt l [] w' F ∧ Fr noBlock w w' ∧ ∀ k, F k → w.heap.size ≤ k := by
  go_enter Tryz.func51, Tryz.ntmps51
  go_wp2
  go_ret
  exact ⟨w.heap.size, _, rfl, ⟨Hold.made w, GoodU.nil⟩, (Fr.refl _ _).alloc _, fun k hk => by subst hk; exact Nat.le_refl _⟩
end Go.Proofs.YtajhgejhdalobaaGreatDoor.Lm
namespace Go.Proofs.YtajhgejhdalobaaGreatDoor
open Go.RowKit

def valF (n : Int) : List Fld → Option ByteArray
  | [] => none
  | f :: l => if f.n = n then some f.v else valF n l
def valS (n : Int) (l : List Fld) : ByteArray := (valF n l).getD ⟨#[]⟩
def valB (n : Int) (l : List Fld) : Bool := (valF n l).isSome
def ValueP (n : Int) (l : List Fld) (w : World) (e : Ending) (w' : World) : Prop := e = .returned (.tuple #[.string (valS n l), .bool (valB n l)]) ∧ Fr noBlock w w'
set_option maxRecDepth 100000 in
set_option maxHeartbeats 1600000 in
theorem value_of (t : ByteArray) {ao : Option Addr} {l : List Fld} {w : World} (h : RowRd FldR w ao l) (cap : Nat) (hl : l.length ≤ maxLen) (n : Int) : Calls Tryz.prog 118 #[.agg #[.string t, .slice ao l.length cap], .int .i64 n] w (ValueP n l w) := by
  have HR := Lib.hid h
  unfold maxLen at hl
  have HF0 := Lib.hid ((Fr.refl noBlock w).alloc (.cells #[.string t, .slice ao l.length cap] 25))
  clear h
  go_enter Tryz.func118, Tryz.ntmps118
  go_wp2_with fail
  go_loopw [11] (fun s11 wr => ∃ i : Nat, i ≤ l.length ∧ s11 = .int .i64 i ∧ Hid (Fr noBlock w wr) ∧ Hid (valF n l = valF n (l.drop i))) (fun s11 _ => l.length - (intOf s11).toNat)
  case atStart => exact ⟨0, Nat.zero_le _, rfl, HF0, Lib.hid rfl⟩
  case round =>
    obtain ⟨i, hi, rfl, HF, HI⟩ := hrel
    by_cases hlt : i < l.length
    · have q1 : (i : Int) < (l.length : Int) := by omega
      have q0 : (0 : Int) ≤ (i : Int) := by omega
      have hi' : i + 1 ≤ l.length := hlt
      obtain ⟨b, off, rfl, hb, y0, y1⟩ := fld_cells (HR.out.fr0 HF.out) hlt
      have hdr : l.drop i = l[i] :: l.drop (i + 1) := (List.drop_eq_getElem_cons hlt)
      generalize l[i] = f at *
      obtain ⟨fn, fv⟩ := f
      simp only at y0 y1
      have hv := HI.out
      rw [hdr] at hv
      have hcons : valF n (⟨fn, fv⟩ :: l.drop (i + 1)) = if fn = n then some fv else valF n (l.drop (i + 1)) := rfl
      rw [hcons] at hv
      have HF6 := Lib.hid (HF.out.alloc (.cells #[.int .i64 fn, .string fv] 31))
      by_cases he : fn = n
      · rw [if_pos he] at hv
        have HV := Lib.hid (show valS n l = fv ∧ valB n l = true by unfold valS valB; rw [hv]; exact ⟨rfl, rfl⟩)
        have hne : (fn == n) = true := by simpa using he
        clear hdr hv hlt HI hcons he
        go_wp2_with fail
        go_ret2
        exact ⟨by rw [HV.out.1, HV.out.2]; rfl, HF6.out⟩
      · rw [if_neg he] at hv
        have HV := Lib.hid hv
        have hne : (fn == n) = false := by simpa using he
        clear hdr hv hlt HI he hcons
        go_wp2_with fail
        go_roundw
        case rel => exact ⟨i + 1, hi', by go_num, HF6, HV⟩
        case measure => simp [intOf]; omega
    · have q1 : (l.length : Int) ≤ (i : Int) := by omega
      have hv := HI.out
      rw [List.drop_eq_nil_of_le (by omega)] at hv
      have HV := Lib.hid (show valS n l = ⟨#[]⟩ ∧ valB n l = false by unfold valS valB; rw [hv]; exact ⟨rfl, rfl⟩)
      clear hv HI hlt
      go_wp2_with fail
      go_ret2
      exact ⟨by rw [HV.out.1, HV.out.2]; rfl, HF.out⟩
set_option maxRecDepth 100000 in
set_option maxHeartbeats 1600000 in
theorem rvalue_of (t : ByteArray) {ao : Option Addr} {l : List Fld} {w : World} (h : RowRd FldR w ao l) (cap : Nat) (hl : l.length ≤ maxLen) (n : Int) : Calls Tryz.prog 20 #[.agg #[.string t, .slice ao l.length cap], .int .i64 n] w (ValueP n l w) := by
  have HR := Lib.hid h
  unfold maxLen at hl
  have hf0 := (Fr.refl noBlock w).alloc (.cells #[.string t, .slice ao l.length cap] 25)
  have HF0 := Lib.hid hf0
  have HB0 := Lib.hid (heap_new w (.cells #[.string t, .slice ao l.length cap] 25))
  clear h hf0
  go_enter Tryz.func20, Tryz.ntmps20
  go_wp2_with fail
  go_loop [6] (fun s6 => ∃ i : Nat, i ≤ l.length ∧ s6 = .int .i64 i ∧ Hid (valF n l = valF n (l.drop i))) (fun s6 => l.length - (intOf s6).toNat)
  case atStart => exact ⟨0, Nat.zero_le _, rfl, Lib.hid rfl⟩
  case round =>
    obtain ⟨i, hi, rfl, HI⟩ := hrel
    by_cases hlt : i < l.length
    · have q1 : (i : Int) < (l.length : Int) := by omega
      have q0 : (0 : Int) ≤ (i : Int) := by omega
      have hi' : i + 1 ≤ l.length := hlt
      obtain ⟨b, off, rfl, hb, y0, y1⟩ := fld_cells (HR.out.fr0 HF0.out) hlt
      have hdr : l.drop i = l[i] :: l.drop (i + 1) := (List.drop_eq_getElem_cons hlt)
      generalize l[i] = f at *
      obtain ⟨fn, fv⟩ := f
      simp only at y0 y1
      have hv := HI.out
      rw [hdr] at hv
      have hcons : valF n (⟨fn, fv⟩ :: l.drop (i + 1)) = if fn = n then some fv else valF n (l.drop (i + 1)) := rfl
      rw [hcons] at hv
      by_cases he : fn = n
      · rw [if_pos he] at hv
        have HV := Lib.hid (show valS n l = fv ∧ valB n l = true by unfold valS valB; rw [hv]; exact ⟨rfl, rfl⟩)
        have hne : (fn == n) = true := by simpa using he
        clear hdr hv hlt HI hcons he
        go_wp2_with fail
        go_ret2
        exact ⟨by rw [HV.out.1, HV.out.2]; rfl, HF0.out⟩
      · rw [if_neg he] at hv
        have HV := Lib.hid hv
        have hne : (fn == n) = false := by simpa using he
        clear hdr hv hlt HI he hcons
        go_wp2_with fail
        go_round
        case rel => exact ⟨i + 1, hi', by go_num, HV⟩
        case measure => simp [intOf]; omega
    · have q1 : (l.length : Int) ≤ (i : Int) := by omega
      have hv := HI.out
      rw [List.drop_eq_nil_of_le (by omega)] at hv
      have HV := Lib.hid (show valS n l = ⟨#[]⟩ ∧ valB n l = false by unfold valS valB; rw [hv]; exact ⟨rfl, rfl⟩)
      clear hv HI hlt
      go_wp2_with fail
      go_ret2
      exact ⟨by rw [HV.out.1, HV.out.2]; rfl, HF0.out⟩
end Go.Proofs.YtajhgejhdalobaaGreatDoor
namespace Go.Proofs.YtajhgejhdalobaaGreatDoor

theorem valF_app (n : Int) (a b : List Fld) : valF n (a ++ b) = (valF n a).or (valF n b) := by
  induction a with
  | nil => rfl
  | cons f a ih =>
    show (if f.n = n then some f.v else valF n (a ++ b)) = (if f.n = n then some f.v else valF n a).or (valF n b)
    split
    · rfl
    · exact ih
theorem valF_notN (n : Int) (a : List Fld) : valF n (a.filter (notN n)) = none := by
  induction a with
  | nil => rfl
  | cons f a ih =>
    rw [List.filter_cons]
    by_cases h : f.n = n
    · rw [if_neg (by simp [notN, h])]
      exact ih
    · rw [if_pos (by simp [notN, h])]
      show (if f.n = n then some f.v else _) = none
      rw [if_neg h]
      exact ih
theorem valF_other {n k : Int} (hk : k ≠ n) (a : List Fld) : valF k (a.filter (notN n)) = valF k a := by
  induction a with
  | nil => rfl
  | cons f a ih =>
    rw [List.filter_cons]
    have e : valF k (f :: a) = if f.n = k then some f.v else valF k a := rfl
    by_cases h : f.n = n
    · rw [if_neg (by simp [notN, h]), e, if_neg (by omega)]
      exact ih
    · rw [if_pos (by simp [notN, h]), e]
      show (if f.n = k then some f.v else _) = _
      split
      · rfl
      · exact ih
theorem put_found (l : List Fld) (n : Int) (s : ByteArray) : valF n (putL l n s) = some s := by
  unfold putL
  rw [valF_app, valF_app, valF_notN]
  show ((if n = n then some s else _) : Option ByteArray).or _ = some s
  rw [if_pos rfl]
  rfl
theorem put_stays {k n : Int} (hk : k ≠ n) (l : List Fld) (s : ByteArray) : valF k (putL l n s) = valF k l := by
  unfold putL
  rw [valF_app, valF_app, valF_other hk, valF_other hk]
  have e : valF k [(⟨n, s⟩ : Fld)] = none := by
    show (if n = k then some s else none) = none
    rw [if_neg (fun e => hk e.symm)]
  rw [e, Option.or_none, ← valF_app, List.take_append_drop]
theorem putL_len (l : List Fld) (n : Int) (s : ByteArray) : (putL l n s).length ≤ l.length + 1 := by
  unfold putL
  have h1 := List.length_filter_le (notN n) (l.take (putK l n))
  have h2 := List.length_filter_le (notN n) (l.drop (putK l n))
  simp only [List.length_append, List.length_take, List.length_drop, List.length_cons, List.length_nil] at *
  omega
end Go.Proofs.YtajhgejhdalobaaGreatDoor
namespace Go.Proofs.YtajhgejhdalobaaGreatDoor

structure TenS where
  v : Nat
  rule : Lm.Rule
  rs : List Rt.Route
  us : List Lm.Use
  ps : List Lg.Post
abbrev Msg := ByteArray × List Fld
def c2 (a b : UInt8) : ByteArray := ⟨#[a, b]⟩
def cOk : ByteArray := c2 48 48
def cType : ByteArray := c2 49 50
def cPan : ByteArray := c2 49 52
def cRoute : ByteArray := c2 49 53
def cMissing : ByteArray := c2 50 53
def cForm : ByteArray := c2 51 48
def cOver : ByteArray := c2 54 49
def cOften : ByteArray := c2 54 53
def cOther : ByteArray := c2 57 52
def cRoom : ByteArray := c2 57 54
def t4 (a b c d : UInt8) : ByteArray := ⟨#[a, b, c, d]⟩
def upT (t : ByteArray) : ByteArray := strB ((bl t).set 2 ((bl t).getD 2 0 + 1))
def putIf (q : List Fld) (m : List Fld) (n : Int) : List Fld := if valB n q = true then putL m n (valS n q) else m
def ansL (q : List Fld) (code : ByteArray) (more : List Fld) : List Fld :=
  [3, 4, 11, 41, 70].foldl (putIf q) (((⟨39, code⟩ : Fld) :: more).foldl (fun m f => putL m f.n f.v) [])
def ansM (t : ByteArray) (q : List Fld) (code : ByteArray) (more : List Fld) : Msg := (upT t, ansL q code more)
def refM (code : ByteArray) : Msg := (t4 48 48 48 48, [⟨39, code⟩])
def lacksB (q : List Fld) (l : List Int) : Bool := l.any (fun n => !valB n q)
def saidB (tok : Bs) (target th : Nat) : Bs := [48, 48, 32] ++ tok ++ [32] ++ itoB target ++ [32] ++ itoB th
def readS (M : MaskF) (now : Nat) (s : Bs) : Option (Bs × Nat × Nat) := match splitS s with
  | [_, tok, a, b] => if (numR a).2 = 0 ∧ (numR b).2 = 0 ∧ (backB M now tok).2 = 0 ∧ 1 ≤ (numR a).1 ∧ (numR a).1 ≤ 99 ∧ (numR b).1 ≤ 1099511627776 ∧ saidB tok (numR a).1 (numR b).1 = s then some (tok, (numR a).1, (numR b).1) else none
  | _ => none
def okM (t : ByteArray) (q : List Fld) (tok : Bs) (target : Nat) : Msg := ansM t q cOk [⟨32, strB (itoB target)⟩, ⟨48, strB tok⟩]
def cardOf (M : MaskF) (l : Bs) : ByteArray := strB (hideB M 1 l)
def keyOf (q : List Fld) : ByteArray := valS 11 q ++ valS 41 q
def amountOf (q : List Fld) : Nat := (numR (bl (valS 4 q))).1
def againT (M : MaskF) (S : TenS) (t : ByteArray) (q : List Fld) (p : Lg.Post) : Msg := match readS M S.v (bl p.answer) with
  | none => ansM t q cOther []
  | some (tok, target, _) => if (backB M S.v tok).1 ≠ bl (valS 2 q) ∨ (amountOf q : Int) ≠ p.amount then ansM t q cOther [] else okM t q tok target
def tryC (e : Int) : ByteArray := if e = 0 then cOk else if e = 17 then cOver else if e = 18 then cOften else cRoom
def askT (M : MaskF) (S : TenS) (t : ByteArray) (q : List Fld) (now : Nat) (limited : Bool) : TenS × Msg :=
  if lacksB q [2, 4, 11, 41] = true then (S, ansM t q cForm [])
  else if panB (bl (valS 2 q)) = false then (S, ansM t q cPan [])
  else match Lg.askP S.ps (keyOf q) with
    | some p => (S, againT M S t q p)
    | none => match Rt.findR S.rs (valS 2 q) with
      | none => (S, ansM t q cRoute [])
      | some target =>
        if 24 ≤ S.ps.length ∨ 5000000000000 - Lg.sumA S.ps < amountOf q then (S, ansM t q cRoom [])
        else if limited = true ∧ Lm.tryE S.us S.rule (cardOf M (bl (valS 2 q))) (amountOf q) now ≠ 0 then
          (S, ansM t q (tryC (Lm.tryE S.us S.rule (cardOf M (bl (valS 2 q))) (amountOf q) now)) [])
        else
          let tok := (tokenB M S.v (bl (valS 2 q))).1
          ({ S with us := if limited = true then Lm.tryL S.us S.rule (cardOf M (bl (valS 2 q))) (amountOf q) now else S.us, ps := Lg.addL S.ps ⟨keyOf q, amountOf q, 1, strB (saidB tok target.toNat now)⟩ }, okM t q tok target.toNat)
def revK (q : List Fld) : ByteArray := (valS 90 q).extract 4 10 ++ valS 41 q
def backT (M : MaskF) (S : TenS) (t : ByteArray) (q : List Fld) : TenS × Msg :=
  if lacksB q [41, 90] = true then (S, ansM t q cForm [])
  else match Lg.askP S.ps (revK q) with
    | none => (S, ansM t q cMissing [])
    | some p =>
      if Lg.revE S.ps (revK q) = 0 then match readS M S.v (bl p.answer) with
        | none => ({ S with ps := Lg.revL S.ps (revK q) }, ansM t q cOk [])
        | some (tok, _, th) => ({ S with ps := Lg.revL S.ps (revK q), us := Lm.undoL S.us S.rule (cardOf M (backB M S.v tok).1) (Lg.revN S.ps (revK q)) th }, ansM t q cOk [])
      else (S, ansM t q cOk [])
def handleT (M : MaskF) (S : TenS) (t : ByteArray) (q : List Fld) (now : Int) : TenS × Msg :=
  if rightM t q ≠ 0 ∨ now < 0 ∨ 1099511627776 < now then (S, refM cForm)
  else if t = t4 48 49 48 48 ∨ t = t4 48 50 48 48 then askT M S t q now.toNat true
  else if t = t4 48 49 50 48 ∨ t = t4 48 50 50 48 then askT M S t q now.toNat false
  else if t = t4 48 52 48 48 ∨ t = t4 48 52 50 48 then backT M S t q
  else if t = t4 48 56 48 48 then (S, if lacksB q [70] = true then ansM t q cForm [] else ansM t q cOk [])
  else (S, refM cType)
end Go.Proofs.YtajhgejhdalobaaGreatDoor
namespace Go.Proofs.YtajhgejhdalobaaGreatDoor.Lg
open Go.RowKit

structure Step (F F' : Nat → Prop) (w w' : World) : Prop where
  fr : Fr F w w'
  foot : ∀ k, F' k → F k ∨ w.heap.size ≤ k

theorem Step.below {F F' : Nat → Prop} {w w' : World} (h : Step F F' w w') {B : Nat} (hF : ∀ k, F k → B ≤ k) (hB : B ≤ w.heap.size) : Below B w w' ∧ ∀ k, F' k → B ≤ k :=
  ⟨h.fr.below hB hF, fun k hk => (h.foot k hk).elim (hF k) (fun h => by omega)⟩
theorem Step.apart {F F' G : Nat → Prop} {w w' : World} (h : Step F F' w w') (hd : ∀ k, F k → ¬ G k) (hG : ∀ k, G k → k < w.heap.size) : ∀ k, F' k → ¬ G k :=
  fun k hk hg => (h.foot k hk).elim (fun hf => hd k hf hg) (fun hle => by have := hG k hg; omega)
theorem Step.refl (F : Nat → Prop) (w : World) : Step F F w w := ⟨Fr.refl _ _, fun _ h => .inl h⟩

def LedAt (w : World) (l : Nat) (ps : List Post) (F : Nat → Prop) : Prop := ∃ L : Led, L.At w ∧ L.l = l ∧ L.ps = ps ∧ ∀ k, L.foot k ↔ F k

variable {w : World} {l : Nat} {ps : List Post} {F : Nat → Prop}

theorem LedAt.lt (h : LedAt w l ps F) : ∀ k, F k → k < w.heap.size := by
  obtain ⟨L, h1, rfl, rfl, h4⟩ := h
  exact fun k hk => h1.foot_lt ((h4 k).2 hk)
theorem LedAt.good (h : LedAt w l ps F) : Good ps := by
  obtain ⟨L, h1, rfl, rfl, h4⟩ := h
  exact h1.good
theorem LedAt.fr {S : Nat → Prop} {w' : World} (h : LedAt w l ps F) (hf : Fr S w w') (hs : ∀ k, F k → ¬ S k) : LedAt w' l ps F := by
  obtain ⟨L, h1, h2, h3, h4⟩ := h
  exact ⟨L, h1.fr hf (fun k hk => hs k ((h4 k).1 hk)), h2, h3, h4⟩

theorem new_at (w : World) : Calls Tryz.prog 52 #[] w fun e w' => ∃ l F, LedAt w' l [] F ∧ e = .returned (.pointer (some ⟨l, 0, none⟩)) ∧ Fr noBlock w w' ∧ ∀ k, F k → w.heap.size ≤ k :=
  (new_any w).mono fun _ _ ⟨L, h1, h2, h3, h4, h5⟩ => ⟨L.l, L.foot, ⟨L, h1, rfl, h3, fun _ => Iff.rfl⟩, h2, h4, h5⟩
theorem approve_at (h : LedAt w l ps F) (key : ByteArray) (amount : Int) (answer : ByteArray) (hs : key.size ≤ maxLen) {n : Int} {qs : List Post} (hn : addE ps ⟨key, amount, 1, answer⟩ = n) (hq : addL ps ⟨key, amount, 1, answer⟩ = qs) :
    Calls Tryz.prog 112 #[.pointer (some ⟨l, 0, none⟩), .string key, .int .i64 amount, .string answer] w fun e w' => ∃ F', LedAt w' l qs F' ∧ e = .returned (.int .i64 n) ∧ Step F F' w w' := by
  obtain ⟨L, h1, rfl, rfl, h4⟩ := h
  subst hn hq
  exact (approve_any L w h1 key amount answer hs).mono fun e w' ⟨L', g1, g2, g3, g4, g5, g6⟩ => ⟨L'.foot, ⟨L', g1, g2, g3, fun _ => Iff.rfl⟩, g4, ⟨g5.mono (fun k hk => (h4 k).1 hk), fun k hk => (g6 k hk).imp (fun hk => (h4 k).1 hk) (fun h => h)⟩⟩
theorem reverse_at (h : LedAt w l ps F) (key : ByteArray) (hs : key.size ≤ maxLen) {a n : Int} {qs : List Post} (ha : revN ps key = a) (hn : revE ps key = n) (hq : revL ps key = qs) :
    Calls Tryz.prog 115 #[.pointer (some ⟨l, 0, none⟩), .string key] w fun e w' => ∃ F', LedAt w' l qs F' ∧ e = .returned (.tuple #[.int .i64 a, .int .i64 n]) ∧ Step F F' w w' := by
  obtain ⟨L, h1, rfl, rfl, h4⟩ := h
  subst ha hn hq
  exact (reverse_any L w h1 key hs).mono fun e w' ⟨L', g1, g2, g3, g4, g5, g6⟩ => ⟨L'.foot, ⟨L', g1, g2, g3, fun _ => Iff.rfl⟩, g4, ⟨g5.mono (fun k hk => (h4 k).1 hk), fun k hk => (g6 k hk).imp (fun hk => (h4 k).1 hk) (fun h => h)⟩⟩
theorem close_at (h : LedAt w l ps F) {n : Int} (hn : sumA ps = n) :
    Calls Tryz.prog 127 #[.pointer (some ⟨l, 0, none⟩)] w fun e w' => ∃ F', LedAt w' l [] F' ∧ e = .returned (.int .i64 n) ∧ Step F F' w w' := by
  obtain ⟨L, h1, rfl, rfl, h4⟩ := h
  subst hn
  exact (close_any L w h1).mono fun e w' ⟨L', g1, g2, g3, g4, g5, g6⟩ => ⟨L'.foot, ⟨L', g1, g2, g3, fun _ => Iff.rfl⟩, g4, ⟨g5.mono (fun k hk => (h4 k).1 hk), fun k hk => (g6 k hk).imp (fun hk => (h4 k).1 hk) (fun h => h)⟩⟩
theorem ask_at (h : LedAt w l ps F) (key : ByteArray) (hs : key.size ≤ maxLen) {p : Post} {b : Bool} (hp : (askP ps key).getD zeroPost = p) (hb : (askP ps key).isSome = b) :
    Calls Tryz.prog 106 #[.pointer (some ⟨l, 0, none⟩), .string key] w fun e w' => LedAt w' l ps F ∧ e = .returned (.tuple #[p.val, .bool b]) ∧ Fr noBlock w w' := by
  subst hp hb
  have h' := h
  obtain ⟨L, h1, rfl, rfl, h4⟩ := h
  exact (ask_any L w h1 key hs).mono fun e w' ⟨g1, g2⟩ => ⟨h'.fr g2 (fun _ _ x => x), g1, g2⟩
theorem total_at (h : LedAt w l ps F) {n : Int} (hn : sumA ps = n) :
    Calls Tryz.prog 53 #[.pointer (some ⟨l, 0, none⟩)] w fun e w' => e = .returned (.int .i64 n) ∧ w = w' := by
  subst hn
  obtain ⟨L, h1, rfl, rfl, h4⟩ := h
  exact (total_any L w h1).mono fun e w' ⟨g1, g2⟩ => ⟨g1, g2.symm⟩
theorem list_at (h : LedAt w l ps F) :
    Calls Tryz.prog 57 #[.pointer (some ⟨l, 0, none⟩)] w fun e w' => ∃ v, LedAt w' l ps F ∧ e = .returned v ∧ PostsAt w' v ps ∧ Fr noBlock w w' ∧ ∀ k, v.ownBlock = some k → w.heap.size ≤ k := by
  have h' := h
  obtain ⟨L, h1, rfl, rfl, h4⟩ := h
  exact (list_any L w h1).mono fun e w' ⟨v, g1, g2, g3, g4⟩ => ⟨v, h'.fr g3 (fun _ _ x => x), g1, g2, g3, g4⟩

theorem Step.keep {F F' : Nat → Prop} {w w' : World} (h : Step F F' w w') {b : Nat} (hb : b < w.heap.size) (hn : ¬ F b) : (∀ o, w'.cell? ⟨b, o, none⟩ = w.cell? ⟨b, o, none⟩) ∧ b < w'.heap.size ∧ ¬ F' b :=
  ⟨fun _ => h.fr.cell hb hn, Nat.lt_of_lt_of_le hb h.fr.size, fun hk => (h.foot b hk).elim hn (fun hle => by omega)⟩

structure Mine (w0 : World) (w : World) (l : Nat) (ps : List Post) (F : Nat → Prop) : Prop where
  led : LedAt w l ps F
  base : ∀ k, F k → w0.heap.size ≤ k
  below : Below w0.heap.size w0 w

namespace Mine
variable {w0 : World}
theorem good (h : Mine w0 w l ps F) : Good ps := h.led.good
theorem fr {w' : World} (h : Mine w0 w l ps F) (hf : Fr noBlock w w') : Mine w0 w' l ps F :=
  ⟨h.led.fr hf (fun _ _ x => x), h.base, h.below.trans (hf.below h.below.size (fun _ hk => hk.elim))⟩
theorem step {F' : Nat → Prop} {w' : World} {qs : List Post} (h : Mine w0 w l ps F) (h' : LedAt w' l qs F') (hs : Step F F' w w') : Mine w0 w' l qs F' := by
  obtain ⟨h1, h2⟩ := hs.below h.base h.below.size
  exact ⟨h', h2, h.below.trans h1⟩
theorem alloc (h : Mine w0 w l ps F) (o : Obj) : Mine w0 (w.alloc o) l ps F := h.fr ((Fr.refl _ _).alloc _)
theorem drew (h : Mine w0 w l ps F) : Mine w0 w.drew l ps F := h.fr ((Fr.refl _ _).drew)
theorem drewN (h : Mine w0 w l ps F) (n : Nat) : Mine w0 (w.drewN n) l ps F := h.fr ((Fr.refl _ _).drewN n)

theorem new (hb : Below w0.heap.size w0 w) : Calls Tryz.prog 52 #[] w fun e w' => ∃ l F, e = .returned (.pointer (some ⟨l, 0, none⟩)) ∧ Mine w0 w' l [] F ∧ Fr noBlock w w' ∧ ∀ k, F k → w.heap.size ≤ k :=
  (new_at w).mono fun _ _ ⟨l, F, h1, h2, h3, h4⟩ => ⟨l, F, h2, ⟨h1, fun _ hk => Nat.le_trans hb.size (h4 _ hk), hb.trans (h3.below hb.size (fun _ hk => hk.elim))⟩, h3, h4⟩
theorem ask (h : Mine w0 w l ps F) (key : ByteArray) (hs : key.size ≤ maxLen) {p : Post} {b : Bool} (hp : (askP ps key).getD zeroPost = p) (hb : (askP ps key).isSome = b) :
    Calls Tryz.prog 106 #[.pointer (some ⟨l, 0, none⟩), .string key] w fun e w' => e = .returned (.tuple #[p.val, .bool b]) ∧ Mine w0 w' l ps F ∧ Fr noBlock w w' :=
  (ask_at h.led key hs hp hb).mono fun _ _ ⟨_, g2, g3⟩ => ⟨g2, h.fr g3, g3⟩
theorem total (h : Mine w0 w l ps F) {n : Int} (hn : sumA ps = n) :
    Calls Tryz.prog 53 #[.pointer (some ⟨l, 0, none⟩)] w fun e w' => e = .returned (.int .i64 n) ∧ w = w' :=
  total_at h.led hn
theorem list (h : Mine w0 w l ps F) :
    Calls Tryz.prog 57 #[.pointer (some ⟨l, 0, none⟩)] w fun e w' => ∃ v, e = .returned v ∧ Mine w0 w' l ps F ∧ PostsAt w' v ps ∧ (∀ k, v.ownBlock = some k → w.heap.size ≤ k) ∧ Fr noBlock w w' :=
  (list_at h.led).mono fun _ _ ⟨v, _, g2, g3, g4, g5⟩ => ⟨v, g2, h.fr g4, g3, g5, g4⟩
end Mine
end Go.Proofs.YtajhgejhdalobaaGreatDoor.Lg
namespace Go.Proofs.YtajhgejhdalobaaGreatDoor.Lg

structure SumsInv (key : ByteArray) (ps : List Post) (sum : Int) (app rev : Bool) (ans : ByteArray) : Prop where
  sum : sum = sumA ps
  app : app = (askP ps key).isSome
  rev : rev = ((askP ps key).map fun p => decide (p.state = 2)).getD false
  ans : ∀ p, askP ps key = some p → ans = p.answer

theorem addL_zero {ps : List Post} {p : Post} (h : addE ps p = 0) : addL ps p = ps ++ [p] := by rw [addL, if_pos h]
theorem askP_append (ps qs : List Post) (s : ByteArray) : askP (ps ++ qs) s = (askP ps s).or (askP qs s) := by
  simp [askP, List.find?_append]
theorem askP_key {ps : List Post} {s : ByteArray} {p : Post} (h : askP ps s = some p) : p.key = s ∧ p ∈ ps := by
  have h1 := List.find?_some h
  exact ⟨by simpa using h1, List.mem_of_find?_eq_some h⟩
theorem askP_modify_ne {ps : List Post} {k : Nat} {s : ByteArray} (h : ∀ (hk : k < ps.length), ps[k].key ≠ s) : askP (ps.modify k revP) s = askP ps s := by
  induction ps generalizing k with
  | nil => simp
  | cons p ps ih =>
    cases k with
    | zero =>
      have := h (by simp)
      simp only [List.getElem_cons_zero] at this
      simp [askP, revP, this]
    | succ k =>
      have := ih (k := k) (fun hk => by have := h (by simpa using hk); simpa using this)
      unfold askP at this ⊢
      rw [List.modify_succ_cons, List.find?_cons, List.find?_cons, this]
theorem askP_modify_eq {ps : List Post} {k : Nat} {s : ByteArray} (hk : k < ps.length) (h : posOf ps s = some (k : Int)) : askP (ps.modify k revP) s = some (revP ps[k]) := by
  obtain ⟨k', hk', e, hkey, hask⟩ := askP_of h
  obtain rfl : k = k' := by omega
  have h1 : posOf (ps.modify k revP) s = some (k : Int) := by rw [posOf_keys (keys_modify ps k)]; exact h
  obtain ⟨k', hk'', e, _, hask'⟩ := askP_of h1
  obtain rfl : k = k' := by omega
  rw [hask', List.getElem_modify_eq]
theorem modify_same {ps : List Post} {k : Nat} (h : ∀ (hk : k < ps.length), ps[k].state = 2) : ps.modify k revP = ps := by
  apply List.ext_getElem
  · simp
  · intro i h1 h2
    rw [List.getElem_modify]
    split
    · rename_i e; subst e; simp [revP]; rw [← h h2]
    · rfl
theorem posOf_of_ask {ps : List Post} {s : ByteArray} {p : Post} (h : askP ps s = some p) : ∃ (k : Nat) (hk : k < ps.length), posOf ps s = some (k : Int) ∧ ps[k] = p := by
  cases hp : posOf ps s with
  | none => rw [askP_none hp] at h; cases h
  | some x =>
    obtain ⟨k, hk, rfl, _, hask⟩ := askP_of hp
    rw [hask] at h
    exact ⟨k, hk, rfl, Option.some.inj h⟩
theorem revL_no {ps : List Post} {s : ByteArray} (h : revE ps s ≠ 0) : revL ps s = ps := by
  unfold revE at h
  unfold revL
  cases hp : posOf ps s with
  | none => rfl
  | some x =>
    obtain ⟨k, hk, rfl, _, hask⟩ := askP_of hp
    rw [hask] at h
    simp only at h
    refine modify_same fun hk' => ?_
    refine Decidable.byContradiction fun hn => ?_
    simp only [Int.toNat_natCast] at hn
    rw [if_neg hn] at h
    exact h rfl
theorem revE_zero {ps : List Post} {s : ByteArray} (h : revE ps s = 0) : ∃ (k : Nat) (hk : k < ps.length), posOf ps s = some (k : Int) ∧ askP ps s = some ps[k] ∧ ps[k].state ≠ 2 ∧ revN ps s = ps[k].amount ∧ revL ps s = ps.modify k revP := by
  unfold revE at h
  cases hask : askP ps s with
  | none => simp [hask] at h
  | some p =>
    obtain ⟨k, hk, hp, rfl⟩ := posOf_of_ask hask
    rw [hask] at h
    simp only at h
    have hs : ps[k].state ≠ 2 := fun e => by rw [if_pos e] at h; simp at h
    exact ⟨k, hk, hp, rfl, hs, by simp [revN, hask, hs], by simp [revL, hp]⟩

end Go.Proofs.YtajhgejhdalobaaGreatDoor.Lg
namespace Go.Proofs.YtajhgejhdalobaaGreatDoor

theorem fold_stays {k : Int} : ∀ (fs l : List Fld), (∀ f ∈ fs, f.n ≠ k) → valF k (fs.foldl (fun m f => putL m f.n f.v) l) = valF k l
  | [], _, _ => rfl
  | f :: fs, l, h => by
    rw [List.foldl_cons, fold_stays fs _ (fun g hg => h g (List.mem_cons_of_mem _ hg)), put_stays (Ne.symm (h f List.mem_cons_self))]
theorem valS_some {n : Int} {q : List Fld} (h : valB n q = true) : valF n q = some (valS n q) := by
  unfold valB at h
  unfold valS
  cases hv : valF n q with
  | none => rw [hv] at h; cases h
  | some v => rfl
theorem valF_mem : ∀ {l : List Fld} {n : Int} {v : ByteArray}, valF n l = some v → ⟨n, v⟩ ∈ l
  | [], _, _, h => by cases h
  | f :: l, n, v, h => by
    unfold valF at h
    split at h
    · rename_i e
      cases h
      subst e
      exact List.mem_cons_self
    · exact List.mem_cons_of_mem _ (valF_mem h)
theorem putIf_val {k n : Int} (q m : List Fld) : valF k (putIf q m n) = if k = n ∧ valB n q = true then valF n q else valF k m := by
  unfold putIf
  by_cases hb : valB n q = true
  · rw [if_pos hb]
    by_cases hk : k = n
    · subst hk
      rw [put_found, if_pos ⟨rfl, hb⟩, valS_some hb]
    · rw [put_stays hk, if_neg (fun h => hk h.1)]
  · rw [if_neg hb, if_neg (fun h => hb h.2)]
theorem fold_putIf {k : Int} (q : List Fld) : ∀ (ns : List Int) (m : List Fld), k ∉ ns → valF k (ns.foldl (putIf q) m) = valF k m
  | [], _, _ => rfl
  | n :: ns, m, h => by
    rw [List.foldl_cons, fold_putIf q ns _ (fun x => h (List.mem_cons_of_mem _ x)), putIf_val, if_neg (fun x : k = n ∧ valB n q = true => h (by rw [x.1]; exact List.mem_cons_self))]
theorem ans_code (q : List Fld) (code : ByteArray) (more : List Fld) (hm : ∀ f ∈ more, f.n ≠ 39) : valF 39 (ansL q code more) = some code := by
  unfold ansL
  rw [fold_putIf q _ _ (by decide), List.foldl_cons, fold_stays _ _ hm, put_found]
def FldOk (f : Fld) : Prop := fmtOk f.n = true ∧ valueE (bl f.v) (kindOf f.n) (longOf f.n) = 0
structure RightL (l : List Fld) : Prop where
  each : ∀ f ∈ l, FldOk f
  asc : l.Pairwise (fun f g => f.n < g.n)
theorem rightM_iff {t : ByteArray} {l : List Fld} : rightM t l = 0 ↔ valueE (bl t) 1 4 = 0 ∧ RightL l := by
  unfold rightM
  constructor
  · intro h
    split at h
    · rename_i h1; exact absurd h h1
    · rename_i h1
      obtain ⟨h2, h3⟩ := right_fields l 0 h
      exact ⟨by simpa using h1, fun f hf => (h2 f hf).2, h3⟩
  · rintro ⟨h1, h2⟩
    rw [if_neg (by simp [h1])]
    exact fields_right l 0 (fun f hf => ⟨by have := fmt_range (h2.each f hf).1; omega, h2.each f hf⟩) h2.asc
def codesL : List ByteArray := [cOk, cType, cPan, cRoute, cMissing, cForm, cOver, cOften, cOther, cRoom]
theorem ito_dig (n : Nat) : (itoB n).all isDig = true := by
  induction n using Nat.strongRecOn with
  | ind n ih =>
    unfold itoB
    have g : ∀ x < 10, isDig (UInt8.ofNat (48 + x)) = true := by decide
    split
    · rename_i h
      rw [List.all_cons, g n h]
      rfl
    · rename_i h
      rw [List.all_append, ih (n / 10) (by omega), List.all_cons, g (n % 10) (by omega)]
      rfl
theorem ito_num (n : Nat) : numB (itoB n) = n := by
  induction n using Nat.strongRecOn with
  | ind n ih =>
    unfold itoB
    split
    · rename_i h
      have g : ∀ x < 10, numB [UInt8.ofNat (48 + x)] = x := by decide
      exact g n h
    · rename_i h
      have e : ∀ (a : Bs) (x : Nat), x < 10 → numB (a ++ [UInt8.ofNat (48 + x)]) = 10 * numB a + x := by
        intro a x hx
        unfold numB
        rw [List.foldl_append]
        show 10 * _ + ((UInt8.ofNat (48 + x)).toNat - 48) = _
        rw [UInt8.toNat_ofNat', Nat.mod_eq_of_lt (by omega)]
        omega
      rw [e _ _ (Nat.mod_lt _ (by decide)), ih (n / 10) (by omega)]
      omega
theorem ito_len {n : Nat} : ∀ {k : Nat}, 1 ≤ k → n < 10 ^ k → 1 ≤ (itoB n).length ∧ (itoB n).length ≤ k := by
  induction n using Nat.strongRecOn with
  | ind n ih =>
    intro k hk hn
    unfold itoB
    split
    · exact ⟨by simp, by simpa using hk⟩
    · rename_i h
      obtain ⟨j, rfl⟩ : ∃ j, k = j + 1 := ⟨k - 1, by omega⟩
      rw [Nat.pow_succ] at hn
      have hj : 1 ≤ j := by
        rcases j with _ | j
        · omega
        · omega
      obtain ⟨a, b⟩ := ih (n / 10) (by omega) hj (by omega)
      rw [List.length_append]
      simp
      omega
theorem ito_numR {n : Nat} (h : n ≤ 9223372036854775807) : numR (itoB n) = (n, 0) := by
  obtain ⟨h1, h2⟩ := ito_len (n := n) (k := 19) (by decide) (by omega)
  unfold numR
  rw [if_neg (by rw [ito_dig]; simp), if_neg (by omega), if_neg (by intro e; rw [e] at h1; simp at h1), ito_num, if_neg (by omega)]
theorem digs_no {l : Bs} (h : l.all isDig = true) {x : UInt8} (hx : isDig x = false) : x ∉ l := by
  intro hm
  rw [List.all_eq_true] at h
  rw [h x hm] at hx
  cases hx
theorem tok_all {s : Bs} {v : Nat} (hs : shapeB s = true) (x : UInt8) (hx : x ∈ tokB s v) : isDig x = true ∨ x = 46 := by
  unfold tokB at hx
  rcases List.mem_append.1 hx with hx | hx
  · exact .inl (List.all_eq_true.1 (shape_iff.1 hs).1 x hx)
  · rcases List.mem_cons.1 hx with hx | hx
    · exact .inr hx
    · exact .inl (List.all_eq_true.1 (ito_dig v) x hx)
theorem tok_len {s : Bs} {v : Nat} (hs : shapeB s = true) (hv : v ≤ 255) : 18 ≤ (tokB s v).length ∧ (tokB s v).length ≤ 23 := by
  obtain ⟨_, h1, h2⟩ := shape_iff.1 hs
  obtain ⟨_, _, h3, h4⟩ := ito_small v (by omega)
  unfold tokB
  rw [List.length_append, List.length_cons]
  omega
theorem back_tok {M : MaskF} {now : Nat} {t l : Bs} (h : backB M now t = (l, 0)) : ∃ s v, t = tokB s v ∧ shapeB s = true ∧ 1 ≤ v ∧ v ≤ 255 ∧ v ≤ now ∧ maskB s = maskB l ∧ splitB t = some (s, v) ∧ panB l = true := by
  obtain ⟨s, v, h1, h2, h3, h4, _, h6⟩ := back_some M h
  obtain ⟨_, k1, k2, k3⟩ := split_some h1
  exact ⟨s, v, k3, h3, k1, k2, h2, h4, h1, h6⟩
theorem said_split {tok : Bs} {a b : Nat} (ht : (32 : UInt8) ∉ tok) : splitS (saidB tok a b) = [[48, 48], tok, itoB a, itoB b] := by
  have e : saidB tok a b = [48, 48] ++ 32 :: (tok ++ 32 :: (itoB a ++ 32 :: itoB b)) := by simp [saidB]
  rw [e, split_cons (by decide), split_cons ht, split_cons (digs_no (ito_dig a) rfl), split_none (digs_no (ito_dig b) rfl)]
theorem tok_space {M : MaskF} {now : Nat} {t l : Bs} (h : backB M now t = (l, 0)) : (32 : UInt8) ∉ t := by
  obtain ⟨s, v, rfl, hs, _⟩ := back_tok h
  intro hm
  rcases tok_all hs _ hm with h | h
  · revert h; decide
  · revert h; decide
theorem read_said {M : MaskF} {now : Nat} {tok l : Bs} (h : backB M now tok = (l, 0)) {a b : Nat} (h1 : 1 ≤ a) (h2 : a ≤ 99) (h3 : b ≤ 1099511627776) : readS M now (saidB tok a b) = some (tok, a, b) := by
  unfold readS
  rw [said_split (tok_space h)]
  dsimp only
  rw [ito_numR (by omega), ito_numR (by omega), h, if_pos ⟨rfl, rfl, rfl, h1, h2, h3, rfl⟩]
theorem read_some {M : MaskF} {now : Nat} {s tok : Bs} {a b : Nat} (h : readS M now s = some (tok, a, b)) : s = saidB tok a b ∧ (∃ l, backB M now tok = (l, 0)) ∧ 1 ≤ a ∧ a ≤ 99 ∧ b ≤ 1099511627776 := by
  unfold readS at h
  split at h
  · split at h
    · rename_i hc
      cases h
      obtain ⟨_, _, h3, h4, h5, h6, h7⟩ := hc
      exact ⟨h7.symm, ⟨_, Prod.ext rfl h3⟩, h4, h5, h6⟩
    · cases h
  · cases h
theorem said_len {M : MaskF} {now : Nat} {tok l : Bs} (h : backB M now tok = (l, 0)) {a b : Nat} (h2 : a ≤ 99) (h3 : b ≤ 1099511627776) : (saidB tok a b).length ≤ 60 := by
  obtain ⟨s, v, rfl, hs, _, hv, _⟩ := back_tok h
  have := (tok_len hs hv).2
  have := (ito_len (n := a) (k := 3) (by decide) (by omega)).2
  have := (ito_len (n := b) (k := 14) (by decide) (by omega)).2
  simp [saidB]
  omega
end Go.Proofs.YtajhgejhdalobaaGreatDoor
