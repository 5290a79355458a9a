/-
  A MAP FROM STRINGS TO INTS, HOW MANY ENTRIES TOO: 'MapAt b f N': block b is a map of just N entries that answers as f does.
-/
import Derived.Test.YtpdkilfncflngaaThing
import Derived.Sort.KeysCollected
import Derived.Maps.RangeWalk
namespace Go.Proofs.Ytpdkilfncflngaa
open Go.RowKit
open Go.WideMaps (keyOf_string_mk)

structure MapD (D : DataW Unit) (f : ByteArray → Option Int) (N : Nat) : Prop where
  size : Maps.size D = N
  says : ∀ s, Maps.has D (keyLit s) = (f s).isSome ∧ ∀ x, f s = some x → D.atKey (keyLit s) (.lit (.int .i64 0)) = .lit (.int .i64 x)
def MapAt (P : Program) (kt et : TypeId) (w : World) (b : Nat) (f : ByteArray → Option Int) (N : Nat) : Prop :=
  ∃ D : DataW Unit, w.ownsMap P kt (plainElem P et) b N D ∧ MapD D f N

theorem ownsMap_tight {P : Program} {k : TypeId} {R : Value → Option (DataW Unit × List MemPlace)} {w : World} {b n : Nat} {D : DataW Unit} (h : w.ownsMap P k R b n D) : w.ownsMap P k R b (Maps.size D) D := by
  obtain ⟨es, clock, hb, F, hs, rfl⟩ := h
  exact ⟨es, clock, hb, F, by simp [Maps.size, length_sorted], rfl⟩

namespace MapAt
variable {P : Program} {kt et mt : TypeId} {w w' : World} {b N : Nat} {f : ByteArray → Option Int}
theorem lt (h : MapAt P kt et w b f N) : b < w.heap.size := by obtain ⟨D, h, _⟩ := h; exact h.lt
theorem fr {S : Nat → Prop} (h : MapAt P kt et w b f N) (hf : Fr S w w') (hn : ¬ S b) : MapAt P kt et w' b f N := by
  obtain ⟨D, h, r⟩ := h; exact ⟨D, ownsMap_fr h hf hn, r⟩
theorem congr (h : MapAt P kt et w b f N) {g : ByteArray → Option Int} (hg : ∀ s, f s = g s) : MapAt P kt et w b g N := by rwa [← funext hg]
theorem mapIs (h : MapAt P kt et w b f N) : MapIs P kt et w b N f := by obtain ⟨D, h, r⟩ := h; exact ⟨D, h, r.says⟩
theorem made (P : Program) (kt et : TypeId) (w : World) : MapAt P kt et (w.alloc (.map #[] 0)) w.heap.size (fun _ => none) 0 :=
  ⟨.map [], World.ownsMap_made w P kt _, ⟨rfl, fun s => ⟨by simp [Maps.has_eq], fun x hx => by cases hx⟩⟩⟩
/-- 'v, ok := m[k]' -/
theorem look (h : MapAt P kt et w b f N) (hk : P.underlying kt = some .string) (ht : P.underlying mt = some (.map kt et)) (he : P.underlying et = some (.int .i64)) (hz : (zeroValue et).run P w = .ok (.int .i64 0) w) (s : ByteArray) (hs : s.size ≤ maxLen) :
    (Instr.lookup mt (.map (some b)) (.string s) true).run P w = .ok (.tuple #[.int .i64 ((f s).getD 0), .bool (f s).isSome]) w := h.mapIs.look hk ht he hz s hs
/-- 'm[k]' -/
theorem look1 (h : MapAt P kt et w b f N) (hk : P.underlying kt = some .string) (ht : P.underlying mt = some (.map kt et)) (he : P.underlying et = some (.int .i64)) (hz : (zeroValue et).run P w = .ok (.int .i64 0) w) (s : ByteArray) (hs : s.size ≤ maxLen) :
    (Instr.lookup mt (.map (some b)) (.string s) false).run P w = .ok (.int .i64 ((f s).getD 0)) w := by
  obtain ⟨D, h, r⟩ := h
  obtain ⟨r1, r2⟩ := r.says s
  have hkey : keyOf P kt (.string s) = some (keyLit s) := keyOf_string_mk hk hs
  obtain ⟨c, hrun, hc, _⟩ := h.lookup_int (Maps.string_keyed hk) ht he hz hkey
  rw [hrun]
  cases hf : f s with
  | none =>
    rw [hf] at r1
    have := Maps.atKey_of_not_has (by simpa using r1) (.lit (.int .i64 0))
    rw [this] at hc
    have h0 : (0 : Int) = c := by simpa using hc
    simp [h0]
  | some x =>
    have := r2 x hf
    rw [this] at hc
    have h0 : x = c := by simpa using hc
    simp [h0]
/-- 'len(m)' -/
theorem len (h : MapAt P kt et w b f N) (ht : P.underlying mt = some (.map kt et)) (ty : TypeId) : (Builtin.len_ #[mt] ty #[.map (some b)]).run P w = .ok (.int .i64 N) w := by
  obtain ⟨D, h, r⟩ := h
  rw [h.len ht ty, r.size]
/-- 'm[k] = v' -/
theorem store (h : MapAt P kt et w b f N) (hk : P.underlying kt = some .string) (ht : P.underlying mt = some (.map kt et)) (he : P.underlying et = some (.int .i64)) (hn : N < maxLen) (s : ByteArray) (hs : s.size ≤ maxLen) (x : Int) (hx : (Lit.int .i64 x).wf = true) :
    ∃ w', (Instr.mapUpdate mt (.map (some b)) (.string s) (.int .i64 x)).run P w = .ok () w' ∧ MapAt P kt et w' b (fun t => if t = s then some x else f t) (if (f s).isSome then N else N + 1) ∧ w.mapTurned w' b := by
  obtain ⟨D, h, r⟩ := h
  have hkey : keyOf P kt (.string s) = some (keyLit s) := keyOf_string_mk hk hs
  have htd := h.tidy (Maps.string_keyed hk)
  have him := h.isMap
  have hl : WideAt.IsKeyLit (keyLit s) := by simp [WideAt.IsKeyLit]
  obtain ⟨w', hrun, h', ht'⟩ := h.store (Maps.string_keyed hk) ht hn hkey (plainElem_int he hx)
  have hsz : Maps.size (D.put (keyLit s) (.lit (.int .i64 x))) = if (f s).isSome then N else N + 1 := by
    rw [Maps.size_put htd, (r.says s).1, r.size]
  refine ⟨w', hrun, ⟨_, by have := ownsMap_tight h'; rwa [hsz] at this, ⟨hsz, fun t => ?_⟩⟩, ht'⟩
  by_cases e : t = s
  · subst e
    rw [Maps.has_put_same him hl, Maps.atKey_put_same him hl]
    simp
  · have hne : keyLit t ≠ keyLit s := fun h => e (keyLit_inj h)
    rw [Maps.has_put_other hne, Maps.atKey_put_other hne]
    simpa [e] using r.says t
/-- 'delete(m, k)' -/
theorem drop (h : MapAt P kt et w b f N) (hk : P.underlying kt = some .string) (ht : P.underlying mt = some (.map kt et)) (s : ByteArray) (hs : s.size ≤ maxLen) (hp : (f s).isSome = true) :
    ∃ w', (∀ ty, (Builtin.delete_ #[mt, kt] ty #[.map (some b), .string s]).run P w = .ok (.tuple #[]) w') ∧ MapAt P kt et w' b (fun t => if t = s then none else f t) (N - 1) ∧ w.mapTurned w' b := by
  obtain ⟨D, h, r⟩ := h
  have hkey : keyOf P kt (.string s) = some (keyLit s) := keyOf_string_mk hk hs
  have htd := h.tidy (Maps.string_keyed hk)
  obtain ⟨es, clock, hb, F, hs', hD⟩ := h
  have key : ∀ ty : TypeId, ∃ es', (Builtin.delete_ #[mt, kt] ty #[.map (some b), .string s]).run P w = .ok (.tuple #[]) (ChangeMaps.setBlock w b (.map es' clock)) ∧ (ChangeMaps.setBlock w b (.map es' clock)).ownsMap P kt (plainElem P et) b N (D.del (keyLit s)) := by
    intro ty
    obtain ⟨es', hrun, F', hle, hdel, _⟩ := Maps.fit_drop (ty := ty) (Maps.string_keyed hk) ht hb F hkey
    exact ⟨es', hrun, es', clock, ChangeMaps.heap_setBlock_same hb _, F', Nat.le_trans hle hs', by rw [hD, DataW.del_eq, hdel]⟩
  obtain ⟨es0, hrun0, h0⟩ := key 0
  have hall : ∀ ty, (Builtin.delete_ #[mt, kt] ty #[.map (some b), .string s]).run P w = .ok (.tuple #[]) (ChangeMaps.setBlock w b (.map es0 clock)) := fun ty => hrun0
  have hsz : Maps.size (D.del (keyLit s)) = N - 1 := by
    have := Maps.size_del (k := keyLit s) htd
    rw [(r.says s).1, hp, r.size] at this
    simp at this
    omega
  refine ⟨_, hall, ⟨_, by have := ownsMap_tight h0; rwa [hsz] at this, ⟨hsz, fun t => ?_⟩⟩, ⟨es, clock, es0, clock, hb, rfl⟩⟩
  by_cases e : t = s
  · subst e
    rw [Maps.has_del_same]
    simp
  · have hne : keyLit t ≠ keyLit s := fun h => e (keyLit_inj h)
    rw [Maps.has_del_other hne, Maps.atKey_del_other hne]
    simpa [e] using r.says t
end MapAt
end Go.Proofs.Ytpdkilfncflngaa
