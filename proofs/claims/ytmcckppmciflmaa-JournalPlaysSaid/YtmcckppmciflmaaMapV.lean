/-
  A MAP WHOSE VALUES ARE ANY ONE-CELL VALUES (slices, pointers, structs), keys ints or strings: 'MapV K w b f N': block b is a map of just N entries that answers as f does.
-/
import Derived.Maps.RangeWalk
import Derived.Test.YtmcckppmciflmaaThing
namespace Go.Proofs.Ytmcckppmciflmaa
open Go.RowKit
open Go.WideMaps (keyOf_string_mk)

/-- what the laws want of a key's type -/
structure KeyK (P : Program) (kt : TypeId) (κ : Type) where
  val : κ → Value
  lit : κ → Lit
  ok : κ → Prop
  law : Maps.Keyed P kt
  inj : ∀ {a b}, lit a = lit b → a = b
  key : ∀ {a}, ok a → keyOf P kt (val a) = some (lit a)
  back : ∀ {v l}, keyOf P kt v = some l → ∃ a, ok a ∧ v = val a ∧ l = lit a
  is : ∀ a, WideAt.IsKeyLit (lit a)

def heldR (v : Value) : Option (DataW Value × List MemPlace) := some (.held v, [])
def keyI {P : Program} {kt : TypeId} (hk : P.underlying kt = some (.int .i64)) : KeyK P kt Int where
  val n := .int .i64 n
  lit n := .int .i64 n
  ok n := (Lit.int .i64 n).wf = true
  law := Maps.int_keyed hk
  inj h := by simpa using h
  key h := Maps.keyOf_int_mk hk h
  back h := by obtain ⟨x, h1, h2, h3⟩ := Maps.keyOf_int_inv hk h; exact ⟨x, h3, h1, h2⟩
  is _ := by simp [WideAt.IsKeyLit]
def keyS {P : Program} {kt : TypeId} (hk : P.underlying kt = some .string) : KeyK P kt ByteArray where
  val s := .string s
  lit s := keyLit s
  ok s := s.size ≤ maxLen
  law := Maps.string_keyed hk
  inj h := keyLit_inj h
  key h := keyOf_string_mk hk h
  back {v l} h := by
    cases v <;> simp [keyOf, hk, mapKey] at h
    rename_i s
    obtain ⟨hs, rfl⟩ := h
    exact ⟨s, hs, rfl, rfl⟩
  is _ := by simp [WideAt.IsKeyLit]

structure MapVD {P : Program} {kt : TypeId} {κ : Type} (K : KeyK P kt κ) (D : DataW Value) (f : κ → Option Value) (N : Nat) : Prop where
  size : Maps.size D = N
  has : ∀ a, Maps.has D (K.lit a) = (f a).isSome
  says : ∀ a v, f a = some v → ∀ z, D.atKey (K.lit a) z = .held v

def MapV {P : Program} {kt : TypeId} {κ : Type} (K : KeyK P kt κ) (w : World) (b : Nat) (f : κ → Option Value) (N : Nat) : Prop :=
  ∃ D : DataW Value, w.ownsMap P kt heldR b N D ∧ MapVD K D f N

theorem ownsMap_fit {P : Program} {k : TypeId} {w : World} {b n : Nat} {D : DataW Value} (h : w.ownsMap P k heldR b n D) : w.ownsMap P k heldR b (Maps.size D) D := by
  obtain ⟨es, clock, hb, F, hs, rfl⟩ := h
  exact ⟨es, clock, hb, F, by simp [Maps.size, length_sorted], rfl⟩

namespace MapV
variable {P : Program} {kt et mt : TypeId} {κ : Type} {K : KeyK P kt κ} {w w' : World} {b N : Nat} {f : κ → Option Value}
theorem lt (h : MapV K w b f N) : b < w.heap.size := by obtain ⟨D, h, _⟩ := h; exact h.lt
theorem isMap (h : MapV K w b f N) : ∃ es clock, w.heap[b]? = some (.map es clock) := by obtain ⟨D, ⟨es, clock, hb, _⟩, _⟩ := h; exact ⟨es, clock, hb⟩
theorem fr {S : Nat → Prop} (h : MapV K w b f N) (hf : Fr S w w') (hn : ¬ S b) : MapV K w' b f N := by
  obtain ⟨D, h, r⟩ := h; exact ⟨D, ownsMap_fr h hf hn, r⟩
theorem congr (h : MapV K w b f N) {g : κ → Option Value} (hg : ∀ s, f s = g s) : MapV K w b g N := by rwa [← funext hg]
theorem made (K : KeyK P kt κ) (w : World) : MapV K (w.alloc (.map #[] 0)) w.heap.size (fun _ => none) 0 :=
  ⟨.map [], World.ownsMap_made w P kt _, ⟨rfl, fun s => by simp [Maps.has_eq], fun _ _ hx => by cases hx⟩⟩
/-- 'v, ok := m[k]' -/
theorem look (h : MapV K w b f N) (ht : P.underlying mt = some (.map kt et)) {z : Value} (hz : (zeroValue et).run P w = .ok z w) {a : κ} (ha : K.ok a) :
    (Instr.lookup mt (.map (some b)) (K.val a) true).run P w = .ok (.tuple #[(f a).getD z, .bool (f a).isSome]) w := by
  obtain ⟨D, h, r⟩ := h
  obtain ⟨v, ps, hrun, hv⟩ := h.look_ok K.law ht hz (zd := .held z) rfl (K.key ha)
  rw [hrun, r.has a]
  simp only [heldR, Option.some.injEq, Prod.mk.injEq] at hv
  cases hf : f a with
  | none =>
    have h0 := r.has a
    rw [hf] at h0
    rw [Maps.atKey_of_not_has (by simpa using h0)] at hv
    simp at hv
    simp [hv.1]
  | some x =>
    rw [r.says a x hf] at hv
    simp at hv
    simp [hv.1]
/-- 'm[k]' -/
theorem look1 (h : MapV K w b f N) (ht : P.underlying mt = some (.map kt et)) {z : Value} (hz : (zeroValue et).run P w = .ok z w) {a : κ} (ha : K.ok a) :
    (Instr.lookup mt (.map (some b)) (K.val a) false).run P w = .ok ((f a).getD z) w := by
  obtain ⟨D, h, r⟩ := h
  obtain ⟨v, ps, hrun, hv⟩ := h.lookup K.law ht hz (zd := .held z) rfl (K.key ha)
  rw [hrun]
  simp only [heldR, Option.some.injEq, Prod.mk.injEq] at hv
  cases hf : f a with
  | none =>
    have h0 := r.has a
    rw [hf] at h0
    rw [Maps.atKey_of_not_has (by simpa using h0)] at hv
    simp at hv
    simp [hv.1]
  | some x =>
    rw [r.says a x hf] at hv
    simp at hv
    simp [hv.1]
/-- 'len(m)' -/
theorem len (h : MapV K w b f N) (ht : P.underlying mt = some (.map kt et)) (ty : TypeId) : (Builtin.len_ #[mt] ty #[.map (some b)]).run P w = .ok (.int .i64 N) w := by
  obtain ⟨D, h, r⟩ := h
  rw [h.len ht ty, r.size]
/-- 'm[k] = v' -/
theorem store [DecidableEq κ] (h : MapV K w b f N) (ht : P.underlying mt = some (.map kt et)) (hn : N < maxLen) {a : κ} (ha : K.ok a) (x : Value) :
    ∃ w', (Instr.mapUpdate mt (.map (some b)) (K.val a) x).run P w = .ok () w' ∧ MapV K w' b (fun t => if t = a then some x else f t) (if (f a).isSome then N else N + 1) ∧ w.mapTurned w' b := by
  obtain ⟨D, h, r⟩ := h
  have htd := h.tidy K.law
  have him := h.isMap
  obtain ⟨w', hrun, h', ht'⟩ := h.store K.law ht hn (K.key ha) (d := .held x) (ps := []) rfl
  have hsz : Maps.size (D.put (K.lit a) (.held x)) = if (f a).isSome then N else N + 1 := by
    rw [Maps.size_put htd, r.has a, r.size]
  refine ⟨w', hrun, ⟨_, by have := ownsMap_fit h'; rwa [hsz] at this, ⟨hsz, fun t => ?_, fun t v hv z => ?_⟩⟩, ht'⟩
  · by_cases e : t = a
    · subst e; rw [Maps.has_put_same him (K.is t)]; simp
    · rw [Maps.has_put_other (fun h => e (K.inj h))]; simpa [e] using r.has t
  · by_cases e : t = a
    · subst e; rw [Maps.atKey_put_same him (K.is t)]; simp at hv; rw [hv]
    · rw [Maps.atKey_put_other (fun h => e (K.inj h))]; simp [e] at hv; exact r.says t v hv z
/-- 'delete(m, k)' -/
theorem drop [DecidableEq κ] (h : MapV K w b f N) (ht : P.underlying mt = some (.map kt et)) {a : κ} (ha : K.ok a) :
    ∃ w', (∀ ty, (Builtin.delete_ #[mt, kt] ty #[.map (some b), K.val a]).run P w = .ok (.tuple #[]) w') ∧ MapV K w' b (fun t => if t = a then none else f t) (if (f a).isSome then N - 1 else N) ∧ w.mapTurned w' b := by
  obtain ⟨D, h, r⟩ := h
  have htd := h.tidy K.law
  obtain ⟨es, clock, hb, F, hs', hD⟩ := h
  have key : ∀ ty : TypeId, ∃ es', (Builtin.delete_ #[mt, kt] ty #[.map (some b), K.val a]).run P w = .ok (.tuple #[]) (ChangeMaps.setBlock w b (.map es' clock)) ∧ (ChangeMaps.setBlock w b (.map es' clock)).ownsMap P kt heldR b N (D.del (K.lit a)) := by
    intro ty
    obtain ⟨es', hrun, F', hle, hdel, _⟩ := Maps.fit_drop (ty := ty) K.law ht hb F (K.key ha)
    exact ⟨es', hrun, es', clock, ChangeMaps.heap_setBlock_same hb _, F', Nat.le_trans hle hs', by rw [hD, DataW.del_eq, hdel]⟩
  obtain ⟨es0, hrun0, h0⟩ := key 0
  have hall : ∀ ty, (Builtin.delete_ #[mt, kt] ty #[.map (some b), K.val a]).run P w = .ok (.tuple #[]) (ChangeMaps.setBlock w b (.map es0 clock)) := fun ty => hrun0
  have hsz : Maps.size (D.del (K.lit a)) = if (f a).isSome then N - 1 else N := by
    have := Maps.size_del (k := K.lit a) htd
    rw [r.has a, r.size] at this
    split <;> simp_all <;> omega
  refine ⟨_, hall, ⟨_, by have := ownsMap_fit h0; rwa [hsz] at this, ⟨hsz, fun t => ?_, fun t v hv z => ?_⟩⟩, ⟨es, clock, es0, clock, hb, rfl⟩⟩
  · by_cases e : t = a
    · subst e; rw [Maps.has_del_same]; simp
    · rw [Maps.has_del_other (fun h => e (K.inj h))]; simpa [e] using r.has t
  · by_cases e : t = a
    · subst e; simp at hv
    · rw [Maps.atKey_del_other (fun h => e (K.inj h))]; simp [e] at hv; exact r.says t v hv z
end MapV

/-- the keys that a range has met so far -/
def Met {P : Program} {kt : TypeId} {κ : Type} (K : KeyK P kt κ) (f : κ → Option Value) (left : Lit → Bool) (ss : List κ) : Prop := ss.Nodup ∧ ∀ a, a ∈ ss ↔ ((f a).isSome = true ∧ left (K.lit a) = false)
namespace Met
variable {P : Program} {kt : TypeId} {κ : Type} {K : KeyK P kt κ} {D : DataW Value} {f : κ → Option Value} {N : Nat} {left : Lit → Bool} {ss : List κ}
theorem start (h : MapVD K D f N) : Met K f (Maps.has D) [] := ⟨List.nodup_nil, fun a => by have := h.has a; cases hf : (f a).isSome <;> simp_all⟩
theorem step (h : Met K f left ss) (hd : MapVD K D f N) {a : κ} (hl : left (K.lit a) = true) {y : DataW Value} (hat : ∀ z, D.atKey (K.lit a) z = y) : (f a).isSome = true ∧ a ∉ ss ∧ Met K f (fun z => left z && !z.sameKey (K.lit a)) (ss ++ [a]) := by
  have hhas : (f a).isSome = true := by rw [← hd.has a]; exact Maps.has_true_of_atKey hat
  have hnew : a ∉ ss := fun hx => by have := ((h.2 a).1 hx).2; rw [hl] at this; cases this
  refine ⟨hhas, hnew, List.nodup_append.2 ⟨h.1, by simp, fun x hx y hy => by simp at hy; subst hy; exact fun e => hnew (e ▸ hx)⟩, fun y => ?_⟩
  by_cases hy : y = a
  · subst hy; simp [hhas, WideAt.sameKey_self (K.is y)]
  · have hs : (K.lit y).sameKey (K.lit a) = false := by
      cases hs : (K.lit y).sameKey (K.lit a) with
      | false => rfl
      | true => exact absurd (K.inj (WideAt.sameKey_eq hs)) hy
    simp [h.2 y, hy, hs]
theorem done (h : Met K f left ss) (hl : ∀ kl, left kl = false) : ∀ a, a ∈ ss ↔ (f a).isSome = true := fun a => by rw [h.2 a, hl]; simp
end Met
end Go.Proofs.Ytmcckppmciflmaa
