/-
  PLAIN WORDS ON WORLDS, for this seat's walks: what a call may have turned ('Fr'), blocks known whole, a map that is known by its look-ups ('MapIs').
-/
import Derived.Test.YtajhgejhdalobaaGreatDoorRows
import Derived.WalkKit
import Derived.WalkSpells
import Derived.WalkLawsBesides
import Derived.Maps.OwnSet
namespace Go.Proofs.YtajhgejhdalobaaGreatDoor
open Go.RowKit
open Go.WideMaps (keyOf_string_mk)

abbrev Bs := List UInt8
structure Fr (S : Nat → Prop) (w w' : World) : Prop where
  os : w'.os = w.os
  tape : w'.tape = w.tape
  output : w'.output = w.output
  size : w.heap.size ≤ w'.heap.size
  block : ∀ k, k < w.heap.size → ¬ S k → w'.heap[k]? = w.heap[k]?

def noBlock : Nat → Prop := fun _ => False

namespace Fr
variable {S T : Nat → Prop} {a b c w w' : World}
theorem refl (S : Nat → Prop) (w : World) : Fr S w w := ⟨rfl, rfl, rfl, Nat.le_refl _, fun _ _ _ => rfl⟩
theorem mono (h : Fr S a b) (hs : ∀ k, S k → T k) : Fr T a b := ⟨h.os, h.tape, h.output, h.size, fun k hk hn => h.block k hk (fun hS => hn (hs k hS))⟩
theorem trans (h : Fr S a b) (g : Fr T b c) (hs : ∀ k, T k → S k ∨ a.heap.size ≤ k) : Fr S a c :=
  ⟨g.os.trans h.os, g.tape.trans h.tape, g.output.trans h.output, Nat.le_trans h.size g.size, fun k hk hn =>
    (g.block k (Nat.lt_of_lt_of_le hk h.size) (fun hT => (hs k hT).elim hn (fun hle => by omega))).trans (h.block k hk hn)⟩
theorem trans' (h : Fr S a b) (g : Fr S b c) : Fr S a c := h.trans g (fun _ hk => .inl hk)
theorem drew (h : Fr S a b) : Fr S a b.drew := ⟨h.os, h.tape, h.output, h.size, h.block⟩
theorem drewN (h : Fr S a b) (n : Nat) : Fr S a (b.drewN n) := ⟨h.os, h.tape, h.output, h.size, h.block⟩
theorem alloc (h : Fr S a b) (o : Obj) : Fr S a (b.alloc o) :=
  ⟨h.os, h.tape, h.output, by simpa using Nat.le_succ_of_le h.size, fun k hk hn => (Below.heap_alloc b o k (Nat.lt_of_lt_of_le hk h.size)).trans (h.block k hk hn)⟩
theorem setCell (h : Fr S a b) {p : Addr} (hp : S p.block ∨ a.heap.size ≤ p.block) (u : Value) : Fr S a (b.setCell p u) :=
  ⟨h.os, h.tape, h.output, by simpa using h.size, fun k hk hn => (Below.heap_setCell b p u k (fun e => by subst e; exact hp.elim hn (fun hle => by omega))).trans (h.block k hk hn)⟩
theorem grown (h : Fr S a b) {row : Option Nat} (hg : b.grownBy c row) (hr : ∀ k, row = some k → S k ∨ a.heap.size ≤ k) : Fr S a c :=
  ⟨hg.os.trans h.os, hg.tape.trans h.tape, hg.output.trans h.output, Nat.le_trans h.size hg.size, fun k hk hn =>
    (hg.block k (Nat.lt_of_lt_of_le hk h.size) (fun e => (hr k e.symm).elim hn (fun hle => by omega))).trans (h.block k hk hn)⟩
theorem below (h : Fr S a b) {B : Nat} (hB : B ≤ a.heap.size) (hs : ∀ k, S k → B ≤ k) : Below B a b :=
  ⟨h.os, h.tape, h.output, h.size, fun k hk => h.block k (by omega) (fun hS => by have := hs k hS; omega)⟩
theorem of_below (h : Below a.heap.size a b) : Fr S a b := ⟨h.os, h.tape, h.output, h.size, fun k hk _ => h.block k hk⟩
theorem cell (h : Fr S a b) {p : Addr} (hp : p.block < a.heap.size) (hn : ¬ S p.block) : b.cell? p = a.cell? p := World.cell?_of_block (w := a) (h.block _ hp hn)
theorem frozen (h : Fr S a b) {p : Addr} (hp : p.block < a.heap.size) (hn : ¬ S p.block) : b.frozen? p = a.frozen? p := World.frozen?_of_block (w := a) (h.block _ hp hn)
theorem obj (h : Fr S a b) {k : Nat} {o : Obj} (ho : a.heap[k]? = some o) (hn : ¬ S k) : b.heap[k]? = some o := (h.block k (Array.getElem?_eq_some_iff.1 ho).1 hn).trans ho
end Fr

theorem heap_lt {w : World} {b : Nat} {o : Obj} (h : w.heap[b]? = some o) : b < w.heap.size := (Array.getElem?_eq_some_iff.1 h).1
theorem heap_new (w : World) (o : Obj) : (w.alloc o).heap[w.heap.size]? = some o := heap_alloc_new w o
theorem heap_old {w : World} (o : Obj) {k : Nat} {x : Obj} (h : w.heap[k]? = some x) : (w.alloc o).heap[k]? = some x := (Below.heap_alloc w o k (heap_lt h)).trans h
theorem heap_set_ne {w : World} {k b i : Nat} {u : Value} {x : Obj} (h : w.heap[k]? = some x) (hne : k ≠ b) : (w.setCell ⟨b, i, none⟩ u).heap[k]? = some x := (Below.heap_setCell w ⟨b, i, none⟩ u k hne).trans h
theorem heap_set_eq {w : World} {b i : Nat} {u : Value} {cs : Array Value} {t : TypeId} {f : Nat × Nat} (h : w.heap[b]? = some (.cells cs t f)) :
    (w.setCell ⟨b, i, none⟩ u).heap[b]? = some (.cells (cs.setIfInBounds i u) t f) := by
  simp [World.setCell, Array.getElem?_modify, h]
theorem cell_of {w : World} {b : Nat} {cs : Array Value} {t : TypeId} {f : Nat × Nat} (h : w.heap[b]? = some (.cells cs t f)) (i : Nat) : w.cell? ⟨b, i, none⟩ = cs[i]? := by simp [World.cell?, h]
theorem free_of {w : World} {b : Nat} {cs : Array Value} {t : TypeId} (h : w.heap[b]? = some (.cells cs t (0, 0))) (i : Nat) : w.frozen? ⟨b, i, none⟩ = false := by simp [World.frozen?, h]

theorem wp_at {P : Program} {c : Code} {Q : Exit → Act → World → Prop} {a : Act} {w : World} (φ : World → Prop) (hφ : φ w) (h : ∀ W, φ W → c.wp P Q a W) : c.wp P Q a w := h w hφ

theorem ownsRow_fr {S : Nat → Prop} {w w' : World} {base : Nat} {e : TypeId} {size : Nat} {v : Value} {n : Nat} {xs : List Value} (h : w.ownsRow base e size v n xs) (hf : Fr S w w') (hn : ∀ k, v.ownBlock = some k → ¬ S k) : w'.ownsRow base e size v n xs := by
  refine ⟨h.1, h.2.imp (fun x => x) ?_⟩
  rintro ⟨g, cap, cur, rfl, hb, hg, rest⟩
  exact ⟨g, cap, cur, rfl, hb, hf.obj hg (hn g rfl), rest⟩
theorem ownsMap_fr {S : Nat → Prop} {H : Type} {P : Program} {k : TypeId} {R : Value → Option (DataW H × List MemPlace)} {w w' : World} {b n : Nat} {D : DataW H} (h : w.ownsMap P k R b n D) (hf : Fr S w w') (hn : ¬ S b) : w'.ownsMap P k R b n D := by
  obtain ⟨es, clock, hb, rest⟩ := h
  exact ⟨es, clock, hf.obj hb hn, rest⟩

theorem toList_inj' {a b : ByteArray} (h : a.toList = b.toList) : a = b := by
  rw [ByteArray.toList_eq, ByteArray.toList_eq] at h
  have := Array.toList_inj.1 h
  cases a; cases b; simp_all
abbrev keyLit (s : ByteArray) : Lit := .string s.data.toList
theorem keyLit_inj {a b : ByteArray} (h : keyLit a = keyLit b) : a = b := by
  have := Lit.string.inj h
  have := Array.toList_inj.1 this
  cases a; cases b; simp_all

def MapIs (P : Program) (kt et : TypeId) (w : World) (b n : Nat) (f : ByteArray → Option Int) : Prop :=
  ∃ D : DataW Unit, w.ownsMap P kt (plainElem P et) b n D ∧ ∀ s, Maps.has D (keyLit s) = (f s).isSome ∧ ∀ x, f s = some x → D.atKey (keyLit s) (.lit (.int .i64 0)) = .lit (.int .i64 x)

namespace MapIs
variable {P : Program} {kt et mt : TypeId} {w w' : World} {b n : Nat} {f : ByteArray → Option Int}
theorem lt (h : MapIs P kt et w b n f) : b < w.heap.size := by obtain ⟨D, h, _⟩ := h; exact h.lt
theorem fr {S : Nat → Prop} (h : MapIs P kt et w b n f) (hf : Fr S w w') (hn : ¬ S b) : MapIs P kt et w' b n f := by
  obtain ⟨D, h, r⟩ := h; exact ⟨D, ownsMap_fr h hf hn, r⟩
theorem mono (h : MapIs P kt et w b n f) {m : Nat} (hm : n ≤ m) : MapIs P kt et w b m f := by obtain ⟨D, h, r⟩ := h; exact ⟨D, h.mono hm, r⟩
theorem congr (h : MapIs P kt et w b n f) {g : ByteArray → Option Int} (hg : ∀ s, f s = g s) : MapIs P kt et w b n g := by rwa [← funext hg]
theorem made (P : Program) (kt et : TypeId) (w : World) : MapIs P kt et (w.alloc (.map #[] 0)) w.heap.size 0 (fun _ => none) :=
  ⟨.map [], World.ownsMap_made w P kt _, fun s => ⟨by simp [Maps.has_eq], fun x hx => by cases hx⟩⟩
theorem look (h : MapIs P kt et w b n f) (hk : P.underlying kt = some .string) (ht : P.underlying mt = some (.map kt et)) (he : P.underlying et = some (.int .i64)) (hz : (zeroValue et).run P w = .ok (.int .i64 0) w) (s : ByteArray) (hs : s.size ≤ maxLen) :
    (Instr.lookup mt (.map (some b)) (.string s) true).run P w = .ok (.tuple #[.int .i64 ((f s).getD 0), .bool (f s).isSome]) w := by
  obtain ⟨D, h, r⟩ := h
  obtain ⟨r1, r2⟩ := r s
  have hkey : keyOf P kt (.string s) = some (keyLit s) := keyOf_string_mk hk hs
  obtain ⟨v, ps, hrun, hv⟩ := h.look_ok (Maps.string_keyed hk) ht hz (plainElem_int he (by decide)) hkey
  obtain ⟨c, rfl, hc, _⟩ := plainElem_int_inv he hv
  simp only [Prod.mk.injEq] at hc
  rw [hrun, r1]
  cases hf : f s with
  | none =>
    rw [hf] at r1
    have := Maps.atKey_of_not_has (by simpa using r1) (.lit (.int .i64 0))
    rw [this] at hc
    have h0 : (0 : Int) = c := by simpa using hc.1
    simp [h0]
  | some x =>
    have := r2 x hf
    rw [this] at hc
    have h0 : x = c := by simpa using hc.1
    simp [h0]
theorem store (h : MapIs P kt et w b n f) (hk : P.underlying kt = some .string) (ht : P.underlying mt = some (.map kt et)) (he : P.underlying et = some (.int .i64)) (hn : n < maxLen) (s : ByteArray) (hs : s.size ≤ maxLen) (x : Int) (hx : (Lit.int .i64 x).wf = true) :
    ∃ w', (Instr.mapUpdate mt (.map (some b)) (.string s) (.int .i64 x)).run P w = .ok () w' ∧ MapIs P kt et w' b (n + 1) (fun t => if t = s then some x else f t) ∧ w.mapTurned w' b := by
  obtain ⟨D, h, r⟩ := h
  have hkey : keyOf P kt (.string s) = some (keyLit s) := keyOf_string_mk hk hs
  obtain ⟨w', hrun, h', ht'⟩ := h.store (Maps.string_keyed hk) ht hn hkey (plainElem_int he hx)
  refine ⟨w', hrun, ⟨_, h', fun t => ?_⟩, ht'⟩
  by_cases e : t = s
  · subst e
    have hl : WideAt.IsKeyLit (keyLit t) := by simp [WideAt.IsKeyLit]
    rw [Maps.has_put_same h.isMap hl, Maps.atKey_put_same h.isMap hl]
    simp
  · have hne : keyLit t ≠ keyLit s := fun h => e (keyLit_inj h)
    rw [Maps.has_put_other hne, Maps.atKey_put_other hne]
    simpa [e] using r t
theorem clear (h : MapIs P kt et w b n f) (ht : P.underlying mt = some (.map kt et)) (ty : TypeId) :
    ∃ w', (Builtin.clear_ #[mt] ty #[.map (some b)]).run P w = .ok (.tuple #[]) w' ∧ MapIs P kt et w' b 0 (fun _ => none) ∧ w.mapTurned w' b := by
  obtain ⟨D, h, r⟩ := h
  obtain ⟨es, clock, hb, F, hs, hD⟩ := h
  refine ⟨ChangeMaps.setBlock w b (.map #[] clock), ?_, ⟨.map [], ⟨#[], clock, ChangeMaps.heap_setBlock_same hb _, ⟨by simp, MapKept.stamped_empty _, by simp⟩, Nat.le_refl _, rfl⟩, fun s => ⟨by simp [Maps.has_eq], fun x hx => by cases hx⟩⟩, ⟨es, clock, _, _, hb, rfl⟩⟩
  simp [Builtin.clear_, run_underlying ht, MapKept.run_getObj_map hb, MapKept.run_setObj_map _ hb, Result.andThen, ChangeMaps.setBlock]
end MapIs
end Go.Proofs.YtajhgejhdalobaaGreatDoor
