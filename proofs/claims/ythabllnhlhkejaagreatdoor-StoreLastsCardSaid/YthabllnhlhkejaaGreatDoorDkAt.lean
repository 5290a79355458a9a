/-
  A DISK IN MEMORY (the program's): its block, the row of safe sectors, each in a row of its own, the map of dirty ones.
-/
import Derived.Maps.RangeWalk
import Derived.Test.YthabllnhlhkejaaGreatDoorDkPlain
import Derived.Test.YthabllnhlhkejaaGreatDoorBytes
namespace Go.Proofs.YthabllnhlhkejaaGreatDoor
open Go.RowKit
open Go.WideMaps (keyOf_string_mk)

/-- what the laws want of a key's type -/
structure KeyK (P : Program) (kt : TypeId) (κ : Type) where
  val : κ → Value
  lit : κ → Lit
  ok : κ → Prop
  law : Maps.Keyed P kt
  inj : ∀ {a b}, lit a = lit b → a = b
  key : ∀ {a}, ok a → keyOf P kt (val a) = some (lit a)
  back : ∀ {v l}, keyOf P kt v = some l → ∃ a, ok a ∧ v = val a ∧ l = lit a
  is : ∀ a, WideAt.IsKeyLit (lit a)

def heldR (v : Value) : Option (DataW Value × List MemPlace) := some (.held v, [])
def keyI {P : Program} {kt : TypeId} (hk : P.underlying kt = some (.int .i64)) : KeyK P kt Int where
  val n := .int .i64 n
  lit n := .int .i64 n
  ok n := (Lit.int .i64 n).wf = true
  law := Maps.int_keyed hk
  inj h := by simpa using h
  key h := Maps.keyOf_int_mk hk h
  back h := by obtain ⟨x, h1, h2, h3⟩ := Maps.keyOf_int_inv hk h; exact ⟨x, h3, h1, h2⟩
  is _ := by simp [WideAt.IsKeyLit]
def keyS {P : Program} {kt : TypeId} (hk : P.underlying kt = some .string) : KeyK P kt ByteArray where
  val s := .string s
  lit s := keyLit s
  ok s := s.size ≤ maxLen
  law := Maps.string_keyed hk
  inj h := keyLit_inj h
  key h := keyOf_string_mk hk h
  back {v l} h := by
    cases v <;> simp [keyOf, hk, mapKey] at h
    rename_i s
    obtain ⟨hs, rfl⟩ := h
    exact ⟨s, hs, rfl, rfl⟩
  is _ := by simp [WideAt.IsKeyLit]

structure MapVD {P : Program} {kt : TypeId} {κ : Type} (K : KeyK P kt κ) (D : DataW Value) (f : κ → Option Value) (N : Nat) : Prop where
  size : Maps.size D = N
  has : ∀ a, Maps.has D (K.lit a) = (f a).isSome
  says : ∀ a v, f a = some v → ∀ z, D.atKey (K.lit a) z = .held v

def MapV {P : Program} {kt : TypeId} {κ : Type} (K : KeyK P kt κ) (w : World) (b : Nat) (f : κ → Option Value) (N : Nat) : Prop :=
  ∃ D : DataW Value, w.ownsMap P kt heldR b N D ∧ MapVD K D f N

theorem ownsMap_fit {P : Program} {k : TypeId} {w : World} {b n : Nat} {D : DataW Value} (h : w.ownsMap P k heldR b n D) : w.ownsMap P k heldR b (Maps.size D) D := by
  obtain ⟨es, clock, hb, F, hs, rfl⟩ := h
  exact ⟨es, clock, hb, F, by simp [Maps.size, length_sorted], rfl⟩

namespace MapV
variable {P : Program} {kt et mt : TypeId} {κ : Type} {K : KeyK P kt κ} {w w' : World} {b N : Nat} {f : κ → Option Value}
theorem lt (h : MapV K w b f N) : b < w.heap.size := by obtain ⟨D, h, _⟩ := h; exact h.lt
theorem isMap (h : MapV K w b f N) : ∃ es clock, w.heap[b]? = some (.map es clock) := by obtain ⟨D, ⟨es, clock, hb, _⟩, _⟩ := h; exact ⟨es, clock, hb⟩
theorem fr {S : Nat → Prop} (h : MapV K w b f N) (hf : Fr S w w') (hn : ¬ S b) : MapV K w' b f N := by
  obtain ⟨D, h, r⟩ := h; exact ⟨D, ownsMap_fr h hf hn, r⟩
theorem congr (h : MapV K w b f N) {g : κ → Option Value} (hg : ∀ s, f s = g s) : MapV K w b g N := by rwa [← funext hg]
theorem made (K : KeyK P kt κ) (w : World) : MapV K (w.alloc (.map #[] 0)) w.heap.size (fun _ => none) 0 :=
  ⟨.map [], World.ownsMap_made w P kt _, ⟨rfl, fun s => by simp [Maps.has_eq], fun _ _ hx => by cases hx⟩⟩
/-- 'v, ok := m[k]' -/
theorem look (h : MapV K w b f N) (ht : P.underlying mt = some (.map kt et)) {z : Value} (hz : (zeroValue et).run P w = .ok z w) {a : κ} (ha : K.ok a) :
    (Instr.lookup mt (.map (some b)) (K.val a) true).run P w = .ok (.tuple #[(f a).getD z, .bool (f a).isSome]) w := by
  obtain ⟨D, h, r⟩ := h
  obtain ⟨v, ps, hrun, hv⟩ := h.look_ok K.law ht hz (zd := .held z) rfl (K.key ha)
  rw [hrun, r.has a]
  simp only [heldR, Option.some.injEq, Prod.mk.injEq] at hv
  cases hf : f a with
  | none =>
    have h0 := r.has a
    rw [hf] at h0
    rw [Maps.atKey_of_not_has (by simpa using h0)] at hv
    simp at hv
    simp [hv.1]
  | some x =>
    rw [r.says a x hf] at hv
    simp at hv
    simp [hv.1]
/-- 'm[k]' -/
theorem look1 (h : MapV K w b f N) (ht : P.underlying mt = some (.map kt et)) {z : Value} (hz : (zeroValue et).run P w = .ok z w) {a : κ} (ha : K.ok a) :
    (Instr.lookup mt (.map (some b)) (K.val a) false).run P w = .ok ((f a).getD z) w := by
  obtain ⟨D, h, r⟩ := h
  obtain ⟨v, ps, hrun, hv⟩ := h.lookup K.law ht hz (zd := .held z) rfl (K.key ha)
  rw [hrun]
  simp only [heldR, Option.some.injEq, Prod.mk.injEq] at hv
  cases hf : f a with
  | none =>
    have h0 := r.has a
    rw [hf] at h0
    rw [Maps.atKey_of_not_has (by simpa using h0)] at hv
    simp at hv
    simp [hv.1]
  | some x =>
    rw [r.says a x hf] at hv
    simp at hv
    simp [hv.1]
/-- 'len(m)' -/
theorem len (h : MapV K w b f N) (ht : P.underlying mt = some (.map kt et)) (ty : TypeId) : (Builtin.len_ #[mt] ty #[.map (some b)]).run P w = .ok (.int .i64 N) w := by
  obtain ⟨D, h, r⟩ := h
  rw [h.len ht ty, r.size]
/-- 'm[k] = v' -/
theorem store [DecidableEq κ] (h : MapV K w b f N) (ht : P.underlying mt = some (.map kt et)) (hn : N < maxLen) {a : κ} (ha : K.ok a) (x : Value) :
    ∃ w', (Instr.mapUpdate mt (.map (some b)) (K.val a) x).run P w = .ok () w' ∧ MapV K w' b (fun t => if t = a then some x else f t) (if (f a).isSome then N else N + 1) ∧ w.mapTurned w' b := by
  obtain ⟨D, h, r⟩ := h
  have htd := h.tidy K.law
  have him := h.isMap
  obtain ⟨w', hrun, h', ht'⟩ := h.store K.law ht hn (K.key ha) (d := .held x) (ps := []) rfl
  have hsz : Maps.size (D.put (K.lit a) (.held x)) = if (f a).isSome then N else N + 1 := by
    rw [Maps.size_put htd, r.has a, r.size]
  refine ⟨w', hrun, ⟨_, by have := ownsMap_fit h'; rwa [hsz] at this, ⟨hsz, fun t => ?_, fun t v hv z => ?_⟩⟩, ht'⟩
  · by_cases e : t = a
    · subst e; rw [Maps.has_put_same him (K.is t)]; simp
    · rw [Maps.has_put_other (fun h => e (K.inj h))]; simpa [e] using r.has t
  · by_cases e : t = a
    · subst e; rw [Maps.atKey_put_same him (K.is t)]; simp at hv; rw [hv]
    · rw [Maps.atKey_put_other (fun h => e (K.inj h))]; simp [e] at hv; exact r.says t v hv z
/-- 'delete(m, k)' -/
theorem drop [DecidableEq κ] (h : MapV K w b f N) (ht : P.underlying mt = some (.map kt et)) {a : κ} (ha : K.ok a) :
    ∃ w', (∀ ty, (Builtin.delete_ #[mt, kt] ty #[.map (some b), K.val a]).run P w = .ok (.tuple #[]) w') ∧ MapV K w' b (fun t => if t = a then none else f t) (if (f a).isSome then N - 1 else N) ∧ w.mapTurned w' b := by
  obtain ⟨D, h, r⟩ := h
  have htd := h.tidy K.law
  obtain ⟨es, clock, hb, F, hs', hD⟩ := h
  have key : ∀ ty : TypeId, ∃ es', (Builtin.delete_ #[mt, kt] ty #[.map (some b), K.val a]).run P w = .ok (.tuple #[]) (ChangeMaps.setBlock w b (.map es' clock)) ∧ (ChangeMaps.setBlock w b (.map es' clock)).ownsMap P kt heldR b N (D.del (K.lit a)) := by
    intro ty
    obtain ⟨es', hrun, F', hle, hdel, _⟩ := Maps.fit_drop (ty := ty) K.law ht hb F (K.key ha)
    exact ⟨es', hrun, es', clock, ChangeMaps.heap_setBlock_same hb _, F', Nat.le_trans hle hs', by rw [hD, DataW.del_eq, hdel]⟩
  obtain ⟨es0, hrun0, h0⟩ := key 0
  have hall : ∀ ty, (Builtin.delete_ #[mt, kt] ty #[.map (some b), K.val a]).run P w = .ok (.tuple #[]) (ChangeMaps.setBlock w b (.map es0 clock)) := fun ty => hrun0
  have hsz : Maps.size (D.del (K.lit a)) = if (f a).isSome then N - 1 else N := by
    have := Maps.size_del (k := K.lit a) htd
    rw [r.has a, r.size] at this
    split <;> simp_all <;> omega
  refine ⟨_, hall, ⟨_, by have := ownsMap_fit h0; rwa [hsz] at this, ⟨hsz, fun t => ?_, fun t v hv z => ?_⟩⟩, ⟨es, clock, es0, clock, hb, rfl⟩⟩
  · by_cases e : t = a
    · subst e; rw [Maps.has_del_same]; simp
    · rw [Maps.has_del_other (fun h => e (K.inj h))]; simpa [e] using r.has t
  · by_cases e : t = a
    · subst e; simp at hv
    · rw [Maps.atKey_del_other (fun h => e (K.inj h))]; simp [e] at hv; exact r.says t v hv z
end MapV

/-- the keys that a range has met so far -/
def Met {P : Program} {kt : TypeId} {κ : Type} (K : KeyK P kt κ) (f : κ → Option Value) (left : Lit → Bool) (ss : List κ) : Prop := ss.Nodup ∧ ∀ a, a ∈ ss ↔ ((f a).isSome = true ∧ left (K.lit a) = false)
namespace Met
variable {P : Program} {kt : TypeId} {κ : Type} {K : KeyK P kt κ} {D : DataW Value} {f : κ → Option Value} {N : Nat} {left : Lit → Bool} {ss : List κ}
theorem start (h : MapVD K D f N) : Met K f (Maps.has D) [] := ⟨List.nodup_nil, fun a => by have := h.has a; cases hf : (f a).isSome <;> simp_all⟩
theorem step (h : Met K f left ss) (hd : MapVD K D f N) {a : κ} (hl : left (K.lit a) = true) {y : DataW Value} (hat : ∀ z, D.atKey (K.lit a) z = y) : (f a).isSome = true ∧ a ∉ ss ∧ Met K f (fun z => left z && !z.sameKey (K.lit a)) (ss ++ [a]) := by
  have hhas : (f a).isSome = true := by rw [← hd.has a]; exact Maps.has_true_of_atKey hat
  have hnew : a ∉ ss := fun hx => by have := ((h.2 a).1 hx).2; rw [hl] at this; cases this
  refine ⟨hhas, hnew, List.nodup_append.2 ⟨h.1, by simp, fun x hx y hy => by simp at hy; subst hy; exact fun e => hnew (e ▸ hx)⟩, fun y => ?_⟩
  by_cases hy : y = a
  · subst hy; simp [hhas, WideAt.sameKey_self (K.is y)]
  · have hs : (K.lit y).sameKey (K.lit a) = false := by
      cases hs : (K.lit y).sameKey (K.lit a) with
      | false => rfl
      | true => exact absurd (K.inj (WideAt.sameKey_eq hs)) hy
    simp [h.2 y, hy, hs]
theorem done (h : Met K f left ss) (hl : ∀ kl, left kl = false) : ∀ a, a ∈ ss ↔ (f a).isSome = true := fun a => by rw [h.2 a, hl]; simp
end Met
end Go.Proofs.YthabllnhlhkejaaGreatDoor
namespace Go.Proofs.YthabllnhlhkejaaGreatDoor
open Go.RowKit

theorem Two.l {A B : Thing} (b : B.Ok) {w : World} {H : Nat → Prop} (h : Two A B w H) : ∃ G, A w G ∧ ∀ (A' : Thing) (w' : World) (G' : Nat → Prop), A' w' G' → Step G G' w w' → ∃ H', Two A' B w' H' ∧ Step H H' w w' := by
  obtain ⟨F, G, h1, h2, h3, h4⟩ := h
  exact ⟨F, h1, fun A' w' G' h' hs => ⟨_, Two.left b h2 h3 h4 h' hs⟩⟩
theorem Two.r {A B : Thing} (a : A.Ok) {w : World} {H : Nat → Prop} (h : Two A B w H) : ∃ G, B w G ∧ ∀ (B' : Thing) (w' : World) (G' : Nat → Prop), B' w' G' → Step G G' w w' → ∃ H', Two A B' w' H' ∧ Step H H' w w' := by
  obtain ⟨F, G, h1, h2, h3, h4⟩ := h
  exact ⟨G, h2, fun B' w' G' h' hs => ⟨_, Two.right a h1 h3 h4 h' hs⟩⟩

/-- a block that is known whole -/
def BoxT (b : Nat) (o : Obj) : Thing := fun w F => w.heap[b]? = some o ∧ ∀ k, F k ↔ k = b
theorem BoxT.ok {b : Nat} {o : Obj} : (BoxT b o).Ok :=
  ⟨fun h k hk => by obtain rfl := (h.2 k).1 hk; exact heap_lt h.1, fun h hf hs => ⟨hf.obj h.1 (hs b ((h.2 b).2 rfl)), h.2⟩⟩

namespace Mine
variable {w0 w : World} {A B X : Thing} {H : Nat → Prop}
theorem in1 (b : B.Ok) (x : X.Ok) (h : Mine w0 (Two (Two A B) X) w H) : ∃ G, A w G ∧ ∀ (A' : Thing) (w' : World) (G' : Nat → Prop), A' w' G' → Step G G' w w' → ∃ H', Mine w0 (Two (Two A' B) X) w' H' := by
  obtain ⟨G0, h1, st0⟩ := h.left x
  obtain ⟨G, h2, st⟩ := Two.l b h1
  exact ⟨G, h2, fun A' w' G' h' hs => by obtain ⟨H1, t1, s1⟩ := st A' w' G' h' hs; exact st0 _ _ _ t1 s1⟩
theorem in2 (a : A.Ok) (x : X.Ok) (h : Mine w0 (Two (Two A B) X) w H) : ∃ G, B w G ∧ ∀ (B' : Thing) (w' : World) (G' : Nat → Prop), B' w' G' → Step G G' w w' → ∃ H', Mine w0 (Two (Two A B') X) w' H' := by
  obtain ⟨G0, h1, st0⟩ := h.left x
  obtain ⟨G, h2, st⟩ := Two.r a h1
  exact ⟨G, h2, fun B' w' G' h' hs => by obtain ⟨H1, t1, s1⟩ := st B' w' G' h' hs; exact st0 _ _ _ t1 s1⟩
theorem box {b : Nat} {o : Obj} (h : Mine w0 (Two A (BoxT b o)) w H) : w.heap[b]? = some o := by
  obtain ⟨G, hG⟩ := h.snd
  exact hG.it.1
theorem withBox (a : A.Ok) (h : Mine w0 A w H) (o : Obj) : ∃ H', Mine w0 (Two A (BoxT w.heap.size o)) (w.alloc o) H' := by
  have hk : ∀ q, (fun q => q = w.heap.size) q → w.heap.size ≤ q := fun q hq => by subst hq; exact Nat.le_refl _
  exact ⟨_, h.join a ((Fr.refl _ _).alloc o) (show BoxT w.heap.size o (w.alloc o) (fun q => q = w.heap.size) from ⟨heap_new w o, fun _ => Iff.rfl⟩) hk⟩
end Mine
end Go.Proofs.YthabllnhlhkejaaGreatDoor
namespace Go.Proofs.YthabllnhlhkejaaGreatDoor
open Go.RowKit

noncomputable abbrev kI : KeyK Tryz.prog 3 Int := keyI Tryz.underlying3
theorem zero_bytes (w : World) : (zeroValue 28).run Tryz.prog w = .ok (.slice none 0 0) w := by kernel_rfl
theorem infoRows : (Tryz.prog.info? 28).map (fun i => (i.zero, i.size, i.bytes)) = some (some (.slice none 0 0), 1, 24) := by kernel_rfl
theorem el_rows : Elem Tryz.prog 43 28 SliceR.k 24 := Elem.mk' Tryz.underlying43 infoRows (by decide) rfl
theorem kI_ok {n : Int} (h0 : 0 ≤ n) (h1 : n ≤ 4096) : kI.ok n := by
  show (Lit.int .i64 n).wf = true
  simp [Lit.wf, IntKind.min, IntKind.max, IntKind.signed, IntKind.bits]; omega

structure DiskIn (l : Nat) (d : DK) (w : World) (F : Nat → Prop) (acts part : Int) (sv : SV) (ss : List SV) (bm : Nat) (g : Int → Option SV) : Prop where
  box : w.heap[l]? = some (.cells #[.bool d.off, .bool d.arm.isSome, .int .i64 acts, .int .i64 part, .int .i64 d.size, sv.val, .map (some bm)] 46 (0, 0))
  arm : ∀ a p, d.arm = some (a, p) → acts = a ∧ part = p
  rows : RowAt 28 SliceR w sv.val ss
  len : ss.length = d.safe.length
  bufs : ∀ (i : Nat) (s : SV) (b : Bs), ss[i]? = some s → d.safe[i]? = some b → RowAt 5 ByteR w s.val b
  apart : ∀ (i j : Nat) (s t : SV) (k : Nat), ss[i]? = some s → ss[j]? = some t → s.val.ownBlock = some k → t.val.ownBlock = some k → i = j
  map : MapV kI w bm (fun n => (g n).map SV.val) d.dirty.length
  dirt : ∀ n, (g n).isSome = (lookD d.dirty n).isSome
  dbufs : ∀ (n : Int) (s : SV) (b : Bs), g n = some s → lookD d.dirty n = some b → RowAt 5 ByteR w s.val b
  dapart : ∀ (n : Int) (s t : SV) (k : Nat), g n = some s → t ∈ ss → s.val.ownBlock = some k → t.val.ownBlock ≠ some k
  foot : ∀ k, F k ↔ k = l ∨ sv.val.ownBlock = some k ∨ k = bm ∨ (∃ t ∈ ss, t.val.ownBlock = some k) ∨ ∃ (n : Int) (s : SV), g n = some s ∧ s.val.ownBlock = some k
  good : d.Good
def DiskAt (l : Nat) (d : DK) : Thing := fun w F => ∃ acts part sv ss bm g, DiskIn l d w F acts part sv ss bm g

namespace DiskIn
variable {l : Nat} {d : DK} {w w' : World} {F : Nat → Prop} {acts part : Int} {sv : SV} {ss : List SV} {bm : Nat} {g : Int → Option SV}
theorem mem_buf (h : DiskIn l d w F acts part sv ss bm g) {t : SV} (ht : t ∈ ss) : ∃ b, b.length = d.size ∧ RowAt 5 ByteR w t.val b := by
  obtain ⟨i, hi, rfl⟩ := List.getElem_of_mem ht
  have hs : i < d.safe.length := by rw [← h.len]; exact hi
  exact ⟨d.safe[i], h.good.sizes _ (List.getElem_mem hs), h.bufs i ss[i] d.safe[i] (List.getElem?_eq_getElem hi) (List.getElem?_eq_getElem hs)⟩
theorem dirt_buf (h : DiskIn l d w F acts part sv ss bm g) {n : Int} {s : SV} (hs : g n = some s) : ∃ b, lookD d.dirty n = some b ∧ b.length = d.size ∧ RowAt 5 ByteR w s.val b := by
  have := h.dirt n
  rw [hs] at this
  obtain ⟨b, hb⟩ := Option.isSome_iff_exists.1 this.symm
  obtain ⟨p, hp, _, rfl⟩ := lookD_mem hb
  exact ⟨p.2, hb, (h.good.there p hp).2, h.dbufs n s p.2 hs hb⟩
theorem lt (h : DiskIn l d w F acts part sv ss bm g) : ∀ k, F k → k < w.heap.size := by
  intro k hk
  rcases (h.foot k).1 hk with rfl | hk | rfl | ⟨t, ht, hk⟩ | ⟨n, s, hs, hk⟩
  · exact heap_lt h.box
  · exact h.rows.lt k hk
  · exact h.map.lt
  · obtain ⟨b, _, hb⟩ := h.mem_buf ht; exact hb.lt k hk
  · obtain ⟨b, _, _, hb⟩ := h.dirt_buf hs; exact hb.lt k hk
theorem fr {S : Nat → Prop} (h : DiskIn l d w F acts part sv ss bm g) (hf : Fr S w w') (hs : ∀ k, F k → ¬ S k) : DiskIn l d w' F acts part sv ss bm g where
  box := hf.obj h.box (hs _ ((h.foot _).2 (.inl rfl)))
  arm := h.arm
  rows := h.rows.fr hf (fun k hk => hs k ((h.foot k).2 (.inr (.inl hk))))
  len := h.len
  bufs := fun i s b h1 h2 => (h.bufs i s b h1 h2).fr hf (fun k hk => hs k ((h.foot k).2 (.inr (.inr (.inr (.inl ⟨s, List.mem_of_getElem? h1, hk⟩))))))
  apart := h.apart
  map := h.map.fr hf (hs _ ((h.foot _).2 (.inr (.inr (.inl rfl)))))
  dirt := h.dirt
  dbufs := fun n s b h1 h2 => (h.dbufs n s b h1 h2).fr hf (fun k hk => hs k ((h.foot k).2 (.inr (.inr (.inr (.inr ⟨n, s, h1, hk⟩))))))
  dapart := h.dapart
  foot := h.foot
  good := h.good
/-- no two of the parts share a block -/
theorem l_bm (h : DiskIn l d w F acts part sv ss bm g) : l ≠ bm := by
  intro e
  obtain ⟨es, clock, hb⟩ := h.map.isMap
  rw [← e, h.box] at hb
  cases hb
theorem l_rows (h : DiskIn l d w F acts part sv ss bm g) : sv.val.ownBlock ≠ some l := by
  intro e
  obtain ⟨cur, hb⟩ := h.rows.kind e
  rw [h.box] at hb
  simp at hb
theorem bm_rows (h : DiskIn l d w F acts part sv ss bm g) : sv.val.ownBlock ≠ some bm := by
  intro e
  obtain ⟨cur, hb⟩ := h.rows.kind e
  obtain ⟨es, clock, hm⟩ := h.map.isMap
  rw [hm] at hb
  cases hb
theorem u8_apart {W : World} {bs : Bs} {s : SV} (hs : RowAt 5 ByteR W s.val bs) {k : Nat} (hk : s.val.ownBlock = some k) {o : Obj} (ho : W.heap[k]? = some o) (hn : ∀ cur, o ≠ .cells cur 5 (0, 0)) : False := by
  obtain ⟨cur, hb⟩ := hs.kind hk
  rw [ho] at hb
  exact hn cur (Option.some.inj hb)
theorem buf_l (h : DiskIn l d w F acts part sv ss bm g) {s : SV} {b : Bs} (hs : RowAt 5 ByteR w s.val b) : s.val.ownBlock ≠ some l := by
  intro e
  exact u8_apart hs e h.box (fun cur h => by simp at h)
theorem buf_bm (h : DiskIn l d w F acts part sv ss bm g) {s : SV} {b : Bs} (hs : RowAt 5 ByteR w s.val b) : s.val.ownBlock ≠ some bm := by
  intro e
  obtain ⟨es, clock, hm⟩ := h.map.isMap
  exact u8_apart hs e hm (fun cur h => by cases h)
theorem buf_rows (h : DiskIn l d w F acts part sv ss bm g) {s : SV} {b : Bs} (hs : RowAt 5 ByteR w s.val b) {k : Nat} (hk : s.val.ownBlock = some k) : sv.val.ownBlock ≠ some k := by
  intro e
  obtain ⟨cur, hb⟩ := h.rows.kind e
  exact u8_apart hs hk hb (fun cur' h => by simp at h)
/-- the power's cells are written -/
theorem power (h : DiskIn l d w F acts part sv ss bm g) (hf : Fr (fun k => k = l) w w') {off : Bool} {arm : Option (Nat × Int)} {acts' part' : Int} (hb : w'.heap[l]? = some (.cells #[.bool off, .bool arm.isSome, .int .i64 acts', .int .i64 part', .int .i64 d.size, sv.val, .map (some bm)] 46 (0, 0)))
    (ha : ∀ a p, arm = some (a, p) → acts' = a ∧ part' = p) (hg : ({ d with off := off, arm := arm } : DK).Good) : DiskIn l { d with off := off, arm := arm } w' F acts' part' sv ss bm g where
  box := hb
  arm := ha
  rows := h.rows.fr hf (fun _ hk e => h.l_rows (e ▸ hk))
  len := h.len
  bufs := fun i s b h1 h2 => (h.bufs i s b h1 h2).fr hf (fun _ hk e => h.buf_l (h.bufs i s b h1 h2) (e ▸ hk))
  apart := h.apart
  map := h.map.fr hf (fun e => h.l_bm e.symm)
  dirt := h.dirt
  dbufs := fun n s b h1 h2 => (h.dbufs n s b h1 h2).fr hf (fun _ hk e => h.buf_l (h.dbufs n s b h1 h2) (e ▸ hk))
  dapart := h.dapart
  foot := h.foot
  good := hg
/-- a sector becomes dirty: its new bytes lie in a new row -/
theorem put {w1 w2 : World} (h : DiskIn l d w F acts part sv ss bm g) (hf : Fr noBlock w w1) {n : Int} (hn : d.isS n = true) {s' : SV} {b : Bs} (hb : b.length = d.size) (hs : RowAt 5 ByteR w1 s'.val b) (hnew : ∀ k, s'.val.ownBlock = some k → w.heap.size ≤ k)
    {N : Nat} (hN : N = if (g n).isSome then d.dirty.length else d.dirty.length + 1) (hm : MapV kI w2 bm (fun t => if t = n then some s'.val else (g t).map SV.val) N) (ht : w1.mapTurned w2 bm) :
    ∃ F', DiskIn l { d with dirty := putD d.dirty n.toNat b } w2 F' acts part sv ss bm (fun t => if t = n then some s' else g t) ∧ Step F F' w w2 := by
  have h1 := h.fr hf (fun k _ x => x)
  have hsz := hf.size
  have hf2 : Fr (fun k => k = bm) w1 w2 := (Fr.refl _ w1).grown ht.grown (fun k hk => by cases hk; exact .inl rfl)
  have hi := DK.isS_iff.1 hn
  have hnn : ((n.toNat : Nat) : Int) = n := by omega
  have hbm2 : ∀ {s : SV} {b : Bs}, RowAt 5 ByteR w1 s.val b → RowAt 5 ByteR w2 s.val b := fun {s b} hr => hr.fr hf2 (fun k hk e => h1.buf_bm hr (e ▸ hk))
  refine ⟨fun k => k = l ∨ sv.val.ownBlock = some k ∨ k = bm ∨ (∃ t ∈ ss, t.val.ownBlock = some k) ∨ ∃ (m : Int) (s : SV), (if m = n then some s' else g m) = some s ∧ s.val.ownBlock = some k, ⟨hf2.obj h1.box (fun e => h1.l_bm e), h1.arm, h1.rows.fr hf2 (fun k hk e => h1.bm_rows (e ▸ hk)), h1.len, fun i s b e1 e2 => hbm2 (h1.bufs i s b e1 e2), h1.apart, ?_, ?_, ?_, ?_, fun _ => Iff.rfl, h1.good.put hn hb⟩, ?_⟩
  · have hl : (putD d.dirty n.toNat b).length = N := by
      rw [putD_len h.good.rise, hnn, hN, h.dirt n]
    show MapV kI w2 bm _ (putD d.dirty n.toNat b).length
    rw [hl]
    exact hm.congr (fun t => by by_cases e : t = n <;> simp [e])
  · intro m
    show _ = (lookD (putD d.dirty n.toNat b) m).isSome
    rw [putD_look, hnn]
    by_cases e : m = n
    · simp [e]
    · simp [e]; exact h.dirt m
  · intro m s c e1 e2
    have e2' : lookD (putD d.dirty n.toNat b) m = some c := e2
    rw [putD_look, hnn] at e2'
    by_cases e : m = n
    · simp [e] at e1 e2'
      subst e1 e2'
      exact hbm2 hs
    · simp [e] at e1 e2'
      exact hbm2 (h1.dbufs m s c e1 e2')
  · intro m s t k e1 ht' hk hk'
    by_cases e : m = n
    · simp [e] at e1
      subst e1
      obtain ⟨c, _, hc⟩ := h.mem_buf ht'
      have := hc.lt k hk'
      have := hnew k hk
      omega
    · simp [e] at e1
      exact h.dapart m s t k e1 ht' hk hk'
  · refine ⟨(hf.mono (fun _ x => x.elim)).grown ht.grown (fun k hk => by cases hk; exact .inl ((h.foot _).2 (.inr (.inr (.inl rfl))))), ?_⟩
    rintro k (rfl | hk | rfl | hk | ⟨m, s, hs', hk⟩)
    · exact .inl ((h.foot _).2 (.inl rfl))
    · exact .inl ((h.foot _).2 (.inr (.inl hk)))
    · exact .inl ((h.foot _).2 (.inr (.inr (.inl rfl))))
    · exact .inl ((h.foot _).2 (.inr (.inr (.inr (.inl hk)))))
    · by_cases e : m = n
      · simp [e] at hs'
        subst hs'
        exact .inr (hnew k hk)
      · simp [e] at hs'
        exact .inl ((h.foot _).2 (.inr (.inr (.inr (.inr ⟨m, s, hs', hk⟩)))))
/-- the least dirty sector lands: its first bytes are safe -/
theorem land {w1 w2 : World} (h : DiskIn l d w F acts part sv ss bm g) {n : Nat} {b : Bs} {rest : Dirt} (hd : d.dirty = (n, b) :: rest) {s : SV} (hs : ss[n]? = some s) {B : Nat} (hB : s.val.ownBlock = some B) {nb : Bs} (hnb : nb.length = d.size)
    (hf : Fr (fun k => k = B) w w1) (hbuf : RowAt 5 ByteR w1 s.val nb) (hm : MapV kI w2 bm (fun t => if t = (n : Int) then none else (g t).map SV.val) rest.length) (ht : w1.mapTurned w2 bm) :
    ∃ F', DiskIn l { d with safe := d.safe.set n nb, dirty := rest } w2 F' acts part sv ss bm (fun t => if t = (n : Int) then none else g t) ∧ Step F F' w w2 := by
  have hf2 : Fr (fun k => k = bm) w1 w2 := (Fr.refl _ w1).grown ht.grown (fun k hk => by cases hk; exact .inl rfl)
  have hsm : s ∈ ss := List.mem_of_getElem? hs
  obtain ⟨b0, hb0, hrow0⟩ := h.mem_buf hsm
  have hnl : n < d.safe.length := by rw [← h.len]; exact (List.getElem?_eq_some_iff.1 hs).1
  have hBl : B ≠ l := fun e => h.buf_l hrow0 (e ▸ hB)
  have hBm : B ≠ bm := fun e => h.buf_bm hrow0 (e ▸ hB)
  have hBr : sv.val.ownBlock ≠ some B := h.buf_rows hrow0 hB
  have hrise : Rise ((n, b) :: rest) := by have := h.good.rise; rwa [hd] at this
  have hBw : ∀ {t : SV} {c : Bs}, RowAt 5 ByteR w t.val c → t.val.ownBlock ≠ some B → RowAt 5 ByteR w2 t.val c := by
    intro t c hr hne
    have r1 : RowAt 5 ByteR w1 t.val c := hr.fr hf (fun k hk e => hne (e ▸ hk))
    refine r1.fr hf2 (fun k hk e => h.buf_bm hr (e ▸ hk))
  have hg : ({ d with safe := d.safe.set n nb, dirty := rest } : DK).Good := by
    have hp := List.pairwise_cons.1 hrise
    refine ⟨h.good.s0, h.good.s1, by show (d.safe.set n nb).length ≤ _; rw [List.length_set]; exact h.good.n1, ?_, hp.2, ?_, h.good.arm⟩
    · intro c hc
      rcases List.mem_or_eq_of_mem_set hc with hc | rfl
      · exact h.good.sizes c hc
      · exact hnb
    · intro p hp'
      show p.1 < (d.safe.set n nb).length ∧ _
      rw [List.length_set]
      exact h.good.there p (by rw [hd]; exact List.mem_cons_of_mem _ hp')
  refine ⟨fun k => k = l ∨ sv.val.ownBlock = some k ∨ k = bm ∨ (∃ t ∈ ss, t.val.ownBlock = some k) ∨ ∃ (m : Int) (s : SV), (if m = (n : Int) then none else g m) = some s ∧ s.val.ownBlock = some k, ⟨hf2.obj (hf.obj h.box (fun e => hBl e.symm)) (fun e => h.l_bm e), h.arm, (h.rows.fr hf (fun k hk e => hBr (e ▸ hk))).fr hf2 (fun k hk e => h.bm_rows (e ▸ hk)), by rw [h.len]; exact (List.length_set).symm, ?_, h.apart, ?_, ?_, ?_, ?_, fun _ => Iff.rfl, hg⟩, ?_⟩
  · intro i t c e1 e2
    have e2' : (d.safe.set n nb)[i]? = some c := e2
    rw [List.getElem?_set] at e2'
    by_cases e : n = i
    · subst e
      rw [if_pos rfl, if_pos hnl] at e2'
      cases e2'
      rw [hs] at e1
      cases e1
      exact hbuf.fr hf2 (fun k hk e => hBm (by rw [hB] at hk; cases hk; exact e))
    · rw [if_neg e] at e2'
      refine hBw (h.bufs i t c e1 e2') (fun hk => e (h.apart n i s t B hs e1 hB hk))
  · exact hm.congr (fun t => by by_cases e : t = (n : Int) <;> simp [e])
  · intro m
    show _ = (lookD rest m).isSome
    rw [lookD_drop (n, b) m hrise]
    by_cases e : m = (n : Int)
    · simp [e]
    · simp [e]; rw [← hd]; exact h.dirt m
  · intro m t c e1 e2
    have e2' : lookD rest m = some c := e2
    rw [lookD_drop (n, b) m hrise] at e2'
    by_cases e : m = (n : Int)
    · simp [e] at e1
    · simp [e] at e1 e2'
      rw [← hd] at e2'
      exact hBw (h.dbufs m t c e1 e2') (fun hk => h.dapart m t s B e1 hsm hk hB)
  · intro m t u k e1 hu hk hk'
    by_cases e : m = (n : Int)
    · simp [e] at e1
    · simp [e] at e1
      exact h.dapart m t u k e1 hu hk hk'
  · refine ⟨(hf.mono (fun k hk => (h.foot k).2 (.inr (.inr (.inr (.inl ⟨s, hsm, by rw [hk]; exact hB⟩)))))).grown ht.grown (fun k hk => by cases hk; exact .inl ((h.foot _).2 (.inr (.inr (.inl rfl))))), ?_⟩
    rintro k (rfl | hk | rfl | hk | ⟨m, t, ht', hk⟩)
    · exact .inl ((h.foot _).2 (.inl rfl))
    · exact .inl ((h.foot _).2 (.inr (.inl hk)))
    · exact .inl ((h.foot _).2 (.inr (.inr (.inl rfl))))
    · exact .inl ((h.foot _).2 (.inr (.inr (.inr (.inl hk)))))
    · by_cases e : m = (n : Int)
      · simp [e] at ht'
      · simp [e] at ht'
        exact .inl ((h.foot _).2 (.inr (.inr (.inr (.inr ⟨m, t, ht', hk⟩)))))
end DiskIn

theorem DiskAt.ok {l : Nat} {d : DK} : (DiskAt l d).Ok :=
  ⟨fun ⟨_, _, _, _, _, _, h⟩ => h.lt, fun ⟨a, p, sv, ss, bm, g, h⟩ hf hs => ⟨a, p, sv, ss, bm, g, h.fr hf hs⟩⟩
theorem DiskAt.good {l : Nat} {d : DK} {w : World} {F : Nat → Prop} (h : DiskAt l d w F) : d.Good := by obtain ⟨_, _, _, _, _, _, h⟩ := h; exact h.good
end Go.Proofs.YthabllnhlhkejaaGreatDoor
