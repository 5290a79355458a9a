/-
  THINGS IN MEMORY: a thing is said of a world and a footprint (the blocks in which it lies); one step of a thing; things of our own; two things apart; a block with one slice ('Hold').
-/
import Derived.Test.YtajhgejhdalobaaGreatDoorRow
namespace Go.Proofs.YtajhgejhdalobaaGreatDoor
open Go.RowKit

structure Step (F F' : Nat → Prop) (w w' : World) : Prop where
  fr : Fr F w w'
  foot : ∀ k, F' k → F k ∨ w.heap.size ≤ k

namespace Step
variable {F F' F'' G : Nat → Prop} {w w' w'' : World}
theorem below (h : Step F F' w w') {B : Nat} (hF : ∀ k, F k → B ≤ k) (hB : B ≤ w.heap.size) : Below B w w' ∧ ∀ k, F' k → B ≤ k :=
  ⟨h.fr.below hB hF, fun k hk => (h.foot k hk).elim (hF k) (fun h => by omega)⟩
theorem apart (h : Step F F' w w') (hd : ∀ k, F k → ¬ G k) (hG : ∀ k, G k → k < w.heap.size) : ∀ k, F' k → ¬ G k :=
  fun k hk hg => (h.foot k hk).elim (fun hf => hd k hf hg) (fun hle => by have := hG k hg; omega)
theorem refl (F : Nat → Prop) (w : World) : Step F F w w := ⟨Fr.refl _ _, fun _ h => .inl h⟩
theorem same (hf : Fr noBlock w w') : Step F F w w' := ⟨hf.mono (fun _ x => x.elim), fun _ h => .inl h⟩
theorem trans (h : Step F F' w w') (g : Step F' F'' w' w'') : Step F F'' w w'' :=
  ⟨h.fr.trans g.fr h.foot, fun k hk => (g.foot k hk).elim (h.foot k) (fun hle => .inr (Nat.le_trans h.fr.size hle))⟩
theorem keep (h : Step F F' w w') {b : Nat} (hb : b < w.heap.size) (hn : ¬ F b) : (∀ o, w'.cell? ⟨b, o, none⟩ = w.cell? ⟨b, o, none⟩) ∧ b < w'.heap.size ∧ ¬ F' b :=
  ⟨fun _ => h.fr.cell hb hn, Nat.lt_of_lt_of_le hb h.fr.size, fun hk => (h.foot b hk).elim hn (fun hle => by omega)⟩
theorem size (h : Step F F' w w') : w.heap.size ≤ w'.heap.size := h.fr.size
theorem news {S : Nat → Prop} (h : Step F F' w w') (hf : Fr S w' w'') (hS : ∀ k, S k → w.heap.size ≤ k) : Step F F' w w'' := ⟨h.fr.trans hf (fun k hk => .inr (hS k hk)), h.foot⟩
end Step

def Thing := World → (Nat → Prop) → Prop
structure Thing.Ok (A : Thing) : Prop where
  lt : ∀ {w F}, A w F → ∀ k, F k → k < w.heap.size
  fr : ∀ {w w' F S}, A w F → Fr S w w' → (∀ k, F k → ¬ S k) → A w' F
theorem Thing.Ok.fr0 {A : Thing} (ok : A.Ok) {w w' : World} {F : Nat → Prop} (h : A w F) (hf : Fr noBlock w w') : A w' F := ok.fr h hf (fun _ _ x => x)
theorem Thing.Ok.new {A : Thing} (ok : A.Ok) {w : World} {F : Nat → Prop} (h : A w F) : ¬ F w.heap.size := fun hf => Nat.lt_irrefl _ (ok.lt h _ hf)

def Two (A B : Thing) : Thing := fun w H => ∃ F G, A w F ∧ B w G ∧ (∀ k, F k → ¬ G k) ∧ ∀ k, H k ↔ F k ∨ G k
theorem Two.ok {A B : Thing} (a : A.Ok) (b : B.Ok) : (Two A B).Ok := by
  refine ⟨?_, ?_⟩
  · rintro w H ⟨F, G, h1, h2, _, h4⟩ k hk
    rcases (h4 k).1 hk with h | h
    · exact a.lt h1 k h
    · exact b.lt h2 k h
  · rintro w w' H S ⟨F, G, h1, h2, h3, h4⟩ hf hs
    exact ⟨F, G, a.fr h1 hf (fun k hk => hs k ((h4 k).2 (.inl hk))), b.fr h2 hf (fun k hk => hs k ((h4 k).2 (.inr hk))), h3, h4⟩
theorem Two.left {A' B : Thing} (b : B.Ok) {w w' : World} {F F' G H : Nat → Prop} (h2 : B w G) (h3 : ∀ k, F k → ¬ G k) (h4 : ∀ k, H k ↔ F k ∨ G k) (h' : A' w' F') (hs : Step F F' w w') : Two A' B w' (fun k => F' k ∨ G k) ∧ Step H (fun k => F' k ∨ G k) w w' :=
  ⟨⟨F', G, h', b.fr h2 hs.fr (fun k hk hf => h3 k hf hk), hs.apart h3 (b.lt h2), fun _ => Iff.rfl⟩,
    ⟨hs.fr.mono (fun k hk => (h4 k).2 (.inl hk)), fun k hk => hk.elim (fun hk => (hs.foot k hk).imp (fun h => (h4 k).2 (.inl h)) (fun h => h)) (fun hk => .inl ((h4 k).2 (.inr hk)))⟩⟩
theorem Two.right {A B' : Thing} (a : A.Ok) {w w' : World} {F G G' H : Nat → Prop} (h1 : A w F) (h3 : ∀ k, F k → ¬ G k) (h4 : ∀ k, H k ↔ F k ∨ G k) (h' : B' w' G') (hs : Step G G' w w') : Two A B' w' (fun k => F k ∨ G' k) ∧ Step H (fun k => F k ∨ G' k) w w' :=
  ⟨⟨F, G', a.fr h1 hs.fr h3, h', fun k hf hg => hs.apart (fun k hg hf => h3 k hf hg) (a.lt h1) k hg hf, fun _ => Iff.rfl⟩,
    ⟨hs.fr.mono (fun k hk => (h4 k).2 (.inr hk)), fun k hk => hk.elim (fun hk => .inl ((h4 k).2 (.inl hk))) (fun hk => (hs.foot k hk).imp (fun h => (h4 k).2 (.inr h)) (fun h => h))⟩⟩
theorem Two.join {A B : Thing} (a : A.Ok) {w w' : World} {F G : Nat → Prop} (h1 : A w F) (hf : Fr noBlock w w') (h2 : B w' G) (hn : ∀ k, G k → w.heap.size ≤ k) : Two A B w' (fun k => F k ∨ G k) :=
  ⟨F, G, a.fr0 h1 hf, h2, fun k hk hg => by have := a.lt h1 k hk; have := hn k hg; omega, fun _ => Iff.rfl⟩

structure Mine (w0 : World) (A : Thing) (w : World) (F : Nat → Prop) : Prop where
  it : A w F
  base : ∀ k, F k → w0.heap.size ≤ k
  below : Below w0.heap.size w0 w

namespace Mine
variable {w0 w w' : World} {A A' : Thing} {F F' : Nat → Prop}
theorem fr (h : Mine w0 A w F) (ok : A.Ok) (hf : Fr noBlock w w') : Mine w0 A w' F :=
  ⟨ok.fr0 h.it hf, h.base, h.below.trans (hf.below h.below.size (fun _ hk => hk.elim))⟩
theorem step (h : Mine w0 A w F) (h' : A' w' F') (hs : Step F F' w w') : Mine w0 A' w' F' := by
  obtain ⟨h1, h2⟩ := hs.below h.base h.below.size
  exact ⟨h', h2, h.below.trans h1⟩
theorem new {w1 : World} (hb : Below w0.heap.size w0 w1) (hf : Fr noBlock w1 w) (h : A w F) (hn : ∀ k, F k → w1.heap.size ≤ k) : Mine w0 A w F :=
  ⟨h, fun k hk => Nat.le_trans hb.size (hn k hk), hb.trans (hf.below hb.size (fun _ hk => hk.elim))⟩
theorem join {B : Thing} {G : Nat → Prop} (h : Mine w0 A w F) (a : A.Ok) (hf : Fr noBlock w w') (h2 : B w' G) (hn : ∀ k, G k → w.heap.size ≤ k) : Mine w0 (Two A B) w' (fun k => F k ∨ G k) :=
  ⟨Two.join a h.it hf h2 hn, fun k hk => hk.elim (h.base k) (fun hk => Nat.le_trans h.below.size (hn k hk)), h.below.trans (hf.below h.below.size (fun _ hk => hk.elim))⟩
theorem conv (h : Mine w0 A w F) (hA : A w F → A' w F) : Mine w0 A' w F := ⟨hA h.it, h.base, h.below⟩
theorem size (h : Mine w0 A w F) : w0.heap.size ≤ w.heap.size := h.below.size
theorem left {B : Thing} (b : B.Ok) (h : Mine w0 (Two A B) w F) : ∃ G, A w G ∧ ∀ (A' : Thing) (w' : World) (G' : Nat → Prop), A' w' G' → Step G G' w w' → ∃ F', Mine w0 (Two A' B) w' F' := by
  obtain ⟨⟨G, G2, h1, h2, h3, h4⟩, hb, hw⟩ := h
  refine ⟨G, h1, fun A' w' G' h' hs => ?_⟩
  obtain ⟨r1, r2⟩ := Two.left b h2 h3 h4 h' hs
  exact ⟨_, Mine.step (A := Two A B) ⟨⟨G, G2, h1, h2, h3, h4⟩, hb, hw⟩ r1 r2⟩
theorem right {B : Thing} (a : A.Ok) (h : Mine w0 (Two A B) w F) : ∃ G, B w G ∧ ∀ (B' : Thing) (w' : World) (G' : Nat → Prop), B' w' G' → Step G G' w w' → ∃ F', Mine w0 (Two A B') w' F' := by
  obtain ⟨⟨G, G2, h1, h2, h3, h4⟩, hb, hw⟩ := h
  refine ⟨G2, h2, fun B' w' G' h' hs => ?_⟩
  obtain ⟨r1, r2⟩ := Two.right a h1 h3 h4 h' hs
  exact ⟨_, Mine.step (A := Two A B) ⟨⟨G, G2, h1, h2, h3, h4⟩, hb, hw⟩ r1 r2⟩
theorem snd {B : Thing} (h : Mine w0 (Two A B) w F) : ∃ G, Mine w0 B w G := by
  obtain ⟨⟨G, G2, h1, h2, h3, h4⟩, hb, hw⟩ := h
  exact ⟨G2, h2, fun k hk => hb k ((h4 k).2 (.inr hk)), hw⟩
end Mine

def Hold {α : Type} (T E : TypeId) (R : Rec α) (l : Nat) (xs : List α) : Thing := fun w F =>
  ∃ v, w.heap[l]? = some (.cells #[v] T (0, 0)) ∧ RowAt E R w v xs ∧ v.ownBlock ≠ some l ∧ ∀ k, F k ↔ (k = l ∨ v.ownBlock = some k)

namespace Hold
variable {α : Type} {T E : TypeId} {R : Rec α} {l : Nat} {xs ys : List α} {w w' w2 : World} {F : Nat → Prop}
theorem ok : (Hold T E R l xs).Ok := by
  refine ⟨?_, ?_⟩
  · rintro w F ⟨v, h1, h2, h3, h4⟩ k hk
    rcases (h4 k).1 hk with rfl | hk
    · exact heap_lt h1
    · exact h2.lt k hk
  · rintro w w' F S ⟨v, h1, h2, h3, h4⟩ hf hs
    exact ⟨v, hf.obj h1 (hs _ ((h4 _).2 (.inl rfl))), h2.fr hf (fun k hk => hs k ((h4 k).2 (.inr hk))), h3, h4⟩
theorem own (h : Hold T E R l xs w F) : F l := by obtain ⟨v, h1, h2, h3, h4⟩ := h; exact (h4 l).2 (.inl rfl)
theorem opened (h : Hold T E R l xs w F) :
    ∃ vo cap, w.cell? ⟨l, 0, none⟩ = some (.slice vo xs.length cap) ∧ w.frozen? ⟨l, 0, none⟩ = false ∧ l < w.heap.size ∧ xs.length ≤ cap ∧ cap ≤ maxLen ∧ RowAt E R w (.slice vo xs.length cap) xs ∧ (∀ g, vo = some ⟨g, 0, none⟩ → g ≠ l ∧ F g) ∧
      (Value.slice vo xs.length cap).ownBlock ≠ some l ∧ (vo = none → xs = [] ∧ cap = 0) ∧ ∀ k, (Value.slice vo xs.length cap).ownBlock = some k → F k := by
  obtain ⟨v, h1, h2, h3, h4⟩ := h
  obtain ⟨vo, cap, rfl, hc, hm, _, hn⟩ := h2.shape
  have c0 := cell_of h1 0
  simp at c0
  exact ⟨vo, cap, c0, free_of h1 0, heap_lt h1, hc, hm, h2, fun g hg => ⟨fun e => h3 (by rw [hg, e]; rfl), (h4 g).2 (.inr (by rw [hg]; rfl))⟩, h3, hn, fun k hk => (h4 k).2 (.inr hk)⟩
theorem made (w : World) : Hold T E R w.heap.size [] (w.alloc (.cells #[.slice none 0 0] T)) (fun k => k = w.heap.size) :=
  ⟨_, heap_new w _, RowAt.nil, by simp [Value.ownBlock], fun k => by simp [Value.ownBlock]⟩
theorem replace (h : Hold T E R l xs w F) (hf : Fr F w w2) (hl : w2.heap[l]? = w.heap[l]?) {v' : Value} (hr : RowAt E R w2 v' ys) (hv : ∀ g, v'.ownBlock = some g → g ≠ l ∧ (F g ∨ w.heap.size ≤ g)) :
    Hold T E R l ys (w2.setCell ⟨l, 0, none⟩ v') (fun k => k = l ∨ v'.ownBlock = some k) ∧ Step F (fun k => k = l ∨ v'.ownBlock = some k) w (w2.setCell ⟨l, 0, none⟩ v') := by
  have hFl := h.own
  obtain ⟨v, h1, h2, h3, h4⟩ := h
  have hb : w2.heap[l]? = _ := hl.trans h1
  refine ⟨⟨v', ?_, hr.fr ((Fr.refl (fun k => k = l) w2).setCell (p := ⟨l, 0, none⟩) (.inl rfl) v') (fun k hk e => (hv k hk).1 e), fun e => (hv l e).1 rfl, fun _ => Iff.rfl⟩, hf.setCell (.inl hFl) _, ?_⟩
  · have := heap_set_eq (i := 0) (u := v') hb
    simpa using this
  · rintro k (rfl | hk)
    · exact .inl hFl
    · exact (hv k hk).2
theorem app (h : Hold T E R l xs w F) {vo : Option Addr} {cap : Nat} (hc : w.cell? ⟨l, 0, none⟩ = some (.slice vo xs.length cap)) {w1 : World} (hf : Fr noBlock w w1) {n2 gg cap2 : Nat} (hn2 : n2 = ys.length)
    (hg2 : w1.grownBy w2 (Value.slice vo xs.length cap).ownBlock) {cs : List Value} (hx : cs = R.flat ys)
    (hown : w2.ownsRow 0 E R.k (.slice (some ⟨gg, 0, none⟩) n2 cap2) n2 cs) (hat : (Value.slice vo xs.length cap).ownBlock = some gg ∨ gg = w1.heap.size) :
    ∃ F', Hold T E R l ys (w2.setCell ⟨l, 0, none⟩ (.slice (some ⟨gg, 0, none⟩) n2 cap2)) F' ∧ Step F F' w (w2.setCell ⟨l, 0, none⟩ (.slice (some ⟨gg, 0, none⟩) n2 cap2)) := by
  subst hx hn2
  have hFl := h.own
  have h' := h
  obtain ⟨v, h1, h2, h3, h4⟩ := h
  obtain rfl : v = .slice vo xs.length cap := by
    have := cell_of h1 0
    rw [hc] at this
    simpa using this.symm
  have hs := hf.size
  have hlt := heap_lt h1
  have hF2 : Fr F w w2 := (hf.mono (T := F) (fun _ x => x.elim)).grown hg2 (fun k hk => .inl ((h4 k).2 (.inr hk)))
  have hgl : gg ≠ l := by
    rcases hat with hat | hat
    · intro e; exact h3 (e ▸ hat)
    · omega
  have hl2 : w2.heap[l]? = w.heap[l]? := (hg2.block l (by omega) (fun e => h3 e.symm)).trans (hf.block l hlt (fun x => x))
  refine ⟨_, h'.replace hF2 hl2 hown ?_⟩
  intro g hg
  obtain rfl : gg = g := by simpa [Value.ownBlock] using hg
  exact ⟨hgl, hat.elim (fun h => .inl ((h4 _).2 (.inr h))) (fun h => .inr (by omega))⟩
theorem set (h : Hold T E R l xs w F) {g n cap i j : Nat} {u : Value} (hc : w.cell? ⟨l, 0, none⟩ = some (.slice (some ⟨g, 0, none⟩) n cap)) (hi : i < xs.length) (hj : j < R.k) (y : α) (hy : R.cells y = (R.cells xs[i]).set j u) :
    Hold T E R l (xs.set i y) (w.setCell ⟨g, i * R.k + j, none⟩ u) F ∧ Fr F w (w.setCell ⟨g, i * R.k + j, none⟩ u) := by
  obtain ⟨v, h1, h2, h3, h4⟩ := h
  obtain rfl : v = .slice (some ⟨g, 0, none⟩) n cap := by
    have := cell_of h1 0
    rw [hc] at this
    simpa using this.symm
  have hgl : g ≠ l := fun e => h3 (by rw [e]; rfl)
  exact ⟨⟨_, heap_set_ne h1 (fun e => hgl e.symm), h2.set hi hj y hy, h3, h4⟩, (Fr.refl F w).setCell (p := ⟨g, _, none⟩) (.inl ((h4 g).2 (.inr rfl))) _⟩
end Hold

def Row {α : Type} (E : TypeId) (R : Rec α) (v : Value) (xs : List α) : Thing := fun w F => RowAt E R w v xs ∧ ∀ k, F k ↔ v.ownBlock = some k
theorem Row.ok {α : Type} {E : TypeId} {R : Rec α} {v : Value} {xs : List α} : (Row E R v xs).Ok :=
  ⟨fun h k hk => h.1.lt k ((h.2 k).1 hk), fun h hf hs => ⟨h.1.fr hf (fun k hk => hs k ((h.2 k).2 hk)), h.2⟩⟩
end Go.Proofs.YtajhgejhdalobaaGreatDoor
