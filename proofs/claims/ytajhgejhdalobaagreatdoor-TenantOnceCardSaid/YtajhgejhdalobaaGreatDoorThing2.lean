/-
  THINGS, MORE: a step of one of two, of one of three; a block that is known whole, as a thing.
-/
import Derived.Test.YtajhgejhdalobaaGreatDoorThing
namespace Go.Proofs.YtajhgejhdalobaaGreatDoor
open Go.RowKit

theorem Two.l {A B : Thing} (b : B.Ok) {w : World} {H : Nat → Prop} (h : Two A B w H) : ∃ G, A w G ∧ ∀ (A' : Thing) (w' : World) (G' : Nat → Prop), A' w' G' → Step G G' w w' → ∃ H', Two A' B w' H' ∧ Step H H' w w' := by
  obtain ⟨F, G, h1, h2, h3, h4⟩ := h
  exact ⟨F, h1, fun A' w' G' h' hs => ⟨_, Two.left b h2 h3 h4 h' hs⟩⟩
theorem Two.r {A B : Thing} (a : A.Ok) {w : World} {H : Nat → Prop} (h : Two A B w H) : ∃ G, B w G ∧ ∀ (B' : Thing) (w' : World) (G' : Nat → Prop), B' w' G' → Step G G' w w' → ∃ H', Two A B' w' H' ∧ Step H H' w w' := by
  obtain ⟨F, G, h1, h2, h3, h4⟩ := h
  exact ⟨G, h2, fun B' w' G' h' hs => ⟨_, Two.right a h1 h3 h4 h' hs⟩⟩

def BoxT (b : Nat) (o : Obj) : Thing := fun w F => w.heap[b]? = some o ∧ ∀ k, F k ↔ k = b
theorem BoxT.ok {b : Nat} {o : Obj} : (BoxT b o).Ok :=
  ⟨fun h k hk => by obtain rfl := (h.2 k).1 hk; exact heap_lt h.1, fun h hf hs => ⟨hf.obj h.1 (hs b ((h.2 b).2 rfl)), h.2⟩⟩

namespace Mine
variable {w0 w : World} {A B X : Thing} {H : Nat → Prop}
theorem in1 (b : B.Ok) (x : X.Ok) (h : Mine w0 (Two (Two A B) X) w H) : ∃ G, A w G ∧ ∀ (A' : Thing) (w' : World) (G' : Nat → Prop), A' w' G' → Step G G' w w' → ∃ H', Mine w0 (Two (Two A' B) X) w' H' := by
  obtain ⟨G0, h1, st0⟩ := h.left x
  obtain ⟨G, h2, st⟩ := Two.l b h1
  exact ⟨G, h2, fun A' w' G' h' hs => by obtain ⟨H1, t1, s1⟩ := st A' w' G' h' hs; exact st0 _ _ _ t1 s1⟩
theorem in2 (a : A.Ok) (x : X.Ok) (h : Mine w0 (Two (Two A B) X) w H) : ∃ G, B w G ∧ ∀ (B' : Thing) (w' : World) (G' : Nat → Prop), B' w' G' → Step G G' w w' → ∃ H', Mine w0 (Two (Two A B') X) w' H' := by
  obtain ⟨G0, h1, st0⟩ := h.left x
  obtain ⟨G, h2, st⟩ := Two.r a h1
  exact ⟨G, h2, fun B' w' G' h' hs => by obtain ⟨H1, t1, s1⟩ := st B' w' G' h' hs; exact st0 _ _ _ t1 s1⟩
theorem box {b : Nat} {o : Obj} (h : Mine w0 (Two A (BoxT b o)) w H) : w.heap[b]? = some o := by
  obtain ⟨G, hG⟩ := h.snd
  exact hG.it.1
end Mine
end Go.Proofs.YtajhgejhdalobaaGreatDoor
