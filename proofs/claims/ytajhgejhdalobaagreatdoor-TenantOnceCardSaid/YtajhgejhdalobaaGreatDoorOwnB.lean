/-
  BYTES THAT GROW in a row of our own (since w0), alone or two of them apart.
-/
import Derived.Test.YtajhgejhdalobaaGreatDoorBytes
namespace Go.Proofs.YtajhgejhdalobaaGreatDoor
open Go.RowKit

structure OwnB (w0 w : World) (ao : Option Addr) (n cap : Nat) (x : List UInt8) : Prop where
  own : w.ownsRow w0.heap.size 5 ByteR.k (.slice ao n cap) n (ByteR.flat x)
  len : x.length = n
  fr : Fr noBlock w0 w
namespace OwnB
variable {w0 w w1 w2 : World} {ao ao2 : Option Addr} {n cap n2 cap2 : Nat} {x y : List UInt8}
theorem nil (hf : Fr noBlock w0 w) : OwnB w0 w none 0 0 [] := ⟨World.ownsRow_nil _ _ _ _, rfl, hf⟩
theorem own' (h : OwnB w0 w ao n cap x) (hf : Fr noBlock w w1) : w1.ownsRow w0.heap.size 5 ByteR.k (.slice ao n cap) n (ByteR.flat x) := ownsRow_fr h.own hf (fun _ _ z => z)
theorem to (h : OwnB w0 w ao n cap x) (hf : Fr noBlock w w1) : OwnB w0 w1 ao n cap x := ⟨h.own' hf, h.len, h.fr.trans' hf⟩
theorem row (h : OwnB w0 w ao n cap x) : RowAt 5 ByteR w (.slice ao n cap) x := RowAt.of_own h.own h.len.symm
theorem rd (h : OwnB w0 w ao n cap x) : RowRd ByteR w ao x := h.row.rd
theorem new (h : OwnB w0 w ao n cap x) : ∀ k, (Value.slice ao n cap).ownBlock = some k → w0.heap.size ≤ k := fun k hk => (h.own.lt k hk).1
theorem lt (h : OwnB w0 w ao n cap x) : ∀ k, (Value.slice ao n cap).ownBlock = some k → k < w.heap.size := fun k hk => (h.own.lt k hk).2
theorem cap' (h : OwnB w0 w ao n cap x) : n ≤ cap ∧ cap ≤ maxLen := by
  obtain ⟨ao, cap, e, h1, h2, _⟩ := h.row.shape
  simp only [Value.slice.injEq] at e
  have := h.len
  exact ⟨by omega, by omega⟩
theorem base (h : OwnB w0 w ao n cap x) (hf : Fr noBlock w w1) : w0.heap.size ≤ w1.heap.size := Nat.le_trans h.fr.size hf.size
theorem of_row (h : RowAt 5 ByteR w (.slice ao n cap) x) (hn : ∀ k, (Value.slice ao n cap).ownBlock = some k → w0.heap.size ≤ k) (hf : Fr noBlock w0 w) : OwnB w0 w ao n cap x := by
  have hl := h.len
  subst hl
  refine ⟨⟨h.1, ?_⟩, rfl, hf⟩
  rcases h.2 with q | ⟨g, cap', cur, e, _, rest⟩
  · exact .inl q
  · exact .inr ⟨g, cap', cur, e, hn g (by rw [e]; rfl), rest⟩
theorem grown (h : OwnB w0 w ao n cap x) (hf : Fr noBlock w w1) (ho : w2.ownsRow w0.heap.size 5 ByteR.k (.slice ao2 n2 cap2) n2 (ByteR.flat y)) (hn : y.length = n2) (hg : w1.grownBy w2 (Value.slice ao n cap).ownBlock) : OwnB w0 w2 ao2 n2 cap2 y :=
  ⟨ho, hn, (h.fr.trans' hf).grown hg (fun k hk => .inr (h.new k hk))⟩
theorem made (w : World) (x : List UInt8) (cs : Array Value) (hcs : cs.toList = x.map byteV) (hx : x.length ≤ maxLen) : OwnB w (w.alloc (.cells cs 5)) (some ⟨w.heap.size, 0, none⟩) x.length x.length x := by
  have hl : cs.size = x.length := by have := congrArg List.length hcs; simpa using this
  refine ⟨⟨ByteR.flat_len x, .inr ⟨w.heap.size, x.length, cs, rfl, Nat.le_refl _, heap_new w _, Nat.le_refl _, hx, by rw [byteK, Nat.mul_one]; exact hl, ?_⟩⟩, rfl, (Fr.refl _ _).alloc _⟩
  rw [byteK, Nat.mul_one, flat_bytes, hcs]
  exact List.take_of_length_le (by simp)
end OwnB

structure Own2 (w0 w : World) (ao : Option Addr) (n cap : Nat) (x : List UInt8) (bo : Option Addr) (m bcap : Nat) (y : List UInt8) : Prop where
  one : OwnB w0 w ao n cap x
  two : OwnB w0 w bo m bcap y
  ap : ∀ k, (Value.slice ao n cap).ownBlock = some k → (Value.slice bo m bcap).ownBlock ≠ some k
namespace Own2
variable {w0 w w1 w2 : World} {ao ao2 bo bo2 : Option Addr} {n cap n2 cap2 m bcap m2 bcap2 : Nat} {x x' y y' : List UInt8}
theorem to (h : Own2 w0 w ao n cap x bo m bcap y) (hf : Fr noBlock w w1) : Own2 w0 w1 ao n cap x bo m bcap y := ⟨h.one.to hf, h.two.to hf, h.ap⟩
theorem symm (h : Own2 w0 w ao n cap x bo m bcap y) : Own2 w0 w bo m bcap y ao n cap x := ⟨h.two, h.one, fun k a b => h.ap k b a⟩
theorem grown (h : Own2 w0 w ao n cap x bo m bcap y) (hf : Fr noBlock w w1) (ho : w2.ownsRow w0.heap.size 5 ByteR.k (.slice ao2 n2 cap2) n2 (ByteR.flat x')) (hn : x'.length = n2) (hg : w1.grownBy w2 (Value.slice ao n cap).ownBlock)
    (hat : (Value.slice ao2 n2 cap2).ownBlock = (Value.slice ao n cap).ownBlock ∨ (Value.slice ao2 n2 cap2).ownBlock = some w1.heap.size) : Own2 w0 w2 ao2 n2 cap2 x' bo m bcap y := by
  have hfg : Fr (fun k => (Value.slice ao n cap).ownBlock = some k) w1 w2 := (Fr.refl _ w1).grown hg (fun k hk => .inl hk)
  refine ⟨h.one.grown hf ho hn hg, ⟨ownsRow_fr (h.two.own' hf) hfg (fun k hk e => h.ap k e hk), h.two.len, (h.one.fr.trans' hf).grown hg (fun k hk => .inr (h.one.new k hk))⟩, fun k hk e => ?_⟩
  rcases hat with hat | hat
  · rw [hat] at hk
    exact h.ap k hk e
  · rw [hat] at hk
    have h1 := h.two.lt k e
    have h2 := hf.size
    cases hk
    omega
theorem put {g i : Nat} (h : Own2 w0 w (some ⟨g, 0, none⟩) n cap x bo m bcap y) (hi : i < x.length) (c : UInt8) : Own2 w0 (w.setCell ⟨g, i, none⟩ (.int .u8 (c.toNat : Int))) (some ⟨g, 0, none⟩) n cap (x.set i c) bo m bcap y := by
  have hg := h.one.new g rfl
  have f0 : Fr noBlock w0 (w.setCell ⟨g, i, none⟩ (.int .u8 (c.toNat : Int))) := h.one.fr.setCell (p := ⟨g, i, none⟩) (.inr hg) _
  have fg : Fr (fun k => k = g) w (w.setCell ⟨g, i, none⟩ (.int .u8 (c.toNat : Int))) := (Fr.refl (fun k => k = g) w).setCell (p := ⟨g, i, none⟩) (.inl rfl) _
  have hr := h.one.row.set (u := .int .u8 (c.toNat : Int)) hi (j := 0) (by decide) c rfl
  rw [byteK, Nat.mul_one, Nat.add_zero] at hr
  exact ⟨OwnB.of_row hr h.one.new f0, ⟨ownsRow_fr h.two.own fg (fun k hk e => by subst e; exact h.ap k rfl hk), h.two.len, f0⟩, h.ap⟩
end Own2
end Go.Proofs.YtajhgejhdalobaaGreatDoor
