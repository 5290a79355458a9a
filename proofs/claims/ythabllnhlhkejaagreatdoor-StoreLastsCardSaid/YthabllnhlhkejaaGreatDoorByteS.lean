/-
  A BYTE written in a row of bytes.
-/
import Derived.Test.YthabllnhlhkejaaGreatDoorBytes
namespace Go.Proofs.YthabllnhlhkejaaGreatDoor
open Go.RowKit

theorem byte_set {w : World} {g n cap : Nat} {xs : List UInt8} (h : RowAt 5 ByteR w (.slice (some ⟨g, 0, none⟩) n cap) xs) {i : Nat} (hi : i < xs.length) (c : UInt8) : RowAt 5 ByteR (w.setCell ⟨g, i, none⟩ (byteV c)) (.slice (some ⟨g, 0, none⟩) n cap) (xs.set i c) := by
  have := h.set (u := byteV c) hi (j := 0) (by decide) c rfl
  simpa [byteK] using this
end Go.Proofs.YthabllnhlhkejaaGreatDoor
