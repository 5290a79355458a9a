/-
  Texts and their bytes (plain).
-/
import Derived.Test.YtajhgejhdalobaaGreatDoorDgP
import Derived.Test.YtajhgejhdalobaaGreatDoorBytes
namespace Go.Proofs.YtajhgejhdalobaaGreatDoor

theorem strB_bl (s : ByteArray) : strB (bl s) = s := by cases s; rfl
theorem bl_strB (l : Bs) : bl (strB l) = l := rfl
end Go.Proofs.YtajhgejhdalobaaGreatDoor
