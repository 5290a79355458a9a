/-
  The library's contracts of this seat.
-/
import Derived.Test.YtajhgejhdalobaaGreatDoorTnShelf
