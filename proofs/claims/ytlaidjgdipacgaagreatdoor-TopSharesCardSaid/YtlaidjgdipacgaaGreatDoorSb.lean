/-
  Bytes: their type's row of the table; slices of bytes as strings: all of it lies in the common stock.
-/
import Derived.Test.YtlaidjgdipacgaaGreatDoorCn
import Derived.Test.YtlaidjgdipacgaaGreatDoorFw
namespace Go.Proofs.YtlaidjgdipacgaaGreatDoor
end Go.Proofs.YtlaidjgdipacgaaGreatDoor
