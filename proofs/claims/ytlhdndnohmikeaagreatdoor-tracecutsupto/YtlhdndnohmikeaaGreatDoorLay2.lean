/-
  Walks: Lay2.
-/
import Derived.Shelf.Spec.SlicesGrow
import Derived.Shelf.Lay
import Derived.Shelf.LaySoft
import Derived.Ground.Names8Prog
import Derived.Test.YtlhdndnohmikeaaGreatDoorProg
namespace Go.Proofs
open Go.Shelf
shelf_try shelf_lay_g Lays8.n4 Nm8 4 at Tryz 128 as Tryz.growPair
shelf_try shelf_lay_g Lays8.n4 Nm8 4 at Tryz 135 as Tryz.growByte
shelf_tried
end Go.Proofs
