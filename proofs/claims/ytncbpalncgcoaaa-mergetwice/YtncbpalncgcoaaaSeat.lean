/-
  What the layer asks of a seat ahead of all: the numbers of its map types (whose lengths are read in memory).
-/
import Derived.WalkKit
namespace Go.Fw
def mapTys : List TypeId := [108, 134, 140, 171]
end Go.Fw
