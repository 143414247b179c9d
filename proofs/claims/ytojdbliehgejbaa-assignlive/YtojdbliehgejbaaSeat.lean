/-
  What the layer asks of a seat ahead of all: the numbers of its map types (whose lengths are read in memory).
-/
import Derived.WalkKit
namespace Go.Fw
def mapTys : List TypeId := [66, 67, 80, 85]
end Go.Fw
