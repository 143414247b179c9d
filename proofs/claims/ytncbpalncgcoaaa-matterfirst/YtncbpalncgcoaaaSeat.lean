/-
  What the layer asks of a seat ahead of all: the numbers of its map types (whose lengths are read in memory).
-/
import Derived.WalkKit
namespace Go.Fw
def mapTys : List TypeId := [108, 134, 140, 171]
/-- The types of byte rows: a string of one is read in memory. -/
def byteTys : List TypeId := [177]
end Go.Fw
