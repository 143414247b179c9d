/-
  What the layer asks of a seat ahead of all: the numbers of its map types (whose lengths are read in memory).
-/
import Derived.WalkKit
namespace Go.Fw
def mapTys : List TypeId := [72, 73, 79, 84]
/-- The types of byte rows: a string of one is read in memory. -/
def byteTys : List TypeId := [54]
end Go.Fw
