/-
  The kit's structures laid at this dump, as the kit's command writes them (layshelf.py).
-/
import Derived.Test.YtojdbliehgejbaaDoorChecked
import Derived.Shelf.SlLaysW
import Derived.Shelf.SlLaysZ
namespace Go.Proofs.YtojdbliehgejbaaDoor
open Go.Shelf
def layClone_ren : Go.Shelf.Ren := ⟨fun | 5 => 54 | 7 => 74 | n => n, fun | 23 => 79 | 25 => 9 | 3 => 4 | 4 => 4 | 20 => 20 | n => n, fun | n => n⟩
theorem layClone : Go.Proofs.SlLaysW.n5 Tryd.prog layClone_ren := {
  mixed := by kernel_rfl,
  f5 := ⟨Tryd.f54.name, by decide, Tryd.func54.trans (congrArg some (by kernel_rfl))⟩,
  f7 := Tryd.func74.trans (congrArg some (by kernel_rfl)),
  t4 := Tryd.underlying4,
  a4 := Tryd.isAgg4,
  z4 := Tryd.sizeOf4,
  v4 := Tryd.zeroValue4,
  t20 := Tryd.underlying20,
  a20 := Tryd.isAgg20,
  z20 := Tryd.sizeOf20,
  v20 := Tryd.zeroValue20,
  t23 := Tryd.underlying79,
  a23 := Tryd.isAgg79,
  z23 := Tryd.sizeOf79,
  v23 := Tryd.zeroValue79 }
def layKeys0_ren : Go.Shelf.Ren := ⟨fun | 7 => 29 | 10 => 53 | n => n, fun | 23 => 79 | 26 => 9 | 3 => 4 | 28 => 82 | 0 => 0 | 27 => 81 | 33 => 120 | 4 => 4 | n => n, fun | n => n⟩
theorem layKeys0 : Go.Proofs.SlLaysZ.n7 Tryd.prog layKeys0_ren := {
  mixed := by kernel_rfl,
  f7 := ⟨Tryd.f29.name, by decide, Tryd.func29.trans (congrArg some (by kernel_rfl))⟩,
  f10 := ⟨Tryd.f53.name, by decide, Tryd.func53.trans (congrArg some (by kernel_rfl))⟩,
  t0 := Tryd.underlying0,
  a0 := Tryd.isAgg0,
  z0 := Tryd.sizeOf0,
  v0 := Tryd.zeroValue0,
  t4 := Tryd.underlying4,
  a4 := Tryd.isAgg4,
  z4 := Tryd.sizeOf4,
  v4 := Tryd.zeroValue4,
  t23 := Tryd.underlying79,
  a23 := Tryd.isAgg79,
  z23 := Tryd.sizeOf79,
  v23 := Tryd.zeroValue79,
  t26 := Tryd.underlying9,
  a26 := Tryd.isAgg9,
  z26 := Tryd.sizeOf9,
  v26 := Tryd.zeroValue9,
  t27 := Tryd.underlying81,
  a27 := Tryd.isAgg81,
  z27 := Tryd.sizeOf81,
  v27 := Tryd.zeroValue81,
  t28 := Tryd.underlying82,
  a28 := Tryd.isAgg82,
  z28 := Tryd.sizeOf82,
  v28 := Tryd.zeroValue82,
  t33 := Tryd.underlying120,
  a33 := Tryd.isAgg120,
  z33 := Tryd.sizeOf120,
  v33 := Tryd.zeroValue120 }
end Go.Proofs.YtojdbliehgejbaaDoor
