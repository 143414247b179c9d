/-
  The kit's structures laid at this dump, as the kit's command writes them (layshelf.py).
-/
import Derived.Test.YtojdbliehgejbaaChecked
import Derived.Shelf.SlLaysW
import Derived.Shelf.SlLaysZ
namespace Go.Proofs.Ytojdbliehgejbaa
open Go.Shelf
def layClone_ren : Go.Shelf.Ren := ⟨fun | 5 => 56 | 7 => 69 | n => n, fun | 23 => 80 | 25 => 9 | 3 => 4 | 4 => 4 | 20 => 20 | n => n, fun | n => n⟩
theorem layClone : Go.Proofs.SlLaysW.n5 Try.prog layClone_ren := {
  mixed := by kernel_rfl,
  f5 := ⟨Try.f56.name, by decide, Try.func56.trans (congrArg some (by kernel_rfl))⟩,
  f7 := Try.func69.trans (congrArg some (by kernel_rfl)),
  t4 := Try.underlying4,
  a4 := Try.isAgg4,
  z4 := Try.sizeOf4,
  v4 := Try.zeroValue4,
  t20 := Try.underlying20,
  a20 := Try.isAgg20,
  z20 := Try.sizeOf20,
  v20 := Try.zeroValue20,
  t23 := Try.underlying80,
  a23 := Try.isAgg80,
  z23 := Try.sizeOf80,
  v23 := Try.zeroValue80 }
def layKeys0_ren : Go.Shelf.Ren := ⟨fun | 7 => 35 | 10 => 55 | n => n, fun | 23 => 80 | 26 => 9 | 3 => 4 | 28 => 83 | 0 => 0 | 27 => 82 | 33 => 103 | 4 => 4 | n => n, fun | n => n⟩
theorem layKeys0 : Go.Proofs.SlLaysZ.n7 Try.prog layKeys0_ren := {
  mixed := by kernel_rfl,
  f7 := ⟨Try.f35.name, by decide, Try.func35.trans (congrArg some (by kernel_rfl))⟩,
  f10 := ⟨Try.f55.name, by decide, Try.func55.trans (congrArg some (by kernel_rfl))⟩,
  t0 := Try.underlying0,
  a0 := Try.isAgg0,
  z0 := Try.sizeOf0,
  v0 := Try.zeroValue0,
  t4 := Try.underlying4,
  a4 := Try.isAgg4,
  z4 := Try.sizeOf4,
  v4 := Try.zeroValue4,
  t23 := Try.underlying80,
  a23 := Try.isAgg80,
  z23 := Try.sizeOf80,
  v23 := Try.zeroValue80,
  t26 := Try.underlying9,
  a26 := Try.isAgg9,
  z26 := Try.sizeOf9,
  v26 := Try.zeroValue9,
  t27 := Try.underlying82,
  a27 := Try.isAgg82,
  z27 := Try.sizeOf82,
  v27 := Try.zeroValue82,
  t28 := Try.underlying83,
  a28 := Try.isAgg83,
  z28 := Try.sizeOf83,
  v28 := Try.zeroValue83,
  t33 := Try.underlying103,
  a33 := Try.isAgg103,
  z33 := Try.sizeOf103,
  v33 := Try.zeroValue103 }
end Go.Proofs.Ytojdbliehgejbaa
