/- LoopsNest: for every [][]int, lateenlaw11.LoopsNest returns true, and the argument reads afterwards as it read before. No condition. -/
import Derived.Test.YtniflhbfnkadhaaFnClose
import Derived.Test.YtniflhbfnkadhaaFnLoopsLaw2
namespace Go.Proofs.Ytniflhbfnkadhaa
open Go.Fw Go.ChangeShapes Go.WideShapes Go.ChangeAt Go.RowKit

theorem loopsNest_lifted (os : Os) (started : os.Started) (H : Type) (enc : TypeId × Value → H) :
    ReturnsInHanded {} Try.checked os 5 .any (Rows.loopsNestSpec.pre6 enc Try.prog Try.f5 Rows.loopsNestRow.domain false) (Rows.loopsNestSpec.post enc Try.prog Try.f5 false true false false) :=
  law_rows (s := Rows.loopsNestSpec) started (by kernel_rfl) Try.func5 rfl rfl rfl (fun _ => rfl)
    (ChangeSpec.witness6 (enc := enc) (C := Try.checked) false ⟨#[], #[.slice none 0 0], []⟩ 8 (by kernel_rfl) (by kernel_rfl) (by kernel_rfl) (by kernel_rfl)) loopsNest_calls

theorem loopsNest_holds : Rows.LoopsNestSaid :=
  OpenClaim.holds_of_wide 5 Try.f5 rfl rfl rfl rfl rfl rfl rfl ⟨rfl, rfl, rfl, rfl, rfl⟩ rfl rfl rfl rfl rfl (by kernel_rfl) Try.func5 (by kernel_rfl)
    (of_decide_eq_true (by kernel_rfl)) (by unfold Func.isWrapper; first | (rw [if_pos (by decide +kernel)]; kernel_rfl) | (rw [if_neg (by decide +kernel)]; exact ⟨rfl, rfl⟩))
    (fun os started H enc _ => loopsNest_lifted os started H enc)

end Go.Proofs.Ytniflhbfnkadhaa
