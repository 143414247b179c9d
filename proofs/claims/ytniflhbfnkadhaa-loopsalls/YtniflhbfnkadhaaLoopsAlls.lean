/- LoopsAlls: for every [][]int, lateenlaw11.LoopsAlls returns true, and the argument reads afterwards as it read before. No condition. -/
import Derived.Test.YtniflhbfnkadhaaFnClose
import Derived.Test.YtniflhbfnkadhaaFnLoopsLaw
namespace Go.Proofs.Ytniflhbfnkadhaa
open Go.Fw Go.ChangeShapes Go.WideShapes Go.ChangeAt Go.RowKit

theorem loopsAlls_lifted (os : Os) (started : os.Started) (H : Type) (enc : TypeId × Value → H) :
    ReturnsInHanded {} Try.checked os 3 .any (Rows.loopsAllsSpec.pre6 enc Try.prog Try.f3 Rows.loopsAllsRow.domain false) (Rows.loopsAllsSpec.post enc Try.prog Try.f3 false true false false) :=
  law_rows (s := Rows.loopsAllsSpec) started (by kernel_rfl) Try.func3 rfl rfl rfl (fun _ => rfl)
    (ChangeSpec.witness6 (enc := enc) (C := Try.checked) false ⟨#[], #[.slice none 0 0], []⟩ 8 (by kernel_rfl) (by kernel_rfl) (by kernel_rfl) (by kernel_rfl)) loopsAlls_calls

theorem loopsAlls_holds : Rows.LoopsAllsSaid :=
  OpenClaim.holds_of_wide 3 Try.f3 rfl rfl rfl rfl rfl rfl rfl ⟨rfl, rfl, rfl, rfl, rfl⟩ rfl rfl rfl rfl rfl (by kernel_rfl) Try.func3 (by kernel_rfl)
    (of_decide_eq_true (by kernel_rfl)) (by unfold Func.isWrapper; first | (rw [if_pos (by decide +kernel)]; kernel_rfl) | (rw [if_neg (by decide +kernel)]; exact ⟨rfl, rfl⟩))
    (fun os started H enc _ => loopsAlls_lifted os started H enc)

end Go.Proofs.Ytniflhbfnkadhaa
