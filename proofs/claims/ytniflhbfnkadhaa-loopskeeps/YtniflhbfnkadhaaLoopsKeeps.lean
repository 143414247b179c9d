/- LoopsKeeps: for every [][]int, lateenlaw11.LoopsKeeps returns true, and the argument reads afterwards as it read before. No condition. -/
import Derived.Test.YtniflhbfnkadhaaFnClose
import Derived.Test.YtniflhbfnkadhaaFnLoopsLaw3
namespace Go.Proofs.Ytniflhbfnkadhaa
open Go.Fw Go.ChangeShapes Go.WideShapes Go.ChangeAt Go.RowKit

theorem loopsKeeps_lifted (os : Os) (started : os.Started) (H : Type) (enc : TypeId × Value → H) :
    ReturnsInHanded {} Try.checked os 7 .any (Rows.loopsKeepsSpec.pre6 enc Try.prog Try.f7 Rows.loopsKeepsRow.domain false) (Rows.loopsKeepsSpec.post enc Try.prog Try.f7 false true false false) :=
  law_rows (s := Rows.loopsKeepsSpec) started (by kernel_rfl) Try.func7 rfl rfl rfl (fun _ => rfl)
    (ChangeSpec.witness6 (enc := enc) (C := Try.checked) false ⟨#[], #[.slice none 0 0], []⟩ 8 (by kernel_rfl) (by kernel_rfl) (by kernel_rfl) (by kernel_rfl)) loopsKeeps_calls

theorem loopsKeeps_holds : Rows.LoopsKeepsSaid :=
  OpenClaim.holds_of_wide 7 Try.f7 rfl rfl rfl rfl rfl rfl rfl ⟨rfl, rfl, rfl, rfl, rfl⟩ rfl rfl rfl rfl rfl (by kernel_rfl) Try.func7 (by kernel_rfl)
    (of_decide_eq_true (by kernel_rfl)) (by unfold Func.isWrapper; first | (rw [if_pos (by decide +kernel)]; kernel_rfl) | (rw [if_neg (by decide +kernel)]; exact ⟨rfl, rfl⟩))
    (fun os started H enc _ => loopsKeeps_lifted os started H enc)

end Go.Proofs.Ytniflhbfnkadhaa
