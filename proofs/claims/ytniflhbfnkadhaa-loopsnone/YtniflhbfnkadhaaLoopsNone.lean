/- LoopsNone: for every [][]int, lateenlaw11.LoopsNone returns true, and the argument reads afterwards as it read before. No condition. -/
import Derived.Test.YtniflhbfnkadhaaFnClose
import Derived.Test.YtniflhbfnkadhaaFnLoopsLaw
namespace Go.Proofs.Ytniflhbfnkadhaa
open Go.Fw Go.ChangeShapes Go.WideShapes Go.ChangeAt Go.RowKit

theorem loopsNone_lifted (os : Os) (started : os.Started) (H : Type) (enc : TypeId × Value → H) :
    ReturnsInHanded {} Try.checked os 6 .any (Rows.loopsNoneSpec.pre6 enc Try.prog Try.f6 Rows.loopsNoneRow.domain false) (Rows.loopsNoneSpec.post enc Try.prog Try.f6 false true false false) :=
  law_rows (s := Rows.loopsNoneSpec) started (by kernel_rfl) Try.func6 rfl rfl rfl (fun _ => rfl)
    (ChangeSpec.witness6 (enc := enc) (C := Try.checked) false ⟨#[], #[.slice none 0 0], []⟩ 8 (by kernel_rfl) (by kernel_rfl) (by kernel_rfl) (by kernel_rfl)) loopsNone_calls

theorem loopsNone_holds : Rows.LoopsNoneSaid :=
  OpenClaim.holds_of_wide 6 Try.f6 rfl rfl rfl rfl rfl rfl rfl ⟨rfl, rfl, rfl, rfl, rfl⟩ rfl rfl rfl rfl rfl (by kernel_rfl) Try.func6 (by kernel_rfl)
    (of_decide_eq_true (by kernel_rfl)) (by unfold Func.isWrapper; first | (rw [if_pos (by decide +kernel)]; kernel_rfl) | (rw [if_neg (by decide +kernel)]; exact ⟨rfl, rfl⟩))
    (fun os started H enc _ => loopsNone_lifted os started H enc)

end Go.Proofs.Ytniflhbfnkadhaa
