/- FlowGraphs: for every api.Func, lateenlaw09.FlowGraphs returns true, and the argument reads afterwards as it read before. No condition. -/
import Derived.Test.YthdidcnpiaeleaaFnClose2
import Derived.Test.YthdidcnpiaeleaaFnFunc4
namespace Go.Proofs.Ythdidcnpiaeleaa
open Go.Fw Go.ChangeShapes Go.WideShapes Go.ChangeAt Go.RowKit

theorem flowGraphs_lifted (os : Os) (started : os.Started) (H : Type) (enc : TypeId × Value → H) :
    ReturnsInHanded {} Try.checked os 7 .any (Rows.flowGraphsSpec.pre6 enc Try.prog Try.f7 Rows.flowGraphsRow.domain false) (Rows.flowGraphsSpec.post enc Try.prog Try.f7 false true false false) :=
  law_func (s := Rows.flowGraphsSpec) started (by kernel_rfl) Try.func7 rfl rfl rfl (fun _ => rfl)
    (ChangeSpec.witness6 (enc := enc) (C := Try.checked) false ⟨#[], #[.agg #[.string ⟨#[]⟩, .string ⟨#[]⟩, .slice none 0 0, .slice none 0 0, .slice none 0 0]], []⟩ 8 (by kernel_rfl) (by kernel_rfl) (by kernel_rfl) (by kernel_rfl)) flowGraphs_calls

theorem flowGraphs_holds : Rows.FlowGraphsSaid :=
  OpenClaim.holds_of_wide 7 Try.f7 rfl rfl rfl rfl rfl rfl rfl ⟨rfl, rfl, rfl, rfl, rfl⟩ rfl rfl rfl rfl rfl (by kernel_rfl) Try.func7 (by kernel_rfl)
    (of_decide_eq_true (by kernel_rfl)) (by unfold Func.isWrapper; first | (rw [if_pos (by decide +kernel)]; kernel_rfl) | (rw [if_neg (by decide +kernel)]; exact ⟨rfl, rfl⟩))
    (fun os started H enc _ => flowGraphs_lifted os started H enc)

end Go.Proofs.Ythdidcnpiaeleaa
