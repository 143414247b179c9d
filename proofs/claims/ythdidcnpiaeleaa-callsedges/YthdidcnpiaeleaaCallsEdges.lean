/- CallsEdges: for every [][]int, lateenlaw20.CallsEdges returns true, and the argument reads afterwards as it read before. No condition. -/
import Derived.Test.YthdidcnpiaeleaaFnClose
import Derived.Test.YthdidcnpiaeleaaFnCallsLaw2
namespace Go.Proofs.Ythdidcnpiaeleaa
open Go.Fw Go.ChangeShapes Go.WideShapes Go.ChangeAt Go.RowKit

theorem callsEdges_lifted (os : Os) (started : os.Started) (H : Type) (enc : TypeId × Value → H) :
    ReturnsInHanded {} Try.checked os 10 .any (Rows.callsEdgesSpec.pre6 enc Try.prog Try.f10 Rows.callsEdgesRow.domain false) (Rows.callsEdgesSpec.post enc Try.prog Try.f10 false true false false) :=
  law_rows (s := Rows.callsEdgesSpec) started (by kernel_rfl) Try.func10 rfl rfl rfl (fun _ => rfl)
    (ChangeSpec.witness6 (enc := enc) (C := Try.checked) false ⟨#[], #[.slice none 0 0], []⟩ 8 (by kernel_rfl) (by kernel_rfl) (by kernel_rfl) (by kernel_rfl)) callsEdges_calls

theorem callsEdges_holds : Rows.CallsEdgesSaid :=
  OpenClaim.holds_of_wide 10 Try.f10 rfl rfl rfl rfl rfl rfl rfl ⟨rfl, rfl, rfl, rfl, rfl⟩ rfl rfl rfl rfl rfl (by kernel_rfl) Try.func10 (by kernel_rfl)
    (of_decide_eq_true (by kernel_rfl)) (by unfold Func.isWrapper; first | (rw [if_pos (by decide +kernel)]; kernel_rfl) | (rw [if_neg (by decide +kernel)]; exact ⟨rfl, rfl⟩))
    (fun os started H enc _ => callsEdges_lifted os started H enc)

end Go.Proofs.Ythdidcnpiaeleaa
