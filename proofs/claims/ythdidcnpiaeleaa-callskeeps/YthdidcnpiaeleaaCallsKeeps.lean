/- CallsKeeps: for every [][]int, lateenlaw20.CallsKeeps returns true, and the argument reads afterwards as it read before. No condition. -/
import Derived.Test.YthdidcnpiaeleaaFnClose
import Derived.Test.YthdidcnpiaeleaaFnCallsLaw2
namespace Go.Proofs.Ythdidcnpiaeleaa
open Go.Fw Go.ChangeShapes Go.WideShapes Go.ChangeAt Go.RowKit

theorem callsKeeps_lifted (os : Os) (started : os.Started) (H : Type) (enc : TypeId × Value → H) :
    ReturnsInHanded {} Try.checked os 11 .any (Rows.callsKeepsSpec.pre6 enc Try.prog Try.f11 Rows.callsKeepsRow.domain false) (Rows.callsKeepsSpec.post enc Try.prog Try.f11 false true false false) :=
  law_rows (s := Rows.callsKeepsSpec) started (by kernel_rfl) Try.func11 rfl rfl rfl (fun _ => rfl)
    (ChangeSpec.witness6 (enc := enc) (C := Try.checked) false ⟨#[], #[.slice none 0 0], []⟩ 8 (by kernel_rfl) (by kernel_rfl) (by kernel_rfl) (by kernel_rfl)) callsKeeps_calls

theorem callsKeeps_holds : Rows.CallsKeepsSaid :=
  OpenClaim.holds_of_wide 11 Try.f11 rfl rfl rfl rfl rfl rfl rfl ⟨rfl, rfl, rfl, rfl, rfl⟩ rfl rfl rfl rfl rfl (by kernel_rfl) Try.func11 (by kernel_rfl)
    (of_decide_eq_true (by kernel_rfl)) (by unfold Func.isWrapper; first | (rw [if_pos (by decide +kernel)]; kernel_rfl) | (rw [if_neg (by decide +kernel)]; exact ⟨rfl, rfl⟩))
    (fun os started H enc _ => callsKeeps_lifted os started H enc)

end Go.Proofs.Ythdidcnpiaeleaa
