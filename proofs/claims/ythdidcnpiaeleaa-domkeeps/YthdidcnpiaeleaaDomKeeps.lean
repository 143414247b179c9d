/- DomKeeps: for every [][]int, lateenlaw10.DomKeeps returns true, and the argument reads afterwards as it read before. No condition. -/
import Derived.Test.YthdidcnpiaeleaaFnClose
import Derived.Test.YthdidcnpiaeleaaFnDomLaw2
namespace Go.Proofs.Ythdidcnpiaeleaa
open Go.Fw Go.ChangeShapes Go.WideShapes Go.ChangeAt Go.RowKit

theorem domKeeps_lifted (os : Os) (started : os.Started) (H : Type) (enc : TypeId × Value → H) :
    ReturnsInHanded {} Try.checked os 16 .any (Rows.domKeepsSpec.pre6 enc Try.prog Try.f16 Rows.domKeepsRow.domain false) (Rows.domKeepsSpec.post enc Try.prog Try.f16 false true false false) :=
  law_rows (s := Rows.domKeepsSpec) started (by kernel_rfl) Try.func16 rfl rfl rfl (fun _ => rfl)
    (ChangeSpec.witness6 (enc := enc) (C := Try.checked) false ⟨#[], #[.slice none 0 0], []⟩ 8 (by kernel_rfl) (by kernel_rfl) (by kernel_rfl) (by kernel_rfl)) domKeeps_calls

theorem domKeeps_holds : Rows.DomKeepsSaid :=
  OpenClaim.holds_of_wide 16 Try.f16 rfl rfl rfl rfl rfl rfl rfl ⟨rfl, rfl, rfl, rfl, rfl⟩ rfl rfl rfl rfl rfl (by kernel_rfl) Try.func16 (by kernel_rfl)
    (of_decide_eq_true (by kernel_rfl)) (by unfold Func.isWrapper; first | (rw [if_pos (by decide +kernel)]; kernel_rfl) | (rw [if_neg (by decide +kernel)]; exact ⟨rfl, rfl⟩))
    (fun os started H enc _ => domKeeps_lifted os started H enc)

end Go.Proofs.Ythdidcnpiaeleaa
