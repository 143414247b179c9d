/- DomTree: for every [][]int, lateenlaw10.DomTree returns true, and the argument reads afterwards as it read before. No condition. -/
import Derived.Test.YthdidcnpiaeleaaFnClose
import Derived.Test.YthdidcnpiaeleaaFnDomLaw
namespace Go.Proofs.Ythdidcnpiaeleaa
open Go.Fw Go.ChangeShapes Go.WideShapes Go.ChangeAt Go.RowKit

theorem domTree_lifted (os : Os) (started : os.Started) (H : Type) (enc : TypeId × Value → H) :
    ReturnsInHanded {} Try.checked os 14 .any (Rows.domTreeSpec.pre6 enc Try.prog Try.f14 Rows.domTreeRow.domain false) (Rows.domTreeSpec.post enc Try.prog Try.f14 false true false false) :=
  law_rows (s := Rows.domTreeSpec) started (by kernel_rfl) Try.func14 rfl rfl rfl (fun _ => rfl)
    (ChangeSpec.witness6 (enc := enc) (C := Try.checked) false ⟨#[], #[.slice none 0 0], []⟩ 8 (by kernel_rfl) (by kernel_rfl) (by kernel_rfl) (by kernel_rfl)) domTree_calls

theorem domTree_holds : Rows.DomTreeSaid :=
  OpenClaim.holds_of_wide 14 Try.f14 rfl rfl rfl rfl rfl rfl rfl ⟨rfl, rfl, rfl, rfl, rfl⟩ rfl rfl rfl rfl rfl (by kernel_rfl) Try.func14 (by kernel_rfl)
    (of_decide_eq_true (by kernel_rfl)) (by unfold Func.isWrapper; first | (rw [if_pos (by decide +kernel)]; kernel_rfl) | (rw [if_neg (by decide +kernel)]; exact ⟨rfl, rfl⟩))
    (fun os started H enc _ => domTree_lifted os started H enc)

end Go.Proofs.Ythdidcnpiaeleaa
