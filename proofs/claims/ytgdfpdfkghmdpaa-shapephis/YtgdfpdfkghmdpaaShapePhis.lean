/- ShapePhis: for every api.Func, lateenlaw08.ShapePhis returns true, and the argument reads afterwards as it read before. No condition. -/
import Derived.Test.YtgdfpdfkghmdpaaFnClose
import Derived.Test.YtgdfpdfkghmdpaaFnRefPhis
namespace Go.Proofs.Ytgdfpdfkghmdpaa
open Go.Fw Go.ChangeShapes Go.WideShapes Go.ChangeAt Go.RowKit

set_option maxRecDepth 100000 in
theorem shapePhis_lifted (os : Os) (started : os.Started) (H : Type) (enc : TypeId × Value → H) :
    ReturnsInHanded {} Try.checked os 4 .any (Rows.shapePhisSpec.pre6 enc Try.prog Try.f4 Rows.shapePhisRow.domain false) (Rows.shapePhisSpec.post enc Try.prog Try.f4 false true false false) := by
  refine law_lifted (C := Try.checked) (s := Rows.shapePhisSpec) (tb := 4) Try.own started (by kernel_rfl) Try.func4 Try.laidOut rfl rfl und4' ?_ ?_
    (ChangeSpec.witness6 (enc := enc) (C := Try.checked) false ⟨#[], #[.agg #[.string ⟨#[]⟩, .string ⟨#[]⟩, .slice none 0 0, .slice none 0 0, .slice none 0 0]], []⟩ 8 (by kernel_rfl) (by kernel_rfl) (by kernel_rfl) (by kernel_rfl)) ?_
  · intro t ht
    rw [Try.params4] at ht
    have ht' : t = 25 := by simpa using ht
    subst ht'
    exact ⟨by kernel_rfl, of_decide_eq_true lt25⟩
  · rw [Try.params4]
    intro ds hd
    match ds, hd with
    | [d], _ => rfl
  · intro W args ds ps base hval hA
    rw [Try.params4] at hA hval
    obtain ⟨v, d, ha, rfl, h0⟩ := trodAll_one hA
    obtain ⟨cs, x, rfl, hx⟩ := arg_func (hval 0 25 v rfl (by rw [ha]; rfl)) h0
    rw [ha]
    exact shapePhis_calls hx

theorem shapePhis_holds : Rows.ShapePhisSaid :=
  OpenClaim.holds_of_wide 4 Try.f4 rfl rfl rfl rfl rfl rfl rfl ⟨rfl, rfl, rfl, rfl, rfl⟩ rfl rfl rfl rfl rfl (by kernel_rfl) Try.func4 (by kernel_rfl)
    (of_decide_eq_true (by kernel_rfl)) (by unfold Func.isWrapper; first | (rw [if_pos (by decide +kernel)]; kernel_rfl) | (rw [if_neg (by decide +kernel)]; exact ⟨rfl, rfl⟩))
    (fun os started H enc _ => shapePhis_lifted os started H enc)

end Go.Proofs.Ytgdfpdfkghmdpaa
