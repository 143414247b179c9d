/- ShapeRights: for every api.Func and every string, lateenlaw08.ShapeRights returns true, and the arguments read afterwards as they read before. No condition. -/
import Derived.Test.YtgdfpdfkghmdpaaFnClose
import Derived.Test.YtgdfpdfkghmdpaaFnShapeLaw
namespace Go.Proofs.Ytgdfpdfkghmdpaa
open Go.Fw Go.ChangeShapes Go.WideShapes Go.ChangeAt Go.RowKit

set_option maxRecDepth 100000 in
theorem shapeRights_lifted (os : Os) (started : os.Started) (H : Type) (enc : TypeId × Value → H) :
    ReturnsInHanded {} Try.checked os 3 .any (Rows.shapeRightsSpec.pre6 enc Try.prog Try.f3 Rows.shapeRightsRow.domain false) (Rows.shapeRightsSpec.post enc Try.prog Try.f3 false true false false) := by
  refine law_lifted (C := Try.checked) (s := Rows.shapeRightsSpec) (tb := 4) Try.own started (by kernel_rfl) Try.func3 Try.laidOut rfl rfl und4' ?_ ?_
    (ChangeSpec.witness6 (enc := enc) (C := Try.checked) false ⟨#[], #[.agg #[.string ⟨#[]⟩, .string ⟨#[]⟩, .slice none 0 0, .slice none 0 0, .slice none 0 0], .string ⟨#[]⟩], []⟩ 8 (by kernel_rfl) (by kernel_rfl) (by kernel_rfl) (by kernel_rfl)) ?_
  · intro t ht
    rw [Try.params3] at ht
    have ht' : t = 25 ∨ t = 9 := by simpa using ht
    rcases ht' with rfl | rfl
    · exact ⟨by kernel_rfl, of_decide_eq_true lt25⟩
    · exact ⟨by kernel_rfl, of_decide_eq_true lt9⟩
  · rw [Try.params3]
    intro ds hd
    match ds, hd with
    | [d, e], _ => rfl
  · intro W args ds ps base hval hA
    rw [Try.params3] at hA hval
    obtain ⟨v, v1, d, d1, p, p1, ha, rfl, rfl, h0, h1⟩ := trodAll_two hA
    obtain ⟨cs, x, rfl, hx⟩ := arg_func (hval 0 25 v rfl (by rw [ha]; rfl)) h0
    obtain ⟨s, rfl⟩ := okWide_string und_9 (hval 1 9 v1 rfl (by rw [ha]; rfl))
    rw [ha]
    exact shapeRights_calls hx s

theorem shapeRights_holds : Rows.ShapeRightsSaid :=
  OpenClaim.holds_of_wide 3 Try.f3 rfl rfl rfl rfl rfl rfl rfl ⟨rfl, rfl, rfl, rfl, rfl⟩ rfl rfl rfl rfl rfl (by kernel_rfl) Try.func3 (by kernel_rfl)
    (of_decide_eq_true (by kernel_rfl)) (by unfold Func.isWrapper; first | (rw [if_pos (by decide +kernel)]; kernel_rfl) | (rw [if_neg (by decide +kernel)]; exact ⟨rfl, rfl⟩))
    (fun os started H enc _ => shapeRights_lifted os started H enc)

end Go.Proofs.Ytgdfpdfkghmdpaa
