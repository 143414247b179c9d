/- ShapeCome: for every api.Func, lateenlaw08.ShapeCome returns true, and the argument reads afterwards as it read before. No condition. -/
import Derived.Test.YtgdfpdfkghmdpaaFnClose
import Derived.Test.YtgdfpdfkghmdpaaFnShapeCome
namespace Go.Proofs.Ytgdfpdfkghmdpaa
open Go.Fw Go.ChangeShapes Go.WideShapes Go.ChangeAt Go.RowKit

set_option maxRecDepth 100000 in
theorem shapeCome_lifted (os : Os) (started : os.Started) (H : Type) (enc : TypeId × Value → H) :
    ReturnsInHanded {} Try.checked os 5 .any (Rows.shapeComeSpec.pre6 enc Try.prog Try.f5 Rows.shapeComeRow.domain false) (Rows.shapeComeSpec.post enc Try.prog Try.f5 false true false false) := by
  refine law_lifted (C := Try.checked) (s := Rows.shapeComeSpec) (tb := 4) Try.own started (by kernel_rfl) Try.func5 Try.laidOut rfl rfl und4' ?_ ?_
    (ChangeSpec.witness6 (enc := enc) (C := Try.checked) false ⟨#[], #[.agg #[.string ⟨#[]⟩, .string ⟨#[]⟩, .slice none 0 0, .slice none 0 0, .slice none 0 0]], []⟩ 8 (by kernel_rfl) (by kernel_rfl) (by kernel_rfl) (by kernel_rfl)) ?_
  · intro t ht
    rw [Try.params5] at ht
    have ht' : t = 25 := by simpa using ht
    subst ht'
    exact ⟨by kernel_rfl, of_decide_eq_true lt25⟩
  · rw [Try.params5]
    intro ds hd
    match ds, hd with
    | [d], _ => rfl
  · intro W args ds ps base hval hA
    rw [Try.params5] at hA hval
    obtain ⟨v, d, ha, rfl, h0⟩ := trodAll_one hA
    obtain ⟨cs, x, rfl, hx⟩ := arg_func (hval 0 25 v rfl (by rw [ha]; rfl)) h0
    rw [ha]
    exact shapeCome_calls hx

theorem shapeCome_holds : Rows.ShapeComeSaid :=
  OpenClaim.holds_of_wide 5 Try.f5 rfl rfl rfl rfl rfl rfl rfl ⟨rfl, rfl, rfl, rfl, rfl⟩ rfl rfl rfl rfl rfl (by kernel_rfl) Try.func5 (by kernel_rfl)
    (of_decide_eq_true (by kernel_rfl)) (by unfold Func.isWrapper; first | (rw [if_pos (by decide +kernel)]; kernel_rfl) | (rw [if_neg (by decide +kernel)]; exact ⟨rfl, rfl⟩))
    (fun os started H enc _ => shapeCome_lifted os started H enc)

end Go.Proofs.Ytgdfpdfkghmdpaa
