/- ShapeLess: for every api.Func and every uint8, lateenlaw08.ShapeLess returns true, and the arguments read afterwards as they read before. No condition. -/
import Derived.Test.YtgdfpdfkghmdpaaFnClose
import Derived.Test.YtgdfpdfkghmdpaaFnShapeLess
namespace Go.Proofs.Ytgdfpdfkghmdpaa
open Go.Fw Go.ChangeShapes Go.WideShapes Go.ChangeAt Go.RowKit

theorem undU8 : Try.prog.underlying 5 = some (.int .u8) := by kernel_rfl
theorem ltU8 : decide (5 < Try.prog.types.size) = true := by kernel_rfl
theorem arg_u8 {H : Type} {enc : TypeId × Value → H} {W : World} {base : Nat} {v : Value} {d : DataW H} {ps : List MemPlace} (hv : Value.okWide Try.prog W .any base 5 v) (h : DataW.Trod enc Try.prog W 0 (fun _ => true) true 5 v d ps) :
    ∃ a : Int, v = .int .u8 a ∧ 0 ≤ a ∧ a < 256 := by
  obtain ⟨n, rfl, _, _, hw⟩ := open_int undU8 hv h
  refine ⟨n, rfl, ?_⟩
  simp [Lit.wf, IntKind.min, IntKind.max, IntKind.bits, IntKind.signed] at hw
  omega

set_option maxRecDepth 100000 in
theorem shapeLess_lifted (os : Os) (started : os.Started) (H : Type) (enc : TypeId × Value → H) :
    ReturnsInHanded {} Try.checked os 7 .any (Rows.shapeLessSpec.pre6 enc Try.prog Try.f7 Rows.shapeLessRow.domain false) (Rows.shapeLessSpec.post enc Try.prog Try.f7 false true false false) := by
  refine law_lifted (C := Try.checked) (s := Rows.shapeLessSpec) (tb := 4) Try.own started (by kernel_rfl) Try.func7 Try.laidOut rfl rfl und4' ?_ ?_
    (ChangeSpec.witness6 (enc := enc) (C := Try.checked) false ⟨#[], #[.agg #[.string ⟨#[]⟩, .string ⟨#[]⟩, .slice none 0 0, .slice none 0 0, .slice none 0 0], .int .u8 0], []⟩ 8 (by kernel_rfl) (by kernel_rfl) (by kernel_rfl) (by kernel_rfl)) ?_
  · intro t ht
    rw [Try.params7] at ht
    have ht' : t = 25 ∨ t = 5 := by simpa using ht
    rcases ht' with rfl | rfl
    · exact ⟨by kernel_rfl, of_decide_eq_true lt25⟩
    · exact ⟨by kernel_rfl, of_decide_eq_true ltU8⟩
  · rw [Try.params7]
    intro ds hd
    match ds, hd with
    | [d, e], _ => rfl
  · intro W args ds ps base hval hA
    rw [Try.params7] at hA hval
    obtain ⟨v, v1, d, d1, p, p1, ha, rfl, rfl, h0, h1⟩ := trodAll_two hA
    obtain ⟨cs, x, rfl, hx⟩ := arg_func (hval 0 25 v rfl (by rw [ha]; rfl)) h0
    obtain ⟨a, rfl, wa⟩ := arg_u8 (hval 1 5 v1 rfl (by rw [ha]; rfl)) h1
    rw [ha]
    exact shapeLess_calls hx wa

theorem shapeLess_holds : Rows.ShapeLessSaid :=
  OpenClaim.holds_of_wide 7 Try.f7 rfl rfl rfl rfl rfl rfl rfl ⟨rfl, rfl, rfl, rfl, rfl⟩ rfl rfl rfl rfl rfl (by kernel_rfl) Try.func7 (by kernel_rfl)
    (of_decide_eq_true (by kernel_rfl)) (by unfold Func.isWrapper; first | (rw [if_pos (by decide +kernel)]; kernel_rfl) | (rw [if_neg (by decide +kernel)]; exact ⟨rfl, rfl⟩))
    (fun os started H enc _ => shapeLess_lifted os started H enc)

end Go.Proofs.Ytgdfpdfkghmdpaa
