/- DomMeans: for every [][]int and any two uint8, lateenlaw10.DomMeans returns true, and the arguments read afterwards as they read before. No condition. -/
import Derived.Test.YthdidcnpiaeleaaFnClose
import Derived.Test.YthdidcnpiaeleaaFnDomLaw2
namespace Go.Proofs.Ythdidcnpiaeleaa
open Go.Fw Go.ChangeShapes Go.WideShapes Go.ChangeAt Go.RowKit

set_option maxRecDepth 100000 in
theorem domMeans_lifted (os : Os) (started : os.Started) (H : Type) (enc : TypeId × Value → H) :
    ReturnsInHanded {} Try.checked os 13 .any (Rows.domMeansSpec.pre6 enc Try.prog Try.f13 Rows.domMeansRow.domain false) (Rows.domMeansSpec.post enc Try.prog Try.f13 false true false false) := by
  refine law_lifted (C := Try.checked) (s := Rows.domMeansSpec) (tb := 4) Try.own started (by kernel_rfl) Try.func13 Try.laidOut rfl rfl und4 ?_ ?_ 
    (ChangeSpec.witness6 (enc := enc) (C := Try.checked) false ⟨#[], #[.slice none 0 0, .int .u8 0, .int .u8 0], []⟩ 8 (by kernel_rfl) (by kernel_rfl) (by kernel_rfl) (by kernel_rfl)) ?_
  · intro t ht
    rw [Try.params13] at ht
    have ht' : t = 22 ∨ t = 5 := by simpa using ht
    rcases ht' with rfl | rfl
    · exact ⟨by kernel_rfl, of_decide_eq_true lt22⟩
    · exact ⟨by kernel_rfl, of_decide_eq_true lt5⟩
  · rw [Try.params13]
    intro ds hd
    match ds, hd with
    | [d, e, f], _ => rfl
  · intro W args ds ps base hval hA
    rw [Try.params13] at hA hval
    obtain ⟨v, v1, v2, d, d1, d2, p, p1, p2, ha, rfl, rfl, h0, h1, h2⟩ := trodAll_three hA
    obtain ⟨s, G, rfl, hg⟩ := arg_rows (hval 0 22 v rfl (by rw [ha]; rfl)) h0
    obtain ⟨a, rfl, wa⟩ := arg_u8 (hval 1 5 v1 rfl (by rw [ha]; rfl)) h1
    obtain ⟨b, rfl, wb⟩ := arg_u8 (hval 2 5 v2 rfl (by rw [ha]; rfl)) h2
    rw [ha]
    exact domMeans_calls hg wa wb

theorem domMeans_holds : Rows.DomMeansSaid :=
  OpenClaim.holds_of_wide 13 Try.f13 rfl rfl rfl rfl rfl rfl rfl ⟨rfl, rfl, rfl, rfl, rfl⟩ rfl rfl rfl rfl rfl (by kernel_rfl) Try.func13 (by kernel_rfl)
    (of_decide_eq_true (by kernel_rfl)) (by unfold Func.isWrapper; first | (rw [if_pos (by decide +kernel)]; kernel_rfl) | (rw [if_neg (by decide +kernel)]; exact ⟨rfl, rfl⟩))
    (fun os started H enc _ => domMeans_lifted os started H enc)

end Go.Proofs.Ythdidcnpiaeleaa
