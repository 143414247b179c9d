/- MatterFirst returns true whatever it is given, and the arguments read afterwards as they read before. No condition. -/
import Derived.Test.YtncbpalncgcoaaaFnFirstT
import Derived.Test.YtncbpalncgcoaaaFnCloseD
namespace Go.Proofs.Ytncbpalncgcoaaa
open Go.Fw Go.ChangeShapes Go.WideShapes Go.ChangeAt Go.RowKit Go.Pl Go.Pl.Api Go.Pl.Vst

set_option maxRecDepth 100000 in
theorem matterFirst_lifted (os : Os) (started : os.Started) (H : Type) (enc : TypeId × Value → H) :
    ReturnsInHanded {} Try.checked os 13 .any (Rows.matterFirstSpec.pre6 enc Try.prog Try.f13 Rows.matterFirstRow.domain false) (Rows.matterFirstSpec.post enc Try.prog Try.f13 false true false false) := by
  refine law_lifted_sized (C := Try.checked) (s := Rows.matterFirstSpec) (tb := 4) Try.own started (by kernel_rfl) Try.func13 Try.laidOut rfl rfl und4' ?_ ?_
    (ChangeSpec.witness6 (enc := enc) (C := Try.checked) false ⟨#[], #[.slice none 0 0, .slice none 0 0], []⟩ 8 (by kernel_rfl) (by kernel_rfl) (by kernel_rfl) (by kernel_rfl)) ?_
  · intro t ht
    rw [Try.params13] at ht
    simp only [List.mem_cons, List.not_mem_nil, or_false] at ht
    rcases ht with rfl | rfl
    · exact ⟨by kernel_rfl, of_decide_eq_true lt43⟩
    · exact ⟨by kernel_rfl, of_decide_eq_true lt35⟩
  · rw [Try.params13]
    intro ds hd
    match ds, hd with
    | [d0, d1], _ => rfl
  · intro W args ds ps base hval hA hw
    rw [Try.params13] at hA hval hw
    obtain ⟨al⟩ := args
    simp only at hA hval
    obtain ⟨v0, r0, d0, e0, p0, q0, hr0, rfl, _, g0, hA⟩ := trodAll_cons hA
    obtain ⟨v1, r1, d1, e1, p1, q1, rfl, rfl, _, g1, hA⟩ := trodAll_cons hA
    obtain ⟨rfl, rfl, _⟩ := trodAll_nil hA
    subst hr0
    obtain ⟨s0, x0, rfl, h0, b0⟩ := arg_objs (hval 0 43 v0 rfl rfl) g0 (fun n hn => hw n (by unfold DataW.weightsEach; exact List.mem_append.2 (.inl hn)))
    obtain ⟨s1, x1, rfl, h1⟩ := arg_ints (hval 1 35 v1 rfl rfl) g1 (fun n hn => hw n (by unfold DataW.weightsEach; refine List.mem_append.2 (.inr ?_); unfold DataW.weightsEach; exact List.mem_append.2 (.inl hn)))
    exact matterFirst_calls h0 h1 (ids_of b0)

theorem matterFirst_holds : Rows.MatterFirstSaid :=
  OpenClaim.holds_of_wide 13 Try.f13 rfl rfl rfl rfl rfl rfl rfl ⟨rfl, rfl, rfl, rfl, rfl⟩ rfl rfl rfl rfl rfl (by kernel_rfl) Try.func13 (by kernel_rfl)
    (of_decide_eq_true (by kernel_rfl)) (by unfold Func.isWrapper; first | (rw [if_pos (by decide +kernel)]; kernel_rfl) | (rw [if_neg (by decide +kernel)]; exact ⟨rfl, rfl⟩))
    (fun os started H enc _ => matterFirst_lifted os started H enc)

end Go.Proofs.Ytncbpalncgcoaaa
