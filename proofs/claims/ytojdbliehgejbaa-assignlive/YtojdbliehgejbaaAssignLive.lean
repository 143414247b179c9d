/- AssignLive returns true whatever it is given, and the arguments read afterwards as they read before. No condition. -/
import Derived.Test.YtojdbliehgejbaaFnAwake13
import Derived.Test.YtojdbliehgejbaaFnCloseC
namespace Go.Proofs.Ytojdbliehgejbaa
open Go.Fw Go.ChangeShapes Go.WideShapes Go.ChangeAt Go.RowKit Go.Pl Go.Pl.Api

set_option maxRecDepth 100000 in
theorem assignLive_lifted (os : Os) (started : os.Started) (H : Type) (enc : TypeId × Value → H) :
    ReturnsInHanded {} Try.checked os 7 .any (Rows.assignLiveSpec.pre6 enc Try.prog Try.f7 Rows.assignLiveRow.domain false) (Rows.assignLiveSpec.post enc Try.prog Try.f7 false true false false) := by
  refine law_lifted_sized (C := Try.checked) (s := Rows.assignLiveSpec) (tb := 4) Try.own started (by kernel_rfl) Try.func7 Try.laidOut rfl rfl und4' ?_ ?_
    (ChangeSpec.witness6 (enc := enc) (C := Try.checked) false ⟨#[], #[.agg #[.string ⟨#[]⟩, .string ⟨#[]⟩, .slice none 0 0, .slice none 0 0, .slice none 0 0]], []⟩ 8 (by kernel_rfl) (by kernel_rfl) (by kernel_rfl) (by kernel_rfl)) ?_
  · intro t ht
    rw [Try.params7] at ht
    have ht' : t = 40 := by simpa using ht
    subst ht'
    exact ⟨by kernel_rfl, of_decide_eq_true lt40⟩
  · rw [Try.params7]
    intro ds hd
    match ds, hd with
    | [d0], _ => rfl
  · intro W args ds ps base hval hA hw
    rw [Try.params7] at hA hval hw
    obtain ⟨al⟩ := args
    simp only at hA hval
    obtain ⟨v0, r0, d0, e0, p0, q0, hr0, rfl, _, g0, hA⟩ := trodAll_cons hA
    obtain ⟨rfl, rfl, _⟩ := trodAll_nil hA
    subst hr0
    obtain ⟨s0, x0, rfl, h0, b0⟩ := arg_func (hval 0 40 v0 rfl rfl) g0 (fun n hn => hw n (by unfold DataW.weightsEach; exact List.mem_append.2 (.inl hn)))
    exact assignLive_calls h0 b0

theorem assignLive_holds : Rows.AssignLiveSaid :=
  OpenClaim.holds_of_wide 7 Try.f7 rfl rfl rfl rfl rfl rfl rfl ⟨rfl, rfl, rfl, rfl, rfl⟩ rfl rfl rfl rfl rfl (by kernel_rfl) Try.func7 (by kernel_rfl)
    (of_decide_eq_true (by kernel_rfl)) (by unfold Func.isWrapper; first | (rw [if_pos (by decide +kernel)]; kernel_rfl) | (rw [if_neg (by decide +kernel)]; exact ⟨rfl, rfl⟩))
    (fun os started H enc _ => assignLive_lifted os started H enc)

end Go.Proofs.Ytojdbliehgejbaa
