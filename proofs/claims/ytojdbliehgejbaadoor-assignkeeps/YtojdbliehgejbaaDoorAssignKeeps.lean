/- AssignKeeps returns true whatever it is given, and the argument reads afterwards as it read before; the table of instructions' words is tied to the program's text. No other condition. -/
import Derived.Test.YtojdbliehgejbaaDoorFnKeepA
import Derived.Test.YtojdbliehgejbaaDoorFnCloseL
import Derived.Test.YtojdbliehgejbaaDoorCards
import Derived.Test.YtojdbliehgejbaaDoorTie
import Derived.SevenTiedAt
namespace Go.Proofs.YtojdbliehgejbaaDoor
open Go.Fw Go.ChangeShapes Go.WideShapes Go.ChangeAt Go.RowKit Go.Pl Go.Pl.Api

set_option maxRecDepth 100000 in
theorem assignKeeps_lifted (os : Os) (started : os.Started) (H : Type) (enc : TypeId × Value → H) :
    ReturnsInHanded {} Tryd.checked os 4 .any (fun w args => (Rows.assignKeepsSpec.pre enc Tryd.prog Tryd.f4 [] false w args ∧ laidMetH Tryd.prog laidL w) ∧ sizedMet enc Tryd.prog Tryd.f4 (OpenSpec.ofChange Rows.assignKeepsSpec) false w args)
      (Rows.assignKeepsSpec.post enc Tryd.prog Tryd.f4 false true false false) := by
  refine law_lifted_laid (C := Tryd.checked) (s := Rows.assignKeepsSpec) (laid := laidL) (tb := 4) Tryd.own started (by kernel_rfl) Tryd.func4 Tryd.laidOut rfl rfl und4' ?_ ?_
    (ChangeSpec.witness_shaped (enc := enc) (C := Tryd.checked) (os := os) (X := fun w _ => laidMetH Tryd.prog laidL w) false (World.doorLaid Tryd.prog 14 os) #[zFunc] 8 rfl (World.shaped_of_RefB (by kernel_rfl) (by kernel_rfl)) (by kernel_rfl) (by kernel_rfl) (by kernel_rfl) (door_met os _)) ?_
  · intro t ht
    rw [Tryd.params4] at ht
    have ht' : t = 25 := by simpa using ht
    subst ht'
    exact ⟨by kernel_rfl, of_decide_eq_true lt25⟩
  · rw [Tryd.params4]
    intro ds hd
    match ds, hd with
    | [d0], _ => rfl
  · intro W args ds ps base hval hA hw hL
    rw [Tryd.params4] at hA hval hw
    obtain ⟨al⟩ := args
    simp only at hA hval
    obtain ⟨v0, r0, d0, e0, p0, q0, hr0, rfl, _, g0, hA⟩ := trodAll_cons hA
    obtain ⟨rfl, rfl, _⟩ := trodAll_nil hA
    subst hr0
    obtain ⟨s0, x0, rfl, h0, b0⟩ := arg_func (hval 0 25 v0 rfl rfl) g0 (fun n hn => hw n (by unfold DataW.weightsEach; exact List.mem_append.2 (.inl hn)))
    exact assignKeeps_calls h0 b0 (words_of hL)

theorem assignKeeps_row : Rows.AssignKeepsSaid :=
  OpenClaim.holds_of_wide 4 Tryd.f4 rfl rfl rfl rfl rfl rfl rfl ⟨rfl, rfl, rfl, rfl, rfl⟩ rfl rfl rfl rfl rfl (by kernel_rfl) Tryd.func4 (by kernel_rfl)
    (of_decide_eq_true (by kernel_rfl)) (by unfold Func.isWrapper; first | (rw [if_pos (by decide +kernel)]; kernel_rfl) | (rw [if_neg (by decide +kernel)]; exact ⟨rfl, rfl⟩))
    (fun os started H enc _ => assignKeeps_lifted os started H enc)

theorem assignKeeps_holds : Rows.AssignKeepsCardSaid :=
  Claim7.holds_tied_plain_at .later [] [.data] true (true, "8d0a40ecac758f61445a808a071a8d5fecdd3675c19376a4d90d0e3496def583") true
    assignKeeps_row (fun _ h => by cases h) (by kernel_rfl) (fun _ h => by cases h) assignKeeps_row_tie rfl ⟨rfl, rfl⟩ (by kernel_rfl) rfl
    (fun f fn hf hfn => by
      obtain rfl : f = 4 := Option.some.inj ((show Tryd.prog.funcNamed "lateen/lateenlaw13.AssignKeeps" = some 4 by kernel_rfl).symm.trans hf) |>.symm
      obtain rfl : fn = Tryd.f4 := (Option.some.inj (Tryd.func4.symm.trans hfn)).symm
      exact ⟨by kernel_rfl, fun j t ht => by
        rw [Tryd.params4] at ht
        have h3 : t = 25 := by
          rcases j with _ | j
          · simpa using ht.symm
          · simp at ht
        subst h3
        exact (show Tryd.prog.wantsStandIn 25 = false by kernel_rfl)⟩)
    (by kernel_rfl)

end Go.Proofs.YtojdbliehgejbaaDoor
