/- CallsGraphs: for every api.Program, lateenlaw20.CallsGraphs returns true, and the argument reads afterwards as it read before. No condition. -/
import Derived.Test.YtjpjnpbjalmhiaaRows
import Derived.Test.YtjpjnpbjalmhiaaFnGraphLaw
import Derived.Test.YtjpjnpbjalmhiaaFwLaw
import Derived.Test.YtjpjnpbjalmhiaaGenDec
namespace Go.Proofs.Ytjpjnpbjalmhiaa
open Go.Fw Go.ChangeShapes Go.WideShapes Go.ChangeAt Go.RowKit Go.Pl Go.Pl.Api

theorem Try.own : ownKnob Try.prog.godebug = none := by kernel_rfl
theorem Try.laidOut : laidOutB Try.prog = true := by kernel_rfl
theorem und4' : Try.prog.underlying 4 = some .bool := by kernel_rfl
theorem lt27 : decide (27 < Try.prog.types.size) = true := by kernel_rfl
set_option maxRecDepth 100000 in
theorem arg_prog {H : Type} {enc : TypeId × Value → H} {W : World} {base : Nat} {v : Value} {d : DataW H} {ps : List MemPlace} (hv : Value.okWide Try.prog W .any base 27 v) (h : DataW.Trod enc Try.prog W 0 (fun _ => true) true 27 v d ps)
    (hw : ∀ n ∈ d.weights Try.prog 27, n ≤ reachBytes) : ∃ (cs : Array Value) (x : MProg), v = .agg cs ∧ rProg.rv W.heap cs.toList x ∧ bProg x := by
  unfold Value.okWide at hv
  rw [Try.underlying27] at hv
  obtain ⟨cs, rfl, _⟩ := hv
  obtain ⟨fuel, hf⟩ := h
  obtain ⟨x, hx, hb⟩ := dec_27 hf hw
  exact ⟨cs, x, rfl, hx, hb⟩

set_option maxRecDepth 100000 in
theorem callsGraphs_lifted (os : Os) (started : os.Started) (H : Type) (enc : TypeId × Value → H) :
    ReturnsInHanded {} Try.checked os 3 .any (Rows.callsGraphsSpec.pre6 enc Try.prog Try.f3 Rows.callsGraphsRow.domain false) (Rows.callsGraphsSpec.post enc Try.prog Try.f3 false true false false) := by
  refine law_lifted_sized (C := Try.checked) (s := Rows.callsGraphsSpec) (tb := 4) Try.own started (by kernel_rfl) Try.func3 Try.laidOut rfl rfl und4' ?_ ?_
    (ChangeSpec.witness6 (enc := enc) (C := Try.checked) false ⟨#[], #[.agg #[.bool false, .slice none 0 0, .slice none 0 0, .slice none 0 0, .slice none 0 0]], []⟩ 8 (by kernel_rfl) (by kernel_rfl) (by kernel_rfl) (by kernel_rfl)) ?_
  · intro t ht
    rw [Try.params3] at ht
    have ht' : t = 27 := by simpa using ht
    subst ht'
    exact ⟨by kernel_rfl, of_decide_eq_true lt27⟩
  · rw [Try.params3]
    intro ds hd
    match ds, hd with
    | [d], _ => rfl
  · intro W args ds ps base hval hA hw
    rw [Try.params3] at hA hval hw
    obtain ⟨v, d, ha, rfl, h0⟩ := trodAll_one hA
    obtain ⟨cs, x, rfl, hx, hb⟩ := arg_prog (hval 0 27 v rfl (by rw [ha]; rfl)) h0 (fun n hn => hw n (by unfold DataW.weightsEach; exact List.mem_append.2 (.inl hn)))
    rw [ha]
    exact callsGraphs_calls hx hb

theorem callsGraphs_holds : Rows.CallsGraphsSaid :=
  OpenClaim.holds_of_wide 3 Try.f3 rfl rfl rfl rfl rfl rfl rfl ⟨rfl, rfl, rfl, rfl, rfl⟩ rfl rfl rfl rfl rfl (by kernel_rfl) Try.func3 (by kernel_rfl)
    (of_decide_eq_true (by kernel_rfl)) (by unfold Func.isWrapper; first | (rw [if_pos (by decide +kernel)]; kernel_rfl) | (rw [if_neg (by decide +kernel)]; exact ⟨rfl, rfl⟩))
    (fun os started H enc _ => callsGraphs_lifted os started H enc)

end Go.Proofs.Ytjpjnpbjalmhiaa
