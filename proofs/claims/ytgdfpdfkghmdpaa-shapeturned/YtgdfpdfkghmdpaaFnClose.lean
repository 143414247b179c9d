/-
  What a closed law of this seat needs besides its walk.
-/
import Derived.Test.YtgdfpdfkghmdpaaRows
import Derived.Test.YtgdfpdfkghmdpaaGen
import Derived.Test.YtgdfpdfkghmdpaaFwLaw
import Derived.Test.YtgdfpdfkghmdpaaGenDec
namespace Go.Proofs.Ytgdfpdfkghmdpaa
open Go.Fw Go.ChangeShapes Go.WideShapes Go.Pl.Api

theorem Try.own : ownKnob Try.prog.godebug = none := by kernel_rfl
theorem Try.laidOut : laidOutB Try.prog = true := by kernel_rfl
theorem und4' : Try.prog.underlying 4 = some .bool := by kernel_rfl
theorem lt25 : decide (25 < Try.prog.types.size) = true := by kernel_rfl
theorem lt9 : decide (9 < Try.prog.types.size) = true := by kernel_rfl
theorem arg_func {H : Type} {enc : TypeId × Value → H} {W : World} {base : Nat} {v : Value} {d : DataW H} {ps : List MemPlace} (hv : Value.okWide Try.prog W .any base 25 v) (h : DataW.Trod enc Try.prog W 0 (fun _ => true) true 25 v d ps) :
    ∃ (cs : Array Value) (x : MFunc), v = .agg cs ∧ rFunc.rv W.heap cs.toList x := by
  unfold Value.okWide at hv
  rw [Try.underlying25] at hv
  obtain ⟨cs, rfl, _⟩ := hv
  obtain ⟨fuel, hf⟩ := h
  obtain ⟨x, hx⟩ := dec_25 hf
  exact ⟨cs, x, rfl, hx⟩

end Go.Proofs.Ytgdfpdfkghmdpaa
