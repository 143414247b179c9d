/-
  What a closed law of this seat needs besides its walk.
-/
import Derived.Test.YtojdbliehgejbaaRows
import Derived.Test.YtojdbliehgejbaaFwLaw
import Derived.Test.YtojdbliehgejbaaGenDec
import Derived.Test.YtojdbliehgejbaaGen
namespace Go.Proofs.Ytojdbliehgejbaa
open Go.Fw Go.ChangeShapes Go.WideShapes Go.ChangeAt Go.RowKit Go.Pl.Api

theorem Try.own : ownKnob Try.prog.godebug = none := by kernel_rfl
theorem Try.laidOut : laidOutB Try.prog = true := by kernel_rfl
theorem und4' : Try.prog.underlying 4 = some .bool := by kernel_rfl
theorem und9' : Try.prog.underlying 9 = some .string := by kernel_rfl
theorem und60' : Try.prog.underlying 60 = some (.slice 4) := by kernel_rfl
theorem lt26 : decide (26 < Try.prog.types.size) = true := by kernel_rfl
theorem lt40 : decide (40 < Try.prog.types.size) = true := by kernel_rfl
theorem lt60 : decide (60 < Try.prog.types.size) = true := by kernel_rfl
theorem lt9 : decide (9 < Try.prog.types.size) = true := by kernel_rfl
section
variable {H : Type} {enc : TypeId × Value → H} {W : World} {base : Nat} {v : Value} {d : DataW H} {ps : List MemPlace}
set_option maxRecDepth 100000 in
theorem arg_instr (hv : Value.okWide Try.prog W .any base 26 v) (h : DataW.Trod enc Try.prog W 0 (fun _ => true) true 26 v d ps) (hw : ∀ n ∈ d.weights Try.prog 26, n ≤ reachBytes) :
    ∃ (cs : Array Value) (o : MInstr), v = .agg cs ∧ rInstr.rv W.heap cs.toList o ∧ bInstr o := by
  unfold Value.okWide at hv
  rw [Try.underlying26] at hv
  obtain ⟨cs, rfl, _⟩ := hv
  obtain ⟨fuel, hf⟩ := h
  obtain ⟨x, hx, hb⟩ := dec_26 hf hw
  exact ⟨cs, x, rfl, hx, hb⟩
set_option maxRecDepth 100000 in
theorem arg_func (hv : Value.okWide Try.prog W .any base 40 v) (h : DataW.Trod enc Try.prog W 0 (fun _ => true) true 40 v d ps) (hw : ∀ n ∈ d.weights Try.prog 40, n ≤ reachBytes) :
    ∃ (cs : Array Value) (o : MFunc), v = .agg cs ∧ rFunc.rv W.heap cs.toList o ∧ bFunc o := by
  unfold Value.okWide at hv
  rw [Try.underlying40] at hv
  obtain ⟨cs, rfl, _⟩ := hv
  obtain ⟨fuel, hf⟩ := h
  obtain ⟨x, hx, hb⟩ := dec_40 hf hw
  exact ⟨cs, x, rfl, hx, hb⟩
set_option maxRecDepth 100000 in
theorem arg_bools (hv : Value.okWide Try.prog W .any base 60 v) (h : DataW.Trod enc Try.prog W 0 (fun _ => true) true 60 v d ps) (hw : ∀ n ∈ d.weights Try.prog 60, n ≤ reachBytes) :
    ∃ (s : Sl) (l : List Bool), v = s.v ∧ rdSl rBool.el W.heap s l := by
  obtain ⟨a, n, c, rfl⟩ := okWide_slice und60' hv
  obtain ⟨fuel, hf⟩ := h
  obtain ⟨l, ⟨s, e, hr⟩, hb⟩ := (DecB.sl und60' (by kernel_rfl) (by decide) (of_decide_eq_true (by kernel_rfl)) (DecB.bool und4')) hf hw
  have : (Value.slice a n c) = s.v := by simpa [Value.cells] using e
  exact ⟨s, l, this, hr⟩
set_option maxRecDepth 100000 in
theorem arg_str (hv : Value.okWide Try.prog W .any base 9 v) (h : DataW.Trod enc Try.prog W 0 (fun _ => true) true 9 v d ps) (hw : ∀ n ∈ d.weights Try.prog 9, n ≤ reachBytes) :
    ∃ s : ByteArray, v = .string s ∧ bStr s := by
  obtain ⟨s, rfl⟩ := okWide_string und9' hv
  obtain ⟨fuel, hf⟩ := h
  obtain ⟨x, hx, hb⟩ := dec_9 hf hw
  have hx : (Value.string s).cells.toList = [Value.string x] := hx
  have : s = x := by simpa [Value.cells] using hx
  exact ⟨s, rfl, this ▸ hb⟩
end

end Go.Proofs.Ytojdbliehgejbaa
