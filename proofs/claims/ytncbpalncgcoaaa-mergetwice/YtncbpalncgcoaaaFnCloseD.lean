/-
  What a closed law of this seat needs besides its walk.
-/
import Derived.Test.YtncbpalncgcoaaaRows
import Derived.Test.YtncbpalncgcoaaaFwLaw
import Derived.Test.YtncbpalncgcoaaaGenDec
import Derived.Test.YtncbpalncgcoaaaGen
import Derived.Test.YtncbpalncgcoaaaPlMrg
namespace Go.Proofs.Ytncbpalncgcoaaa
open Go.Fw Go.ChangeShapes Go.WideShapes Go.ChangeAt Go.RowKit Go.Pl.Api Go.Pl.Vst

theorem Try.own : ownKnob Try.prog.godebug = none := by kernel_rfl
theorem Try.laidOut : laidOutB Try.prog = true := by kernel_rfl
theorem und4' : Try.prog.underlying 4 = some .bool := by kernel_rfl
theorem und43' : Try.prog.underlying 43 = some (.slice 40) := by kernel_rfl
theorem und29' : Try.prog.underlying 29 = some (.slice 37) := by kernel_rfl
theorem und3' : Try.prog.underlying 3 = some (.int .i64) := by kernel_rfl
theorem lt43 : decide (43 < Try.prog.types.size) = true := by kernel_rfl
theorem lt40 : decide (40 < Try.prog.types.size) = true := by kernel_rfl
theorem lt37 : decide (37 < Try.prog.types.size) = true := by kernel_rfl
theorem lt29 : decide (29 < Try.prog.types.size) = true := by kernel_rfl
theorem lt3 : decide (3 < Try.prog.types.size) = true := by kernel_rfl
section
variable {H : Type} {enc : TypeId × Value → H} {W : World} {base : Nat} {v : Value} {d : DataW H} {ps : List MemPlace}
set_option maxRecDepth 100000 in
theorem arg_objs (hv : Value.okWide Try.prog W .any base 43 v) (h : DataW.Trod enc Try.prog W 0 (fun _ => true) true 43 v d ps) (hw : ∀ n ∈ d.weights Try.prog 43, n ≤ reachBytes) :
    ∃ (s : Sl) (l : List MObj), v = s.v ∧ rdSl rObj.el W.heap s l ∧ bL bObj l := by
  obtain ⟨a, n, c, rfl⟩ := okWide_slice und43' hv
  obtain ⟨fuel, hf⟩ := h
  obtain ⟨l, ⟨s, e, hr⟩, hb⟩ := dec_43 hf hw
  have : (Value.slice a n c) = s.v := by simpa [Value.cells] using e
  exact ⟨s, l, this, hr, hb⟩
set_option maxRecDepth 100000 in
theorem arg_args (hv : Value.okWide Try.prog W .any base 29 v) (h : DataW.Trod enc Try.prog W 0 (fun _ => true) true 29 v d ps) (hw : ∀ n ∈ d.weights Try.prog 29, n ≤ reachBytes) :
    ∃ (s : Sl) (l : List MArg), v = s.v ∧ rdSl rArg.el W.heap s l := by
  obtain ⟨a, n, c, rfl⟩ := okWide_slice und29' hv
  obtain ⟨fuel, hf⟩ := h
  obtain ⟨l, ⟨s, e, hr⟩, hb⟩ := dec_29 hf hw
  have : (Value.slice a n c) = s.v := by simpa [Value.cells] using e
  exact ⟨s, l, this, hr⟩
set_option maxRecDepth 100000 in
theorem arg_obj (hv : Value.okWide Try.prog W .any base 40 v) (h : DataW.Trod enc Try.prog W 0 (fun _ => true) true 40 v d ps) (hw : ∀ n ∈ d.weights Try.prog 40, n ≤ reachBytes) :
    ∃ (cs : Array Value) (o : MObj), v = .agg cs ∧ rObj.rv W.heap cs.toList o ∧ bObj o := by
  unfold Value.okWide at hv
  rw [Try.underlying40] at hv
  obtain ⟨cs, rfl, _⟩ := hv
  obtain ⟨fuel, hf⟩ := h
  obtain ⟨x, hx, hb⟩ := dec_40 hf hw
  exact ⟨cs, x, rfl, hx, hb⟩
set_option maxRecDepth 100000 in
theorem arg_arg (hv : Value.okWide Try.prog W .any base 37 v) (h : DataW.Trod enc Try.prog W 0 (fun _ => true) true 37 v d ps) (hw : ∀ n ∈ d.weights Try.prog 37, n ≤ reachBytes) :
    ∃ (cs : Array Value) (o : MArg), v = .agg cs ∧ rArg.rv W.heap cs.toList o := by
  unfold Value.okWide at hv
  rw [Try.underlying37] at hv
  obtain ⟨cs, rfl, _⟩ := hv
  obtain ⟨fuel, hf⟩ := h
  obtain ⟨x, hx, hb⟩ := dec_37 hf hw
  exact ⟨cs, x, rfl, hx⟩
set_option maxRecDepth 100000 in
theorem arg_int (hv : Value.okWide Try.prog W .any base 3 v) (h : DataW.Trod enc Try.prog W 0 (fun _ => true) true 3 v d ps) : ∃ n : Int, v = .int .i64 n := by
  obtain ⟨n, rfl, _⟩ := open_int und3' hv h
  exact ⟨n, rfl⟩
theorem ids_of {l : List MObj} (h : bL bObj l) : ∀ o ∈ l, -9223372036854775808 ≤ o.id ∧ o.id ≤ 9223372036854775807 := fun o ho => (h.2 o ho).1
end

end Go.Proofs.Ytncbpalncgcoaaa

/-
  What a closed law of this seat needs besides its walk: states' and rows' arguments.
-/
namespace Go.Proofs.Ytncbpalncgcoaaa
open Go.Fw Go.ChangeShapes Go.WideShapes Go.ChangeAt Go.RowKit Go.Pl.Api Go.Pl.Vst Go.Pl.Mrg

theorem und22' : Try.prog.underlying 22 = some (.slice 43) := by kernel_rfl
theorem und23' : Try.prog.underlying 23 = some (.slice 29) := by kernel_rfl
theorem lt22 : decide (22 < Try.prog.types.size) = true := by kernel_rfl
theorem lt23 : decide (23 < Try.prog.types.size) = true := by kernel_rfl
section
variable {H : Type} {enc : TypeId × Value → H} {W : World} {base : Nat} {v : Value} {d : DataW H} {ps : List MemPlace}
theorem dec_22 {w : World} : DecB H enc Try.prog w 22 (RV.sl (RV.sl rObj)) (bL (bL bObj)) := DecB.sl und22' (by kernel_rfl) (by decide) (of_decide_eq_true (by kernel_rfl)) dec_43
theorem dec_23 {w : World} : DecB H enc Try.prog w 23 (RV.sl (RV.sl rArg)) (bL (bL bArg)) := DecB.sl und23' (by kernel_rfl) (by decide) (of_decide_eq_true (by kernel_rfl)) dec_29
set_option maxRecDepth 100000 in
theorem arg_ways (hv : Value.okWide Try.prog W .any base 22 v) (h : DataW.Trod enc Try.prog W 0 (fun _ => true) true 22 v d ps) (hw : ∀ n ∈ d.weights Try.prog 22, n ≤ reachBytes) :
    ∃ (s : Sl) (l : List (List MObj)), v = s.v ∧ rdSl rObj.sl.el W.heap s l ∧ bL (bL bObj) l := by
  obtain ⟨a, n, c, rfl⟩ := okWide_slice und22' hv
  obtain ⟨fuel, hf⟩ := h
  obtain ⟨l, ⟨s, e, hr⟩, hb⟩ := dec_22 hf hw
  have : (Value.slice a n c) = s.v := by simpa [Value.cells] using e
  exact ⟨s, l, this, hr, hb⟩
set_option maxRecDepth 100000 in
theorem arg_rows (hv : Value.okWide Try.prog W .any base 23 v) (h : DataW.Trod enc Try.prog W 0 (fun _ => true) true 23 v d ps) (hw : ∀ n ∈ d.weights Try.prog 23, n ≤ reachBytes) :
    ∃ (s : Sl) (l : List (List MArg)), v = s.v ∧ rdSl rArg.sl.el W.heap s l := by
  obtain ⟨a, n, c, rfl⟩ := okWide_slice und23' hv
  obtain ⟨fuel, hf⟩ := h
  obtain ⟨l, ⟨s, e, hr⟩, hb⟩ := dec_23 hf hw
  have : (Value.slice a n c) = s.v := by simpa [Value.cells] using e
  exact ⟨s, l, this, hr⟩
theorem ids_ways {l : List (List MObj)} (h : bL (bL bObj) l) : IdsR l := fun s hs o ho => ((h.2 s hs).2 o ho).1
end

end Go.Proofs.Ytncbpalncgcoaaa
