/-
  What a closed law of this seat needs besides its walk.
-/
import Derived.Test.YtncbpalncgcoaaaRows
import Derived.Test.YtncbpalncgcoaaaFwLaw
import Derived.Test.YtncbpalncgcoaaaGenDec
import Derived.Test.YtncbpalncgcoaaaGen
namespace Go.Proofs.Ytncbpalncgcoaaa
open Go.Fw Go.ChangeShapes Go.WideShapes Go.ChangeAt Go.RowKit Go.Pl.Api Go.Pl.Vst

theorem Try.own : ownKnob Try.prog.godebug = none := by kernel_rfl
theorem Try.laidOut : laidOutB Try.prog = true := by kernel_rfl
theorem und4' : Try.prog.underlying 4 = some .bool := by kernel_rfl
theorem und43' : Try.prog.underlying 43 = some (.slice 40) := by kernel_rfl
theorem und29' : Try.prog.underlying 29 = some (.slice 37) := by kernel_rfl
theorem und3' : Try.prog.underlying 3 = some (.int .i64) := by kernel_rfl
theorem lt43 : decide (43 < Try.prog.types.size) = true := by kernel_rfl
theorem lt40 : decide (40 < Try.prog.types.size) = true := by kernel_rfl
theorem lt37 : decide (37 < Try.prog.types.size) = true := by kernel_rfl
theorem lt29 : decide (29 < Try.prog.types.size) = true := by kernel_rfl
theorem lt3 : decide (3 < Try.prog.types.size) = true := by kernel_rfl
section
variable {H : Type} {enc : TypeId × Value → H} {W : World} {base : Nat} {v : Value} {d : DataW H} {ps : List MemPlace}
set_option maxRecDepth 100000 in
theorem arg_objs (hv : Value.okWide Try.prog W .any base 43 v) (h : DataW.Trod enc Try.prog W 0 (fun _ => true) true 43 v d ps) (hw : ∀ n ∈ d.weights Try.prog 43, n ≤ reachBytes) :
    ∃ (s : Sl) (l : List MObj), v = s.v ∧ rdSl rObj.el W.heap s l ∧ bL bObj l := by
  obtain ⟨a, n, c, rfl⟩ := okWide_slice und43' hv
  obtain ⟨fuel, hf⟩ := h
  obtain ⟨l, ⟨s, e, hr⟩, hb⟩ := dec_43 hf hw
  have : (Value.slice a n c) = s.v := by simpa [Value.cells] using e
  exact ⟨s, l, this, hr, hb⟩
set_option maxRecDepth 100000 in
theorem arg_args (hv : Value.okWide Try.prog W .any base 29 v) (h : DataW.Trod enc Try.prog W 0 (fun _ => true) true 29 v d ps) (hw : ∀ n ∈ d.weights Try.prog 29, n ≤ reachBytes) :
    ∃ (s : Sl) (l : List MArg), v = s.v ∧ rdSl rArg.el W.heap s l := by
  obtain ⟨a, n, c, rfl⟩ := okWide_slice und29' hv
  obtain ⟨fuel, hf⟩ := h
  obtain ⟨l, ⟨s, e, hr⟩, hb⟩ := dec_29 hf hw
  have : (Value.slice a n c) = s.v := by simpa [Value.cells] using e
  exact ⟨s, l, this, hr⟩
set_option maxRecDepth 100000 in
theorem arg_obj (hv : Value.okWide Try.prog W .any base 40 v) (h : DataW.Trod enc Try.prog W 0 (fun _ => true) true 40 v d ps) (hw : ∀ n ∈ d.weights Try.prog 40, n ≤ reachBytes) :
    ∃ (cs : Array Value) (o : MObj), v = .agg cs ∧ rObj.rv W.heap cs.toList o ∧ bObj o := by
  unfold Value.okWide at hv
  rw [Try.underlying40] at hv
  obtain ⟨cs, rfl, _⟩ := hv
  obtain ⟨fuel, hf⟩ := h
  obtain ⟨x, hx, hb⟩ := dec_40 hf hw
  exact ⟨cs, x, rfl, hx, hb⟩
set_option maxRecDepth 100000 in
theorem arg_arg (hv : Value.okWide Try.prog W .any base 37 v) (h : DataW.Trod enc Try.prog W 0 (fun _ => true) true 37 v d ps) (hw : ∀ n ∈ d.weights Try.prog 37, n ≤ reachBytes) :
    ∃ (cs : Array Value) (o : MArg), v = .agg cs ∧ rArg.rv W.heap cs.toList o := by
  unfold Value.okWide at hv
  rw [Try.underlying37] at hv
  obtain ⟨cs, rfl, _⟩ := hv
  obtain ⟨fuel, hf⟩ := h
  obtain ⟨x, hx, hb⟩ := dec_37 hf hw
  exact ⟨cs, x, rfl, hx⟩
set_option maxRecDepth 100000 in
theorem arg_int (hv : Value.okWide Try.prog W .any base 3 v) (h : DataW.Trod enc Try.prog W 0 (fun _ => true) true 3 v d ps) : ∃ n : Int, v = .int .i64 n := by
  obtain ⟨n, rfl, _⟩ := open_int und3' hv h
  exact ⟨n, rfl⟩
theorem ids_of {l : List MObj} (h : bL bObj l) : ∀ o ∈ l, -9223372036854775808 ≤ o.id ∧ o.id ≤ 9223372036854775807 := fun o ho => (h.2 o ho).1
end

end Go.Proofs.Ytncbpalncgcoaaa

/-
  What a closed law of Matter needs besides its walk.
-/
namespace Go.Proofs.Ytncbpalncgcoaaa
open Go.Fw Go.ChangeShapes Go.WideShapes Go.ChangeAt Go.RowKit Go.Pl.Api Go.Pl.Vst

theorem und35' : Try.prog.underlying 35 = some (.slice 2) := by kernel_rfl
theorem lt35 : decide (35 < Try.prog.types.size) = true := by kernel_rfl
section
variable {H : Type} {enc : TypeId × Value → H} {W : World} {base : Nat} {v : Value} {d : DataW H} {ps : List MemPlace}
theorem dec_35 {w : World} : DecB H enc Try.prog w 35 (RV.sl rInt) (bL bInt) := DecB.sl und35' (by kernel_rfl) (by decide) (of_decide_eq_true (by kernel_rfl)) dec_2
set_option maxRecDepth 100000 in
theorem arg_ints (hv : Value.okWide Try.prog W .any base 35 v) (h : DataW.Trod enc Try.prog W 0 (fun _ => true) true 35 v d ps) (hw : ∀ n ∈ d.weights Try.prog 35, n ≤ reachBytes) :
    ∃ (s : Sl) (l : List Int), v = s.v ∧ rdSl eInt W.heap s l := by
  obtain ⟨a, n, c, rfl⟩ := okWide_slice und35' hv
  obtain ⟨fuel, hf⟩ := h
  obtain ⟨l, ⟨s, e, hr⟩, hb⟩ := dec_35 hf hw
  have : (Value.slice a n c) = s.v := by simpa [Value.cells] using e
  refine ⟨s, l, this, ?_⟩
  obtain ⟨r1, r2, r3, r4, r5⟩ := hr
  refine ⟨r1, r2, r3, r4, r5.imp id fun ⟨a, ha, hs, hr⟩ => ⟨a, ha, hs, fun i hi => ?_⟩⟩
  obtain ⟨_, cs, q2, q3⟩ := hr i hi
  have q3 : cs = [.int .i64 l[i]] := q3
  subst q3
  have := q2 0 _ rfl
  rw [Addr.add_zero'] at this
  exact this
end

end Go.Proofs.Ytncbpalncgcoaaa
