/-
  What a closed law of the door's seat needs besides its walk.
-/
import Derived.Test.YtojdbliehgejbaaDoorRows
import Derived.Test.YtojdbliehgejbaaDoorFwLaid
import Derived.Test.YtojdbliehgejbaaDoorGenDec
import Derived.Test.YtojdbliehgejbaaDoorGen
import Derived.Test.YtojdbliehgejbaaDoorFnLin
namespace Go.Proofs.YtojdbliehgejbaaDoor
open Go.Fw Go.ChangeShapes Go.WideShapes Go.ChangeAt Go.RowKit Go.Pl.Api Go.Pl.Lines

theorem Tryd.own : ownKnob Tryd.prog.godebug = none := by kernel_rfl
theorem Tryd.laidOut : laidOutB Tryd.prog = true := by kernel_rfl
theorem und4' : Tryd.prog.underlying 4 = some .bool := by kernel_rfl
theorem lt25 : decide (25 < Tryd.prog.types.size) = true := by kernel_rfl
section
variable {H : Type} {enc : TypeId × Value → H} {W : World} {base : Nat} {v : Value} {d : DataW H} {ps : List MemPlace}
set_option maxRecDepth 100000 in
theorem arg_func (hv : Value.okWide Tryd.prog W .any base 25 v) (h : DataW.Trod enc Tryd.prog W 0 (fun _ => true) true 25 v d ps) (hw : ∀ n ∈ d.weights Tryd.prog 25, n ≤ reachBytes) :
    ∃ (cs : Array Value) (o : MFunc), v = .agg cs ∧ rFunc.rv W.heap cs.toList o ∧ bFunc o := by
  unfold Value.okWide at hv
  rw [Tryd.underlying25] at hv
  obtain ⟨cs, rfl, _⟩ := hv
  obtain ⟨fuel, hf⟩ := h
  obtain ⟨x, hx, hb⟩ := dec_25 hf hw
  exact ⟨cs, x, rfl, hx, hb⟩
end
def laidL : List (String × DataW Unit) := [("lateen/lateenref05.words", Rows.laid_lateen_lateenref05_words)]
theorem gWords : Tryd.prog.globalNamed "lateen/lateenref05.words" = some 0 := by kernel_rfl
theorem tWords : (Tryd.prog.globals[0]?).map (·.type) = some 132 := by kernel_rfl
theorem und132' : Tryd.prog.underlying 132 = some (.array 35 9) := by kernel_rfl
theorem und9'' : Tryd.prog.underlying 9 = some .string := by kernel_rfl
theorem words_eq {H : Type} : (Rows.laid_lateen_lateenref05_words : DataW H) = .agg (opWords.map fun w => .lit (.string w.data.toList)) := by rfl
theorem opWords_len : opWords.length = 35 := rfl
/-- The table of words reads as it is listed. -/
theorem words_of {W : World} (h : laidMetH Tryd.prog laidL W) : WordsIn W.heap := by
  rw [MakeChecks.laidMetH_plain _ _ _ (by kernel_rfl)] at h
  obtain ⟨ps, ⟨g0, t0, cs0, f0, p0, q0, hg0, ht0, hv0, hd0, _, _⟩, _, _⟩ := h
  obtain rfl := Option.some.inj (gWords.symm.trans hg0)
  obtain rfl := Option.some.inj (tWords.symm.trans ht0)
  obtain ⟨xs, m1, rfl, hx1, hlen, hn, hel⟩ := DataW.trod_array und132' hd0
  have hc9 : Tryd.prog.cellsOf 9 = 1 := by kernel_rfl
  rw [words_eq] at hx1
  have hparts : opWords.map (fun w => (DataW.lit (.string w.data.toList) : DataW Unit)) = xs.map (·.1) := by
    have := (Prod.mk.inj hx1).1
    exact DataW.agg.inj this
  intro i hi
  have hi' := hel i hi
  have hil : i < xs.length := by omega
  rw [List.getElem?_eq_getElem hil, hc9, Nat.mul_one] at hi'
  obtain ⟨s, e1, e2, _⟩ := DataW.trod_string und9'' hi'
  have hiw : i < opWords.length := by rw [opWords_len]; exact hi
  have h1 : (xs.map (·.1))[i]? = some xs[i].1 := by rw [List.getElem?_map, List.getElem?_eq_getElem hil]; rfl
  rw [← hparts, List.getElem?_map, List.getElem?_eq_getElem hiw, e2] at h1
  simp only [Option.map_some, Option.some.injEq, DataW.lit.injEq, Lit.string.injEq] at h1
  have hs : s = opWords[i] := by
    generalize opWords[i] = w at h1 ⊢
    obtain ⟨⟨a⟩⟩ := s
    obtain ⟨⟨b⟩⟩ := w
    simp at h1
    rw [h1]
  have hg : opWords.getD i eB = opWords[i] := by rw [List.getD_eq_getElem?_getD, List.getElem?_eq_getElem hiw]; rfl
  rw [hg, ← hs]
  have hcell := World.var?_cell hg0 hv0 i
  rw [cell_eq] at hcell
  rw [hcell]
  have : (cs0.toList.drop i)[0]? = some (Value.string s) := by
    have h2 := congrArg (fun l => l[0]?) e1
    simpa [List.getElem?_take] using h2
  rw [List.getElem?_drop, Nat.add_zero, Array.getElem?_toList] at this
  exact this
theorem door_met (os : Os) (args : Array Value) : laidMetH Tryd.prog laidL ((World.doorLaid Tryd.prog 14 os).forCall (fun _ _ => 0) ⟨#[], args, []⟩).memory :=
  laidMetH_of_parts3 (fuel := 8) (laidMet_of_run' 8 (by kernel_rfl) (by kernel_rfl)) (by kernel_rfl) (by kernel_rfl)
abbrev zFunc : Value := .agg #[.string ⟨#[]⟩, .string ⟨#[]⟩, .slice none 0 0, .slice none 0 0, .slice none 0 0]
end Go.Proofs.YtojdbliehgejbaaDoor
