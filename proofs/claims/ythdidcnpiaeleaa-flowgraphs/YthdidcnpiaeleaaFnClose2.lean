/-
  Closing a law of one function of the program's data.
-/
import Derived.Test.YthdidcnpiaeleaaFnClose
import Derived.Test.YthdidcnpiaeleaaGenDec
namespace Go.Proofs.Ythdidcnpiaeleaa
open Go.Fw Go.ChangeShapes Go.WideShapes Go.Pl.Api

theorem lt39 : decide (39 < Try.prog.types.size) = true := by kernel_rfl
set_option maxRecDepth 100000 in
/-- A law of one function of the program's data. -/
theorem law_func {os : Os} {f : FuncId} {fn : Func} {s : ChangeSpec} {H : Type} {enc : TypeId × Value → H} (started : os.Started) (noInit : Try.prog.inits.idxOf? f = none) (hfn : Try.prog.funcs[f]? = some fn)
    (hvars : s.vars = []) (hres : fn.resultTypes = #[4]) (hpar : fn.params = #[39]) (hspec : ∀ d : DataW H, s.fn H [d] = { results := [.lit (.bool true)], args := [d] })
    (witness : ∃ (w : World) (tape : Tape) (i : Input), w.os = os ∧ (w.forCall tape i).Shaped Try.prog ∧ i.vars = [] ∧ Input.okWide Try.prog (w.forCall tape i) .any w.heap.size f i ∧
      s.pre6 enc Try.prog fn [] false (w.forCall tape i).memory i.args ∧ ({} : Assume).holds Try.prog (lone (Frame.enter Try.prog f i.args .normal) [] (w.forCall tape i)))
    (contract : ∀ {h : Heap} {cs : Array Value} {x : MFunc}, rFunc.rv h cs.toList x → ACalls Try.prog f [.agg cs] h (fun v h' => v = .bool true ∧ Old h h')) :
    ReturnsInHanded {} Try.checked os f .any (s.pre6 enc Try.prog fn [] false) (s.post enc Try.prog fn false true false false) := by
  refine law_lifted (C := Try.checked) (tb := 4) Try.own started noInit hfn Try.laidOut hvars hres und4 ?_ ?_ witness ?_
  · rw [hpar]; intro t ht
    obtain rfl : t = 39 := by simpa using ht
    exact ⟨by kernel_rfl, of_decide_eq_true lt39⟩
  · rw [hpar]
    intro ds hd
    obtain ⟨d, rfl⟩ : ∃ d, ds = [d] := List.length_eq_one_iff.1 hd
    exact hspec d
  · intro W args ds ps base hval hA
    rw [hpar] at hA hval
    obtain ⟨v, d, ha, rfl, h0⟩ := trodAll_one hA
    have hv : Value.okWide Try.prog W .any base 39 v := hval 0 39 v rfl (by rw [ha]; rfl)
    unfold Value.okWide at hv
    rw [Try.underlying39] at hv
    obtain ⟨cs, rfl, _⟩ := hv
    obtain ⟨fuel, hf⟩ := h0
    obtain ⟨x, hx⟩ := dec_39 hf
    rw [ha]
    exact contract hx

end Go.Proofs.Ythdidcnpiaeleaa
