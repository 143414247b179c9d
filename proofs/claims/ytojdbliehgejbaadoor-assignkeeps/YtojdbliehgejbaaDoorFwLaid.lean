/-
  A law lifted to its statement, where package-level variables read as known data.
-/
import Derived.Test.YtojdbliehgejbaaDoorFwDecB
import Derived.Test.YtojdbliehgejbaaDoorFwLaw
import Derived.LaidMore
import Derived.OpenShut
import Derived.Stop.Joined
namespace Go.Fw
open Go.ChangeShapes Go.WideShapes Go.ChangeAt Go.RowKit
theorem law_lifted_laid {C : Checked} {os : Os} {f : FuncId} {fn : Func} {s : ChangeSpec} {tb : TypeId} {H : Type} {enc : TypeId × Value → H} {laid : List (String × DataW Unit)}
    (own : ownKnob C.prog.godebug = none) (started : os.Started) (noInit : C.prog.inits.idxOf? f = none) (hfn : C.prog.funcs[f]? = some fn) (hl : laidOutB C.prog = true)
    (hvars : s.vars = []) (hres : fn.resultTypes = #[tb]) (htb : C.prog.underlying tb = some .bool) (hpar : ∀ t ∈ fn.params.toList, C.prog.readableRec t = true ∧ t < C.prog.types.size)
    (hspec : ∀ ds : List (DataW H), ds.length = fn.params.toList.length → s.fn H ds = { results := [.lit (.bool true)], args := ds })
    (witness : ∃ (w : World) (tape : Tape) (i : Input), w.os = os ∧ (w.forCall tape i).Shaped C.prog ∧ i.vars = [] ∧ Input.okWide C.prog (w.forCall tape i) .any w.heap.size f i ∧
      ((s.pre enc C.prog fn [] false (w.forCall tape i).memory i.args ∧ laidMetH C.prog laid (w.forCall tape i).memory) ∧ sizedMet enc C.prog fn (OpenSpec.ofChange s) false (w.forCall tape i).memory i.args) ∧ ({} : Assume).holds C.prog (lone (Frame.enter C.prog f i.args .normal) [] (w.forCall tape i)))
    (contract : ∀ (W : World) (args : Array Value) (ds : List (DataW H)) (ps : List MemPlace) (base : Nat), (∀ (j : Nat) t v, fn.params[j]? = some t → args[j]? = some v → Value.okWide C.prog W .any base t v) →
      DataW.TrodAll enc C.prog W 0 (fun _ => true) true fn.params.toList args.toList ds ps → (∀ n ∈ DataW.weightsEach C.prog fn.params.toList ds, n ≤ reachBytes) → laidMetH C.prog laid W →
      ACalls C.prog f args.toList W.heap (fun v h' => v = .bool true ∧ Old W.heap h')) :
    ReturnsInHanded {} C os f .any (fun w args => (s.pre enc C.prog fn [] false w args ∧ laidMetH C.prog laid w) ∧ sizedMet enc C.prog fn (OpenSpec.ofChange s) false w args) (s.post enc C.prog fn false true false false) := by
  refine returnsInHanded_of_change_and (X := fun w _ => laidMetH C.prog laid w) (fun _ _ _ hh h => h.of_heap hh) own started noInit hfn witness ?_
  intro W base args ds gs before hval hW _ hwt hL _
  have hlt := hW.lt
  have hW' := hW
  obtain ⟨p, q, hA, hV, rfl, _, _⟩ := hW
  rw [hvars] at hV
  obtain ⟨rfl, rfl⟩ := trodVars_none hV
  have hwt' : ∀ n ∈ DataW.weightsEach C.prog fn.params.toList ds, n ≤ reachBytes := fun n hn => by
    have hv : s.plain.varTypes C.prog = [] := by
      simp [ChangeSpec.plain, DataSpec.varTypes, hvars]
    rw [hv, List.append_nil, List.append_nil] at hwt
    simpa using List.all_eq_true.1 hwt n hn
  refine Calls.mono (contract W args ds p base hval hA hwt' hL W rfl) ?_
  rintro e W' ⟨v, rfl, hs, rfl, ho⟩
  have hsince : W.Since W.heap.size W' := ⟨hs.os, hs.tape, hs.output, ho.size, ho.block⟩
  have hsp := hspec ds (trodAll_length hA)
  have hdg : ds ++ ([] : List (DataW H)) = ds := List.append_nil ds
  refine ⟨_, rfl, ds, [], p ++ [], [], p, [], hW', ?_, ?_, ?_, hsince.frame _, fun h => by cases h⟩
  · rw [hdg, hsp, hres]
    exact trodAll_mk1 (Go.RowKit.shut_bool htb true)
  · rw [hdg, hsp]
    exact args_stay hl hsince hpar (fun x hx => hlt x (by simp [hx])) hA
  · rw [hdg, hsp, hvars]
    rfl


end Go.Fw
