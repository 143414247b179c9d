/-
  What a closed law of this seat needs besides its walk.
-/
import Derived.Test.YtniflhbfnkadhaaRows
import Derived.Test.YtniflhbfnkadhaaGen
import Derived.Test.YtniflhbfnkadhaaFwLaw
namespace Go.Proofs.Ytniflhbfnkadhaa
open Go.Fw Go.ChangeShapes Go.WideShapes

theorem Try.own : ownKnob Try.prog.godebug = none := by kernel_rfl
theorem Try.laidOut : laidOutB Try.prog = true := by kernel_rfl
theorem und22 : Try.prog.underlying 22 = some (.slice 32) := by kernel_rfl
theorem und32 : Try.prog.underlying 32 = some (.slice 3) := by kernel_rfl
theorem und3 : Try.prog.underlying 3 = some (.int .i64) := by kernel_rfl
theorem und4 : Try.prog.underlying 4 = some .bool := by kernel_rfl
theorem und5 : Try.prog.underlying 5 = some (.int .u8) := by kernel_rfl
theorem cells32 : Try.prog.cellsOf 32 = 1 := by kernel_rfl
theorem cells3 : Try.prog.cellsOf 3 = 1 := by kernel_rfl

theorem lt5 : decide (5 < Try.prog.types.size) = true := by kernel_rfl
theorem lt22 : decide (22 < Try.prog.types.size) = true := by kernel_rfl

/-- A slice of slices of numbers, as an argument. -/
theorem arg_rows {H : Type} {enc : TypeId × Value → H} {W : World} {base : Nat} {v : Value} {d : DataW H} {ps : List MemPlace} (hv : Value.okWide Try.prog W .any base 22 v) (h : DataW.Trod enc Try.prog W 0 (fun _ => true) true 22 v d ps) :
    ∃ (s : Sl) (G : List (List Int)), v = s.v ∧ rdSl (Elem.sl si_Lint eInt) W.heap s G :=
  rd_rows und22 und32 und3 cells32 cells3 (okWide_slice und22 hv) h

/-- A uint8, as an argument. -/
theorem arg_u8 {H : Type} {enc : TypeId × Value → H} {W : World} {base : Nat} {v : Value} {d : DataW H} {ps : List MemPlace} (hv : Value.okWide Try.prog W .any base 5 v) (h : DataW.Trod enc Try.prog W 0 (fun _ => true) true 5 v d ps) :
    ∃ a : Int, v = .int .u8 a ∧ 0 ≤ a ∧ a < 256 := by
  obtain ⟨n, rfl, _, _, hw⟩ := open_int und5 hv h
  refine ⟨n, rfl, ?_⟩
  simp [Lit.wf, IntKind.min, IntKind.max, IntKind.bits, IntKind.signed] at hw
  omega

set_option maxRecDepth 100000 in
/-- A law of one slice of slices of numbers. -/
theorem law_rows {os : Os} {f : FuncId} {fn : Func} {s : ChangeSpec} {H : Type} {enc : TypeId × Value → H} (started : os.Started) (noInit : Try.prog.inits.idxOf? f = none) (hfn : Try.prog.funcs[f]? = some fn)
    (hvars : s.vars = []) (hres : fn.resultTypes = #[4]) (hpar : fn.params = #[22]) (hspec : ∀ d : DataW H, s.fn H [d] = { results := [.lit (.bool true)], args := [d] })
    (witness : ∃ (w : World) (tape : Tape) (i : Input), w.os = os ∧ (w.forCall tape i).Shaped Try.prog ∧ i.vars = [] ∧ Input.okWide Try.prog (w.forCall tape i) .any w.heap.size f i ∧
      s.pre6 enc Try.prog fn [] false (w.forCall tape i).memory i.args ∧ ({} : Assume).holds Try.prog (lone (Frame.enter Try.prog f i.args .normal) [] (w.forCall tape i)))
    (contract : ∀ {h : Heap} {g : Sl} {G : List (List Int)}, rdSl (Elem.sl si_Lint eInt) h g G → ACalls Try.prog f [g.v] h (fun v h' => v = .bool true ∧ Old h h')) :
    ReturnsInHanded {} Try.checked os f .any (s.pre6 enc Try.prog fn [] false) (s.post enc Try.prog fn false true false false) := by
  refine law_lifted (C := Try.checked) (tb := 4) Try.own started noInit hfn Try.laidOut hvars hres und4 ?_ ?_ witness ?_
  · rw [hpar]; intro t ht
    obtain rfl : t = 22 := by simpa using ht
    exact ⟨by kernel_rfl, of_decide_eq_true lt22⟩
  · rw [hpar]
    intro ds hd
    obtain ⟨d, rfl⟩ : ∃ d, ds = [d] := List.length_eq_one_iff.1 hd
    exact hspec d
  · intro W args ds ps base hval hA
    rw [hpar] at hA hval
    obtain ⟨v, d, ha, rfl, h0⟩ := trodAll_one hA
    obtain ⟨s, G, rfl, hg⟩ := arg_rows (hval 0 22 v rfl (by rw [ha]; rfl)) h0
    rw [ha]
    exact contract hg

end Go.Proofs.Ytniflhbfnkadhaa
