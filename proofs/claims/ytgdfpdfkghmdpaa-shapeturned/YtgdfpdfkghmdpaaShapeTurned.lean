/- ShapeTurned: for every api.Func and every []int, lateenlaw08.ShapeTurned returns true, and the arguments read afterwards as they read before. No condition. -/
import Derived.Test.YtgdfpdfkghmdpaaFnClose
import Derived.Test.YtgdfpdfkghmdpaaFnShapeTurned
namespace Go.Proofs.Ytgdfpdfkghmdpaa
open Go.Fw Go.ChangeShapes Go.WideShapes Go.ChangeAt Go.RowKit

theorem und41 : Try.prog.underlying 41 = some (.slice 3) := by kernel_rfl
theorem lt41 : decide (41 < Try.prog.types.size) = true := by kernel_rfl
theorem el_int {h : Heap} {s : Sl} {l : List Int} (r : rdSl rInt.el h s l) : rdSl eInt h s l := by
  obtain ⟨h1, h2, h3, h4, h5⟩ := r
  refine ⟨h1, h2, h3, h4, h5.imp id fun ⟨a, ha, hs, hr⟩ => ⟨a, ha, hs, fun i hi => ?_⟩⟩
  obtain ⟨_, cs, q2, q3⟩ := hr i hi
  have q3' : cs = [.int .i64 l[i]] := q3
  subst q3'
  have := q2 0 _ rfl
  rwa [Addr.add_zero'] at this
theorem dec_41 {H : Type} {enc : TypeId × Value → H} {w : World} : Dec H enc Try.prog w 41 (RV.sl rInt) := Dec.sl und41 (by kernel_rfl) (by decide) dec_3
theorem arg_ints {H : Type} {enc : TypeId × Value → H} {W : World} {base : Nat} {v : Value} {d : DataW H} {ps : List MemPlace} (hv : Value.okWide Try.prog W .any base 41 v) (h : DataW.Trod enc Try.prog W 0 (fun _ => true) true 41 v d ps) :
    ∃ (s : Sl) (l : List Int), v = s.v ∧ rdSl eInt W.heap s l := by
  obtain ⟨a, n, c, rfl⟩ := okWide_slice und41 hv
  obtain ⟨fuel, hf⟩ := h
  obtain ⟨l, s, e, hr⟩ := dec_41 hf
  have : (Value.slice a n c) = s.v := by simpa [Value.cells] using e
  exact ⟨s, l, this, el_int hr⟩

set_option maxRecDepth 100000 in
theorem shapeTurned_lifted (os : Os) (started : os.Started) (H : Type) (enc : TypeId × Value → H) :
    ReturnsInHanded {} Try.checked os 6 .any (Rows.shapeTurnedSpec.pre6 enc Try.prog Try.f6 Rows.shapeTurnedRow.domain false) (Rows.shapeTurnedSpec.post enc Try.prog Try.f6 false true false false) := by
  refine law_lifted (C := Try.checked) (s := Rows.shapeTurnedSpec) (tb := 4) Try.own started (by kernel_rfl) Try.func6 Try.laidOut rfl rfl und4' ?_ ?_
    (ChangeSpec.witness6 (enc := enc) (C := Try.checked) false ⟨#[], #[.agg #[.string ⟨#[]⟩, .string ⟨#[]⟩, .slice none 0 0, .slice none 0 0, .slice none 0 0], .slice none 0 0], []⟩ 8 (by kernel_rfl) (by kernel_rfl) (by kernel_rfl) (by kernel_rfl)) ?_
  · intro t ht
    rw [Try.params6] at ht
    have ht' : t = 25 ∨ t = 41 := by simpa using ht
    rcases ht' with rfl | rfl
    · exact ⟨by kernel_rfl, of_decide_eq_true lt25⟩
    · exact ⟨by kernel_rfl, of_decide_eq_true lt41⟩
  · rw [Try.params6]
    intro ds hd
    match ds, hd with
    | [d, e], _ => rfl
  · intro W args ds ps base hval hA
    rw [Try.params6] at hA hval
    obtain ⟨v, v1, d, d1, p, p1, ha, rfl, rfl, h0, h1⟩ := trodAll_two hA
    obtain ⟨cs, x, rfl, hx⟩ := arg_func (hval 0 25 v rfl (by rw [ha]; rfl)) h0
    obtain ⟨o, O, rfl, ho⟩ := arg_ints (hval 1 41 v1 rfl (by rw [ha]; rfl)) h1
    rw [ha]
    exact shapeTurned_calls hx ho

theorem shapeTurned_holds : Rows.ShapeTurnedSaid :=
  OpenClaim.holds_of_wide 6 Try.f6 rfl rfl rfl rfl rfl rfl rfl ⟨rfl, rfl, rfl, rfl, rfl⟩ rfl rfl rfl rfl rfl (by kernel_rfl) Try.func6 (by kernel_rfl)
    (of_decide_eq_true (by kernel_rfl)) (by unfold Func.isWrapper; first | (rw [if_pos (by decide +kernel)]; kernel_rfl) | (rw [if_neg (by decide +kernel)]; exact ⟨rfl, rfl⟩))
    (fun os started H enc _ => shapeTurned_lifted os started H enc)

end Go.Proofs.Ytgdfpdfkghmdpaa
