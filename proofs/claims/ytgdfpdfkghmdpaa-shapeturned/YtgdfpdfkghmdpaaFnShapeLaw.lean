/-
  The laws of layer 8: the walks.
-/
import Derived.Test.YtgdfpdfkghmdpaaFnAwake2
namespace Go.Proofs.Ytgdfpdfkghmdpaa
open Go.Fw Go.Pl Go.Pl.Api

theorem awake_end {hb h : Heap} (o : Old hb h) : ACalls Try.prog F_lateenlaw08_awake [] h (fun v h' => as1 .bool v fun r => (Value.bool r) = Value.bool true ∧ Old hb h') := by
  refine awake_calls.mono ?_
  rintro v h3 ⟨rfl, o3⟩
  exact ⟨_, rfl, rfl, o.trans o3⟩

theorem shapeRights_calls {h : Heap} {cs : Array Value} {f : MFunc} (hf : rFunc.rv h cs.toList f) (name : ByteArray) :
    ACalls Try.prog F_lateenlaw08_ShapeRights [.agg cs, .string name] h (fun v h' => v = .bool true ∧ Old h h') := by
  refine lateenlaw08_ShapeRights_of ?_
  unfold lateenlaw08_ShapeRights
  refine new_rv hf fun p h1 o1 hp => ?_
  intro k hk
  refine awake_calls.mono ?_
  rintro v h2 ⟨rfl, o2⟩
  refine ⟨_, rfl, ifB_false rfl ?_⟩
  refine ld_agg hp o2.ext rfl fun cs2 hcs2 => ?_
  refine (refFew_calls (rFunc.ext hcs2 o2.ext)).mono ?_
  rintro v h3 ⟨b, rfl, o3, hfew⟩
  refine ⟨_, rfl, ?_⟩
  have o13 := o2.trans o3
  cases b with
  | false => exact hk _ _ fun _ => ifB_true rfl (awake_end (o1.trans o13))
  | true =>
    have few := hfew rfl
    have hn : f.blocks.length ≤ 1000 := by have := few.blocks; omega
    refine hk _ _ fun _ => ifB_false rfl ?_
    refine ld_agg hp o13.ext rfl fun cs3 hcs3 => ?_
    refine (place_calls (rFunc.ext hcs3 o13.ext) name).mono ?_
    rintro v h4 ⟨rfl, o4⟩
    have o14 := o13.trans o4
    have rest : ∀ (a : Int) (b : Bool), as2 (.int .i64) .bool (placeV f name) (fun r1 r2 => r1 = a ∧ r2 = b) → True := fun _ _ _ => trivial
    have go : ∀ (a : Int) (b : Bool), placeV f name = .tuple #[.int .i64 a, .bool b] → as2 (.int .i64) .bool (placeV f name) fun r_1 r_2 =>
        ld (.agg 5) h4 p fun (x_1 : Array Value) =>
        ACalls Try.prog F_lateenref08_Place [.agg x_1, .string name] h4 fun v_2 h_5 => as2 (.int .i64) .bool v_2 fun r_3 r_4 =>
        joinW (fun _ (t_1 : Bool) h_6 => (Value.bool t_1) = Value.bool true ∧ Old h h_6) fun k_1 =>
        ld (.agg 5) h_5 p fun (x_2 : Array Value) =>
        ACalls Try.prog F_shape_Right [.agg x_2] h_5 fun v_3 h_7 => as1 .bool v_3 fun r_5 =>
        hExt h_5 h_7 ∧ ld (.agg 5) h_5 p fun (x_3 : Array Value) =>
        ACalls Try.prog F_lateenref08_Right [.agg x_3] h_7 fun v_4 h_8 => as1 .bool v_4 fun r_6 =>
        hExt h_7 h_8 ∧ ifB (r_5 == r_6) (ifB (r_1 == r_3) (k_1 (r_2 == r_4) h_8) (k_1 false h_8)) (k_1 false h_8) := by
      intro a b hab
      refine ⟨a, b, hab, ?_⟩
      refine ld_agg hp o14.ext rfl fun cs4 hcs4 => ?_
      refine (refPlace_calls (rFunc.ext hcs4 o14.ext) name).mono ?_
      rintro v h5 ⟨rfl, o5⟩
      refine ⟨a, b, hab, ?_⟩
      have o15 := o14.trans o5
      intro k1 hk1
      refine ld_agg hp o15.ext rfl fun cs5 hcs5 => ?_
      refine (right_calls (rFunc.ext hcs5 o15.ext) hn).mono ?_
      rintro v h7 ⟨rfl, o7⟩
      refine ⟨_, rfl, o7.ext, ?_⟩
      have o17 := o15.trans o7
      refine ld_agg hp o15.ext rfl fun cs6 hcs6 => ?_
      refine (refRight_calls (rFunc.ext hcs6 o17.ext) hn).mono ?_
      rintro v h8 ⟨rfl, o8⟩
      refine ⟨_, rfl, o8.ext, ifB_true (by simp) (ifB_true (by simp) ?_)⟩
      exact hk1 _ _ fun _ => ⟨by simp, o1.trans (o17.trans o8)⟩
    cases hpl : place f name with
    | some n => exact go (n : Int) true (by unfold placeV; rw [hpl])
    | none => exact go 0 false (by unfold placeV; rw [hpl])

end Go.Proofs.Ytgdfpdfkghmdpaa
