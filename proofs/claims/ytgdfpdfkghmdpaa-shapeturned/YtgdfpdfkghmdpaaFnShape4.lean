/-
  shape.Right whole; the law's other functions.
-/
import Derived.Test.YtgdfpdfkghmdpaaFnShape3
namespace Go.Proofs.Ytgdfpdfkghmdpaa
open Go.Fw Go.Pl Go.Pl.Api

theorem right_calls {h : Heap} {cs : Array Value} {f : MFunc} (hf : rFunc.rv h cs.toList f) (hn : f.blocks.length ≤ 1000) :
    ACalls Try.prog F_shape_Right [.agg cs] h (fun v h' => v = .bool (rightB f) ∧ Old h h') := by
  refine shape_Right_of ?_
  unfold shape_Right
  refine new_rv hf fun p h1 o1 hp => ?_
  have hb := fld_blocks.rd hp
  have no : ∀ h', Old h1 h' → ¬ RightP f → (Value.bool false) = .bool (rightB f) ∧ Old h h' := fun h' o hr => by
    refine ⟨?_, o1.trans o⟩
    cases e : rightB f with
    | false => rfl
    | true => exact absurd (rightB_iff.1 e) hr
  refine ld_lst hb (hExt.refl _) fun x hx => ?_
  have hxl := hx.lenEq
  refine ifB_intro (fun hc => no _ (.refl _) fun r => ?_) (fun hc => ?_)
  · have := r.pos
    have : (x.len : Int) = 0 := by simpa using hc
    omega
  have hpos : 0 < f.blocks.length := by
    have : (x.len : Int) ≠ 0 := by simpa using hc
    omega
  refine ld_agg hp (hExt.refl _) rfl fun cs1 hcs1 => ?_
  refine (places_calls hcs1 hn).mono ?_
  rintro v h2 ⟨m, b, rfl, o2, hbn, hm⟩
  refine ⟨m, b, rfl, ?_⟩
  intro k hk
  cases b with
  | false => exact ifB_true rfl (hk _ _ fun _ => ifB_true rfl (no _ o2 fun r => by have := hbn.2 r.names; cases this))
  | true =>
    obtain ⟨l, hml, hget⟩ := hm rfl
    refine ifB_false rfl ?_
    refine ld_agg hp o2.ext rfl fun cs4 hcs4 => ?_
    refine (ends_calls (rFunc.ext hcs4 o2.ext) hn hml hget).mono ?_
    rintro v h6 ⟨b2, rfl, o6, hbe⟩
    refine ⟨_, rfl, ?_⟩
    have o16 := o2.trans o6
    cases b2 with
    | false => exact hk _ _ fun _ => ifB_true rfl (no _ o16 fun r => by have := hbe.2 r.ends; cases this)
    | true =>
      refine hk _ _ fun _ => ifB_false rfl ?_
      refine ld_agg hp o16.ext rfl fun cs2 hcs2 => ?_
      refine (shCome_calls (rFunc.ext hcs2 o16.ext) hn hpos (hml.old o6) hget).mono ?_
      rintro v h4 ⟨s, rfl, S⟩
      refine ⟨_, rfl, ?_⟩
      have hsl := S.rd.lenEq
      have hsb := S.rd.bound
      have o14 := o16.trans S.old
      refine loop_intro (fun m t h' => ∃ j : Nat, t = j ∧ j ≤ (comeOf (graphF f)).length ∧ m = (comeOf (graphF f)).length - j ∧ h' = h4 ∧ ∀ z (hz : z < j) (hl : z < (comeOf (graphF f)).length), (comeOf (graphF f))[z] = true) (comeOf (graphF f)).length
        ⟨0, rfl, by omega, by omega, rfl, fun z hz => by omega⟩ ?_
      rintro q _ t h9 ⟨j, rfl, hj, rfl, rfl, hall⟩
      refine ifB_intro (fun hc => ?_) (fun hc => ⟨?_, o1.trans o14⟩)
      · have hjl : j < (comeOf (graphF f)).length := by rw [hsl] at hc; simpa using hc
        refine idx_rdN S.rd rfl hjl fun p6 _ hp6 => ld_one hp6 ?_
        refine ifB_intro (fun hno => no _ o14 fun r => ?_) (fun hyes2 => ar_i64 (by omega) (by omega) ⟨(comeOf (graphF f)).length - (j + 1), by omega, j + 1, rfl, by omega, rfl, rfl, fun z hz hl => ?_⟩)
        · have := r.come _ (List.getElem_mem hjl)
          rw [this] at hno
          cases hno
        · by_cases e : z = j
          · subst e; simpa using hyes2
          · exact hall z (by omega) hl
      · have hjl : (comeOf (graphF f)).length ≤ j := by rw [hsl] at hc; simpa using hc
        have r : RightP f := ⟨hpos, hbn.1 rfl, hbe.1 rfl, fun b hb => by
          obtain ⟨z, hz, rfl⟩ := List.getElem_of_mem hb
          exact hall z (by omega) hz⟩
        rw [rightB_iff.2 r]

end Go.Proofs.Ytgdfpdfkghmdpaa
