/-
  lateenlaw22.VstateSets: the walk.
-/
import Derived.Test.YtncbpalncgcoaaaFnSetsLaw
namespace Go.Proofs.Ytncbpalncgcoaaa
open Go.Fw Go.Pl.Api Go.Pl.Vst

set_option maxHeartbeats 2000000 in
theorem vstateSets_calls {h : Heap} {s : Sl} {l : List MObj} {ca cv cb : Array Value} {a v b : MArg} {at' by' : Int} (hs : rdSl rObj.el h s l) (ha : rArg.rv h ca.toList a) (hv : rArg.rv h cv.toList v) (hb : rArg.rv h cb.toList b) :
    ACalls Try.prog F_lateenlaw22_VstateSets [s.v, .agg ca, .int .i64 at', .agg cv, .agg cb, .int .i64 by'] h (fun u h' => u = .bool true ∧ Old h h') := by
  refine lateenlaw22_VstateSets_of ?_
  unfold lateenlaw22_VstateSets
  refine new_rv ha fun p h1 o1 hp => ?_
  refine new_rv (rArg.ext hv o1.ext) fun p1 h2 o2 hp1 => ?_
  refine new_rv (rArg.ext hb (o1.trans o2).ext) fun p2 h3 o3 hp2 => ?_
  have o03 := o1.trans (o2.trans o3)
  intro k hk
  refine awake22_calls.mono ?_
  rintro u h18 ⟨rfl, o18⟩
  refine ⟨_, rfl, ifB_false rfl ?_⟩
  have oA := o03.trans o18
  have weak : k true h18 := hk _ _ fun _ => ifB_true rfl (awake22_end oA)
  refine (few_calls (hs.old oA)).mono ?_
  rintro u h19 ⟨rfl, rfl⟩
  refine ⟨_, rfl, ifB_intro (fun _ => weak) fun hc => ?_⟩
  have hf1 : fewF l = true := by simpa using hc
  refine (rising_calls (hs.old oA)).mono ?_
  rintro u h20 ⟨rfl, rfl⟩
  refine ⟨_, rfl, ?_⟩
  by_cases hr : Rising l
  case neg => rw [decide_eq_false hr]; exact weak
  rw [decide_eq_true hr]
  refine hk _ _ fun _ => ifB_false rfl ?_
  clear weak hk k hc
  have hl40 := (few_iff hf1).1
  have hvals := (few_iff hf1).2
  refine (there_calls (hs.old oA) (by omega)).mono ?_
  rintro u h6 ⟨x, rfl, S6⟩
  refine ⟨_, rfl, ?_⟩
  have hx : rdSl rObj.el h6 x l := fl_rd S6
  have o6 := oA.trans S6.old
  have o36 : Old h3 h6 := o18.trans S6.old
  refine ld_agg hp (o2.trans (o3.trans o36)).ext rfl fun c1 hc1 => ?_
  refine ld_agg hp1 (o3.trans o36).ext rfl fun c2 hc2 => ?_
  refine (vSet_calls (a := a) (v := v) hx (rv_arg.2 (rv_arg.1 hc1)) (rv_arg.2 (rv_arg.1 hc2)) hr (by omega) (fun o ho => Nat.le_trans (hvals o ho) (by decide))).mono ?_
  rintro u h7 ⟨t, rfl, S7⟩
  refine ⟨_, _, rfl, ?_⟩
  have ht : rdSl rObj.el h7 t ((setF l a at' v).getD l) := rd_obj.1 S7.rd
  have hq := sets_ok hr a v b at'
  have hr2 := setF_rising hr a v at'
  have hl2 := setF_len (l := l) a v at'
  have hv2 := setF_vals hvals a v at'
  generalize (setF l a at' v).isSome = ok at *
  generalize (setF l a at' v).getD l = l2 at *
  have o67 := S7.old
  have o37 := o36.trans o67
  clear S6 S7
  refine ld_agg hp2 o37.ext rfl fun c3 hc3 => ?_
  refine (Find_calls (a := b) (hx.old o67) (rv_arg.2 (rv_arg.1 hc3)) hr (by omega) (fun o ho => Nat.le_trans (hvals o ho) (by decide))).mono ?_
  rintro u h8 ⟨ds, rfl, hds6, S8⟩
  refine ⟨_, _, rfl, ?_⟩
  have hrv := own_rv S8
  have o78 := S8.old
  clear S8
  refine new_stX hrv (hExt.refl _) rfl rfl fun p3 h10 o10 hb3 => ?_
  have o310 := o37.trans (o78.trans o10)
  refine ld_agg hp2 o310.ext rfl fun c4 hc4 => ?_
  refine (Find_calls (a := b) (ht.old (o78.trans o10)) (rv_arg.2 (rv_arg.1 hc4)) hr2 (by omega) (fun o ho => Nat.le_trans (hv2 o ho) (by decide))).mono ?_
  rintro u h11 ⟨es, rfl, hes6, S11⟩
  refine ⟨_, _, rfl, ?_⟩
  have hrv2 := own_rv S11
  have o1011 := S11.old
  clear S11
  refine new_stX hrv2 (hExt.refl _) rfl rfl fun p4 h13 o13 hb4 => ?_
  have hb3 := RV.bx_old hb3 (o1011.trans o13)
  have o813 : Old h8 h13 := o10.trans (o1011.trans o13)
  have o313 := o310.trans (o1011.trans o13)
  have oo : Old h h13 := o03.trans o313
  generalize hX : findF l b = X at *
  generalize hY : findF l2 b = Y at *
  have hXv : (X.getD zObj).vals.length ≤ 20 := by
    cases X with
    | none => simp [zObj]
    | some o => exact hvals o (findF_some hX).2.1
  intro k hk
  have main : k false h13 := hk _ _ fun _ => ifB_false rfl <| by
    refine loop_intro (fun n (q : Int) h' => ∃ c : Nat, q = c ∧ c ≤ (X.getD zObj).vals.length ∧ n = (X.getD zObj).vals.length - c ∧ h' = h13) (X.getD zObj).vals.length ⟨0, rfl, by omega, by omega, rfl⟩ ?_
    rintro _ _ _ h15 ⟨c, rfl, hcl, rfl, rfl⟩
    refine ld_lstX (fld_oVals.bx hb3) fun x4 hx4 => ?_
    have hx4l : x4.len = (X.getD zObj).vals.length := hx4.lenEq
    refine ifB_intro (fun hc => ?_) (fun _ => ⟨rfl, oo⟩)
    have hcv : c < (X.getD zObj).vals.length := by rw [hx4l] at hc; simpa using hc
    have hcv2 : c < (Y.getD zObj).vals.length := by rw [← hq.len]; exact hcv
    have hval := hq.vals c hcv hcv2
    intro k3 hk3
    have next : k3 () h15 := hk3 _ _ fun _ => ar_i64 (by omega) (by omega) ⟨(X.getD zObj).vals.length - (c + 1), by omega, c + 1, rfl, by omega, rfl, rfl⟩
    intro k4 hk4
    have same : ¬ (ok = true ∧ X.isSome = true ∧ b.n = a.n ∧ (c : Int) = at') → k4 false h15 := fun hno => hk4 _ _ fun _ => ifB_false rfl <| by
      rw [if_neg hno] at hval
      refine ld_lstX (fld_oVals.bx hb4) fun x8 hx8 => ?_
      refine idx_rdN (hx8.old o13) rfl hcv2 fun p6 _ hp6 => ld_agg hp6 (hExt.refl _) rfl fun c9 hc9 => ?_
      refine ld_lstX (fld_oVals.bx hb3) fun x10 hx10 => ?_
      refine idx_rdN (hx10.old o813) rfl hcv fun p7 _ hp7 => ld_agg hp7 (hExt.refl _) rfl fun c11 hc11 => ?_
      refine eq_arg hc9 hc11 ?_
      rw [decide_eq_true hval]
      exact ifB_false rfl next
    have that : (ok = true ∧ X.isSome = true ∧ b.n = a.n ∧ (c : Int) = at') → k4 true h15 := fun hyes => hk4 _ _ fun _ => ifB_true rfl <| by
      rw [if_pos hyes] at hval
      refine ld_lstX (fld_oVals.bx hb4) fun x5 hx5 => ?_
      refine idx_rdN (hx5.old o13) rfl hcv2 fun p5 _ hp5 => ld_agg hp5 (hExt.refl _) rfl fun c6 hc6 => ?_
      refine ld_agg hp1 (o3.trans o313).ext rfl fun c7 hc7 => ?_
      refine eq_arg hc6 hc7 ?_
      rw [decide_eq_true hval]
      exact ifB_false rfl next
    refine ifB_intro (fun h1 => ?_) (fun h1 => same fun hh => by rw [hh.1] at h1; cases h1)
    refine ifB_intro (fun h2 => ?_) (fun h2 => same fun hh => by rw [hh.2.1] at h2; cases h2)
    refine ld_int (fld_argN.rd hp2) o313.ext ?_
    refine ld_int (fld_argN.rd hp) (o2.trans (o3.trans o313)).ext ?_
    refine ifB_intro (fun h3 => ?_) (fun h3 => same fun hh => by rw [hh.2.2.1] at h3; simp at h3)
    by_cases h4 : (c : Int) = at'
    · have : ((c : Int) == at') = true := by simpa using h4
      rw [this]
      exact that ⟨h1, h2, by simpa using h3, h4⟩
    · have : ((c : Int) == at') = false := by simpa using h4
      rw [this]
      exact same fun hh => h4 hh.2.2.2
  refine ifB_intro (fun hc => ?_) (fun _ => ?_)
  · rw [hq.some] at hc; simp at hc
  refine ld_lstX (fld_oVals.bx hb3) fun x14 hx14 => ?_
  refine ld_lstX (fld_oVals.bx hb4) fun x15 hx15 => ?_
  have e14 : x14.len = (X.getD zObj).vals.length := hx14.lenEq
  have e15 : x15.len = (Y.getD zObj).vals.length := hx15.lenEq
  refine ifB_intro (fun hc => ?_) (fun _ => ?_)
  · rw [e14, e15, hq.len] at hc; simp at hc
  refine ld_strX (fld_oCls.bx hb3) ?_
  refine ld_strX (fld_oCls.bx hb4) ?_
  rw [toList_beq]
  refine ifB_intro (fun hc => ?_) (fun _ => ?_)
  · rw [hq.cls] at hc; simp at hc
  obtain ⟨_, d1, hd1, hr1⟩ := fld_oReal.bx hb3
  obtain ⟨_, d2, hd2, hr2'⟩ := fld_oReal.bx hb4
  refine ⟨d1.toArray, ⟨by simp [rArg.len hr1]; rfl, fun j v hj => hd1 j v (by simpa using hj)⟩, ?_⟩
  refine ⟨d2.toArray, ⟨by simp [rArg.len hr2']; rfl, fun j v hj => hd2 j v (by simpa using hj)⟩, ?_⟩
  refine eq_arg (by simpa using hr1) (by simpa using hr2') ?_
  rw [decide_eq_true hq.real]
  exact main

end Go.Proofs.Ytncbpalncgcoaaa
