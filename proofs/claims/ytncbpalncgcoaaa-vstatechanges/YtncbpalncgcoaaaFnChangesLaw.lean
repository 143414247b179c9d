/-
  lateenlaw22.VstateChanges: the walk.
-/
import Derived.Test.YtncbpalncgcoaaaFnSetsLaw
import Derived.Test.YtncbpalncgcoaaaFnBack
namespace Go.Proofs.Ytncbpalncgcoaaa
open Go.Fw Go.Pl.Api Go.Pl.Vst

/-- What each operation of the region lays. -/
def spC (hb : Heap) (l l2 lo : List MObj) : Specs := fun n args => if n = 1 then Spec.sl si_Lvstate_Obj (rObj.fl hb) l else if n = 3 then Spec.val (args.headD (.bool true)) else if n = 4 then Spec.sl si_Lvstate_Obj eO lo
  else if n = 5 then Spec.sl si_Llateenref22_Obj eO lo else if n = 8 then Spec.sl si_Llateenref22_Obj (rObj.fl hb) lo else if n = 17 then Spec.sl si_Llateenref22_Obj (rObj.fl hb) l2 else Spec.val (.bool true)

set_option maxHeartbeats 2000000 in
theorem vstateChanges_calls {h : Heap} {s : Sl} {l : List MObj} {co ca cv : Array Value} {o : MObj} {a v : MArg} {at' : Int} (hs : rdSl rObj.el h s l) (ho : rObj.rv h co.toList o) (ha : rArg.rv h ca.toList a) (hv : rArg.rv h cv.toList v) :
    ACalls Try.prog F_lateenlaw22_VstateChanges [s.v, .agg co, .agg ca, .int .i64 at', .agg cv] h (fun u h' => u = .bool true ∧ Old h h') := by
  refine lateenlaw22_VstateChanges_of ?_
  unfold lateenlaw22_VstateChanges
  refine new_rv ho fun p h1 o1 hp => ?_
  refine new_rv (rArg.ext ha o1.ext) fun p1 h2 o2 hp1 => ?_
  refine new_rv (rArg.ext hv (o1.trans o2).ext) fun p2 h3 o3 hp2 => ?_
  have o03 := o1.trans (o2.trans o3)
  intro k hk
  refine awake22_calls.mono ?_
  rintro u h18 ⟨rfl, o18⟩
  refine ⟨_, rfl, ifB_false rfl ?_⟩
  have oA := o03.trans o18
  have weak : k true h18 := hk _ _ fun _ => ifB_true rfl (awake22_end oA)
  refine (few_calls (hs.old oA)).mono ?_
  rintro u h19 ⟨rfl, rfl⟩
  refine ⟨_, rfl, ifB_intro (fun _ => weak) fun hc => ?_⟩
  have hf1 : fewF l = true := by simpa using hc
  refine (rising_calls (hs.old oA)).mono ?_
  rintro u h20 ⟨rfl, rfl⟩
  refine ⟨_, rfl, ?_⟩
  by_cases hr : Rising l
  case neg => rw [decide_eq_false hr]; exact weak
  rw [decide_eq_true hr]
  refine ifB_false rfl ?_
  refine ld_lst (fld_oVals.rd hp) (o2.trans (o3.trans o18)).ext fun x6 hx6 => ?_
  by_cases hov : o.vals.length ≤ 50
  case neg =>
    rw [hx6.lenEq, decide_eq_true (by omega)]
    exact weak
  rw [hx6.lenEq, decide_eq_false (by omega)]
  refine hk _ _ fun _ => ifB_false rfl ?_
  clear weak hk k hc hx6 x6
  have hl40 := (few_iff hf1).1
  have hvals := (few_iff hf1).2
  have hv6 : ∀ x ∈ l, x.vals.length ≤ 1000000 := fun x hx => Nat.le_trans (hvals x hx) (by decide)
  refine (there_calls (hs.old oA) (by omega)).mono ?_
  rintro u h6 ⟨x, rfl, S6⟩
  refine ⟨_, rfl, ?_⟩
  have hx : rdSl rObj.el h6 x l := fl_rd S6
  have o36 : Old h3 h6 := o18.trans S6.old
  refine ⟨S6.old.ext, ?_⟩
  refine ld_agg hp1 (o3.trans o18).ext rfl fun c1 hc1 => ?_
  refine ld_agg hp2 o18.ext rfl fun c2 hc2 => ?_
  refine (vSet_calls (a := a) (v := v) hx (rv_arg.2 (rv_arg.1 hc1)) (rv_arg.2 (rv_arg.1 hc2)) hr (by omega) hv6).mono ?_
  rintro u h7 ⟨t, rfl, S7⟩
  refine ⟨_, _, rfl, ?_⟩
  refine ⟨S7.old.ext, ?_⟩
  have ht : rdSl rObj.el h7 t ((setF l a at' v).getD l) := rd_obj.1 S7.rd
  have o37 := o36.trans S7.old
  refine ld_agg hp1 (o3.trans o37).ext rfl fun c3 hc3 => ?_
  refine ld_agg hp2 o37.ext rfl fun c4 hc4 => ?_
  refine (refSet_calls (a := a) (v := v) (hs.old (o03.trans o37)) (rv_arg.2 (rv_arg.1 hc3)) (rv_arg.2 (rv_arg.1 hc4)) hr (by omega) hv6).mono ?_
  rintro u h8 ⟨w, rfl, o78, hw⟩
  refine ⟨_, _, rfl, ?_⟩
  have ht := ht.old o78
  have hl2 := setF_len (l := l) a v at'
  generalize (setF l a at' v).isSome = ok at *
  generalize (setF l a at' v).getD l = l2 at *
  have o38 := o37.trans o78
  clear S6 S7 hc1 hc2 hc3 hc4
  intro k hk
  have fin : ∀ h9, Old h8 h9 → k true h9 := fun h9 o9 => hk _ _ fun _ => ⟨rfl, (o03.trans o38).trans o9⟩
  refine ⟨Old h8, h8, [], spC h8 l l2 (addF l o), .refl _, Sep.start _, ?_⟩
  have hs8 := hs.old (o03.trans o38)
  have hlo := addF_len (l := l) (o := o)
  refine fcN (fun h X o' S => there_callsB hs8 o' (by omega)) fun t1 => ⟨t1, rfl, ?_⟩
  refine ldF_old (ld_agg hp (o2.trans (o3.trans o38)).ext rfl fun x4 hx4 => ?_)
  have hx4 := rObj.ext hx4 (o2.trans (o3.trans o38)).ext
  refine fcV (k := .agg 6) (x := x4) (fun _ => rfl) (fun h X o' S => one_calls (rObj.ext hx4 o'.ext)) ⟨x4, rfl, ?_⟩
  refine fcN (fun h X o' S => ?_) fun t2 => ⟨t2, rfl, ?_⟩
  · have S' : Fw.Sep h8 h (ownSl si_Lvstate_Obj (rObj.fl h8) t1 l :: X) := Sep.ofV S
    exact vAdd_calls (fl_rd S') (rObj.ext hx4 o'.ext) hr (by omega) hv6 (by omega)
  refine fcS (fun h X o' S => ?_) fun t3 => ⟨t3, rfl, ?_⟩
  · exact back_own (Sep.ofV S) (by omega)
  refine ldF_old (ld_agg hp (o2.trans (o3.trans o38)).ext rfl fun x5 hx5 => ?_)
  have hx5 := rObj.ext hx5 (o2.trans (o3.trans o38)).ext
  refine fcN (fun h X o' S => refAdd_callsB hs8 o' hx5 hr (by omega)) fun t4 => ⟨t4, rfl, ?_⟩
  refine fcV (k := .bool) (x := true) (fun _ => rfl) (fun h X o' S => ?_) ⟨_, rfl, ?_⟩
  · have S1 : Fw.Sep h8 h (ownSl si_Llateenref22_Obj eO t3 (addF l o) :: ownV si_Llateenref22_Obj (rObj.fl h8) (addF l o) t4.v :: X) := Sep.ofV S
    have S2 : Fw.Sep h8 h (ownSl si_Llateenref22_Obj (rObj.fl h8) t4 (addF l o) :: X) := Sep.ofV S1.drop
    refine (refSame_calls (rd_obj.1 S1.rd) (fl_rd S2)).mono ?_
    rintro u h9 ⟨rfl, rfl⟩
    exact ⟨by rw [decide_eq_true rfl]; rfl, .refl _⟩
  refine ifB_true rfl (ifB_true (by simp) ?_)
  refine fcN (fun h X o' S => back_callsB ht o' (by omega)) fun t5 => ⟨t5, rfl, ?_⟩
  refine fcV (k := .bool) (x := true) (fun _ => rfl) (fun h X o' S => ?_) ⟨_, rfl, ?_⟩
  · have S1 : Fw.Sep h8 h (ownSl si_Llateenref22_Obj (rObj.fl h8) t5 l2 :: X) := Sep.ofV S
    refine (refSame_calls (fl_rd S1) (hw.old o')).mono ?_
    rintro u h9 ⟨rfl, rfl⟩
    exact ⟨by rw [decide_eq_true rfl]; rfl, .refl _⟩
  exact fun h9 o9 _ => fin h9 o9

end Go.Proofs.Ytncbpalncgcoaaa
