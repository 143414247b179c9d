/-
  lateenlaw22.VstateReach.
-/
import Derived.Test.YtncbpalncgcoaaaFnReachesLaw
namespace Go.Proofs.Ytncbpalncgcoaaa
open Go.Fw Go.Pl.Api Go.Pl.Vst

theorem own_rv {h0 h : Heap} {L : List As} {xs : List Value} {o : MObj} (S : Fw.Sep h0 h (ownEl eO xs o :: L)) : rObj.rv h xs o := by
  obtain ⟨s, rfl, S2⟩ := el_slice S
  exact rv_obj.2 ⟨s, rfl, rd_arg.1 S2.rd⟩
theorem reach_sub {l : List MObj} (hr : Rising l) {A : List MArg} {z : Int} (hz : z ∈ reachF l A) {y : Int} (hy : y ∈ reachF l [aTo z]) : y ∈ reachF l A := by
  rw [mem_reachF] at hz hy ⊢
  obtain ⟨o, ho, rfl⟩ := hz
  obtain ⟨p, hp, rfl⟩ := hy
  refine ⟨p, ?_, rfl⟩
  induction hp with
  | @base q a hq hv ha h5 e =>
    simp at ha
    subst ha
    have : o.id = q.id := e
    rw [← rising_id hr ho.mem.1 hq this]
    exact ho
  | step _ hq hv ha h5 e ih => exact .step ih hq hv ha h5 e

theorem rch_of {l : List MObj} {A : List MArg} {a : MArg} (ha : a ∈ A) (hv : virtF l a = true) : a.n ∈ reachF l A := by
  unfold virtF at hv
  cases hf : findF l a with
  | none => rw [hf] at hv; cases hv
  | some o =>
    rw [hf] at hv
    obtain ⟨h5, ho, e⟩ := findF_some hf
    rw [mem_reachF]
    exact ⟨o, .base ho (by simpa using hv) ha h5 e.symm, e⟩
theorem rch_val {l : List MObj} {A : List MArg} {p : MObj} (hp : Rch l A p) {a : MArg} (ha : a ∈ p.vals) (hv : virtF l a = true) : a.n ∈ reachF l A := by
  unfold virtF at hv
  cases hf : findF l a with
  | none => rw [hf] at hv; cases hv
  | some o =>
    rw [hf] at hv
    obtain ⟨h5, ho, e⟩ := findF_some hf
    rw [mem_reachF]
    exact ⟨o, .step hp ho (by simpa using hv) ha h5 e.symm, e⟩

set_option maxHeartbeats 2000000 in
theorem vstateReach_calls {h : Heap} {s la : Sl} {l : List MObj} {A : List MArg} (hs : rdSl rObj.el h s l) (hA : rdSl rArg.el h la A) (hid : IdsOk l) :
    ACalls Try.prog F_lateenlaw22_VstateReach [s.v, la.v] h (fun v h' => v = .bool true ∧ Old h h') := by
  refine lateenlaw22_VstateReach_of ?_
  unfold lateenlaw22_VstateReach
  intro k hk
  refine awake22_calls.mono ?_
  rintro v h12 ⟨rfl, o12⟩
  refine ⟨_, rfl, ifB_false rfl ?_⟩
  have weak : k true h12 := hk _ _ fun _ => ifB_true rfl (awake22_end o12)
  refine (few_calls (hs.old o12)).mono ?_
  rintro v h13 ⟨rfl, rfl⟩
  refine ⟨_, rfl, ifB_intro (fun _ => weak) fun hc => ?_⟩
  have hf1 : fewF l = true := by simpa using hc
  refine (rising_calls (hs.old o12)).mono ?_
  rintro v h15 ⟨rfl, rfl⟩
  refine ⟨_, rfl, ifB_intro (fun _ => weak) fun hc => ?_⟩
  have hr : Rising l := by simpa using hc
  by_cases hge : (la.len : Int) > 50
  · rw [decide_eq_true hge]; exact weak
  rw [decide_eq_false hge]
  have hAl := hA.lenEq
  have hA50 : A.length ≤ 50 := by omega
  refine hk _ _ fun _ => ifB_false rfl ?_
  clear weak hk k
  have hl40 := (few_iff hf1).1
  refine (there_calls (hs.old o12) (by omega)).mono ?_
  rintro v h3 ⟨x, rfl, S3⟩
  refine ⟨_, rfl, ?_⟩
  have hx : rdSl rObj.el h3 x l := fl_rd S3
  have o3 := o12.trans S3.old
  refine (vReach_calls hx (hA.old o3) hr (by omega) (few_vals hf1) (by omega) hid).mono ?_
  rintro v h4 ⟨m, rfl, S4⟩
  refine ⟨_, rfl, ?_⟩
  have hm := S4.rd
  have hml := hm.lenEq
  have hmlen : (reachF l A).length ≤ l.length := by
    unfold reachF
    rw [List.length_map]
    exact List.length_filter_le _ _
  have o4 := o3.trans S4.old
  have o34 := S4.old
  clear S3 S4
  -- the arguments
  refine loop_intro (fun n (q : Int) h' => ∃ i : Nat, q = i ∧ i ≤ A.length ∧ n = A.length - i ∧ Old h4 h') A.length ⟨0, rfl, by omega, by omega, .refl _⟩ ?_
  rintro _ _ _ h5 ⟨i, rfl, hi, rfl, o5⟩
  refine ifB_intro (fun hc => ?_) (fun hc => ?_)
  · have hiA : i < A.length := by rw [hAl] at hc; simpa using hc
    intro k1 hk1
    have next : ∀ h', Old h4 h' → k1 false h' := fun h' o => hk1 _ _ fun _ => ifB_false rfl (ar_i64 (by omega) (by omega) ⟨A.length - (i + 1), by omega, i + 1, rfl, by omega, rfl, o⟩)
    refine idx_rdN hA rfl hiA fun p _ hp => ld_agg hp (o4.trans o5).ext rfl fun cs hcs => ?_
    refine (virt_calls (a := A[i]) (hx.old (o34.trans o5)) (rv_arg.2 (rv_arg.1 hcs)) hr (by omega)).mono ?_
    rintro v h7 ⟨rfl, o7⟩
    refine ⟨_, rfl, ifB_intro (fun hv => ?_) (fun _ => next h7 (o5.trans o7))⟩
    refine idx_rdN hA rfl hiA fun p1 _ hp1 => ld_int (fld_argN.rd hp1) (o4.trans (o5.trans o7)).ext ?_
    refine (has_calls (hm.old (o5.trans o7)) A[i].n).mono ?_
    rintro v h8 ⟨rfl, rfl⟩
    refine ⟨_, rfl, ?_⟩
    have : decide (A[i].n ∈ reachF l A) = true := decide_eq_true (rch_of (List.getElem_mem hiA) hv)
    rw [this]
    exact next h8 (o5.trans o7)
  clear hc hi
  -- what is reached
  refine loop_intro (fun n (q : Int) h' => ∃ i : Nat, q = i ∧ i ≤ (reachF l A).length ∧ n = (reachF l A).length - i ∧ Old h4 h') (reachF l A).length ⟨0, rfl, by omega, by omega, o5⟩ ?_
  clear o5
  rintro _ _ _ h9 ⟨i, rfl, hi, rfl, o9⟩
  refine ifB_intro (fun hc => ?_) (fun hc => ⟨rfl, o4.trans o9⟩)
  have him : i < (reachF l A).length := by rw [hml] at hc; simpa using hc
  obtain ⟨o, ho, hoid⟩ := mem_reachF.1 (List.getElem_mem him)
  obtain ⟨hol, hovirt⟩ := ho.mem
  have hff : ∀ z, z = o.id → findF l (aTo z) = some o := fun z hz => findF_of hr rfl hol (by rw [hz]; rfl)
  refine idx_rdN (hm.old o9) rfl him fun p2 _ hp2 => ld_one hp2 ?_
  refine to_arg _ fun c5 h10 o10 hc5 => ?_
  have o410 := o9.trans o10
  have hfo := hff _ hoid.symm
  refine (Find_calls (hx.old (o34.trans o410)) hc5 hr (by omega) (fun o ho => Nat.le_trans (few_vals hf1 o ho) (by decide))).mono ?_
  rintro v h11 ⟨ds, rfl, hds6, S11⟩
  refine ⟨_, _, rfl, ?_⟩
  rw [hfo] at S11 ⊢
  have hrv : rObj.rv h11 ds.toList o := own_rv S11
  have o411 := o410.trans S11.old
  refine new_stX hrv (hExt.refl _) rfl rfl fun p3 h13 o13 hb => ?_
  have o413 := o411.trans o13
  clear S11
  intro k2 hk2
  have main : k2 false h13 := hk2 _ _ fun _ => ifB_false rfl <| by
    refine loop_intro (fun n (q : Int) h' => ∃ c : Nat, q = c ∧ c ≤ o.vals.length ∧ n = o.vals.length - c ∧ Old h13 h') o.vals.length ⟨0, rfl, by omega, by omega, .refl _⟩ ?_
    rintro _ _ _ h15 ⟨c, rfl, hcl, rfl, o15⟩
    have hb15 := RV.bx_old hb o15
    refine ld_lstX (fld_oVals.bx hb15) fun x3 hx3 => ?_
    have hx3l : x3.len = o.vals.length := hx3.lenEq
    have o415 := o413.trans o15
    have hxo := o13.trans o15
    refine ifB_intro (fun hc => ?_) (fun hc => ?_)
    · have hcv : c < o.vals.length := by rw [hx3l] at hc; simpa using hc
      intro k4 hk4
      have next : ∀ h', Old h15 h' → k4 false h' := fun h' q => hk4 _ _ fun _ => ifB_false rfl (ar_i64 (by omega) (by have := few_vals hf1 o hol; omega) ⟨o.vals.length - (c + 1), by omega, c + 1, rfl, by omega, rfl, o15.trans q⟩)
      refine ld_lstX (fld_oVals.bx hb15) fun x4 hx4 => ?_
      refine idx_rdN (hx4.old hxo) rfl hcv fun p4 _ hp4 => ld_agg hp4 (hExt.refl _) rfl fun cs hcs => ?_
      refine (virt_calls (a := o.vals[c]) (hx.old (o34.trans o415)) hcs hr (by omega)).mono ?_
      rintro v h17 ⟨rfl, o17⟩
      refine ⟨_, rfl, ifB_intro (fun hv => ?_) (fun _ => next h17 o17)⟩
      refine ld_lstX (fld_oVals.bx (RV.bx_old hb15 o17)) fun x6 hx6 => ?_
      refine idx_rdN (hx6.old (hxo.trans o17)) rfl hcv fun p5 _ hp5 => ld_int (fld_argN.rd hp5) (hExt.refl _) ?_
      refine (has_calls (hm.old (o415.trans o17)) o.vals[c].n).mono ?_
      rintro v h18 ⟨rfl, rfl⟩
      refine ⟨_, rfl, ?_⟩
      have : decide (o.vals[c].n ∈ reachF l A) = true := decide_eq_true (rch_val ho (List.getElem_mem hcv) hv)
      rw [this]
      exact next h18 o17
    · clear hc hcl hb15 hx3 hx3l
      refine idx_rdN (hm.old o415) rfl him fun p6 _ hp6 => ld_one hp6 ?_
      refine to_bld _ fun s1 h20 o20 hs1 => ?_
      have o420 := o415.trans o20
      refine (vReach_calls (hx.old (o34.trans o420)) hs1 hr (by omega) (few_vals hf1) (by simp) hid).mono ?_
      rintro v h21 ⟨r11, rfl, S21⟩
      refine ⟨_, rfl, ?_⟩
      have hr11 := S21.rd
      have hr11l := hr11.lenEq
      refine loop_intro (fun n (q : Int) h' => ∃ c : Nat, q = c ∧ c ≤ (reachF l [aTo (reachF l A)[i]]).length ∧ n = (reachF l [aTo (reachF l A)[i]]).length - c ∧ Old h21 h') (reachF l [aTo (reachF l A)[i]]).length ⟨0, rfl, by omega, by omega, .refl _⟩ ?_
      rintro _ _ _ h22 ⟨c, rfl, hcl, rfl, o22⟩
      have o422 := o420.trans (S21.old.trans o22)
      refine ifB_intro (fun hc => ?_) (fun _ => ar_i64 (by omega) (by omega) ⟨(reachF l A).length - (i + 1), by omega, i + 1, rfl, by omega, rfl, o422⟩)
      have hcr : c < (reachF l [aTo (reachF l A)[i]]).length := by rw [hr11l] at hc; simpa using hc
      refine idx_rdN (hr11.old o22) rfl hcr fun p7 _ hp7 => ld_one hp7 ?_
      refine (has_calls (hm.old o422) _).mono ?_
      rintro v h23 ⟨rfl, rfl⟩
      refine ⟨_, rfl, ?_⟩
      have : decide ((reachF l [aTo (reachF l A)[i]])[c] ∈ reachF l A) = true := decide_eq_true (reach_sub hr (List.getElem_mem him) (List.getElem_mem hcr))
      rw [this]
      have hb2 := hr11.bound
      exact ifB_false rfl (ar_i64 (by omega) (by omega) ⟨(reachF l [aTo (reachF l A)[i]]).length - (c + 1), by omega, c + 1, rfl, by omega, rfl, o22⟩)
  refine ifB_false rfl ?_
  refine ld_intX (fld_argK.bx (fld_oReal.bx hb)) ?_
  refine ifB_intro (fun hc => absurd hovirt (by simpa using hc)) (fun _ => ?_)
  refine ifB_intro (fun hc => ?_) (fun _ => main)
  have hi0 : 0 < i := by simpa using hc
  obtain ⟨j, rfl⟩ : ∃ j, i = j + 1 := ⟨i - 1, by omega⟩
  refine ar_i64 (by omega) (by omega) ?_
  rw [show ((j + 1 : Nat) : Int) - 1 = (j : Int) by omega]
  refine idx_rdN (hm.old o413) rfl (show j < (reachF l A).length by omega) fun p8 _ hp8 => ld_one hp8 ?_
  refine idx_rdN (hm.old o413) rfl him fun p9 _ hp9 => ld_one hp9 ?_
  have hlt : (reachF l A)[j] < (reachF l A)[j + 1] := List.pairwise_iff_getElem.1 (reach_up hr) j (j + 1) (by omega) him (by omega)
  rw [decide_eq_false (by omega)]
  exact main

end Go.Proofs.Ytncbpalncgcoaaa
