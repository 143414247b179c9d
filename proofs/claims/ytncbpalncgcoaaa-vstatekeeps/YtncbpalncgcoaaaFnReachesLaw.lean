/-
  lateenlaw22.VstateReaches.
-/
import Derived.Test.YtncbpalncgcoaaaFnAwake22
namespace Go.Proofs.Ytncbpalncgcoaaa
open Go.Fw Go.Pl.Api Go.Pl.Vst

def IdsOk (l : List MObj) : Prop := ∀ o ∈ l, -9223372036854775808 ≤ o.id ∧ o.id ≤ 9223372036854775807
theorem few_vals {l : List MObj} (h : fewF l = true) : ∀ o ∈ l, o.vals.length ≤ 1000 := fun o ho => Nat.le_trans ((few_iff h).2 o ho) (by decide)

theorem vstateReaches_calls {h : Heap} {s t la : Sl} {l l2 : List MObj} {A : List MArg} (hs : rdSl rObj.el h s l) (ht : rdSl rObj.el h t l2) (hA : rdSl rArg.el h la A) (hid : IdsOk l) :
    ACalls Try.prog F_lateenlaw22_VstateReaches [s.v, t.v, la.v] h (fun v h' => v = .bool true ∧ Old h h') := by
  refine lateenlaw22_VstateReaches_of ?_
  unfold lateenlaw22_VstateReaches
  intro k hk
  refine awake22_calls.mono ?_
  rintro v h12 ⟨rfl, o12⟩
  refine ⟨_, rfl, ifB_false rfl ?_⟩
  have weak : k true h12 := hk _ _ fun _ => ifB_true rfl (awake22_end o12)
  refine (few_calls (hs.old o12)).mono ?_
  rintro v h13 ⟨rfl, rfl⟩
  refine ⟨_, rfl, ifB_intro (fun _ => weak) fun hc => ?_⟩
  have hf1 : fewF l = true := by simpa using hc
  refine (few_calls (ht.old o12)).mono ?_
  rintro v h14 ⟨rfl, rfl⟩
  refine ⟨_, rfl, ifB_intro (fun _ => weak) fun hc => ?_⟩
  have hf2 : fewF l2 = true := by simpa using hc
  refine (rising_calls (hs.old o12)).mono ?_
  rintro v h15 ⟨rfl, rfl⟩
  refine ⟨_, rfl, ifB_intro (fun _ => weak) fun hc => ?_⟩
  have hr1 : Rising l := by simpa using hc
  refine (rising_calls (ht.old o12)).mono ?_
  rintro v h16 ⟨rfl, rfl⟩
  refine ⟨_, rfl, ifB_intro (fun _ => weak) fun hc => ?_⟩
  by_cases hge : (la.len : Int) > 50
  · rw [decide_eq_true hge]; exact weak
  rw [decide_eq_false hge]
  have hAl : A.length ≤ 50 := by have := hA.lenEq; omega
  refine hk _ _ fun _ => ifB_false rfl ?_
  clear weak hk k
  have hl40 := (few_iff hf1).1
  have hl240 := (few_iff hf2).1
  intro k1 hk1
  refine (there_calls (hs.old o12) (by omega)).mono ?_
  rintro v h4 ⟨r1, rfl, S4⟩
  refine ⟨_, rfl, ?_⟩
  have o4 := o12.trans S4.old
  refine (vReach_calls (fl_rd S4) (hA.old o4) hr1 (by omega) (few_vals hf1) (by omega) hid).mono ?_
  rintro v h5 ⟨r2, rfl, S5⟩
  refine ⟨_, rfl, ?_⟩
  have o5 := o4.trans S5.old
  refine (refReach_calls (hs.old o5) (hA.old o5) (by omega)).mono ?_
  rintro v h6 ⟨r3, rfl, S6⟩
  refine ⟨_, rfl, ?_⟩
  have o6 := o5.trans S6.old
  refine (sameI_calls (S5.rd.old S6.old) S6.rd).mono ?_
  rintro v h7 ⟨rfl, rfl⟩
  refine ⟨_, rfl, ifB_true (by simp) ?_⟩
  refine (there_calls (hs.old o6) (by omega)).mono ?_
  rintro v h8 ⟨r5, rfl, S8⟩
  refine ⟨_, rfl, ?_⟩
  have o8 := o6.trans S8.old
  refine (there_calls (ht.old o8) (by omega)).mono ?_
  rintro v h9 ⟨r6, rfl, S9⟩
  refine ⟨_, rfl, ?_⟩
  have o9 := o8.trans S9.old
  refine (vSame_calls ((fl_rd S8).old S9.old) (fl_rd S9)).mono ?_
  rintro v h10 ⟨rfl, o10⟩
  refine ⟨_, rfl, ?_⟩
  refine (refSame_calls (hs.old (o9.trans o10)) (ht.old (o9.trans o10))).mono ?_
  rintro v h11 ⟨rfl, rfl⟩
  exact ⟨_, rfl, hk1 _ _ fun _ => ⟨by simp, o9.trans o10⟩⟩

end Go.Proofs.Ytncbpalncgcoaaa
