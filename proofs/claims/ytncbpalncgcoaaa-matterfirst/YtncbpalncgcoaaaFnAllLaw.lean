/-
  lateenlaw24: MatterAll.
-/
import Derived.Test.YtncbpalncgcoaaaFnMatLaw
import Derived.Test.YtncbpalncgcoaaaPlMat
namespace Go.Proofs.Ytncbpalncgcoaaa
open Go.Fw Go.Fw.I Go.Pl.Api Go.Pl.Vst Go.Pl.Mat Go.Pl.Put Go.Pl

/-- The order, the code, the state: what all laws ask for. -/
theorem prelude {h : Heap} {s t : Sl} {l : List MObj} {A : List Int} (K : OkS l) (hs : rdSl rObj.el h s l) (ht : rdSl eInt h t A) (hid : IdsOk l) (hA : A.length ≤ 20) {Q : Sl → Sl → Sl → Heap → Prop}
    (hQ : ∀ (r2 r6 r7 : Sl) (hb h' : Heap), Old h hb → Old hb h' → Fw.Sep h h' [ownSl si_Lvstate_Obj (rObj.fl hb) r7 (stateTo l (orderF l A) (namesF (orderF l A).length) (orderF l A).length), ownSl si_Lint64 eInt r2 (orderF l A)] →
      rdSl rInstr.el h' r6 (codeF l (orderF l A) clsP.fields (namesF (orderF l A).length)) → Q r2 r6 r7 h') :
    ACalls Try.prog F_lateenlaw22_There [s.v] h fun v_1 h_3 => as1 .sl v_1 fun r_1 =>
      ACalls Try.prog F_matter_Order [r_1.v, t.v] h_3 fun v_2 h_4 => as1 .sl v_2 fun r_2 =>
      ACalls Try.prog F_lateenlaw24_program [] h_4 fun v_3 h_5 => as1 (.agg 5) v_3 fun r_3 =>
      ACalls Try.prog F_lateenlaw22_There [s.v] h_5 fun v_4 h_6 => as1 .sl v_4 fun r_4 =>
      ACalls Try.prog F_lateenlaw24_names [r_2.v] h_6 fun v_5 h_7 => as1 .sl v_5 fun r_5 =>
      ACalls Try.prog F_matter_Code [.agg r_3, r_4.v, r_2.v, r_5.v] h_7 fun v_6 h_8 => as2 .sl .sl v_6 fun r_6 r_7 => Q r_2 r_6 r_7 h_8 := by
  have hr := right_ris K.right
  have hlen := K.len
  have hvals : ∀ o ∈ l, o.vals.length ≤ 1000 := fun o ho => by rw [K.vals o ho]; omega
  have C := codeOk (A := A) K
  have hol := C.olen
  refine (there_calls hs (by omega)).mono ?_
  rintro v h3 ⟨x, rfl, S3⟩
  refine ⟨_, rfl, ?_⟩
  refine (order_calls (fl_rd' S3) (ht.old S3.old) hr (by omega) (by omega) hvals hid).mono ?_
  rintro v h4 ⟨r2, rfl, S4⟩
  refine ⟨_, rfl, ?_⟩
  have S : Fw.Sep h h4 [ownSl si_Lint64 eInt r2 (orderF l A)] := (S3.frame S4).swap.drop
  have hr2 := S4.rd
  refine program_calls.mono ?_
  rintro v h7 ⟨pcs, rfl, _, o7, hpr⟩
  refine ⟨_, rfl, ?_⟩
  have S7 := S.grow o7
  refine (there_calls (hs.old S7.old) (by omega)).mono ?_
  rintro v h8 ⟨y, rfl, S8⟩
  refine ⟨_, rfl, ?_⟩
  have hr2 := hr2.old (o7.trans S8.old)
  refine (names_calls hr2 (by omega)).mono ?_
  rintro v h9 ⟨r7, rfl, S9⟩
  refine ⟨_, rfl, ?_⟩
  have o79 := S8.old.trans S9.old
  have S9' := S7.grow o79
  refine (code_calls C (rProg.ext hpr o79.ext) ((fl_rd' S8).old S9.old) (hr2.old S9.old) S9.rd).mono ?_
  rintro v h10 ⟨r8, r9, hb, rfl, ob1, ob2, hcode, hst⟩
  refine ⟨_, _, rfl, ?_⟩
  exact hQ r2 r8 r9 hb h10 (S9'.old.trans ob1) ob2 (S9'.frame hst) hcode

theorem contains_step {L : List Int} {j : Nat} (hj : j < L.length) {z : Int} : (L.take (j + 1)).contains z = ((L.take j).contains z || (L[j] == z)) := by
  rw [List.take_succ_eq_append_getElem hj, List.contains_eq_mem, List.contains_eq_mem, Bool.eq_iff_iff, Bool.or_eq_true, decide_eq_true_eq, decide_eq_true_eq, beq_iff_eq, List.mem_append, List.mem_singleton]
  exact or_congr Iff.rfl eq_comm
theorem matterAll_calls {h : Heap} {s t : Sl} {l : List MObj} {A : List Int} (hs : rdSl rObj.el h s l) (ht : rdSl eInt h t A) (hid : IdsOk l) :
    ACalls Try.prog F_lateenlaw24_MatterAll [s.v, t.v] h (fun v h' => v = .bool true ∧ Old h h') := by
  refine lateenlaw24_MatterAll_of ?_
  unfold lateenlaw24_MatterAll
  intro k hk
  have weak : ∀ h', Old h h' → k true h' := fun h' o => hk _ _ fun _ => ifB_true rfl (awake24_end o)
  refine awake24_calls.mono ?_
  rintro v h1 ⟨rfl, o1⟩
  refine ⟨_, rfl, ifB_false rfl ?_⟩
  refine (right_calls (hs.old o1)).mono ?_
  rintro v h2 ⟨b, rfl, o2, hK⟩
  have o2 := o1.trans o2
  refine ⟨_, rfl, ?_⟩
  cases b with
  | false => exact ifB_true rfl (weak _ o2)
  | true =>
  have K := hK rfl
  refine ifB_false rfl ?_
  have htl := ht.lenEq
  by_cases h20 : (t.len : Int) > 20
  · rw [decide_eq_true h20]; exact weak _ o2
  rw [decide_eq_false h20]
  have hA : A.length ≤ 20 := by omega
  refine hk _ _ fun _ => ifB_false rfl ?_
  clear weak hk k hK
  have hr := right_ris K.right
  have hlen := K.len
  have C := codeOk (A := A) K
  have O := ord_is hr A
  have hol := C.olen
  have hsl := (state_len (names := namesF (orderF l A).length) C.ris C.obj (orderF l A).length (Nat.le_refl _)).1
  refine prelude K (hs.old o2) (ht.old o2) hid hA ?_
  intro r2 r6 r7 hb h3 ob1 ob2 S3 _
  have o3 := o2.trans S3.old
  have hst := RV.fl_el S3.rd ob2.ext
  have hr2 := S3.drop.rd
  refine (back_callsB hst (.refl _) (by omega)).mono ?_
  rintro v h4 ⟨r8, rfl, S4⟩
  refine ⟨_, rfl, ?_⟩
  have hb4 : rdSl rObj.el h4 r8 _ := RV.fl_el S4.rd S4.old.ext
  have hr2 := hr2.old S4.old
  have o4 := o3.trans S4.old
  have hr2l := hr2.lenEq
  have hsl' := hs.lenEq
  clear S3 S4 hst
  have hn := namesF (orderF l A).length
  have hall := fun (i : Nat) (hi : i < l.length) => state_all (names := namesF (orderF l A).length) C.ris C.once C.obj (List.getElem_mem hi)
  have hnone := fun (z : Int) (hz : z ∈ A) => state_none (names := namesF (orderF l A).length) hr O hz
  generalize stateTo l (orderF l A) (namesF (orderF l A).length) (orderF l A).length = ST at *
  generalize orderF l A = ORD at *
  refine loop_intro (fun m (q : Int) h' => ∃ i : Nat, q = i ∧ i ≤ l.length ∧ m = l.length - i ∧ Old h4 h') l.length ⟨0, rfl, by omega, by omega, .refl _⟩ ?_
  rintro _ _ _ h5 ⟨i, rfl, hi, rfl, o5⟩
  refine ifB_intro (fun hc => ?_) (fun hc => ?_)
  · have hil : i < l.length := by rw [hsl'] at hc; simpa using hc
    have hs5 := hs.old (o4.trans o5)
    have hr25 := hr2.old o5
    refine loop_intro (fun m (q : Bool × Int) h' => ∃ j : Nat, q.2 = j ∧ j ≤ ORD.length ∧ m = ORD.length - j ∧ h' = h5 ∧ q.1 = (ORD.take j).contains l[i].id) ORD.length ⟨0, rfl, by omega, by omega, rfl, rfl⟩ ?_
    rintro _ _ ⟨made, _⟩ h6 ⟨j, rfl, hj, rfl, rfl, rfl⟩
    simp only
    refine ifB_intro (fun hc2 => ?_) (fun hc2 => ?_)
    · have hjl : j < ORD.length := by rw [hr2l] at hc2; simpa using hc2
      intro k2 hk2
      have next : ∀ b : Bool, b = (ORD.take (j + 1)).contains l[i].id → k2 b h6 := fun b hb => hk2 _ _ fun _ => ar_i64 (by omega) (by omega) ⟨ORD.length - (j + 1), by omega, j + 1, rfl, by omega, rfl, rfl, hb⟩
      have e : (ORD.take (j + 1)).contains l[i].id = ((ORD.take j).contains l[i].id || (ORD[j] == l[i].id)) := contains_step hjl
      refine ifB_intro (fun hm => next _ (by rw [e, hm]; rfl)) (fun hm => ?_)
      refine idx_rdN hr25 rfl hjl fun p _ hp => ld_one hp ?_
      refine idx_rdN hs5 rfl hil fun p1 _ hp1 => ld_int (fld_oId.rd hp1) (hExt.refl _) ?_
      exact next _ (by rw [e, hm]; rfl)
    · have hjl : ORD.length ≤ j := by rw [hr2l] at hc2; simpa using hc2
      rw [List.take_of_length_le hjl]
      refine idx_rdN hs5 rfl hil fun p2 _ hp2 => ld_int (fld_oId.rd hp2) (hExt.refl _) ?_
      refine (lto_calls _).mono ?_
      rintro v h7 ⟨rfl, o7⟩
      refine ⟨_, rfl, ?_⟩
      have o67 := o5.trans o7
      refine (refFind_calls (a := toA l[i].id) (hb4.old o67) (rv_arg.2 rfl)).mono ?_
      rintro v h8 ⟨ds, rfl, o8, hds⟩
      refine ⟨_, _, rfl, ?_⟩
      obtain ⟨x, hf, hx1, hx2, hx3⟩ := hall i hil
      have hf : findF ST (toA l[i].id) = some x := hf
      rw [hf] at hds ⊢
      refine new_stX hds o8.ext rfl rfl fun p3 h10 o10 hbx => ?_
      have o810 := o7.trans (o8.trans o10)
      have hs10 := hs5.old o810
      intro k3 hk3
      have good : k3 false h10 := hk3 _ _ fun _ => ifB_false rfl (ar_i64 (by omega) (by omega) ⟨l.length - (i + 1), by omega, i + 1, rfl, by omega, rfl, o5.trans o810⟩)
      have same : ld .sl h10 (p3.add 2) fun (x_8 : Sl) => idx 6 s (i : Int) fun p_6 => ld .sl h10 (p_6.add 2) fun (x_9 : Sl) =>
          ACalls Try.prog F_lateenref22_SameArgs [x_8.v, x_9.v] h10 fun v_11 h_19 => as1 .bool v_11 fun r_13 => hExt h10 h_19 ∧ k3 (!r_13) h_19 := by
        refine ld_lstX (fld_oVals.bx hbx) fun y hy => ?_
        refine idx_rdN hs10 rfl hil fun p4 _ hp4 => ld_lst (fld_oVals.rd hp4) (hExt.refl _) fun z hz => ?_
        have hy10 : rdSl rArg.el h10 y x.vals := hy.old (o8.trans o10)
        refine (sameArgs_calls hy10 hz).mono ?_
        rintro v h19 ⟨rfl, rfl⟩
        refine ⟨_, rfl, hExt.refl _, ?_⟩
        rw [decide_eq_true hx1]
        exact good
      refine ifB_false rfl ?_
      by_cases hm : l[i].id ∈ ORD
      · have e1 : ORD.contains l[i].id = true := by simpa [List.contains_eq_mem] using hm
        rw [e1]
        refine ifB_true rfl (ld_intX (fld_argKind.bx (fld_oReal.bx hbx)) (ifB_false ?_ (ifB_false rfl same)))
        have := hx2 hm
        simpa using this
      · have e1 : ORD.contains l[i].id = false := by simpa [List.contains_eq_mem] using hm
        rw [e1]
        refine ifB_false rfl (ifB_true rfl (ld_aggX (fld_oReal.bx hbx) rfl fun c1 hc1 => ?_))
        refine idx_rdN hs10 rfl hil fun p5 _ hp5 => ld_agg (fld_oReal.rd hp5) (hExt.refl _) rfl fun c2 hc2 => ?_
        refine eq_arg hc1 hc2 ?_
        have e2 : x.real = l[i].real := hx3 hm
        have : decide (((some x).getD zObj).real = l[i].real) = true := decide_eq_true e2
        rw [this]
        exact ifB_false rfl same
  · refine loop_intro (fun m (q : Int) h' => ∃ j : Nat, q = j ∧ j ≤ A.length ∧ m = A.length - j ∧ Old h4 h') A.length ⟨0, rfl, by omega, by omega, o5⟩ ?_
    clear o5 hc
    rintro _ _ _ h6 ⟨j, rfl, hj, rfl, o6⟩
    refine ifB_intro (fun hc => ?_) (fun hc => ⟨rfl, o4.trans o6⟩)
    have hjl : j < A.length := by rw [htl] at hc; simpa using hc
    refine idx_rdN (ht.old (o4.trans o6)) rfl hjl fun p _ hp => ld_one hp ?_
    refine (lto_calls _).mono ?_
    rintro v h7 ⟨rfl, o7⟩
    refine ⟨_, rfl, ?_⟩
    refine (refVirt_calls (a := toA A[j]) (hb4.old (o6.trans o7)) (rv_arg.2 rfl)).mono ?_
    rintro v h8 ⟨rfl, o8⟩
    refine ⟨_, rfl, ifB_false (hnone _ (List.getElem_mem hjl)) ?_⟩
    exact ar_i64 (by omega) (by omega) ⟨A.length - (j + 1), by omega, j + 1, rfl, by omega, rfl, o6.trans (o7.trans o8)⟩
end Go.Proofs.Ytncbpalncgcoaaa
