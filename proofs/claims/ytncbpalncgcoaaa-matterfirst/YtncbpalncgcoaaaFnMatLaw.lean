/-
  lateenlaw24: MatterCodes, MatterAll, MatterKeeps.
-/
import Derived.Test.YtncbpalncgcoaaaFnMat9
import Derived.Test.YtncbpalncgcoaaaPlMat
namespace Go.Proofs.Ytncbpalncgcoaaa
open Go.Fw Go.Fw.I Go.Pl.Api Go.Pl.Vst Go.Pl.Mat Go.Pl.Put Go.Pl

def IdsOk (l : List MObj) : Prop := ∀ o ∈ l, -9223372036854775808 ≤ o.id ∧ o.id ≤ 9223372036854775807
theorem right_ris {l : List MObj} (h : rightF l = true) : Rising l := by
  unfold rightF at h
  simp only [Bool.and_eq_true, decide_eq_true_eq] at h
  exact h.1.1
theorem right_ok {l : List MObj} (h : rightF l = true) {o : MObj} (ho : o ∈ l) : o.real.kind ≠ 5 ∧ ∀ a ∈ o.vals, a.kind = 5 → ∃ p, findF l a = some p := by
  unfold rightF at h
  simp only [Bool.and_eq_true, decide_eq_true_eq, List.all_eq_true] at h
  have := h.2 o ho
  unfold objOk at this
  simp only [Bool.and_eq_true, bne_iff_ne, ne_eq, List.all_eq_true, Bool.or_eq_true] at this
  refine ⟨this.1, fun a ha h5 => ?_⟩
  rcases this.2 a ha with h1 | h1
  · exact absurd h5 h1
  · exact Option.isSome_iff_exists.1 h1
theorem names_len (n : Nat) : (namesF n).length = n := by simp [namesF]
theorem ord_len {l : List MObj} {A : List Int} (O : OrdP l A) : (orderF l A).length ≤ l.length := by
  classical
  have h1 := List.Nodup.length_le_of_subset (l₁ := orderF l A) (l₂ := reachF l (A.map toA)) O.once fun z hz => (O.mem z).1 hz
  have h2 : (reachF l (A.map toA)).length ≤ l.length := by
    unfold reachF
    rw [List.length_map]
    exact List.length_filter_le _ _
  omega
theorem ord_obj {l : List MObj} {A : List Int} (O : OrdP l A) {z : Int} (hz : z ∈ orderF l A) : ∃ o ∈ l, o.id = z ∧ o.real.kind = 0 := by
  obtain ⟨o, ho, e⟩ := mem_reachF.1 ((O.mem z).1 hz)
  exact ⟨o, ho.mem.1, e, ho.mem.2⟩
theorem codeOk {l : List MObj} {A : List Int} (K : OkS l) : CodeOk l (orderF l A) (namesF (orderF l A).length) progP clsP := by
  have hr := right_ris K.right
  have O := ord_is hr A
  have hlen := ord_len O
  have hl := K.len
  have hin : ∀ z ∈ orderF l A, objF l z ∈ l := fun z hz => by
    obtain ⟨o, ho, e, _⟩ := ord_obj O hz
    exact (objF_id ⟨o, ho, e⟩ hr).2
  refine ⟨hr, by omega, fun o ho => by rw [K.vals o ho]; omega, O.once, by omega, names_len _, fun z hz => ?_, fun z hz => ?_, fun z hz => ?_⟩
  · rw [K.cls _ (hin z hz)]
    kernel_rfl
  · rw [K.vals _ (hin z hz)]
    decide
  · obtain ⟨o, ho, e, _⟩ := ord_obj O hz
    exact ⟨o, ho, e⟩
theorem awake24_end {h h1 : Heap} (o : Old h h1) : ACalls Try.prog F_lateenlaw24_awake [] h1 fun v h_2 => as1 .bool v fun r => (Value.bool r = .bool true ∧ Old h h_2) := by
  refine awake24_calls.mono ?_
  rintro v h2 ⟨rfl, o2⟩
  exact ⟨true, rfl, rfl, o.trans o2⟩
theorem fl_rd' {h h' : Heap} {s : Sl} {l : List MObj} (S : Fw.Sep h h' [ownSl si_Lvstate_Obj (rObj.fl h) s l]) : rdSl rObj.el h' s l := RV.fl_el S.rd S.old.ext
theorem instr_plain {l : List MObj} {order : List Int} {fs : List MVar} {names : List ByteArray} : ∀ x ∈ codeF l order fs names, x.stands = [] ∧ x.objs = [] := by
  intro x hx
  rcases List.mem_append.1 hx with hx | hx
  · obtain ⟨i, _, rfl⟩ := List.mem_map.1 hx
    exact ⟨rfl, rfl⟩
  · obtain ⟨i, _, rfl⟩ := List.mem_map.1 hx
    exact ⟨rfl, rfl⟩

theorem matterCodes_calls {h : Heap} {s t : Sl} {l : List MObj} {A : List Int} (hs : rdSl rObj.el h s l) (ht : rdSl eInt h t A) (hid : IdsOk l) :
    ACalls Try.prog F_lateenlaw24_MatterCodes [s.v, t.v] h (fun v h' => v = .bool true ∧ Old h h') := by
  refine lateenlaw24_MatterCodes_of ?_
  unfold lateenlaw24_MatterCodes
  intro k hk
  have weak : ∀ h', Old h h' → k true h' := fun h' o => hk _ _ fun _ => ifB_true rfl (awake24_end o)
  refine awake24_calls.mono ?_
  rintro v h1 ⟨rfl, o1⟩
  refine ⟨_, rfl, ifB_false rfl ?_⟩
  refine (right_calls (hs.old o1)).mono ?_
  rintro v h2 ⟨b, rfl, o2, hK⟩
  have o2 := o1.trans o2
  refine ⟨_, rfl, ?_⟩
  cases b with
  | false => exact ifB_true rfl (weak _ o2)
  | true =>
  have K := hK rfl
  refine ifB_false rfl ?_
  have htl := ht.lenEq
  by_cases h20 : (t.len : Int) > 20
  · rw [decide_eq_true h20]; exact weak _ o2
  rw [decide_eq_false h20]
  have hA : A.length ≤ 20 := by omega
  refine hk _ _ fun _ => ifB_false rfl ?_
  clear weak hk k hK
  have hr := right_ris K.right
  have hlen := K.len
  have hvals : ∀ o ∈ l, o.vals.length ≤ 1000 := fun o ho => by rw [K.vals o ho]; omega
  refine (there_calls (hs.old o2) (by omega)).mono ?_
  rintro v h3 ⟨x, rfl, S3⟩
  have o3 := o2.trans S3.old
  refine ⟨_, rfl, ?_⟩
  refine (order_calls (fl_rd' S3) (ht.old o3) hr (by omega) (by omega) hvals hid).mono ?_
  rintro v h4 ⟨r2, rfl, S4⟩
  have o4 := o3.trans S4.old
  refine ⟨_, rfl, ?_⟩
  refine (refOrder_calls (hs.old o4) (ht.old o4) hr (by omega) (by omega) hvals).mono ?_
  rintro v h5 ⟨r3, rfl, o5, hr3⟩
  refine ⟨_, rfl, ?_⟩
  have hr2 := S4.rd.old o5
  have o5 := o4.trans o5
  refine (sameNums_calls hr2 hr3).mono ?_
  rintro v h6 ⟨rfl, e⟩
  have e := e.symm
  subst e
  refine ⟨_, rfl, ifB_false (by simp) ?_⟩
  have C := codeOk (A := A) K
  have hol := C.olen
  refine program_calls.mono ?_
  rintro v h7 ⟨pcs, rfl, _, o7, hpr⟩
  refine ⟨_, rfl, ?_⟩
  have o7' := o5.trans o7
  refine (there_calls (hs.old o7') (by omega)).mono ?_
  rintro v h8 ⟨y, rfl, S8⟩
  refine ⟨_, rfl, ?_⟩
  have hr2 := hr2.old (o7.trans S8.old)
  refine (names_calls hr2 (by omega)).mono ?_
  rintro v h9 ⟨r7, rfl, S9⟩
  refine ⟨_, rfl, ?_⟩
  have o79 := S8.old.trans S9.old
  refine (code_calls C (rProg.ext hpr o79.ext) ((fl_rd' S8).old S9.old) (hr2.old S9.old) S9.rd).mono ?_
  rintro v h10 ⟨r8, r9, hb, rfl, ob1, ob2, hcode, hst⟩
  refine ⟨_, _, rfl, ?_⟩
  have o10 := ob1.trans ob2
  refine program_calls.mono ?_
  rintro v h11 ⟨pcs2, rfl, _, o11, hpr2⟩
  refine ⟨_, rfl, ?_⟩
  have hr2 := hr2.old (S9.old.trans (o10.trans o11))
  refine (names_calls hr2 (by omega)).mono ?_
  rintro v h12 ⟨r11, rfl, S12⟩
  refine ⟨_, rfl, ?_⟩
  have o12 := o7'.trans (o79.trans (o10.trans (o11.trans S12.old)))
  refine (refCode_calls C (rProg.ext hpr2 S12.old.ext) (hs.old o12) (hr2.old S12.old) S12.rd).mono ?_
  rintro v h13 ⟨r12, r13, rfl, o13, hcode2, hst2⟩
  refine ⟨_, _, rfl, ?_⟩
  have o1013 := o11.trans (S12.old.trans o13)
  have hcode := hcode.old o1013
  intro k1 hk1
  refine ifB_false (by rw [hcode.lenEq, hcode2.lenEq]; simp) ?_
  have hst1 : rdSl rObj.el h13 r9 (stateTo l (orderF l A) (namesF (orderF l A).length) (orderF l A).length) := (RV.fl_el hst.rd ob2.ext).old o1013
  have hsl := (state_len (names := namesF (orderF l A).length) C.ris C.obj (orderF l A).length (Nat.le_refl _)).1
  refine (back_callsB hst1 (.refl _) (by omega)).mono ?_
  rintro v h14 ⟨r15, rfl, S14⟩
  refine ⟨_, rfl, ?_⟩
  have hb15 : rdSl rObj.el h14 r15 _ := RV.fl_el S14.rd S14.old.ext
  refine (refSame_calls hb15 (hst2.old S14.old)).mono ?_
  rintro v h15 ⟨rfl, e⟩
  have e := e.symm
  subst e
  refine ⟨_, rfl, ?_⟩
  rw [decide_eq_true rfl]
  refine hk1 _ _ fun _ => ifB_false rfl ?_
  have ofin := o12.trans (o13.trans S14.old)
  have hcode := hcode.old S14.old
  have hcode2 := hcode2.old S14.old
  have hpl := instr_plain (l := l) (order := orderF l A) (fs := clsP.fields) (names := namesF (orderF l A).length)
  generalize codeF l (orderF l A) clsP.fields (namesF (orderF l A).length) = CODE at *
  have hcl := hcode.lenEq
  have hcb := hcode.bound
  refine loop_intro (fun m (q : Int) h' => ∃ i : Nat, q = i ∧ i ≤ CODE.length ∧ m = CODE.length - i ∧ Old h14 h') CODE.length ⟨0, rfl, by omega, by omega, .refl _⟩ ?_
  rintro _ _ _ h16 ⟨i, rfl, hi, rfl, o16⟩
  refine ifB_intro (fun hc => ?_) (fun hc => ⟨rfl, ofin.trans o16⟩)
  have hil : i < CODE.length := by rw [hcl] at hc; simpa using hc
  refine idx_rdN (hcode.old o16) rfl hil fun p1 _ hp1 => ld_agg hp1 (hExt.refl _) rfl fun c1 hc1 => ?_
  refine idx_rdN (hcode2.old o16) rfl hil fun p2 _ hp2 => ld_agg hp2 (hExt.refl _) rfl fun c2 hc2 => ?_
  obtain ⟨e1, e2⟩ := hpl _ (List.getElem_mem hil)
  refine (sameInstr_calls hc1 hc2 e1 e2).mono ?_
  rintro v h17 ⟨rfl, o17⟩
  refine ⟨_, rfl, ifB_false rfl ?_⟩
  exact ar_i64 (by omega) (by omega) ⟨CODE.length - (i + 1), by omega, i + 1, rfl, by omega, rfl, o16.trans o17⟩
end Go.Proofs.Ytncbpalncgcoaaa
