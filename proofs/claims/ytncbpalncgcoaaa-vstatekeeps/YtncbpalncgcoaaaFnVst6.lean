/-
  Same, one, There, Back, to; the program's Same.
-/
import Derived.Test.YtncbpalncgcoaaaFnVst5
namespace Go.Proofs.Ytncbpalncgcoaaa
open Go.Fw Go.Pl.Api Go.Pl.Vst

theorem obj_ext {a b : MObj} (h1 : a.id = b.id) (h2 : a.cls = b.cls) (h3 : a.vals = b.vals) (h4 : a.real = b.real) : a = b := by
  obtain ⟨_, _, _, _⟩ := a
  obtain ⟨_, _, _, _⟩ := b
  simp_all

theorem refSame_calls {h : Heap} {s t : Sl} {A B : List MObj} (ha : rdSl rObj.el h s A) (hb : rdSl rObj.el h t B) :
    ACalls Try.prog F_lateenref22_Same [s.v, t.v] h (fun v h' => v = .bool (decide (A = B)) ∧ h' = h) := by
  refine lateenref22_Same_of ?_
  unfold lateenref22_Same
  have hla := ha.lenEq
  have hlb := hb.lenEq
  refine ifB_intro (fun hc => ?_) (fun hc => ?_)
  · refine ⟨congrArg Value.bool (decide_eq_false fun e => ?_).symm, rfl⟩
    subst e
    rw [hla, hlb] at hc
    simp at hc
  have hAB : A.length = B.length := by rw [hla, hlb] at hc; simp at hc; omega
  refine loop_intro (fun m (q : Int) h' => ∃ i : Nat, q = i ∧ i ≤ A.length ∧ m = A.length - i ∧ h' = h ∧ A.take i = B.take i) A.length
    ⟨0, rfl, by omega, by omega, rfl, rfl⟩ ?_
  rintro _ _ _ h3 ⟨i, rfl, hi, rfl, rfl, hsame⟩
  refine ifB_intro (fun hc => ?_) (fun hc => ?_)
  · have hil : i < A.length := by rw [hla] at hc; simpa using hc
    have hib : i < B.length := by omega
    have e3 := hExt.refl h3
    intro k hk
    have bad : A[i] ≠ B[i] → k true h3 := fun he => hk _ _ fun _ => ifB_true rfl ⟨congrArg Value.bool (decide_eq_false fun e => he (by subst e; rfl)).symm, rfl⟩
    have good : A[i] = B[i] → k false h3 := fun he => hk _ _ fun _ => ifB_false rfl <|
      ar_i64 (by omega) (by have := ha.bound; omega) ⟨A.length - (i + 1), by omega, i + 1, rfl, by omega, rfl, rfl, by
        rw [List.take_succ_eq_append_getElem hil, List.take_succ_eq_append_getElem hib, hsame, he]⟩
    refine idx_rdN ha rfl hil fun p _ hp => ld_int (fld_oId.rd hp) e3 ?_
    refine idx_rdN hb rfl hib fun p1 _ hp1 => ld_int (fld_oId.rd hp1) e3 ?_
    refine ifB_intro (fun he => bad fun e => ?_) (fun he => ?_)
    · rw [e] at he; simp at he
    have e1 : A[i].id = B[i].id := by simpa using he
    refine idx_rdN ha rfl hil fun p2 _ hp2 => ld_str (fld_oCls.rd hp2) e3 ?_
    refine idx_rdN hb rfl hib fun p3 _ hp3 => ld_str (fld_oCls.rd hp3) e3 ?_
    rw [toList_beq]
    refine ifB_intro (fun he => bad fun e => ?_) (fun he => ?_)
    · rw [e] at he; simp at he
    have e2 : A[i].cls = B[i].cls := by simpa using he
    refine idx_rdN ha rfl hil fun p4 _ hp4 => ld_agg (fld_oReal.rd hp4) e3 rfl fun cs hcs => ?_
    refine idx_rdN hb rfl hib fun p5 _ hp5 => ld_agg (fld_oReal.rd hp5) e3 rfl fun ds hds => ?_
    refine eq_arg hcs hds ?_
    refine ifB_intro (fun he => bad fun e => ?_) (fun he => ?_)
    · rw [e] at he; simp at he
    have e4 : A[i].real = B[i].real := by simpa using he
    refine idx_rdN ha rfl hil fun p6 _ hp6 => ld_lst (fld_oVals.rd hp6) e3 fun x hx => ?_
    refine idx_rdN hb rfl hib fun p7 _ hp7 => ld_lst (fld_oVals.rd hp7) e3 fun y hy => ?_
    refine (sameArgs_calls hx hy).mono ?_
    rintro v h4 ⟨rfl, rfl⟩
    refine ⟨_, rfl, hExt.refl _, ?_⟩
    by_cases e : A[i].vals = B[i].vals
    · rw [decide_eq_true e]
      exact good (obj_ext e1 e2 e e4)
    · rw [decide_eq_false e]
      exact bad fun h => e (by rw [h])
  · have hil : A.length ≤ i := by rw [hla] at hc; simpa using hc
    rw [List.take_of_length_le hil, List.take_of_length_le (by omega)] at hsame
    exact ⟨congrArg Value.bool (decide_eq_true hsame).symm, rfl⟩

theorem one_calls {h : Heap} {cs : Array Value} {o : MObj} (ho : rObj.rv h cs.toList o) :
    ACalls Try.prog F_lateenlaw22_one [.agg cs] h (fun v h' => v = .agg cs ∧ Old h h') := by
  refine lateenlaw22_one_of ?_
  unfold lateenlaw22_one
  obtain ⟨s, rfl, hs⟩ := arr_obj ho
  refine new_rawB (Sep.start h) fun p h1 o1 S1 => ?_
  refine new_rawB S1 fun p1 h2 o2 S2 => ?_
  refine ld_rawB (i := 0) (k := .int .i64) (x := o.id) S2.swap rfl rfl ?_
  refine ld_rawB (i := 1) (k := .str) (x := o.cls) S2.swap rfl rfl ?_
  refine ld_rawB (i := 2) (k := .sl) (x := s) S2.swap rfl rfl ?_
  refine ld_rawSub (i := 3) (ds := #[.int .i64 o.real.kind, .string o.real.s, .int .i64 o.real.n]) S2.swap rfl rfl ?_
  refine bst_obj ?_
  refine st_allB S2 rfl rfl (fun v hv => RV.one _ ho v hv) fun h3 S3 => ?_
  exact ld_rawAgg S3 rfl ⟨rfl, S3.old⟩

theorem there_callsB {hb h : Heap} {s : Sl} {l : List MObj} (hs : rdSl rObj.el hb s l) (ob : Old hb h) (hn : l.length ≤ 1000000) :
    ACalls Try.prog F_lateenlaw22_There [s.v] h (fun v h' => ∃ s' : Sl, v = s'.v ∧ Sep h h' [ownSl si_Lvstate_Obj (rObj.fl hb) s' l]) := by
  refine lateenlaw22_There_of ?_
  unfold lateenlaw22_There
  have hl := hs.lenEq
  refine loop_intro (fun m (q : Sl × Int) h' => ∃ i : Nat, q.2 = i ∧ i ≤ l.length ∧ m = l.length - i ∧ Sep h h' [ownSl si_Lvstate_Obj (rObj.fl hb) q.1 (l.take i)]) l.length
    ⟨0, rfl, by omega, by omega, (Sep.start h).nil rfl⟩ ?_
  rintro _ _ ⟨out, i⟩ h1 ⟨i, hi0, hi, rfl, S⟩
  simp only at hi0 S ⊢
  subst hi0
  refine ifB_intro (fun hc => ?_) (fun hc => ?_)
  · have hil : i < l.length := by rw [hl] at hc; simpa using hc
    refine idx_rdN hs rfl hil fun p _ hp => ?_
    refine ld_agg hp (ob.trans S.old).ext rfl fun cs hcs => ?_
    refine (one_calls (rObj.ext hcs (ob.trans S.old).ext)).mono ?_
    rintro v h2 ⟨rfl, o2⟩
    refine ⟨_, rfl, ?_⟩
    refine app1_flat (v := .agg cs) (x := l[i]) (S.grow o2) (fun _ => ⟨hcs, rfl⟩) rfl (by decide) (by simp only [List.length_take, si_Lvstate_Obj]; omega) (by simp only [List.length_take]; omega) fun s' h' S' => ?_
    refine ar_i64 (by omega) (by have := hs.bound; omega) ⟨l.length - (i + 1), by omega, i + 1, rfl, by omega, rfl, ?_⟩
    rw [List.take_succ_eq_append_getElem hil]
    exact S'
  · have hil : l.length ≤ i := by rw [hl] at hc; simpa using hc
    rw [List.take_of_length_le hil] at S
    exact ⟨out, rfl, S⟩
theorem there_calls {h : Heap} {s : Sl} {l : List MObj} (hs : rdSl rObj.el h s l) (hn : l.length ≤ 1000000) :
    ACalls Try.prog F_lateenlaw22_There [s.v] h (fun v h' => ∃ s' : Sl, v = s'.v ∧ Sep h h' [ownSl si_Lvstate_Obj (rObj.fl h) s' l]) := there_callsB hs (.refl h) hn

theorem back_callsB {hb h : Heap} {s : Sl} {l : List MObj} (hs : rdSl rObj.el hb s l) (ob : Old hb h) (hn : l.length ≤ 1000000) :
    ACalls Try.prog F_lateenlaw22_Back [s.v] h (fun v h' => ∃ s' : Sl, v = s'.v ∧ Sep h h' [ownSl si_Llateenref22_Obj (rObj.fl hb) s' l]) := by
  refine lateenlaw22_Back_of ?_
  unfold lateenlaw22_Back
  have hl := hs.lenEq
  refine loop_intro (fun m (q : Sl × Int) h' => ∃ i : Nat, q.2 = i ∧ i ≤ l.length ∧ m = l.length - i ∧ Sep h h' [ownSl si_Llateenref22_Obj (rObj.fl hb) q.1 (l.take i)]) l.length
    ⟨0, rfl, by omega, by omega, (Sep.start h).nil rfl⟩ ?_
  rintro _ _ ⟨out, i⟩ h1 ⟨i, hi0, hi, rfl, S⟩
  simp only at hi0 S ⊢
  subst hi0
  refine ifB_intro (fun hc => ?_) (fun hc => ?_)
  · have hil : i < l.length := by rw [hl] at hc; simpa using hc
    have e := (ob.trans S.old).ext
    refine idx_rdN hs rfl hil fun p _ hp => ld_int (fld_oId.rd hp) e ?_
    refine idx_rdN hs rfl hil fun p1 _ hp1 => ld_str (fld_oCls.rd hp1) e ?_
    refine idx_rdN hs rfl hil fun p2 _ hp2 => ld_lst (fld_oVals.rd hp2) e fun x hx => ?_
    refine idx_rdN hs rfl hil fun p3 _ hp3 => ld_agg (fld_oReal.rd hp3) e rfl fun cs hcs => ?_
    rw [arr_arg hcs]
    refine bst_obj ?_
    refine app1_flat (v := .agg _) (x := l[i]) S (fun _ => ⟨rv_obj.2 ⟨x, rfl, hx⟩, rfl⟩) rfl (by decide) (by simp only [List.length_take, si_Llateenref22_Obj]; omega) (by simp only [List.length_take]; omega) fun s' h' S' => ?_
    refine ar_i64 (by omega) (by have := hs.bound; omega) ⟨l.length - (i + 1), by omega, i + 1, rfl, by omega, rfl, ?_⟩
    rw [List.take_succ_eq_append_getElem hil]
    exact S'
  · have hil : l.length ≤ i := by rw [hl] at hc; simpa using hc
    rw [List.take_of_length_le hil] at S
    exact ⟨out, rfl, S⟩
theorem back_calls {h : Heap} {s : Sl} {l : List MObj} (hs : rdSl rObj.el h s l) (hn : l.length ≤ 1000000) :
    ACalls Try.prog F_lateenlaw22_Back [s.v] h (fun v h' => ∃ s' : Sl, v = s'.v ∧ Sep h h' [ownSl si_Llateenref22_Obj (rObj.fl h) s' l]) := back_callsB hs (.refl h) hn
theorem fl_rd {h h' : Heap} {si : SlI} {s : Sl} {l : List MObj} {L : List As} (S : Sep h h' (ownSl si (rObj.fl h) s l :: L)) : rdSl rObj.el h' s l := RV.fl_el S.rd S.old.ext

theorem to_calls {h : Heap} (n : Int) : ACalls Try.prog F_lateenlaw22_to [.int .i64 n] h (fun v h' => v = .agg #[.int .i64 5, .string ⟨#[]⟩, .int .i64 n] ∧ Old h h') := by
  refine lateenlaw22_to_of ?_
  unfold lateenlaw22_to
  refine new_rawB (Sep.start h) fun p h1 o1 S1 => ?_
  refine bst_ref ?_
  refine st_allB S1 rfl rfl (fun v hv => ?_) fun h2 S2 => ld_rawAgg S2 rfl ⟨rfl, S2.old⟩
  simp at hv
  rcases hv with rfl | rfl | rfl <;> rfl
theorem rv_to {h : Heap} (n : Int) : rArg.rv h (#[Value.int .i64 5, .string ⟨#[]⟩, .int .i64 n] : Array Value).toList ⟨5, ⟨#[]⟩, n⟩ := rv_arg.2 rfl

theorem sameI_calls {h : Heap} {a b : Sl} {A B : List Int} (ha : rdSl eInt h a A) (hb : rdSl eInt h b B) :
    ACalls Try.prog F_lateenlaw22_same [a.v, b.v] h (fun v h' => v = .bool (decide (A = B)) ∧ h' = h) := by
  refine lateenlaw22_same_of ?_
  unfold lateenlaw22_same
  have hla := ha.lenEq
  have hlb := hb.lenEq
  refine ifB_intro (fun hc => ?_) (fun hc => ?_)
  · refine ⟨congrArg Value.bool (decide_eq_false fun e => ?_).symm, rfl⟩
    subst e
    rw [hla, hlb] at hc
    simp at hc
  have hAB : A.length = B.length := by rw [hla, hlb] at hc; simp at hc; omega
  refine loop_intro (fun m (q : Int) h' => ∃ i : Nat, q = i ∧ i ≤ A.length ∧ m = A.length - i ∧ h' = h ∧ A.take i = B.take i) A.length
    ⟨0, rfl, by omega, by omega, rfl, rfl⟩ ?_
  rintro _ _ _ h3 ⟨i, rfl, hi, rfl, rfl, hsame⟩
  refine ifB_intro (fun hc => ?_) (fun hc => ?_)
  · have hil : i < A.length := by rw [hla] at hc; simpa using hc
    have hib : i < B.length := by omega
    refine idx_rdN ha rfl hil fun p2 _ hp2 => ld_one hp2 ?_
    refine idx_rdN hb rfl hib fun p3 _ hp3 => ld_one hp3 ?_
    refine ifB_intro (fun he => ?_) (fun he => ?_)
    · have he : A[i] ≠ B[i] := by simpa using he
      refine ⟨congrArg Value.bool (decide_eq_false fun e => he ?_).symm, rfl⟩
      subst e; rfl
    · have he : A[i] = B[i] := by simpa using he
      refine ar_i64 (by omega) (by have := ha.bound; omega) ⟨A.length - (i + 1), by omega, i + 1, rfl, by omega, rfl, rfl, ?_⟩
      rw [List.take_succ_eq_append_getElem hil, List.take_succ_eq_append_getElem hib, hsame, he]
  · have hil : A.length ≤ i := by rw [hla] at hc; simpa using hc
    rw [List.take_of_length_le hil, List.take_of_length_le (by omega)] at hsame
    exact ⟨congrArg Value.bool (decide_eq_true hsame).symm, rfl⟩

theorem has_calls {h : Heap} {a : Sl} {A : List Int} (ha : rdSl eInt h a A) (n : Int) :
    ACalls Try.prog F_lateenlaw22_has [a.v, .int .i64 n] h (fun v h' => v = .bool (decide (n ∈ A)) ∧ h' = h) := by
  refine lateenlaw22_has_of ?_
  unfold lateenlaw22_has
  have hla := ha.lenEq
  refine loop_intro (fun m (q : Int) h' => ∃ i : Nat, q = i ∧ i ≤ A.length ∧ m = A.length - i ∧ h' = h ∧ ∀ k (hk : k < A.length), k < i → A[k] ≠ n) A.length
    ⟨0, rfl, by omega, by omega, rfl, fun k _ h => by omega⟩ ?_
  rintro _ _ _ h3 ⟨i, rfl, hi, rfl, rfl, hno⟩
  refine ifB_intro (fun hc => ?_) (fun hc => ?_)
  · have hil : i < A.length := by rw [hla] at hc; simpa using hc
    refine idx_rdN ha rfl hil fun p2 _ hp2 => ld_one hp2 ?_
    refine ifB_intro (fun he => ?_) (fun he => ?_)
    · have he : A[i] = n := by simpa using he
      exact ⟨congrArg Value.bool (decide_eq_true (he ▸ List.getElem_mem hil)).symm, rfl⟩
    · have he : A[i] ≠ n := by simpa using he
      refine ar_i64 (by omega) (by have := ha.bound; omega) ⟨A.length - (i + 1), by omega, i + 1, rfl, by omega, rfl, rfl, fun k hk hlt => ?_⟩
      by_cases ek : k = i
      · subst ek; exact he
      · exact hno k hk (by omega)
  · have hil : A.length ≤ i := by rw [hla] at hc; simpa using hc
    refine ⟨congrArg Value.bool (decide_eq_false fun hm => ?_).symm, rfl⟩
    obtain ⟨z, hz, rfl⟩ := List.getElem_of_mem hm
    exact hno z hz (by omega) rfl

/-! The program's Same -/
theorem equal_calls {h : Heap} {a b : Sl} {A B : List MArg} (ha : rdSl rArg.el h a A) (hb : rdSl rArg.el h b B) :
    ACalls Try.prog F_slices_Equal [a.v, b.v] h (fun v h' => v = .bool (decide (A = B)) ∧ h' = h) := by
  refine slices_Equal_of ?_
  unfold slices_Equal
  have hla := ha.lenEq
  have hlb := hb.lenEq
  refine ifB_intro (fun hc => ?_) (fun hc => ?_)
  · refine ⟨congrArg Value.bool (decide_eq_false fun e => ?_).symm, rfl⟩
    subst e
    rw [hla, hlb] at hc
    simp at hc
  have hAB : A.length = B.length := by rw [hla, hlb] at hc; simp at hc; omega
  refine loop_intro (fun m (q : Int) h' => ∃ i : Nat, q = i ∧ i ≤ A.length ∧ m = A.length - i ∧ h' = h ∧ A.take i = B.take i) A.length
    ⟨0, rfl, by omega, by omega, rfl, rfl⟩ ?_
  rintro _ _ _ h3 ⟨i, rfl, hi, rfl, rfl, hsame⟩
  refine ifB_intro (fun hc => ?_) (fun hc => ?_)
  · have hil : i < A.length := by rw [hla] at hc; simpa using hc
    have hib : i < B.length := by omega
    refine idx_rdN ha rfl hil fun p2 _ hp2 => ?_
    refine ld_agg hp2 (hExt.refl _) rfl fun cs hcs => ?_
    refine idx_rdN hb rfl hib fun p3 _ hp3 => ?_
    refine ld_agg hp3 (hExt.refl _) rfl fun ds hds => ?_
    refine eq_arg hcs hds ?_
    refine ifB_intro (fun he => ?_) (fun he => ?_)
    · have he : A[i] ≠ B[i] := by simpa using he
      refine ⟨congrArg Value.bool (decide_eq_false fun e => he ?_).symm, rfl⟩
      subst e; rfl
    · have he : A[i] = B[i] := by simpa using he
      refine ar_i64 (by omega) (by have := ha.bound; omega) ⟨A.length - (i + 1), by omega, i + 1, rfl, by omega, rfl, rfl, ?_⟩
      rw [List.take_succ_eq_append_getElem hil, List.take_succ_eq_append_getElem hib, hsame, he]
  · have hil : A.length ≤ i := by rw [hla] at hc; simpa using hc
    rw [List.take_of_length_le hil, List.take_of_length_le (by omega)] at hsame
    exact ⟨congrArg Value.bool (decide_eq_true hsame).symm, rfl⟩

theorem vsame_calls {h : Heap} {c d : Array Value} {a b : MObj} (ha : rObj.rv h c.toList a) (hb : rObj.rv h d.toList b) :
    ACalls Try.prog F_vstate_same [.agg c, .agg d] h (fun v h' => v = .bool (decide (a = b)) ∧ Old h h') := by
  refine vstate_same_of ?_
  unfold vstate_same
  refine new_rv ha fun p h1 o1 hp => ?_
  refine new_rv (rObj.ext hb o1.ext) fun p1 h2 o2 hp1 => ?_
  have e2 := o2.ext
  have r2 := hExt.refl h2
  have oo := o1.trans o2
  intro k hk
  have bad : a ≠ b → k false h2 := fun he => hk _ _ fun _ => ⟨congrArg Value.bool (decide_eq_false he).symm, oo⟩
  refine ld_int (fld_oId.rd hp) e2 ?_
  refine ld_int (fld_oId.rd hp1) r2 ?_
  refine ifB_intro (fun he => ?_) (fun he => bad fun e => by rw [e] at he; simp at he)
  have q1 : a.id = b.id := by simpa using he
  refine ld_str (fld_oCls.rd hp) e2 ?_
  refine ld_str (fld_oCls.rd hp1) r2 ?_
  rw [toList_beq]
  refine ifB_intro (fun he => ?_) (fun he => bad fun e => by rw [e] at he; simp at he)
  have q2 : a.cls = b.cls := by simpa using he
  refine ld_agg (fld_oReal.rd hp) e2 rfl fun cs hcs => ?_
  refine ld_agg (fld_oReal.rd hp1) r2 rfl fun ds hds => ?_
  refine eq_arg hcs hds ?_
  refine ifB_intro (fun he => ?_) (fun he => bad fun e => by rw [e] at he; simp at he)
  have q4 : a.real = b.real := by simpa using he
  refine ld_lst (fld_oVals.rd hp) e2 fun x hx => ?_
  refine ld_lst (fld_oVals.rd hp1) r2 fun y hy => ?_
  refine (equal_calls (hx.old o2) hy).mono ?_
  rintro v h4 ⟨rfl, rfl⟩
  refine ⟨_, rfl, hk _ _ fun _ => ⟨congrArg Value.bool ?_, oo⟩⟩
  by_cases e : a.vals = b.vals
  · rw [decide_eq_true e, decide_eq_true (obj_ext q1 q2 e q4)]
  · rw [decide_eq_false e, decide_eq_false fun h => e (by rw [h])]

theorem vSame_calls {h : Heap} {s t : Sl} {A B : List MObj} (ha : rdSl rObj.el h s A) (hb : rdSl rObj.el h t B) :
    ACalls Try.prog F_vstate_Same [s.v, t.v] h (fun v h' => v = .bool (decide (A = B)) ∧ Old h h') := by
  refine vstate_Same_of ?_
  unfold vstate_Same
  have core : ACalls Try.prog F_slices_EqualFunc [s.v, t.v, .func (.func F_vstate_same) #[] #[]] h (fun v h' => v = .bool (decide (A = B)) ∧ Old h h') := by
    refine slices_EqualFunc_of ?_
    unfold slices_EqualFunc
    have hla := ha.lenEq
    have hlb := hb.lenEq
    refine ifB_intro (fun hc => ?_) (fun hc => ?_)
    · refine ⟨congrArg Value.bool (decide_eq_false fun e => ?_).symm, .refl _⟩
      subst e
      rw [hla, hlb] at hc
      simp at hc
    have hAB : A.length = B.length := by rw [hla, hlb] at hc; simp at hc; omega
    refine loop_intro (fun m (q : Int) h' => ∃ i : Nat, q = i ∧ i ≤ A.length ∧ m = A.length - i ∧ Old h h' ∧ A.take i = B.take i) A.length
      ⟨0, rfl, by omega, by omega, .refl _, rfl⟩ ?_
    rintro _ _ _ h3 ⟨i, rfl, hi, rfl, o3, hsame⟩
    refine ifB_intro (fun hc => ?_) (fun hc => ?_)
    · have hil : i < A.length := by rw [hla] at hc; simpa using hc
      have hib : i < B.length := by omega
      refine idx_rdN ha rfl hil fun p _ hp => ld_agg hp o3.ext rfl fun cs hcs => ?_
      refine new_stX hcs o3.ext rfl rfl fun p1 h4 o4 hb1 => ?_
      refine idx_rdN hb rfl hib fun p2 _ hp2 => ld_agg hp2 (o3.trans o4).ext rfl fun ds hds => ?_
      refine new_stX hds (o3.trans o4).ext rfl rfl fun p3 h5 o5 hb3 => ?_
      have oo := o3.trans (o4.trans o5)
      obtain ⟨_, c, hc1, hc2⟩ := RV.bx_old hb1 o5
      obtain ⟨_, d, hd1, hd2⟩ := hb3
      refine ⟨c.toArray, ⟨by simp [rObj.len hc2]; rfl, fun j v hj => hc1 j v (by simpa using hj)⟩, ?_⟩
      refine ⟨d.toArray, ⟨by simp [rObj.len hd2]; rfl, fun j v hj => hd1 j v (by simpa using hj)⟩, ?_⟩
      refine ⟨_, _, rfl, by unfold FnOk; kernel_rfl, ?_⟩
      refine (vsame_calls (h := h5) (c := c.toArray) (d := d.toArray) (by simpa using rObj.ext hc2 oo.ext) (by simpa using rObj.ext hd2 oo.ext)).mono ?_
      rintro v h6 ⟨rfl, o6⟩
      refine ⟨_, rfl, ?_⟩
      refine ifB_intro (fun he => ?_) (fun he => ?_)
      · have he : A[i] ≠ B[i] := by simpa using he
        refine ⟨congrArg Value.bool (decide_eq_false fun e => he ?_).symm, oo.trans o6⟩
        subst e; rfl
      · have he : A[i] = B[i] := by simpa using he
        refine ar_i64 (by omega) (by have := ha.bound; omega) ⟨A.length - (i + 1), by omega, i + 1, rfl, by omega, rfl, oo.trans o6, ?_⟩
        rw [List.take_succ_eq_append_getElem hil, List.take_succ_eq_append_getElem hib, hsame, he]
    · have hil : A.length ≤ i := by rw [hla] at hc; simpa using hc
      rw [List.take_of_length_le hil, List.take_of_length_le (by omega)] at hsame
      exact ⟨congrArg Value.bool (decide_eq_true hsame).symm, o3⟩
  refine core.mono ?_
  rintro v h1 ⟨rfl, o1⟩
  exact ⟨_, rfl, rfl, o1⟩

end Go.Proofs.Ytncbpalncgcoaaa
