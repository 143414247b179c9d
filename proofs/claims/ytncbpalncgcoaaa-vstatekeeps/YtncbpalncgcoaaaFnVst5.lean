/-
  Right, Same, one, There, Back, to.
-/
import Derived.Test.YtncbpalncgcoaaaFnVst4
namespace Go.Proofs.Ytncbpalncgcoaaa
open Go.Fw Go.Pl.Api Go.Pl.Vst

theorem rightF_obj {l : List MObj} (hr : Rising l) (h0 : headOk l = true) : rightF l = l.all (objOk l) := by simp [rightF, hr, h0]

theorem refRight_calls {h : Heap} {s : Sl} {l : List MObj} (hs : rdSl rObj.el h s l) :
    ACalls Try.prog F_lateenref22_Right [s.v] h (fun v h' => v = .bool (rightF l) ∧ Old h h') := by
  refine lateenref22_Right_of ?_
  unfold lateenref22_Right
  have hl := hs.lenEq
  intro k hk
  have bad : rightF l = false → k true h := fun e => hk _ _ fun _ => ifB_true rfl ⟨by rw [e], .refl _⟩
  have go : Rising l → headOk l = true → k false h := fun hr h0 => hk _ _ fun _ => ifB_false rfl <| by
    rw [rightF_obj hr h0]
    refine loop_intro (fun m (q : Int) h' => ∃ i : Nat, q = i ∧ i ≤ l.length ∧ m = l.length - i ∧ Old h h' ∧ ∀ k (hk : k < l.length), k < i → objOk l l[k] = true) l.length
      ⟨0, rfl, by omega, by omega, .refl _, fun k _ h => by omega⟩ ?_
    rintro _ _ _ h2 ⟨i, rfl, hi, rfl, o2, hno⟩
    refine ifB_intro (fun hc => ?_) (fun hc => ?_)
    · have hil : i < l.length := by rw [hl] at hc; simpa using hc
      have stop : ∀ h', Old h2 h' → objOk l l[i] = false → (Value.bool false = .bool (l.all (objOk l)) ∧ Old h h') := fun h' o e => by
        have : l.all (objOk l) = false := by rw [List.all_eq_false]; exact ⟨l[i], List.getElem_mem hil, by simp [e]⟩
        exact ⟨by rw [this], o2.trans o⟩
      refine idx_rdN hs rfl hil fun p _ hp => ?_
      refine ld_int (fld_argKind.rd (fld_oReal.rd hp)) o2.ext ?_
      refine ifB_intro (fun he => ?_) (fun he => ?_)
      · have he : l[i].real.kind = 5 := by simpa using he
        exact stop h2 (.refl _) (by simp [objOk, he])
      have he : l[i].real.kind ≠ 5 := by simpa using he
      refine loop_intro (fun m (q : Int) h' => ∃ j : Nat, q = j ∧ j ≤ l[i].vals.length ∧ m = l[i].vals.length - j ∧ Old h h' ∧ ∀ k (hk : k < l[i].vals.length), k < j → (l[i].vals[k].kind != 5 || (findF l l[i].vals[k]).isSome) = true) l[i].vals.length
        ⟨0, rfl, by omega, by omega, o2, fun k _ h => by omega⟩ ?_
      rintro _ _ _ h3 ⟨j, rfl, hj, rfl, o3, hno2⟩
      refine idx_rdN hs rfl hil fun p1 _ hp1 => ?_
      refine ld_lst (fld_oVals.rd hp1) o3.ext fun t ht => ?_
      have htl := ht.lenEq
      refine ifB_intro (fun hc2 => ?_) (fun hc2 => ?_)
      · have hjl : j < l[i].vals.length := by rw [htl] at hc2; simpa using hc2
        refine idx_rdN hs rfl hil fun p2 _ hp2 => ?_
        refine ld_lst (fld_oVals.rd hp2) o3.ext fun t2 ht2 => ?_
        refine idx_rdN ht2 rfl hjl fun p3 _ hp3 => ?_
        refine ld_agg hp3 o3.ext rfl fun cs hcs => ?_
        refine (refFind_calls (hs.old o3) (rArg.ext hcs o3.ext)).mono ?_
        rintro v h4 ⟨ds, rfl, o4, hds⟩
        refine ⟨_, _, rfl, ?_⟩
        refine new_stX hds o4.ext rfl rfl fun p4 h6 o6 _ => ?_
        have o36 := o3.trans (o4.trans o6)
        intro k2 hk2
        refine idx_rdN hs rfl hil fun p5 _ hp5 => ?_
        refine ld_lst (fld_oVals.rd hp5) o36.ext fun t3 ht3 => ?_
        refine idx_rdN ht3 rfl hjl fun p6 _ hp6 => ?_
        refine ld_int (fld_argKind.rd hp6) o36.ext ?_
        have next : (l[i].vals[j].kind != 5 || (findF l l[i].vals[j]).isSome) = true → k2 false h6 := fun e => hk2 _ _ fun _ => ifB_false rfl <|
          ar_i64 (by omega) (by have := ht.bound; omega) ⟨l[i].vals.length - (j + 1), by omega, j + 1, rfl, by omega, rfl, o36, fun k hk hlt => by
            by_cases ek : k = j
            · subst ek; exact e
            · exact hno2 k hk (by omega)⟩
        refine ifB_intro (fun h5 => ?_) (fun h5 => ?_)
        · cases hf : findF l l[i].vals[j] with
          | none =>
            refine hk2 _ _ fun _ => ifB_true rfl ?_
            have h5 : l[i].vals[j].kind = 5 := by simpa using h5
            have : objOk l l[i] = false := by
              unfold objOk
              rw [Bool.and_eq_false_iff]
              right
              rw [List.all_eq_false]
              exact ⟨_, List.getElem_mem hjl, by simp [h5, hf]⟩
            have q : l.all (objOk l) = false := by rw [List.all_eq_false]; exact ⟨l[i], List.getElem_mem hil, by simp [this]⟩
            exact ⟨by rw [q], o36⟩
          | some o => exact next (by rw [hf]; simp)
        · exact next (by rw [Bool.or_eq_true]; left; simpa using h5)
      · have hjl : l[i].vals.length ≤ j := by rw [htl] at hc2; simpa using hc2
        refine ar_i64 (by omega) (by have := hs.bound; omega) ⟨l.length - (i + 1), by omega, i + 1, rfl, by omega, rfl, o3, fun k hk hlt => ?_⟩
        by_cases ek : k = i
        · subst ek
          unfold objOk
          rw [Bool.and_eq_true]
          refine ⟨by simpa using he, List.all_eq_true.2 fun x hx => ?_⟩
          obtain ⟨z, hz, rfl⟩ := List.getElem_of_mem hx
          exact hno2 z hz (by omega)
        · exact hno k hk (by omega)
    · have hil : l.length ≤ i := by rw [hl] at hc; simpa using hc
      have : l.all (objOk l) = true := List.all_eq_true.2 fun x hx => by
        obtain ⟨z, hz, rfl⟩ := List.getElem_of_mem hx
        exact hno z hz (by omega)
      exact ⟨by rw [this], o2⟩
  refine (rising_calls hs).mono ?_
  rintro v h8 ⟨rfl, rfl⟩
  refine ⟨_, rfl, ?_⟩
  refine ifB_intro (fun hc => ?_) (fun hc => ?_)
  · have hc : ¬ Rising l := by simpa using hc
    exact bad (by simp [rightF, hc])
  have hr : Rising l := by simpa using hc
  refine ifB_intro (fun hc => ?_) (fun hc => ?_)
  · have h0 : 0 < l.length := by rw [hl] at hc; simpa using hc
    refine idx_rdN (i := 0) hs rfl h0 fun p7 _ hp7 => ?_
    refine ld_int (fld_oId.rd hp7) (hExt.refl _) ?_
    obtain ⟨o, l', rfl⟩ : ∃ o l', l = o :: l' := by cases l with
      | nil => simp at h0
      | cons o l' => exact ⟨o, l', rfl⟩
    show k (decide (o.id < 0)) h8
    by_cases ho : o.id < 0
    · rw [decide_eq_true ho]
      exact bad (by simp [rightF, headOk, show ¬ (0 ≤ o.id) by omega])
    · rw [decide_eq_false ho]
      exact go hr (by simp [headOk]; omega)
  · have h0 : l = [] := by rw [hl] at hc; simpa using hc
    subst h0
    exact go hr rfl

theorem vRight_calls {h : Heap} {s : Sl} {l : List MObj} (hs : rdSl rObj.el h s l) (hn : l.length ≤ 1000000) :
    ACalls Try.prog F_vstate_Right [s.v] h (fun v h' => v = .bool (rightF l) ∧ Old h h') := by
  refine vstate_Right_of ?_
  unfold vstate_Right
  have hl := hs.lenEq
  have allFalse : ∀ {i : Nat} (hi : i < l.length), objOk l l[i] = false → rightF l = false := fun {i} hi e => by
    have : l.all (objOk l) = false := by rw [List.all_eq_false]; exact ⟨l[i], List.getElem_mem hi, by simp [e]⟩
    simp [rightF, this]
  refine loop_intro (fun m (q : Int × Int) h' => ∃ i : Nat, q.2 = i ∧ i ≤ l.length ∧ m = l.length - i ∧ Old h h' ∧ (q.1 = match i with | 0 => (-1 : Int) | j + 1 => (l[j]?.map (·.id)).getD 0) ∧
      (∀ k (hk : k + 1 < l.length), k + 1 < i → l[k].id < l[k + 1].id) ∧ (0 < i → headOk l = true) ∧ ∀ k (hk : k < l.length), k < i → l[k].real.kind ≠ 5) l.length
    ⟨0, rfl, by omega, by omega, .refl _, rfl, fun k _ h => by omega, fun h => by omega, fun k _ h => by omega⟩ ?_
  rintro _ _ ⟨last, i⟩ h1 ⟨i, hi0, hi, rfl, o1, hlast, hris, hhead, hreal⟩
  simp only at hi0 hlast ⊢
  subst hi0
  refine ifB_intro (fun hc => ?_) (fun hc => ?_)
  · have hil : i < l.length := by rw [hl] at hc; simpa using hc
    refine idx_rdN hs rfl hil fun p _ hp => ?_
    refine ld_agg hp o1.ext rfl fun cs hcs => ?_
    refine new_stX hcs o1.ext rfl rfl fun p1 h3 o3 hb => ?_
    intro k hk
    refine ld_intX (fld_oId.bx hb) ?_
    refine ifB_intro (fun he => ?_) (fun he => ?_)
    · refine hk _ _ fun _ => ifB_true rfl ⟨?_, o1.trans o3⟩
      have he : l[i].id ≤ last := of_decide_eq_true he
      have : rightF l = false := by
        cases i with
        | zero =>
          simp only at hlast
          have : headOk l = false := by
            cases l with
            | nil => simp at hil
            | cons o l' => simp only [List.getElem_cons_zero] at he; simp [headOk]; omega
          simp [rightF, this]
        | succ j =>
          simp only [List.getElem?_eq_getElem (show j < l.length by omega), Option.map_some, Option.getD_some] at hlast
          have : ¬ Rising l := fun hr => by
            have := rising_iff.1 hr j hil
            omega
          simp [rightF, this]
      rw [this]
    have he : last < l[i].id := by have := of_decide_eq_false he; omega
    refine ld_intX (fld_argKind.bx (fld_oReal.bx hb)) ?_
    by_cases h5 : l[i].real.kind = 5
    · have : (l[i].real.kind == 5) = true := by simpa using h5
      rw [this]
      refine hk _ _ fun _ => ifB_true rfl ⟨?_, o1.trans o3⟩
      rw [allFalse hil (by simp [objOk, h5])]
    · have : (l[i].real.kind == 5) = false := by simpa using h5
      rw [this]
      refine hk _ _ fun _ => ifB_false rfl ?_
      refine ld_intX (fld_oId.bx hb) ?_
      refine ar_i64 (by omega) (by omega) ⟨l.length - (i + 1), by omega, i + 1, rfl, by omega, rfl, o1.trans o3, ?_, fun z hz hlt => ?_, fun _ => ?_, fun z hz hlt => ?_⟩
      · simp [List.getElem?_eq_getElem hil]
      · by_cases ez : z + 1 = i
        · subst ez
          simp only [List.getElem?_eq_getElem (show z < l.length by omega), Option.map_some, Option.getD_some] at hlast
          omega
        · exact hris z hz (by omega)
      · by_cases e0 : i = 0
        · subst e0
          simp only at hlast
          cases l with
          | nil => rfl
          | cons o l' => simp only [List.getElem_cons_zero] at he; simp [headOk]; omega
        · exact hhead (by omega)
      · by_cases ez : z = i
        · subst ez; exact h5
        · exact hreal z hz (by omega)
  have hil : i = l.length := by rw [hl] at hc; have : l.length ≤ i := by simpa using hc
                                omega
  subst hil
  have hr : Rising l := rising_iff.2 fun k hk => hris k hk hk
  have h0 : headOk l = true := by
    cases l with
    | nil => rfl
    | cons o l' => exact hhead (by simp)
  rw [rightF_obj hr h0]
  refine loop_intro (fun m (q : Int) h' => ∃ i : Nat, q = i ∧ i ≤ l.length ∧ m = l.length - i ∧ Old h h' ∧ ∀ k (hk : k < l.length), k < i → objOk l l[k] = true) l.length
    ⟨0, rfl, by omega, by omega, o1, fun k _ h => by omega⟩ ?_
  clear hlast hc o1
  rintro _ _ _ h5 ⟨i, rfl, hi, rfl, o5, hno⟩
  refine ifB_intro (fun hc => ?_) (fun hc => ?_)
  · have hil : i < l.length := by rw [hl] at hc; simpa using hc
    refine idx_rdN hs rfl hil fun p _ hp => ?_
    refine ld_agg hp o5.ext rfl fun cs hcs => ?_
    refine new_stX hcs o5.ext rfl rfl fun p3 h7 o7 hb => ?_
    refine ld_lstX (fld_oVals.bx hb) fun t ht => ?_
    have htl := ht.lenEq
    refine loop_intro (fun m (q : Int) h' => ∃ j : Nat, q = j ∧ j ≤ l[i].vals.length ∧ m = l[i].vals.length - j ∧ Old h h' ∧ ∀ k (hk : k < l[i].vals.length), k < j → (l[i].vals[k].kind != 5 || (findF l l[i].vals[k]).isSome) = true) l[i].vals.length
      ⟨0, rfl, by omega, by omega, o5.trans o7, fun k _ h => by omega⟩ ?_
    rintro _ _ _ h8 ⟨j, rfl, hj, rfl, o8, hno2⟩
    refine ifB_intro (fun hc2 => ?_) (fun hc2 => ?_)
    · have hjl : j < l[i].vals.length := by rw [htl] at hc2; simpa using hc2
      refine idx_rdN ht rfl hjl fun p4 _ hp4 => ?_
      refine ld_agg hp4 o8.ext rfl fun ds hds => ?_
      refine new_stX hds o8.ext rfl rfl fun p5 h10 o10 hb5 => ?_
      obtain ⟨_, c, hc1, hc2⟩ := hb5
      refine ⟨c.toArray, ⟨by simp [rArg.len hc2]; rfl, fun j v hj => hc1 j v (by simpa using hj)⟩, ?_⟩
      refine (find_calls (a := l[i].vals[j]) (hs.old (o8.trans o10)) (by simpa using rv_arg.2 (rv_arg.1 hc2)) hr (by omega)).mono ?_
      rintro v h11 ⟨es, rfl, o11, hes⟩
      refine ⟨_, _, rfl, ?_⟩
      refine new_stX hes o11.ext rfl rfl fun p6 h13 o13 _ => ?_
      have o10' := o10.trans (o11.trans o13)
      intro k2 hk2
      have hkind : hcell h13 (p5.add 0) = some (.int .i64 l[i].vals[j].kind) := by
        have := hc1 0 (.int .i64 l[i].vals[j].kind) (by rw [rv_arg.1 hc2]; rfl)
        exact (o11.trans o13).ext _ _ this
      refine ld_one (k := .int .i64) (x := l[i].vals[j].kind) hkind ?_
      have next : (l[i].vals[j].kind != 5 || (findF l l[i].vals[j]).isSome) = true → k2 false h13 := fun e => hk2 _ _ fun _ => ifB_false rfl <|
        ar_i64 (by omega) (by have := ht.bound; omega) ⟨l[i].vals.length - (j + 1), by omega, j + 1, rfl, by omega, rfl, o8.trans o10', fun k hk hlt => by
          by_cases ek : k = j
          · subst ek; exact e
          · exact hno2 k hk (by omega)⟩
      refine ifB_intro (fun h5 => ?_) (fun h5 => ?_)
      · cases hf : findF l l[i].vals[j] with
        | none =>
          refine hk2 _ _ fun _ => ifB_true rfl ?_
          have h5 : l[i].vals[j].kind = 5 := by simpa using h5
          have : objOk l l[i] = false := by
            unfold objOk
            rw [Bool.and_eq_false_iff]
            right
            rw [List.all_eq_false]
            exact ⟨_, List.getElem_mem hjl, by simp [h5, hf]⟩
          have q : l.all (objOk l) = false := by rw [List.all_eq_false]; exact ⟨l[i], List.getElem_mem hil, by simp [this]⟩
          exact ⟨by rw [q], o8.trans o10'⟩
        | some o => exact next (by rw [hf]; simp)
      · exact next (by rw [Bool.or_eq_true]; left; simpa using h5)
    · have hjl : l[i].vals.length ≤ j := by rw [htl] at hc2; simpa using hc2
      refine ar_i64 (by omega) (by have := hs.bound; omega) ⟨l.length - (i + 1), by omega, i + 1, rfl, by omega, rfl, o8, fun k hk hlt => ?_⟩
      by_cases ek : k = i
      · subst ek
        unfold objOk
        rw [Bool.and_eq_true]
        refine ⟨by simpa using hreal k hk hk, List.all_eq_true.2 fun x hx => ?_⟩
        obtain ⟨z, hz, rfl⟩ := List.getElem_of_mem hx
        exact hno2 z hz (by omega)
      · exact hno k hk (by omega)
  · have hil : l.length ≤ i := by rw [hl] at hc; simpa using hc
    have : l.all (objOk l) = true := List.all_eq_true.2 fun x hx => by
      obtain ⟨z, hz, rfl⟩ := List.getElem_of_mem hx
      exact hno z hz (by omega)
    exact ⟨by rw [this], o5⟩

end Go.Proofs.Ytncbpalncgcoaaa
