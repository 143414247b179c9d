/-
  The document's side of states: Find, Virtual, Really, Rising, SameArgs, Same, Few; one, There, Back, to.
-/
import Derived.Test.YtncbpalncgcoaaaFnVst3
namespace Go.Proofs.Ytncbpalncgcoaaa
open Go.Fw Go.Pl.Api Go.Pl.Vst

/-- Some cells of a box, as a value. -/
theorem ld_rawSub {h0 h : Heap} {p : Addr} {cs ds : Array Value} {L : List As} {i n : Nat} {K : Array Value → Prop} (S : Sep h0 h (rawB p cs :: L)) (hd : ds.toList = (cs.toList.drop i).take n) (hn : ds.size = n) (hK : K ds) : ld (.agg n) h (p.add i) K := by
  refine ⟨ds, ⟨hn, fun j v hj => ?_⟩, hK⟩
  have hc := rawB_cell S
  rw [Go.Fw.Addr.add_add _ _ _ hc.1, hc.2, ← Array.getElem?_toList]
  rw [← Array.getElem?_toList, hd, List.getElem?_take] at hj
  split at hj
  · rw [List.getElem?_drop] at hj; exact hj
  · cases hj

theorem refFind_calls {h : Heap} {s : Sl} {l : List MObj} {cs : Array Value} {a : MArg} (hs : rdSl rObj.el h s l) (ha : rArg.rv h cs.toList a) :
    ACalls Try.prog F_lateenref22_Find [s.v, .agg cs] h (fun v h' => ∃ ds : Array Value, v = .tuple #[.agg ds, .bool (findF l a).isSome] ∧ Old h h' ∧ rObj.rv h ds.toList ((findF l a).getD zObj)) := by
  refine lateenref22_Find_of ?_
  unfold lateenref22_Find
  refine new_rv ha fun p h1 o1 hp => ?_
  refine new_rawB (Sep.start h1) fun p1 h2 o2 S2 => ?_
  have hl := hs.lenEq
  have z1 : ∀ v ∈ (#[Value.int .i64 0, .string ⟨#[]⟩, .slice none 0 0, .int .i64 0, .string ⟨#[]⟩, .int .i64 0] : Array Value).toList, v.oneCell' = true := fun v hv => RV.one _ (rv_zObj (h := h)) v hv
  refine loop_intro (fun m (q : Int) h' => ∃ i : Nat, q = i ∧ i ≤ l.length ∧ m = l.length - i ∧ h' = h2 ∧ (a.kind = 5 → ∀ k (hk : k < l.length), k < i → l[k].id ≠ a.n)) l.length
    ⟨0, rfl, by omega, by omega, rfl, fun _ k _ h => by omega⟩ ?_
  rintro _ _ _ h3 ⟨i, rfl, hi, rfl, rfl, hno⟩
  intro k hk
  have nope : findF l a = none → k false h3 := fun hf => hk _ _ fun _ => ifB_false rfl
    ⟨_, rfl, st_allB S2 rfl rfl z1 fun h5 S5 => ld_rawAgg S5 rfl ⟨_, by rw [hf]; rfl, o1.trans S5.old, by rw [hf]; exact rv_zObj⟩⟩
  refine ifB_intro (fun hc => ?_) (fun hc => ?_)
  · have hil : i < l.length := by rw [hl] at hc; simpa using hc
    refine ld_int (fld_argKind.rd hp) o2.ext ?_
    by_cases h5 : a.kind = 5
    · have : (a.kind == 5) = true := by simpa using h5
      rw [this]
      refine hk _ _ fun _ => ifB_true rfl ?_
      refine idx_rdN hs rfl hil fun p2 _ hp2 => ?_
      refine ld_int (fld_oId.rd hp2) (o1.trans o2).ext ?_
      refine ld_int (fld_argN.rd hp) o2.ext ?_
      refine ifB_intro (fun he => ?_) (fun he => ?_)
      · have he : l[i].id = a.n := by simpa using he
        have hf : findF l a = some l[i] := by
          unfold findF
          rw [if_pos h5, List.find?_eq_some_iff_getElem]
          refine ⟨by simpa using he, i, hil, rfl, fun j hj => ?_⟩
          simpa using hno h5 j (by omega) hj
        refine idx_rdN hs rfl hil fun p3 _ hp3 => ?_
        refine ld_agg hp3 (o1.trans o2).ext rfl fun ds hds => ?_
        refine st_allB S2 rfl (size_rv hds) (fun v hv => RV.one _ hds v hv) fun h6 S6 => ?_
        refine ld_rawAgg S6 (size_rv hds).symm ⟨ds, by rw [hf]; rfl, o1.trans S6.old, by rw [hf]; exact hds⟩
      · have he : l[i].id ≠ a.n := by simpa using he
        refine ar_i64 (by omega) (by have := hs.bound; omega) ⟨l.length - (i + 1), by omega, i + 1, rfl, by omega, rfl, rfl, fun h5 k hk hlt => ?_⟩
        by_cases e : k = i
        · subst e; exact he
        · exact hno h5 k hk (by omega)
    · have : (a.kind == 5) = false := by simpa using h5
      rw [this]
      exact nope (by unfold findF; rw [if_neg h5])
  · have hil : l.length ≤ i := by rw [hl] at hc; simpa using hc
    refine nope ?_
    unfold findF
    split
    · rename_i h5
      rw [List.find?_eq_none]
      intro x hx
      obtain ⟨j, hj, rfl⟩ := List.getElem_of_mem hx
      simpa using hno h5 j hj (by omega)
    · rfl

theorem refVirt_calls {h : Heap} {s : Sl} {l : List MObj} {cs : Array Value} {a : MArg} (hs : rdSl rObj.el h s l) (ha : rArg.rv h cs.toList a) :
    ACalls Try.prog F_lateenref22_Virtual [s.v, .agg cs] h (fun v h' => v = .bool (virtF l a) ∧ Old h h') := by
  refine lateenref22_Virtual_of ?_
  unfold lateenref22_Virtual
  refine new_rv ha fun p h1 o1 hp => ?_
  refine ld_agg hp (hExt.refl _) rfl fun cs1 hcs1 => ?_
  refine (refFind_calls (hs.old o1) hcs1).mono ?_
  rintro v h2 ⟨ds, rfl, o2, hds⟩
  refine ⟨_, _, rfl, ?_⟩
  refine new_stX hds o2.ext rfl rfl fun p1 h4 o4 hp1 => ?_
  intro k hk
  have ho := o1.trans (o2.trans o4)
  cases hf : findF l a with
  | none =>
    refine ifB_false rfl (hk _ _ fun _ => ⟨by unfold virtF; rw [hf], ho⟩)
  | some o =>
    rw [hf] at hp1
    refine ifB_true rfl ?_
    refine ld_intX (fld_argKind.bx (fld_oReal.bx hp1)) (hk _ _ fun _ => ⟨by unfold virtF; rw [hf]; rfl, ho⟩)

theorem refReally_calls {h : Heap} {s : Sl} {l : List MObj} {cs : Array Value} {a : MArg} (hs : rdSl rObj.el h s l) (ha : rArg.rv h cs.toList a) :
    ACalls Try.prog F_lateenref22_Really [s.v, .agg cs] h (fun v h' => ∃ ds : Array Value, v = .agg ds ∧ Old h h' ∧ rArg.rv h ds.toList (reallyF l a)) := by
  refine lateenref22_Really_of ?_
  unfold lateenref22_Really
  refine new_rv ha fun p h1 o1 hp => ?_
  refine new_rawB (Sep.start h1) fun p1 h2 o2 S2 => ?_
  refine ld_agg hp o2.ext rfl fun cs1 hcs1 => ?_
  refine (refFind_calls (hs.old (o1.trans o2)) (rArg.ext hcs1 o2.ext)).mono ?_
  rintro v h3 ⟨ds, rfl, o3, hds⟩
  refine ⟨_, _, rfl, ?_⟩
  refine new_stB (S2.grow o3) hds rfl rfl fun p2 h5 S5 => ?_
  have hb := S5.bx
  have hpo := S5.old
  intro k hk
  have fin : ∀ (x : Array Value), rArg.rv h x.toList (reallyF l a) → x.size = 3 ∧ st x.toList h5 p1 fun h7 => ld (.agg 3) h7 p1 fun (x_2 : Array Value) => ∃ ds : Array Value, Value.agg x_2 = .agg ds ∧ Old h h7 ∧ rArg.rv h ds.toList (reallyF l a) := fun x hx =>
    st_allB S5.swap rfl (size_rv hx) (fun v hv => RV.one _ hx v hv) fun h7 S7 => ld_rawAgg S7 (size_rv hx).symm ⟨x, rfl, o1.trans S7.old, hx⟩
  have own : reallyF l a = a → k false h5 := fun e => hk _ _ fun _ => ifB_false rfl <| ld_agg hp hpo.ext rfl fun x hx => fin x (by rw [e]; exact rv_arg.2 (rv_arg.1 hx))
  cases hf : findF l a with
  | none =>
    refine ifB_false rfl (own (by unfold reallyF; rw [hf]))
  | some o =>
    rw [hf] at hb
    refine ifB_true rfl ?_
    refine ld_intX (fld_argKind.bx (fld_oReal.bx hb)) ?_
    by_cases h0 : o.real.kind = 0
    · have : (((Option.some o).getD zObj).real.kind != 0) = false := by simpa using h0
      rw [this]
      exact own (by unfold reallyF; rw [hf]; simp [h0])
    · have : (((Option.some o).getD zObj).real.kind != 0) = true := by simpa using h0
      rw [this]
      refine hk _ _ fun _ => ifB_true rfl ?_
      obtain ⟨_, c, hc, hv⟩ := fld_oReal.bx hb
      have hv := rv_arg.1 hv
      refine ⟨c.toArray, ⟨by rw [hv]; rfl, fun j v hj => hc j v (by simpa using hj)⟩, fin _ (rv_arg.2 ?_)⟩
      have : reallyF l a = o.real := by unfold reallyF; rw [hf]; simp [h0]
      rw [this]
      simpa using hv

theorem rising_calls {h : Heap} {s : Sl} {l : List MObj} (hs : rdSl rObj.el h s l) :
    ACalls Try.prog F_lateenref22_Rising [s.v] h (fun v h' => v = .bool (decide (Rising l)) ∧ h' = h) := by
  refine lateenref22_Rising_of ?_
  unfold lateenref22_Rising
  have hl := hs.lenEq
  refine loop_intro (fun m (q : Int) h' => ∃ i : Nat, q = i ∧ 1 ≤ i ∧ m = l.length + 1 - i ∧ h' = h ∧ ∀ k (hk : k + 1 < l.length), k + 1 < i → l[k].id < l[k + 1].id) (l.length)
    ⟨1, rfl, by omega, by omega, rfl, fun k _ h => by omega⟩ ?_
  rintro _ _ _ h3 ⟨i, rfl, hi, rfl, rfl, hno⟩
  refine ifB_intro (fun hc => ?_) (fun hc => ?_)
  · have hil : i < l.length := by rw [hl] at hc; simpa using hc
    obtain ⟨j, rfl⟩ : ∃ j, i = j + 1 := ⟨i - 1, by omega⟩
    refine idx_rdN hs rfl hil fun p2 _ hp2 => ?_
    refine ld_int (fld_oId.rd hp2) (hExt.refl _) ?_
    have hbd := hs.bound
    refine ar_i64 (by omega) (by omega) ?_
    rw [show ((j + 1 : Nat) : Int) - 1 = (j : Int) by omega]
    refine idx_rdN hs rfl (show j < l.length by omega) fun p3 _ hp3 => ?_
    refine ld_int (fld_oId.rd hp3) (hExt.refl _) ?_
    refine ifB_intro (fun he => ?_) (fun he => ?_)
    · have he := of_decide_eq_true he
      refine ⟨congrArg Value.bool (decide_eq_false fun hr => ?_).symm, rfl⟩
      have := rising_iff.1 hr j hil
      omega
    · have he := of_decide_eq_false he
      refine ar_i64 (by omega) (by have := hs.bound; omega) ⟨l.length + 1 - (j + 1 + 1), by omega, j + 1 + 1, rfl, by omega, rfl, rfl, fun k hk hlt => ?_⟩
      by_cases e : k = j
      · subst e; omega
      · exact hno k hk (by omega)
  · have hil : l.length ≤ i := by rw [hl] at hc; simpa using hc
    exact ⟨congrArg Value.bool (decide_eq_true (rising_iff.2 fun k hk => hno k hk (by omega))).symm, rfl⟩

theorem sameArgs_calls {h : Heap} {a b : Sl} {A B : List MArg} (ha : rdSl rArg.el h a A) (hb : rdSl rArg.el h b B) :
    ACalls Try.prog F_lateenref22_SameArgs [a.v, b.v] h (fun v h' => v = .bool (decide (A = B)) ∧ h' = h) := by
  refine lateenref22_SameArgs_of ?_
  unfold lateenref22_SameArgs
  have hla := ha.lenEq
  have hlb := hb.lenEq
  refine ifB_intro (fun hc => ?_) (fun hc => ?_)
  · refine ⟨congrArg Value.bool (decide_eq_false fun e => ?_).symm, rfl⟩
    subst e
    rw [hla, hlb] at hc
    simp at hc
  have hAB : A.length = B.length := by rw [hla, hlb] at hc; simp at hc; omega
  refine loop_intro (fun m (q : Int) h' => ∃ i : Nat, q = i ∧ i ≤ A.length ∧ m = A.length - i ∧ h' = h ∧ A.take i = B.take i) A.length
    ⟨0, rfl, by omega, by omega, rfl, rfl⟩ ?_
  rintro _ _ _ h3 ⟨i, rfl, hi, rfl, rfl, hsame⟩
  refine ifB_intro (fun hc => ?_) (fun hc => ?_)
  · have hil : i < A.length := by rw [hla] at hc; simpa using hc
    have hib : i < B.length := by omega
    refine idx_rdN ha rfl hil fun p2 _ hp2 => ?_
    refine ld_agg hp2 (hExt.refl _) rfl fun cs hcs => ?_
    refine idx_rdN hb rfl hib fun p3 _ hp3 => ?_
    refine ld_agg hp3 (hExt.refl _) rfl fun ds hds => ?_
    refine eq_arg hcs hds ?_
    refine ifB_intro (fun he => ?_) (fun he => ?_)
    · have he : A[i] ≠ B[i] := by simpa using he
      refine ⟨congrArg Value.bool (decide_eq_false fun e => he ?_).symm, rfl⟩
      subst e; rfl
    · have he : A[i] = B[i] := by simpa using he
      refine ar_i64 (by omega) (by have := ha.bound; omega) ⟨A.length - (i + 1), by omega, i + 1, rfl, by omega, rfl, rfl, ?_⟩
      rw [List.take_succ_eq_append_getElem hil, List.take_succ_eq_append_getElem hib, hsame, he]
  · have hil : A.length ≤ i := by rw [hla] at hc; simpa using hc
    rw [List.take_of_length_le hil, List.take_of_length_le (by omega)] at hsame
    exact ⟨congrArg Value.bool (decide_eq_true hsame).symm, rfl⟩

theorem few_calls {h : Heap} {s : Sl} {l : List MObj} (hs : rdSl rObj.el h s l) :
    ACalls Try.prog F_lateenref22_Few [s.v] h (fun v h' => v = .bool (fewF l) ∧ h' = h) := by
  refine lateenref22_Few_of ?_
  unfold lateenref22_Few
  have hl := hs.lenEq
  refine ifB_intro (fun hc => ?_) (fun hc => ?_)
  · refine ⟨?_, rfl⟩
    have : ¬ l.length ≤ 40 := by rw [hl] at hc; have := of_decide_eq_true hc; omega
    simp [fewF, this]
  have h40 : l.length ≤ 40 := by rw [hl] at hc; have := of_decide_eq_false hc; omega
  refine loop_intro (fun m (q : Int) h' => ∃ i : Nat, q = i ∧ i ≤ l.length ∧ m = l.length - i ∧ h' = h ∧ ∀ k (hk : k < l.length), k < i → l[k].vals.length ≤ 20) l.length
    ⟨0, rfl, by omega, by omega, rfl, fun k _ h => by omega⟩ ?_
  rintro _ _ _ h3 ⟨i, rfl, hi, rfl, rfl, hno⟩
  refine ifB_intro (fun hc => ?_) (fun hc => ?_)
  · have hil : i < l.length := by rw [hl] at hc; simpa using hc
    refine idx_rdN hs rfl hil fun p2 _ hp2 => ?_
    refine ld_lst (fld_oVals.rd hp2) (hExt.refl _) fun t ht => ?_
    have htl := ht.lenEq
    refine ifB_intro (fun he => ?_) (fun he => ?_)
    · have he : ¬ l[i].vals.length ≤ 20 := by rw [htl] at he; have := of_decide_eq_true he; omega
      refine ⟨?_, rfl⟩
      have : (l.all fun o => decide (o.vals.length ≤ 20)) = false := by
        rw [List.all_eq_false]
        exact ⟨l[i], List.getElem_mem hil, by simpa using he⟩
      simp [fewF, this]
    · have he : l[i].vals.length ≤ 20 := by rw [htl] at he; have := of_decide_eq_false he; omega
      refine ar_i64 (by omega) (by have := hs.bound; omega) ⟨l.length - (i + 1), by omega, i + 1, rfl, by omega, rfl, rfl, fun k hk hlt => ?_⟩
      by_cases e : k = i
      · subst e; exact he
      · exact hno k hk (by omega)
  · have hil : l.length ≤ i := by rw [hl] at hc; simpa using hc
    refine ⟨?_, rfl⟩
    have : (l.all fun o => decide (o.vals.length ≤ 20)) = true := by
      rw [List.all_eq_true]
      intro x hx
      obtain ⟨j, hj, rfl⟩ := List.getElem_of_mem hx
      exact decide_eq_true (hno j hj (by omega))
    simp [fewF, this, h40]
theorem few_iff {l : List MObj} (h : fewF l = true) : l.length ≤ 40 ∧ ∀ o ∈ l, o.vals.length ≤ 20 := by
  unfold fewF at h
  simpa using h

end Go.Proofs.Ytncbpalncgcoaaa
