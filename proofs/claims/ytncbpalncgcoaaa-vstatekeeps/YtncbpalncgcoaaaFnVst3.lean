/-
  vstate: copies; Find.
-/
import Derived.Test.YtncbpalncgcoaaaFnVst2
namespace Go.Proofs.Ytncbpalncgcoaaa
open Go.Fw Go.Pl.Api Go.Pl.Vst

theorem clone_calls {h : Heap} {s : Sl} {l : List MArg} (hs : rdSl rArg.el h s l) (hn : l.length ≤ 1000000) :
    ACalls Try.prog F_slices_Clone [s.v] h (fun v h' => ∃ s' : Sl, v = s'.v ∧ Sep h h' [ownSl si_Lapi_Arg eArg s' l]) := by
  refine slices_Clone_of ?_
  unfold slices_Clone
  have hl := hs.lenEq
  refine ifB_intro (fun hc => ?_) (fun hc => ?_)
  · obtain ⟨h1, h2, h3, h4, h5⟩ := hs
    have ha : s.a = none := by simpa using hc
    have := h4 ha
    have : l = [] := List.length_eq_zero_iff.1 (by omega)
    subst this
    exact ⟨_, rfl, (Sep.start h).nil rfl⟩
  · refine bld_rule (E := eArg) (us := []) (l := []) (Sep.start h).rowNil (by simp [Instr.fill, madeCells]) rfl rfl (by decide) (by decide) fun s1 h1 S1 => ?_
    refine app_copy S1 flat_arg (rd_arg.2 (hs.old S1.old)) (by simp only [List.length_nil, si_Lapi_Arg]; omega) (by simp only [List.length_nil]; omega) fun s2 h2 S2 => ?_
    exact ⟨_, rfl, S2⟩

theorem objCopied_calls {h : Heap} {cs : Array Value} {o : MObj} (ho : rObj.rv h cs.toList o) (hn : o.vals.length ≤ 1000000) :
    ACalls Try.prog F_vstate_Obj_copied [.agg cs] h (fun v h' => ∃ ds : Array Value, v = .agg ds ∧ ds.size = 6 ∧ Sep h h' [ownEl (eObj si_Lapi_Arg) ds.toList o]) := by
  refine vstate_Obj_copied_of ?_
  unfold vstate_Obj_copied
  obtain ⟨s, rfl, hs⟩ := arr_obj ho
  refine new_rawB (Sep.start h) fun p h1 o1 S1 => ?_
  refine new_rawB S1 fun p1 h2 o2 S2 => ?_
  refine ld_rawB (i := 2) (k := .sl) (x := s) S2.swap rfl rfl ?_
  refine (clone_calls (hs.old S2.old) hn).mono ?_
  rintro v h3 ⟨s', rfl, S3⟩
  refine ⟨_, rfl, ?_⟩
  have S := (S2.frame S3).rot3
  refine st_rawB S (by simp) rfl fun h4 S4 => ?_
  refine ld_rawAgg S4 rfl ?_
  refine st_allB S4.rot3 rfl rfl (fun v hv => ?_) fun h5 S5 => ?_
  · simp at hv
    rcases hv with rfl | rfl | rfl | rfl | rfl | rfl <;> rfl
  · refine ld_rawAgg S5 rfl ⟨_, rfl, rfl, ?_⟩
    exact S5.drop.drop.conv loc_ownEl fun f hf => ⟨f, List.Sublist.refl f, s', rfl, hf⟩

theorem copied_calls {h : Heap} {s : Sl} {l : List MObj} (hs : rdSl rObj.el h s l) (hn : l.length ≤ 1000000) (hv : ∀ o ∈ l, o.vals.length ≤ 1000000) :
    ACalls Try.prog F_vstate_copied [s.v] h (fun v h' => ∃ s' : Sl, v = s'.v ∧ Sep h h' [ownSl si_Lvstate_Obj (eObj si_Lapi_Arg) s' l]) := by
  refine vstate_copied_of ?_
  unfold vstate_copied
  have hl := hs.lenEq
  refine loop_intro (fun m (q : Sl × Int) h' => ∃ i : Nat, q.2 = i ∧ i ≤ l.length ∧ m = l.length - i ∧ Sep h h' [ownSl si_Lvstate_Obj (eObj si_Lapi_Arg) q.1 (l.take i)]) l.length
    ⟨0, rfl, by omega, by omega, (Sep.start h).nil rfl⟩ ?_
  rintro _ _ ⟨out, i⟩ h1 ⟨i, hi0, hi, rfl, S⟩
  simp only at hi0 S ⊢
  subst hi0
  refine ifB_intro (fun hc => ?_) (fun hc => ?_)
  · have hil : i < l.length := by rw [hl] at hc; simpa using hc
    refine idx_rdN hs rfl hil fun p _ hp => ?_
    refine ld_agg hp S.old.ext rfl fun cs hcs => ?_
    refine new_stB S hcs rfl rfl fun p1 h3 S3 => ?_
    have hbx := S3.bx
    obtain ⟨hsp, c, hc1, hc2⟩ := hbx
    refine ⟨c.toArray, ⟨by simp [rObj.len hc2]; rfl, fun j v hj => hc1 j v (by simpa using hj)⟩, ?_⟩
    refine (objCopied_calls (o := l[i]) (h := h3) (by simpa using rObj.ext hc2 S3.old.ext) (hv _ (List.getElem_mem hil))).mono ?_
    rintro v h4 ⟨ds, rfl, hds, S4⟩
    refine ⟨_, rfl, ?_⟩
    have S5 : Sep h h4 (ownSl si_Lvstate_Obj (eObj si_Lapi_Arg) out (l.take i) :: ownEl (eObj si_Lapi_Arg) (Value.agg ds).cells.toList l[i] :: [boxA rObj h p1 l[i]]) := (S3.frame S4).rot3
    refine app1_rule S5 rfl (by decide) (by simp only [List.length_take, si_Lvstate_Obj]; omega) (by simp only [List.length_take]; omega) fun s' h' S' => ?_
    refine ar_i64 (by omega) (by have := hs.bound; omega) ⟨l.length - (i + 1), by omega, i + 1, rfl, by omega, rfl, ?_⟩
    rw [List.take_succ_eq_append_getElem hil]
    exact S'.swap.drop
  · have hil : l.length ≤ i := by rw [hl] at hc; simpa using hc
    rw [List.take_of_length_le hil] at S
    exact ⟨out, rfl, S⟩

theorem Find_calls {h : Heap} {s : Sl} {l : List MObj} {cs : Array Value} {a : MArg} (hs : rdSl rObj.el h s l) (ha : rArg.rv h cs.toList a) (hr : Rising l) (hn : l.length ≤ 4611686018427387903) (hv : ∀ o ∈ l, o.vals.length ≤ 1000000) :
    ACalls Try.prog F_vstate_Find [s.v, .agg cs] h (fun v h' => ∃ ds : Array Value, v = .tuple #[.agg ds, .bool (findF l a).isSome] ∧ ds.size = 6 ∧ Sep h h' [ownEl (eObj si_Lapi_Arg) ds.toList ((findF l a).getD zObj)]) := by
  refine vstate_Find_of ?_
  unfold vstate_Find
  refine new_rv ha fun p h1 o1 hp => ?_
  refine new_rawB (Sep.start h1) fun p1 h2 o2 S2 => ?_
  refine ld_agg hp o2.ext rfl fun cs1 hcs1 => ?_
  refine (find_calls (hs.old (o1.trans o2)) (rArg.ext hcs1 o2.ext) hr hn).mono ?_
  rintro v h3 ⟨ds, rfl, o3, hds⟩
  refine ⟨_, _, rfl, ?_⟩
  refine new_stX hds o3.ext rfl rfl fun p2 h5 o5 hb5 => ?_
  obtain ⟨hsp, c, hc1, hc2⟩ := hb5
  refine ⟨c.toArray, ⟨by simp [rObj.len hc2]; rfl, fun j v hj => hc1 j v (by simpa using hj)⟩, ?_⟩
  have hb : ((findF l a).getD zObj).vals.length ≤ 1000000 := by
    cases hf : findF l a with
    | none => simp [zObj]
    | some o =>
      refine hv _ ?_
      unfold findF at hf
      split at hf
      · exact List.mem_of_find?_eq_some hf
      · cases hf
  have o35 := o3.trans o5
  refine (objCopied_calls (h := h5) (by simpa using rObj.ext hc2 o35.ext) hb).mono ?_
  rintro v h6 ⟨es, rfl, hes, S6⟩
  refine ⟨_, rfl, ?_⟩
  have S7 := ((S2.grow o35).frame S6).swap
  refine st_allB S7 rfl hes (fun v hv => ?_) fun h7 S8 => ?_
  · obtain ⟨f, ho⟩ := S6.get
    exact (eObj si_Lapi_Arg).one ho v hv
  · refine ld_rawAgg S8 hes.symm ⟨es, rfl, hes, ?_⟩
    exact S8.drop.since o1

end Go.Proofs.Ytncbpalncgcoaaa
