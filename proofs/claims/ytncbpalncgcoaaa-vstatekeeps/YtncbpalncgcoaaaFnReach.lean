/-
  vstate.Reach.
-/
import Derived.Test.YtncbpalncgcoaaaFnKeys
import Derived.Test.YtncbpalncgcoaaaPlReach
namespace Go.Proofs.Ytncbpalncgcoaaa
open Go.Fw Go.Fw.I Go.Pl.Api Go.Pl.Vst

def cN (l : List MObj) (ks : List Int) : Nat := (l.filter fun o => decide (o.id ∉ ks)).length
theorem cN_add {l : List MObj} {ks : List Int} {o : MObj} (ho : o ∈ l) (hn : o.id ∉ ks) : cN l (ks ++ [o.id]) + 1 ≤ cN l ks := by
  unfold cN
  have e : (l.filter fun p => decide (p.id ∉ ks ++ [o.id])) = (l.filter fun p => decide (p.id ∉ ks)).filter fun p => decide (p.id ≠ o.id) := by
    rw [List.filter_filter]
    congr 1
    funext p
    simp only [List.mem_append, List.mem_singleton, not_or, ne_eq, Bool.decide_and]
    rw [Bool.and_comm]
  rw [e]
  have : ((l.filter fun p => decide (p.id ∉ ks)).filter fun p => decide (p.id ≠ o.id)).length < (l.filter fun p => decide (p.id ∉ ks)).length := by
    rw [List.length_filter_lt_length_iff_exists]
    exact ⟨o, List.mem_filter.2 ⟨ho, decide_eq_true hn⟩, by simp⟩
  omega
theorem aget_none {k : Int} : ∀ {M : List (Int × Bool)}, aget k M = none → k ∉ M.map Prod.fst ∧ ∀ x, aput k x M = M ++ [(k, x)]
  | [], _ => ⟨by simp, fun x => rfl⟩
  | p :: M, h => by
    unfold aget at h
    split at h
    · cases h
    · rename_i hne
      obtain ⟨h1, h2⟩ := aget_none h
      exact ⟨by simp only [List.map_cons, List.mem_cons, not_or]; exact ⟨hne, h1⟩, fun x => by unfold aput; rw [if_neg hne, h2]; rfl⟩
theorem aget_mem {k : Int} {x : Bool} : ∀ {M : List (Int × Bool)}, aget k M = some x → (k, x) ∈ M
  | p :: M, h => by
    unfold aget at h
    split at h
    · rename_i e
      injection h with h
      subst e h
      exact List.mem_cons_self
    · exact List.mem_cons_of_mem _ (aget_mem h)

set_option maxHeartbeats 1000000 in
theorem vReach_calls {h : Heap} {s la : Sl} {l : List MObj} {A : List MArg} (hs : rdSl rObj.el h s l) (hA : rdSl rArg.el h la A) (hr : Rising l) (hn : l.length ≤ 1000) (hv : ∀ o ∈ l, o.vals.length ≤ 1000) (hAn : A.length ≤ 1000)
    (hid : ∀ o ∈ l, -9223372036854775808 ≤ o.id ∧ o.id ≤ 9223372036854775807) :
    ACalls Try.prog F_vstate_Reach [s.v, la.v] h (fun v h' => ∃ s' : Sl, v = s'.v ∧ Sep h h' [ownSl si_Lint64 eInt s' (reachF l A)]) := by
  refine vstate_Reach_of ?_
  unfold vstate_Reach
  refine mkm_rule (vf := vfB) (Sep.start h) fun m h1 o1 S1 => ?_
  refine (clone_calls (hA.old o1) (by omega)).mono ?_
  rintro v h2 ⟨t0, rfl, S2⟩
  refine ⟨_, rfl, ?_⟩
  refine loop_intro (fun n (t : Sl) h' => ∃ (T : List MArg) (M : List (Int × Bool)), Sep h h' [ownSl si_Lapi_Arg eArg t T, ownM vfB m M] ∧ (∀ x ∈ M, x.2 = true) ∧ RInv l A T (M.map Prod.fst) ∧
      n = cN l (M.map Prod.fst) * 1001 + T.length ∧ M.length + cN l (M.map Prod.fst) ≤ l.length ∧ T.length + cN l (M.map Prod.fst) * 1000 ≤ 1001000) (cN l [] * 1001 + A.length)
    ⟨A, [], S1.frame S2, by simp, RInv.start l A, rfl, ?_, ?_⟩ ?_
  · simp only [List.length_nil, List.map_nil, cN]
    have := List.length_filter_le (fun o => decide (o.id ∉ ([] : List Int))) l
    omega
  · simp only [List.map_nil, cN]
    have := List.length_filter_le (fun o => decide (o.id ∉ ([] : List Int))) l
    omega
  clear S1 S2
  rintro _ _ t h3 ⟨T, M, S, htrue, R, rfl, hML, hTL⟩
  have hl := S.rd.lenEq
  have o3 := S.old
  refine ifB_intro (fun hc => ?_) (fun hc => ?_)
  · have hT0 : 0 < T.length := by rw [hl] at hc; simpa using hc
    obtain ⟨T', a, rfl⟩ : ∃ T' a, T = T' ++ [a] := ⟨T.dropLast, T.getLast (by intro e; rw [e] at hT0; simp at hT0), (List.dropLast_concat_getLast _).symm⟩
    have hlen : (T' ++ [a]).length = T'.length + 1 := by simp
    rw [hl, hlen, show ((T'.length + 1 : Nat) : Int) - 1 = (T'.length : Int) by omega]
    refine ar_i64 (by omega) (by omega) ?_
    refine idx_rdN S.rd rfl (show T'.length < (T' ++ [a]).length by simp) fun p _ hp => ?_
    have hp' : rArg.el.rd h3 p a := by
      have : eArg.rd h3 p a := by simpa using hp
      exact this
    refine ld_agg hp' (hExt.refl _) rfl fun cs hcs => ?_
    have hcs' : rArg.rv h cs.toList a := rv_arg.2 (rv_arg.1 hcs)
    refine new_stX hcs (hExt.refl _) rfl rfl fun p1 h5 o5 hb1 => ?_
    refine ar_i64 (by omega) (by omega) ?_
    refine slc_to (k := (T'.length : Int)) (S.grow o5) (by omega) (by simp; omega) fun s1 S5 => ?_
    rw [Int.toNat_natCast, List.take_left' rfl] at S5
    obtain ⟨_, c, hc1, hc2⟩ := hb1
    refine ⟨c.toArray, ⟨by simp [rArg.len hc2]; rfl, fun j v hj => hc1 j v (by simpa using hj)⟩, ?_⟩
    refine (find_callsB (a := a) hs S5.old (by simpa using rv_arg.2 (rv_arg.1 hc2)) hr (by omega)).mono ?_
    rintro v h6 ⟨ds, rfl, o6, hds⟩
    refine ⟨_, _, rfl, ?_⟩
    refine new_stB (S5.grow o6) hds rfl rfl fun p2 h8 S8 => ?_
    have hb2 := S8.bx
    intro k hk
    have skip : done l (M.map Prod.fst) a → k true h8 := fun hd => hk _ _ fun _ => ifB_true rfl ⟨cN l (M.map Prod.fst) * 1001 + T'.length, by omega, T', M, S8.drop, htrue, R.skip hd, rfl, hML, by omega⟩
    cases hf : findF l a with
    | none =>
      refine ifB_true rfl (skip (done_none hr fun o ho => by rw [hf] at ho; cases ho))
    | some o =>
      obtain ⟨h5, ho, hoid⟩ := findF_some hf
      rw [hf] at hb2 S8
      refine ifB_false rfl ?_
      refine ld_intX (fld_argKind.bx (fld_oReal.bx hb2)) ?_
      refine ifB_intro (fun hr0 => skip (done_none hr fun o' ho' hv' => ?_)) (fun hr0 => ?_)
      · rw [hf] at ho'
        injection ho' with ho'
        subst ho'
        have : o.real.kind ≠ 0 := by simpa using hr0
        exact absurd hv' this
      have hvirt : o.real.kind = 0 := by simpa using hr0
      refine ld_intX (fld_oId.bx hb2) ?_
      refine mlk_rule (rdM_of S8.rot3) ?_
      cases hg : aget o.id M with
      | some y =>
        have hy := htrue _ (aget_mem hg)
        simp only at hy
        subst hy
        refine ⟨true, by simp [hg, vfB]; rfl, skip (done_none hr fun o' ho' _ => ?_)⟩
        rw [hf] at ho'
        injection ho' with ho'
        subst ho'
        exact List.mem_map.2 ⟨_, aget_mem hg, rfl⟩
      | none =>
        refine ⟨false, by simp [hg]; rfl, ?_⟩
        obtain ⟨hno, hput⟩ := aget_none hg
        refine hk _ _ fun _ => ifB_false rfl ?_
        refine ld_intX (fld_oId.bx hb2) ?_
        refine mup_rule (x := true) S8.rot3 rfl fun h10 S10 => ?_
        have hput' : aput ((Option.some o).getD zObj).id true M = M ++ [(o.id, true)] := hput true
        rw [hput'] at S10
        have S11 := S10.swap
        refine ld_lstX (fld_oVals.bx S11.bx) fun x hx => ?_
        have hx : rdSl rArg.el h x o.vals := hx
        have S12 := S11.drop.swap
        have hov := hv o ho
        have hcn := cN_add ho hno
        have hx10 : rdSl eArg h10 x o.vals := rd_arg.2 (hx.old S12.old)
        refine app_copy S12 flat_arg hx10 (by simp only [si_Lapi_Arg]; simp only [List.length_append, List.length_singleton] at hTL; omega) (by simp only [List.length_append, List.length_singleton] at hTL; omega) fun s2 h11 S13 => ?_
        have hks : (M ++ [(o.id, true)]).map Prod.fst = M.map Prod.fst ++ [o.id] := by simp
        refine ⟨cN l ((M ++ [(o.id, true)]).map Prod.fst) * 1001 + (T' ++ o.vals).length, ?_, T' ++ o.vals, M ++ [(o.id, true)], S13, fun z hz => ?_, ?_, rfl, ?_, ?_⟩
        · rw [hks]; simp only [List.length_append]; omega
        · rcases List.mem_append.1 hz with hz | hz
          · exact htrue z hz
          · simp at hz; subst hz; rfl
        · rw [hks]; exact R.add hr hf hvirt hno
        · rw [hks]; simp only [List.length_append, List.length_singleton]; omega
        · rw [hks]; simp only [List.length_append, List.length_singleton] at hTL ⊢; omega
  · have hT0 : T = [] := by rw [hl] at hc; simpa using hc
    subst hT0
    refine keys_calls.mono ?_
    rintro v h12 ⟨b, rfl, o12, hb12, hc12⟩
    refine ⟨_, rfl, ?_⟩
    obtain ⟨f, bm, es, clock, hmb, _⟩ := S.drop.get
    subst hmb
    refine (sorted_calls (S.drop.grow o12) hb12 hc12 (by omega) fun x hx => ?_).mono ?_
    · obtain ⟨o, ho, he⟩ := R.sound x.1 (List.mem_map.2 ⟨x, hx, rfl⟩)
      have := hid o ho.mem.1
      omega
    · rintro v h13 ⟨s', ss, rfl, hp, S13⟩
      refine ⟨_, rfl, s', rfl, ?_⟩
      rw [R.result hr hp] at S13
      exact S13.since (o3.trans o12)

end Go.Proofs.Ytncbpalncgcoaaa
