/-
  vstate.Reach.
-/
import Derived.Test.YtncbpalncgcoaaaFnKeys
import Derived.Test.YtncbpalncgcoaaaPlVst
import Derived.Lib.Overlaps
namespace Go.Proofs.Ytncbpalncgcoaaa
open Go.Fw Go.Fw.I Go.Pl.Api Go.Pl.Vst

def cN (l : List MObj) (ks : List Int) : Nat := (l.filter fun o => decide (o.id ∉ ks)).length
theorem cN_add {l : List MObj} {ks : List Int} {o : MObj} (ho : o ∈ l) (hn : o.id ∉ ks) : cN l (ks ++ [o.id]) + 1 ≤ cN l ks := by
  unfold cN
  have e : (l.filter fun p => decide (p.id ∉ ks ++ [o.id])) = (l.filter fun p => decide (p.id ∉ ks)).filter fun p => decide (p.id ≠ o.id) := by
    rw [List.filter_filter]
    congr 1
    funext p
    simp only [List.mem_append, List.mem_singleton, not_or, ne_eq, Bool.decide_and]
    rw [Bool.and_comm]
  rw [e]
  have : ((l.filter fun p => decide (p.id ∉ ks)).filter fun p => decide (p.id ≠ o.id)).length < (l.filter fun p => decide (p.id ∉ ks)).length := by
    rw [List.length_filter_lt_length_iff_exists]
    exact ⟨o, List.mem_filter.2 ⟨ho, decide_eq_true hn⟩, by simp⟩
  omega
theorem aget_none {k : Int} : ∀ {M : List (Int × Bool)}, aget k M = none → k ∉ M.map Prod.fst ∧ ∀ x, aput k x M = M ++ [(k, x)]
  | [], _ => ⟨by simp, fun x => rfl⟩
  | p :: M, h => by
    unfold aget at h
    split at h
    · cases h
    · rename_i hne
      obtain ⟨h1, h2⟩ := aget_none h
      exact ⟨by simp only [List.map_cons, List.mem_cons, not_or]; exact ⟨hne, h1⟩, fun x => by unfold aput; rw [if_neg hne, h2]; rfl⟩
theorem aget_mem {k : Int} {x : Bool} : ∀ {M : List (Int × Bool)}, aget k M = some x → (k, x) ∈ M
  | p :: M, h => by
    unfold aget at h
    split at h
    · rename_i e
      injection h with h
      subst e h
      exact List.mem_cons_self
    · exact List.mem_cons_of_mem _ (aget_mem h)

set_option maxHeartbeats 1000000 in
theorem vReach_calls {h : Heap} {s la : Sl} {l : List MObj} {A : List MArg} (hs : rdSl rObj.el h s l) (hA : rdSl rArg.el h la A) (hr : Rising l) (hn : l.length ≤ 1000) (hv : ∀ o ∈ l, o.vals.length ≤ 1000) (hAn : A.length ≤ 1000)
    (hid : ∀ o ∈ l, -9223372036854775808 ≤ o.id ∧ o.id ≤ 9223372036854775807) :
    ACalls Try.prog F_vstate_Reach [s.v, la.v] h (fun v h' => ∃ s' : Sl, v = s'.v ∧ Sep h h' [ownSl si_Lint64 eInt s' (reachF l A)]) := by
  refine vstate_Reach_of ?_
  unfold vstate_Reach
  refine mkm_rule (vf := vfB) (Sep.start h) fun m h1 o1 S1 => ?_
  refine (clone_calls (hA.old o1) (by omega)).mono ?_
  rintro v h2 ⟨t0, rfl, S2⟩
  refine ⟨_, rfl, ?_⟩
  refine loop_intro (fun n (t : Sl) h' => ∃ (T : List MArg) (M : List (Int × Bool)), Sep h h' [ownSl si_Lapi_Arg eArg t T, ownM vfB m M] ∧ (∀ x ∈ M, x.2 = true) ∧ RInv l A T (M.map Prod.fst) ∧
      n = cN l (M.map Prod.fst) * 1001 + T.length ∧ M.length + cN l (M.map Prod.fst) ≤ l.length ∧ T.length + cN l (M.map Prod.fst) * 1000 ≤ 1001000) (cN l [] * 1001 + A.length)
    ⟨A, [], S1.frame S2, by simp, RInv.start l A, rfl, ?_, ?_⟩ ?_
  · simp only [List.length_nil, List.map_nil, cN]
    have := List.length_filter_le (fun o => decide (o.id ∉ ([] : List Int))) l
    omega
  · simp only [List.map_nil, cN]
    have := List.length_filter_le (fun o => decide (o.id ∉ ([] : List Int))) l
    omega
  clear S1 S2
  rintro _ _ t h3 ⟨T, M, S, htrue, R, rfl, hML, hTL⟩
  have hl := S.rd.lenEq
  have o3 := S.old
  refine ifB_intro (fun hc => ?_) (fun hc => ?_)
  · have hT0 : 0 < T.length := by rw [hl] at hc; simpa using hc
    obtain ⟨T', a, rfl⟩ : ∃ T' a, T = T' ++ [a] := ⟨T.dropLast, T.getLast (by intro e; rw [e] at hT0; simp at hT0), (List.dropLast_concat_getLast _).symm⟩
    have hlen : (T' ++ [a]).length = T'.length + 1 := by simp
    rw [hl, hlen, show ((T'.length + 1 : Nat) : Int) - 1 = (T'.length : Int) by omega]
    refine ar_i64 (by omega) (by omega) ?_
    refine idx_rdN S.rd rfl (show T'.length < (T' ++ [a]).length by simp) fun p _ hp => ?_
    have hp' : rArg.el.rd h3 p a := by
      have : eArg.rd h3 p a := by simpa using hp
      exact this
    refine ld_agg hp' (hExt.refl _) rfl fun cs hcs => ?_
    have hcs' : rArg.rv h cs.toList a := rv_arg.2 (rv_arg.1 hcs)
    refine new_stX hcs (hExt.refl _) rfl rfl fun p1 h5 o5 hb1 => ?_
    refine ar_i64 (by omega) (by omega) ?_
    refine slc_to (k := (T'.length : Int)) (S.grow o5) (by omega) (by simp; omega) fun s1 S5 => ?_
    rw [Int.toNat_natCast, List.take_left' rfl] at S5
    obtain ⟨_, c, hc1, hc2⟩ := hb1
    refine ⟨c.toArray, ⟨by simp [rArg.len hc2]; rfl, fun j v hj => hc1 j v (by simpa using hj)⟩, ?_⟩
    refine (find_callsB (a := a) hs S5.old (by simpa using rv_arg.2 (rv_arg.1 hc2)) hr (by omega)).mono ?_
    rintro v h6 ⟨ds, rfl, o6, hds⟩
    refine ⟨_, _, rfl, ?_⟩
    refine new_stB (S5.grow o6) hds rfl rfl fun p2 h8 S8 => ?_
    have hb2 := S8.bx
    intro k hk
    have skip : done l (M.map Prod.fst) a → k true h8 := fun hd => hk _ _ fun _ => ifB_true rfl ⟨cN l (M.map Prod.fst) * 1001 + T'.length, by omega, T', M, S8.drop, htrue, R.skip hd, rfl, hML, by omega⟩
    cases hf : findF l a with
    | none =>
      refine ifB_true rfl (skip (done_none hr fun o ho => by rw [hf] at ho; cases ho))
    | some o =>
      obtain ⟨h5, ho, hoid⟩ := findF_some hf
      rw [hf] at hb2 S8
      refine ifB_false rfl ?_
      refine ld_intX (fld_argKind.bx (fld_oReal.bx hb2)) ?_
      refine ifB_intro (fun hr0 => skip (done_none hr fun o' ho' hv' => ?_)) (fun hr0 => ?_)
      · rw [hf] at ho'
        injection ho' with ho'
        subst ho'
        have : o.real.kind ≠ 0 := by simpa using hr0
        exact absurd hv' this
      have hvirt : o.real.kind = 0 := by simpa using hr0
      refine ld_intX (fld_oId.bx hb2) ?_
      refine mlk_rule (rdM_of S8.rot3) ?_
      cases hg : aget o.id M with
      | some y =>
        have hy := htrue _ (aget_mem hg)
        simp only at hy
        subst hy
        refine ⟨true, by simp [hg, vfB]; rfl, skip (done_none hr fun o' ho' _ => ?_)⟩
        rw [hf] at ho'
        injection ho' with ho'
        subst ho'
        exact List.mem_map.2 ⟨_, aget_mem hg, rfl⟩
      | none =>
        refine ⟨false, by simp [hg]; rfl, ?_⟩
        obtain ⟨hno, hput⟩ := aget_none hg
        refine hk _ _ fun _ => ifB_false rfl ?_
        refine ld_intX (fld_oId.bx hb2) ?_
        refine mup_rule (x := true) S8.rot3 rfl fun h10 S10 => ?_
        have hput' : aput ((Option.some o).getD zObj).id true M = M ++ [(o.id, true)] := hput true
        rw [hput'] at S10
        have S11 := S10.swap
        refine ld_lstX (fld_oVals.bx S11.bx) fun x hx => ?_
        have hx : rdSl rArg.el h x o.vals := hx
        have S12 := S11.drop.swap
        have hov := hv o ho
        have hcn := cN_add ho hno
        have hx10 : rdSl eArg h10 x o.vals := rd_arg.2 (hx.old S12.old)
        refine app_copy S12 flat_arg hx10 (by simp only [si_Lapi_Arg]; simp only [List.length_append, List.length_singleton] at hTL; omega) (by simp only [List.length_append, List.length_singleton] at hTL; omega) fun s2 h11 S13 => ?_
        have hks : (M ++ [(o.id, true)]).map Prod.fst = M.map Prod.fst ++ [o.id] := by simp
        refine ⟨cN l ((M ++ [(o.id, true)]).map Prod.fst) * 1001 + (T' ++ o.vals).length, ?_, T' ++ o.vals, M ++ [(o.id, true)], S13, fun z hz => ?_, ?_, rfl, ?_, ?_⟩
        · rw [hks]; simp only [List.length_append]; omega
        · rcases List.mem_append.1 hz with hz | hz
          · exact htrue z hz
          · simp at hz; subst hz; rfl
        · rw [hks]; exact R.add hr hf hvirt hno
        · rw [hks]; simp only [List.length_append, List.length_singleton]; omega
        · rw [hks]; simp only [List.length_append, List.length_singleton] at hTL ⊢; omega
  · have hT0 : T = [] := by rw [hl] at hc; simpa using hc
    subst hT0
    refine keys_calls.mono ?_
    rintro v h12 ⟨b, rfl, o12, hb12, hc12⟩
    refine ⟨_, rfl, ?_⟩
    obtain ⟨f, bm, es, clock, hmb, _⟩ := S.drop.get
    subst hmb
    refine (sorted_calls (S.drop.grow o12) hb12 hc12 (by omega) fun x hx => ?_).mono ?_
    · obtain ⟨o, ho, he⟩ := R.sound x.1 (List.mem_map.2 ⟨x, hx, rfl⟩)
      have := hid o ho.mem.1
      omega
    · rintro v h13 ⟨s', ss, rfl, hp, S13⟩
      refine ⟨_, rfl, s', rfl, ?_⟩
      rw [R.result hr hp] at S13
      exact S13.since (o3.trans o12)

end Go.Proofs.Ytncbpalncgcoaaa

/-
  The document's Reach.
-/
namespace Go.Proofs.Ytncbpalncgcoaaa
open Go.Fw Go.Fw.I Go.Pl.Api Go.Pl.Vst

theorem ldI {h0 h : Heap} {L : List As} {t : Sl} {I : List Bool} {i : Nat} {K : Bool → Prop} (S : Fw.Sep h0 h (ownSl si_Lbool eBool t I :: L)) (hi : i < I.length) (hK : K (I.getD i false)) :
    idx 1 t (i : Int) fun p => ld .bool h p fun x => K x := by
  refine idx_rdN S.rd rfl hi fun p _ hp => ld_one (k := .bool) hp ?_
  rw [List.getD_eq_getElem?_getD, List.getElem?_eq_getElem hi] at hK
  exact hK
theorem stI {h0 h : Heap} {L : List As} {t : Sl} {I : List Bool} {i : Nat} {x : Bool} {K : Heap → Prop} (S : Fw.Sep h0 h (ownSl si_Lbool eBool t I :: L)) (hi : i < I.length) (hK : ∀ h', Fw.Sep h0 h' (ownSl si_Lbool eBool t (I.set i x) :: L) → K h') :
    idx 1 t (i : Int) fun p => st [.bool x] h p fun h' => K h' := by
  refine idx_rdN S.rd rfl hi fun p hat _ => ?_
  exact st_flat S (x := x) (own_bool x) hat rfl hi hK
theorem set_self {I : List Bool} {i : Nat} (h : ¬ on I i) : I.set i false = I := by
  refine List.ext_getElem? fun j => ?_
  rw [List.getElem?_set]
  split
  · rename_i e
    subst e
    unfold on at h
    rw [List.getD_eq_getElem?_getD] at h
    split
    · rename_i hi
      rw [List.getElem?_eq_getElem hi] at h ⊢
      simpa using h
    · rename_i hi; rw [List.getElem?_eq_none (by omega)]
  · rfl
theorem set_same {I : List Bool} {i : Nat} (x y : Bool) : (I.set i x).set i y = I.set i y := List.set_set _
def test (o : MObj) (a : MArg) : Bool := a.kind == 5 && a.n == o.id
theorem hits_take {o : MObj} {l : List MArg} {k : Nat} (hk : k < l.length) : hits o (l.take (k + 1)) = (hits o (l.take k) || test o l[k]) := by
  unfold hits test
  rw [List.take_succ_eq_append_getElem hk, List.any_append]
  simp
theorem turn_arg {l : List MObj} {A : List MArg} {I : List Bool} {i : Nat} {hi : i < l.length} {k : Nat} {x : Bool} (t : Turn l A I i hi k 0 x) (hk : k < A.length) (hv : l[i].real.kind = 0) : Turn l A I i hi (k + 1) 0 (x || test l[i] A[k]) := by
  refine ⟨fun h => ?_, fun h => ?_, fun h z hz h0 => by omega⟩
  · cases x with
    | true => exact t.sound rfl
    | false =>
      simp only [Bool.false_or, test, Bool.and_eq_true, beq_iff_eq] at h
      exact .base (List.getElem_mem hi) hv (List.getElem_mem hk) h.1 h.2
  · rw [Bool.or_eq_false_iff] at h
    rw [hits_take hk, t.args h.1, h.2]; rfl

set_option maxHeartbeats 2000000 in
theorem refReach_calls {h : Heap} {s la : Sl} {l : List MObj} {A : List MArg} (hs : rdSl rObj.el h s l) (hA : rdSl rArg.el h la A) (hn : l.length ≤ 1000) :
    ACalls Try.prog F_lateenref22_Reach [s.v, la.v] h (fun v h' => ∃ s' : Sl, v = s'.v ∧ Fw.Sep h h' [ownSl si_Lint64 eInt s' (reachF l A)]) := by
  classical
  refine lateenref22_Reach_of ?_
  unfold lateenref22_Reach
  have hl := hs.lenEq
  have hlA := hA.lenEq
  rw [hl]
  refine ⟨rfl, ?_⟩
  refine mk_rule (x := false) (E := eBool) (Sep.start h) rfl (fun h => own_bool false h) (by omega) (by omega) (by simp only [si_Lbool]; omega) fun t h1 S1 => ?_
  rw [Int.toNat_natCast] at S1
  refine loop_intro (fun m (q : Int) h' => ∃ (n : Nat) (I : List Bool), q = n ∧ n ≤ l.length + 1 ∧ m = l.length + 1 - n ∧ Fw.Sep h h' [ownSl si_Lbool eBool t I] ∧ RndN l A n I) (l.length + 1)
    ⟨0, _, rfl, by omega, by omega, S1, RndN.start l A⟩ ?_
  clear S1
  rintro _ _ _ h2 ⟨n, I0, rfl, hnl, rfl, S2, R⟩
  refine ifB_intro (fun hc => ?_) (fun hc => ?_)
  · have hnl2 : n ≤ l.length := by simpa using hc
    refine loop_intro (fun m (q : Int) h' => ∃ (i : Nat) (I : List Bool), q = i ∧ i ≤ l.length ∧ m = l.length - i ∧ Fw.Sep h h' [ownSl si_Lbool eBool t I] ∧ Rnd l A I0 i I) l.length
      ⟨0, _, rfl, by omega, by omega, S2, R.enter⟩ ?_
    clear S2
    rintro _ _ _ h3 ⟨i, I, rfl, hil, rfl, S3, Q⟩
    refine ifB_intro (fun hc => ?_) (fun hc => ?_)
    · have hi : i < l.length := by simpa using hc
      have hiI : i < I.length := by rw [Q.len]; exact hi
      intro k hk
      have go : ∀ (h' : Heap) (I' : List Bool), Fw.Sep h h' [ownSl si_Lbool eBool t I'] → Rnd l A I0 (i + 1) I' → k () h' := fun h' I' S' Q' => hk _ _ fun _ =>
        ar_i64 (by omega) (by omega) ⟨l.length - (i + 1), by omega, i + 1, I', rfl, by omega, rfl, S', Q'⟩
      intro k1 hk1
      have skip : (l[i].real.kind ≠ 0 ∨ on I i) → k1 true h3 := fun hh => hk1 _ _ fun _ => ifB_true rfl (go h3 I S3 (Q.skip hi hh))
      refine idx_rdN hs rfl hi fun p18 _ hp18 => ?_
      refine ld_int (fld_argKind.rd (fld_oReal.rd hp18)) S3.old.ext ?_
      refine ifB_intro (fun hc => skip (.inl (by simpa using hc))) (fun hc => ?_)
      have hv : l[i].real.kind = 0 := by simpa using hc
      refine ldI S3 hiI ?_
      cases hIi : I.getD i false with
      | true => exact skip (.inr hIi)
      | false =>
      have hno : ¬ on I i := by unfold on; rw [hIi]; simp
      refine hk1 _ _ fun _ => ifB_false rfl ?_
      -- the arguments
      refine loop_intro (fun m (q : Int) h' => ∃ (k : Nat) (x : Bool), q = k ∧ k ≤ A.length ∧ m = A.length - k ∧ Fw.Sep h h' [ownSl si_Lbool eBool t (I.set i x)] ∧ Turn l A I i hi k 0 x) A.length
        ⟨0, false, rfl, by omega, by omega, by rw [set_self hno]; exact S3, ⟨fun h => (by cases h), fun _ => rfl, fun _ z _ h0 => (by omega)⟩⟩ ?_
      clear S3
      rintro _ _ _ h6 ⟨c, x, rfl, hcl, rfl, S6, Tn⟩
      have hiS : i < (I.set i x).length := by simpa using hiI
      have hget : (I.set i x).getD i false = x := by rw [getD_set hiI, if_pos rfl]
      refine ifB_intro (fun hc => ?_) (fun hc => ?_)
      · have hcA : c < A.length := by rw [hlA] at hc; simpa using hc
        intro k3 hk3
        have fin : ∀ (h' : Heap) (y : Bool), y = (x || test l[i] A[c]) → Fw.Sep h h' [ownSl si_Lbool eBool t ((I.set i x).set i y)] → k3 () h' := fun h' y hy S' => hk3 _ _ fun _ => by
          rw [set_same, hy] at S'
          exact ar_i64 (by omega) (by have := hA.bound; omega) ⟨A.length - (c + 1), by omega, c + 1, _, rfl, by omega, rfl, S', turn_arg Tn hcA hv⟩
        refine ldI S6 hiS ?_
        rw [hget]
        refine ifB_intro (fun hx => stI S6 hiS fun h8 S8 => fin h8 true (by rw [hx]; rfl) S8) (fun hx => ?_)
        refine idx_rdN hA rfl hcA fun p2 _ hp2 => ?_
        refine ld_int (fld_argKind.rd hp2) S6.old.ext ?_
        refine ifB_intro (fun h5 => ?_) (fun h5 => stI S6 hiS fun h8 S8 => fin h8 false (by rw [hx]; simp only [test, h5]; rfl) S8)
        refine idx_rdN hA rfl hcA fun p3 _ hp3 => ?_
        refine ld_int (fld_argN.rd hp3) S6.old.ext ?_
        refine idx_rdN hs rfl hi fun p4 _ hp4 => ?_
        refine ld_int (fld_oId.rd hp4) S6.old.ext ?_
        exact stI S6 hiS fun h8 S8 => fin h8 _ (by rw [hx]; simp only [test, h5]; rfl) S8
      -- the others' fields
      have hcA : c = A.length := by rw [hlA] at hc; have : A.length ≤ c := by simpa using hc
                                    omega
      subst hcA
      refine loop_intro (fun m (q : Int) h' => ∃ (j : Nat) (x : Bool), q = j ∧ j ≤ l.length ∧ m = l.length - j ∧ Fw.Sep h h' [ownSl si_Lbool eBool t (I.set i x)] ∧ Turn l A I i hi A.length j x) l.length
        ⟨0, x, rfl, by omega, by omega, S6, Tn⟩ ?_
      clear S6 Tn hiS hget
      rintro _ _ _ h11 ⟨j, x1, rfl, hjl, rfl, S11, Tn⟩
      refine ifB_intro (fun hc => ?_) (fun hc => ?_)
      · have hj : j < l.length := by simpa using hc
        refine loop_intro (fun m (q : Int) h' => ∃ (c : Nat) (x : Bool), q = c ∧ c ≤ l[j].vals.length ∧ m = l[j].vals.length - c ∧ Fw.Sep h h' [ownSl si_Lbool eBool t (I.set i x)] ∧ Turn l A I i hi A.length j x ∧ (x = false → hits l[i] (l[j].vals.take c) = false)) l[j].vals.length
          ⟨0, x1, rfl, by omega, by omega, S11, Tn, fun _ => rfl⟩ ?_
        clear S11 Tn
        rintro _ _ _ h12 ⟨c, x, rfl, hcl, rfl, S12, Tn, hpart⟩
        have hiS : i < (I.set i x).length := by simpa using hiI
        have hjS : j < (I.set i x).length := by rw [List.length_set, Q.len]; exact hj
        have hget : (I.set i x).getD i false = x := by rw [getD_set hiI, if_pos rfl]
        intro k5 hk5
        have stop : (x = false → on I j → hits l[i] l[j].vals = false) → k5 false h12 := fun hh => hk5 _ _ fun _ => ifB_false rfl <|
          ar_i64 (by omega) (by omega) ⟨l.length - (j + 1), by omega, j + 1, x, rfl, by omega, rfl, S12, ⟨Tn.sound, Tn.args, fun hx z hz hlt ho => by
            by_cases e : z = j
            · subst e; exact hh hx ho
            · exact Tn.vals hx z hz (by omega) ho⟩⟩
        refine idx_rdN hs rfl hj fun p16 _ hp16 => ?_
        refine ld_lst (fld_oVals.rd hp16) S12.old.ext fun vs hvs => ?_
        have hlv := hvs.lenEq
        refine ifB_intro (fun hc => ?_) (fun hc => ?_)
        · have hcv : c < l[j].vals.length := by rw [hlv] at hc; simpa using hc
          refine ldI S12 hjS ?_
          cases hIj : (I.set i x).getD j false with
          | false =>
            refine stop fun hx ho => ?_
            rw [getD_set hiI] at hIj
            split at hIj
            · rename_i e; subst e; exact absurd ho hno
            · unfold on at ho; rw [hIj] at ho; cases ho
          | true =>
          have hjr : x = true ∨ Rch l A l[j] := by
            rw [getD_set hiI] at hIj
            split at hIj
            · exact .inl hIj
            · exact .inr (Q.sound j hj hIj)
          refine hk5 _ _ fun _ => ifB_true rfl ?_
          intro k6 hk6
          have fin : ∀ (h' : Heap) (y : Bool), y = (x || test l[i] l[j].vals[c]) → Fw.Sep h h' [ownSl si_Lbool eBool t ((I.set i x).set i y)] → k6 () h' := fun h' y hy S' => hk6 _ _ fun _ => by
            rw [set_same] at S'
            refine ar_i64 (by omega) (by have := hvs.bound; omega) ⟨l[j].vals.length - (c + 1), by omega, c + 1, y, rfl, by omega, rfl, S', ⟨fun hyt => ?_, fun hyf => ?_, fun hyf => ?_⟩, fun hyf => ?_⟩
            · rcases hjr with hx | hjr
              · exact Tn.sound hx
              · rw [hy] at hyt
                cases hxx : x with
                | true => exact Tn.sound hxx
                | false =>
                  rw [hxx] at hyt
                  simp only [Bool.false_or, test, Bool.and_eq_true, beq_iff_eq] at hyt
                  exact .step hjr (List.getElem_mem hi) hv (List.getElem_mem hcv) hyt.1 hyt.2
            · rw [hy, Bool.or_eq_false_iff] at hyf
              exact Tn.args hyf.1
            · rw [hy, Bool.or_eq_false_iff] at hyf
              exact Tn.vals hyf.1
            · rw [hy, Bool.or_eq_false_iff] at hyf
              rw [hits_take hcv, hpart hyf.1, hyf.2]; rfl
          refine ldI S12 hiS ?_
          rw [hget]
          refine ifB_intro (fun hx => stI S12 hiS fun h8 S8 => fin h8 true (by rw [hx]; rfl) S8) (fun hx => ?_)
          refine idx_rdN hs rfl hj fun p9 _ hp9 => ?_
          refine ld_lst (fld_oVals.rd hp9) S12.old.ext fun v2 hv2 => ?_
          refine idx_rdN hv2 rfl hcv fun p10 _ hp10 => ?_
          refine ld_int (fld_argKind.rd hp10) S12.old.ext ?_
          refine ifB_intro (fun h5 => ?_) (fun h5 => stI S12 hiS fun h8 S8 => fin h8 false (by rw [hx]; simp only [test, h5]; rfl) S8)
          refine idx_rdN hs rfl hj fun p11 _ hp11 => ?_
          refine ld_lst (fld_oVals.rd hp11) S12.old.ext fun v3 hv3 => ?_
          refine idx_rdN hv3 rfl hcv fun p12 _ hp12 => ?_
          refine ld_int (fld_argN.rd hp12) S12.old.ext ?_
          refine idx_rdN hs rfl hi fun p13 _ hp13 => ?_
          refine ld_int (fld_oId.rd hp13) S12.old.ext ?_
          exact stI S12 hiS fun h8 S8 => fin h8 _ (by rw [hx]; simp only [test, h5]; rfl) S8
        · have hcv : l[j].vals.length ≤ c := by rw [hlv] at hc; simpa using hc
          refine stop fun hx _ => ?_
          have := hpart hx
          rwa [List.take_of_length_le hcv] at this
      · have hjl : j = l.length := by have : l.length ≤ j := by simpa using hc
                                      omega
        subst hjl
        exact go h11 _ S11 (Q.turn hno Tn)
    · have hil : i = l.length := by have : l.length ≤ i := by simpa using hc
                                    omega
      subst hil
      exact ar_i64 (by omega) (by omega) ⟨l.length + 1 - (n + 1), by omega, n + 1, I, rfl, by omega, rfl, S3, R.next Q⟩
  · have hnl2 : n = l.length + 1 := by have : ¬ ((n : Int) ≤ l.length) := by simpa using hc
                                       omega
    subst hnl2
    refine loop_intro (fun m (q : Sl × Int) h' => ∃ i : Nat, q.2 = i ∧ i ≤ l.length ∧ m = l.length - i ∧ Fw.Sep h h' [ownSl si_Lint64 eInt q.1 (((l.take i).filter fun o => decide (Rch l A o)).map (·.id)), ownSl si_Lbool eBool t I0]) l.length
      ⟨0, rfl, by omega, by omega, S2.nil rfl⟩ ?_
    clear S2
    rintro _ _ ⟨out, i⟩ h18 ⟨i, hi0, hil, rfl, S18⟩
    simp only at hi0 S18 ⊢
    subst hi0
    refine ifB_intro (fun hc => ?_) (fun hc => ?_)
    · have hi : i < l.length := by simpa using hc
      have hiI : i < I0.length := by rw [R.len]; exact hi
      intro k hk
      have htake : ((l.take (i + 1)).filter fun o => decide (Rch l A o)).map (·.id) = ((l.take i).filter fun o => decide (Rch l A o)).map (·.id) ++ if Rch l A l[i] then [l[i].id] else [] := by
        rw [List.take_succ_eq_append_getElem hi, List.filter_append, List.map_append]
        congr 1
        by_cases e : Rch l A l[i] <;> simp [e]
      have hlen : (((l.take i).filter fun o => decide (Rch l A o)).map (·.id)).length ≤ 1000 := by
        rw [List.length_map]
        have := List.length_filter_le (fun o => decide (Rch l A o)) (l.take i)
        rw [List.length_take] at this
        omega
      refine ldI S18.swap hiI ?_
      refine ifB_intro (fun hx => ?_) (fun hx => ?_)
      · have hr := (R.fin i hi).1 hx
        refine idx_rdN hs rfl hi fun p21 _ hp21 => ?_
        refine ld_int (fld_oId.rd hp21) S18.old.ext ?_
        refine app1_flat (v := .int .i64 _) (x := l[i].id) S18 (own_int _) rfl (by decide) (by simp only [si_Lint64]; omega) (by omega) fun s' h' S' => ?_
        refine hk _ _ fun _ => ar_i64 (by omega) (by omega) ⟨l.length - (i + 1), by omega, i + 1, rfl, by omega, rfl, ?_⟩
        rw [htake, if_pos hr]
        exact S'
      · have hr : ¬ Rch l A l[i] := fun h => by
          have := (R.fin i hi).2 h
          unfold on at this
          rw [this] at hx
          cases hx
        refine hk _ _ fun _ => ar_i64 (by omega) (by omega) ⟨l.length - (i + 1), by omega, i + 1, rfl, by omega, rfl, ?_⟩
        rw [htake, if_neg hr, List.append_nil]
        exact S18
    · have hil : l.length ≤ i := by simpa using hc
      rw [List.take_of_length_le hil] at S18
      refine ⟨out, rfl, ?_⟩
      have : (l.filter fun o => decide (Rch l A o)).map (·.id) = reachF l A := by
        unfold reachF
        congr 1
      rw [this] at S18
      exact S18.swap.drop

end Go.Proofs.Ytncbpalncgcoaaa

/-
  slices.Insert of one element.
-/
namespace Go.Proofs.Ytncbpalncgcoaaa
open Go.Fw Go.Pl.Api Go.Pl.Vst

theorem putAt_get {cur : Array Value} {vs : List Value} {o : Nat} (h : o + vs.length ≤ cur.size) (k : Nat) :
    (putAt cur o vs)[k]? = if o ≤ k ∧ k < o + vs.length then vs[k - o]? else cur[k]? := by
  have hl : (cur.toList.take o).length = o := by simp; omega
  have hl2 : (cur.toList.take o ++ vs).length = o + vs.length := by rw [List.length_append, hl]
  rw [← Array.getElem?_toList, putAt_eq vs cur o h]
  by_cases h1 : k < o
  · rw [List.append_assoc, List.getElem?_append_left (by omega), List.getElem?_take, if_pos h1, if_neg (by omega), Array.getElem?_toList]
  · by_cases h2 : k < o + vs.length
    · rw [List.append_assoc, List.getElem?_append_right (by omega), hl, List.getElem?_append_left (by omega), if_pos ⟨by omega, h2⟩]
    · rw [List.getElem?_append_right (by omega), hl2, List.getElem?_drop, if_neg (by omega), Array.getElem?_toList]
      congr 1
      omega
theorem hcell_raw {h : Heap} {g e o : Nat} {cur : Array Value} {fr : Nat × Nat} (hg : h[g]? = some (.cells cur e fr)) : hcell h ⟨g, o, none⟩ = cur[o]? := by
  unfold hcell
  simp only [hg]
  simp
theorem hfrozen_raw {h : Heap} {g e o : Nat} {cur : Array Value} (hg : h[g]? = some (.cells cur e (0, 0))) : hfrozen h ⟨g, o, none⟩ = false := by
  unfold hfrozen
  simp only [hg]
  simp

/-- 'copy' from block to block. -/
theorem cpy_raw {h : Heap} {d s : Sl} {g b e e2 o p k : Nat} {cur src : Array Value} {xs : List Value} {K : Nat → Heap → Prop} (hg : h[g]? = some (.cells cur e (0, 0))) (hb : h[b]? = some (.cells src e2 (0, 0)))
    (hd : d.a = some ⟨g, o, none⟩) (hs : s.a = some ⟨b, p, none⟩) (hk : min s.len d.len = k) (hk0 : k ≠ 0) (hl : xs.length = k * 6) (hx : ∀ j u, xs[j]? = some u → src[p + j]? = some u) (h1 : ∀ v ∈ xs, v.oneCell' = true) (hfit : o + xs.length ≤ cur.size)
    (hK : ∀ h', h'[g]? = some (.cells (putAt cur o xs) e (0, 0)) → (∀ z, z ≠ g → h'[z]? = h[z]?) → h'.size = h.size → K k h') : cpy 6 d s h K := by
  refine ⟨xs, by rw [hl, hk], h1, fun _ => ⟨_, _, hs, hd, fun j u hj => ?_, fun j hj => ?_⟩, ?_⟩
  · rw [Go.Fw.Addr.add_none, hcell_raw hb]; exact hx j u hj
  · rw [Go.Fw.Addr.add_none, hcell_raw hg, hfrozen_raw hg]
    exact ⟨by rw [Array.getElem?_eq_getElem (by omega)]; rfl, rfl⟩
  · rw [hk]
    have hh : cpyH k d h xs = hsets h ⟨g, o, none⟩ xs 0 := by
      unfold cpyH
      rw [hd]
      cases k with
      | zero => exact absurd rfl hk0
      | succ k => rfl
    rw [hh]
    have h2 := hsets_same xs h cur o 0 hg
    rw [Nat.add_zero] at h2
    exact hK _ h2 (fun z hz => hsets_other xs h 0 z hz rfl) (size_hsets _ _ _)

/-- 's[k:]' within the room. -/
theorem slc_raw {s : Sl} {g o : Nat} {lo hi : Option Int} {a b : Nat} {K : Sl → Prop} (hs : s.a = some ⟨g, o, none⟩) (ha : lo.getD 0 = (a : Int)) (hb : hi.getD s.len = (b : Int)) (hab : a ≤ b) (hbc : b ≤ s.cap) (hac : a < s.cap)
    (hK : K ⟨some ⟨g, o + a * 6, none⟩, b - a, s.cap - a⟩) : slc 6 s lo hi K := by
  refine ⟨by omega, by omega, by omega, ?_⟩
  rw [ha, hb, Int.toNat_natCast, Int.toNat_natCast, if_neg (by omega), hs, Option.map_some, Go.Fw.Addr.add_none]
  exact hK

theorem overlaps_run {h : Heap} {g b o p e e2 la ca lb cb : Nat} {cur src : Array Value} (hne : b ≠ g) (hg : h[g]? = some (.cells cur e (0, 0))) (hb : h[b]? = some (.cells src e2 (0, 0))) (h0 : cur.size ≠ 0) {K : Value → Prop} (hK : K (.bool false)) :
    callX Try.prog F_slices_overlaps [.slice (some ⟨b, p, none⟩) la ca, .slice (some ⟨g, o, none⟩) lb cb] h K := by
  refine ⟨.bool false, fun w hw => ?_, hK⟩
  show (callFunc F_slices_overlaps #[.slice (some ⟨b, p, none⟩) la ca, .slice (some ⟨g, o, none⟩) lb cb]).run Try.prog w = _
  rw [run_callFunc_extern Try.func102 (by kernel_rfl) (by kernel_rfl) (by kernel_rfl) (e := Extern.SlicesOverlaps.overlaps #[27, 27] #[4]) (by kernel_rfl),
    Lib.run_overlaps_apart w 27 4 39 (by kernel_rfl) 6 Try.sizeOf39 ⟨b, p, none⟩ ⟨g, o, none⟩ la ca lb cb hne e2 e src.size cur.size (by unfold World.shape?; rw [hw]; simp only [hb]) (by unfold World.shape?; rw [hw]; simp only [hg]) h0
      (by rw [frozen_eq, hw]; exact hfrozen_raw hb) (by rw [frozen_eq, hw]; exact hfrozen_raw hb)]
  rfl

/-- slices.Insert(s, i, x), said of the cells. -/
theorem insert_raw {h : Heap} {s v : Sl} {U x : List Value} {i : Nat} (hs : hOwn h 39 6 s U) (hv : hOwn h 39 6 v x) (hvl : v.len = 1) (hapart : ∀ b, v.blk = some b → s.blk ≠ some b) (h1 : ∀ u ∈ U, u.oneCell' = true) (hx1 : ∀ u ∈ x, u.oneCell' = true)
    (hi : i ≤ s.len) (hn : s.len ≤ 1000000) :
    ACalls Try.prog F_slices_Insert [s.v, .int .i64 (i : Int), v.v] h (fun r h' => ∃ s' : Sl, r = s'.v ∧ hOwn h' 39 6 s' (U.take (i * 6) ++ x ++ U.drop (i * 6)) ∧ s'.len = s.len + 1 ∧ hGrown h h' s.blk ∧ (s'.blk = s.blk ∨ s'.blk = some h.size)) := by
  refine slices_Insert_of ?_
  unfold slices_Insert
  have hUl := (hOwn_iff.1 hs).1
  have hxl := (hOwn_iff.1 hv).1
  rw [hvl] at hxl
  obtain ⟨b, vc, hva, hvb, hvc1, hvc2, hvcs, hvt⟩ : ∃ b cv, v.a = some ⟨b, 0, none⟩ ∧ h[b]? = some (.cells cv 39 (0, 0)) ∧ v.len ≤ v.cap ∧ v.cap ≤ maxLen ∧ cv.size = v.cap * 6 ∧ cv.toList.take (v.len * 6) = x := by
    rcases (hOwn_iff.1 hv).2 with h2 | h2
    · rw [h2] at hvl; simp at hvl
    · exact h2
  have hlecap : s.len ≤ s.cap := by
    rcases (hOwn_iff.1 hs).2 with h2 | ⟨g, cur, _, _, h2, _⟩
    · rw [h2]; exact Nat.le_refl _
    · exact h2
  refine ⟨by simp, by simp; omega, by simp; omega, ?_⟩
  have hvlI : (v.len : Int) = 1 := by omega
  rw [hvlI]
  refine ifB_false rfl ?_
  refine ifB_intro (fun hc => ?_) (fun hc => ?_)
  · have hin : i = s.len := by have : (i : Int) = s.len := by simpa using hc
                               omega
    refine ⟨U, x, hs, ⟨by rw [hvl]; exact hxl, .inr ⟨_, hva, fun j u hj => ?_⟩⟩, hx1, fun e => (by rw [hva] at e; cases e), by simp only [maxLen]; omega, by simp only [si_Lvstate_Obj]; omega, fun s' h' ho' hl' hg' hb' _ _ => ?_⟩
    · rw [Go.Fw.Addr.add_none, hcell_raw hvb, Nat.zero_add, ← Array.getElem?_toList]
      rw [← hvt, List.getElem?_take] at hj
      split at hj
      · exact hj
      · cases hj
    · refine ⟨s', rfl, ?_, by rw [hl', hvl], hg', hb'⟩
      rw [hin, ← hUl, List.take_length, List.drop_length, List.append_nil]
      exact ho'
  have hin : i < s.len := by have : ¬ (i : Int) = s.len := by simpa using hc
                             omega
  obtain ⟨g, cur, hsa, hsg, _, hcm, hcs, hct⟩ : ∃ g cur, s.a = some ⟨g, 0, none⟩ ∧ h[g]? = some (.cells cur 39 (0, 0)) ∧ s.len ≤ s.cap ∧ s.cap ≤ maxLen ∧ cur.size = s.cap * 6 ∧ cur.toList.take (s.len * 6) = U := by
    rcases (hOwn_iff.1 hs).2 with h2 | h2
    · rw [h2] at hin; simp at hin
    · exact h2
  have hne : b ≠ g := fun e => by
    subst e
    exact hapart b (by unfold Sl.blk; rw [hva]; rfl) (by unfold Sl.blk; rw [hsa]; rfl)
  have hxget : ∀ j u, x[j]? = some u → vc[0 + j]? = some u := fun j u hj => by
    rw [Nat.zero_add, ← Array.getElem?_toList]
    rw [← hvt, List.getElem?_take] at hj
    split at hj
    · exact hj
    · cases hj
  have hUget : ∀ j, j < s.len * 6 → U[j]? = cur[j]? := fun j hj => by
    rw [← hct, List.getElem?_take, if_pos hj, Array.getElem?_toList]
  have hdl : (U.drop (i * 6)).length = (s.len - i) * 6 := by rw [List.length_drop, hUl, Nat.sub_mul]
  have hd1 : ∀ u ∈ U.drop (i * 6), u.oneCell' = true := fun u hu => h1 u (List.mem_of_mem_drop hu)
  have hdget : ∀ j u, (U.drop (i * 6))[j]? = some u → cur[i * 6 + j]? = some u := fun j u hj => by
    rw [List.getElem?_drop] at hj
    have := (List.getElem?_eq_some_iff.1 hj).1
    rw [← hUget _ (by omega)]
    exact hj
  refine ar_i64 (by omega) (by omega) ?_
  have hcmI : s.cap ≤ 9223372036854775807 := by simpa [maxLen] using hcm
  refine ifB_intro (fun hroom => ?_) (fun hroom => ?_)
  · -- no room: new memory
    have hroom : s.cap < s.len + 1 := by have := of_decide_eq_true hroom; omega
    refine slc_raw (a := 0) (b := i) hsa rfl rfl (by omega) (by omega) (by omega) ?_
    refine ar_i64 (by omega) (by omega) (ar_i64 (by omega) (by omega) ?_)
    have hnI : (s.len : Int) + 1 - i = ((s.len + 1 - i : Nat) : Int) := by omega
    rw [hnI]
    refine ⟨⟨g, 0, none⟩, U.take (i * 6), by simp, by rw [List.length_take, hUl]; show min (i * 6) (s.len * 6) = (i - 0) * 6; rw [Nat.min_eq_left (by omega)]; rfl, fun j u hj => ?_, by omega, by show ((s.cap - 0 : Nat) : Int) < ((i - 0 : Nat) : Int) + _; omega, by simp only [si_Lvstate_Obj, Int.toNat_natCast]; show (i - 0 + _) * 80 ≤ _; omega, by simp only [maxLen, Int.toNat_natCast]; show i - 0 + _ ≤ _; omega, fun cap' cur' hc1 hc2 hc3 hc4 => ?_⟩
    · rw [Go.Fw.Addr.add_none, hcell_raw hsg, Nat.zero_add]
      rw [List.getElem?_take] at hj
      split at hj
      · rw [← hUget j (by omega)]; exact hj
      · cases hj
    have e1 : i - 0 + (((s.len + 1 - i : Nat) : Int)).toNat = s.len + 1 := by rw [Int.toNat_natCast]; omega
    simp only [e1] at hc1 ⊢
    have hc4' : cur'.toList.take (i * 6) = U.take (i * 6) := hc4
    have hc3' : cur'.size = cap' * 6 := hc3
    have hcm' : cap' ≤ 9223372036854775807 := by simpa [maxLen] using hc2
    have hg2 : (h.push (.cells cur' 39))[h.size]? = some (.cells cur' 39 (0, 0)) := Array.getElem?_push_size
    have hold : ∀ z, z < h.size → (h.push (.cells cur' 39))[z]? = h[z]? := fun z hz => (Old.push h _).block z hz
    have hbl : b < h.size := (Array.getElem?_eq_some_iff.1 hvb).1
    have hgl : g < h.size := (Array.getElem?_eq_some_iff.1 hsg).1
    refine slc_raw (s := ⟨some ⟨h.size, 0, none⟩, s.len + 1, cap'⟩) (a := i) (b := s.len + 1) rfl rfl rfl (by omega) hc1 (by show i < cap'; omega) ?_
    refine cpy_raw (k := 1) (xs := x) hg2 ((hold b hbl).trans hvb) rfl hva (by show min v.len (s.len + 1 - i) = 1; omega) (by decide) hxl hxget hx1 (by rw [hxl, hc3']; omega) fun h3 hg3 ho3 hz3 => ?_
    refine ar_i64 (by omega) (by omega) ?_
    rw [show (i : Int) + 1 = ((i + 1 : Nat) : Int) by omega]
    refine slc_raw (s := ⟨some ⟨h.size, 0, none⟩, s.len + 1, cap'⟩) (a := i + 1) (b := s.len + 1) rfl rfl rfl (by omega) hc1 (by show i + 1 < cap'; omega) ?_
    refine slc_raw (a := i) (b := s.len) hsa rfl rfl (by omega) (by omega) (by omega) ?_
    refine cpy_raw (k := s.len - i) (xs := U.drop (i * 6)) (b := g) (p := 0 + i * 6) hg3 ((ho3 g (by omega)).trans ((hold g hgl).trans hsg)) rfl rfl (by show min (s.len - i) (s.len + 1 - (i + 1)) = s.len - i; omega) (by omega) hdl (fun j u hj => by rw [Nat.zero_add]; exact hdget j u hj) hd1 (by rw [hdl, size_putAt, hc3']; omega) fun h4 hg4 ho4 hz4 => ?_
    refine ⟨⟨some ⟨h.size, 0, none⟩, s.len + 1, cap'⟩, rfl, hOwn_iff.2 ⟨?_, .inr ⟨h.size, _, rfl, hg4, hc1, hc2, by rw [size_putAt, size_putAt, hc3'], ?_⟩⟩, rfl, ⟨by rw [hz4, hz3]; simp, fun z hz hzn => ?_⟩, .inr rfl⟩
    · rw [List.length_append, List.length_append, List.length_take, hxl, hdl, hUl]
      show min (i * 6) (s.len * 6) + 1 * 6 + (s.len - i) * 6 = (s.len + 1) * 6
      omega
    · refine List.ext_getElem? fun k => ?_
      show ((putAt _ _ _).toList.take ((s.len + 1) * 6))[k]? = _
      rw [List.getElem?_take, Array.getElem?_toList, putAt_get (by rw [hdl, size_putAt, hc3']; omega), putAt_get (by rw [hxl, hc3']; omega)]
      have ht : (U.take (i * 6)).length = i * 6 := by rw [List.length_take, hUl]; omega
      by_cases k1 : k < i * 6
      · rw [if_pos (by omega), if_neg (by omega), if_neg (by omega), List.append_assoc, List.getElem?_append_left (by omega), ← hc4', List.getElem?_take, if_pos k1, Array.getElem?_toList]
      · by_cases k2 : k < i * 6 + 6
        · rw [if_pos (by omega), if_neg (by omega), if_pos (by omega), List.append_assoc, List.getElem?_append_right (by omega), List.getElem?_append_left (by omega), ht, Nat.zero_add]
        · by_cases k3 : k < (s.len + 1) * 6
          · rw [if_pos k3, if_pos (by omega), List.getElem?_append_right (by rw [List.length_append]; omega), List.length_append, ht, hxl]
            congr 1
            omega
          · rw [if_neg k3, List.getElem?_eq_none]
            rw [List.length_append, List.length_append, ht, hxl, hdl]
            omega
    · rw [ho4 z (by omega), ho3 z (by omega)]
      exact hold z hz
  · -- room: in place
    have hroom : s.len + 1 ≤ s.cap := by have := of_decide_eq_false hroom; omega
    refine ar_i64 (by omega) (by omega) ?_
    refine slc_raw (a := 0) (b := s.len + 1) hsa rfl (by simp) (by omega) hroom (by omega) ?_
    refine ar_i64 (by omega) (by omega) ?_
    rw [show (i : Int) + 1 = ((i + 1 : Nat) : Int) by omega]
    simp only [Nat.zero_mul, Nat.add_zero, Nat.sub_zero]
    refine slc_raw (s := ⟨some ⟨g, 0, none⟩, s.len + 1, s.cap⟩) (a := i + 1) (b := s.len + 1) rfl rfl rfl (by omega) hroom (by show i + 1 < s.cap; omega) ?_
    have hv' : v.v = .slice (some ⟨b, 0, none⟩) v.len v.cap := by unfold Sl.v; rw [hva]
    rw [hv']
    refine overlaps_run hne hsg hvb (by rw [hcs]; omega) ?_
    refine ⟨_, rfl, ifB_true rfl ?_⟩
    refine ar_i64 (by omega) (by omega) ?_
    refine slc_raw (s := ⟨some ⟨g, 0, none⟩, s.len + 1, s.cap⟩) (a := i + 1) (b := s.len + 1) rfl rfl rfl (by omega) hroom (by show i + 1 < s.cap; omega) ?_
    refine slc_raw (s := ⟨some ⟨g, 0, none⟩, s.len + 1, s.cap⟩) (a := i) (b := s.len + 1) rfl rfl rfl (by omega) hroom (by show i < s.cap; omega) ?_
    refine cpy_raw (k := s.len - i) (xs := U.drop (i * 6)) (b := g) (p := 0 + i * 6) hsg hsg rfl rfl (by show min (s.len + 1 - i) (s.len + 1 - (i + 1)) = s.len - i; omega) (by omega) hdl (fun j u hj => by rw [Nat.zero_add]; exact hdget j u hj) hd1 (by rw [hdl, hcs]; omega) fun h5 hg5 ho5 hz5 => ?_
    refine slc_raw (s := ⟨some ⟨g, 0, none⟩, s.len + 1, s.cap⟩) (a := i) (b := s.len + 1) rfl rfl rfl (by omega) hroom (by show i < s.cap; omega) ?_
    refine cpy_raw (k := 1) (xs := x) hg5 ((ho5 b hne).trans hvb) rfl hva (by show min v.len (s.len + 1 - i) = 1; omega) (by decide) hxl hxget hx1 (by rw [hxl, size_putAt, hcs]; omega) fun h6 hg6 ho6 hz6 => ?_
    refine ⟨⟨some ⟨g, 0, none⟩, s.len + 1, s.cap⟩, rfl, hOwn_iff.2 ⟨?_, .inr ⟨g, _, rfl, hg6, hroom, hcm, by rw [size_putAt, size_putAt, hcs], ?_⟩⟩, rfl, ⟨by rw [hz6, hz5]; exact Nat.le_refl _, fun z hz hzn => ?_⟩, .inl ?_⟩
    · rw [List.length_append, List.length_append, List.length_take, hxl, hdl, hUl]
      show min (i * 6) (s.len * 6) + 1 * 6 + (s.len - i) * 6 = (s.len + 1) * 6
      omega
    · refine List.ext_getElem? fun k => ?_
      show ((putAt _ _ _).toList.take ((s.len + 1) * 6))[k]? = _
      rw [List.getElem?_take, Array.getElem?_toList, putAt_get (by rw [hxl, size_putAt, hcs]; omega), putAt_get (by rw [hdl, hcs]; omega)]
      have ht : (U.take (i * 6)).length = i * 6 := by rw [List.length_take, hUl]; omega
      by_cases k1 : k < i * 6
      · rw [if_pos (by omega), if_neg (by omega), if_neg (by omega), List.append_assoc, List.getElem?_append_left (by omega), List.getElem?_take, if_pos k1, hUget k (by omega)]
      · by_cases k2 : k < i * 6 + 6
        · rw [if_pos (by omega), if_pos (by omega), List.append_assoc, List.getElem?_append_right (by omega), List.getElem?_append_left (by omega), ht, Nat.zero_add]
        · by_cases k3 : k < (s.len + 1) * 6
          · rw [if_pos k3, if_neg (by omega), if_pos (by omega), List.getElem?_append_right (by rw [List.length_append]; omega), List.length_append, ht, hxl]
            congr 1
            omega
          · rw [if_neg k3, List.getElem?_eq_none]
            rw [List.length_append, List.length_append, ht, hxl, hdl]
            omega
    · have hzg : z ≠ g := fun e => hzn (by unfold Sl.blk; rw [hsa, e]; rfl)
      rw [ho6 z hzg, ho5 z hzg]
    · unfold Sl.blk; rw [hsa]

end Go.Proofs.Ytncbpalncgcoaaa
