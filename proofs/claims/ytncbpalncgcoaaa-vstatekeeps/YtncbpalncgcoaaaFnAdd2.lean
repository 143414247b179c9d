/-
  The document's Add; Set on both sides.
-/
import Derived.Test.YtncbpalncgcoaaaFnAdd
namespace Go.Proofs.Ytncbpalncgcoaaa
open Go.Fw Go.Pl.Api Go.Pl.Vst

def outL (l : List MObj) (o : MObj) (i : Nat) (d : Bool) : List MObj := (l.take i).filter (fun x => decide (x.id < o.id)) ++ if d then o :: (l.take i).filter (fun x => decide (o.id < x.id)) else []
structure OutI (l : List MObj) (o : MObj) (i : Nat) (d : Bool) : Prop where
  no : d = false → ∀ k (hk : k < l.length), k < i → l[k].id < o.id
  yes : d = true → ∃ k, ∃ hk : k < l.length, k < i ∧ o.id ≤ l[k].id
theorem outL_len {l : List MObj} {o : MObj} {i : Nat} {d : Bool} : (outL l o i d).length ≤ 2 * l.length + 1 := by
  unfold outL
  have h1 := List.length_filter_le (fun x : MObj => decide (x.id < o.id)) (l.take i)
  have h2 := List.length_filter_le (fun x : MObj => decide (o.id < x.id)) (l.take i)
  rw [List.length_take] at h1 h2
  rw [List.length_append]
  split
  · rw [List.length_cons]; omega
  · simp; omega
theorem out_end {l : List MObj} {o : MObj} {d : Bool} (h : OutI l o l.length d) : addF l o = if d then outL l o l.length d else outL l o l.length d ++ [o] := by
  unfold addF outL
  rw [List.take_length]
  cases d with
  | true => simp
  | false =>
    have : l.filter (fun x => decide (o.id < x.id)) = [] := List.filter_eq_nil_iff.2 fun x hx => by
      obtain ⟨z, hz, rfl⟩ := List.getElem_of_mem hx
      have := h.no rfl z hz hz
      simp; omega
    rw [this]
    simp
theorem out_low {l : List MObj} {o : MObj} {i : Nat} (hi : i < l.length) (h : l[i].id < o.id) (q : OutI l o i false) : outL l o (i + 1) false = outL l o i false ++ [l[i]] ∧ OutI l o (i + 1) false := by
  refine ⟨?_, fun _ k hk hlt => ?_, fun h => by cases h⟩
  · unfold outL
    rw [List.take_succ_eq_append_getElem hi, List.filter_append]
    simp [h]
  · by_cases e : k = i
    · subst e; exact h
    · exact q.no rfl k hk (by omega)
theorem out_first {l : List MObj} {o : MObj} {i : Nat} (hi : i < l.length) (h : o.id ≤ l[i].id) (q : OutI l o i false) : outL l o (i + 1) true = outL l o i false ++ [o] ++ (if l[i].id = o.id then [] else [l[i]]) ∧ OutI l o (i + 1) true := by
  refine ⟨?_, fun h => (by cases h), fun _ => ⟨i, hi, by omega, h⟩⟩
  have h0 : (l.take i).filter (fun x => decide (o.id < x.id)) = [] := List.filter_eq_nil_iff.2 fun x hx => by
    obtain ⟨z, hz, rfl⟩ := List.getElem_of_mem hx
    rw [List.length_take] at hz
    rw [List.getElem_take]
    have := q.no rfl z (by omega) (by omega)
    simp; omega
  unfold outL
  rw [List.take_succ_eq_append_getElem hi, List.filter_append, List.filter_append, h0]
  by_cases e : l[i].id = o.id
  · simp [e]
  · have h1 : ¬ l[i].id < o.id := by omega
    have h2 : o.id < l[i].id := by omega
    simp [e, h1, h2]
theorem out_more {l : List MObj} {o : MObj} {i : Nat} (hr : Rising l) (hi : i < l.length) (q : OutI l o i true) : outL l o (i + 1) true = outL l o i true ++ [l[i]] ∧ OutI l o (i + 1) true ∧ l[i].id ≠ o.id := by
  obtain ⟨k, hk, hki, hle⟩ := q.yes rfl
  have := rising_get hr hki hi
  refine ⟨?_, ⟨fun h => (by cases h), fun _ => ⟨k, hk, by omega, hle⟩⟩, by omega⟩
  unfold outL
  rw [List.take_succ_eq_append_getElem hi, List.filter_append, List.filter_append]
  have h1 : ¬ l[i].id < o.id := by omega
  have h2 : o.id < l[i].id := by omega
  simp [h1, h2]

theorem refAdd_callsB {hb h : Heap} {s : Sl} {l : List MObj} {cs : Array Value} {o : MObj} (hs : rdSl rObj.el hb s l) (ob : Old hb h) (ho : rObj.rv hb cs.toList o) (hr : Rising l) (hn : l.length ≤ 100000) :
    ACalls Try.prog F_lateenref22_Add [s.v, .agg cs] h (fun v h' => ∃ s' : Sl, v = s'.v ∧ Fw.Sep h h' [ownSl si_Llateenref22_Obj (rObj.fl hb) s' (addF l o)]) := by
  refine lateenref22_Add_of ?_
  unfold lateenref22_Add
  have hl := hs.lenEq
  refine new_rawB (Sep.start h) fun p h1 o1 S1 => ?_
  have hpc := rawB_cell S1
  have hp : rObj.el.rd h1 p o := by
    refine ⟨hpc.1, cs.toList, fun j v hj => ?_, rObj.ext ho (ob.trans o1).ext⟩
    rw [hpc.2]; simpa using hj
  have putO : ∀ {h2 : Heap} {out : Sl} {X : List MObj} {K : Sl → Heap → Prop}, Fw.Sep h h2 [ownSl si_Llateenref22_Obj (rObj.fl hb) out X, rawB p cs] → X.length ≤ 300000 → (∀ s' h', Fw.Sep h h' [ownSl si_Llateenref22_Obj (rObj.fl hb) s' (X ++ [o]), rawB p cs] → K s' h') →
      ld (.agg 6) h2 p fun (x : Array Value) => bld si_Llateenref22_Obj 1 [(0, .agg x)] h2 fun s h_3 => app si_Llateenref22_Obj out s h_3 fun s' h' => K s' h' := fun {h2 out X K} S hX hK => by
    refine ld_rawAgg S.swap (size_rv ho).symm ?_
    exact app1_flat (v := .agg cs) (x := o) S (fun _ => ⟨ho, rfl⟩) rfl (by decide) (by simp only [si_Llateenref22_Obj]; omega) (by omega) hK
  refine loop_intro (fun m (q : Sl × Bool × Int) h' => ∃ i : Nat, q.2.2 = i ∧ i ≤ l.length ∧ m = l.length - i ∧ Fw.Sep h h' [ownSl si_Llateenref22_Obj (rObj.fl hb) q.1 (outL l o i q.2.1), rawB p cs] ∧ OutI l o i q.2.1) l.length
    ⟨0, rfl, by omega, by omega, S1.nil rfl, ⟨fun _ k _ h => (by omega), fun h => by cases h⟩⟩ ?_
  clear S1
  rintro _ _ ⟨out, d, i⟩ h2 ⟨i, hi0, hil, rfl, S2, Q⟩
  simp only at hi0 S2 Q ⊢
  subst hi0
  have hX := @outL_len l o i d
  have hcell : hcell h2 (p.add 0) = some (.int .i64 o.id) := by
    rw [(rawB_cell S2.swap).2 0]
    obtain ⟨sl, rfl, _⟩ := arr_obj ho
    rfl
  refine ifB_intro (fun hc => ?_) (fun hc => ?_)
  · have hi : i < l.length := by rw [hl] at hc; simpa using hc
    intro k hk
    have next : ∀ (s' : Sl) (d' : Bool) (h' : Heap) (X : List MObj), X = outL l o (i + 1) d' → Fw.Sep h h' [ownSl si_Llateenref22_Obj (rObj.fl hb) s' X, rawB p cs] → OutI l o (i + 1) d' → k (s', d') h' := fun s' d' h' X hX S' Q' => hk _ _ fun _ => by
      subst hX
      exact ar_i64 (by omega) (by omega) ⟨l.length - (i + 1), by omega, i + 1, rfl, by omega, rfl, S', Q'⟩
    intro k1 hk1
    have k1of : ∀ (s' : Sl) (d' : Bool) (h' : Heap) (X : List MObj), X.length ≤ 300000 → Fw.Sep h h' [ownSl si_Llateenref22_Obj (rObj.fl hb) s' X, rawB p cs] → (if l[i].id = o.id then X else X ++ [l[i]]) = outL l o (i + 1) d' → OutI l o (i + 1) d' → k1 (s', d') h' := fun s' d' h' X hXl S' he Q' => hk1 _ _ fun _ => by
      simp only
      have hcell' : Go.Fw.hcell h' (p.add 0) = some (.int .i64 o.id) := by
        rw [(rawB_cell S'.swap).2 0]
        obtain ⟨sl, rfl, _⟩ := arr_obj ho
        rfl
      refine idx_rdN hs rfl hi fun p1 _ hp1 => ?_
      refine ld_int (fld_oId.rd hp1) (ob.trans S'.old).ext ?_
      refine ld_one (k := .int .i64) (x := o.id) hcell' ?_
      refine ifB_intro (fun hne => ?_) (fun hne => ?_)
      · have hne : l[i].id ≠ o.id := by simpa using hne
        rw [if_neg hne] at he
        refine idx_rdN hs rfl hi fun p2 _ hp2 => ?_
        refine ld_agg hp2 (ob.trans S'.old).ext rfl fun c hc => ?_
        refine app1_flat (v := .agg c) (x := l[i]) S' (fun _ => ⟨hc, rfl⟩) rfl (by decide) (by simp only [si_Llateenref22_Obj]; omega) (by omega) fun s2 h3 S3 => ?_
        exact next s2 d' h3 _ he S3 Q'
      · have he' : l[i].id = o.id := by simpa using hne
        rw [if_pos he'] at he
        exact next s' d' h' _ he S' Q'
    intro k2 hk2
    cases d with
    | true =>
      obtain ⟨e1, e2, e3⟩ := out_more hr hi Q
      refine ifB_false rfl (hk2 _ _ fun _ => ifB_false rfl ?_)
      exact k1of out true h2 _ (by omega) S2 (by rw [if_neg e3, e1]) e2
    | false =>
      refine ifB_true rfl ?_
      refine idx_rdN hs rfl hi fun p3 _ hp3 => ?_
      refine ld_int (fld_oId.rd hp3) (ob.trans S2.old).ext ?_
      refine ld_one (k := .int .i64) (x := o.id) hcell ?_
      by_cases hge : o.id ≤ l[i].id
      · rw [decide_eq_true (show l[i].id ≥ o.id from hge)]
        obtain ⟨e1, e2⟩ := out_first hi hge Q
        refine hk2 _ _ fun _ => ifB_true rfl ?_
        refine putO S2 (by omega) fun s' h' S' => ?_
        exact k1of s' true h' _ (by rw [List.length_append]; simp; omega) S' (by rw [e1]; split <;> simp) e2
      · rw [decide_eq_false (show ¬ l[i].id ≥ o.id from hge)]
        obtain ⟨e1, e2⟩ := out_low hi (by omega) Q
        refine hk2 _ _ fun _ => ifB_false rfl ?_
        exact k1of out false h2 _ (by omega) S2 (by rw [if_neg (by omega), e1]) e2
  · have hil : i = l.length := by rw [hl] at hc; have : l.length ≤ i := by simpa using hc
                                  omega
    subst hil
    have he := out_end Q
    intro k3 hk3
    have fin : ∀ (s' : Sl) (h' : Heap), Fw.Sep h h' [ownSl si_Llateenref22_Obj (rObj.fl hb) s' (addF l o), rawB p cs] → k3 s' h' := fun s' h' S' => hk3 _ _ fun _ => ⟨s', rfl, S'.swap.drop⟩
    cases d with
    | true =>
      refine ifB_false rfl (fin out h2 ?_)
      rw [he]
      exact S2
    | false =>
      refine ifB_true rfl ?_
      refine putO S2 (by omega) fun s' h' S' => fin s' h' ?_
      rw [he]
      exact S'
theorem refAdd_calls {h : Heap} {s : Sl} {l : List MObj} {cs : Array Value} {o : MObj} (hs : rdSl rObj.el h s l) (ho : rObj.rv h cs.toList o) (hr : Rising l) (hn : l.length ≤ 100000) :
    ACalls Try.prog F_lateenref22_Add [s.v, .agg cs] h (fun v h' => ∃ s' : Sl, v = s'.v ∧ Fw.Sep h h' [ownSl si_Llateenref22_Obj (rObj.fl h) s' (addF l o)]) := refAdd_callsB hs (.refl h) ho hr hn

end Go.Proofs.Ytncbpalncgcoaaa
