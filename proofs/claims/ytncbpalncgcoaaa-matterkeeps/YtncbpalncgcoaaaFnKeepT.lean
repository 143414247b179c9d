/-
  lateenlaw24: MatterKeeps.
-/
import Derived.Test.YtncbpalncgcoaaaFnAllLaw
import Derived.Test.YtncbpalncgcoaaaFnAdd
namespace Go.Proofs.Ytncbpalncgcoaaa
open Go.Fw Go.Fw.I Go.Pl.Api Go.Pl.Vst Go.Pl.Mat Go.Pl.Put Go.Pl

/-- All Ids of a state of one's own are spoilt. -/
theorem spoilIds {h0 h hb : Heap} {L : List As} {r : Sl} {l : List MObj} {K : Heap → Prop} (S : Fw.Sep h0 h (ownSl si_Lvstate_Obj (rObj.fl hb) r l :: L)) (hn : l.length ≤ 1000000)
    (hK : ∀ h' l', Fw.Sep h0 h' (ownSl si_Lvstate_Obj (rObj.fl hb) r l' :: L) → K h') :
    loopW (fun _ (i_1 : Int) h_19 next_1 =>
      ifB (decide (i_1 < (r.len : Int)))
       (idx 6 r i_1 fun p_3 =>
      st [.int .i64 (-7)] h_19 (p_3.add 0) fun h_20 =>
      ar .i64 (i_1 + 1) fun n_1 =>
      next_1 n_1 h_20)
       (K h_19)) 0 h := by
  have hl : r.len = l.length := S.rd.lenEq
  refine loop_intro (fun m (q : Int) h' => ∃ i : Nat, q = i ∧ i ≤ l.length ∧ m = l.length - i ∧ ∃ l' : List MObj, l'.length = l.length ∧ Fw.Sep h0 h' (ownSl si_Lvstate_Obj (rObj.fl hb) r l' :: L)) l.length
    ⟨0, rfl, by omega, by omega, l, rfl, S⟩ ?_
  clear S
  rintro _ _ _ h1 ⟨i, rfl, hil, rfl, l1, hl1, S1⟩
  refine ifB_intro (fun hc => ?_) (fun _ => hK _ _ S1)
  have hi : i < l.length := by rw [hl] at hc; simpa using hc
  refine idx_rdN S1.rd rfl (show i < l1.length by omega) fun p hp _ => ?_
  refine st_sub (x := { l1[i] with id := -7 }) (o := 0) S1 hp rfl (by omega) (by simp [Value.oneCell']) (by simp [RV.fl]; exact Nat.le_of_lt_succ (by decide)) ?_ fun h' S' => ?_
  · rintro h2 xs fx ⟨hr, rfl⟩
    obtain ⟨s, rfl, hv⟩ := rv_obj.1 hr
    exact ⟨rv_obj.2 ⟨s, rfl, hv⟩, rfl⟩
  exact ar_i64 (by omega) (by omega) ⟨l.length - (i + 1), by omega, i + 1, rfl, by omega, rfl, _, by simpa using hl1, S'⟩
theorem spoilInts {h0 h : Heap} {L : List As} {r : Sl} {l : List Int} {K : Heap → Prop} (S : Fw.Sep h0 h (ownSl si_Lint64 eInt r l :: L)) (hn : l.length ≤ 1000000)
    (hK : ∀ h' l', Fw.Sep h0 h' (ownSl si_Lint64 eInt r l' :: L) → K h') :
    loopW (fun _ (i_1 : Int) h_19 next_1 =>
      ifB (decide (i_1 < (r.len : Int)))
       (idx 1 r i_1 fun p_3 =>
      st [.int .i64 (-7)] h_19 p_3 fun h_20 =>
      ar .i64 (i_1 + 1) fun n_1 =>
      next_1 n_1 h_20)
       (K h_19)) 0 h := by
  have hl : r.len = l.length := S.rd.lenEq
  refine loop_intro (fun m (q : Int) h' => ∃ i : Nat, q = i ∧ i ≤ l.length ∧ m = l.length - i ∧ ∃ l' : List Int, l'.length = l.length ∧ Fw.Sep h0 h' (ownSl si_Lint64 eInt r l' :: L)) l.length
    ⟨0, rfl, by omega, by omega, l, rfl, S⟩ ?_
  clear S
  rintro _ _ _ h1 ⟨i, rfl, hil, rfl, l1, hl1, S1⟩
  refine ifB_intro (fun hc => ?_) (fun _ => hK _ _ S1)
  have hi : i < l.length := by rw [hl] at hc; simpa using hc
  refine idx_rdN S1.rd rfl (show i < l1.length by omega) fun p hp _ => ?_
  refine st_flat (x := (-7 : Int)) S1 (own_int (-7)) hp rfl (by omega) fun h' S' => ?_
  exact ar_i64 (by omega) (by omega) ⟨l.length - (i + 1), by omega, i + 1, rfl, by omega, rfl, _, by simpa using hl1, S'⟩

theorem matterKeeps_calls {h : Heap} {s t : Sl} {l : List MObj} {A : List Int} (hs : rdSl rObj.el h s l) (ht : rdSl eInt h t A) (hid : IdsOk l) :
    ACalls Try.prog F_lateenlaw24_MatterKeeps [s.v, t.v] h (fun v h' => v = .bool true ∧ Old h h') := by
  refine lateenlaw24_MatterKeeps_of ?_
  unfold lateenlaw24_MatterKeeps
  intro k hk
  have weak : ∀ h', Old h h' → k true h' := fun h' o => hk _ _ fun _ => ifB_true rfl (awake24_end o)
  refine awake24_calls.mono ?_
  rintro v h1 ⟨rfl, o1⟩
  refine ⟨_, rfl, ifB_false rfl ?_⟩
  refine (right_calls (hs.old o1)).mono ?_
  rintro v h2 ⟨b, rfl, o2, hK⟩
  have o2 := o1.trans o2
  refine ⟨_, rfl, ?_⟩
  cases b with
  | false => exact ifB_true rfl (weak _ o2)
  | true =>
  have K := hK rfl
  refine ifB_false rfl ?_
  have htl := ht.lenEq
  by_cases h20 : (t.len : Int) > 20
  · rw [decide_eq_true h20]; exact weak _ o2
  rw [decide_eq_false h20]
  have hA : A.length ≤ 20 := by omega
  refine hk _ _ fun _ => ifB_false rfl ?_
  clear weak hk k hK
  have hr := right_ris K.right
  have hlen := K.len
  have C := codeOk (A := A) K
  have hol := C.olen
  have hsl := (state_len (names := namesF (orderF l A).length) C.ris C.obj (orderF l A).length (Nat.le_refl _)).1
  have hsB := hs.old o2
  have htB := ht.old o2
  clear hs ht o1
  have hl := hsB.lenEq
  refine loop_intro (fun m (q : Sl × Int) h' => ∃ i : Nat, q.2 = i ∧ i ≤ l.length ∧ m = l.length - i ∧ Fw.Sep h2 h' [ownSl si_Llateenref22_Obj eO q.1 (l.take i)]) l.length
    ⟨0, rfl, by omega, by omega, (Sep.start h2).nil rfl⟩ ?_
  rintro _ _ ⟨was, i⟩ h5 ⟨i, hi0, hi, rfl, S⟩
  simp only at hi0 S ⊢
  subst hi0
  refine ifB_intro (fun hc => ?_) (fun hc => ?_)
  · have hil : i < l.length := by rw [hl] at hc; simpa using hc
    have hvi := K.vals _ (List.getElem_mem hil)
    refine idx_rdN hsB rfl hil fun p2 _ hp2 => ?_
    refine ld_agg hp2 S.old.ext rfl fun cs hcs => ?_
    obtain ⟨sl, rfl, hsl⟩ := arr_obj hcs
    refine new_stR S rfl rfl (fun v hv => RV.one _ hcs v hv) fun p3 h7 S7 => ?_
    refine bld_rule (E := eArg) (us := []) (l := []) S7.rowNil (by simp [Instr.fill, madeCells]) rfl rfl (by decide) (by decide) fun s1 h8 S8 => ?_
    refine idx_rdN hsB rfl hil fun p4 _ hp4 => ?_
    refine ld_lst (fld_oVals.rd hp4) S8.old.ext fun x1 hx1 => ?_
    refine app_copy S8 flat_arg (rd_arg.2 (hx1.old S8.old)) (by simp only [List.length_nil, si_Lapi_Arg]; omega) (by simp only [List.length_nil]; omega) fun s2 h9 S9 => ?_
    refine st_rawB (i := 2) (v := s2.v) S9.swap (by simp) rfl fun h10 S10 => ?_
    refine ld_rawAgg S10 rfl ?_
    have S11 : Fw.Sep h2 h10 (ownSl si_Llateenref22_Obj eO was (l.take i) :: ownEl eO [.int .i64 l[i].id, .string l[i].cls, s2.v, .int .i64 l[i].real.kind, .string l[i].real.s, .int .i64 l[i].real.n] l[i] :: []) := (slice_el S10.drop).swap
    refine app1_rule (v := .agg _) (x := l[i]) S11 rfl (by decide) (by simp only [List.length_take, si_Llateenref22_Obj]; omega) (by simp only [List.length_take]; omega) fun s' h' S' => ?_
    refine ar_i64 (by omega) (by have := hsB.bound; omega) ⟨l.length - (i + 1), by omega, i + 1, rfl, by omega, rfl, ?_⟩
    rw [List.take_succ_eq_append_getElem hil]
    exact S'
  have hil : l.length ≤ i := by rw [hl] at hc; simpa using hc
  rw [List.take_of_length_le hil] at S
  clear hc hil hi i
  refine bld_rule (E := eInt) (us := []) (l := []) S.rowNil (by simp [Instr.fill, madeCells]) rfl rfl (by decide) (by decide) fun s5 h11 S11 => ?_
  refine app_copy S11 (Elem.cell_flat _ _) (htB.old S11.old) (by simp only [List.length_nil, si_Lint64]; omega) (by simp only [List.length_nil]; omega) fun s6 h12 S12 => ?_
  have S12 : Fw.Sep h2 h12 [ownSl si_Lint64 eInt s6 A, ownSl si_Llateenref22_Obj eO was l] := S12
  refine prelude K (hsB.old S12.old) (htB.old S12.old) hid hA ?_
  intro r2 r6 r7 hb h3 ob1 ob2 S3 _
  have S13 := S12.frame S3
  generalize stateTo l (orderF l A) (namesF (orderF l A).length) (orderF l A).length = ST at *
  generalize orderF l A = ORD at *
  refine spoilIds S13 (by omega) fun h14 l14 S14 => ?_
  refine spoilInts S14.swap (by omega) fun h15 l15 S15 => ?_
  have S16 : Fw.Sep h2 h15 [ownSl si_Lint64 eInt s6 A, ownSl si_Llateenref22_Obj eO was l] := S15.drop.drop
  intro k1 hk1
  refine (refSame_calls (hsB.old S16.old) (rd_obj.1 S16.drop.rd)).mono ?_
  rintro u h17 ⟨rfl, rfl⟩
  refine ⟨_, rfl, ifB_true (decide_eq_true rfl) ?_⟩
  refine (sameNums_calls (htB.old S16.old) S16.rd).mono ?_
  rintro u h18 ⟨rfl, rfl⟩
  refine ⟨_, rfl, hk1 _ _ fun _ => ?_⟩
  rw [decide_eq_true rfl]
  exact ⟨rfl, o2.trans S16.old⟩
end Go.Proofs.Ytncbpalncgcoaaa
