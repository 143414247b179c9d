/-
  lateenlaw23.MergeKeeps: the walk.
-/
import Derived.Test.YtncbpalncgcoaaaFnMeans
namespace Go.Proofs.Ytncbpalncgcoaaa
open Go.Fw Go.Pl.Api Go.Pl.Vst Go.Pl.Mrg

def mArg77 : MArg := ⟨77, ⟨#[]⟩, 0⟩
abbrev eLR : Elem (List MObj) := Elem.sl si_Llateenref22_Obj eO
/-- All fields of all objects of one's own are spoilt; the list is told by a box. -/
theorem spoilB {h0 h : Heap} {L : List As} {t : Sl} {p : Addr} {cs : Array Value} {l : List MObj} {K : Heap → Prop} (S : Fw.Sep h0 h (ownSl si_Lvstate_Obj eO t l :: rawB p cs :: L)) (hcs : cs[1]? = some t.v) (hn : l.length ≤ 1000000) (hv : ∀ o ∈ l, o.vals.length ≤ 1000000)
    (hK : ∀ h' l', Fw.Sep h0 h' (ownSl si_Lvstate_Obj eO t l' :: rawB p cs :: L) → K h') :
    loopW (fun _ (i_1 : Int) h_18 next_2 =>
      ld .sl h_18 (p.add 1) fun (x_6 : Sl) =>
      ifB (decide (i_1 < (x_6.len : Int)))
       (loopW (fun _ (k_2 : Int) h_19 next_3 =>
        ld .sl h_19 (p.add 1) fun (x_7 : Sl) =>
        idx 6 x_7 i_1 fun p_7 =>
        ld .sl h_19 (p_7.add 2) fun (x_8 : Sl) =>
        ifB (decide (k_2 < (x_8.len : Int)))
         (ld .sl h_19 (p.add 1) fun (x_9 : Sl) =>
        idx 6 x_9 i_1 fun p_8 =>
        ld .sl h_19 (p_8.add 2) fun (x_10 : Sl) =>
        bst [(0, 1), (1, 1), (2, 1)] #[.int .i64 0, .string ⟨#[]⟩, .int .i64 0] [(0, .int .i64 77)] fun c =>
        idx 3 x_10 k_2 fun p_9 =>
        c.size = 3 ∧ st c.toList h_19 p_9 fun h_20 =>
        ar .i64 (k_2 + 1) fun n_2 =>
        next_3 n_2 h_20)
         (ar .i64 (i_1 + 1) fun n_3 =>
      next_2 n_3 h_19)) 0 h_18)
       (K h_18)) 0 h := by
  have hl : t.len = l.length := S.rd.lenEq
  have ldT : ∀ {h' : Heap} {l' : List MObj} {K : Sl → Prop}, Fw.Sep h0 h' (ownSl si_Lvstate_Obj eO t l' :: rawB p cs :: L) → K t → ld .sl h' (p.add 1) K := fun S' hK => ld_rawB (i := 1) (k := .sl) (x := t) S'.swap rfl hcs hK
  refine loop_intro (fun m (q : Int) h' => ∃ i : Nat, q = i ∧ i ≤ l.length ∧ m = l.length - i ∧ ∃ l' : List MObj, l'.length = l.length ∧ (∀ o ∈ l', o.vals.length ≤ 1000000) ∧ Fw.Sep h0 h' (ownSl si_Lvstate_Obj eO t l' :: rawB p cs :: L)) l.length
    ⟨0, rfl, by omega, by omega, l, rfl, hv, S⟩ ?_
  clear S
  rintro _ _ _ h1 ⟨i, rfl, hil, rfl, l1, hl1, hv1, S1⟩
  refine ldT S1 ?_
  refine ifB_intro (fun hc => ?_) (fun _ => hK _ _ S1)
  have hi : i < l.length := by rw [hl] at hc; simpa using hc
  refine loop_intro (fun m (q : Int) h' => ∃ k : Nat, q = k ∧ k ≤ 1000000 ∧ ∃ l' : List MObj, l'.length = l.length ∧ (∀ o ∈ l', o.vals.length ≤ 1000000) ∧ Fw.Sep h0 h' (ownSl si_Lvstate_Obj eO t l' :: rawB p cs :: L) ∧ ∃ o, l'[i]? = some o ∧ k ≤ o.vals.length ∧ m = o.vals.length - k) l1[i].vals.length
    ⟨0, rfl, by omega, l1, hl1, hv1, S1, l1[i], List.getElem?_eq_getElem _, by omega, by omega⟩ ?_
  clear S1
  rintro _ _ _ h2 ⟨k, rfl, hk, l2, hl2, hv2, S2, o, ho, hko, rfl⟩
  have hi2 : i < l2.length := by omega
  rw [List.getElem?_eq_getElem hi2] at ho
  cases ho
  have hvi := hv2 _ (List.getElem_mem hi2)
  refine ldT S2 ?_
  refine idx_rdN S2.rd rfl hi2 fun p8 _ hp8 => ld_lst (fld_oVals.rd hp8) (hExt.refl _) fun x9 hx9 => ?_
  have hx9l := hx9.lenEq
  refine ifB_intro (fun hc => ?_) (fun hc => ?_)
  · have hkv : k < l2[i].vals.length := by rw [hx9l] at hc; simpa using hc
    obtain ⟨x, hx1, hx2, hx3⟩ := setVal (v := mArg77) S2 hi2 hkv
    refine ldT S2 ?_
    refine idx_rdN S2.rd rfl hi2 fun p9 hp9 _ => ?_
    refine ld_one (k := .sl) (x := x) (hx1 p9 hp9) ?_
    refine bst_kind ?_
    refine idx_rdN hx2 rfl hkv fun p10 hp10 _ => ?_
    refine hx3 #[.int .i64 77, .string ⟨#[]⟩, .int .i64 0] _ rfl (fun h3 S3 => ?_) p10 hp10
    refine ar_i64 (by omega) (by omega) ⟨_, ?_, k + 1, rfl, by omega, _, by simpa using hl2, ?_, S3, { l2[i] with vals := l2[i].vals.set k mArg77 }, by rw [List.getElem?_set_self hi2], by simp; omega, rfl⟩
    · simp; omega
    · intro o ho
      rcases List.mem_or_eq_of_mem_set ho with ho | rfl
      · exact hv2 o ho
      · simpa using hvi
  · exact ar_i64 (by omega) (by omega) ⟨l.length - (i + 1), by omega, i + 1, rfl, by omega, rfl, l2, hl2, hv2, S2⟩

theorem forms_len40 {l : Ways} {rows : List (List MArg)} (ok : OkOf l rows) : (forms l).length ≤ 40 := by
  have h := @commonUp_len l (l.headD []) [] (l.headD []).length
  have h0 := ok.some
  have hh : l.headD [] = l[0] := head_get h0
  have := ok.forty _ (List.getElem_mem h0)
  rw [← hh] at this
  exact Nat.le_trans h this
theorem state_bounds {l : Ways} {rows : List (List MArg)} (ok : OkOf l rows) : (planF l rows).state.length ≤ 1000000 ∧ ∀ o ∈ (planF l rows).state, o.vals.length ≤ 1000000 := by
  unfold planF
  split
  · simp
  · rw [state_eq]
    simp only [List.length_map]
    refine ⟨Nat.le_trans (forms_len40 ok) (by decide), fun o ho => ?_⟩
    obtain ⟨fs, hfs, rfl⟩ := List.mem_map.1 ho
    obtain ⟨id, hid, rfl⟩ := forms_mem hfs
    have h20 := (forms_vals ok hid).2
    unfold mergedO
    split
    · exact Nat.le_trans h20 (by decide)
    · simp only [List.length_map, List.length_range]
      exact Nat.le_trans h20 (by decide)

set_option maxHeartbeats 2000000 in
theorem mergeKeeps_calls {h : Heap} {ls rs : Sl} {l : Ways} {rows : List (List MArg)} (hl : rdSl rObj.sl.el h ls l) (hrs : rdSl rArg.sl.el h rs rows) (hid : IdsR l) :
    ACalls Try.prog F_lateenlaw23_MergeKeeps [ls.v, rs.v] h (fun u h' => u = .bool true ∧ Old h h') := by
  refine lateenlaw23_MergeKeeps_of ?_
  unfold lateenlaw23_MergeKeeps
  have hll := hl.lenEq
  intro k hk
  refine awake23_calls.mono ?_
  rintro u h1 ⟨rfl, o1⟩
  refine ⟨_, rfl, ifB_false rfl ?_⟩
  refine (right23_calls (hl.old o1) (hrs.old o1)).mono ?_
  rintro u h2 ⟨b, rfl, o2, hfit⟩
  refine ⟨_, rfl, ?_⟩
  cases b with
  | false => exact hk _ _ fun _ => ifB_true rfl (awake23_end (o1.trans o2))
  | true =>
  have ok := hfit rfl
  have okf := okOf_fit ok hid
  refine hk _ _ fun _ => ifB_false rfl ?_
  clear hk k hfit
  have o02 := o1.trans o2
  have hB := hl.old o02
  have hRB := hrs.old o02
  have h6 := ok.six
  clear hl hrs o1 o2
  -- the copy
  refine loop_intro (fun m (q : Sl × Int) h' => ∃ i : Nat, q.2 = i ∧ i ≤ l.length ∧ m = l.length - i ∧ Fw.Sep h2 h' [ownSl si_LLlateenref22_Obj eLR q.1 (l.take i)]) l.length
    ⟨0, rfl, by omega, by omega, (Sep.start h2).nil rfl⟩ ?_
  rintro _ _ ⟨was, i⟩ h3 ⟨i, hi0, hi, rfl, S3⟩
  simp only at hi0 S3 ⊢
  subst hi0
  refine ifB_intro (fun hc => ?_) (fun hc => ?_)
  · have hil : i < l.length := by rw [hll] at hc; simpa using hc
    have hmem : l[i] ∈ l := List.getElem_mem hil
    have h40 := okf.forty _ hmem
    refine loop_intro (fun m (q : Sl × Int) h' => ∃ k : Nat, q.2 = k ∧ k ≤ l[i].length ∧ m = l[i].length - k ∧ Fw.Sep h2 h' [ownSl si_Llateenref22_Obj eO q.1 (l[i].take k), ownSl si_LLlateenref22_Obj eLR was (l.take i)]) l[i].length
      ⟨0, rfl, by omega, by omega, S3.nil rfl⟩ ?_
    clear S3
    rintro _ _ ⟨sc, k⟩ h4 ⟨k, hk0, hk, rfl, S4⟩
    simp only at hk0 S4 ⊢
    subst hk0
    refine idx_rdN hB rfl hil fun p _ hp => ld_lst hp S4.old.ext fun x hx => ?_
    refine ifB_intro (fun hc => ?_) (fun hc => ?_)
    · have hkk : k < l[i].length := by rw [hx.lenEq] at hc; simpa using hc
      have hvk := okf.vals _ hmem _ (List.getElem_mem hkk)
      refine idx_rdN hB rfl hil fun p1 _ hp1 => ld_lst hp1 S4.old.ext fun x1 hx1 => ?_
      refine idx_rdN hx1 rfl hkk fun p2 _ hp2 => ?_
      refine ld_agg hp2 S4.old.ext rfl fun cs hcs => ?_
      obtain ⟨sl, rfl, hsl⟩ := arr_obj hcs
      refine new_stR S4 rfl rfl (fun v hv => RV.one _ hcs v hv) fun p3 h7 S7 => ?_
      refine bld_rule (E := eArg) (us := []) (l := []) S7.rowNil (by simp [Instr.fill, madeCells]) rfl rfl (by decide) (by decide) fun s1 h8 S8 => ?_
      refine idx_rdN hB rfl hil fun p4 _ hp4 => ld_lst hp4 S8.old.ext fun x3 hx3 => ?_
      refine idx_rdN hx3 rfl hkk fun p5 _ hp5 => ?_
      refine ld_lst (fld_oVals.rd hp5) S8.old.ext fun x4 hx4 => ?_
      refine app_copy S8 flat_arg (rd_arg.2 (hx4.old S8.old)) (by simp only [List.length_nil, si_Lapi_Arg]; omega) (by simp only [List.length_nil]; omega) fun s2 h9 S9 => ?_
      refine st_rawB (i := 2) (v := s2.v) S9.swap (by simp) rfl fun h10 S10 => ?_
      refine ld_rawAgg S10 rfl ?_
      have S11 : Fw.Sep h2 h10 (ownSl si_Llateenref22_Obj eO sc (l[i].take k) :: ownEl eO [.int .i64 l[i][k].id, .string l[i][k].cls, s2.v, .int .i64 l[i][k].real.kind, .string l[i][k].real.s, .int .i64 l[i][k].real.n] l[i][k] :: [ownSl si_LLlateenref22_Obj eLR was (l.take i)]) := (slice_el S10.drop).swap
      refine app1_rule (v := .agg _) (x := l[i][k]) S11 rfl (by decide) (by simp only [List.length_take, si_Llateenref22_Obj]; omega) (by simp only [List.length_take]; omega) fun s' h' S' => ?_
      refine ar_i64 (by omega) (by omega) ⟨l[i].length - (k + 1), by omega, k + 1, rfl, by omega, rfl, ?_⟩
      rw [List.take_succ_eq_append_getElem hkk]
      exact S'
    · have hkk : l[i].length ≤ k := by rw [hx.lenEq] at hc; simpa using hc
      rw [List.take_of_length_le hkk] at S4
      have S5 := (Sep.toEl S4).swap
      refine app1_rule (x := l[i]) S5 rfl (by decide) (by simp only [List.length_take, si_LLlateenref22_Obj]; omega) (by simp only [List.length_take]; omega) fun s' h' S' => ?_
      refine ar_i64 (by omega) (by omega) ⟨l.length - (i + 1), by omega, i + 1, rfl, by omega, rfl, ?_⟩
      rw [List.take_succ_eq_append_getElem hil]
      exact S'
  have hil : l.length ≤ i := by rw [hll] at hc; simpa using hc
  rw [List.take_of_length_le hil] at S3
  clear hc hil hi i
  refine (there23_calls (hB.old S3.old) (by omega) (fun s hs => by have := okf.forty s hs; omega)).mono ?_
  rintro u h14 ⟨r1, rfl, o14, hr1⟩
  refine ⟨_, rfl, ?_⟩
  refine (Of_calls hr1 (hRB.old (S3.old.trans o14)) okf).mono ?_
  rintro u h15 ⟨n, t, f, a, rfl, S15⟩
  refine ⟨_, rfl, ?_⟩
  have SA := (S3.grow o14).frame S15
  clear S3 S15
  refine new_stR SA rfl rfl (fun v hv => by simp at hv; rcases hv with rfl | rfl | rfl | rfl <;> rfl) fun p6 h17 S17 => ?_
  obtain ⟨hb1, hb2⟩ := state_bounds okf
  refine spoilB (cs := #[n.v, t.v, f.v, a.v]) S17.rot3 rfl hb1 hb2 fun h18 l' S18 => ?_
  have S19 := rot6 (S18 : Fw.Sep h2 h18 [ownSl si_Lvstate_Obj eO t l', rawB p6 #[n.v, t.v, f.v, a.v], ownSl si_LLint64 eLI n (planF l rows).need, ownSl si_Lmerge_Phi ePhi f (planF l rows).phis, ownSl si_Lapi_Arg eArg a (planF l rows).alias', ownSl si_LLlateenref22_Obj eLR was l])
  clear S17 S18
  refine loop_intro (fun m (q : Int) h' => ∃ i : Nat, q = i ∧ i ≤ l.length ∧ m = l.length - i ∧ h' = h18) l.length ⟨0, rfl, by omega, by omega, rfl⟩ ?_
  rintro _ _ _ h21 ⟨i, rfl, hi, rfl, rfl⟩
  refine ifB_intro (fun hc => ?_) (fun _ => ?_)
  case refine_2 => exact ⟨trivial, o02.trans S19.old⟩
  have hil : i < l.length := by rw [hll] at hc; simpa using hc
  refine idx_rdN hB rfl hil fun p10 _ hp10 => ld_lst hp10 S19.old.ext fun x11 hx11 => ?_
  refine idx_rdN S19.rd rfl hil fun p11 _ hp11 => ?_
  obtain ⟨x12, hc12, hx12⟩ := hp11
  refine ld_one (k := .sl) (x := x12) hc12 ?_
  refine (refSame_calls (hx11.old S19.old) (rd_obj.1 hx12)).mono ?_
  rintro u h22 ⟨rfl, rfl⟩
  refine ⟨_, rfl, ?_⟩
  rw [decide_eq_true rfl]
  exact ifB_false rfl (ar_i64 (by omega) (by omega) ⟨l.length - (i + 1), by omega, i + 1, rfl, by omega, rfl, rfl⟩)

end Go.Proofs.Ytncbpalncgcoaaa
