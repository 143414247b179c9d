/-
  lateenlaw22.VstateKeeps: the walk.
-/
import Derived.Test.YtncbpalncgcoaaaFnFindsLaw
import Derived.Test.YtncbpalncgcoaaaFnSetsLaw
namespace Go.Proofs.Ytncbpalncgcoaaa
open Go.Fw Go.Pl.Api Go.Pl.Vst

theorem bst_zArg {K : Array Value → Prop} (h : K #[.int .i64 0, .string ⟨#[]⟩, .int .i64 0]) :
    bst [(0, 1), (1, 1), (2, 1)] #[.int .i64 0, .string ⟨#[]⟩, .int .i64 0] [] K := ⟨_, by kernel_rfl, h⟩
def mArg77 : MArg := ⟨77, ⟨#[]⟩, 0⟩
/-- All fields of all objects of one's own are spoilt. -/
theorem spoil {h0 h : Heap} {L : List As} {r : Sl} {l : List MObj} {K : Heap → Prop} (S : Fw.Sep h0 h (ownSl si_Lvstate_Obj eO r l :: L)) (hn : l.length ≤ 1000000) (hv : ∀ o ∈ l, o.vals.length ≤ 1000000)
    (hK : ∀ h' l', Fw.Sep h0 h' (ownSl si_Lvstate_Obj eO r l' :: L) → K h') :
    loopW (fun _ (i_1 : Int) h_32 next_2 =>
      ifB (decide (i_1 < (r.len : Int)))
       (loopW (fun _ (k_2 : Int) h_33 next_3 =>
        idx 6 r i_1 fun p_8 =>
        ld .sl h_33 (p_8.add 2) fun (x_9 : Sl) =>
        ifB (decide (k_2 < (x_9.len : Int)))
         (idx 6 r i_1 fun p_9 =>
        ld .sl h_33 (p_9.add 2) fun (x_10 : Sl) =>
        bst [(0, 1), (1, 1), (2, 1)] #[.int .i64 0, .string ⟨#[]⟩, .int .i64 0] [(0, .int .i64 77)] fun c_2 =>
        idx 3 x_10 k_2 fun p_10 =>
        c_2.size = 3 ∧ st c_2.toList h_33 p_10 fun h_34 =>
        ar .i64 (k_2 + 1) fun n_2 =>
        next_3 n_2 h_34)
         (ar .i64 (i_1 + 1) fun n_3 =>
      next_2 n_3 h_33)) 0 h_32)
       (K h_32)) 0 h := by
  have hl : r.len = l.length := S.rd.lenEq
  refine loop_intro (fun m (q : Int) h' => ∃ i : Nat, q = i ∧ i ≤ l.length ∧ m = l.length - i ∧ ∃ l' : List MObj, l'.length = l.length ∧ (∀ o ∈ l', o.vals.length ≤ 1000000) ∧ Fw.Sep h0 h' (ownSl si_Lvstate_Obj eO r l' :: L)) l.length
    ⟨0, rfl, by omega, by omega, l, rfl, hv, S⟩ ?_
  clear S
  rintro _ _ _ h1 ⟨i, rfl, hil, rfl, l1, hl1, hv1, S1⟩
  refine ifB_intro (fun hc => ?_) (fun _ => hK _ _ S1)
  have hi : i < l.length := by rw [hl] at hc; simpa using hc
  refine loop_intro (fun m (q : Int) h' => ∃ k : Nat, q = k ∧ k ≤ 1000000 ∧ ∃ l' : List MObj, l'.length = l.length ∧ (∀ o ∈ l', o.vals.length ≤ 1000000) ∧ Fw.Sep h0 h' (ownSl si_Lvstate_Obj eO r l' :: L) ∧ ∃ o, l'[i]? = some o ∧ k ≤ o.vals.length ∧ m = o.vals.length - k) l1[i].vals.length
    ⟨0, rfl, by omega, l1, hl1, hv1, S1, l1[i], List.getElem?_eq_getElem _, by omega, by omega⟩ ?_
  clear S1
  rintro _ _ _ h2 ⟨k, rfl, hk, l2, hl2, hv2, S2, o, ho, hko, rfl⟩
  have hi2 : i < l2.length := by omega
  rw [List.getElem?_eq_getElem hi2] at ho
  cases ho
  have hvi := hv2 _ (List.getElem_mem hi2)
  refine idx_rdN S2.rd rfl hi2 fun p8 _ hp8 => ld_lst (fld_oVals.rd hp8) (hExt.refl _) fun x9 hx9 => ?_
  have hx9l := hx9.lenEq
  refine ifB_intro (fun hc => ?_) (fun hc => ?_)
  · have hkv : k < l2[i].vals.length := by rw [hx9l] at hc; simpa using hc
    obtain ⟨x, hx1, hx2, hx3⟩ := setVal (v := mArg77) S2 hi2 hkv
    refine idx_rdN S2.rd rfl hi2 fun p9 hp9 _ => ?_
    refine ld_one (k := .sl) (x := x) (hx1 p9 hp9) ?_
    refine bst_kind ?_
    refine idx_rdN hx2 rfl hkv fun p10 hp10 _ => ?_
    refine hx3 #[.int .i64 77, .string ⟨#[]⟩, .int .i64 0] _ rfl (fun h3 S3 => ?_) p10 hp10
    refine ar_i64 (by omega) (by omega) ⟨_, ?_, k + 1, rfl, by omega, _, by simpa using hl2, ?_, S3, { l2[i] with vals := l2[i].vals.set k mArg77 }, by rw [List.getElem?_set_self hi2], by simp; omega, rfl⟩
    · simp; omega
    · intro o ho
      rcases List.mem_or_eq_of_mem_set ho with ho | rfl
      · exact hv2 o ho
      · simpa using hvi
  · exact ar_i64 (by omega) (by omega) ⟨l.length - (i + 1), by omega, i + 1, rfl, by omega, rfl, l2, hl2, hv2, S2⟩

set_option maxHeartbeats 2000000 in
theorem vstateKeeps_calls {h : Heap} {s : Sl} {l : List MObj} {co ca : Array Value} {o : MObj} {a : MArg} (hs : rdSl rObj.el h s l) (ho : rObj.rv h co.toList o) (ha : rArg.rv h ca.toList a) :
    ACalls Try.prog F_lateenlaw22_VstateKeeps [s.v, .agg co, .agg ca] h (fun u h' => u = .bool true ∧ Old h h') := by
  refine lateenlaw22_VstateKeeps_of ?_
  unfold lateenlaw22_VstateKeeps
  refine new_rv ho fun p h1 o1 hp => ?_
  refine new_rv (rArg.ext ha o1.ext) fun p1 h2 o2 hp1 => ?_
  have o02 := o1.trans o2
  intro k hk
  refine awake22_calls.mono ?_
  rintro u h18 ⟨rfl, o18⟩
  refine ⟨_, rfl, ifB_false rfl ?_⟩
  have oA := o02.trans o18
  have weak : k true h18 := hk _ _ fun _ => ifB_true rfl (awake22_end oA)
  refine (few_calls (hs.old oA)).mono ?_
  rintro u h19 ⟨rfl, rfl⟩
  refine ⟨_, rfl, ifB_intro (fun _ => weak) fun hc => ?_⟩
  have hf1 : fewF l = true := by simpa using hc
  refine (rising_calls (hs.old oA)).mono ?_
  rintro u h20 ⟨rfl, rfl⟩
  refine ⟨_, rfl, ?_⟩
  by_cases hr : Rising l
  case neg => rw [decide_eq_false hr]; exact weak
  rw [decide_eq_true hr]
  refine ifB_false rfl ?_
  refine ld_lst (fld_oVals.rd hp) (o2.trans o18).ext fun x6 hx6 => ?_
  by_cases hov : o.vals.length ≤ 50
  case neg =>
    rw [hx6.lenEq, decide_eq_true (by omega)]
    exact weak
  rw [hx6.lenEq, decide_eq_false (by omega)]
  refine hk _ _ fun _ => ifB_false rfl ?_
  clear weak hk k hc hx6 x6
  have hl40 := (few_iff hf1).1
  have hvals := (few_iff hf1).2
  have hv6 : ∀ x ∈ l, x.vals.length ≤ 1000000 := fun x hx => Nat.le_trans (hvals x hx) (by decide)
  have hsB := hs.old oA
  have hpB : rObj.el.rd h20 p o := rObj.el.ext hp (o2.trans o18).ext
  have hp1B : rArg.el.rd h20 p1 a := rArg.el.ext hp1 o18.ext
  clear hp hp1 hs ho ha o18 o1 o2 o02
  have hl := hsB.lenEq
  refine loop_intro (fun m (q : Sl × Int) h' => ∃ i : Nat, q.2 = i ∧ i ≤ l.length ∧ m = l.length - i ∧ Fw.Sep h20 h' [ownSl si_Llateenref22_Obj eO q.1 (l.take i)]) l.length
    ⟨0, rfl, by omega, by omega, (Sep.start h20).nil rfl⟩ ?_
  rintro _ _ ⟨was, i⟩ h5 ⟨i, hi0, hi, rfl, S⟩
  simp only at hi0 S ⊢
  subst hi0
  refine ifB_intro (fun hc => ?_) (fun hc => ?_)
  · have hil : i < l.length := by rw [hl] at hc; simpa using hc
    have hvi := hv6 _ (List.getElem_mem hil)
    refine idx_rdN hsB rfl hil fun p2 _ hp2 => ?_
    refine ld_agg hp2 S.old.ext rfl fun cs hcs => ?_
    obtain ⟨sl, rfl, hsl⟩ := arr_obj hcs
    refine new_stR S rfl rfl (fun v hv => RV.one _ hcs v hv) fun p3 h7 S7 => ?_
    refine bld_rule (E := eArg) (us := []) (l := []) S7.rowNil (by simp [Instr.fill, madeCells]) rfl rfl (by decide) (by decide) fun s1 h8 S8 => ?_
    refine idx_rdN hsB rfl hil fun p4 _ hp4 => ?_
    refine ld_lst (fld_oVals.rd hp4) S8.old.ext fun x1 hx1 => ?_
    refine app_copy S8 flat_arg (rd_arg.2 (hx1.old S8.old)) (by simp only [List.length_nil, si_Lapi_Arg]; omega) (by simp only [List.length_nil]; omega) fun s2 h9 S9 => ?_
    refine st_rawB (i := 2) (v := s2.v) S9.swap (by simp) rfl fun h10 S10 => ?_
    refine ld_rawAgg S10 rfl ?_
    have S11 : Fw.Sep h20 h10 (ownSl si_Llateenref22_Obj eO was (l.take i) :: ownEl eO [.int .i64 l[i].id, .string l[i].cls, s2.v, .int .i64 l[i].real.kind, .string l[i].real.s, .int .i64 l[i].real.n] l[i] :: []) := (slice_el S10.drop).swap
    refine app1_rule (v := .agg _) (x := l[i]) S11 rfl (by decide) (by simp only [List.length_take, si_Llateenref22_Obj]; omega) (by simp only [List.length_take]; omega) fun s' h' S' => ?_
    refine ar_i64 (by omega) (by have := hsB.bound; omega) ⟨l.length - (i + 1), by omega, i + 1, rfl, by omega, rfl, ?_⟩
    rw [List.take_succ_eq_append_getElem hil]
    exact S'
  have hil : l.length ≤ i := by rw [hl] at hc; simpa using hc
  rw [List.take_of_length_le hil] at S
  clear hc hil hi i
  refine bld_rule (E := eArg) (us := []) (l := []) S.rowNil (by simp [Instr.fill, madeCells]) rfl rfl (by decide) (by decide) fun s5 h13 S13 => ?_
  refine ld_lst (fld_oVals.rd hpB) S13.old.ext fun x3 hx3 => ?_
  refine app_copy S13 flat_arg (rd_arg.2 (hx3.old S13.old)) (by simp only [List.length_nil, si_Lapi_Arg]; omega) (by simp only [List.length_nil]; omega) fun s6 h14 S14 => ?_
  have S14 : Fw.Sep h20 h14 [ownSl si_Lapi_Arg eArg s6 o.vals, ownSl si_Llateenref22_Obj eO was l] := S14
  refine (there_calls (hsB.old S14.old) (by omega)).mono ?_
  rintro u h15 ⟨r1, rfl, S15⟩
  refine ⟨_, rfl, S15.old.ext, ?_⟩
  refine ld_agg hpB S14.old.ext rfl fun x4 hx4 => ?_
  have o1815 := S14.old.trans S15.old
  refine (one_calls (rObj.ext hx4 o1815.ext)).mono ?_
  rintro u h16 ⟨rfl, o16⟩
  refine ⟨_, rfl, o16.ext, ?_⟩
  refine (vAdd_calls ((fl_rd S15).old o16) (rObj.ext hx4 (o1815.trans o16).ext) hr (by omega) hv6 (by omega)).mono ?_
  rintro u h17 ⟨r3, rfl, S17⟩
  refine ⟨_, rfl, S17.old.ext, ?_⟩
  have SA := (S14.grow (S15.old.trans o16)).frame S17
  clear S14 S15 S17
  refine (there_calls (hsB.old SA.old) (by omega)).mono ?_
  rintro u h18' ⟨r4, rfl, S18⟩
  refine ⟨_, rfl, S18.old.ext, ?_⟩
  refine ld_agg hp1B SA.old.ext rfl fun x5 hx5 => ?_
  refine bst_zArg ?_
  refine (vSet_calls (a := a) (v := zArg) (fl_rd S18) (rv_arg.2 (rv_arg.1 hx5)) (rv_arg.2 rfl) hr (by omega) hv6).mono ?_
  rintro u h19 ⟨r5, rfl, S19⟩
  refine ⟨_, _, rfl, S19.old.ext, ?_⟩
  have SB := (SA.grow S18.old).frame S19
  have hl3 := addF_len (l := l) (o := o)
  have hv3 : ∀ x ∈ addF l o, x.vals.length ≤ 1000000 := fun x hx => by
    rcases mem_addF.1 hx with rfl | ⟨hx, _⟩
    · omega
    · exact hv6 x hx
  have hl5 := setF_len (l := l) a zArg 0
  have hv5 := setF_vals hv6 a zArg 0
  generalize (setF l a 0 zArg).getD l = l5 at *
  clear SA S18 S19 o1815 o16
  refine ⟨Old h20, h20, [ownSl si_Lvstate_Obj eO r5 l5, ownSl si_Lvstate_Obj eO r3 (addF l o), ownSl si_Lapi_Arg eArg s6 o.vals, ownSl si_Llateenref22_Obj eO was l],
    spF1 h20 l (findF l a) [ownSl si_Lvstate_Obj eO r5 l5, ownSl si_Lvstate_Obj eO r3 (addF l o), ownSl si_Lapi_Arg eArg s6 o.vals, ownSl si_Llateenref22_Obj eO was l], SB.old, SB, ?_⟩
  refine fcN (fun h X o' S => there_callsB hsB o' (by omega)) fun t1 => ⟨t1, rfl, ?_⟩
  refine ldF_old (ld_agg hp1B (hExt.refl _) rfl fun x1 hx1 => ?_)
  refine ⟨⟨.tuple #[.agg zCells, .bool (findF l a).isSome], zCells, rfl, rfl, RV.one rObj (rv_zObj (h := h20))⟩, fun h X o' S => ?_, ?_⟩
  · have S' : Fw.Sep h20 h (ownSl si_Lvstate_Obj (rObj.fl h20) t1 l :: X) := Sep.ofV S
    refine (Find_calls (fl_rd S') (rArg.ext hx1 o'.ext) hr (by omega) hv6).mono ?_
    rintro v h' ⟨ds, rfl, hsz, S2⟩
    refine ⟨_, _, rfl, o'.trans S2.old, ⟨ds, rfl, hsz, ?_⟩, ?_⟩
    · obtain ⟨f, hf⟩ := S2.get
      exact eO.one hf
    · exact (S'.drop.frame S2).conv loc_ownFound fun f o => ⟨f, .refl f, ds, rfl, o⟩
  rintro _ ⟨ds, rfl, hsz, hone⟩
  refine ⟨_, _, rfl, ?_⟩
  refine ⟨⟨.pointer (some ⟨0, 0, none⟩), _, rfl⟩, fun h X o' S => ?_, ?_⟩
  · exact new_rawB S fun p' h' o2 S2 => ⟨o'.trans o2, ⟨p', rfl⟩, S2.conv loc_ownBox fun f o => ⟨f, .refl f, p', rfl, o⟩⟩
  rintro _ ⟨p2, rfl⟩
  refine ⟨p2, rfl, ?_⟩
  refine ⟨⟨undef, trivial⟩, fun h X o' S => ?_, fun _ _ => ?_⟩
  · have S' := Sep.conv (A := ownBox zCells (.pointer (some p2))) S (loc_rawB (p := p2) (cs := zCells)) fun f ⟨q, e, o⟩ => by cases e; exact ⟨f, .refl f, o⟩
    exact st_allB S' rfl hsz hone fun h' S2 => ⟨S2.old, trivial, S2⟩
  intro h29 o29 S29
  generalize hX : (findF l a).getD zObj = X at *
  have S29 := Sep.conv (A := ownFound (findF l a) (.tuple #[.agg ds, .bool (findF l a).isSome])) S29 (loc_ownEl (E := eO) (xs := ds.toList) (x := X)) fun f ⟨d, e, o⟩ => by cases e; rw [hX] at o; exact ⟨f, .refl f, o⟩
  obtain ⟨sl, hds, S30⟩ := el_slice S29
  clear S29 SB
  have hds2 : ds[2]? = some sl.v := by rw [← Array.getElem?_toList, hds]; rfl
  refine loop_intro (fun m (q : Int) h' => ∃ k : Nat, q = k ∧ k ≤ X.vals.length ∧ m = X.vals.length - k ∧ ∃ vs : List MArg, vs.length = X.vals.length ∧ Fw.Sep h20 h' [ownSl si_Lapi_Arg eArg sl vs, rawB p2 ds, ownSl si_Lvstate_Obj eO r5 l5, ownSl si_Lvstate_Obj eO r3 (addF l o), ownSl si_Lapi_Arg eArg s6 o.vals, ownSl si_Llateenref22_Obj eO was l]) X.vals.length
    ⟨0, rfl, by omega, by omega, X.vals, rfl, S30⟩ ?_
  clear S30
  rintro _ _ _ h30 ⟨k, rfl, hkl, rfl, vs, hvs, S30⟩
  have hsl := S30.rd.lenEq
  refine ld_rawB (i := 2) (k := .sl) (x := sl) S30.swap rfl hds2 ?_
  refine ifB_intro (fun hc => ?_) (fun _ => ?_)
  · have hkv : k < vs.length := by rw [hsl] at hc; simpa using hc
    have hb := S30.rd.bound
    refine ld_rawB (i := 2) (k := .sl) (x := sl) S30.swap rfl hds2 ?_
    refine bst_kind ?_
    refine idx_rdN S30.rd rfl hkv fun p7 hp7 _ => ?_
    refine ⟨rfl, st_flat (x := mArg77) S30 (own_arg mArg77) hp7 rfl hkv fun h' S' => ?_⟩
    exact ar_i64 (by omega) (by omega) ⟨X.vals.length - (k + 1), by omega, k + 1, rfl, by omega, rfl, _, by simpa using hvs, S'⟩
  refine spoil S30.drop.drop.swap (by omega) hv3 fun h32 l3 S32 => ?_
  refine spoil S32.drop (by omega) hv5 fun h35 l4 S35 => ?_
  have S36 := S35.drop
  clear S30 S32 S35
  have oz : Old h h35 := oA.trans S36.old
  intro k4 hk4
  refine (refSame_calls (hsB.old S36.old) (rd_obj.1 S36.drop.rd)).mono ?_
  rintro u h39 ⟨rfl, rfl⟩
  refine ⟨_, rfl, ifB_true (decide_eq_true rfl) ?_⟩
  refine ld_lst (fld_oVals.rd hpB) S36.old.ext fun x13 hx13 => ?_
  refine (sameArgs_calls (hx13.old S36.old) (rd_arg.1 S36.rd)).mono ?_
  rintro u h40 ⟨rfl, rfl⟩
  refine ⟨_, rfl, hk4 _ _ fun _ => ?_⟩
  rw [decide_eq_true rfl]
  exact ⟨rfl, oz⟩

end Go.Proofs.Ytncbpalncgcoaaa
