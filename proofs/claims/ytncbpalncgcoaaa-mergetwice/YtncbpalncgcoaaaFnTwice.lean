/-
  lateenlaw23.MergeTwice: the walk.
-/
import Derived.Test.YtncbpalncgcoaaaFnKeepsM
import Derived.Test.YtncbpalncgcoaaaPlMrg
namespace Go.Proofs.Ytncbpalncgcoaaa
open Go.Fw Go.Pl.Api Go.Pl.Vst Go.Pl.Mrg

theorem nil_rd {α : Type} {E : Elem α} {h : Heap} : rdSl E h nSl ([] : List α) := ⟨rfl, Nat.le_refl _, by simp, fun _ => rfl, .inl rfl⟩
set_option maxHeartbeats 1000000 in
theorem samePlans_calls {h : Heap} {n1 n2 : Sl} {X : List (List Int)} (h1 : rdSl (Elem.sl si_Lint64 eInt) h n1 X) (h2 : rdSl (Elem.sl si_Lint64 eInt) h n2 X) :
    ACalls Try.prog F_lateenref23_SamePlans [.agg #[n1.v, nSl.v, nSl.v, nSl.v], .agg #[n2.v, nSl.v, nSl.v, nSl.v]] h (fun v h' => v = .bool true ∧ Old h h') := by
  refine lateenref23_SamePlans_of ?_
  unfold lateenref23_SamePlans
  have hl1 := h1.lenEq
  have hl2 := h2.lenEq
  have hb1 := h1.bound
  refine new_rawB (Sep.start h) fun p ha o1 S1 => ?_
  refine new_rawB S1 fun p1 hb o2 S2 => ?_
  have ldA : ∀ {j : Nat} {x : Sl} {h' : Heap} {K : Sl → Prop}, Old hb h' → (#[n1.v, nSl.v, nSl.v, nSl.v] : Array Value)[j]? = some x.v → K x → ld .sl h' (p.add j) K := fun {j x h' K} o e hK => ld_rawB (i := j) (k := .sl) (x := x) (S2.grow o).swap rfl e hK
  have ldB : ∀ {j : Nat} {x : Sl} {h' : Heap} {K : Sl → Prop}, Old hb h' → (#[n2.v, nSl.v, nSl.v, nSl.v] : Array Value)[j]? = some x.v → K x → ld .sl h' (p1.add j) K := fun {j x h' K} o e hK => ld_rawB (i := j) (k := .sl) (x := x) (S2.grow o) rfl e hK
  have o02 := S2.old
  intro k hk
  have main : ∀ h', Old hb h' → k false h' := fun h9 o9 => hk _ _ fun _ => ifB_false rfl <| by
    have oz := o02.trans o9
    refine loop_intro (fun m (q : Int) h' => ∃ i : Nat, q = i ∧ i ≤ X.length ∧ m = X.length - i ∧ h' = h9) X.length ⟨0, rfl, by omega, by omega, rfl⟩ ?_
    rintro _ _ _ h4 ⟨i, rfl, hi, rfl, rfl⟩
    refine ldA (x := n1) o9 rfl ?_
    rw [hl1]
    refine ifB_intro (fun hc => ?_) (fun hc => ?_)
    · have hil : i < X.length := by simpa using hc
      refine ldA (x := n1) o9 rfl ?_
      refine idx_rdN (h1.old oz) rfl hil fun p2 _ hp2 => ld_sl1 hp2 fun x2 hx2 => ?_
      refine ldB (x := n2) o9 rfl ?_
      refine idx_rdN (h2.old oz) rfl hil fun p3 _ hp3 => ld_sl1 hp3 fun x4 hx4 => ?_
      rw [hx2.lenEq, hx4.lenEq]
      refine ifB_false (by simp) ?_
      refine loop_intro (fun m (q : Int) h' => ∃ j : Nat, q = j ∧ j ≤ X[i].length ∧ m = X[i].length - j ∧ h' = h4) X[i].length ⟨0, rfl, by omega, by omega, rfl⟩ ?_
      rintro _ _ _ h5 ⟨j, rfl, hj, rfl, rfl⟩
      refine ldA (x := n1) o9 rfl ?_
      refine idx_rdN (h1.old oz) rfl hil fun p4 _ hp4 => ld_sl1 hp4 fun x6 hx6 => ?_
      have hxb : X[i].length ≤ 9223372036854775807 := hx6.bound
      rw [hx6.lenEq]
      refine ifB_intro (fun hc => ?_) (fun hc => ?_)
      · have hjl : j < X[i].length := by simpa using hc
        refine ldA (x := n1) o9 rfl ?_
        refine idx_rdN (h1.old oz) rfl hil fun p5 _ hp5 => ld_sl1 hp5 fun x8 hx8 => ?_
        refine idx_rdN hx8 rfl hjl fun p6 _ hp6 => ld_one (k := .int .i64) (x := X[i][j]) hp6 ?_
        refine ldB (x := n2) o9 rfl ?_
        refine idx_rdN (h2.old oz) rfl hil fun p7 _ hp7 => ld_sl1 hp7 fun x11 hx11 => ?_
        refine idx_rdN hx11 rfl hjl fun p8 _ hp8 => ld_one (k := .int .i64) (x := X[i][j]) hp8 ?_
        refine ifB_false (by simp) ?_
        exact ar_i64 (by omega) (by omega) ⟨X[i].length - (j + 1), by omega, j + 1, rfl, by omega, rfl, rfl⟩
      · exact ar_i64 (by omega) (by omega) ⟨X.length - (i + 1), by omega, i + 1, rfl, by omega, rfl, rfl⟩
    · refine loop_intro (fun m (q : Int) h' => q = 0 ∧ m = 0 ∧ h' = h4) 0 ⟨rfl, rfl, rfl⟩ ?_
      rintro _ _ _ h6 ⟨rfl, rfl, rfl⟩
      refine ldA (x := nSl) o9 rfl ?_
      exact ifB_false rfl ⟨rfl, oz⟩
  refine ldA (x := n1) (.refl _) rfl (ldB (x := n2) (.refl _) rfl ?_)
  rw [hl1, hl2]
  refine ifB_false (by simp) ?_
  refine ldA (x := nSl) (.refl _) rfl (ldB (x := nSl) (.refl _) rfl ?_)
  refine (refSame_calls (A := []) (B := []) (s := nSl) (t := nSl) nil_rd nil_rd).mono ?_
  rintro u h9 ⟨rfl, rfl⟩
  refine ⟨_, rfl, ifB_false (by simp) ?_⟩
  refine ldA (x := nSl) (.refl _) rfl (ldB (x := nSl) (.refl _) rfl ?_)
  refine ifB_false (by simp) ?_
  refine ldA (x := nSl) (.refl _) rfl (ldB (x := nSl) (.refl _) rfl ?_)
  refine (sameArgs_calls (A := []) (B := []) (a := nSl) (b := nSl) nil_rd nil_rd).mono ?_
  rintro u h10 ⟨rfl, rfl⟩
  refine ⟨_, rfl, ?_⟩
  rw [decide_eq_true rfl]
  exact main h10 (.refl _)

theorem okOf_dup {l : Ways} {rows : List (List MArg)} (ok : OkOf l rows) (h5 : l.length ≤ 5) : OkOf (dup [] l) (rows.map (dup zArg)) := by
  have hm := fun s => dup_mem (d := ([] : List MObj)) (x := s) ok.some
  refine ⟨by rw [dup_len]; omega, by rw [dup_len]; omega, by rw [List.length_map]; exact ok.twenty, fun s hs => ok.rise s ((hm s).1 hs), fun s hs => ok.forty s ((hm s).1 hs), fun s hs => ok.vals s ((hm s).1 hs),
    fun s hs t ht => ok.len s ((hm s).1 hs) t ((hm t).1 ht), fun r hr => ?_, fun s hs => ok.ids s ((hm s).1 hs)⟩
  obtain ⟨r', hr', rfl⟩ := List.mem_map.1 hr
  rw [dup_len, dup_len, ok.row r' hr']
theorem rr_rd {h0 h : Heap} {s : Sl} {l : List (List MArg)} {L : List As} (S : Fw.Sep h0 h (ownSl si_LLapi_Arg (Elem.sl si_Lapi_Arg eArg) s l :: L)) : rdSl rArg.sl.el h s l := by
  refine rdSl.imp S.rd rfl fun p x hp r => ?_
  obtain ⟨s', hc, hr⟩ := r
  refine ⟨hp, [s'.v], fun j v hj => ?_, s', rfl, rd_arg.1 hr⟩
  rcases j with _ | j
  · rw [Addr.add_zero']
    simp at hj
    subst hj
    exact hc
  · simp at hj

abbrev eRR : Elem (List MArg) := Elem.sl si_Lapi_Arg eArg
def spT1 (hb : Heap) (l : Ways) (x : List MObj) : Specs := fun n _ => if n = 0 then Spec.sl si_LLlateenref22_Obj (rObj.sl.fl hb) [] else if n = 2 then Spec.sl si_LLlateenref22_Obj (rObj.sl.fl hb) l else if n = 6 then Spec.sl si_LLlateenref22_Obj (rObj.sl.fl hb) [x]
  else Spec.sl si_LLlateenref22_Obj (rObj.sl.fl hb) (l ++ [x])
def slW {α : Type} (si : SlI) (E : Elem α) (l : List α) (T : List As) : Fw.Spec := ⟨fun v => ownV si E l v :: T, fun v => ∃ s : Sl, v = s.v⟩
def spT2 (r : List MArg) (x : MArg) (M : List (List MArg)) (T : List As) : Specs := fun n _ => if n = 1 then slW si_Lapi_Arg eArg [] T else if n = 6 then slW si_Lapi_Arg eArg r T else if n = 13 then slW si_Lapi_Arg eArg [x] [] else if n = 14 then slW si_Lapi_Arg eArg (r ++ [x]) T
  else if n = 15 then slW si_LLapi_Arg eRR [r ++ [x]] T else slW si_LLapi_Arg eRR (M ++ [r ++ [x]]) []
def spT3 (hb : Heap) (st : List MObj) : Specs := fun n _ => if n = 2 ∨ n = 5 then Spec.sl si_Llateenref22_Obj (rObj.fl hb) st else Spec.val (.bool true)

set_option maxHeartbeats 4000000 in
theorem mergeTwice_calls {h : Heap} {ls rs : Sl} {l : Ways} {rows : List (List MArg)} (hl : rdSl rObj.sl.el h ls l) (hrs : rdSl rArg.sl.el h rs rows) (hid : IdsR l) :
    ACalls Try.prog F_lateenlaw23_MergeTwice [ls.v, rs.v] h (fun u h' => u = .bool true ∧ Old h h') := by
  refine lateenlaw23_MergeTwice_of ?_
  unfold lateenlaw23_MergeTwice
  have hll := hl.lenEq
  have hrl := hrs.lenEq
  intro k hk
  refine awake23_calls.mono ?_
  rintro u h1 ⟨rfl, o1⟩
  refine ⟨_, rfl, ifB_false rfl ?_⟩
  refine (right23_calls (hl.old o1) (hrs.old o1)).mono ?_
  rintro u h2 ⟨b, rfl, o2, hfit⟩
  refine ⟨_, rfl, ?_⟩
  have o02 := o1.trans o2
  have weak : k true h2 := hk _ _ fun _ => ifB_true rfl (awake23_end o02)
  cases b with
  | false => exact weak
  | true =>
  have ok := hfit rfl
  have okf := okOf_fit ok hid
  refine ifB_false rfl ?_
  by_cases h5 : l.length ≤ 5
  case neg =>
    rw [hll, decide_eq_true (show (l.length : Int) > 5 by omega)]
    exact weak
  rw [hll, decide_eq_false (show ¬ (l.length : Int) > 5 by omega)]
  refine hk _ _ fun _ => ifB_false rfl ?_
  clear weak hk k hfit
  have hB := hl.old o02
  have hRB := hrs.old o02
  have h0 := ok.some
  have h20 := ok.twenty
  have hhead : l.headD [] = l[0] := head_get h0
  clear hl hrs o1 o2
  -- one way more
  refine ⟨Old h2, h2, [], spT1 h2 l l[0], .refl _, Sep.start _, ?_⟩
  refine ⟨⟨nSl.v, nSl, rfl⟩, fun h' Y o' S => ?_, ?_⟩
  · refine bld_rule (E := rObj.sl.fl h2) (us := []) (l := []) (Sep.rowNil S) (by simp [Instr.fill, madeCells]) rfl rfl (by decide) (by decide) fun s h'' S' => ⟨S'.old, ⟨s, rfl⟩, S'.toV⟩
  rintro _ ⟨r1, rfl⟩
  refine ⟨r1, rfl, ?_⟩
  refine ⟨⟨nSl.v, nSl, rfl⟩, fun h' Y o' S => ?_, ?_⟩
  · have S1 : Fw.Sep h2 h' (ownSl si_LLlateenref22_Obj (rObj.sl.fl h2) r1 [] :: Y) := Sep.ofV S
    exact app_copy S1 (RV.fl_flat _ _) (RV.el_fl hB o'.ext) (by simp only [List.length_nil, si_LLlateenref22_Obj]; omega) (by simp only [List.length_nil]; omega) fun s h'' S' => ⟨S'.old, ⟨s, rfl⟩, S'.toV⟩
  rintro _ ⟨r2, rfl⟩
  refine ⟨r2, rfl, ?_⟩
  refine idx_rdN hB rfl h0 fun p _ hp => ldF_old (ld_lst hp (hExt.refl _) fun x hx => ?_)
  refine free_bld rfl (fun _ => ⟨⟨x, rfl, hx⟩, rfl⟩) rfl (by decide) fun r3 => ⟨r3, rfl, ?_⟩
  refine ⟨⟨nSl.v, nSl, rfl⟩, fun h' Y o' S => ?_, ?_⟩
  · have S1 : Fw.Sep h2 h' (ownSl si_LLlateenref22_Obj (rObj.sl.fl h2) r2 l :: ownV si_LLlateenref22_Obj (rObj.sl.fl h2) [l[0]] r3.v :: Y) := Sep.ofV S
    have S2 := (Sep.ofV S1.swap).swap
    exact app_own S2 (by simp only [List.length_singleton, si_LLlateenref22_Obj]; omega) (by simp only [List.length_singleton]; omega) fun s h'' S' => ⟨S'.old, ⟨s, rfl⟩, S'.toV⟩
  rintro _ ⟨r4, rfl⟩
  refine ⟨r4, rfl, ?_⟩
  intro h12 o12 S12
  rw [List.append_nil] at S12
  have S12 : Fw.Sep h2 h12 [ownSl si_LLlateenref22_Obj (rObj.sl.fl h2) r4 (l ++ [l[0]])] := Sep.ofV S12
  have hm : rdSl rObj.sl.el h12 r4 (dup [] l) := by
    unfold dup
    rw [hhead]
    exact RV.fl_el S12.rd o12.ext
  clear S12
  have hR12 := hRB.old o12
  -- the rows
  refine loop_intro (fun n (q : Sl × Int) h' => ∃ i : Nat, q.2 = i ∧ i ≤ rows.length ∧ n = rows.length - i ∧ Fw.Sep h12 h' [ownSl si_LLapi_Arg eRR q.1 ((rows.take i).map (dup zArg))]) rows.length
    ⟨0, rfl, by omega, by omega, (Sep.start h12).nil rfl⟩ ?_
  rintro _ _ ⟨more, i⟩ h13 ⟨i, hi0, hi, rfl, S13⟩
  simp only at hi0 S13 ⊢
  subst hi0
  refine ifB_intro (fun hc => ?_) (fun hc => ?_)
  · have hil : i < rows.length := by rw [hrl] at hc; simpa using hc
    have hrlen := ok.row _ (List.getElem_mem hil)
    have h6 := ok.six
    have hr0 : 0 < rows[i].length := by omega
    have hdup : dup zArg rows[i] = rows[i] ++ [rows[i][0]] := by unfold dup; rw [head_get hr0]
    refine ⟨Old h12, h12, [ownSl si_LLapi_Arg eRR more ((rows.take i).map (dup zArg))], spT2 rows[i] rows[i][0] ((rows.take i).map (dup zArg)) [ownSl si_LLapi_Arg eRR more ((rows.take i).map (dup zArg))], S13.old, S13, ?_⟩
    refine ⟨⟨nSl.v, nSl, rfl⟩, fun h' Y o' S => ?_, ?_⟩
    · refine bld_rule (E := eArg) (us := []) (l := []) (Sep.rowNil S) (by simp [Instr.fill, madeCells]) rfl rfl (by decide) (by decide) fun s h'' S' => ⟨S'.old, ⟨s, rfl⟩, S'.toV⟩
    rintro _ ⟨r5, rfl⟩
    refine ⟨r5, rfl, ?_⟩
    refine idx_rdN hR12 rfl hil fun p1 _ hp1 => ldF_old (ld_lst hp1 (hExt.refl _) fun x1 hx1 => ?_)
    refine ⟨⟨nSl.v, nSl, rfl⟩, fun h' Y o' S => ?_, ?_⟩
    · have S1 := Sep.ofV (si := si_Lapi_Arg) (E := eArg) (s := r5) (l := []) S
      exact app_copy S1 flat_arg (rd_arg.2 (hx1.old o')) (by simp only [List.length_nil, si_Lapi_Arg]; omega) (by simp only [List.length_nil]; omega) fun s h'' S' => ⟨S'.old, ⟨s, rfl⟩, S'.toV⟩
    rintro _ ⟨r6, rfl⟩
    refine ⟨r6, rfl, ?_⟩
    refine idx_rdN hR12 rfl hil fun p2 _ hp2 => ldF_old (ld_lst hp2 (hExt.refl _) fun x2 hx2 => ?_)
    refine idx_rdN hx2 rfl hr0 fun p3 _ hp3 => ldF_old (ld_agg hp3 (hExt.refl _) rfl fun x3 hx3 => ?_)
    refine free_bld (E := eArg) (x := rows[i][0]) rfl (fun _ => ⟨by rw [agg_arg hx3]; rfl, rfl⟩) rfl (by decide) fun r7 => ⟨r7, rfl, ?_⟩
    refine ⟨⟨nSl.v, nSl, rfl⟩, fun h' Y o' S => ?_, ?_⟩
    · have S1 : Fw.Sep h12 h' (ownSl si_Lapi_Arg eArg r6 rows[i] :: ownSl si_LLapi_Arg eRR more ((rows.take i).map (dup zArg)) :: ownV si_Lapi_Arg eArg [rows[i][0]] r7.v :: Y) := Sep.ofV S
      have S2 := (Sep.ofV S1.rot3).swap
      exact app_own S2 (by simp only [List.length_singleton, si_Lapi_Arg]; omega) (by simp only [List.length_singleton]; omega) fun s h'' S' => ⟨S'.old, ⟨s, rfl⟩, S'.toV⟩
    rintro _ ⟨r8, rfl⟩
    refine ⟨r8, rfl, ?_⟩
    refine ⟨⟨nSl.v, nSl, rfl⟩, fun h' Y o' S => ?_, ?_⟩
    · have S1 := Sep.toEl (Sep.ofV (si := si_Lapi_Arg) (E := eArg) (s := r8) (l := rows[i] ++ [rows[i][0]]) S)
      exact bld_own (v := r8.v) S1 rfl rfl (by decide) fun s h'' S' => ⟨S'.old, ⟨s, rfl⟩, S'.toV⟩
    rintro _ ⟨r9, rfl⟩
    refine ⟨r9, rfl, ?_⟩
    refine ⟨⟨nSl.v, nSl, rfl⟩, fun h' Y o' S => ?_, ?_⟩
    · have S1 := Sep.swap (Sep.ofV (si := si_LLapi_Arg) (E := eRR) (s := r9) (l := [rows[i] ++ [rows[i][0]]]) S)
      exact app_own (si := si_LLapi_Arg) (E := eRR) S1 (by simp only [List.length_map, List.length_take, List.length_singleton, si_LLapi_Arg]; omega) (by simp only [List.length_map, List.length_take, List.length_singleton]; omega) fun s h'' S' => ⟨S'.old, ⟨s, rfl⟩, S'.toV⟩
    rintro _ ⟨r10, rfl⟩
    refine ⟨r10, rfl, ?_⟩
    intro h27 _ S27
    rw [List.append_nil] at S27
    have S28 : Fw.Sep h12 h27 [ownSl si_LLapi_Arg eRR r10 ((rows.take i).map (dup zArg) ++ [rows[i] ++ [rows[i][0]]])] := Sep.ofV S27
    refine ar_i64 (by omega) (by omega) ⟨rows.length - (i + 1), by omega, i + 1, rfl, by omega, rfl, ?_⟩
    rw [List.take_succ_eq_append_getElem hil, List.map_append, List.map_cons, List.map_nil, hdup]
    exact S28
  have hil : rows.length ≤ i := by rw [hrl] at hc; simpa using hc
  rw [List.take_of_length_le hil] at S13
  have hmore := rr_rd S13
  have o13 := S13.old
  clear S13 hc hil hi i
  have o213 := o12.trans o13
  refine (there23_calls (hB.old o213) (by omega) (fun s hs => by have := okf.forty s hs; omega)).mono ?_
  rintro u h28 ⟨r11, rfl, o28, hr11⟩
  refine ⟨_, rfl, ?_⟩
  refine (Of_calls hr11 (hRB.old (o213.trans o28)) okf).mono ?_
  rintro u h29 ⟨n1, t1, f1, a1, rfl, S29⟩
  refine ⟨_, rfl, ?_⟩
  have P1 := plan_rd S29
  have o29 := S29.old
  clear S29
  refine new_stR (Sep.start h29) rfl rfl (fun v hv => by simp at hv; rcases hv with rfl | rfl | rfl | rfl <;> rfl) fun p4 h31 S31 => ?_
  have o1331 : Old h13 h31 := o28.trans (o29.trans S31.old)
  have okd := okOf_dup okf h5
  refine (there23_calls (hm.old (o13.trans o1331)) (by rw [dup_len]; omega) (fun s hs => by have := okd.forty s hs; omega)).mono ?_
  rintro u h32 ⟨r13, rfl, o32, hr13⟩
  refine ⟨_, rfl, ?_⟩
  refine (Of_calls hr13 (hmore.old (o1331.trans o32)) okd).mono ?_
  rintro u h33 ⟨n2, t2, f2, a2, rfl, S33⟩
  refine ⟨_, rfl, ?_⟩
  have P2 := plan_rd S33
  have o3133 := o32.trans S33.old
  clear S33
  refine new_stR (Sep.start h33) rfl rfl (fun v hv => by simp at hv; rcases hv with rfl | rfl | rfl | rfl <;> rfl) fun p5 h35 S35 => ?_
  have S4 := S31.grow (o3133.trans S35.old)
  have P1 := P1.old (S31.old.trans (o3133.trans S35.old))
  have P2 := P2.old S35.old
  have oz : Old h h35 := o02.trans (o213.trans (o1331.trans (o3133.trans S35.old)))
  have hT := twice (l := l) (rows := rows) h0 ok.row
  have hb1 := (state_bounds okf).1
  generalize planF l rows = Pa at *
  generalize planF (dup [] l) (rows.map (dup zArg)) = Pb at *
  have hn2 := P2.need.lenEq
  rw [hT.need, dup_len, hT.len] at hn2
  have hf1 := P1.phis.lenEq
  have hf2 := P2.phis.lenEq
  rw [hT.phis] at hf2
  intro k1 hk1
  have body : k1 false h35 := hk1 _ _ fun _ => ifB_false rfl <| by
    intro k2 hk2
    refine ⟨Old h35, h35, [], spT3 h35 Pa.state, .refl _, Sep.start _, ?_⟩
    refine ldF_old (ld_rawB (i := 1) (k := .sl) (x := t1) S4 rfl rfl ?_)
    refine fcN (fun h' Y o' S => back_callsB P1.state o' hb1) fun r16 => ⟨r16, rfl, ?_⟩
    refine ldF_old (ld_rawB (i := 1) (k := .sl) (x := t2) S35 rfl rfl ?_)
    have hst2 := P2.state
    rw [hT.state] at hst2
    refine fcN (fun h' Y o' S => back_callsB hst2 o' hb1) fun r18 => ⟨r18, rfl, ?_⟩
    refine fcV (k := .bool) (x := true) (fun _ => rfl) (fun h' Y o' S => ?_) ⟨_, rfl, ?_⟩
    · have S1 : Fw.Sep h35 h' (ownSl si_Llateenref22_Obj (rObj.fl h35) r16 Pa.state :: ownV si_Llateenref22_Obj (rObj.fl h35) Pa.state r18.v :: Y) := Sep.ofV S
      have S2 : Fw.Sep h35 h' (ownSl si_Llateenref22_Obj (rObj.fl h35) r18 Pa.state :: Y) := Sep.ofV S1.drop
      refine (refSame_calls (fl_rd S1) (fl_rd S2)).mono ?_
      rintro u h9 ⟨rfl, rfl⟩
      exact ⟨by rw [decide_eq_true rfl]; rfl, .refl _⟩
    refine ifB_true rfl ?_
    refine ldF_old (ld_rawB (i := 3) (k := .sl) (x := a1) S4 rfl rfl ?_)
    refine ldF_old (ld_rawB (i := 3) (k := .sl) (x := a2) S35 rfl rfl ?_)
    refine fcV (k := .bool) (x := true) (fun _ => rfl) (fun h' Y o' S => ?_) ⟨_, rfl, ?_⟩
    · have ha2 := P2.als
      rw [hT.als] at ha2
      refine (sameArgs_calls (P1.als.old o') (ha2.old o')).mono ?_
      rintro u h9 ⟨rfl, rfl⟩
      exact ⟨by rw [decide_eq_true rfl]; rfl, .refl _⟩
    refine ifB_true rfl ?_
    refine ldF_old (ld_rawB (i := 0) (k := .sl) (x := n1) S4 rfl rfl ?_)
    refine ⟨#[n1.v, nSl.v, nSl.v, nSl.v], by kernel_rfl, ?_⟩
    refine ldF_old (ld_rawB (i := 0) (k := .sl) (x := n2) S35 rfl rfl ?_)
    have hneed2 := P2.need
    rw [hT.need] at hneed2
    rw [hll]
    refine slc_upto (k := l.length) hneed2 (by rw [dup_len, hT.len]; omega) fun s10 hs10 => ?_
    have htake : (dup [] Pa.need).take l.length = Pa.need := by
      unfold dup
      rw [List.take_left' hT.len]
    rw [htake] at hs10
    refine ⟨#[s10.v, nSl.v, nSl.v, nSl.v], by kernel_rfl, ?_⟩
    refine fcV (k := .bool) (x := true) (fun _ => rfl) (fun h' Y o' S => samePlans_calls (P1.need.old o') (hs10.old o')) ⟨_, rfl, ?_⟩
    exact fun h9 o9 _ => hk2 _ _ fun _ => ⟨rfl, oz.trans o9⟩
  refine ld_rawB (i := 0) (k := .sl) (x := n2) S35 rfl rfl ?_
  rw [hll]
  refine ar_i64 (by omega) (by omega) ?_
  rw [hn2]
  refine ifB_false (by simp) ?_
  refine ld_rawB (i := 2) (k := .sl) (x := f1) S4 rfl rfl ?_
  refine ld_rawB (i := 2) (k := .sl) (x := f2) S35 rfl rfl ?_
  rw [hf1, hf2]
  have : ((Pa.phis.length : Int) != (Pa.phis.length : Int)) = false := by simp
  rw [this]
  exact body

end Go.Proofs.Ytncbpalncgcoaaa
