/-
  lateenlaw23.MergeMeans: the walk.
-/
import Derived.Test.YtncbpalncgcoaaaFnAwake23
import Derived.Test.YtncbpalncgcoaaaPlMrg
namespace Go.Proofs.Ytncbpalncgcoaaa
open Go.Fw Go.Pl.Api Go.Pl.Vst Go.Pl.Mrg

theorem meant_calls {h : Heap} {n st ph al : Sl} {P : MPlan} {id field : Int} {ca : Array Value} {a : MArg} {w : Nat} (R : PlanRd h n st ph al P) (ha : ca.toList = argC a) (hw : ∀ q ∈ P.phis, w < q.ins.length) :
    ACalls Try.prog F_lateenlaw23_meant [.agg #[n.v, st.v, ph.v, al.v], .int .i64 id, .int .i64 field, .agg ca, .int .i64 w] h (fun v h' => v = .agg (argC (meantF P.phis id field a w)).toArray ∧ Old h h') := by
  refine lateenlaw23_meant_of ?_
  unfold lateenlaw23_meant
  refine new_rawB (Sep.start h) fun p1 h1 o1 S1 => ?_
  refine new_rv (rv_arg.2 ha) fun p2 h2 o2 hp2 => ?_
  refine new_rawB (S1.grow o2) fun p3 h3 o3 S3 => ?_
  have hpl := R.phis.lenEq
  have hpb := R.phis.bound
  have o03 := S3.old
  have ldP : ∀ {K : Sl → Prop}, K ph → ld .sl h3 (p1.add 2) K := fun hK => ld_rawB (i := 2) (k := .sl) (x := ph) S3.swap rfl rfl hK
  have hph := R.phis.old o03
  refine loop_intro (fun m (q : Int) h' => ∃ i : Nat, q = i ∧ i ≤ P.phis.length ∧ m = P.phis.length - i ∧ h' = h3 ∧ ∀ k (hk : k < P.phis.length), k < i → ¬ (P.phis[k].id = id ∧ P.phis[k].field = field)) P.phis.length
    ⟨0, rfl, by omega, by omega, rfl, fun k _ h => by omega⟩ ?_
  rintro _ _ _ h4 ⟨i, rfl, hi, rfl, rfl, hno⟩
  refine ldP ?_
  rw [hpl]
  refine ifB_intro (fun hc => ?_) (fun hc => ?_)
  · have hil : i < P.phis.length := by simpa using hc
    intro k hk
    have next : ¬ (P.phis[i].id = id ∧ P.phis[i].field = field) → k false h4 := fun hh => hk _ _ fun _ => ifB_false rfl (ar_i64 (by omega) (by omega) ⟨P.phis.length - (i + 1), by omega, i + 1, rfl, by omega, rfl, rfl, fun j hj hji => by
      by_cases e : j = i
      · subst e; exact hh
      · exact hno j hj (by omega)⟩)
    refine ldP ?_
    refine idx_rdN hph rfl hil fun p6 _ hp6 => ld_int (fld_pId.rd hp6) (hExt.refl _) ?_
    refine ifB_intro (fun e1 => ?_) (fun e1 => next fun hh => by rw [hh.1] at e1; simp at e1)
    have e1 : P.phis[i].id = id := by simpa using e1
    refine ldP ?_
    refine idx_rdN hph rfl hil fun p7 _ hp7 => ld_int (fld_pField.rd hp7) (hExt.refl _) ?_
    by_cases e2 : P.phis[i].field = field
    · have : (P.phis[i].field == field) = true := by simpa using e2
      rw [this]
      refine hk _ _ fun _ => ifB_true rfl (ldP ?_)
      refine idx_rdN hph rfl hil fun p4 _ hp4 => ld_lst (fld_pIns.rd hp4) (hExt.refl _) fun x2 hx2 => ?_
      have hwi := hw _ (List.getElem_mem hil)
      refine idx_rdN hx2 rfl hwi fun p5 _ hp5 => ld_agg hp5 (hExt.refl _) rfl fun x3 hx3 => ?_
      refine st_allB S3 rfl (size_rv hx3) (fun v hv => RV.one _ hx3 v hv) fun h6 S6 => ld_rawAgg S6 (size_rv hx3).symm ⟨?_, S6.old⟩
      have hf : P.phis.find? (fun q => q.id == id && q.field == field) = some P.phis[i] := by
        rw [List.find?_eq_some_iff_getElem]
        refine ⟨by simp [e1, e2], i, hil, rfl, fun j hj => ?_⟩
        have := hno j (by omega) hj
        have hb : (P.phis[j].id == id && P.phis[j].field == field) = false := by
          cases hx : (P.phis[j].id == id && P.phis[j].field == field) with
          | false => rfl
          | true => exact absurd (by simpa using hx) this
        rw [hb]
        rfl
      unfold meantF
      rw [hf, agg_arg hx3]
      simp only
      rw [List.getD_eq_getElem?_getD, List.getElem?_eq_getElem hwi]
      rfl
    · have : (P.phis[i].field == field) = false := by simpa using e2
      rw [this]
      exact next fun hh => e2 hh.2
  · have hil : P.phis.length ≤ i := by simpa using hc
    refine ld_agg hp2 o3.ext rfl fun x9 hx9 => ?_
    refine st_allB S3 rfl (size_rv hx9) (fun v hv => RV.one _ hx9 v hv) fun h7 S7 => ld_rawAgg S7 (size_rv hx9).symm ⟨?_, S7.old⟩
    have hf : P.phis.find? (fun q => q.id == id && q.field == field) = none := by
      rw [List.find?_eq_none]
      intro q hq
      obtain ⟨j, hj, rfl⟩ := List.getElem_of_mem hq
      have := hno j hj (by omega)
      simpa using this
    unfold meantF
    rw [hf, agg_arg hx9]

theorem okOf_fit {l : Ways} {rows : List (List MArg)} (f : Fit l rows) (hi : IdsR l) : OkOf l rows :=
  ⟨f.some, f.six, f.twenty, fun s hs => by
    have := f.right s hs
    unfold rightF at this
    simp only [Bool.and_eq_true, decide_eq_true_eq] at this
    exact this.1.1, fun s hs => (few_iff (f.few s hs)).1, fun s hs o ho => (few_iff (f.few s hs)).2 o ho, f.len, f.row, hi⟩
theorem keysF_len {M : List (Int × Bool)} : (keysF M).length = M.length := by unfold keysF; rw [List.length_mergeSort, List.length_map]
theorem ld_sl1 {h : Heap} {si : SlI} {p : Addr} {l : List Int} {K : Sl → Prop} (r : (Elem.sl si eInt).rd h p l) (hK : ∀ x, rdSl eInt h x l → K x) : ld .sl h p K := by
  obtain ⟨x, hc, hx⟩ := r
  exact ld_one (k := .sl) (x := x) hc (hK x hx)

def spW (hb : Heap) (x : Option MObj) : Specs := fun n args => if n = 7 then ⟨fun _ => [], FoundP hb x⟩ else if n = 11 then ⟨fun v => [boxAs zCells23 v], fun v => ∃ p : Addr, v = .pointer (some p)⟩
  else match args with
  | [.pointer (some p), .agg c] => ⟨fun _ => [rawB p c], fun _ => True⟩
  | _ => Spec.val (.bool true)

set_option maxHeartbeats 4000000 in
theorem mergeMeans_calls {h : Heap} {ls rs : Sl} {l : Ways} {rows : List (List MArg)} (hl : rdSl rObj.sl.el h ls l) (hrs : rdSl rArg.sl.el h rs rows) (hid : IdsR l) :
    ACalls Try.prog F_lateenlaw23_MergeMeans [ls.v, rs.v] h (fun u h' => u = .bool true ∧ Old h h') := by
  refine lateenlaw23_MergeMeans_of ?_
  unfold lateenlaw23_MergeMeans
  have hll := hl.lenEq
  intro k hk
  refine awake23_calls.mono ?_
  rintro u h1 ⟨rfl, o1⟩
  refine ⟨_, rfl, ifB_false rfl ?_⟩
  refine (right23_calls (hl.old o1) (hrs.old o1)).mono ?_
  rintro u h2 ⟨b, rfl, o2, hfit⟩
  refine ⟨_, rfl, ?_⟩
  cases b with
  | false => exact hk _ _ fun _ => ifB_true rfl (awake23_end (o1.trans o2))
  | true =>
  have ok := hfit rfl
  have okf := okOf_fit ok hid
  refine hk _ _ fun _ => ifB_false rfl ?_
  clear hk k hfit
  have o02 := o1.trans o2
  refine (there23_calls (hl.old o02) (by have := ok.six; omega) (fun s hs => by have := okf.forty s hs; omega)).mono ?_
  rintro u h3 ⟨r1, rfl, o3, hr1⟩
  refine ⟨_, rfl, ?_⟩
  refine (Of_calls hr1 (hrs.old (o02.trans o3)) okf).mono ?_
  rintro u h4 ⟨n, t, f, a, rfl, S4⟩
  refine ⟨_, rfl, ?_⟩
  have R4 := plan_rd S4
  have o4 := S4.old
  clear S4
  refine new_stR (Sep.start h4) rfl rfl (fun v hv => by simp at hv; rcases hv with rfl | rfl | rfl | rfl <;> rfl) fun p h6 S6 => ?_
  have R6 := R4.old S6.old
  have o06 : Old h h6 := o02.trans (o3.trans (o4.trans S6.old))
  have hneed : (planF l rows).need = (needF l rows).map keysF := by unfold planF; split <;> rfl
  have hnl : (planF l rows).need.length = l.length := by rw [hneed, List.length_map, need_len]
  have hn := R6.need.lenEq
  rw [hnl] at hn
  refine ld_rawB (i := 0) (k := .sl) (x := n) S6 rfl rfl ?_
  rw [hn, hll]
  refine ifB_false (by simp) ?_
  have h6l := ok.six
  refine loop_intro (fun m (q : Int) h' => ∃ i : Nat, q = i ∧ i ≤ l.length ∧ m = l.length - i ∧ h' = h6 ∧ ∀ k (hk : k < (needF l rows).length), k < i → (needF l rows)[k] = []) l.length
    ⟨0, rfl, by omega, by omega, rfl, fun k _ h => by omega⟩ ?_
  rintro _ _ _ h7 ⟨i, rfl, hi, rfl, rfl, hempty⟩
  refine ifB_intro (fun hc => ?_) (fun hc => ?_)
  · have hil : i < l.length := by simpa using hc
    have hiN : i < (needF l rows).length := by rw [need_len]; exact hil
    refine ld_rawB (i := 0) (k := .sl) (x := n) S6 rfl rfl ?_
    refine idx_rdN R6.need rfl (by omega) fun p1 _ hp1 => ld_sl1 hp1 fun x2 hx2 => ?_
    have hx2l := hx2.lenEq
    have hget : (planF l rows).need[i]'(by omega) = keysF (needF l rows)[i] := by
      have : ∀ (a b : List (List Int)) (e : a = b) (h1 : i < a.length) (h2 : i < b.length), a[i] = b[i] := fun a b e h1 h2 => by subst e; rfl
      rw [this _ _ hneed (by omega) (by rw [List.length_map]; exact hiN), List.getElem_map]
    rw [hget, keysF_len] at hx2l
    rw [hx2l]
    refine ifB_intro (fun hc => ?_) (fun hc => ?_)
    · have hne : (needF l rows)[i] ≠ [] := fun e => by rw [e] at hc; simp at hc
      have hplan : (planF l rows).state = [] ∧ (planF l rows).phis = [] ∧ (planF l rows).alias' = [] := by
        unfold planF
        rw [if_pos (List.any_eq_true.2 ⟨_, List.getElem_mem hiN, by simpa using hne⟩)]
        exact ⟨rfl, rfl, rfl⟩
      have e1 : t.len = 0 := by rw [R6.state.lenEq, hplan.1]; rfl
      have e2 : f.len = 0 := by rw [R6.phis.lenEq, hplan.2.1]; rfl
      have e3 : a.len = 0 := by rw [R6.als.lenEq, hplan.2.2]; rfl
      refine ld_rawB (i := 1) (k := .sl) (x := t) S6 rfl rfl ?_
      refine ld_rawB (i := 2) (k := .sl) (x := f) S6 rfl rfl ?_
      rw [e1, e2]
      refine ar_i64 (by omega) (by omega) ?_
      refine ld_rawB (i := 3) (k := .sl) (x := a) S6 rfl rfl ?_
      rw [e3]
      exact ar_i64 (by omega) (by omega) ⟨rfl, o06⟩
    · have he : (needF l rows)[i] = [] := List.length_eq_zero_iff.1 (by have := of_decide_eq_false hc; omega)
      refine ar_i64 (by omega) (by omega) ⟨l.length - (i + 1), by omega, i + 1, rfl, by omega, rfl, rfl, fun j hj hji => ?_⟩
      by_cases e : j = i
      · subst e; exact he
      · exact hempty j hj (by omega)
  have hil : l.length ≤ i := by simpa using hc
  have he : Empty (needF l rows) := fun M hM => by
    obtain ⟨j, hj, rfl⟩ := List.getElem_of_mem hM
    exact hempty j hj (by rw [need_len] at hj; omega)
  clear hempty hc hi hil hnl hneed hn
  have hplan : (planF l rows).state = (forms l).map (mergedO l) ∧ (planF l rows).phis = phisOf l := by
    unfold planF
    rw [if_neg (by
      rw [List.any_eq_true]
      rintro ⟨M, hM, hh⟩
      rw [he M hM] at hh
      cases hh), state_eq]
    exact ⟨rfl, rfl⟩
  have hst := R6.state
  have hph := R6.phis
  rw [hplan.1] at hst
  rw [hplan.2] at hph
  have htl := hst.lenEq
  have hfl := hph.lenEq
  have htb := hst.bound
  have hfb := hph.bound
  rw [List.length_map] at htl htb
  -- each merged object
  refine loop_intro (fun m (q : Int) h' => ∃ i : Nat, q = i ∧ i ≤ (forms l).length ∧ m = (forms l).length - i ∧ Old h7 h') (forms l).length
    ⟨0, rfl, by omega, by omega, .refl _⟩ ?_
  rintro _ _ _ h8 ⟨i, rfl, hi, rfl, o8⟩
  have S8 := S6.grow o8
  refine ld_rawB (i := 1) (k := .sl) (x := t) S8 rfl rfl ?_
  rw [htl]
  refine ifB_intro (fun hc => ?_) (fun hc => ?_)
  · have hif : i < (forms l).length := by simpa using hc
    refine ld_rawB (i := 1) (k := .sl) (x := t) S8 rfl rfl ?_
    refine idx_rdN (hst.old o8) rfl (by simpa using hif) fun p2 _ hp2 => ld_agg hp2 (hExt.refl _) rfl fun x8 hx8 => ?_
    rw [List.getElem_map] at hx8
    refine new_stX hx8 (hExt.refl _) rfl rfl fun p3 h10 o10 hb3 => ?_
    have hmean := fun {w : Nat} (hw : w < l.length) => means_state ok he (List.getElem_mem hif) hw
    generalize hO : mergedO l (forms l)[i] = o at *
    refine loop_intro (fun m (q : Int) h' => ∃ w : Nat, q = w ∧ w ≤ l.length ∧ m = l.length - w ∧ Old h10 h') l.length
      ⟨0, rfl, by omega, by omega, .refl _⟩ ?_
    rintro _ _ _ h11 ⟨w, rfl, hw, rfl, o11⟩
    refine ifB_intro (fun hc => ?_) (fun hc => ?_)
    · have hwl : w < l.length := by simpa using hc
      obtain ⟨was, M⟩ := hmean hwl
      clear hmean
      have hgw : l.getD w [] = l[w] := by rw [List.getD_eq_getElem?_getD, List.getElem?_eq_getElem hwl]; rfl
      have hfound := M.found
      rw [hgw] at hfound
      have o711 : Old h7 h11 := o8.trans (o10.trans o11)
      have o011 := o06.trans o711
      have hl11 := hl.old o011
      have hid3 : rObj.bx h8 h11 p3 o := RV.bx_old hb3 o11
      intro k1 hk1
      have next : ∀ h', Old h11 h' → k1 () h' := fun h' o' => hk1 _ _ fun _ => ar_i64 (by omega) (by omega) ⟨l.length - (w + 1), by omega, w + 1, rfl, by omega, rfl, o11.trans o'⟩
      refine ⟨Old h11, h11, [], spW h11 (some was), .refl _, Sep.start _, ?_⟩
      refine idx_rdN hl11 rfl hwl fun p4 _ hp4 => ldF_old (ld_lst hp4 (hExt.refl _) fun x9 hx9 => ?_)
      refine ldF_old (ld_intX (fld_oId.bx hid3) ?_)
      refine bst_ref ?_
      obtain ⟨ds0, hds0⟩ := mem_rv hx9 (findF_some hfound).2.1
      refine ⟨⟨_, ds0, rfl, hds0⟩, fun h' Y o' S => ?_, ?_⟩
      · refine (refFind_callsB (a := toA o.id) hx9 o' (rv_toA _)).mono ?_
        rintro u h'' ⟨ds, rfl, o'', hrv⟩
        rw [hfound] at hrv ⊢
        exact ⟨ds, _, rfl, o'.trans o'', ⟨ds, rfl, hrv⟩, Sep.grow S o''⟩
      rintro _ ⟨ds, rfl, hds⟩
      refine ⟨_, _, rfl, ?_⟩
      refine ⟨⟨.pointer (some ⟨0, 0, none⟩), _, rfl⟩, fun h' Y o' S => ?_, ?_⟩
      · exact new_rawB S fun p' h'' o'' S'' => ⟨o'.trans o'', ⟨p', rfl⟩, S''.conv loc_boxAs fun f o => ⟨f, .refl f, p', rfl, o⟩⟩
      rintro _ ⟨p6, rfl⟩
      refine ⟨p6, rfl, ?_⟩
      refine ⟨⟨undef, trivial⟩, fun h' Y o' S => ?_, fun _ _ => ?_⟩
      · have S' : Fw.Sep h11 h' (rawB p6 zCells23 :: Y) := Sep.conv (A := boxAs zCells23 (.pointer (some p6))) S loc_rawB fun f ⟨q, e, o⟩ => by cases e; exact ⟨f, .refl f, o⟩
        exact st_allB S' rfl (size_rv hds) (fun v hv => RV.one _ hds v hv) fun h'' S'' => ⟨S''.old, trivial, S''⟩
      intro h20 o20 S20
      have S20 : Fw.Sep h11 h20 (rawB p6 ds :: []) := S20
      have hc6 := rawB_cell S20
      have hp6 : rObj.el.rd h20 p6 was := ⟨hc6.1, ds.toList, fun j' v hj => by rw [hc6.2]; simpa using hj, rObj.ext hds o20.ext⟩
      have hb20 := RV.bx_old hid3 o20
      clear S20 hc6
      have o720 := o711.trans o20
      have Sp := S6.grow o720
      have R20 := R6.old o720
      have hphl : ∀ q ∈ (planF l rows).phis, w < q.ins.length := fun q hq => by
        rw [hplan.2] at hq
        rw [(means_phi ok he hq).1]
        exact hwl
      intro k2 hk2
      have body : k2 false h20 := hk2 _ _ fun _ => ifB_false rfl <| by
        refine ld_intX (fld_argKind.bx (fld_oReal.bx hb20)) ?_
        by_cases hk0 : o.real.kind = 0
        · have : (o.real.kind != 0) = false := by simpa using hk0
          rw [this]
          refine ifB_false rfl ?_
          refine loop_intro (fun m (q : Int) h' => ∃ j : Nat, q = j ∧ j ≤ o.vals.length ∧ m = o.vals.length - j ∧ Old h20 h') o.vals.length
            ⟨0, rfl, by omega, by omega, .refl _⟩ ?_
          rintro _ _ _ h23 ⟨j, rfl, hj, rfl, o23⟩
          have hb23 := RV.bx_old hb20 o23
          refine ld_lstX (fld_oVals.bx hb23) fun x16 hx16 => ?_
          have hx16b : o.vals.length ≤ 9223372036854775807 := hx16.bound
          refine ifB_intro (fun hc => ?_) (fun hc => next h23 (o20.trans o23))
          have hjl : j < o.vals.length := by rw [hx16.lenEq] at hc; simpa using hc
          refine ld_rawAgg (Sp.grow o23) rfl ?_
          refine ld_intX (fld_oId.bx hb23) ?_
          refine ld_lstX (fld_oVals.bx hb23) fun x19 hx19 => ?_
          refine idx_rdN hx19 rfl hjl fun p7 _ hp7 => ld_agg hp7 (o10.trans (o11.trans (o20.trans o23))).ext rfl fun x20 hx20 => ?_
          refine (meant_calls (a := o.vals[j]) (field := j) (R20.old o23) (rv_arg.1 hx20) hphl).mono ?_
          rintro u h24 ⟨rfl, o24⟩
          refine ⟨_, rfl, o24.ext, ?_⟩
          refine idx_rdN hl11 rfl hwl fun p8 _ hp8 => ld_lst hp8 (o20.trans o23).ext fun x21 hx21 => ?_
          refine ld_lst (fld_oVals.rd hp6) o23.ext fun x22 hx22 => ?_
          have hjw : j < was.vals.length := by rw [M.len]; exact hjl
          refine idx_rdN hx22 rfl hjw fun p9 _ hp9 => ld_agg hp9 o23.ext rfl fun x23 hx23 => ?_
          refine (refReally_calls (a := was.vals[j]) (hx21.old (o20.trans (o23.trans o24))) (rv_arg.2 (rv_arg.1 hx23))).mono ?_
          rintro u h25 ⟨es, rfl, o25, hes⟩
          refine ⟨_, rfl, o25.ext, ?_⟩
          refine eq_arg (h := h24) (a := meantF (planF l rows).phis o.id j o.vals[j] w) rv_argC hes ?_
          have hm := M.field hk0 j hjl
          rw [hgw, List.getD_eq_getElem?_getD, List.getElem?_eq_getElem hjl, List.getD_eq_getElem?_getD, List.getElem?_eq_getElem hjw] at hm
          rw [hplan.2]
          rw [decide_eq_true (show meantF (phisOf l) o.id j o.vals[j] w = reallyF l[w] was.vals[j] from hm)]
          exact ifB_false rfl (ar_i64 (by omega) (by omega) ⟨o.vals.length - (j + 1), by omega, j + 1, rfl, by omega, rfl, o23.trans (o24.trans o25)⟩)
        · have : (o.real.kind != 0) = true := by simpa using hk0
          rw [this]
          refine ifB_true rfl ?_
          refine ld_rawAgg Sp rfl ?_
          refine ld_intX (fld_oId.bx hb20) ?_
          refine ld_aggX (fld_oReal.bx hb20) rfl fun x14 hx14 => ?_
          refine (meant_calls (a := o.real) (field := -1) R20 (rv_arg.1 hx14) hphl).mono ?_
          rintro u h22 ⟨rfl, o22⟩
          refine ⟨_, rfl, o22.ext, ?_⟩
          refine ld_agg (fld_oReal.rd hp6) (hExt.refl _) rfl fun x15 hx15 => ?_
          refine eq_arg (h := h22) (a := meantF (planF l rows).phis o.id (-1) o.real w) rv_argC hx15 ?_
          rw [hplan.2, decide_eq_true (M.real hk0)]
          exact ifB_false rfl (next h22 (o20.trans o22))
      refine ifB_false rfl ?_
      refine ld_int (fld_argKind.rd (fld_oReal.rd hp6)) (hExt.refl _) ?_
      refine ld_intX (fld_argKind.bx (fld_oReal.bx hb20)) ?_
      have hv : ((was.real.kind == 0) == (o.real.kind == 0)) = true := by
        have := M.virt
        by_cases e : o.real.kind = 0
        · have e2 := this.2 e
          simp [e, e2]
        · have e2 : ¬ was.real.kind = 0 := fun h => e (this.1 h)
          have a1 : (was.real.kind == 0) = false := by simpa using e2
          have a2 : (o.real.kind == 0) = false := by simpa using e
          rw [a1, a2]
          rfl
      rw [hv]
      refine ifB_false rfl ?_
      refine ld_lst (fld_oVals.rd hp6) (hExt.refl _) fun x26 hx26 => ?_
      refine ld_lstX (fld_oVals.bx hb20) fun x27 hx27 => ?_
      rw [hx26.lenEq, hx27.lenEq, M.len]
      have : ((o.vals.length : Int) != (o.vals.length : Int)) = false := by simp
      rw [this]
      exact body
    · exact ar_i64 (by omega) (by omega) ⟨(forms l).length - (i + 1), by omega, i + 1, rfl, by omega, rfl, o8.trans (o10.trans o11)⟩
  -- each phi
  refine loop_intro (fun m (q : Int) h' => ∃ i : Nat, q = i ∧ i ≤ (phisOf l).length ∧ m = (phisOf l).length - i ∧ Old h7 h') (phisOf l).length
    ⟨0, rfl, by omega, by omega, o8⟩ ?_
  clear S8 hc o8 hi i
  rintro _ _ _ h26 ⟨i, rfl, hi, rfl, o26⟩
  have ldF : ∀ {h' : Heap} {K : Sl → Prop}, Old h7 h' → K f → ld .sl h' (p.add 2) K := fun o' hK => ld_rawB (i := 2) (k := .sl) (x := f) (S6.grow o') rfl rfl hK
  refine ldF o26 ?_
  rw [hfl]
  refine ifB_intro (fun hc => ?_) (fun hc => ⟨rfl, o06.trans o26⟩)
  have hif : i < (phisOf l).length := by simpa using hc
  obtain ⟨hql, hq1, hqv⟩ := means_phi ok he (List.getElem_mem hif)
  have h0q : 0 < (phisOf l)[i].ins.length := by rw [hql]; exact ok.some
  have hhead := head_get (d := zArg) h0q
  refine loop_intro (fun m (q : Bool × Int) h' => ∃ w : Nat, q.2 = w ∧ w ≤ l.length ∧ m = l.length - w ∧ Old h7 h' ∧ (q.1 = false → ∀ v, v < w → (phisOf l)[i].ins.getD v zArg = (phisOf l)[i].ins[0])) l.length
    ⟨0, rfl, by omega, by omega, o26, fun _ v hv => by omega⟩ ?_
  rintro _ _ ⟨ul, w⟩ h27 ⟨w, hw0, hw, rfl, o27, hsame⟩
  simp only at hw0 hsame ⊢
  subst hw0
  refine ifB_intro (fun hc => ?_) (fun hc => ?_)
  · have hwl : w < l.length := by simpa using hc
    have hwq : w < (phisOf l)[i].ins.length := by omega
    have hgw : l.getD w [] = l[w] := by rw [List.getD_eq_getElem?_getD, List.getElem?_eq_getElem hwl]; rfl
    have hgq : (phisOf l)[i].ins.getD w zArg = (phisOf l)[i].ins[w] := by rw [List.getD_eq_getElem?_getD, List.getElem?_eq_getElem hwq]; rfl
    have hvirt := hqv w hwl
    rw [hgw, hgq] at hvirt
    intro k3 hk3
    have main : ∀ ul', (ul' = false → ul = false ∧ (phisOf l)[i].ins[w] = (phisOf l)[i].ins[0]) → k3 ul' h27 := fun ul' hu => hk3 _ _ fun _ => by
      refine idx_rdN (hl.old (o06.trans o27)) rfl hwl fun p10 _ hp10 => ld_lst hp10 (hExt.refl _) fun x29 hx29 => ?_
      refine ldF o27 ?_
      refine idx_rdN (hph.old o27) rfl hif fun p11 _ hp11 => ld_lst (fld_pIns.rd hp11) (hExt.refl _) fun x31 hx31 => ?_
      refine idx_rdN hx31 rfl hwq fun p12 _ hp12 => ld_agg hp12 (hExt.refl _) rfl fun x32 hx32 => ?_
      refine (refVirt_calls (a := (phisOf l)[i].ins[w]) hx29 hx32).mono ?_
      rintro u h29 ⟨rfl, o29⟩
      refine ⟨_, rfl, o29.ext, ?_⟩
      rw [hvirt]
      refine ifB_false rfl (ar_i64 (by omega) (by omega) ⟨l.length - (w + 1), by omega, w + 1, rfl, by omega, rfl, o27.trans o29, fun hf v hv => ?_⟩)
      obtain ⟨h1, h2⟩ := hu hf
      by_cases e : v = w
      · subst e; rw [hgq]; exact h2
      · exact hsame h1 v (by omega)
    refine ifB_intro (fun hu => main true fun h => by cases h) (fun hu => ?_)
    refine ldF o27 ?_
    refine idx_rdN (hph.old o27) rfl hif fun p13 _ hp13 => ld_lst (fld_pIns.rd hp13) (hExt.refl _) fun x34 hx34 => ?_
    refine idx_rdN hx34 rfl hwq fun p14 _ hp14 => ld_agg hp14 (hExt.refl _) rfl fun x35 hx35 => ?_
    refine ldF o27 ?_
    refine idx_rdN (hph.old o27) rfl hif fun p15 _ hp15 => ld_lst (fld_pIns.rd hp15) (hExt.refl _) fun x37 hx37 => ?_
    refine idx_rdN hx37 rfl h0q fun p16 _ hp16 => ld_agg hp16 (hExt.refl _) rfl fun x38 hx38 => ?_
    refine eq_arg hx35 hx38 (main _ fun hf => ⟨hu, ?_⟩)
    simpa using hf
  · have hwl : l.length ≤ w := by simpa using hc
    cases ul with
    | true =>
      exact ifB_false rfl (ar_i64 (by omega) (by omega) ⟨(phisOf l).length - (i + 1), by omega, i + 1, rfl, by omega, rfl, o27⟩)
    | false =>
      exfalso
      have hs := hsame rfl
      have : oneF (phisOf l)[i].ins = true := by
        unfold oneF
        rw [List.all_eq_true]
        intro x hx
        obtain ⟨v, hv, rfl⟩ := List.getElem_of_mem hx
        have := hs v (by omega)
        rw [List.getD_eq_getElem?_getD, List.getElem?_eq_getElem hv] at this
        rw [hhead]
        simpa using this
      rw [hq1] at this
      cases this

end Go.Proofs.Ytncbpalncgcoaaa
