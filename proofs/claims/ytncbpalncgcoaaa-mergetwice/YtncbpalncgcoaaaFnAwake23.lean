/-
  lateenlaw23.awake.
-/
import Derived.Test.YtncbpalncgcoaaaFnMrg7
import Derived.Test.YtncbpalncgcoaaaFnAwake22
namespace Go.Proofs.Ytncbpalncgcoaaa
open Go.Fw Go.Pl.Api Go.Pl.Vst Go.Pl.Mrg

def nA (n : Int) : MArg := ⟨2, ⟨#[]⟩, n⟩
def oA : MObj := ⟨1, ⟨#[80]⟩, [nA 1], zArg⟩
def oB : MObj := ⟨1, ⟨#[80]⟩, [nA 2], zArg⟩
def oC : MObj := ⟨1, ⟨#[80]⟩, [nA 2], ⟨1, ⟨#[120]⟩, 0⟩⟩
theorem plan1 : planF [[oA], [oB]] [] = ⟨[[], []], [⟨1, ⟨#[80]⟩, [openA], zArg⟩], [⟨1, 0, [nA 1, nA 2]⟩], []⟩ := by
  have h1 : needF [[oA], [oB]] [] = [[], []] := by decide +kernel
  have h2 : stateUp [[oA], [oB]] (forms [[oA], [oB]]) (forms [[oA], [oB]]).length = ([⟨1, ⟨#[80]⟩, [openA], zArg⟩], [⟨1, 0, [nA 1, nA 2]⟩]) := by decide +kernel
  unfold planF
  rw [h1, h2]
  simp [keysF]
theorem plan2 : planF [[oA], [oC]] [] = ⟨[[1], []], [], [], []⟩ := by
  have h1 : needF [[oA], [oC]] [] = [[(1, true)], []] := by decide +kernel
  unfold planF
  rw [h1]
  simp [keysF]
theorem okOf_one {x y : MObj} (hx : x.vals.length = 1) (hy : y.vals.length = 1) (h1 : inR x.id) (h2 : inR y.id) : OkOf [[x], [y]] [] := by
  have each : ∀ s ∈ [[x], [y]], ∀ o ∈ s, o.vals.length = 1 ∧ inR o.id := by
    intro s hs o ho
    simp at hs
    rcases hs with rfl | rfl
    · simp at ho; subst ho; exact ⟨hx, h1⟩
    · simp at ho; subst ho; exact ⟨hy, h2⟩
  refine ⟨by simp, by simp, by simp, fun s hs => ?_, fun s hs => ?_, fun s hs o ho => by rw [(each s hs o ho).1]; decide, fun s hs t ht o p id ho hp => ?_, by simp, fun s hs o ho => (each s hs o ho).2⟩
  · simp at hs
    rcases hs with rfl | rfl <;> simp [Rising]
  · simp at hs
    rcases hs with rfl | rfl <;> simp
  · rw [(each s hs o (findF_some ho).2.1).1, (each t ht p (findF_some hp).2.1).1]

theorem number_calls {h : Heap} (n : Int) : ACalls Try.prog F_lateenlaw23_number [.int .i64 n] h (fun v h' => v = .agg (argC (nA n)).toArray ∧ Old h h') := by
  refine lateenlaw23_number_of ?_
  unfold lateenlaw23_number
  refine new_rawB (Sep.start h) fun p h1 o1 S1 => ?_
  refine ⟨#[.int .i64 2, .string ⟨#[]⟩, .int .i64 n], by kernel_rfl, ?_⟩
  exact st_allB S1 rfl rfl (fun v hv => by simp at hv; rcases hv with rfl | rfl | rfl <;> rfl) fun h2 S2 => ld_rawAgg S2 rfl ⟨rfl, S2.old⟩
theorem number_bld {h : Heap} (n : Int) {K : Sl → Heap → Prop} (hK : ∀ s h', Old h h' → rdSl rArg.el h' s [nA n] → K s h') :
    ACalls Try.prog F_lateenlaw23_number [.int .i64 n] h fun v h_1 => as1 (.agg 3) v fun r => bld si_Lapi_Arg 1 [(0, .agg r)] h_1 fun s h_2 => K s h_2 := by
  refine (number_calls n).mono ?_
  rintro v h1 ⟨rfl, o1⟩
  refine ⟨_, rfl, ?_⟩
  refine bld_one (E := eArg) (x := nA n) ((Sep.start h1).nil rfl) (fun h => own_arg _ h) rfl (by decide) fun s h2 S2 => hK s h2 (o1.trans S2.old) (rd_arg.1 S2.rd)
theorem obj_bld {h : Heap} {cs : Array Value} {o : MObj} (ho : rObj.rv h cs.toList o) {K : Sl → Heap → Prop} (hK : ∀ s h', Old h h' → rdSl rObj.el h' s [o] → K s h') : bld si_Lvstate_Obj 1 [(0, .agg cs)] h K :=
  bld_one (E := rObj.fl h) (x := o) ((Sep.start h).nil rfl) (fun _ => ⟨ho, rfl⟩) rfl (by decide) fun s h2 S2 => hK s h2 S2.old (fl_rd S2)
theorem ways_bld {h : Heap} {s t : Sl} {x y : List MObj} (hs : rdSl rObj.el h s x) (ht : rdSl rObj.el h t y) {K : Sl → Heap → Prop} (hK : ∀ w h', Old h h' → rdSl rObj.sl.el h' w [x, y] → K w h') :
    bld si_LLvstate_Obj 2 [(0, s.v), (1, t.v)] h K := by
  have S1 : Fw.Sep h h (ownRow (rObj.sl.fl h) [s.v, t.v] [x, y] :: []) :=
    (Sep.start h).free loc_ownRow ⟨[s.v], [t.v], [], [], rfl, rfl, ⟨⟨s, rfl, hs⟩, rfl⟩, [t.v], [], [], [], rfl, rfl, ⟨⟨t, rfl, ht⟩, rfl⟩, rfl, rfl⟩
  exact bld_rule S1 (by kernel_rfl) rfl rfl (by decide) (by decide) fun w h' S' => hK w h' S'.old (RV.fl_el S'.rd S'.old.ext)
theorem bst_P {s : Sl} {K : Array Value → Prop} (h : K #[.int .i64 1, .string ⟨#[80]⟩, s.v, .int .i64 0, .string ⟨#[]⟩, .int .i64 0]) :
    bst [(0, 1), (1, 1), (2, 1), (3, 3)] #[.int .i64 0, .string ⟨#[]⟩, .slice none 0 0, .int .i64 0, .string ⟨#[]⟩, .int .i64 0] [(0, .int .i64 1), (1, .string ⟨#[80]⟩), (2, s.v)] K := ⟨_, by kernel_rfl, h⟩
theorem bst_PC {s : Sl} {K : Array Value → Prop} (h : K #[.int .i64 1, .string ⟨#[80]⟩, s.v, .int .i64 1, .string ⟨#[120]⟩, .int .i64 0]) :
    bst [(0, 1), (1, 1), (2, 1), (3, 3)] #[.int .i64 0, .string ⟨#[]⟩, .slice none 0 0, .int .i64 0, .string ⟨#[]⟩, .int .i64 0] [(0, .int .i64 1), (1, .string ⟨#[80]⟩), (2, s.v), (3, .agg #[.int .i64 1, .string ⟨#[120]⟩, .int .i64 0])] K := ⟨_, by kernel_rfl, h⟩
theorem nil_rows {h : Heap} : rdSl rArg.sl.el h nSl ([] : List (List MArg)) := ⟨rfl, Nat.le_refl _, by simp, fun _ => rfl, .inl rfl⟩

/-- A plan as it is told: read. -/
structure PlanRd (h : Heap) (n st ph al : Sl) (P : MPlan) : Prop where
  need : rdSl (Elem.sl si_Lint64 eInt) h n P.need
  state : rdSl rObj.el h st P.state
  phis : rdSl rPhiM.el h ph P.phis
  als : rdSl rArg.el h al P.alias'
theorem PlanRd.old {h h' : Heap} {n st ph al : Sl} {P : MPlan} (r : PlanRd h n st ph al P) (o : Old h h') : PlanRd h' n st ph al P := ⟨r.need.old o, r.state.old o, r.phis.old o, r.als.old o⟩
theorem plan_rd {h0 h : Heap} {n st ph al : Sl} {P : MPlan} {L : List As} (S : Fw.Sep h0 h (ownSl si_LLint64 eLI n P.need :: ownSl si_Lvstate_Obj eO st P.state :: ownSl si_Lmerge_Phi ePhi ph P.phis :: ownSl si_Lapi_Arg eArg al P.alias' :: L)) : PlanRd h n st ph al P :=
  ⟨S.rd, rd_obj.1 S.drop.rd, rd_phi.1 S.drop.drop.rd, rd_arg.1 S.drop.drop.drop.rd⟩

set_option maxHeartbeats 1000000 in
theorem awake23_calls {h : Heap} : ACalls Try.prog F_lateenlaw23_awake [] h (fun v h' => v = .bool true ∧ Old h h') := by
  refine lateenlaw23_awake_of ?_
  unfold lateenlaw23_awake
  refine number_bld 1 fun s h2 o2 hs => bst_P ?_
  refine obj_bld (o := oA) (rv_obj.2 ⟨s, rfl, hs⟩) fun s1 h3 o3 hs1 => ?_
  refine number_bld 2 fun s2 h5 o5 hs2 => bst_P ?_
  refine obj_bld (o := oB) (rv_obj.2 ⟨s2, rfl, hs2⟩) fun s3 h6 o6 hs3 => ?_
  refine number_bld 2 fun s4 h8 o8 hs4 => ?_
  refine bst_x (bst_PC ?_)
  refine obj_bld (o := oC) (rv_obj.2 ⟨s4, rfl, hs4⟩) fun s5 h9 o9 hs5 => ?_
  have o69 := o8.trans o9
  have o39 := o5.trans (o6.trans o69)
  refine ways_bld (hs1.old o39) (hs3.old o69) fun s6 h10 o10 hs6 => ?_
  have oz : Old h h10 := o2.trans (o3.trans (o39.trans o10))
  refine (Of_calls hs6 nil_rows (okOf_one rfl rfl (by simp [inR, oA]) (by simp [inR, oB]))).mono ?_
  rintro u h11 ⟨n1, t1, f1, a1, rfl, S11⟩
  refine ⟨_, rfl, ?_⟩
  rw [plan1] at S11
  have R1 := plan_rd S11
  have o11 := S11.old
  clear S11
  refine new_stR (Sep.start h11) rfl rfl (fun v hv => by simp at hv; rcases hv with rfl | rfl | rfl | rfl <;> rfl) fun p h13 S13 => ?_
  refine ways_bld (hs1.old (o39.trans (o10.trans (o11.trans S13.old)))) (hs5.old (o10.trans (o11.trans S13.old))) fun s7 h14 o14 hs7 => ?_
  refine (Of_calls hs7 nil_rows (okOf_one rfl rfl (by simp [inR, oA]) (by simp [inR, oC]))).mono ?_
  rintro u h15 ⟨n2, t2, f2, a2, rfl, S15⟩
  refine ⟨_, rfl, ?_⟩
  rw [plan2] at S15
  have R2 := plan_rd S15
  have o1315 := o14.trans S15.old
  clear S15
  refine new_stR (Sep.start h15) rfl rfl (fun v hv => by simp at hv; rcases hv with rfl | rfl | rfl | rfl <;> rfl) fun p1 h17 S17 => ?_
  have o1317 := o1315.trans S17.old
  have Sp := S13.grow o1317
  have ozz : Old h h17 := oz.trans (o11.trans Sp.old)
  have hR1 := R1.old Sp.old
  have hR2 := R2.old S17.old
  clear R1 R2 S13
  have hf1 : f1.len = 1 := hR1.phis.lenEq
  have ht1 : t1.len = 1 := hR1.state.lenEq
  have hn2 : n2.len = 2 := hR2.need.lenEq
  have ht2 : t2.len = 0 := hR2.state.lenEq
  have ldF1 : ∀ {K : Sl → Prop}, K f1 → ld .sl h17 (p.add 2) K := fun hK => ld_rawB (i := 2) (k := .sl) (x := f1) Sp rfl rfl hK
  have ldN2 : ∀ {K : Sl → Prop}, K n2 → ld .sl h17 (p1.add 0) K := fun hK => ld_rawB (i := 0) (k := .sl) (x := n2) S17 rfl rfl hK
  intro k hk
  refine ldF1 ?_
  rw [hf1]
  refine ifB_true rfl (ldF1 ?_)
  refine idx_rdN (i := 0) hR1.phis rfl (by simp) fun p2 _ hp2 => ?_
  refine ld_int (fld_pField.rd hp2) (hExt.refl _) ?_
  refine ifB_true rfl (ldF1 ?_)
  refine idx_rdN (i := 0) hR1.phis rfl (by simp) fun p3 _ hp3 => ?_
  refine ld_lst (fld_pIns.rd hp3) (hExt.refl _) fun x4 hx4 => ?_
  have hx4l : x4.len = 2 := hx4.lenEq
  rw [hx4l]
  refine ifB_true rfl (ldF1 ?_)
  refine idx_rdN (i := 0) hR1.phis rfl (by simp) fun p4 _ hp4 => ?_
  refine ld_lst (fld_pIns.rd hp4) (hExt.refl _) fun x6 hx6 => ?_
  refine idx_rdN (i := 1) hx6 rfl (by simp) fun p5 _ hp5 => ?_
  refine ld_agg hp5 (hExt.refl _) rfl fun x7 hx7 => ?_
  refine (number_calls 2).mono ?_
  rintro u h19 ⟨rfl, o19⟩
  refine ⟨_, rfl, o19.ext, ?_⟩
  have hx7 : rArg.rv h17 x7.toList (nA 2) := hx7
  refine eq_arg (h' := h17) (b := nA 2) hx7 rv_argC ?_
  rw [decide_eq_true rfl]
  refine ifB_true rfl ?_
  refine ld_rawB (i := 1) (k := .sl) (x := t1) Sp rfl rfl ?_
  rw [ht1]
  refine ifB_true rfl (ldN2 ?_)
  rw [hn2]
  refine ifB_true rfl (ldN2 ?_)
  refine idx_rdN (i := 0) hR2.need rfl (by simp) fun p6 _ hp6 => ?_
  obtain ⟨x11, hc11, hx11⟩ := hp6
  refine ld_one (k := .sl) (x := x11) hc11 ?_
  have hx11l : x11.len = 1 := hx11.lenEq
  rw [hx11l]
  refine ifB_true rfl (ldN2 ?_)
  refine idx_rdN (i := 0) hR2.need rfl (by simp) fun p7 _ hp7 => ?_
  obtain ⟨x13, hc13, hx13⟩ := hp7
  refine ld_one (k := .sl) (x := x13) hc13 ?_
  refine idx_rdN (i := 0) hx13 rfl (by simp) fun p8 _ hp8 => ld_one (k := .int .i64) (x := 1) hp8 ?_
  refine ifB_true rfl ?_
  refine ld_rawB (i := 1) (k := .sl) (x := t2) S17 rfl rfl ?_
  rw [ht2]
  exact hk _ _ fun _ => ⟨rfl, ozz.trans o19⟩
theorem awake23_end {hb h : Heap} (o : Old hb h) : ACalls Try.prog F_lateenlaw23_awake [] h (fun v h' => as1 .bool v fun r => (Value.bool r) = Value.bool true ∧ Old hb h') := by
  refine awake23_calls.mono ?_
  rintro v h' ⟨rfl, o'⟩
  exact ⟨true, rfl, rfl, o.trans o'⟩

end Go.Proofs.Ytncbpalncgcoaaa
