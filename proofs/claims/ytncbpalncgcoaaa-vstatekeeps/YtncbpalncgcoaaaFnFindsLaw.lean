/-
  lateenlaw22.VstateFinds: the walk.
-/
import Derived.Test.YtncbpalncgcoaaaFnReachLaw
import Derived.Test.YtncbpalncgcoaaaFnBack
namespace Go.Proofs.Ytncbpalncgcoaaa
open Go.Fw Go.Pl.Api Go.Pl.Vst

def zCells : Array Value := #[.int .i64 0, .string ⟨#[]⟩, .slice none 0 0, .int .i64 0, .string ⟨#[]⟩, .int .i64 0]
/-- What is found, and owned. -/
def ownFound (x : Option MObj) (v : Value) : As := fun h f => ∃ ds : Array Value, v = .tuple #[.agg ds, .bool x.isSome] ∧ eO.own ds.toList (x.getD zObj) h f
def ownBox (cs : Array Value) (v : Value) : As := fun h f => ∃ p : Addr, v = .pointer (some p) ∧ rawB p cs h f
theorem loc_ownFound {x : Option MObj} {v : Value} : Fw.Loc (ownFound x v) := by
  rintro h h' f ⟨ds, e, o⟩ hb
  exact ⟨ds, e, eO.loc o hb⟩
theorem loc_ownBox {cs : Array Value} {v : Value} : Fw.Loc (ownBox cs v) := by
  rintro h h' f ⟨p, e, o⟩ hb
  exact ⟨p, e, loc_rawB o hb⟩
def spF1 (hb : Heap) (l : List MObj) (x : Option MObj) (L : List As) : Specs := fun n args => if n = 1 then Spec.sl si_Lvstate_Obj (rObj.fl hb) l
  else if n = 3 then ⟨fun v => [ownFound x v], fun v => ∃ ds : Array Value, v = .tuple #[.agg ds, .bool x.isSome] ∧ ds.size = 6 ∧ ∀ v ∈ ds.toList, v.oneCell' = true⟩
  else if n = 7 then ⟨fun v => [ownBox zCells v], fun v => ∃ p : Addr, v = .pointer (some p)⟩
  else match args with
  | [.pointer (some p), .agg c] => ⟨fun _ => rawB p c :: L, fun _ => True⟩
  | _ => Spec.val (.bool true)
def spF2 (hb : Heap) (l : List MObj) (x : MObj) (vr : Bool) (rl : MArg) : Specs := fun n _ => if n = 5 then Spec.sl si_Lvstate_Obj (rObj.fl hb) [x] else if n = 6 ∨ n = 8 then Spec.sl si_Llateenref22_Obj (rObj.fl hb) [x]
  else if n = 9 then Spec.val (.bool true) else if n = 13 ∨ n = 23 then Spec.sl si_Lvstate_Obj (rObj.fl hb) l else if n = 15 ∨ n = 18 then Spec.val (.bool vr) else Spec.val (.agg (argC rl).toArray)

set_option maxHeartbeats 2000000 in
theorem vstateFinds_calls {h : Heap} {s : Sl} {l : List MObj} {ca : Array Value} {a : MArg} (hs : rdSl rObj.el h s l) (ha : rArg.rv h ca.toList a) :
    ACalls Try.prog F_lateenlaw22_VstateFinds [s.v, .agg ca] h (fun u h' => u = .bool true ∧ Old h h') := by
  refine lateenlaw22_VstateFinds_of ?_
  unfold lateenlaw22_VstateFinds
  refine new_rv ha fun p h1 o1 hp => ?_
  intro k hk
  refine awake22_calls.mono ?_
  rintro u h18 ⟨rfl, o18⟩
  refine ⟨_, rfl, ifB_false rfl ?_⟩
  have oA := o1.trans o18
  have weak : k true h18 := hk _ _ fun _ => ifB_true rfl (awake22_end oA)
  refine (few_calls (hs.old oA)).mono ?_
  rintro u h19 ⟨rfl, rfl⟩
  refine ⟨_, rfl, ?_⟩
  by_cases hf1 : fewF l = true
  case neg => rw [Bool.eq_false_iff.2 hf1]; exact weak
  rw [hf1]
  refine hk _ _ fun _ => ifB_false rfl ?_
  clear weak hk k
  have hl40 := (few_iff hf1).1
  have hvals := (few_iff hf1).2
  have hv6 : ∀ x ∈ l, x.vals.length ≤ 1000000 := fun x hx => Nat.le_trans (hvals x hx) (by decide)
  refine (there_calls (hs.old oA) (by omega)).mono ?_
  rintro u h4 ⟨x, rfl, S4⟩
  refine ⟨_, rfl, ?_⟩
  have hx : rdSl rObj.el h4 x l := fl_rd S4
  have o14 : Old h1 h4 := o18.trans S4.old
  clear S4
  refine (vRight_calls hx (by omega)).mono ?_
  rintro u h5 ⟨rfl, o45⟩
  refine ⟨_, rfl, ?_⟩
  refine (refRight_calls (hs.old (o1.trans (o14.trans o45)))).mono ?_
  rintro u h6 ⟨rfl, o56⟩
  refine ⟨_, rfl, ifB_false (by simp) ?_⟩
  have o16 := o14.trans (o45.trans o56)
  refine (rising_calls (hs.old (o1.trans o16))).mono ?_
  rintro u h7 ⟨rfl, rfl⟩
  refine ⟨_, rfl, ?_⟩
  by_cases hr : Rising l
  case neg =>
    rw [decide_eq_false hr]
    exact ⟨rfl, o1.trans o16⟩
  rw [decide_eq_true hr]
  refine ifB_false rfl ?_
  have hs7 := hs.old (o1.trans o16)
  refine ⟨Old h7, h7, [], spF1 h7 l (findF l a) [], .refl _, Sep.start _, ?_⟩
  refine fcN (fun h X o' S => there_callsB hs7 o' (by omega)) fun t1 => ⟨t1, rfl, ?_⟩
  refine ldF_old (ld_agg hp o16.ext rfl fun x1 hx1 => ?_)
  have hx1 : rArg.rv h7 x1.toList a := rv_arg.2 (rv_arg.1 hx1)
  refine ⟨⟨.tuple #[.agg zCells, .bool (findF l a).isSome], zCells, rfl, rfl, RV.one rObj (rv_zObj (h := h7))⟩, fun h X o' S => ?_, ?_⟩
  · have S' : Fw.Sep h7 h (ownSl si_Lvstate_Obj (rObj.fl h7) t1 l :: X) := Sep.ofV S
    refine (Find_calls (fl_rd S') (rArg.ext hx1 o'.ext) hr (by omega) hv6).mono ?_
    rintro v h' ⟨ds, rfl, hsz, S2⟩
    refine ⟨_, _, rfl, o'.trans S2.old, ⟨ds, rfl, hsz, ?_⟩, ?_⟩
    · obtain ⟨f, hf⟩ := S2.get
      exact eO.one hf
    · exact (S'.drop.frame S2).conv loc_ownFound fun f o => ⟨f, .refl f, ds, rfl, o⟩
  rintro _ ⟨ds, rfl, hsz, hone⟩
  refine ⟨_, _, rfl, ?_⟩
  refine ⟨⟨.pointer (some ⟨0, 0, none⟩), _, rfl⟩, fun h X o' S => ?_, ?_⟩
  · exact new_rawB S fun p' h' o2 S2 => ⟨o'.trans o2, ⟨p', rfl⟩, S2.conv loc_ownBox fun f o => ⟨f, .refl f, p', rfl, o⟩⟩
  rintro _ ⟨p2, rfl⟩
  refine ⟨p2, rfl, ?_⟩
  refine ⟨⟨undef, trivial⟩, fun h X o' S => ?_, fun _ _ => ?_⟩
  · have S' : Fw.Sep h7 h (rawB p2 zCells :: X) := Sep.conv (A := ownBox zCells (.pointer (some p2))) S loc_rawB fun f ⟨q, e, o⟩ => by cases e; exact ⟨f, .refl f, o⟩
    exact st_allB S' rfl hsz hone fun h' S2 => ⟨S2.old, trivial, S2⟩
  intro h17 o17 S17
  have S17 : Fw.Sep h7 h17 (ownFound (findF l a) (.tuple #[.agg ds, .bool (findF l a).isSome]) :: rawB p2 ds :: []) := S17
  have hrv2 : rObj.rv h17 ds.toList ((findF l a).getD zObj) := own_rv (S17.conv loc_ownEl fun f ⟨d, e, o⟩ => by cases e; exact ⟨f, .refl f, o⟩)
  have hc2 := rawB_cell S17.drop
  have hp2 : rObj.el.rd h17 p2 ((findF l a).getD zObj) := ⟨hc2.1, ds.toList, fun j v hj => by rw [hc2.2]; simpa using hj, hrv2⟩
  clear S17 hc2 hrv2
  have o117 := o16.trans o17
  refine ld_agg hp o117.ext rfl fun c1 hc1 => ?_
  refine (refFind_calls (a := a) (hs.old (o1.trans o117)) (rv_arg.2 (rv_arg.1 hc1))).mono ?_
  rintro u h18' ⟨es, rfl, o1718, hes⟩
  refine ⟨_, _, rfl, ?_⟩
  refine new_stX hes o1718.ext rfl rfl fun p3 h20 o20 hb3 => ?_
  have o1720 := o1718.trans o20
  generalize hX : findF l a = X at *
  have oz : Old h h20 := o1.trans (o117.trans o1720)
  have hs20 := hs.old oz
  intro k hk
  have fin : ∀ h9, Old h20 h9 → k true h9 := fun h9 o9 => hk _ _ fun _ => ⟨rfl, oz.trans o9⟩
  refine ⟨Old h20, h20, [], spF2 h20 l (X.getD zObj) (virtF l a) (reallyF l a), .refl _, Sep.start _, ?_⟩
  refine ifB_true (by simp) ?_
  refine ldF_old (ld_agg hp2 o1720.ext rfl fun x2 hx2 => ?_)
  have hx2 := rObj.ext hx2 o1720.ext
  refine free_bld rfl (fun _ => ⟨hx2, rfl⟩) rfl (by decide) fun t1 => ⟨t1, rfl, ?_⟩
  refine fcS (fun h X o' S => back_own rfl (fun o => rv_ok o.1) (Sep.ofV S) (by simp)) fun t2 => ⟨t2, rfl, ?_⟩
  have hp3 : rObj.el.rd h20 p3 (X.getD zObj) := by
    obtain ⟨q1, cs, q2, q3⟩ := hb3
    exact ⟨q1, cs, q2, rObj.ext q3 (o1718.trans o20).ext⟩
  refine ldF_old (ld_agg hp3 (hExt.refl _) rfl fun x3 hx3 => ?_)
  refine free_bld rfl (fun _ => ⟨hx3, rfl⟩) rfl (by decide) fun t3 => ⟨t3, rfl, ?_⟩
  refine fcV (k := .bool) (x := true) (fun _ => rfl) (fun h Y o' S => ?_) ⟨_, rfl, ?_⟩
  · have S1 : Fw.Sep h20 h (ownSl si_Llateenref22_Obj (rObj.fl h20) t2 [X.getD zObj] :: ownV si_Llateenref22_Obj (rObj.fl h20) [X.getD zObj] t3.v :: Y) := Sep.ofV S
    have S2 : Fw.Sep h20 h (ownSl si_Llateenref22_Obj (rObj.fl h20) t3 [X.getD zObj] :: Y) := Sep.ofV S1.drop
    refine (refSame_calls (fl_rd S1) (fl_rd S2)).mono ?_
    rintro u h9 ⟨rfl, rfl⟩
    exact ⟨by rw [decide_eq_true rfl]; rfl, .refl _⟩
  refine ifB_true rfl ?_
  have oz' : Old h1 h20 := o117.trans o1720
  refine fcN (fun h X o' S => there_callsB hs20 o' (by omega)) fun t4 => ⟨t4, rfl, ?_⟩
  refine ldF_old (ld_agg hp oz'.ext rfl fun x4 hx4 => ?_)
  refine fcV (k := .bool) (x := virtF l a) (fun _ => rfl) (fun h Y o' S => ?_) ⟨_, rfl, ?_⟩
  · have S1 : Fw.Sep h20 h (ownSl si_Lvstate_Obj (rObj.fl h20) t4 l :: Y) := Sep.ofV S
    exact virt_calls (fl_rd S1) (rv_arg.2 (rv_arg.1 hx4)) hr (by omega)
  refine ldF_old (ld_agg hp oz'.ext rfl fun x5 hx5 => ?_)
  refine fcV (k := .bool) (x := virtF l a) (fun _ => rfl) (fun h Y o' S => refVirt_calls (hs20.old o') (rv_arg.2 (rv_arg.1 hx5))) ⟨_, rfl, ?_⟩
  refine ifB_true (by simp) ?_
  refine fcN (fun h X o' S => there_callsB hs20 o' (by omega)) fun t5 => ⟨t5, rfl, ?_⟩
  refine ldF_old (ld_agg hp oz'.ext rfl fun x6 hx6 => ?_)
  have hrl : ∀ {h : Heap} {ds : Array Value}, rArg.rv h ds.toList (reallyF l a) → Value.agg ds = .agg (argC (reallyF l a)).toArray := fun r => by rw [arr_arg r]; rfl
  refine fcV (k := .agg 3) (x := (argC (reallyF l a)).toArray) (fun _ => rfl) (fun h Y o' S => ?_) ⟨_, rfl, ?_⟩
  · have S1 : Fw.Sep h20 h (ownSl si_Lvstate_Obj (rObj.fl h20) t5 l :: Y) := Sep.ofV S
    refine (really_calls (fl_rd S1) (rv_arg.2 (rv_arg.1 hx6)) hr (by omega)).mono ?_
    rintro _ _ ⟨ds, rfl, o2, hd⟩
    exact ⟨hrl hd, o2⟩
  refine ldF_old (ld_agg hp oz'.ext rfl fun x7 hx7 => ?_)
  refine fcV (k := .agg 3) (x := (argC (reallyF l a)).toArray) (fun _ => rfl) (fun h Y o' S => ?_) ⟨_, rfl, ?_⟩
  · refine (refReally_calls (hs20.old o') (rv_arg.2 (rv_arg.1 hx7))).mono ?_
    rintro _ _ ⟨ds, rfl, o2, hd⟩
    exact ⟨hrl hd, o2⟩
  refine eq_arg (h := h20) (h' := h20) (a := reallyF l a) (b := reallyF l a) (rv_arg.2 rfl) (rv_arg.2 rfl) ?_
  rw [decide_eq_true rfl]
  exact fun h9 o9 _ => fin h9 o9

end Go.Proofs.Ytncbpalncgcoaaa
