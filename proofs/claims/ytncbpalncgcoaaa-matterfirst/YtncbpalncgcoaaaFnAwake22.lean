/-
  lateenlaw22.awake.
-/
import Derived.Test.YtncbpalncgcoaaaFnAdd
import Derived.Test.YtncbpalncgcoaaaFwFree
namespace Go.Proofs.Ytncbpalncgcoaaa
open Go.Fw Go.Pl.Api Go.Pl.Vst

def aTo (n : Int) : MArg := ⟨5, ⟨#[]⟩, n⟩
def ob1 : MObj := ⟨1, ⟨#[]⟩, [aTo 2], zArg⟩
def ob2 : MObj := ⟨2, ⟨#[]⟩, [aTo 1], zArg⟩
def ob3 : MObj := ⟨2, ⟨#[]⟩, [], ⟨1, ⟨#[120]⟩, 0⟩⟩
theorem ris12 : Rising [ob1, ob2] := by unfold Rising; simp [ob1, ob2]
theorem ris13 : Rising [ob1, ob3] := by unfold Rising; simp [ob1, ob3]
theorem add13 : addF [ob1, ob2] ob3 = [ob1, ob3] := by unfold addF; simp [ob1, ob2, ob3]
theorem right12 : rightF [ob1, ob2] = true := by decide +kernel
theorem right1 : rightF [ob1] = false := by decide +kernel
theorem reach12 : reachF [ob1, ob2] [aTo 1] = [1, 2] := by
  refine (reach_eq ris12 (by simp) fun z => ?_).symm
  have h1 : Rch [ob1, ob2] [aTo 1] ob1 := .base (by simp) rfl (a := aTo 1) (by simp) rfl rfl
  have h2 : Rch [ob1, ob2] [aTo 1] ob2 := .step h1 (by simp) rfl (a := aTo 2) (by simp [ob1]) rfl rfl
  constructor
  · intro hz
    simp at hz
    rcases hz with rfl | rfl
    · exact ⟨_, h1, rfl⟩
    · exact ⟨_, h2, rfl⟩
  · rintro ⟨o, ho, rfl⟩
    have := ho.mem.1
    simp at this
    rcases this with rfl | rfl <;> simp [ob1, ob2]
theorem reach13 : reachF [ob1, ob3] [aTo 1] = [1] := by
  refine (reach_eq ris13 (by simp) fun z => ?_).symm
  have h1 : Rch [ob1, ob3] [aTo 1] ob1 := .base (by simp) rfl (a := aTo 1) (by simp) rfl rfl
  constructor
  · intro hz
    simp at hz
    subst hz
    exact ⟨_, h1, rfl⟩
  · rintro ⟨o, ho, rfl⟩
    have hm := ho.mem
    have := hm.1
    simp at this
    rcases this with rfl | rfl
    · simp [ob1]
    · exact absurd hm.2 (by simp [ob3])

theorem to_bld {h : Heap} (n : Int) {K : Sl → Heap → Prop} (hK : ∀ s h', Old h h' → rdSl rArg.el h' s [aTo n] → K s h') :
    ACalls Try.prog F_lateenlaw22_to [.int .i64 n] h fun v h_1 => as1 (.agg 3) v fun r => bld si_Lapi_Arg 1 [(0, .agg r)] h_1 fun s h_2 => K s h_2 := by
  refine (to_calls n).mono ?_
  rintro v h1 ⟨rfl, o1⟩
  refine ⟨_, rfl, ?_⟩
  have S1 : Fw.Sep h1 h1 (ownRow eArg (argC (aTo n)) [aTo n] :: []) := (Sep.start h1).free loc_ownRow ⟨argC (aTo n), [], [], [], rfl, rfl, ⟨rfl, rfl⟩, rfl, rfl⟩
  refine bld_rule S1 ?_ rfl rfl (by decide) (by decide) fun s h2 S2 => hK s h2 (o1.trans S2.old) (rd_arg.1 S2.rd)
  have := fill_one (size := 3) (z := madeCells si_Lapi_Arg.zero.cells (1 * si_Lapi_Arg.size)) (v := .agg #[.int .i64 5, .string ⟨#[]⟩, .int .i64 n]) rfl (by rw [size_madeCells]; rfl)
  exact this
theorem to_arg {h : Heap} (n : Int) {K : Array Value → Heap → Prop} (hK : ∀ c h', Old h h' → rArg.rv h' c.toList (aTo n) → K c h') :
    ACalls Try.prog F_lateenlaw22_to [.int .i64 n] h fun v h_1 => as1 (.agg 3) v fun r => K r h_1 := by
  refine (to_calls n).mono ?_
  rintro v h1 ⟨rfl, o1⟩
  exact ⟨_, rfl, hK _ _ o1 (rv_to n)⟩
theorem bst_idv {id : Int} {s : Sl} {K : Array Value → Prop} (h : K #[.int .i64 id, .string ⟨#[]⟩, s.v, .int .i64 0, .string ⟨#[]⟩, .int .i64 0]) :
    bst [(0, 1), (1, 1), (2, 1), (3, 3)] #[.int .i64 0, .string ⟨#[]⟩, .slice none 0 0, .int .i64 0, .string ⟨#[]⟩, .int .i64 0] [(0, .int .i64 id), (2, s.v)] K := ⟨_, by kernel_rfl, h⟩
theorem bst_x {K : Array Value → Prop} (h : K #[.int .i64 1, .string ⟨#[120]⟩, .int .i64 0]) :
    bst [(0, 1), (1, 1), (2, 1)] #[.int .i64 0, .string ⟨#[]⟩, .int .i64 0] [(0, .int .i64 1), (1, .string ⟨#[120]⟩)] K := ⟨_, by kernel_rfl, h⟩
theorem bst_o3 {K : Array Value → Prop} (h : K #[.int .i64 2, .string ⟨#[]⟩, .slice none 0 0, .int .i64 1, .string ⟨#[120]⟩, .int .i64 0]) :
    bst [(0, 1), (1, 1), (2, 1), (3, 3)] #[.int .i64 0, .string ⟨#[]⟩, .slice none 0 0, .int .i64 0, .string ⟨#[]⟩, .int .i64 0] [(0, .int .i64 2), (3, .agg #[.int .i64 1, .string ⟨#[120]⟩, .int .i64 0])] K := ⟨_, by kernel_rfl, h⟩
theorem fill_two {s t : Sl} : Instr.fill (fun i => some (i * si_Lvstate_Obj.size, si_Lvstate_Obj.size)) (madeCells si_Lvstate_Obj.zero.cells (2 * si_Lvstate_Obj.size))
    [(0, .agg #[.int .i64 1, .string ⟨#[]⟩, s.v, .int .i64 0, .string ⟨#[]⟩, .int .i64 0]), (1, .agg #[.int .i64 2, .string ⟨#[]⟩, t.v, .int .i64 0, .string ⟨#[]⟩, .int .i64 0])] =
    some #[.int .i64 1, .string ⟨#[]⟩, s.v, .int .i64 0, .string ⟨#[]⟩, .int .i64 0, .int .i64 2, .string ⟨#[]⟩, t.v, .int .i64 0, .string ⟨#[]⟩, .int .i64 0] := by kernel_rfl

set_option maxHeartbeats 1000000 in
theorem awake22_calls {h : Heap} : ACalls Try.prog F_lateenlaw22_awake [] h (fun v h' => v = .bool true ∧ Old h h') := by
  refine lateenlaw22_awake_of ?_
  unfold lateenlaw22_awake
  refine to_bld 2 fun s h2 o2 hs => ?_
  refine bst_idv ?_
  refine to_bld 1 fun s1 h4 o4 hs1 => ?_
  refine bst_idv ?_
  have S4 : Fw.Sep h4 h4 (ownRow (rObj.fl h4) [.int .i64 1, .string ⟨#[]⟩, s.v, .int .i64 0, .string ⟨#[]⟩, .int .i64 0, .int .i64 2, .string ⟨#[]⟩, s1.v, .int .i64 0, .string ⟨#[]⟩, .int .i64 0] [ob1, ob2] :: []) :=
    (Sep.start h4).free loc_ownRow ⟨[.int .i64 1, .string ⟨#[]⟩, s.v, .int .i64 0, .string ⟨#[]⟩, .int .i64 0], _, [], [], rfl, rfl, ⟨rv_obj.2 ⟨s, rfl, hs.old o4⟩, rfl⟩, [.int .i64 2, .string ⟨#[]⟩, s1.v, .int .i64 0, .string ⟨#[]⟩, .int .i64 0], [], [], [], rfl, rfl, ⟨rv_obj.2 ⟨s1, rfl, hs1⟩, rfl⟩, rfl, rfl⟩
  refine bld_rule S4 fill_two rfl rfl (by decide) (by decide) fun s2 h5 S5 => ?_
  have hx : rdSl rObj.el h5 s2 [ob1, ob2] := fl_rd S5
  have o5 := (o2.trans o4).trans S5.old
  clear S4 S5 hs hs1
  refine to_bld 1 fun s3 h7 o7 hs3 => ?_
  have hv12 : ∀ o ∈ [ob1, ob2], o.vals.length ≤ 1000 := by intro o ho; simp at ho; rcases ho with rfl | rfl <;> simp [ob1, ob2]
  refine (vReach_calls (hx.old o7) hs3 ris12 (by simp) hv12 (by simp) (by intro o ho; simp at ho; rcases ho with rfl | rfl <;> simp [ob1, ob2])).mono ?_
  rintro v h8 ⟨r3, rfl, S8⟩
  refine ⟨_, rfl, ?_⟩
  rw [reach12] at S8
  refine bst_x (bst_o3 ?_)
  have hr3 := S8.rd
  have o58 := o7.trans S8.old
  refine (vAdd_calls (o := ob3) (hx.old o58) (rv_obj.2 ⟨⟨none, 0, 0⟩, rfl, ⟨rfl, Nat.le_refl _, by simp [ob3], fun _ => rfl, .inl rfl⟩⟩) ris12 (by simp) (fun o ho => Nat.le_trans (hv12 o ho) (by decide)) (by simp [ob3])).mono ?_
  rintro v h9 ⟨r4, rfl, S9⟩
  refine ⟨_, rfl, ?_⟩
  rw [add13] at S9
  have hr4 : rdSl rObj.el h9 r4 [ob1, ob3] := rd_obj.1 S9.rd
  have o59 := o58.trans S9.old
  refine to_bld 1 fun s4 h11 o11 hs4 => ?_
  refine (vReach_calls (hr4.old o11) hs4 ris13 (by simp) (by intro o ho; simp at ho; rcases ho with rfl | rfl <;> simp [ob1, ob3]) (by simp) (by intro o ho; simp at ho; rcases ho with rfl | rfl <;> simp [ob1, ob3])).mono ?_
  rintro v h12 ⟨r6, rfl, S12⟩
  refine ⟨_, rfl, ?_⟩
  rw [reach13] at S12
  have hr6l : r6.len = 1 := S12.rd.lenEq
  have o912 := o11.trans S12.old
  have o512 := o59.trans o912
  intro k hk
  refine (vRight_calls (hx.old o512) (by simp)).mono ?_
  rintro v h14 ⟨rfl, o14⟩
  refine ⟨_, rfl, ?_⟩
  rw [right12]
  have o814 : Old h8 h14 := S9.old.trans (o912.trans o14)
  have hr3' := hr3.old o814
  have hr3l : r3.len = 2 := hr3.lenEq
  refine ifB_true rfl ?_
  rw [hr3l]
  refine ifB_true rfl ?_
  refine idx_rdN (i := 0) hr3' rfl (by simp) fun p _ hp => ld_one (k := .int .i64) (x := 1) hp ?_
  refine ifB_true rfl ?_
  refine idx_rdN (i := 1) hr3' rfl (by simp) fun p1 _ hp1 => ld_one (k := .int .i64) (x := 2) hp1 ?_
  refine ifB_true rfl ?_
  rw [hr6l]
  refine ifB_true rfl ?_
  have o914 := o912.trans o14
  refine to_arg 2 fun c h15 o15 hc => ?_
  refine (really_calls (hr4.old (o914.trans o15)) hc ris13 (by simp)).mono ?_
  rintro v h16 ⟨ds, rfl, o16, hds⟩
  refine ⟨_, rfl, ?_⟩
  have hre : reallyF [ob1, ob3] (aTo 2) = ob3.real := by decide +kernel
  rw [hre] at hds
  rw [arr_arg hds]
  refine ⟨⟨#[120]⟩, rfl, ?_⟩
  refine ifB_true (by decide +kernel) ?_
  have o916 := o914.trans (o15.trans o16)
  have o516 := o512.trans (o14.trans (o15.trans o16))
  refine to_arg 2 fun c2 h17 o17 hc2 => ?_
  refine (virt_calls (hx.old (o516.trans o17)) hc2 ris12 (by simp)).mono ?_
  rintro v h18 ⟨rfl, o18⟩
  refine ⟨_, rfl, ?_⟩
  have hv1 : virtF [ob1, ob2] (aTo 2) = true := by decide +kernel
  rw [hv1]
  refine ifB_true rfl ?_
  refine to_arg 2 fun c3 h19 o19 hc3 => ?_
  refine (virt_calls (hr4.old (o916.trans (o17.trans (o18.trans o19)))) hc3 ris13 (by simp)).mono ?_
  rintro v h20 ⟨rfl, o20⟩
  refine ⟨_, rfl, ?_⟩
  have hv2 : virtF [ob1, ob3] (aTo 2) = false := by decide +kernel
  rw [hv2]
  refine ifB_true rfl ?_
  have o520 := o516.trans (o17.trans (o18.trans (o19.trans o20)))
  refine slc_upto (k := 1) (hx.old o520) (by simp) fun s5 hs5 => ?_
  refine (vRight_calls (l := [ob1]) (by simpa using hs5) (by simp)).mono ?_
  rintro v h21 ⟨rfl, o21⟩
  refine ⟨_, rfl, hk _ _ fun _ => ?_⟩
  rw [right1]
  exact ⟨rfl, o5.trans (o520.trans o21)⟩
theorem awake22_end {hb h : Heap} (o : Old hb h) : ACalls Try.prog F_lateenlaw22_awake [] h (fun v h' => as1 .bool v fun r => (Value.bool r) = Value.bool true ∧ Old hb h') := by
  refine awake22_calls.mono ?_
  rintro v h3 ⟨rfl, o3⟩
  exact ⟨_, rfl, rfl, o.trans o3⟩

end Go.Proofs.Ytncbpalncgcoaaa
