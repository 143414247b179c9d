/-
  Printed by genfw.py: the functions as Props over the layer, and what ties each to the model.
-/
import Derived.Test.YtncbpalncgcoaaaFwSound
import Derived.Test.YtncbpalncgcoaaaChecked
namespace Go.Proofs.Ytncbpalncgcoaaa
open Go.Fw

def si_LLlateenref22_Obj : SlI := ⟨43, 1, 24, .slice none 0 0⟩
def si_LLapi_Arg : SlI := ⟨29, 1, 24, .slice none 0 0⟩
def si_LLint64 : SlI := ⟨35, 1, 24, .slice none 0 0⟩
def si_Lvstate_Obj : SlI := ⟨39, 6, 80, .agg #[.int .i64 0, .string ⟨#[]⟩, .slice none 0 0, .int .i64 0, .string ⟨#[]⟩, .int .i64 0]⟩
def si_Lmerge_Phi : SlI := ⟨47, 3, 40, .agg #[.int .i64 0, .int .i64 0, .slice none 0 0]⟩
def si_Lapi_Arg : SlI := ⟨37, 3, 32, .agg #[.int .i64 0, .string ⟨#[]⟩, .int .i64 0]⟩
def si_LLvstate_Obj : SlI := ⟨27, 1, 24, .slice none 0 0⟩
def si_Lint64 : SlI := ⟨2, 1, 8, .int .i64 0⟩
def si_Llateenref22_Obj : SlI := ⟨40, 6, 80, .agg #[.int .i64 0, .string ⟨#[]⟩, .slice none 0 0, .int .i64 0, .string ⟨#[]⟩, .int .i64 0]⟩
def si_Llateenref23_Phi : SlI := ⟨119, 3, 40, .agg #[.int .i64 0, .int .i64 0, .slice none 0 0]⟩
def si_Lmap_int64_bool : SlI := ⟨108, 1, 8, .map none⟩
def si_Lbool : SlI := ⟨4, 1, 1, .bool false⟩
abbrev F_lateenlaw23_MergeMeans : FuncId := 3
abbrev F_lateenlaw23_MergeTwice : FuncId := 4
abbrev F_lateenlaw23_MergeKeeps : FuncId := 5
abbrev F_lateenlaw23_awake : FuncId := 16
abbrev F_lateenref23_Right : FuncId := 17
abbrev F_merge_Of : FuncId := 18
abbrev F_lateenlaw23_there : FuncId := 19
abbrev F_lateenref22_Find : FuncId := 20
abbrev F_lateenlaw23_meant : FuncId := 21
abbrev F_lateenref22_Really : FuncId := 22
abbrev F_lateenref22_Virtual : FuncId := 23
abbrev F_lateenref22_Same : FuncId := 24
abbrev F_lateenlaw22_Back : FuncId := 25
abbrev F_lateenref22_SameArgs : FuncId := 26
abbrev F_lateenref23_SamePlans : FuncId := 27
abbrev F_lateenlaw22_awake : FuncId := 28
abbrev F_lateenref22_Few : FuncId := 29
abbrev F_vstate_Right : FuncId := 30
abbrev F_lateenlaw22_There : FuncId := 31
abbrev F_lateenref22_Right : FuncId := 32
abbrev F_lateenref22_Rising : FuncId := 33
abbrev F_vstate_Find : FuncId := 34
abbrev F_vstate_Virtual : FuncId := 35
abbrev F_vstate_Really : FuncId := 36
abbrev F_vstate_Reach : FuncId := 37
abbrev F_lateenlaw22_has : FuncId := 38
abbrev F_lateenlaw22_to : FuncId := 39
abbrev F_vstate_Set : FuncId := 40
abbrev F_lateenref22_Set : FuncId := 41
abbrev F_vstate_Add : FuncId := 42
abbrev F_lateenlaw22_one : FuncId := 43
abbrev F_lateenref22_Add : FuncId := 44
abbrev F_lateenlaw22_same : FuncId := 45
abbrev F_lateenref22_Reach : FuncId := 46
abbrev F_vstate_Same : FuncId := 47
abbrev F_lateenlaw23_number : FuncId := 59
abbrev F_lateenref23_to : FuncId := 60
abbrev F_lateenref23_plain : FuncId := 61
abbrev F_merge_meeting_of : FuncId := 62
abbrev F_merge_meeting_object : FuncId := 63
abbrev F_merge_meeting_row : FuncId := 64
abbrev F_slices_Sorted : FuncId := 65
abbrev F_maps_Keys : FuncId := 66
abbrev F_merge_meeting_merged : FuncId := 67
abbrev F_merge_meeting_alias : FuncId := 68
abbrev F_vstate_find : FuncId := 69
abbrev F_vstate_Obj_copied : FuncId := 70
abbrev F_slices_Clone : FuncId := 71
abbrev F_vstate_copied : FuncId := 72
abbrev F_vstate_place : FuncId := 73
abbrev F_slices_Insert : FuncId := 74
abbrev F_slices_EqualFunc : FuncId := 75
abbrev F_vstate_same : FuncId := 76
abbrev F_merge_virtual : FuncId := 92
abbrev F_merge_meeting_wants : FuncId := 93
abbrev F_merge_meeting_field : FuncId := 94
abbrev F_merge_one : FuncId := 95
abbrev F_maps_Keys_map_int64_bool_int64_bool__1 : FuncId := 98
abbrev F_merge_meeting_phi : FuncId := 99
abbrev F_sort_Search : FuncId := 100
abbrev F_vstate_place_1 : FuncId := 101
abbrev F_slices_overlaps : FuncId := 102
abbrev F_slices_rotateRight : FuncId := 103
abbrev F_slices_Equal : FuncId := 104
abbrev F_merge_meeting_really : FuncId := 108
abbrev F_merge_open : FuncId := 112
abbrev F_slices_rotateLeft : FuncId := 113
abbrev F_slices_Reverse : FuncId := 128
def ty : Tys :=
  { tk := [(2, .int .i64), (3, .int .i64), (4, .bool), (9, .str), (26, .sl), (27, .sl), (28, .sl), (29, .sl), (31, .agg 4), (33, .sl), (35, .sl), (37, .agg 3), (39, .agg 6), (40, .agg 6), (43, .sl), (53, .sl), (105, .sl), (108, .map), (183, .int .u64)]
    sl := [(22, si_LLlateenref22_Obj), (23, si_LLapi_Arg), (26, si_LLint64), (27, si_Lvstate_Obj), (28, si_Lmerge_Phi), (29, si_Lapi_Arg), (33, si_LLvstate_Obj), (35, si_Lint64), (43, si_Llateenref22_Obj), (53, si_Llateenref23_Phi), (105, si_Lmap_int64_bool), (126, si_Lbool)]
    zs := [(31, .agg #[.slice none 0 0, .slice none 0 0, .slice none 0 0, .slice none 0 0]), (37, .agg #[.int .i64 0, .string ⟨#[]⟩, .int .i64 0]), (39, .agg #[.int .i64 0, .string ⟨#[]⟩, .slice none 0 0, .int .i64 0, .string ⟨#[]⟩, .int .i64 0]), (40, .agg #[.int .i64 0, .string ⟨#[]⟩, .slice none 0 0, .int .i64 0, .string ⟨#[]⟩, .int .i64 0])]
    off := [((31, 0), 0), ((31, 1), 1), ((31, 2), 2), ((31, 3), 3), ((37, 0), 0), ((37, 1), 1), ((37, 2), 2), ((39, 0), 0), ((39, 1), 1), ((39, 2), 2), ((39, 3), 3), ((40, 0), 0), ((40, 1), 1), ((40, 2), 2), ((40, 3), 3), ((47, 0), 0), ((47, 1), 1), ((47, 2), 2), ((55, 0), 0), ((55, 1), 1), ((55, 2), 2), ((55, 3), 3), ((107, 0), 0), ((107, 1), 1), ((107, 2), 2), ((119, 0), 0), ((119, 1), 1), ((119, 2), 2)]
    res := [(0, []), (3, [.int .i64]), (4, [.bool]), (22, [.sl]), (23, [.sl]), (26, [.sl]), (27, [.sl]), (29, [.sl]), (31, [.agg 4]), (33, [.sl]), (35, [.sl]), (37, [.agg 3]), (39, [.agg 6]), (41, [.agg 6, .bool]), (43, [.sl]), (59, [.agg 6, .bool]), (67, [.sl, .bool]), (114, [.fn]), (117, [.agg 3, .bool]), (123, [.int .i64, .bool])]
    fns := [16, 17, 18, 19, 20, 21, 22, 23, 24, 25, 26, 27, 29, 30, 31, 32, 33, 34, 35, 36, 37, 39, 42, 43, 44, 59, 60, 61, 62, 63, 64, 65, 66, 67, 68, 69, 70, 71, 72, 73, 74, 75, 92, 93, 94, 95, 99, 100, 103, 104, 108, 112, 113, 128]
    bs := [(37, ([(0, 1), (1, 1), (2, 1)], .agg #[.int .i64 0, .string ⟨#[]⟩, .int .i64 0])), (39, ([(0, 1), (1, 1), (2, 1), (3, 3)], .agg #[.int .i64 0, .string ⟨#[]⟩, .slice none 0 0, .int .i64 0, .string ⟨#[]⟩, .int .i64 0])), (40, ([(0, 1), (1, 1), (2, 1), (3, 3)], .agg #[.int .i64 0, .string ⟨#[]⟩, .slice none 0 0, .int .i64 0, .string ⟨#[]⟩, .int .i64 0])), (47, ([(0, 1), (1, 1), (2, 1)], .agg #[.int .i64 0, .int .i64 0, .slice none 0 0])), (55, ([(0, 1), (1, 1), (2, 1), (3, 1)], .agg #[.slice none 0 0, .slice none 0 0, .slice none 0 0, .slice none 0 0])), (107, ([(0, 1), (1, 1), (2, 4)], .agg #[.slice none 0 0, .slice none 0 0, .slice none 0 0, .slice none 0 0, .slice none 0 0, .slice none 0 0]))]
    mp := [(108, ((.int .i64), .bool false, .bool))]
    eqs := [(37, [.int .i64, .str, .int .i64])]
    fld := [((37, 1), (1, .str))] }
theorem ty_ok : TOk Try.prog ty where
  tk := (List.forall_mem_cons.2 ⟨⟨⟨_, Try.underlying2, rfl, rfl⟩, by kernel_rfl⟩, List.forall_mem_cons.2 ⟨⟨⟨_, Try.underlying3, rfl, rfl⟩, by kernel_rfl⟩, List.forall_mem_cons.2 ⟨⟨⟨_, Try.underlying4, rfl, rfl⟩, by kernel_rfl⟩, List.forall_mem_cons.2 ⟨⟨⟨_, Try.underlying9, rfl, rfl⟩, by kernel_rfl⟩, List.forall_mem_cons.2 ⟨⟨⟨_, Try.underlying26, rfl, ⟨_, rfl⟩⟩, by kernel_rfl⟩, List.forall_mem_cons.2 ⟨⟨⟨_, Try.underlying27, rfl, ⟨_, rfl⟩⟩, by kernel_rfl⟩, List.forall_mem_cons.2 ⟨⟨⟨_, Try.underlying28, rfl, ⟨_, rfl⟩⟩, by kernel_rfl⟩, List.forall_mem_cons.2 ⟨⟨⟨_, Try.underlying29, rfl, ⟨_, rfl⟩⟩, by kernel_rfl⟩, List.forall_mem_cons.2 ⟨⟨⟨_, Try.underlying31, rfl, trivial⟩, by kernel_rfl⟩, List.forall_mem_cons.2 ⟨⟨⟨_, Try.underlying33, rfl, ⟨_, rfl⟩⟩, by kernel_rfl⟩, List.forall_mem_cons.2 ⟨⟨⟨_, Try.underlying35, rfl, ⟨_, rfl⟩⟩, by kernel_rfl⟩, List.forall_mem_cons.2 ⟨⟨⟨_, Try.underlying37, rfl, trivial⟩, by kernel_rfl⟩, List.forall_mem_cons.2 ⟨⟨⟨_, Try.underlying39, rfl, trivial⟩, by kernel_rfl⟩, List.forall_mem_cons.2 ⟨⟨⟨_, Try.underlying40, rfl, trivial⟩, by kernel_rfl⟩, List.forall_mem_cons.2 ⟨⟨⟨_, Try.underlying43, rfl, ⟨_, rfl⟩⟩, by kernel_rfl⟩, List.forall_mem_cons.2 ⟨⟨⟨_, Try.underlying53, rfl, ⟨_, rfl⟩⟩, by kernel_rfl⟩, List.forall_mem_cons.2 ⟨⟨⟨_, Try.underlying105, rfl, ⟨_, rfl⟩⟩, by kernel_rfl⟩, List.forall_mem_cons.2 ⟨⟨⟨_, Try.underlying108, rfl, ⟨_, _, rfl⟩⟩, by kernel_rfl⟩, List.forall_mem_cons.2 ⟨⟨⟨_, Try.underlying183, rfl, rfl⟩, by kernel_rfl⟩, List.forall_mem_nil _⟩⟩⟩⟩⟩⟩⟩⟩⟩⟩⟩⟩⟩⟩⟩⟩⟩⟩⟩)
  sl := (List.forall_mem_cons.2 ⟨⟨Try.underlying22, by kernel_rfl, by kernel_rfl, by decide⟩, List.forall_mem_cons.2 ⟨⟨Try.underlying23, by kernel_rfl, by kernel_rfl, by decide⟩, List.forall_mem_cons.2 ⟨⟨Try.underlying26, by kernel_rfl, by kernel_rfl, by decide⟩, List.forall_mem_cons.2 ⟨⟨Try.underlying27, by kernel_rfl, by kernel_rfl, by decide⟩, List.forall_mem_cons.2 ⟨⟨Try.underlying28, by kernel_rfl, by kernel_rfl, by decide⟩, List.forall_mem_cons.2 ⟨⟨Try.underlying29, by kernel_rfl, by kernel_rfl, by decide⟩, List.forall_mem_cons.2 ⟨⟨Try.underlying33, by kernel_rfl, by kernel_rfl, by decide⟩, List.forall_mem_cons.2 ⟨⟨Try.underlying35, by kernel_rfl, by kernel_rfl, by decide⟩, List.forall_mem_cons.2 ⟨⟨Try.underlying43, by kernel_rfl, by kernel_rfl, by decide⟩, List.forall_mem_cons.2 ⟨⟨Try.underlying53, by kernel_rfl, by kernel_rfl, by decide⟩, List.forall_mem_cons.2 ⟨⟨Try.underlying105, by kernel_rfl, by kernel_rfl, by decide⟩, List.forall_mem_cons.2 ⟨⟨Try.underlying126, by kernel_rfl, by kernel_rfl, by decide⟩, List.forall_mem_nil _⟩⟩⟩⟩⟩⟩⟩⟩⟩⟩⟩⟩)
  zs := (List.forall_mem_cons.2 ⟨(show ZsOk _ _ by unfold ZsOk; kernel_rfl), List.forall_mem_cons.2 ⟨(show ZsOk _ _ by unfold ZsOk; kernel_rfl), List.forall_mem_cons.2 ⟨(show ZsOk _ _ by unfold ZsOk; kernel_rfl), List.forall_mem_cons.2 ⟨(show ZsOk _ _ by unfold ZsOk; kernel_rfl), List.forall_mem_nil _⟩⟩⟩⟩)
  off := (List.forall_mem_cons.2 ⟨⟨_, _, Try.underlying31, rfl, rfl, by kernel_rfl⟩, List.forall_mem_cons.2 ⟨⟨_, _, Try.underlying31, rfl, rfl, by kernel_rfl⟩, List.forall_mem_cons.2 ⟨⟨_, _, Try.underlying31, rfl, rfl, by kernel_rfl⟩, List.forall_mem_cons.2 ⟨⟨_, _, Try.underlying31, rfl, rfl, by kernel_rfl⟩, List.forall_mem_cons.2 ⟨⟨_, _, Try.underlying37, rfl, rfl, by kernel_rfl⟩, List.forall_mem_cons.2 ⟨⟨_, _, Try.underlying37, rfl, rfl, by kernel_rfl⟩, List.forall_mem_cons.2 ⟨⟨_, _, Try.underlying37, rfl, rfl, by kernel_rfl⟩, List.forall_mem_cons.2 ⟨⟨_, _, Try.underlying39, rfl, rfl, by kernel_rfl⟩, List.forall_mem_cons.2 ⟨⟨_, _, Try.underlying39, rfl, rfl, by kernel_rfl⟩, List.forall_mem_cons.2 ⟨⟨_, _, Try.underlying39, rfl, rfl, by kernel_rfl⟩, List.forall_mem_cons.2 ⟨⟨_, _, Try.underlying39, rfl, rfl, by kernel_rfl⟩, List.forall_mem_cons.2 ⟨⟨_, _, Try.underlying40, rfl, rfl, by kernel_rfl⟩, List.forall_mem_cons.2 ⟨⟨_, _, Try.underlying40, rfl, rfl, by kernel_rfl⟩, List.forall_mem_cons.2 ⟨⟨_, _, Try.underlying40, rfl, rfl, by kernel_rfl⟩, List.forall_mem_cons.2 ⟨⟨_, _, Try.underlying40, rfl, rfl, by kernel_rfl⟩, List.forall_mem_cons.2 ⟨⟨_, _, Try.underlying47, rfl, rfl, by kernel_rfl⟩, List.forall_mem_cons.2 ⟨⟨_, _, Try.underlying47, rfl, rfl, by kernel_rfl⟩, List.forall_mem_cons.2 ⟨⟨_, _, Try.underlying47, rfl, rfl, by kernel_rfl⟩, List.forall_mem_cons.2 ⟨⟨_, _, Try.underlying55, rfl, rfl, by kernel_rfl⟩, List.forall_mem_cons.2 ⟨⟨_, _, Try.underlying55, rfl, rfl, by kernel_rfl⟩, List.forall_mem_cons.2 ⟨⟨_, _, Try.underlying55, rfl, rfl, by kernel_rfl⟩, List.forall_mem_cons.2 ⟨⟨_, _, Try.underlying55, rfl, rfl, by kernel_rfl⟩, List.forall_mem_cons.2 ⟨⟨_, _, Try.underlying107, rfl, rfl, by kernel_rfl⟩, List.forall_mem_cons.2 ⟨⟨_, _, Try.underlying107, rfl, rfl, by kernel_rfl⟩, List.forall_mem_cons.2 ⟨⟨_, _, Try.underlying107, rfl, rfl, by kernel_rfl⟩, List.forall_mem_cons.2 ⟨⟨_, _, Try.underlying119, rfl, rfl, by kernel_rfl⟩, List.forall_mem_cons.2 ⟨⟨_, _, Try.underlying119, rfl, rfl, by kernel_rfl⟩, List.forall_mem_cons.2 ⟨⟨_, _, Try.underlying119, rfl, rfl, by kernel_rfl⟩, List.forall_mem_nil _⟩⟩⟩⟩⟩⟩⟩⟩⟩⟩⟩⟩⟩⟩⟩⟩⟩⟩⟩⟩⟩⟩⟩⟩⟩⟩⟩⟩)
  fns := (List.forall_mem_cons.2 ⟨(show FnOk _ _ by unfold FnOk; kernel_rfl), List.forall_mem_cons.2 ⟨(show FnOk _ _ by unfold FnOk; kernel_rfl), List.forall_mem_cons.2 ⟨(show FnOk _ _ by unfold FnOk; kernel_rfl), List.forall_mem_cons.2 ⟨(show FnOk _ _ by unfold FnOk; kernel_rfl), List.forall_mem_cons.2 ⟨(show FnOk _ _ by unfold FnOk; kernel_rfl), List.forall_mem_cons.2 ⟨(show FnOk _ _ by unfold FnOk; kernel_rfl), List.forall_mem_cons.2 ⟨(show FnOk _ _ by unfold FnOk; kernel_rfl), List.forall_mem_cons.2 ⟨(show FnOk _ _ by unfold FnOk; kernel_rfl), List.forall_mem_cons.2 ⟨(show FnOk _ _ by unfold FnOk; kernel_rfl), List.forall_mem_cons.2 ⟨(show FnOk _ _ by unfold FnOk; kernel_rfl), List.forall_mem_cons.2 ⟨(show FnOk _ _ by unfold FnOk; kernel_rfl), List.forall_mem_cons.2 ⟨(show FnOk _ _ by unfold FnOk; kernel_rfl), List.forall_mem_cons.2 ⟨(show FnOk _ _ by unfold FnOk; kernel_rfl), List.forall_mem_cons.2 ⟨(show FnOk _ _ by unfold FnOk; kernel_rfl), List.forall_mem_cons.2 ⟨(show FnOk _ _ by unfold FnOk; kernel_rfl), List.forall_mem_cons.2 ⟨(show FnOk _ _ by unfold FnOk; kernel_rfl), List.forall_mem_cons.2 ⟨(show FnOk _ _ by unfold FnOk; kernel_rfl), List.forall_mem_cons.2 ⟨(show FnOk _ _ by unfold FnOk; kernel_rfl), List.forall_mem_cons.2 ⟨(show FnOk _ _ by unfold FnOk; kernel_rfl), List.forall_mem_cons.2 ⟨(show FnOk _ _ by unfold FnOk; kernel_rfl), List.forall_mem_cons.2 ⟨(show FnOk _ _ by unfold FnOk; kernel_rfl), List.forall_mem_cons.2 ⟨(show FnOk _ _ by unfold FnOk; kernel_rfl), List.forall_mem_cons.2 ⟨(show FnOk _ _ by unfold FnOk; kernel_rfl), List.forall_mem_cons.2 ⟨(show FnOk _ _ by unfold FnOk; kernel_rfl), List.forall_mem_cons.2 ⟨(show FnOk _ _ by unfold FnOk; kernel_rfl), List.forall_mem_cons.2 ⟨(show FnOk _ _ by unfold FnOk; kernel_rfl), List.forall_mem_cons.2 ⟨(show FnOk _ _ by unfold FnOk; kernel_rfl), List.forall_mem_cons.2 ⟨(show FnOk _ _ by unfold FnOk; kernel_rfl), List.forall_mem_cons.2 ⟨(show FnOk _ _ by unfold FnOk; kernel_rfl), List.forall_mem_cons.2 ⟨(show FnOk _ _ by unfold FnOk; kernel_rfl), List.forall_mem_cons.2 ⟨(show FnOk _ _ by unfold FnOk; kernel_rfl), List.forall_mem_cons.2 ⟨(show FnOk _ _ by unfold FnOk; kernel_rfl), List.forall_mem_cons.2 ⟨(show FnOk _ _ by unfold FnOk; kernel_rfl), List.forall_mem_cons.2 ⟨(show FnOk _ _ by unfold FnOk; kernel_rfl), List.forall_mem_cons.2 ⟨(show FnOk _ _ by unfold FnOk; kernel_rfl), List.forall_mem_cons.2 ⟨(show FnOk _ _ by unfold FnOk; kernel_rfl), List.forall_mem_cons.2 ⟨(show FnOk _ _ by unfold FnOk; kernel_rfl), List.forall_mem_cons.2 ⟨(show FnOk _ _ by unfold FnOk; kernel_rfl), List.forall_mem_cons.2 ⟨(show FnOk _ _ by unfold FnOk; kernel_rfl), List.forall_mem_cons.2 ⟨(show FnOk _ _ by unfold FnOk; kernel_rfl), List.forall_mem_cons.2 ⟨(show FnOk _ _ by unfold FnOk; kernel_rfl), List.forall_mem_cons.2 ⟨(show FnOk _ _ by unfold FnOk; kernel_rfl), List.forall_mem_cons.2 ⟨(show FnOk _ _ by unfold FnOk; kernel_rfl), List.forall_mem_cons.2 ⟨(show FnOk _ _ by unfold FnOk; kernel_rfl), List.forall_mem_cons.2 ⟨(show FnOk _ _ by unfold FnOk; kernel_rfl), List.forall_mem_cons.2 ⟨(show FnOk _ _ by unfold FnOk; kernel_rfl), List.forall_mem_cons.2 ⟨(show FnOk _ _ by unfold FnOk; kernel_rfl), List.forall_mem_cons.2 ⟨(show FnOk _ _ by unfold FnOk; kernel_rfl), List.forall_mem_cons.2 ⟨(show FnOk _ _ by unfold FnOk; kernel_rfl), List.forall_mem_cons.2 ⟨(show FnOk _ _ by unfold FnOk; kernel_rfl), List.forall_mem_cons.2 ⟨(show FnOk _ _ by unfold FnOk; kernel_rfl), List.forall_mem_cons.2 ⟨(show FnOk _ _ by unfold FnOk; kernel_rfl), List.forall_mem_cons.2 ⟨(show FnOk _ _ by unfold FnOk; kernel_rfl), List.forall_mem_cons.2 ⟨(show FnOk _ _ by unfold FnOk; kernel_rfl), List.forall_mem_nil _⟩⟩⟩⟩⟩⟩⟩⟩⟩⟩⟩⟩⟩⟩⟩⟩⟩⟩⟩⟩⟩⟩⟩⟩⟩⟩⟩⟩⟩⟩⟩⟩⟩⟩⟩⟩⟩⟩⟩⟩⟩⟩⟩⟩⟩⟩⟩⟩⟩⟩⟩⟩⟩⟩)
  bs := (List.forall_mem_cons.2 ⟨⟨_, Try.underlying37, by kernel_rfl, by kernel_rfl⟩, List.forall_mem_cons.2 ⟨⟨_, Try.underlying39, by kernel_rfl, by kernel_rfl⟩, List.forall_mem_cons.2 ⟨⟨_, Try.underlying40, by kernel_rfl, by kernel_rfl⟩, List.forall_mem_cons.2 ⟨⟨_, Try.underlying47, by kernel_rfl, by kernel_rfl⟩, List.forall_mem_cons.2 ⟨⟨_, Try.underlying55, by kernel_rfl, by kernel_rfl⟩, List.forall_mem_cons.2 ⟨⟨_, Try.underlying107, by kernel_rfl, by kernel_rfl⟩, List.forall_mem_nil _⟩⟩⟩⟩⟩⟩)
  mp := (List.forall_mem_cons.2 ⟨⟨2, 4, Try.underlying108, by kernel_rfl, (show ZsOk _ _ by unfold ZsOk; kernel_rfl)⟩, List.forall_mem_nil _⟩)
  eqs := (List.forall_mem_cons.2 ⟨⟨by kernel_rfl, by kernel_rfl, by kernel_rfl, by kernel_rfl⟩, List.forall_mem_nil _⟩)
  fld := (List.forall_mem_cons.2 ⟨⟨_, _, Try.underlying37, rfl, rfl, by kernel_rfl⟩, List.forall_mem_nil _⟩)
theorem mixed : Try.prog.follows .mixedOrders = true := by kernel_rfl

/-- lateen/lateenlaw23.MergeMeans -/
def lateenlaw23_MergeMeans (l : Sl) (rows : Sl) (h : Heap) (K : Value → Heap → Prop) : Prop :=
  joinW (fun _ (t : Bool) h_1 =>
    ifB t
     (ACalls Try.prog F_lateenlaw23_awake [] h_1 fun v h_2 => as1 .bool v fun r =>
     K (.bool r) h_2)
     (ACalls Try.prog F_lateenlaw23_there [l.v] h_1 fun v_1 h_3 => as1 .sl v_1 fun r_1 =>
  ACalls Try.prog F_merge_Of [r_1.v, rows.v] h_3 fun v_2 h_4 => as1 (.agg 4) v_2 fun r_2 =>
  new 31 #[.slice none 0 0, .slice none 0 0, .slice none 0 0, .slice none 0 0] h_4 fun p h_5 =>
  r_2.size = 4 ∧ st r_2.toList h_5 p fun h_6 =>
  ld .sl h_6 (p.add 0) fun (x : Sl) =>
  ifB ((x.len : Int) != (l.len : Int))
   (K (.bool false) h_6)
   (loopW (fun _ (way : Int) h_7 next =>
    ifB (decide (way < (l.len : Int)))
     (ld .sl h_7 (p.add 0) fun (x_1 : Sl) =>
    idx 1 x_1 way fun p_1 =>
    ld .sl h_7 p_1 fun (x_2 : Sl) =>
    ifB (decide ((x_2.len : Int) > 0))
     (ld .sl h_7 (p.add 1) fun (x_3 : Sl) =>
     ld .sl h_7 (p.add 2) fun (x_4 : Sl) =>
     ar .i64 ((x_3.len : Int) + (x_4.len : Int)) fun n =>
     ld .sl h_7 (p.add 3) fun (x_5 : Sl) =>
     ar .i64 (n + (x_5.len : Int)) fun n_1 =>
     K (.bool (n_1 == 0)) h_7)
     (ar .i64 (way + 1) fun n_2 =>
    next n_2 h_7))
     (loopW (fun _ (i : Int) h_8 next_1 =>
    ld .sl h_8 (p.add 1) fun (x_6 : Sl) =>
    ifB (decide (i < (x_6.len : Int)))
     (ld .sl h_8 (p.add 1) fun (x_7 : Sl) =>
    idx 6 x_7 i fun p_2 =>
    ld (.agg 6) h_8 p_2 fun (x_8 : Array Value) =>
    new 39 #[.int .i64 0, .string ⟨#[]⟩, .slice none 0 0, .int .i64 0, .string ⟨#[]⟩, .int .i64 0] h_8 fun p_3 h_9 =>
    x_8.size = 6 ∧ st x_8.toList h_9 p_3 fun h_10 =>
    loopW (fun _ (way_1 : Int) h_11 next_2 =>
      ifB (decide (way_1 < (l.len : Int)))
       (joinW (fun _ (_ : Unit) h_12 =>
        ar .i64 (way_1 + 1) fun n_3 =>
        next_2 n_3 h_12) fun k_1 =>
      ∃ (R : Heap → Prop) (h_13 : Heap) (L : List As) (S : Specs), R h_11 ∧ Sep h_13 h_11 L ∧ (idx 1 l way_1 fun p_4 =>
      ldF .sl R p_4 fun (x_9 : Sl) =>
      ldF (.int .i64) R (p_3.add 0) fun (x_10 : Int) =>
      bst [(0, 1), (1, 1), (2, 1)] #[.int .i64 0, .string ⟨#[]⟩, .int .i64 0] [(0, .int .i64 5), (2, .int .i64 x_10)] fun c =>
      freeW R h_13 (S 7 [x_9.v, .agg c]) [] (fun h_14 Kv =>
          ACalls Try.prog F_lateenref22_Find [x_9.v, .agg c] h_14 fun v_3 h_15 => as2 (.agg 6) .bool v_3 fun r_3 r_4 =>
          Kv (.tuple #[.agg r_3, .bool r_4]) h_15) fun v_4 => as2 (.agg 6) .bool v_4 fun r_5 r_6 =>
      freeW R h_13 (S 11 []) [] (fun h_16 Kv_1 =>
          new 40 #[.int .i64 0, .string ⟨#[]⟩, .slice none 0 0, .int .i64 0, .string ⟨#[]⟩, .int .i64 0] h_16 fun p_5 h_17 =>
          Kv_1 (.pointer (some p_5)) h_17) fun v_5 => asP v_5 fun p_6 =>
      freeW R h_13 (S 12 [.pointer (some p_6), .agg r_5]) ((S 11 []).A v_5 ++ (L ++ [])) (fun h_18 Kv_2 =>
          r_5.size = 6 ∧ st r_5.toList h_18 p_6 fun h_19 =>
          Kv_2 undef h_19) fun v_6 =>
      endF R h_13 ((S 7 [x_9.v, .agg c]).A v_4 ++ ((S 12 [.pointer (some p_6), .agg r_5]).A v_6 ++ [])) fun h_20 =>
      joinW (fun _ (t_1 : Bool) h_21 =>
        ifB t_1
         (K (.bool false) h_21)
         (ld (.int .i64) h_21 ((p_3.add 3).add 0) fun (x_11 : Int) =>
      ifB (x_11 != 0)
       (ld (.agg 4) h_21 p fun (x_12 : Array Value) =>
       ld (.int .i64) h_21 (p_3.add 0) fun (x_13 : Int) =>
       ld (.agg 3) h_21 (p_3.add 3) fun (x_14 : Array Value) =>
       ACalls Try.prog F_lateenlaw23_meant [.agg x_12, .int .i64 x_13, .int .i64 (-1), .agg x_14, .int .i64 way_1] h_21 fun v_7 h_22 => as1 (.agg 3) v_7 fun r_7 =>
       hExt h_21 h_22 ∧ ld (.agg 3) h_21 (p_6.add 3) fun (x_15 : Array Value) =>
       eqA [.int .i64, .str, .int .i64] r_7 x_15 fun b =>
       ifB (!b)
        (K (.bool false) h_22)
        (k_1 () h_22))
       (loopW (fun _ (atv : Int) h_23 next_3 =>
        ld .sl h_23 (p_3.add 2) fun (x_16 : Sl) =>
        ifB (decide (atv < (x_16.len : Int)))
         (ld (.agg 4) h_23 p fun (x_17 : Array Value) =>
        ld (.int .i64) h_23 (p_3.add 0) fun (x_18 : Int) =>
        ld .sl h_23 (p_3.add 2) fun (x_19 : Sl) =>
        idx 3 x_19 atv fun p_7 =>
        ld (.agg 3) h_23 p_7 fun (x_20 : Array Value) =>
        ACalls Try.prog F_lateenlaw23_meant [.agg x_17, .int .i64 x_18, .int .i64 atv, .agg x_20, .int .i64 way_1] h_23 fun v_8 h_24 => as1 (.agg 3) v_8 fun r_8 =>
        hExt h_23 h_24 ∧ idx 1 l way_1 fun p_8 =>
        ld .sl h_23 p_8 fun (x_21 : Sl) =>
        ld .sl h_23 (p_6.add 2) fun (x_22 : Sl) =>
        idx 3 x_22 atv fun p_9 =>
        ld (.agg 3) h_23 p_9 fun (x_23 : Array Value) =>
        ACalls Try.prog F_lateenref22_Really [x_21.v, .agg x_23] h_24 fun v_9 h_25 => as1 (.agg 3) v_9 fun r_9 =>
        hExt h_24 h_25 ∧ eqA [.int .i64, .str, .int .i64] r_8 r_9 fun b_1 =>
        ifB (!b_1)
         (K (.bool false) h_25)
         (ar .i64 (atv + 1) fun n_4 =>
        next_3 n_4 h_25))
         (k_1 () h_23)) 0 h_21))) fun k_2 =>
      ifB (!r_6)
       (k_2 true h_20)
       (ld (.int .i64) h_20 ((p_6.add 3).add 0) fun (x_24 : Int) =>
         ld (.int .i64) h_20 ((p_3.add 3).add 0) fun (x_25 : Int) =>
             ifB (!((x_24 == 0) == (x_25 == 0)))
                (k_2 true h_20)
                (ld .sl h_20 (p_6.add 2) fun (x_26 : Sl) =>
                 ld .sl h_20 (p_3.add 2) fun (x_27 : Sl) =>
                    k_2 ((x_26.len : Int) != (x_27.len : Int)) h_20))))
       (ar .i64 (i + 1) fun n_5 =>
    next_1 n_5 h_11)) 0 h_10)
     (loopW (fun _ (i_1 : Int) h_26 next_4 =>
    ld .sl h_26 (p.add 2) fun (x_28 : Sl) =>
    ifB (decide (i_1 < (x_28.len : Int)))
     (loopW (fun _ (q_unlike : Bool × Int) h_27 next_5 =>
      ifB (decide (q_unlike.2 < (l.len : Int)))
       (joinW (fun _ (unlike_1 : Bool) h_28 =>
        idx 1 l q_unlike.2 fun p_10 =>
        ld .sl h_28 p_10 fun (x_29 : Sl) =>
        ld .sl h_28 (p.add 2) fun (x_30 : Sl) =>
        idx 3 x_30 i_1 fun p_11 =>
        ld .sl h_28 (p_11.add 2) fun (x_31 : Sl) =>
        idx 3 x_31 q_unlike.2 fun p_12 =>
        ld (.agg 3) h_28 p_12 fun (x_32 : Array Value) =>
        ACalls Try.prog F_lateenref22_Virtual [x_29.v, .agg x_32] h_28 fun v_10 h_29 => as1 .bool v_10 fun r_10 =>
        hExt h_28 h_29 ∧ ifB r_10
         (K (.bool false) h_29)
         (ar .i64 (q_unlike.2 + 1) fun n_6 =>
      next_5 (unlike_1, n_6) h_29)) fun k_3 =>
      ifB q_unlike.1
       (k_3 true h_27)
       (ld .sl h_27 (p.add 2) fun (x_33 : Sl) =>
        idx 3 x_33 i_1 fun p_13 =>
          ld .sl h_27 (p_13.add 2) fun (x_34 : Sl) =>
            idx 3 x_34 q_unlike.2 fun p_14 =>
              ld (.agg 3) h_27 p_14 fun (x_35 : Array Value) =>
               ld .sl h_27 (p.add 2) fun (x_36 : Sl) =>
                 idx 3 x_36 i_1 fun p_15 =>
                   ld .sl h_27 (p_15.add 2) fun (x_37 : Sl) =>
                     idx 3 x_37 0 fun p_16 =>
                      ld (.agg 3) h_27 p_16 fun (x_38 : Array Value) =>
                       eqA [.int .i64, .str, .int .i64] x_35 x_38 fun b_2 =>
                        k_3 (!b_2) h_27))
       (ifB (!q_unlike.1)
     (K (.bool false) h_27)
     (ar .i64 (i_1 + 1) fun n_7 =>
    next_4 n_7 h_27))) (false, 0) h_26)
     (K (.bool true) h_26)) 0 h_8)) 0 h_7)) 0 h_6))) fun k =>
  ACalls Try.prog F_lateenlaw23_awake [] h fun v_11 h_30 => as1 .bool v_11 fun r_11 =>
  ifB (!r_11)
   (k true h_30)
   (ACalls Try.prog F_lateenref23_Right [l.v, rows.v] h_30 fun v_12 h_31 => as1 .bool v_12 fun r_12 =>
     k (!r_12) h_31)
def lateenlaw23_MergeMeans_a : Ann := (.seq .leaf (.seq (.join [(23, .bool)] [0, 1] .leaf (.cond (.seq .leaf .leaf) .leaf)) (.seq .leaf (.seq (.seq .leaf (.cond (.seq .leaf .leaf) .leaf)) (.seq (.seq .leaf (.block (.loop [(6, .int .i64)] [0, 5] (.seq (.seq .leaf (.cond .leaf .leaf)) (.seq (.block (.seq .leaf (.cond (.seq .leaf .leaf) .leaf))) .leaf))))) (.seq (.seq .leaf (.block (.loop [(7, .int .i64)] [0, 5] (.seq (.seq .leaf (.cond .leaf .leaf)) (.seq (.block (.seq .leaf (.seq .leaf (.block (.loop [(9, .int .i64)] [0, 5, 7, 8] (.seq (.seq .leaf (.cond .leaf .leaf)) (.join [] [0, 5, 7, 8, 9] (.block (.seq (.free 13 [[], [], [], [], [], [], [], [], [], [], [], [], [11, 14], []] [7, 11, 12, 14]) (.seq (.join [(110, .bool)] [0, 5, 7, 8, 9, 10] .leaf (.cond (.seq .leaf .leaf) .leaf)) (.seq (.seq .leaf (.cond (.seq (.seq .based (.cond (.seq .leaf .leaf) .leaf)) .leaf) .leaf)) (.seq .leaf (.block (.loop [(12, .int .i64)] [0, 5, 7, 8, 9, 10] (.seq (.seq .leaf (.cond .leaf .leaf)) (.seq (.block (.seq .based (.cond (.seq .leaf .leaf) .leaf))) .leaf))))))))) .leaf))))))) .leaf))))) (.seq (.seq .leaf (.block (.loop [(13, .int .i64)] [0, 5] (.seq (.seq .leaf (.cond .leaf .leaf)) (.seq (.block (.seq .leaf (.seq (.seq .leaf (.block (.loop [(14, .bool), (15, .int .i64)] [0, 5, 13] (.seq (.seq .leaf (.cond .leaf .leaf)) (.seq (.block (.join [(14, .bool)] [0, 5, 13, 15] .leaf (.seq .based (.cond (.seq .leaf .leaf) .leaf)))) .leaf))))) (.seq .leaf (.cond (.seq .leaf .leaf) .leaf))))) .leaf))))) (.seq .leaf .leaf))))))))
theorem lateenlaw23_MergeMeans_eq (l : Sl) (rows : Sl) (h : Heap) (K : Value → Heap → Prop) : lateenlaw23_MergeMeans l rows h K = fnW Try.prog ty lateenlaw23_MergeMeans_a (bodyOf Try.f3) [.tmp 4] [l.v, rows.v] h K := by kernel_rfl
theorem lateenlaw23_MergeMeans_of {l : Sl} {rows : Sl} {h : Heap} {K : Value → Heap → Prop} (hw : lateenlaw23_MergeMeans l rows h K) : ACalls Try.prog F_lateenlaw23_MergeMeans [l.v, rows.v] h K :=
  calls_sound ty_ok mixed lateenlaw23_MergeMeans_a (c := bodyOf Try.f3) Try.func3 (by kernel_rfl) (by kernel_rfl) (by kernel_rfl) (Nat.le_of_ble_eq_true rfl) (by rw [lateenlaw23_MergeMeans_eq] at hw; exact hw)

/-- lateen/lateenlaw23.MergeTwice -/
def lateenlaw23_MergeTwice (l : Sl) (rows : Sl) (h : Heap) (K : Value → Heap → Prop) : Prop :=
  joinW (fun _ (t : Bool) h_1 =>
    ifB t
     (ACalls Try.prog F_lateenlaw23_awake [] h_1 fun v h_2 => as1 .bool v fun r =>
     K (.bool r) h_2)
     (∃ (R : Heap → Prop) (h_3 : Heap) (L : List As) (S : Specs), R h_1 ∧ Sep h_3 h_1 L ∧ (freeW R h_3 (S 0 []) (L ++ []) (fun h_4 Kv =>
      bld si_LLlateenref22_Obj 0 [] h_4 fun s h_5 =>
      Kv s.v h_5) fun v_1 => as1 .sl v_1 fun r_1 =>
  freeW R h_3 (S 2 [r_1.v, l.v]) ((S 0 []).A v_1 ++ []) (fun h_6 Kv_1 =>
      app si_LLlateenref22_Obj r_1 l h_6 fun s_1 h_7 =>
      Kv_1 s_1.v h_7) fun v_2 => as1 .sl v_2 fun r_2 =>
  idx 1 l 0 fun p =>
  ldF .sl R p fun (x : Sl) =>
  freeW R h_3 (S 6 [x.v]) [] (fun h_8 Kv_2 =>
      bld si_LLlateenref22_Obj 1 [(0, x.v)] h_8 fun s_2 h_9 =>
      Kv_2 s_2.v h_9) fun v_3 => as1 .sl v_3 fun r_3 =>
  freeW R h_3 (S 7 [r_2.v, r_3.v]) ((S 2 [r_1.v, l.v]).A v_2 ++ ((S 6 [x.v]).A v_3 ++ [])) (fun h_10 Kv_3 =>
      app si_LLlateenref22_Obj r_2 r_3 h_10 fun s_3 h_11 =>
      Kv_3 s_3.v h_11) fun v_4 => as1 .sl v_4 fun r_4 =>
  endF R h_3 ((S 7 [r_2.v, r_3.v]).A v_4 ++ []) fun h_12 =>
  loopW (fun _ (q_more : Sl × Int) h_13 next =>
    ifB (decide (q_more.2 < (rows.len : Int)))
     (∃ (R_1 : Heap → Prop) (h_14 : Heap) (L_1 : List As) (S_1 : Specs), R_1 h_13 ∧ Sep h_14 h_13 L_1 ∧ (freeW R_1 h_14 (S_1 1 []) (L_1 ++ []) (fun h_15 Kv_4 =>
        bld si_Lapi_Arg 0 [] h_15 fun s_4 h_16 =>
        Kv_4 s_4.v h_16) fun v_5 => as1 .sl v_5 fun r_5 =>
    idx 1 rows q_more.2 fun p_1 =>
    ldF .sl R_1 p_1 fun (x_1 : Sl) =>
    freeW R_1 h_14 (S_1 6 [r_5.v, x_1.v]) ((S_1 1 []).A v_5 ++ []) (fun h_17 Kv_5 =>
        app si_Lapi_Arg r_5 x_1 h_17 fun s_5 h_18 =>
        Kv_5 s_5.v h_18) fun v_6 => as1 .sl v_6 fun r_6 =>
    idx 1 rows q_more.2 fun p_2 =>
    ldF .sl R_1 p_2 fun (x_2 : Sl) =>
    idx 3 x_2 0 fun p_3 =>
    ldF (.agg 3) R_1 p_3 fun (x_3 : Array Value) =>
    freeW R_1 h_14 (S_1 13 [.agg x_3]) [] (fun h_19 Kv_6 =>
        bld si_Lapi_Arg 1 [(0, .agg x_3)] h_19 fun s_6 h_20 =>
        Kv_6 s_6.v h_20) fun v_7 => as1 .sl v_7 fun r_7 =>
    freeW R_1 h_14 (S_1 14 [r_6.v, r_7.v]) ((S_1 6 [r_5.v, x_1.v]).A v_6 ++ ((S_1 13 [.agg x_3]).A v_7 ++ [])) (fun h_21 Kv_7 =>
        app si_Lapi_Arg r_6 r_7 h_21 fun s_7 h_22 =>
        Kv_7 s_7.v h_22) fun v_8 => as1 .sl v_8 fun r_8 =>
    freeW R_1 h_14 (S_1 15 [r_8.v]) ((S_1 14 [r_6.v, r_7.v]).A v_8 ++ []) (fun h_23 Kv_8 =>
        bld si_LLapi_Arg 1 [(0, r_8.v)] h_23 fun s_8 h_24 =>
        Kv_8 s_8.v h_24) fun v_9 => as1 .sl v_9 fun r_9 =>
    freeW R_1 h_14 (S_1 16 [q_more.1.v, r_9.v]) ((S_1 15 [r_8.v]).A v_9 ++ []) (fun h_25 Kv_9 =>
        app si_LLapi_Arg q_more.1 r_9 h_25 fun s_9 h_26 =>
        Kv_9 s_9.v h_26) fun v_10 => as1 .sl v_10 fun r_10 =>
    endF R_1 h_14 ((S_1 16 [q_more.1.v, r_9.v]).A v_10 ++ []) fun h_27 =>
    ar .i64 (q_more.2 + 1) fun n =>
    next (r_10, n) h_27))
     (ACalls Try.prog F_lateenlaw23_there [l.v] h_13 fun v_11 h_28 => as1 .sl v_11 fun r_11 =>
  ACalls Try.prog F_merge_Of [r_11.v, rows.v] h_28 fun v_12 h_29 => as1 (.agg 4) v_12 fun r_12 =>
  new 31 #[.slice none 0 0, .slice none 0 0, .slice none 0 0, .slice none 0 0] h_29 fun p_4 h_30 =>
  r_12.size = 4 ∧ st r_12.toList h_30 p_4 fun h_31 =>
  ACalls Try.prog F_lateenlaw23_there [r_4.v] h_31 fun v_13 h_32 => as1 .sl v_13 fun r_13 =>
  ACalls Try.prog F_merge_Of [r_13.v, q_more.1.v] h_32 fun v_14 h_33 => as1 (.agg 4) v_14 fun r_14 =>
  new 31 #[.slice none 0 0, .slice none 0 0, .slice none 0 0, .slice none 0 0] h_33 fun p_5 h_34 =>
  r_14.size = 4 ∧ st r_14.toList h_34 p_5 fun h_35 =>
  joinW (fun _ (t_1 : Bool) h_36 =>
    ifB t_1
     (K (.bool false) h_36)
     (joinW (fun _ (t_2 : Bool) h_37 =>
    K (.bool t_2) h_37) fun k_2 =>
  ∃ (R_2 : Heap → Prop) (h_38 : Heap) (L_2 : List As) (S_2 : Specs), R_2 h_36 ∧ Sep h_38 h_36 L_2 ∧ (ldF .sl R_2 (p_4.add 1) fun (x_4 : Sl) =>
  freeW R_2 h_38 (S_2 2 [x_4.v]) (L_2 ++ []) (fun h_39 Kv_10 =>
      ACalls Try.prog F_lateenlaw22_Back [x_4.v] h_39 fun v_15 h_40 => as1 .sl v_15 fun r_15 =>
      Kv_10 r_15.v h_40) fun v_16 => as1 .sl v_16 fun r_16 =>
  ldF .sl R_2 (p_5.add 1) fun (x_5 : Sl) =>
  freeW R_2 h_38 (S_2 5 [x_5.v]) [] (fun h_41 Kv_11 =>
      ACalls Try.prog F_lateenlaw22_Back [x_5.v] h_41 fun v_17 h_42 => as1 .sl v_17 fun r_17 =>
      Kv_11 r_17.v h_42) fun v_18 => as1 .sl v_18 fun r_18 =>
  freeW R_2 h_38 (S_2 6 [r_16.v, r_18.v]) ((S_2 2 [x_4.v]).A v_16 ++ ((S_2 5 [x_5.v]).A v_18 ++ [])) (fun h_43 Kv_12 =>
      ACalls Try.prog F_lateenref22_Same [r_16.v, r_18.v] h_43 fun v_19 h_44 => as1 .bool v_19 fun r_19 =>
      Kv_12 (.bool r_19) h_44) fun v_20 => as1 .bool v_20 fun r_20 =>
  ifB r_20
   (ldF .sl R_2 (p_4.add 3) fun (x_6 : Sl) =>
    ldF .sl R_2 (p_5.add 3) fun (x_7 : Sl) =>
      freeW R_2 h_38 (S_2 12 [x_6.v, x_7.v, .bool true]) [] (fun h_45 Kv_13 =>
           ACalls Try.prog F_lateenref22_SameArgs [x_6.v, x_7.v] h_45 fun v_21 h_46 => as1 .bool v_21 fun r_21 =>
           Kv_13 (.bool r_21) h_46) fun v_22 => as1 .bool v_22 fun r_22 =>
       ifB r_22
        (ldF .sl R_2 (p_4.add 0) fun (x_8 : Sl) =>
         bst [(0, 1), (1, 1), (2, 1), (3, 1)] #[.slice none 0 0, .slice none 0 0, .slice none 0 0, .slice none 0 0] [(0, x_8.v)] fun c =>
          ldF .sl R_2 (p_5.add 0) fun (x_9 : Sl) =>
            slc 1 x_9 none (some (l.len : Int)) fun s_10 =>
               bst [(0, 1), (1, 1), (2, 1), (3, 1)] #[.slice none 0 0, .slice none 0 0, .slice none 0 0, .slice none 0 0] [(0, s_10.v)] fun c_1 =>
                freeW R_2 h_38 (S_2 24 [.agg c, .agg c_1, .bool true]) [] (fun h_47 Kv_14 =>
                     ACalls Try.prog F_lateenref23_SamePlans [.agg c, .agg c_1] h_47 fun v_23 h_48 => as1 .bool v_23 fun r_23 =>
                     Kv_14 (.bool r_23) h_48) fun v_24 => as1 .bool v_24 fun r_24 =>
                 endF R_2 h_38 ((S_2 6 [r_16.v, r_18.v]).A v_20 ++ ((S_2 12 [x_6.v, x_7.v, .bool true]).A v_22 ++ ((S_2 24 [.agg c, .agg c_1, .bool true]).A v_24 ++ []))) fun h_49 =>
                 k_2 r_24 h_49)
        (endF R_2 h_38 ((S_2 6 [r_16.v, r_18.v]).A v_20 ++ ((S_2 12 [x_6.v, x_7.v, .bool true]).A v_22 ++ [])) fun h_50 =>
                 k_2 false h_50))
   (endF R_2 h_38 ((S_2 6 [r_16.v, r_18.v]).A v_20 ++ []) fun h_51 =>
                 k_2 false h_51)))) fun k_1 =>
  ld .sl h_35 (p_5.add 0) fun (x_10 : Sl) =>
  ar .i64 ((l.len : Int) + 1) fun n_1 =>
  ifB ((x_10.len : Int) != n_1)
   (k_1 true h_35)
   (ld .sl h_35 (p_4.add 2) fun (x_11 : Sl) =>
    ld .sl h_35 (p_5.add 2) fun (x_12 : Sl) =>
       k_1 ((x_11.len : Int) != (x_12.len : Int)) h_35))) ((⟨none, 0, 0⟩ : Sl), 0) h_12))) fun k =>
  ACalls Try.prog F_lateenlaw23_awake [] h fun v_25 h_52 => as1 .bool v_25 fun r_25 =>
  ifB (!r_25)
   (k true h_52)
   (ACalls Try.prog F_lateenref23_Right [l.v, rows.v] h_52 fun v_26 h_53 => as1 .bool v_26 fun r_26 =>
     ifB (!r_26)
       (k true h_53)
       (k (decide ((l.len : Int) > 5)) h_53))
def lateenlaw23_MergeTwice_a : Ann := (.seq .leaf (.seq (.join [(22, .bool)] [0, 1] .leaf (.cond (.seq .leaf .leaf) .leaf)) (.seq (.free 8 [[9], [], [0], [], [], [], [], [2, 6], []] [0, 2, 6, 7, 9]) (.seq .leaf (.seq (.seq .leaf (.block (.loop [(6, .sl), (7, .int .i64)] [0, 1, 5] (.seq (.seq .leaf (.cond .leaf .leaf)) (.seq (.block (.free 17 [[], [18], [], [], [], [], [1], [], [], [], [], [], [], [], [6, 13], [14], [15], []] [1, 6, 13, 14, 15, 16, 18])) .leaf))))) (.seq .leaf (.seq .leaf (.seq (.join [(78, .bool)] [0, 8, 9] .leaf (.cond (.seq .leaf .leaf) .leaf)) (.join [(4, .bool)] [] (.free 26 [[], [], [27], [], [], [], [2, 5], [], [], [], [], [], [], [], [], [], [], [], [], [], [], [], [], [], [], [], []] [2, 5, 6, 12, 24, 27]) .leaf)))))))))
theorem lateenlaw23_MergeTwice_eq (l : Sl) (rows : Sl) (h : Heap) (K : Value → Heap → Prop) : lateenlaw23_MergeTwice l rows h K = fnW Try.prog ty lateenlaw23_MergeTwice_a (bodyOf Try.f4) [.tmp 4] [l.v, rows.v] h K := by kernel_rfl
theorem lateenlaw23_MergeTwice_of {l : Sl} {rows : Sl} {h : Heap} {K : Value → Heap → Prop} (hw : lateenlaw23_MergeTwice l rows h K) : ACalls Try.prog F_lateenlaw23_MergeTwice [l.v, rows.v] h K :=
  calls_sound ty_ok mixed lateenlaw23_MergeTwice_a (c := bodyOf Try.f4) Try.func4 (by kernel_rfl) (by kernel_rfl) (by kernel_rfl) (Nat.le_of_ble_eq_true rfl) (by rw [lateenlaw23_MergeTwice_eq] at hw; exact hw)

/-- lateen/lateenlaw23.MergeKeeps -/
def lateenlaw23_MergeKeeps (l : Sl) (rows : Sl) (h : Heap) (K : Value → Heap → Prop) : Prop :=
  joinW (fun _ (t : Bool) h_1 =>
    ifB t
     (ACalls Try.prog F_lateenlaw23_awake [] h_1 fun v h_2 => as1 .bool v fun r =>
     K (.bool r) h_2)
     (loopW (fun _ (q_was : Sl × Int) h_3 next =>
    ifB (decide (q_was.2 < (l.len : Int)))
     (loopW (fun _ (q_s : Sl × Int) h_4 next_1 =>
      idx 1 l q_was.2 fun p =>
      ld .sl h_4 p fun (x : Sl) =>
      ifB (decide (q_s.2 < (x.len : Int)))
       (idx 1 l q_was.2 fun p_1 =>
      ld .sl h_4 p_1 fun (x_1 : Sl) =>
      idx 6 x_1 q_s.2 fun p_2 =>
      ld (.agg 6) h_4 p_2 fun (x_2 : Array Value) =>
      new 40 #[.int .i64 0, .string ⟨#[]⟩, .slice none 0 0, .int .i64 0, .string ⟨#[]⟩, .int .i64 0] h_4 fun p_3 h_5 =>
      x_2.size = 6 ∧ st x_2.toList h_5 p_3 fun h_6 =>
      bld si_Lapi_Arg 0 [] h_6 fun s_1 h_7 =>
      idx 1 l q_was.2 fun p_4 =>
      ld .sl h_7 p_4 fun (x_3 : Sl) =>
      idx 6 x_3 q_s.2 fun p_5 =>
      ld .sl h_7 (p_5.add 2) fun (x_4 : Sl) =>
      app si_Lapi_Arg s_1 x_4 h_7 fun s_2 h_8 =>
      st [s_2.v] h_8 (p_3.add 2) fun h_9 =>
      ld (.agg 6) h_9 p_3 fun (x_5 : Array Value) =>
      bld si_Llateenref22_Obj 1 [(0, .agg x_5)] h_9 fun s_3 h_10 =>
      app si_Llateenref22_Obj q_s.1 s_3 h_10 fun s_4 h_11 =>
      ar .i64 (q_s.2 + 1) fun n =>
      next_1 (s_4, n) h_11)
       (bld si_LLlateenref22_Obj 1 [(0, q_s.1.v)] h_4 fun s_5 h_12 =>
    app si_LLlateenref22_Obj q_was.1 s_5 h_12 fun s_6 h_13 =>
    ar .i64 (q_was.2 + 1) fun n_1 =>
    next (s_6, n_1) h_13)) ((⟨none, 0, 0⟩ : Sl), 0) h_3)
     (ACalls Try.prog F_lateenlaw23_there [l.v] h_3 fun v_1 h_14 => as1 .sl v_1 fun r_1 =>
  ACalls Try.prog F_merge_Of [r_1.v, rows.v] h_14 fun v_2 h_15 => as1 (.agg 4) v_2 fun r_2 =>
  new 31 #[.slice none 0 0, .slice none 0 0, .slice none 0 0, .slice none 0 0] h_15 fun p_6 h_16 =>
  r_2.size = 4 ∧ st r_2.toList h_16 p_6 fun h_17 =>
  loopW (fun _ (i_1 : Int) h_18 next_2 =>
    ld .sl h_18 (p_6.add 1) fun (x_6 : Sl) =>
    ifB (decide (i_1 < (x_6.len : Int)))
     (loopW (fun _ (k_2 : Int) h_19 next_3 =>
      ld .sl h_19 (p_6.add 1) fun (x_7 : Sl) =>
      idx 6 x_7 i_1 fun p_7 =>
      ld .sl h_19 (p_7.add 2) fun (x_8 : Sl) =>
      ifB (decide (k_2 < (x_8.len : Int)))
       (ld .sl h_19 (p_6.add 1) fun (x_9 : Sl) =>
      idx 6 x_9 i_1 fun p_8 =>
      ld .sl h_19 (p_8.add 2) fun (x_10 : Sl) =>
      bst [(0, 1), (1, 1), (2, 1)] #[.int .i64 0, .string ⟨#[]⟩, .int .i64 0] [(0, .int .i64 77)] fun c =>
      idx 3 x_10 k_2 fun p_9 =>
      c.size = 3 ∧ st c.toList h_19 p_9 fun h_20 =>
      ar .i64 (k_2 + 1) fun n_2 =>
      next_3 n_2 h_20)
       (ar .i64 (i_1 + 1) fun n_3 =>
    next_2 n_3 h_19)) 0 h_18)
     (loopW (fun _ (i_2 : Int) h_21 next_4 =>
    ifB (decide (i_2 < (l.len : Int)))
     (idx 1 l i_2 fun p_10 =>
    ld .sl h_21 p_10 fun (x_11 : Sl) =>
    idx 1 q_was.1 i_2 fun p_11 =>
    ld .sl h_21 p_11 fun (x_12 : Sl) =>
    ACalls Try.prog F_lateenref22_Same [x_11.v, x_12.v] h_21 fun v_3 h_22 => as1 .bool v_3 fun r_3 =>
    ifB (!r_3)
     (K (.bool false) h_22)
     (ar .i64 (i_2 + 1) fun n_4 =>
    next_4 n_4 h_22))
     (K (.bool true) h_21)) 0 h_18)) 0 h_17)) ((⟨none, 0, 0⟩ : Sl), 0) h_1)) fun k =>
  ACalls Try.prog F_lateenlaw23_awake [] h fun v_4 h_23 => as1 .bool v_4 fun r_4 =>
  ifB (!r_4)
   (k true h_23)
   (ACalls Try.prog F_lateenref23_Right [l.v, rows.v] h_23 fun v_5 h_24 => as1 .bool v_5 fun r_5 =>
     k (!r_5) h_24)
def lateenlaw23_MergeKeeps_a : Ann := (.seq .leaf (.seq (.join [(21, .bool)] [0, 1] .leaf (.cond (.seq .leaf .leaf) .leaf)) (.seq .leaf (.seq (.seq .leaf (.block (.loop [(5, .sl), (6, .int .i64)] [0, 1] (.seq (.seq .leaf (.cond .leaf .leaf)) (.seq (.block (.seq .leaf (.seq (.seq .leaf (.block (.loop [(7, .sl), (8, .int .i64)] [0, 1, 5, 6] (.seq (.seq .leaf (.cond .leaf .leaf)) (.seq (.block (.seq .leaf (.seq .leaf .leaf))) .leaf))))) .leaf))) .leaf))))) (.seq .leaf (.seq (.seq .leaf (.block (.loop [(11, .int .i64)] [0, 5, 10] (.seq (.seq .leaf (.cond .leaf .leaf)) (.seq (.block (.seq .leaf (.block (.loop [(12, .int .i64)] [0, 5, 10, 11] (.seq (.seq .leaf (.cond .leaf .leaf)) (.seq (.block .leaf) .leaf)))))) .leaf))))) (.seq (.seq .leaf (.block (.loop [(13, .int .i64)] [0, 5] (.seq (.seq .leaf (.cond .leaf .leaf)) (.seq (.block (.seq .leaf (.cond (.seq .leaf .leaf) .leaf))) .leaf))))) (.seq .leaf .leaf))))))))
theorem lateenlaw23_MergeKeeps_eq (l : Sl) (rows : Sl) (h : Heap) (K : Value → Heap → Prop) : lateenlaw23_MergeKeeps l rows h K = fnW Try.prog ty lateenlaw23_MergeKeeps_a (bodyOf Try.f5) [.tmp 4] [l.v, rows.v] h K := by kernel_rfl
theorem lateenlaw23_MergeKeeps_of {l : Sl} {rows : Sl} {h : Heap} {K : Value → Heap → Prop} (hw : lateenlaw23_MergeKeeps l rows h K) : ACalls Try.prog F_lateenlaw23_MergeKeeps [l.v, rows.v] h K :=
  calls_sound ty_ok mixed lateenlaw23_MergeKeeps_a (c := bodyOf Try.f5) Try.func5 (by kernel_rfl) (by kernel_rfl) (by kernel_rfl) (Nat.le_of_ble_eq_true rfl) (by rw [lateenlaw23_MergeKeeps_eq] at hw; exact hw)

/-- lateen/lateenlaw23.awake -/
def lateenlaw23_awake  (h : Heap) (K : Value → Heap → Prop) : Prop :=
  ACalls Try.prog F_lateenlaw23_number [.int .i64 1] h fun v h_1 => as1 (.agg 3) v fun r =>
  bld si_Lapi_Arg 1 [(0, .agg r)] h_1 fun s h_2 =>
  bst [(0, 1), (1, 1), (2, 1), (3, 3)] #[.int .i64 0, .string ⟨#[]⟩, .slice none 0 0, .int .i64 0, .string ⟨#[]⟩, .int .i64 0] [(0, .int .i64 1), (1, .string ⟨#[80]⟩), (2, s.v)] fun c =>
  bld si_Lvstate_Obj 1 [(0, .agg c)] h_2 fun s_1 h_3 =>
  ACalls Try.prog F_lateenlaw23_number [.int .i64 2] h_3 fun v_1 h_4 => as1 (.agg 3) v_1 fun r_1 =>
  bld si_Lapi_Arg 1 [(0, .agg r_1)] h_4 fun s_2 h_5 =>
  bst [(0, 1), (1, 1), (2, 1), (3, 3)] #[.int .i64 0, .string ⟨#[]⟩, .slice none 0 0, .int .i64 0, .string ⟨#[]⟩, .int .i64 0] [(0, .int .i64 1), (1, .string ⟨#[80]⟩), (2, s_2.v)] fun c_1 =>
  bld si_Lvstate_Obj 1 [(0, .agg c_1)] h_5 fun s_3 h_6 =>
  ACalls Try.prog F_lateenlaw23_number [.int .i64 2] h_6 fun v_2 h_7 => as1 (.agg 3) v_2 fun r_2 =>
  bld si_Lapi_Arg 1 [(0, .agg r_2)] h_7 fun s_4 h_8 =>
  bst [(0, 1), (1, 1), (2, 1)] #[.int .i64 0, .string ⟨#[]⟩, .int .i64 0] [(0, .int .i64 1), (1, .string ⟨#[120]⟩)] fun c_2 =>
  bst [(0, 1), (1, 1), (2, 1), (3, 3)] #[.int .i64 0, .string ⟨#[]⟩, .slice none 0 0, .int .i64 0, .string ⟨#[]⟩, .int .i64 0] [(0, .int .i64 1), (1, .string ⟨#[80]⟩), (2, s_4.v), (3, .agg c_2)] fun c_3 =>
  bld si_Lvstate_Obj 1 [(0, .agg c_3)] h_8 fun s_5 h_9 =>
  bld si_LLvstate_Obj 2 [(0, s_1.v), (1, s_3.v)] h_9 fun s_6 h_10 =>
  ACalls Try.prog F_merge_Of [s_6.v, (⟨none, 0, 0⟩ : Sl).v] h_10 fun v_3 h_11 => as1 (.agg 4) v_3 fun r_3 =>
  new 31 #[.slice none 0 0, .slice none 0 0, .slice none 0 0, .slice none 0 0] h_11 fun p h_12 =>
  r_3.size = 4 ∧ st r_3.toList h_12 p fun h_13 =>
  bld si_LLvstate_Obj 2 [(0, s_1.v), (1, s_5.v)] h_13 fun s_7 h_14 =>
  ACalls Try.prog F_merge_Of [s_7.v, (⟨none, 0, 0⟩ : Sl).v] h_14 fun v_4 h_15 => as1 (.agg 4) v_4 fun r_4 =>
  new 31 #[.slice none 0 0, .slice none 0 0, .slice none 0 0, .slice none 0 0] h_15 fun p_1 h_16 =>
  r_4.size = 4 ∧ st r_4.toList h_16 p_1 fun h_17 =>
  joinW (fun _ (t : Bool) h_18 =>
    K (.bool t) h_18) fun k =>
  ld .sl h_17 (p.add 2) fun (x : Sl) =>
  ifB ((x.len : Int) == 1)
   (ld .sl h_17 (p.add 2) fun (x_1 : Sl) =>
    idx 3 x_1 0 fun p_2 =>
     ld (.int .i64) h_17 (p_2.add 1) fun (x_2 : Int) =>
       ifB (x_2 == 0)
         (ld .sl h_17 (p.add 2) fun (x_3 : Sl) =>
          idx 3 x_3 0 fun p_3 =>
           ld .sl h_17 (p_3.add 2) fun (x_4 : Sl) =>
             ifB ((x_4.len : Int) == 2)
                (ld .sl h_17 (p.add 2) fun (x_5 : Sl) =>
                 idx 3 x_5 0 fun p_4 =>
                  ld .sl h_17 (p_4.add 2) fun (x_6 : Sl) =>
                    idx 3 x_6 1 fun p_5 =>
                     ld (.agg 3) h_17 p_5 fun (x_7 : Array Value) =>
                      ACalls Try.prog F_lateenlaw23_number [.int .i64 2] h_17 fun v_5 h_19 => as1 (.agg 3) v_5 fun r_5 =>
                       hExt h_17 h_19 ∧ eqA [.int .i64, .str, .int .i64] x_7 r_5 fun b =>
                        ifB b
                         (ld .sl h_17 (p.add 1) fun (x_8 : Sl) =>
                          ifB ((x_8.len : Int) == 1)
                             (ld .sl h_17 (p_1.add 0) fun (x_9 : Sl) =>
                              ifB ((x_9.len : Int) == 2)
                                 (ld .sl h_17 (p_1.add 0) fun (x_10 : Sl) =>
                                  idx 1 x_10 0 fun p_6 =>
                                   ld .sl h_17 p_6 fun (x_11 : Sl) =>
                                    ifB ((x_11.len : Int) == 1)
                                       (ld .sl h_17 (p_1.add 0) fun (x_12 : Sl) =>
                                        idx 1 x_12 0 fun p_7 =>
                                         ld .sl h_17 p_7 fun (x_13 : Sl) =>
                                          idx 1 x_13 0 fun p_8 =>
                                           ld (.int .i64) h_17 p_8 fun (x_14 : Int) =>
                                            ifB (x_14 == 1)
                                              (ld .sl h_17 (p_1.add 1) fun (x_15 : Sl) =>
                                               k ((x_15.len : Int) == 0) h_19)
                                              (k false h_19))
                                       (k false h_19))
                                 (k false h_19))
                             (k false h_19))
                         (k false h_19))
                (k false h_17))
         (k false h_17))
   (k false h_17)
def lateenlaw23_awake_a : Ann := (.seq .leaf (.seq .leaf (.seq .leaf (.seq .leaf (.seq .leaf (.seq .leaf (.join [(0, .bool)] [] .based .leaf)))))))
theorem lateenlaw23_awake_eq  (h : Heap) (K : Value → Heap → Prop) : lateenlaw23_awake  h K = fnW Try.prog ty lateenlaw23_awake_a (bodyOf Try.f16) [.tmp 0] [] h K := by kernel_rfl
theorem lateenlaw23_awake_of  {h : Heap} {K : Value → Heap → Prop} (hw : lateenlaw23_awake  h K) : ACalls Try.prog F_lateenlaw23_awake [] h K :=
  calls_sound ty_ok mixed lateenlaw23_awake_a (c := bodyOf Try.f16) Try.func16 (by kernel_rfl) (by kernel_rfl) (by kernel_rfl) (Nat.le_of_ble_eq_true rfl) (by rw [lateenlaw23_awake_eq] at hw; exact hw)

/-- lateen/lateenref23.Right -/
def lateenref23_Right (l : Sl) (rows : Sl) (h : Heap) (K : Value → Heap → Prop) : Prop :=
  joinW (fun _ (t : Bool) h_1 =>
    ifB t
     (K (.bool false) h_1)
     (loopW (fun _ (i : Int) h_2 next =>
    ifB (decide (i < (l.len : Int)))
     (joinW (fun _ (t_1 : Bool) h_3 =>
      ifB t_1
       (K (.bool false) h_3)
       (loopW (fun _ (k_2 : Int) h_4 next_1 =>
      idx 1 l i fun p =>
      ld .sl h_4 p fun (x : Sl) =>
      ifB (decide (k_2 < (x.len : Int)))
       (joinW (fun _ (t_2 : Bool) h_5 =>
        ifB t_2
         (K (.bool false) h_5)
         (loopW (fun _ (j : Int) h_6 next_2 =>
        ifB (decide (j < i))
         (∃ (R : Heap → Prop) (h_7 : Heap) (L : List As) (S : Specs), R h_6 ∧ Sep h_7 h_6 L ∧ (idx 1 l j fun p_1 =>
        ldF .sl R p_1 fun (x_1 : Sl) =>
        idx 1 l i fun p_2 =>
        ldF .sl R p_2 fun (x_2 : Sl) =>
        idx 6 x_2 k_2 fun p_3 =>
        ldF (.int .i64) R (p_3.add 0) fun (x_3 : Int) =>
        freeW R h_7 (S 12 [.int .i64 x_3]) [] (fun h_8 Kv =>
            ACalls Try.prog F_lateenref23_to [.int .i64 x_3] h_8 fun v h_9 => as1 (.agg 3) v fun r =>
            Kv (.agg r) h_9) fun v_1 => as1 (.agg 3) v_1 fun r_1 =>
        freeW R h_7 (S 13 [x_1.v, .agg r_1]) ((S 12 [.int .i64 x_3]).A v_1 ++ []) (fun h_10 Kv_1 =>
            ACalls Try.prog F_lateenref22_Find [x_1.v, .agg r_1] h_10 fun v_2 h_11 => as2 (.agg 6) .bool v_2 fun r_2 r_3 =>
            Kv_1 (.tuple #[.agg r_2, .bool r_3]) h_11) fun v_3 => as2 (.agg 6) .bool v_3 fun r_4 r_5 =>
        freeW R h_7 (S 17 []) [] (fun h_12 Kv_2 =>
            new 40 #[.int .i64 0, .string ⟨#[]⟩, .slice none 0 0, .int .i64 0, .string ⟨#[]⟩, .int .i64 0] h_12 fun p_4 h_13 =>
            Kv_2 (.pointer (some p_4)) h_13) fun v_4 => asP v_4 fun p_5 =>
        freeW R h_7 (S 18 [.pointer (some p_5), .agg r_4]) ((S 17 []).A v_4 ++ (L ++ [])) (fun h_14 Kv_3 =>
            r_4.size = 6 ∧ st r_4.toList h_14 p_5 fun h_15 =>
            Kv_3 undef h_15) fun v_5 =>
        endF R h_7 ((S 13 [x_1.v, .agg r_1]).A v_3 ++ ((S 18 [.pointer (some p_5), .agg r_4]).A v_5 ++ [])) fun h_16 =>
        joinW (fun _ (t_3 : Bool) h_17 =>
          ifB t_3
           (K (.bool false) h_17)
           (ar .i64 (j + 1) fun n =>
        next_2 n h_17)) fun k_4 =>
        ifB r_5
         (ld .sl h_16 (p_5.add 2) fun (x_4 : Sl) =>
          idx 1 l i fun p_6 =>
              ld .sl h_16 p_6 fun (x_5 : Sl) =>
               idx 6 x_5 k_2 fun p_7 =>
                 ld .sl h_16 (p_7.add 2) fun (x_6 : Sl) =>
                   k_4 ((x_4.len : Int) != (x_6.len : Int)) h_16)
         (k_4 false h_16)))
         (ar .i64 (k_2 + 1) fun n_1 =>
      next_1 n_1 h_6)) 0 h_5)) fun k_3 =>
      idx 1 l i fun p_8 =>
      ld .sl h_4 p_8 fun (x_7 : Sl) =>
      idx 6 x_7 k_2 fun p_9 =>
      ld (.int .i64) h_4 ((p_9.add 3).add 0) fun (x_8 : Int) =>
      ifB (x_8 == 0)
       (idx 1 l i fun p_10 =>
         ld .sl h_4 p_10 fun (x_9 : Sl) =>
          idx 6 x_9 k_2 fun p_11 =>
            ld (.agg 3) h_4 (p_11.add 3) fun (x_10 : Array Value) =>
              bst [(0, 1), (1, 1), (2, 1)] #[.int .i64 0, .string ⟨#[]⟩, .int .i64 0] [] fun c =>
               eqA [.int .i64, .str, .int .i64] x_10 c fun b =>
                k_3 (!b) h_4)
       (k_3 false h_4))
       (ar .i64 (i + 1) fun n_2 =>
    next n_2 h_4)) 0 h_3)) fun k_1 =>
    idx 1 l i fun p_12 =>
    ld .sl h_2 p_12 fun (x_11 : Sl) =>
    ACalls Try.prog F_lateenref22_Few [x_11.v] h_2 fun v_6 h_18 => as1 .bool v_6 fun r_6 =>
    ifB (!r_6)
     (k_1 true h_18)
     (idx 1 l i fun p_13 =>
       ld .sl h_18 p_13 fun (x_12 : Sl) =>
        ACalls Try.prog F_lateenref22_Right [x_12.v] h_18 fun v_7 h_19 => as1 .bool v_7 fun r_7 =>
         k_1 (!r_7) h_19))
     (loopW (fun _ (i_1 : Int) h_20 next_3 =>
    ifB (decide (i_1 < (rows.len : Int)))
     (joinW (fun _ (t_4 : Bool) h_21 =>
      ifB t_4
       (K (.bool false) h_21)
       (ar .i64 (i_1 + 1) fun n_3 =>
    next_3 n_3 h_21)) fun k_5 =>
    idx 1 rows i_1 fun p_14 =>
    ld .sl h_20 p_14 fun (x_13 : Sl) =>
    ifB ((x_13.len : Int) != (l.len : Int))
     (k_5 true h_20)
     (idx 1 rows i_1 fun p_15 =>
       ld .sl h_20 p_15 fun (x_14 : Sl) =>
        ACalls Try.prog F_lateenref23_plain [x_14.v] h_20 fun v_8 h_22 => as1 .bool v_8 fun r_8 =>
         k_5 (!r_8) h_22))
     (loopW (fun _ (i_2 : Int) h_23 next_4 =>
    ifB (decide (i_2 < (l.len : Int)))
     (loopW (fun _ (k_6 : Int) h_24 next_5 =>
      idx 1 l i_2 fun p_16 =>
      ld .sl h_24 p_16 fun (x_15 : Sl) =>
      ifB (decide (k_6 < (x_15.len : Int)))
       (idx 1 l i_2 fun p_17 =>
      ld .sl h_24 p_17 fun (x_16 : Sl) =>
      idx 6 x_16 k_6 fun p_18 =>
      ld .sl h_24 (p_18.add 2) fun (x_17 : Sl) =>
      ACalls Try.prog F_lateenref23_plain [x_17.v] h_24 fun v_9 h_25 => as1 .bool v_9 fun r_9 =>
      ifB (!r_9)
       (K (.bool false) h_25)
       (ar .i64 (k_6 + 1) fun n_4 =>
      next_5 n_4 h_25))
       (ar .i64 (i_2 + 1) fun n_5 =>
    next_4 n_5 h_24)) 0 h_23)
     (K (.bool true) h_23)) 0 h_20)) 0 h_2)) 0 h_1)) fun k =>
  ifB ((l.len : Int) == 0)
   (k true h)
   (ifB (decide ((l.len : Int) > 6))
      (k true h)
      (k (decide ((rows.len : Int) > 20)) h))
def lateenref23_Right_a : Ann := (.seq .leaf (.seq (.join [(25, .bool)] [0, 1] .leaf (.cond (.seq .leaf .leaf) .leaf)) (.seq (.seq .leaf (.block (.loop [(5, .int .i64)] [0, 1] (.seq (.seq .leaf (.cond .leaf .leaf)) (.seq (.block (.seq (.join [(45, .bool)] [0, 1, 5] .leaf (.cond (.seq .leaf .leaf) .leaf)) (.seq .leaf (.block (.loop [(6, .int .i64)] [0, 1, 5] (.seq (.seq .leaf (.cond .leaf .leaf)) (.seq (.block (.seq (.join [(76, .bool)] [0, 1, 5, 6] .leaf (.cond (.seq .leaf .leaf) .leaf)) (.seq .leaf (.block (.loop [(7, .int .i64)] [0, 1, 5, 6] (.seq (.seq .leaf (.cond .leaf .leaf)) (.seq (.block (.seq (.free 19 [[], [], [], [], [], [], [], [], [], [], [], [], [], [12], [], [], [], [], [17, 20], []] [12, 13, 17, 18, 20]) (.join [(114, .bool)] [0, 1, 5, 6, 7] .leaf (.cond (.seq .leaf .leaf) .leaf)))) .leaf))))))) .leaf))))))) .leaf))))) (.seq (.seq .leaf (.block (.loop [(10, .int .i64)] [0, 1] (.seq (.seq .leaf (.cond .leaf .leaf)) (.seq (.block (.join [(136, .bool)] [0, 1, 10] .leaf (.cond (.seq .leaf .leaf) .leaf))) .leaf))))) (.seq (.seq .leaf (.block (.loop [(11, .int .i64)] [0] (.seq (.seq .leaf (.cond .leaf .leaf)) (.seq (.block (.seq .leaf (.block (.loop [(12, .int .i64)] [0, 11] (.seq (.seq .leaf (.cond .leaf .leaf)) (.seq (.block (.seq .leaf (.cond (.seq .leaf .leaf) .leaf))) .leaf)))))) .leaf))))) (.seq .leaf .leaf))))))
theorem lateenref23_Right_eq (l : Sl) (rows : Sl) (h : Heap) (K : Value → Heap → Prop) : lateenref23_Right l rows h K = fnW Try.prog ty lateenref23_Right_a (bodyOf Try.f17) [.tmp 4] [l.v, rows.v] h K := by kernel_rfl
theorem lateenref23_Right_of {l : Sl} {rows : Sl} {h : Heap} {K : Value → Heap → Prop} (hw : lateenref23_Right l rows h K) : ACalls Try.prog F_lateenref23_Right [l.v, rows.v] h K :=
  calls_sound ty_ok mixed lateenref23_Right_a (c := bodyOf Try.f17) Try.func17 (by kernel_rfl) (by kernel_rfl) (by kernel_rfl) (Nat.le_of_ble_eq_true rfl) (by rw [lateenref23_Right_eq] at hw; exact hw)

/-- lateen/merge.Of -/
def merge_Of (l : Sl) (rows : Sl) (h : Heap) (K : Value → Heap → Prop) : Prop :=
  new 31 #[.slice none 0 0, .slice none 0 0, .slice none 0 0, .slice none 0 0] h fun p h_1 =>
  bst [(0, 1), (1, 1), (2, 4)] #[.slice none 0 0, .slice none 0 0, .slice none 0 0, .slice none 0 0, .slice none 0 0, .slice none 0 0] [(0, l.v)] fun c =>
  new 107 c h_1 fun p_1 h_2 =>
  loopW (fun _ (t : Int) h_3 next =>
    ifB (decide (t < (l.len : Int)))
     (ld .sl h_3 (p_1.add 1) fun (x : Sl) =>
    mkm h_3 fun m h_4 =>
    bld si_Lmap_int64_bool 1 [(0, .map m)] h_4 fun s h_5 =>
    app si_Lmap_int64_bool x s h_5 fun s_1 h_6 =>
    st [s_1.v] h_6 (p_1.add 1) fun h_7 =>
    ar .i64 (t + 1) fun n =>
    next n h_7)
     (idx 1 l 0 fun p_2 =>
  ld .sl h_3 p_2 fun (x_1 : Sl) =>
  loopW (fun _ (q_common : Sl × Int) h_8 next_1 =>
    ifB (decide (q_common.2 < (x_1.len : Int)))
     (joinW (fun _ (common_1 : Sl) h_9 =>
      ar .i64 (q_common.2 + 1) fun n_1 =>
      next_1 (common_1, n_1) h_9) fun k =>
    idx 6 x_1 q_common.2 fun p_3 =>
    ld (.agg 6) h_8 p_3 fun (x_2 : Array Value) =>
    new 39 #[.int .i64 0, .string ⟨#[]⟩, .slice none 0 0, .int .i64 0, .string ⟨#[]⟩, .int .i64 0] h_8 fun p_4 h_10 =>
    x_2.size = 6 ∧ st x_2.toList h_10 p_4 fun h_11 =>
    ld (.int .i64) h_11 (p_4.add 0) fun (x_3 : Int) =>
    ACalls Try.prog F_merge_meeting_of [.pointer (some p_1), .int .i64 x_3] h_11 fun v h_12 => as2 .sl .bool v fun r r_1 =>
    ifB r_1
     (bld si_LLvstate_Obj 1 [(0, r.v)] h_12 fun s_2 h_13 =>
     app si_LLvstate_Obj q_common.1 s_2 h_13 fun s_3 h_14 =>
     ACalls Try.prog F_merge_meeting_object [.pointer (some p_1), r.v] h_14 fun v_1 h_15 => as0 v_1 (
     k s_3 h_15))
     (k q_common.1 h_12))
     (loopW (fun _ (t_2 : Int) h_16 next_2 =>
    ifB (decide (t_2 < (rows.len : Int)))
     (idx 1 rows t_2 fun p_5 =>
    ld .sl h_16 p_5 fun (x_4 : Sl) =>
    ACalls Try.prog F_merge_meeting_row [.pointer (some p_1), x_4.v] h_16 fun v_2 h_17 => as0 v_2 (
    ar .i64 (t_2 + 1) fun n_2 =>
    next_2 n_2 h_17))
     (ld .sl h_16 (p_1.add 1) fun (x_5 : Sl) =>
  loopW (fun _ (q_somev : Bool × Int) h_18 next_3 =>
    ifB (decide (q_somev.2 < (x_5.len : Int)))
     (joinW (fun _ (somev_1 : Bool) h_19 =>
      ar .i64 (q_somev.2 + 1) fun n_3 =>
      next_3 (somev_1, n_3) h_19) fun k_1 =>
    idx 1 x_5 q_somev.2 fun p_6 =>
    ld .map h_18 p_6 fun (x_6 : Option Nat) =>
    ∃ (R : Heap → Prop) (h_20 : Heap) (L : List As) (S : Specs), R h_18 ∧ Sep h_20 h_18 L ∧ (ldF .sl R ((p_1.add 2).add 0) fun (x_7 : Sl) =>
    freeW R h_20 (S 7 [.map x_6]) (L ++ []) (fun h_21 Kv =>
        ACalls Try.prog F_maps_Keys [.map x_6] h_21 fun v_3 h_22 => as1 .fn v_3 fun r_2 =>
        Kv r_2 h_22) fun v_4 => as1 .fn v_4 fun r_3 =>
    freeW R h_20 (S 8 [r_3]) ((S 7 [.map x_6]).A v_4 ++ []) (fun h_23 Kv_1 =>
        ACalls Try.prog F_slices_Sorted [r_3] h_23 fun v_5 h_24 => as1 .sl v_5 fun r_4 =>
        Kv_1 r_4.v h_24) fun v_6 => as1 .sl v_6 fun r_5 =>
    freeW R h_20 (S 9 [r_5.v]) ((S 8 [r_3]).A v_6 ++ []) (fun h_25 Kv_2 =>
        bld si_LLint64 1 [(0, r_5.v)] h_25 fun s_4 h_26 =>
        Kv_2 s_4.v h_26) fun v_7 => as1 .sl v_7 fun r_6 =>
    freeW R h_20 (S 10 [x_7.v, r_6.v]) ((S 9 [r_5.v]).A v_7 ++ []) (fun h_27 Kv_3 =>
        app si_LLint64 x_7 r_6 h_27 fun s_5 h_28 =>
        Kv_3 s_5.v h_28) fun v_8 => as1 .sl v_8 fun r_7 =>
    endF R h_20 ((S 10 [x_7.v, r_6.v]).A v_8 ++ []) fun h_29 =>
    st [r_7.v] h_29 ((p_1.add 2).add 0) fun h_30 =>
    ifB q_somev.1
     (k_1 true h_30)
     (mln x_6 h_30 fun n_4 =>
      k_1 (decide (n_4 > 0)) h_30)))
     (ifB q_somev.1
   (ld (.agg 4) h_18 (p_1.add 2) fun (x_8 : Array Value) =>
   x_8.size = 4 ∧ st x_8.toList h_18 p fun h_31 =>
   ld (.agg 4) h_31 p fun (x_9 : Array Value) => K (.agg x_9) h_31)
   (loopW (fun _ (t_4 : Int) h_32 next_4 =>
    ifB (decide (t_4 < (q_common.1.len : Int)))
     (idx 1 q_common.1 t_4 fun p_7 =>
    ld .sl h_32 p_7 fun (x_10 : Sl) =>
    ∃ (R_1 : Heap → Prop) (h_33 : Heap) (L_1 : List As) (S_1 : Specs), R_1 h_32 ∧ Sep h_33 h_32 L_1 ∧ (ldF .sl R_1 ((p_1.add 2).add 1) fun (x_11 : Sl) =>
    freeW R_1 h_33 (S_1 8 [.pointer (some p_1), x_10.v]) (L_1 ++ []) (fun h_34 Kv_4 =>
        ACalls Try.prog F_merge_meeting_merged [.pointer (some p_1), x_10.v] h_34 fun v_9 h_35 => as1 (.agg 6) v_9 fun r_8 =>
        Kv_4 (.agg r_8) h_35) fun v_10 => as1 (.agg 6) v_10 fun r_9 =>
    freeW R_1 h_33 (S_1 9 [.agg r_9]) ((S_1 8 [.pointer (some p_1), x_10.v]).A v_10 ++ []) (fun h_36 Kv_5 =>
        bld si_Lvstate_Obj 1 [(0, .agg r_9)] h_36 fun s_6 h_37 =>
        Kv_5 s_6.v h_37) fun v_11 => as1 .sl v_11 fun r_10 =>
    freeW R_1 h_33 (S_1 10 [x_11.v, r_10.v]) ((S_1 9 [.agg r_9]).A v_11 ++ []) (fun h_38 Kv_6 =>
        app si_Lvstate_Obj x_11 r_10 h_38 fun s_7 h_39 =>
        Kv_6 s_7.v h_39) fun v_12 => as1 .sl v_12 fun r_11 =>
    endF R_1 h_33 ((S_1 10 [x_11.v, r_10.v]).A v_12 ++ []) fun h_40 =>
    st [r_11.v] h_40 ((p_1.add 2).add 1) fun h_41 =>
    ar .i64 (t_4 + 1) fun n_5 =>
    next_4 n_5 h_41))
     (loopW (fun _ (t_5 : Int) h_42 next_5 =>
    ifB (decide (t_5 < (rows.len : Int)))
     (idx 1 rows t_5 fun p_8 =>
    ld .sl h_42 p_8 fun (x_12 : Sl) =>
    ACalls Try.prog F_merge_meeting_alias [.pointer (some p_1), x_12.v] h_42 fun v_13 h_43 => as2 (.agg 3) .bool v_13 fun r_12 _ =>
    new 37 #[.int .i64 0, .string ⟨#[]⟩, .int .i64 0] h_43 fun p_9 h_44 =>
    r_12.size = 3 ∧ st r_12.toList h_44 p_9 fun h_45 =>
    ld .sl h_45 ((p_1.add 2).add 3) fun (x_13 : Sl) =>
    ld (.agg 3) h_45 p_9 fun (x_14 : Array Value) =>
    bld si_Lapi_Arg 1 [(0, .agg x_14)] h_45 fun s_8 h_46 =>
    app si_Lapi_Arg x_13 s_8 h_46 fun s_9 h_47 =>
    st [s_9.v] h_47 ((p_1.add 2).add 3) fun h_48 =>
    ar .i64 (t_5 + 1) fun n_6 =>
    next_5 n_6 h_48)
     (ld (.agg 4) h_42 (p_1.add 2) fun (x_15 : Array Value) =>
  x_15.size = 4 ∧ st x_15.toList h_42 p fun h_49 =>
  ld (.agg 4) h_49 p fun (x_16 : Array Value) => K (.agg x_16) h_49)) 0 h_32)) 0 h_18))) (false, 0) h_16)) 0 h_8)) ((⟨none, 0, 0⟩ : Sl), 0) h_3)) 0 h_2
def merge_Of_a : Ann := (.seq .leaf (.seq .leaf (.seq (.seq .leaf (.block (.loop [(27, .int .i64)] [0, 1, 4, 5, 26] (.seq .leaf (.seq (.cond .leaf .leaf) (.seq (.block .leaf) .leaf)))))) (.seq .leaf (.seq (.seq .leaf (.block (.loop [(6, .sl), (44, .int .i64)] [1, 4, 5, 42, 43] (.seq .leaf (.seq (.cond .leaf .leaf) (.join [(6, .sl)] [1, 4, 5, 42, 43, 44] (.block (.seq .leaf (.seq .leaf (.seq .leaf (.cond (.seq .leaf .leaf) .leaf))))) .leaf)))))) (.seq (.seq .leaf (.block (.loop [(66, .int .i64)] [1, 4, 5, 6, 64, 65] (.seq .leaf (.seq (.cond .leaf .leaf) (.seq (.block (.seq .leaf .leaf)) .leaf)))))) (.seq .leaf (.seq (.seq .leaf (.block (.loop [(13, .bool), (79, .int .i64)] [1, 4, 5, 6, 77, 78] (.seq .leaf (.seq (.cond .leaf .leaf) (.join [(13, .bool)] [1, 4, 5, 6, 77, 78, 79] (.block (.seq .leaf (.seq (.free 11 [[], [], [], [], [], [], [], [15], [7], [8], [9], [], [], [], []] [7, 8, 9, 10, 15]) .leaf))) .leaf)))))) (.seq (.seq .leaf (.cond (.seq .leaf .leaf) .leaf)) (.seq (.seq .leaf (.block (.loop [(111, .int .i64)] [1, 4, 5, 109, 110] (.seq .leaf (.seq (.cond .leaf .leaf) (.seq (.block (.seq .leaf (.free 11 [[], [], [], [], [], [], [], [], [15], [8], [9], [], [], [], []] [8, 9, 10, 15]))) .leaf)))))) (.seq (.seq .leaf (.block (.loop [(132, .int .i64)] [4, 5, 130, 131] (.seq .leaf (.seq (.cond .leaf .leaf) (.seq (.block (.seq .leaf (.seq .leaf .leaf))) .leaf)))))) (.seq .leaf .leaf))))))))))))
theorem merge_Of_eq (l : Sl) (rows : Sl) (h : Heap) (K : Value → Heap → Prop) : merge_Of l rows h K = fnW Try.prog ty merge_Of_a (bodyOf Try.f18) [.cell 4 31] [l.v, rows.v] h K := by kernel_rfl
theorem merge_Of_of {l : Sl} {rows : Sl} {h : Heap} {K : Value → Heap → Prop} (hw : merge_Of l rows h K) : ACalls Try.prog F_merge_Of [l.v, rows.v] h K :=
  calls_sound ty_ok mixed merge_Of_a (c := bodyOf Try.f18) Try.func18 (by kernel_rfl) (by kernel_rfl) (by kernel_rfl) (Nat.le_of_ble_eq_true rfl) (by rw [merge_Of_eq] at hw; exact hw)

/-- lateen/lateenlaw23.there -/
def lateenlaw23_there (l : Sl) (h : Heap) (K : Value → Heap → Prop) : Prop :=
  loopW (fun _ (q_out : Sl × Int) h_1 next =>
    ifB (decide (q_out.2 < (l.len : Int)))
     (idx 1 l q_out.2 fun p =>
    ld .sl h_1 p fun (x : Sl) =>
    ACalls Try.prog F_lateenlaw22_There [x.v] h_1 fun v h_2 => as1 .sl v fun r =>
    bld si_LLvstate_Obj 1 [(0, r.v)] h_2 fun s h_3 =>
    app si_LLvstate_Obj q_out.1 s h_3 fun s_1 h_4 =>
    ar .i64 (q_out.2 + 1) fun n =>
    next (s_1, n) h_4)
     (K q_out.1.v h_1)) ((⟨none, 0, 0⟩ : Sl), 0) h
def lateenlaw23_there_a : Ann := (.seq .leaf (.seq .leaf (.seq (.seq .leaf (.block (.loop [(3, .sl), (4, .int .i64)] [0] (.seq (.seq .leaf (.cond .leaf .leaf)) (.seq (.block .leaf) .leaf))))) (.seq .leaf .leaf))))
theorem lateenlaw23_there_eq (l : Sl) (h : Heap) (K : Value → Heap → Prop) : lateenlaw23_there l h K = fnW Try.prog ty lateenlaw23_there_a (bodyOf Try.f19) [.tmp 2] [l.v] h K := by kernel_rfl
theorem lateenlaw23_there_of {l : Sl} {h : Heap} {K : Value → Heap → Prop} (hw : lateenlaw23_there l h K) : ACalls Try.prog F_lateenlaw23_there [l.v] h K :=
  calls_sound ty_ok mixed lateenlaw23_there_a (c := bodyOf Try.f19) Try.func19 (by kernel_rfl) (by kernel_rfl) (by kernel_rfl) (Nat.le_of_ble_eq_true rfl) (by rw [lateenlaw23_there_eq] at hw; exact hw)

/-- lateen/lateenref22.Find -/
def lateenref22_Find (s : Sl) (a : Array Value) (h : Heap) (K : Value → Heap → Prop) : Prop :=
  new 37 a h fun p h_1 =>
  new 40 #[.int .i64 0, .string ⟨#[]⟩, .slice none 0 0, .int .i64 0, .string ⟨#[]⟩, .int .i64 0] h_1 fun p_1 h_2 =>
  loopW (fun _ (i : Int) h_3 next =>
    joinW (fun _ (t : Bool) h_4 =>
      ifB t
       (idx 6 s i fun p_2 =>
    ld (.int .i64) h_4 (p_2.add 0) fun (x : Int) =>
    ld (.int .i64) h_4 (p.add 2) fun (x_1 : Int) =>
    ifB (x == x_1)
     (idx 6 s i fun p_3 =>
     ld (.agg 6) h_4 p_3 fun (x_2 : Array Value) =>
     x_2.size = 6 ∧ st x_2.toList h_4 p_1 fun h_5 =>
     ld (.agg 6) h_5 p_1 fun (x_3 : Array Value) => K (.tuple #[.agg x_3, .bool true]) h_5)
     (ar .i64 (i + 1) fun n =>
    next n h_4))
       (bst [(0, 1), (1, 1), (2, 1), (3, 3)] #[.int .i64 0, .string ⟨#[]⟩, .slice none 0 0, .int .i64 0, .string ⟨#[]⟩, .int .i64 0] [] fun c =>
  c.size = 6 ∧ st c.toList h_4 p_1 fun h_6 =>
  ld (.agg 6) h_6 p_1 fun (x_4 : Array Value) => K (.tuple #[.agg x_4, .bool false]) h_6)) fun k =>
    ifB (decide (i < (s.len : Int)))
     (ld (.int .i64) h_3 (p.add 0) fun (x_5 : Int) =>
      k (x_5 == 5) h_3)
     (k false h_3)) 0 h_2
def lateenref22_Find_a : Ann := (.seq .leaf (.seq (.seq .leaf (.block (.loop [(6, .int .i64)] [0, 3, 4] (.seq (.join [(15, .bool)] [0, 3, 4, 6] .leaf (.cond .leaf .leaf)) (.seq (.block (.seq .leaf (.cond (.seq .leaf .leaf) .leaf))) .leaf))))) (.seq .leaf .leaf)))
theorem lateenref22_Find_eq (s : Sl) (a : Array Value) (h : Heap) (K : Value → Heap → Prop) : lateenref22_Find s a h K = fnW Try.prog ty lateenref22_Find_a (bodyOf Try.f20) [.cell 4 40, .tmp 5] [s.v, .agg a] h K := by kernel_rfl
theorem lateenref22_Find_of {s : Sl} {a : Array Value} {h : Heap} {K : Value → Heap → Prop} (hw : lateenref22_Find s a h K) : ACalls Try.prog F_lateenref22_Find [s.v, .agg a] h K :=
  calls_sound ty_ok mixed lateenref22_Find_a (c := bodyOf Try.f20) Try.func20 (by kernel_rfl) (by kernel_rfl) (by kernel_rfl) (Nat.le_of_ble_eq_true rfl) (by rw [lateenref22_Find_eq] at hw; exact hw)

/-- lateen/lateenlaw23.meant -/
def lateenlaw23_meant (p : Array Value) (id : Int) (atv : Int) (a : Array Value) (way : Int) (h : Heap) (K : Value → Heap → Prop) : Prop :=
  new 31 p h fun p_1 h_1 =>
  new 37 a h_1 fun p_2 h_2 =>
  new 37 #[.int .i64 0, .string ⟨#[]⟩, .int .i64 0] h_2 fun p_3 h_3 =>
  loopW (fun _ (i : Int) h_4 next =>
    ld .sl h_4 (p_1.add 2) fun (x : Sl) =>
    ifB (decide (i < (x.len : Int)))
     (joinW (fun _ (t : Bool) h_5 =>
      ifB t
       (ld .sl h_5 (p_1.add 2) fun (x_1 : Sl) =>
       idx 3 x_1 i fun p_4 =>
       ld .sl h_5 (p_4.add 2) fun (x_2 : Sl) =>
       idx 3 x_2 way fun p_5 =>
       ld (.agg 3) h_5 p_5 fun (x_3 : Array Value) =>
       x_3.size = 3 ∧ st x_3.toList h_5 p_3 fun h_6 =>
       ld (.agg 3) h_6 p_3 fun (x_4 : Array Value) => K (.agg x_4) h_6)
       (ar .i64 (i + 1) fun n =>
    next n h_5)) fun k =>
    ld .sl h_4 (p_1.add 2) fun (x_5 : Sl) =>
    idx 3 x_5 i fun p_6 =>
    ld (.int .i64) h_4 (p_6.add 0) fun (x_6 : Int) =>
    ifB (x_6 == id)
     (ld .sl h_4 (p_1.add 2) fun (x_7 : Sl) =>
      idx 3 x_7 i fun p_7 =>
        ld (.int .i64) h_4 (p_7.add 1) fun (x_8 : Int) =>
          k (x_8 == atv) h_4)
     (k false h_4))
     (ld (.agg 3) h_4 p_2 fun (x_9 : Array Value) =>
  x_9.size = 3 ∧ st x_9.toList h_4 p_3 fun h_7 =>
  ld (.agg 3) h_7 p_3 fun (x_10 : Array Value) => K (.agg x_10) h_7)) 0 h_3
def lateenlaw23_meant_a : Ann := (.seq .leaf (.seq (.seq .leaf (.block (.loop [(11, .int .i64)] [1, 2, 4, 5, 8, 10] (.seq (.seq .leaf (.cond .leaf .leaf)) (.seq (.block (.join [(36, .bool)] [1, 2, 4, 5, 8, 10, 11] .leaf (.cond (.seq .leaf .leaf) .leaf))) .leaf))))) (.seq .leaf .leaf)))
theorem lateenlaw23_meant_eq (p : Array Value) (id : Int) (atv : Int) (a : Array Value) (way : Int) (h : Heap) (K : Value → Heap → Prop) : lateenlaw23_meant p id atv a way h K = fnW Try.prog ty lateenlaw23_meant_a (bodyOf Try.f21) [.cell 10 37] [.agg p, .int .i64 id, .int .i64 atv, .agg a, .int .i64 way] h K := by kernel_rfl
theorem lateenlaw23_meant_of {p : Array Value} {id : Int} {atv : Int} {a : Array Value} {way : Int} {h : Heap} {K : Value → Heap → Prop} (hw : lateenlaw23_meant p id atv a way h K) : ACalls Try.prog F_lateenlaw23_meant [.agg p, .int .i64 id, .int .i64 atv, .agg a, .int .i64 way] h K :=
  calls_sound ty_ok mixed lateenlaw23_meant_a (c := bodyOf Try.f21) Try.func21 (by kernel_rfl) (by kernel_rfl) (by kernel_rfl) (Nat.le_of_ble_eq_true rfl) (by rw [lateenlaw23_meant_eq] at hw; exact hw)

/-- lateen/lateenref22.Really -/
def lateenref22_Really (s : Sl) (a : Array Value) (h : Heap) (K : Value → Heap → Prop) : Prop :=
  new 37 a h fun p h_1 =>
  new 37 #[.int .i64 0, .string ⟨#[]⟩, .int .i64 0] h_1 fun p_1 h_2 =>
  ld (.agg 3) h_2 p fun (x : Array Value) =>
  ACalls Try.prog F_lateenref22_Find [s.v, .agg x] h_2 fun v h_3 => as2 (.agg 6) .bool v fun r r_1 =>
  new 40 #[.int .i64 0, .string ⟨#[]⟩, .slice none 0 0, .int .i64 0, .string ⟨#[]⟩, .int .i64 0] h_3 fun p_2 h_4 =>
  r.size = 6 ∧ st r.toList h_4 p_2 fun h_5 =>
  joinW (fun _ (t : Bool) h_6 =>
    ifB t
     (ld (.agg 3) h_6 (p_2.add 3) fun (x_1 : Array Value) =>
     x_1.size = 3 ∧ st x_1.toList h_6 p_1 fun h_7 =>
     ld (.agg 3) h_7 p_1 fun (x_2 : Array Value) => K (.agg x_2) h_7)
     (ld (.agg 3) h_6 p fun (x_3 : Array Value) =>
  x_3.size = 3 ∧ st x_3.toList h_6 p_1 fun h_8 =>
  ld (.agg 3) h_8 p_1 fun (x_4 : Array Value) => K (.agg x_4) h_8)) fun k =>
  ifB r_1
   (ld (.int .i64) h_5 ((p_2.add 3).add 0) fun (x_5 : Int) =>
     k (x_5 != 0) h_5)
   (k false h_5)
def lateenref22_Really_a : Ann := (.seq .leaf (.seq .leaf (.seq (.join [(19, .bool)] [3, 4, 5] .leaf (.cond (.seq .leaf .leaf) .leaf)) (.seq .leaf .leaf))))
theorem lateenref22_Really_eq (s : Sl) (a : Array Value) (h : Heap) (K : Value → Heap → Prop) : lateenref22_Really s a h K = fnW Try.prog ty lateenref22_Really_a (bodyOf Try.f22) [.cell 4 37] [s.v, .agg a] h K := by kernel_rfl
theorem lateenref22_Really_of {s : Sl} {a : Array Value} {h : Heap} {K : Value → Heap → Prop} (hw : lateenref22_Really s a h K) : ACalls Try.prog F_lateenref22_Really [s.v, .agg a] h K :=
  calls_sound ty_ok mixed lateenref22_Really_a (c := bodyOf Try.f22) Try.func22 (by kernel_rfl) (by kernel_rfl) (by kernel_rfl) (Nat.le_of_ble_eq_true rfl) (by rw [lateenref22_Really_eq] at hw; exact hw)

/-- lateen/lateenref22.Virtual -/
def lateenref22_Virtual (s : Sl) (a : Array Value) (h : Heap) (K : Value → Heap → Prop) : Prop :=
  new 37 a h fun p h_1 =>
  ld (.agg 3) h_1 p fun (x : Array Value) =>
  ACalls Try.prog F_lateenref22_Find [s.v, .agg x] h_1 fun v h_2 => as2 (.agg 6) .bool v fun r r_1 =>
  new 40 #[.int .i64 0, .string ⟨#[]⟩, .slice none 0 0, .int .i64 0, .string ⟨#[]⟩, .int .i64 0] h_2 fun p_1 h_3 =>
  r.size = 6 ∧ st r.toList h_3 p_1 fun h_4 =>
  joinW (fun _ (t : Bool) h_5 =>
    K (.bool t) h_5) fun k =>
  ifB r_1
   (ld (.int .i64) h_4 ((p_1.add 3).add 0) fun (x_1 : Int) =>
     k (x_1 == 0) h_4)
   (k false h_4)
def lateenref22_Virtual_a : Ann := (.seq .leaf (.seq .leaf (.join [(4, .bool)] [] .leaf .leaf)))
theorem lateenref22_Virtual_eq (s : Sl) (a : Array Value) (h : Heap) (K : Value → Heap → Prop) : lateenref22_Virtual s a h K = fnW Try.prog ty lateenref22_Virtual_a (bodyOf Try.f23) [.tmp 4] [s.v, .agg a] h K := by kernel_rfl
theorem lateenref22_Virtual_of {s : Sl} {a : Array Value} {h : Heap} {K : Value → Heap → Prop} (hw : lateenref22_Virtual s a h K) : ACalls Try.prog F_lateenref22_Virtual [s.v, .agg a] h K :=
  calls_sound ty_ok mixed lateenref22_Virtual_a (c := bodyOf Try.f23) Try.func23 (by kernel_rfl) (by kernel_rfl) (by kernel_rfl) (Nat.le_of_ble_eq_true rfl) (by rw [lateenref22_Virtual_eq] at hw; exact hw)

/-- lateen/lateenref22.Same -/
def lateenref22_Same (s : Sl) (t : Sl) (h : Heap) (K : Value → Heap → Prop) : Prop :=
  ifB ((s.len : Int) != (t.len : Int))
   (K (.bool false) h)
   (loopW (fun _ (i : Int) h_1 next =>
    ifB (decide (i < (s.len : Int)))
     (joinW (fun _ (t_1 : Bool) h_2 =>
      ifB t_1
       (K (.bool false) h_2)
       (ar .i64 (i + 1) fun n =>
    next n h_2)) fun k =>
    idx 6 s i fun p =>
    ld (.int .i64) h_1 (p.add 0) fun (x : Int) =>
    idx 6 t i fun p_1 =>
    ld (.int .i64) h_1 (p_1.add 0) fun (x_1 : Int) =>
    ifB (x != x_1)
     (k true h_1)
     (idx 6 s i fun p_2 =>
       ld .str h_1 (p_2.add 1) fun (x_2 : ByteArray) =>
         idx 6 t i fun p_3 =>
            ld .str h_1 (p_3.add 1) fun (x_3 : ByteArray) =>
              ifB (!(x_2.toList == x_3.toList))
                (k true h_1)
                (idx 6 s i fun p_4 =>
                  ld (.agg 3) h_1 (p_4.add 3) fun (x_4 : Array Value) =>
                    idx 6 t i fun p_5 =>
                       ld (.agg 3) h_1 (p_5.add 3) fun (x_5 : Array Value) =>
                         eqA [.int .i64, .str, .int .i64] x_4 x_5 fun b =>
                          ifB (!b)
                           (k true h_1)
                           (idx 6 s i fun p_6 =>
                             ld .sl h_1 (p_6.add 2) fun (x_6 : Sl) =>
                               idx 6 t i fun p_7 =>
                                  ld .sl h_1 (p_7.add 2) fun (x_7 : Sl) =>
                                    ACalls Try.prog F_lateenref22_SameArgs [x_6.v, x_7.v] h_1 fun v h_3 => as1 .bool v fun r =>
                                     hExt h_1 h_3 ∧ k (!r) h_3))))
     (K (.bool true) h_1)) 0 h)
def lateenref22_Same_a : Ann := (.seq .leaf (.seq (.seq .leaf (.cond (.seq .leaf .leaf) .leaf)) (.seq (.seq .leaf (.block (.loop [(5, .int .i64)] [0, 1] (.seq (.seq .leaf (.cond .leaf .leaf)) (.seq (.block (.join [(67, .bool)] [0, 1, 5] .based (.cond (.seq .leaf .leaf) .leaf))) .leaf))))) (.seq .leaf .leaf))))
theorem lateenref22_Same_eq (s : Sl) (t : Sl) (h : Heap) (K : Value → Heap → Prop) : lateenref22_Same s t h K = fnW Try.prog ty lateenref22_Same_a (bodyOf Try.f24) [.tmp 4] [s.v, t.v] h K := by kernel_rfl
theorem lateenref22_Same_of {s : Sl} {t : Sl} {h : Heap} {K : Value → Heap → Prop} (hw : lateenref22_Same s t h K) : ACalls Try.prog F_lateenref22_Same [s.v, t.v] h K :=
  calls_sound ty_ok mixed lateenref22_Same_a (c := bodyOf Try.f24) Try.func24 (by kernel_rfl) (by kernel_rfl) (by kernel_rfl) (Nat.le_of_ble_eq_true rfl) (by rw [lateenref22_Same_eq] at hw; exact hw)

/-- lateen/lateenlaw22.Back -/
def lateenlaw22_Back (s : Sl) (h : Heap) (K : Value → Heap → Prop) : Prop :=
  loopW (fun _ (q_out : Sl × Int) h_1 next =>
    ifB (decide (q_out.2 < (s.len : Int)))
     (idx 6 s q_out.2 fun p =>
    ld (.int .i64) h_1 (p.add 0) fun (x : Int) =>
    idx 6 s q_out.2 fun p_1 =>
    ld .str h_1 (p_1.add 1) fun (x_1 : ByteArray) =>
    idx 6 s q_out.2 fun p_2 =>
    ld .sl h_1 (p_2.add 2) fun (x_2 : Sl) =>
    idx 6 s q_out.2 fun p_3 =>
    ld (.agg 3) h_1 (p_3.add 3) fun (x_3 : Array Value) =>
    bst [(0, 1), (1, 1), (2, 1), (3, 3)] #[.int .i64 0, .string ⟨#[]⟩, .slice none 0 0, .int .i64 0, .string ⟨#[]⟩, .int .i64 0] [(0, .int .i64 x), (1, .string x_1), (2, x_2.v), (3, .agg x_3)] fun c =>
    bld si_Llateenref22_Obj 1 [(0, .agg c)] h_1 fun s_1 h_2 =>
    app si_Llateenref22_Obj q_out.1 s_1 h_2 fun s_2 h_3 =>
    ar .i64 (q_out.2 + 1) fun n =>
    next (s_2, n) h_3)
     (K q_out.1.v h_1)) ((⟨none, 0, 0⟩ : Sl), 0) h
def lateenlaw22_Back_a : Ann := (.seq .leaf (.seq .leaf (.seq (.seq .leaf (.block (.loop [(3, .sl), (4, .int .i64)] [0] (.seq (.seq .leaf (.cond .leaf .leaf)) (.seq (.block .leaf) .leaf))))) (.seq .leaf .leaf))))
theorem lateenlaw22_Back_eq (s : Sl) (h : Heap) (K : Value → Heap → Prop) : lateenlaw22_Back s h K = fnW Try.prog ty lateenlaw22_Back_a (bodyOf Try.f25) [.tmp 2] [s.v] h K := by kernel_rfl
theorem lateenlaw22_Back_of {s : Sl} {h : Heap} {K : Value → Heap → Prop} (hw : lateenlaw22_Back s h K) : ACalls Try.prog F_lateenlaw22_Back [s.v] h K :=
  calls_sound ty_ok mixed lateenlaw22_Back_a (c := bodyOf Try.f25) Try.func25 (by kernel_rfl) (by kernel_rfl) (by kernel_rfl) (Nat.le_of_ble_eq_true rfl) (by rw [lateenlaw22_Back_eq] at hw; exact hw)

/-- lateen/lateenref22.SameArgs -/
def lateenref22_SameArgs (a : Sl) (b : Sl) (h : Heap) (K : Value → Heap → Prop) : Prop :=
  ifB ((a.len : Int) != (b.len : Int))
   (K (.bool false) h)
   (loopW (fun _ (i : Int) h_1 next =>
    ifB (decide (i < (a.len : Int)))
     (idx 3 a i fun p =>
    ld (.agg 3) h_1 p fun (x : Array Value) =>
    idx 3 b i fun p_1 =>
    ld (.agg 3) h_1 p_1 fun (x_1 : Array Value) =>
    eqA [.int .i64, .str, .int .i64] x x_1 fun b_1 =>
    ifB (!b_1)
     (K (.bool false) h_1)
     (ar .i64 (i + 1) fun n =>
    next n h_1))
     (K (.bool true) h_1)) 0 h)
def lateenref22_SameArgs_a : Ann := (.seq .leaf (.seq (.seq .leaf (.cond (.seq .leaf .leaf) .leaf)) (.seq (.seq .leaf (.block (.loop [(5, .int .i64)] [0, 1] (.seq (.seq .leaf (.cond .leaf .leaf)) (.seq (.block (.seq .leaf (.cond (.seq .leaf .leaf) .leaf))) .leaf))))) (.seq .leaf .leaf))))
theorem lateenref22_SameArgs_eq (a : Sl) (b : Sl) (h : Heap) (K : Value → Heap → Prop) : lateenref22_SameArgs a b h K = fnW Try.prog ty lateenref22_SameArgs_a (bodyOf Try.f26) [.tmp 4] [a.v, b.v] h K := by kernel_rfl
theorem lateenref22_SameArgs_of {a : Sl} {b : Sl} {h : Heap} {K : Value → Heap → Prop} (hw : lateenref22_SameArgs a b h K) : ACalls Try.prog F_lateenref22_SameArgs [a.v, b.v] h K :=
  calls_sound ty_ok mixed lateenref22_SameArgs_a (c := bodyOf Try.f26) Try.func26 (by kernel_rfl) (by kernel_rfl) (by kernel_rfl) (Nat.le_of_ble_eq_true rfl) (by rw [lateenref22_SameArgs_eq] at hw; exact hw)

/-- lateen/lateenref23.SamePlans -/
def lateenref23_SamePlans (a : Array Value) (b : Array Value) (h : Heap) (K : Value → Heap → Prop) : Prop :=
  new 55 a h fun p h_1 =>
  new 55 b h_1 fun p_1 h_2 =>
  joinW (fun _ (t : Bool) h_3 =>
    ifB t
     (K (.bool false) h_3)
     (loopW (fun _ (i : Int) h_4 next =>
    ld .sl h_4 (p.add 0) fun (x : Sl) =>
    ifB (decide (i < (x.len : Int)))
     (ld .sl h_4 (p.add 0) fun (x_1 : Sl) =>
    idx 1 x_1 i fun p_2 =>
    ld .sl h_4 p_2 fun (x_2 : Sl) =>
    ld .sl h_4 (p_1.add 0) fun (x_3 : Sl) =>
    idx 1 x_3 i fun p_3 =>
    ld .sl h_4 p_3 fun (x_4 : Sl) =>
    ifB ((x_2.len : Int) != (x_4.len : Int))
     (K (.bool false) h_4)
     (loopW (fun _ (k_1 : Int) h_5 next_1 =>
      ld .sl h_5 (p.add 0) fun (x_5 : Sl) =>
      idx 1 x_5 i fun p_4 =>
      ld .sl h_5 p_4 fun (x_6 : Sl) =>
      ifB (decide (k_1 < (x_6.len : Int)))
       (ld .sl h_5 (p.add 0) fun (x_7 : Sl) =>
      idx 1 x_7 i fun p_5 =>
      ld .sl h_5 p_5 fun (x_8 : Sl) =>
      idx 1 x_8 k_1 fun p_6 =>
      ld (.int .i64) h_5 p_6 fun (x_9 : Int) =>
      ld .sl h_5 (p_1.add 0) fun (x_10 : Sl) =>
      idx 1 x_10 i fun p_7 =>
      ld .sl h_5 p_7 fun (x_11 : Sl) =>
      idx 1 x_11 k_1 fun p_8 =>
      ld (.int .i64) h_5 p_8 fun (x_12 : Int) =>
      ifB (x_9 != x_12)
       (K (.bool false) h_5)
       (ar .i64 (k_1 + 1) fun n =>
      next_1 n h_5))
       (ar .i64 (i + 1) fun n_1 =>
    next n_1 h_5)) 0 h_4))
     (loopW (fun _ (i_1 : Int) h_6 next_2 =>
    ld .sl h_6 (p.add 2) fun (x_13 : Sl) =>
    ifB (decide (i_1 < (x_13.len : Int)))
     (joinW (fun _ (t_1 : Bool) h_7 =>
      ifB t_1
       (K (.bool false) h_7)
       (ar .i64 (i_1 + 1) fun n_2 =>
    next_2 n_2 h_7)) fun k_2 =>
    ld .sl h_6 (p.add 2) fun (x_14 : Sl) =>
    idx 3 x_14 i_1 fun p_9 =>
    ld (.int .i64) h_6 (p_9.add 0) fun (x_15 : Int) =>
    ld .sl h_6 (p_1.add 2) fun (x_16 : Sl) =>
    idx 3 x_16 i_1 fun p_10 =>
    ld (.int .i64) h_6 (p_10.add 0) fun (x_17 : Int) =>
    ifB (x_15 != x_17)
     (k_2 true h_6)
     (ld .sl h_6 (p.add 2) fun (x_18 : Sl) =>
      idx 3 x_18 i_1 fun p_11 =>
        ld (.int .i64) h_6 (p_11.add 1) fun (x_19 : Int) =>
          ld .sl h_6 (p_1.add 2) fun (x_20 : Sl) =>
            idx 3 x_20 i_1 fun p_12 =>
              ld (.int .i64) h_6 (p_12.add 1) fun (x_21 : Int) =>
                ifB (x_19 != x_21)
                  (k_2 true h_6)
                  (ld .sl h_6 (p.add 2) fun (x_22 : Sl) =>
                   idx 3 x_22 i_1 fun p_13 =>
                     ld .sl h_6 (p_13.add 2) fun (x_23 : Sl) =>
                       ld .sl h_6 (p_1.add 2) fun (x_24 : Sl) =>
                         idx 3 x_24 i_1 fun p_14 =>
                           ld .sl h_6 (p_14.add 2) fun (x_25 : Sl) =>
                             ACalls Try.prog F_lateenref22_SameArgs [x_23.v, x_25.v] h_6 fun v h_8 => as1 .bool v fun r =>
                              hExt h_6 h_8 ∧ k_2 (!r) h_8)))
     (K (.bool true) h_6)) 0 h_4)) 0 h_3)) fun k =>
  ld .sl h_2 (p.add 0) fun (x_26 : Sl) =>
  ld .sl h_2 (p_1.add 0) fun (x_27 : Sl) =>
  ifB ((x_26.len : Int) != (x_27.len : Int))
   (k true h_2)
   (ld .sl h_2 (p.add 1) fun (x_28 : Sl) =>
    ld .sl h_2 (p_1.add 1) fun (x_29 : Sl) =>
      ACalls Try.prog F_lateenref22_Same [x_28.v, x_29.v] h_2 fun v_1 h_9 => as1 .bool v_1 fun r_1 =>
       ifB (!r_1)
         (k true h_9)
         (ld .sl h_9 (p.add 2) fun (x_30 : Sl) =>
          ld .sl h_9 (p_1.add 2) fun (x_31 : Sl) =>
             ifB ((x_30.len : Int) != (x_31.len : Int))
                (k true h_9)
                (ld .sl h_9 (p.add 3) fun (x_32 : Sl) =>
                 ld .sl h_9 (p_1.add 3) fun (x_33 : Sl) =>
                   ACalls Try.prog F_lateenref22_SameArgs [x_32.v, x_33.v] h_9 fun v_2 h_10 => as1 .bool v_2 fun r_2 =>
                    k (!r_2) h_10)))
def lateenref23_SamePlans_a : Ann := (.seq .leaf (.seq (.join [(39, .bool)] [2, 3] .leaf (.cond (.seq .leaf .leaf) .leaf)) (.seq (.seq .leaf (.block (.loop [(5, .int .i64)] [2, 3] (.seq (.seq .leaf (.cond .leaf .leaf)) (.seq (.block (.seq (.seq .leaf (.cond (.seq .leaf .leaf) .leaf)) (.seq .leaf (.block (.loop [(6, .int .i64)] [2, 3, 5] (.seq (.seq .leaf (.cond .leaf .leaf)) (.seq (.block (.seq .leaf (.cond (.seq .leaf .leaf) .leaf))) .leaf))))))) .leaf))))) (.seq (.seq .leaf (.block (.loop [(7, .int .i64)] [2, 3] (.seq (.seq .leaf (.cond .leaf .leaf)) (.seq (.block (.join [(137, .bool)] [2, 3, 7] .based (.cond (.seq .leaf .leaf) .leaf))) .leaf))))) (.seq .leaf .leaf)))))
theorem lateenref23_SamePlans_eq (a : Array Value) (b : Array Value) (h : Heap) (K : Value → Heap → Prop) : lateenref23_SamePlans a b h K = fnW Try.prog ty lateenref23_SamePlans_a (bodyOf Try.f27) [.tmp 4] [.agg a, .agg b] h K := by kernel_rfl
theorem lateenref23_SamePlans_of {a : Array Value} {b : Array Value} {h : Heap} {K : Value → Heap → Prop} (hw : lateenref23_SamePlans a b h K) : ACalls Try.prog F_lateenref23_SamePlans [.agg a, .agg b] h K :=
  calls_sound ty_ok mixed lateenref23_SamePlans_a (c := bodyOf Try.f27) Try.func27 (by kernel_rfl) (by kernel_rfl) (by kernel_rfl) (Nat.le_of_ble_eq_true rfl) (by rw [lateenref23_SamePlans_eq] at hw; exact hw)

/-- lateen/lateenlaw22.awake -/
def lateenlaw22_awake  (h : Heap) (K : Value → Heap → Prop) : Prop :=
  ACalls Try.prog F_lateenlaw22_to [.int .i64 2] h fun v h_1 => as1 (.agg 3) v fun r =>
  bld si_Lapi_Arg 1 [(0, .agg r)] h_1 fun s h_2 =>
  bst [(0, 1), (1, 1), (2, 1), (3, 3)] #[.int .i64 0, .string ⟨#[]⟩, .slice none 0 0, .int .i64 0, .string ⟨#[]⟩, .int .i64 0] [(0, .int .i64 1), (2, s.v)] fun c =>
  ACalls Try.prog F_lateenlaw22_to [.int .i64 1] h_2 fun v_1 h_3 => as1 (.agg 3) v_1 fun r_1 =>
  bld si_Lapi_Arg 1 [(0, .agg r_1)] h_3 fun s_1 h_4 =>
  bst [(0, 1), (1, 1), (2, 1), (3, 3)] #[.int .i64 0, .string ⟨#[]⟩, .slice none 0 0, .int .i64 0, .string ⟨#[]⟩, .int .i64 0] [(0, .int .i64 2), (2, s_1.v)] fun c_1 =>
  bld si_Lvstate_Obj 2 [(0, .agg c), (1, .agg c_1)] h_4 fun s_2 h_5 =>
  ACalls Try.prog F_lateenlaw22_to [.int .i64 1] h_5 fun v_2 h_6 => as1 (.agg 3) v_2 fun r_2 =>
  bld si_Lapi_Arg 1 [(0, .agg r_2)] h_6 fun s_3 h_7 =>
  ACalls Try.prog F_vstate_Reach [s_2.v, s_3.v] h_7 fun v_3 h_8 => as1 .sl v_3 fun r_3 =>
  bst [(0, 1), (1, 1), (2, 1)] #[.int .i64 0, .string ⟨#[]⟩, .int .i64 0] [(0, .int .i64 1), (1, .string ⟨#[120]⟩)] fun c_2 =>
  bst [(0, 1), (1, 1), (2, 1), (3, 3)] #[.int .i64 0, .string ⟨#[]⟩, .slice none 0 0, .int .i64 0, .string ⟨#[]⟩, .int .i64 0] [(0, .int .i64 2), (3, .agg c_2)] fun c_3 =>
  ACalls Try.prog F_vstate_Add [s_2.v, .agg c_3] h_8 fun v_4 h_9 => as1 .sl v_4 fun r_4 =>
  ACalls Try.prog F_lateenlaw22_to [.int .i64 1] h_9 fun v_5 h_10 => as1 (.agg 3) v_5 fun r_5 =>
  bld si_Lapi_Arg 1 [(0, .agg r_5)] h_10 fun s_4 h_11 =>
  ACalls Try.prog F_vstate_Reach [r_4.v, s_4.v] h_11 fun v_6 h_12 => as1 .sl v_6 fun r_6 =>
  joinW (fun _ (t : Bool) h_13 =>
    K (.bool t) h_13) fun k =>
  ACalls Try.prog F_vstate_Right [s_2.v] h_12 fun v_7 h_14 => as1 .bool v_7 fun r_7 =>
  ifB r_7
   (ifB ((r_3.len : Int) == 2)
      (idx 1 r_3 0 fun p =>
       ld (.int .i64) h_14 p fun (x : Int) =>
        ifB (x == 1)
          (idx 1 r_3 1 fun p_1 =>
           ld (.int .i64) h_14 p_1 fun (x_1 : Int) =>
            ifB (x_1 == 2)
              (ifB ((r_6.len : Int) == 1)
                 (ACalls Try.prog F_lateenlaw22_to [.int .i64 2] h_14 fun v_8 h_15 => as1 (.agg 3) v_8 fun r_8 =>
                  ACalls Try.prog F_vstate_Really [r_4.v, .agg r_8] h_15 fun v_9 h_16 => as1 (.agg 3) v_9 fun r_9 =>
                   fldA .str r_9 1 fun x_2 =>
                    ifB (x_2.toList == (⟨#[120]⟩ : ByteArray).toList)
                      (ACalls Try.prog F_lateenlaw22_to [.int .i64 2] h_16 fun v_10 h_17 => as1 (.agg 3) v_10 fun r_10 =>
                       ACalls Try.prog F_vstate_Virtual [s_2.v, .agg r_10] h_17 fun v_11 h_18 => as1 .bool v_11 fun r_11 =>
                        ifB r_11
                         (ACalls Try.prog F_lateenlaw22_to [.int .i64 2] h_18 fun v_12 h_19 => as1 (.agg 3) v_12 fun r_12 =>
                          ACalls Try.prog F_vstate_Virtual [r_4.v, .agg r_12] h_19 fun v_13 h_20 => as1 .bool v_13 fun r_13 =>
                           ifB (!r_13)
                             (slc 6 s_2 none (some 1) fun s_5 =>
                              ACalls Try.prog F_vstate_Right [s_5.v] h_20 fun v_14 h_21 => as1 .bool v_14 fun r_14 =>
                               k (!r_14) h_21)
                             (k false h_20))
                         (k false h_18))
                      (k false h_16))
                 (k false h_14))
              (k false h_14))
          (k false h_14))
      (k false h_14))
   (k false h_14)
def lateenlaw22_awake_a : Ann := (.seq .leaf (.seq .leaf (.seq .leaf (.seq .leaf (.seq .leaf (.join [(0, .bool)] [] .leaf .leaf))))))
theorem lateenlaw22_awake_eq  (h : Heap) (K : Value → Heap → Prop) : lateenlaw22_awake  h K = fnW Try.prog ty lateenlaw22_awake_a (bodyOf Try.f28) [.tmp 0] [] h K := by kernel_rfl
theorem lateenlaw22_awake_of  {h : Heap} {K : Value → Heap → Prop} (hw : lateenlaw22_awake  h K) : ACalls Try.prog F_lateenlaw22_awake [] h K :=
  calls_sound ty_ok mixed lateenlaw22_awake_a (c := bodyOf Try.f28) Try.func28 (by kernel_rfl) (by kernel_rfl) (by kernel_rfl) (Nat.le_of_ble_eq_true rfl) (by rw [lateenlaw22_awake_eq] at hw; exact hw)

/-- lateen/lateenref22.Few -/
def lateenref22_Few (s : Sl) (h : Heap) (K : Value → Heap → Prop) : Prop :=
  ifB (decide ((s.len : Int) > 40))
   (K (.bool false) h)
   (loopW (fun _ (i : Int) h_1 next =>
    ifB (decide (i < (s.len : Int)))
     (idx 6 s i fun p =>
    ld .sl h_1 (p.add 2) fun (x : Sl) =>
    ifB (decide ((x.len : Int) > 20))
     (K (.bool false) h_1)
     (ar .i64 (i + 1) fun n =>
    next n h_1))
     (K (.bool true) h_1)) 0 h)
def lateenref22_Few_a : Ann := (.seq .leaf (.seq (.seq .leaf (.cond (.seq .leaf .leaf) .leaf)) (.seq (.seq .leaf (.block (.loop [(3, .int .i64)] [0] (.seq (.seq .leaf (.cond .leaf .leaf)) (.seq (.block (.seq .leaf (.cond (.seq .leaf .leaf) .leaf))) .leaf))))) (.seq .leaf .leaf))))
theorem lateenref22_Few_eq (s : Sl) (h : Heap) (K : Value → Heap → Prop) : lateenref22_Few s h K = fnW Try.prog ty lateenref22_Few_a (bodyOf Try.f29) [.tmp 2] [s.v] h K := by kernel_rfl
theorem lateenref22_Few_of {s : Sl} {h : Heap} {K : Value → Heap → Prop} (hw : lateenref22_Few s h K) : ACalls Try.prog F_lateenref22_Few [s.v] h K :=
  calls_sound ty_ok mixed lateenref22_Few_a (c := bodyOf Try.f29) Try.func29 (by kernel_rfl) (by kernel_rfl) (by kernel_rfl) (Nat.le_of_ble_eq_true rfl) (by rw [lateenref22_Few_eq] at hw; exact hw)

/-- lateen/vstate.Right -/
def vstate_Right (s : Sl) (h : Heap) (K : Value → Heap → Prop) : Prop :=
  loopW (fun _ (q_last : Int × Int) h_1 next =>
    ifB (decide (q_last.2 < (s.len : Int)))
     (idx 6 s q_last.2 fun p =>
    ld (.agg 6) h_1 p fun (x : Array Value) =>
    new 39 #[.int .i64 0, .string ⟨#[]⟩, .slice none 0 0, .int .i64 0, .string ⟨#[]⟩, .int .i64 0] h_1 fun p_1 h_2 =>
    x.size = 6 ∧ st x.toList h_2 p_1 fun h_3 =>
    joinW (fun _ (t_1 : Bool) h_4 =>
      ifB t_1
       (K (.bool false) h_4)
       (ld (.int .i64) h_4 (p_1.add 0) fun (x_1 : Int) =>
    ar .i64 (q_last.2 + 1) fun n =>
    next (x_1, n) h_4)) fun k =>
    ld (.int .i64) h_3 (p_1.add 0) fun (x_2 : Int) =>
    ifB (decide (x_2 ≤ q_last.1))
     (k true h_3)
     (ld (.int .i64) h_3 ((p_1.add 3).add 0) fun (x_3 : Int) =>
       k (x_3 == 5) h_3))
     (loopW (fun _ (t_2 : Int) h_5 next_1 =>
    ifB (decide (t_2 < (s.len : Int)))
     (idx 6 s t_2 fun p_2 =>
    ld (.agg 6) h_5 p_2 fun (x_4 : Array Value) =>
    new 39 #[.int .i64 0, .string ⟨#[]⟩, .slice none 0 0, .int .i64 0, .string ⟨#[]⟩, .int .i64 0] h_5 fun p_3 h_6 =>
    x_4.size = 6 ∧ st x_4.toList h_6 p_3 fun h_7 =>
    ld .sl h_7 (p_3.add 2) fun (x_5 : Sl) =>
    loopW (fun _ (t_3 : Int) h_8 next_2 =>
      ifB (decide (t_3 < (x_5.len : Int)))
       (idx 3 x_5 t_3 fun p_4 =>
      ld (.agg 3) h_8 p_4 fun (x_6 : Array Value) =>
      new 37 #[.int .i64 0, .string ⟨#[]⟩, .int .i64 0] h_8 fun p_5 h_9 =>
      x_6.size = 3 ∧ st x_6.toList h_9 p_5 fun h_10 =>
      ld (.agg 3) h_10 p_5 fun (x_7 : Array Value) =>
      ACalls Try.prog F_vstate_find [s.v, .agg x_7] h_10 fun v h_11 => as2 (.agg 6) .bool v fun r r_1 =>
      new 39 #[.int .i64 0, .string ⟨#[]⟩, .slice none 0 0, .int .i64 0, .string ⟨#[]⟩, .int .i64 0] h_11 fun p_6 h_12 =>
      r.size = 6 ∧ st r.toList h_12 p_6 fun h_13 =>
      joinW (fun _ (t_4 : Bool) h_14 =>
        ifB t_4
         (K (.bool false) h_14)
         (ar .i64 (t_3 + 1) fun n_1 =>
      next_2 n_1 h_14)) fun k_1 =>
      ld (.int .i64) h_13 (p_5.add 0) fun (x_8 : Int) =>
      ifB (x_8 == 5)
       (k_1 (!r_1) h_13)
       (k_1 false h_13))
       (ar .i64 (t_2 + 1) fun n_2 =>
    next_1 n_2 h_8)) 0 h_7)
     (K (.bool true) h_5)) 0 h_1)) ((-1), 0) h
def vstate_Right_a : Ann := (.seq .leaf (.seq .leaf (.seq (.seq .leaf (.block (.loop [(3, .int .i64), (14, .int .i64)] [0, 12, 13] (.seq .leaf (.seq (.cond .leaf .leaf) (.seq (.block (.seq .leaf (.seq (.join [(27, .bool)] [0, 5, 12, 13, 14] .leaf (.cond (.seq .leaf .leaf) .leaf)) .leaf))) .leaf)))))) (.seq (.seq .leaf (.block (.loop [(33, .int .i64)] [0, 31, 32] (.seq .leaf (.seq (.cond .leaf .leaf) (.seq (.block (.seq .leaf (.seq .leaf (.block (.loop [(40, .int .i64)] [0, 31, 32, 33, 38, 39] (.seq .leaf (.seq (.cond .leaf .leaf) (.seq (.block (.seq .leaf (.seq .leaf (.join [(56, .bool)] [0, 31, 32, 33, 38, 39, 40] .leaf (.cond (.seq .leaf .leaf) .leaf))))) .leaf)))))))) .leaf)))))) (.seq .leaf .leaf)))))
theorem vstate_Right_eq (s : Sl) (h : Heap) (K : Value → Heap → Prop) : vstate_Right s h K = fnW Try.prog ty vstate_Right_a (bodyOf Try.f30) [.tmp 2] [s.v] h K := by kernel_rfl
theorem vstate_Right_of {s : Sl} {h : Heap} {K : Value → Heap → Prop} (hw : vstate_Right s h K) : ACalls Try.prog F_vstate_Right [s.v] h K :=
  calls_sound ty_ok mixed vstate_Right_a (c := bodyOf Try.f30) Try.func30 (by kernel_rfl) (by kernel_rfl) (by kernel_rfl) (Nat.le_of_ble_eq_true rfl) (by rw [vstate_Right_eq] at hw; exact hw)

/-- lateen/lateenlaw22.There -/
def lateenlaw22_There (s : Sl) (h : Heap) (K : Value → Heap → Prop) : Prop :=
  loopW (fun _ (q_out : Sl × Int) h_1 next =>
    ifB (decide (q_out.2 < (s.len : Int)))
     (idx 6 s q_out.2 fun p =>
    ld (.agg 6) h_1 p fun (x : Array Value) =>
    ACalls Try.prog F_lateenlaw22_one [.agg x] h_1 fun v h_2 => as1 (.agg 6) v fun r =>
    bld si_Lvstate_Obj 1 [(0, .agg r)] h_2 fun s_1 h_3 =>
    app si_Lvstate_Obj q_out.1 s_1 h_3 fun s_2 h_4 =>
    ar .i64 (q_out.2 + 1) fun n =>
    next (s_2, n) h_4)
     (K q_out.1.v h_1)) ((⟨none, 0, 0⟩ : Sl), 0) h
def lateenlaw22_There_a : Ann := (.seq .leaf (.seq .leaf (.seq (.seq .leaf (.block (.loop [(3, .sl), (4, .int .i64)] [0] (.seq (.seq .leaf (.cond .leaf .leaf)) (.seq (.block .leaf) .leaf))))) (.seq .leaf .leaf))))
theorem lateenlaw22_There_eq (s : Sl) (h : Heap) (K : Value → Heap → Prop) : lateenlaw22_There s h K = fnW Try.prog ty lateenlaw22_There_a (bodyOf Try.f31) [.tmp 2] [s.v] h K := by kernel_rfl
theorem lateenlaw22_There_of {s : Sl} {h : Heap} {K : Value → Heap → Prop} (hw : lateenlaw22_There s h K) : ACalls Try.prog F_lateenlaw22_There [s.v] h K :=
  calls_sound ty_ok mixed lateenlaw22_There_a (c := bodyOf Try.f31) Try.func31 (by kernel_rfl) (by kernel_rfl) (by kernel_rfl) (Nat.le_of_ble_eq_true rfl) (by rw [lateenlaw22_There_eq] at hw; exact hw)

/-- lateen/lateenref22.Right -/
def lateenref22_Right (s : Sl) (h : Heap) (K : Value → Heap → Prop) : Prop :=
  joinW (fun _ (t : Bool) h_1 =>
    ifB t
     (K (.bool false) h_1)
     (loopW (fun _ (i : Int) h_2 next =>
    ifB (decide (i < (s.len : Int)))
     (idx 6 s i fun p =>
    ld (.int .i64) h_2 ((p.add 3).add 0) fun (x : Int) =>
    ifB (x == 5)
     (K (.bool false) h_2)
     (loopW (fun _ (k_1 : Int) h_3 next_1 =>
      idx 6 s i fun p_1 =>
      ld .sl h_3 (p_1.add 2) fun (x_1 : Sl) =>
      ifB (decide (k_1 < (x_1.len : Int)))
       (idx 6 s i fun p_2 =>
      ld .sl h_3 (p_2.add 2) fun (x_2 : Sl) =>
      idx 3 x_2 k_1 fun p_3 =>
      ld (.agg 3) h_3 p_3 fun (x_3 : Array Value) =>
      ACalls Try.prog F_lateenref22_Find [s.v, .agg x_3] h_3 fun v h_4 => as2 (.agg 6) .bool v fun r r_1 =>
      new 40 #[.int .i64 0, .string ⟨#[]⟩, .slice none 0 0, .int .i64 0, .string ⟨#[]⟩, .int .i64 0] h_4 fun p_4 h_5 =>
      r.size = 6 ∧ st r.toList h_5 p_4 fun h_6 =>
      joinW (fun _ (t_1 : Bool) h_7 =>
        ifB t_1
         (K (.bool false) h_7)
         (ar .i64 (k_1 + 1) fun n =>
      next_1 n h_7)) fun k_2 =>
      idx 6 s i fun p_5 =>
      ld .sl h_6 (p_5.add 2) fun (x_4 : Sl) =>
      idx 3 x_4 k_1 fun p_6 =>
      ld (.int .i64) h_6 (p_6.add 0) fun (x_5 : Int) =>
      ifB (x_5 == 5)
       (k_2 (!r_1) h_6)
       (k_2 false h_6))
       (ar .i64 (i + 1) fun n_1 =>
    next n_1 h_3)) 0 h_2))
     (K (.bool true) h_2)) 0 h_1)) fun k =>
  ACalls Try.prog F_lateenref22_Rising [s.v] h fun v_1 h_8 => as1 .bool v_1 fun r_2 =>
  ifB (!r_2)
   (k true h_8)
   (ifB (decide ((s.len : Int) > 0))
       (idx 6 s 0 fun p_7 =>
        ld (.int .i64) h_8 (p_7.add 0) fun (x_6 : Int) =>
          k (decide (x_6 < 0)) h_8)
       (k false h_8))
def lateenref22_Right_a : Ann := (.seq .leaf (.seq (.join [(21, .bool)] [0] .leaf (.cond (.seq .leaf .leaf) .leaf)) (.seq (.seq .leaf (.block (.loop [(3, .int .i64)] [0] (.seq (.seq .leaf (.cond .leaf .leaf)) (.seq (.block (.seq (.seq .leaf (.cond (.seq .leaf .leaf) .leaf)) (.seq .leaf (.block (.loop [(4, .int .i64)] [0, 3] (.seq (.seq .leaf (.cond .leaf .leaf)) (.seq (.block (.seq .leaf (.join [(71, .bool)] [0, 3, 4] .leaf (.cond (.seq .leaf .leaf) .leaf)))) .leaf))))))) .leaf))))) (.seq .leaf .leaf))))
theorem lateenref22_Right_eq (s : Sl) (h : Heap) (K : Value → Heap → Prop) : lateenref22_Right s h K = fnW Try.prog ty lateenref22_Right_a (bodyOf Try.f32) [.tmp 2] [s.v] h K := by kernel_rfl
theorem lateenref22_Right_of {s : Sl} {h : Heap} {K : Value → Heap → Prop} (hw : lateenref22_Right s h K) : ACalls Try.prog F_lateenref22_Right [s.v] h K :=
  calls_sound ty_ok mixed lateenref22_Right_a (c := bodyOf Try.f32) Try.func32 (by kernel_rfl) (by kernel_rfl) (by kernel_rfl) (Nat.le_of_ble_eq_true rfl) (by rw [lateenref22_Right_eq] at hw; exact hw)

/-- lateen/lateenref22.Rising -/
def lateenref22_Rising (s : Sl) (h : Heap) (K : Value → Heap → Prop) : Prop :=
  loopW (fun _ (i : Int) h_1 next =>
    ifB (decide (i < (s.len : Int)))
     (idx 6 s i fun p =>
    ld (.int .i64) h_1 (p.add 0) fun (x : Int) =>
    ar .i64 (i - 1) fun n =>
    idx 6 s n fun p_1 =>
    ld (.int .i64) h_1 (p_1.add 0) fun (x_1 : Int) =>
    ifB (decide (x ≤ x_1))
     (K (.bool false) h_1)
     (ar .i64 (i + 1) fun n_1 =>
    next n_1 h_1))
     (K (.bool true) h_1)) 1 h
def lateenref22_Rising_a : Ann := (.seq .leaf (.seq (.seq .leaf (.block (.loop [(3, .int .i64)] [0] (.seq (.seq .leaf (.cond .leaf .leaf)) (.seq (.block (.seq .leaf (.cond (.seq .leaf .leaf) .leaf))) .leaf))))) (.seq .leaf .leaf)))
theorem lateenref22_Rising_eq (s : Sl) (h : Heap) (K : Value → Heap → Prop) : lateenref22_Rising s h K = fnW Try.prog ty lateenref22_Rising_a (bodyOf Try.f33) [.tmp 2] [s.v] h K := by kernel_rfl
theorem lateenref22_Rising_of {s : Sl} {h : Heap} {K : Value → Heap → Prop} (hw : lateenref22_Rising s h K) : ACalls Try.prog F_lateenref22_Rising [s.v] h K :=
  calls_sound ty_ok mixed lateenref22_Rising_a (c := bodyOf Try.f33) Try.func33 (by kernel_rfl) (by kernel_rfl) (by kernel_rfl) (Nat.le_of_ble_eq_true rfl) (by rw [lateenref22_Rising_eq] at hw; exact hw)

/-- lateen/vstate.Find -/
def vstate_Find (s : Sl) (a : Array Value) (h : Heap) (K : Value → Heap → Prop) : Prop :=
  new 37 a h fun p h_1 =>
  new 39 #[.int .i64 0, .string ⟨#[]⟩, .slice none 0 0, .int .i64 0, .string ⟨#[]⟩, .int .i64 0] h_1 fun p_1 h_2 =>
  ld (.agg 3) h_2 p fun (x : Array Value) =>
  ACalls Try.prog F_vstate_find [s.v, .agg x] h_2 fun v h_3 => as2 (.agg 6) .bool v fun r r_1 =>
  new 39 #[.int .i64 0, .string ⟨#[]⟩, .slice none 0 0, .int .i64 0, .string ⟨#[]⟩, .int .i64 0] h_3 fun p_2 h_4 =>
  r.size = 6 ∧ st r.toList h_4 p_2 fun h_5 =>
  ld (.agg 6) h_5 p_2 fun (x_1 : Array Value) =>
  ACalls Try.prog F_vstate_Obj_copied [.agg x_1] h_5 fun v_1 h_6 => as1 (.agg 6) v_1 fun r_2 =>
  r_2.size = 6 ∧ st r_2.toList h_6 p_1 fun h_7 =>
  ld (.agg 6) h_7 p_1 fun (x_2 : Array Value) => K (.tuple #[.agg x_2, .bool r_1]) h_7
def vstate_Find_a : Ann := (.seq .leaf (.seq .leaf (.seq .leaf .leaf)))
theorem vstate_Find_eq (s : Sl) (a : Array Value) (h : Heap) (K : Value → Heap → Prop) : vstate_Find s a h K = fnW Try.prog ty vstate_Find_a (bodyOf Try.f34) [.cell 4 39, .tmp 5] [s.v, .agg a] h K := by kernel_rfl
theorem vstate_Find_of {s : Sl} {a : Array Value} {h : Heap} {K : Value → Heap → Prop} (hw : vstate_Find s a h K) : ACalls Try.prog F_vstate_Find [s.v, .agg a] h K :=
  calls_sound ty_ok mixed vstate_Find_a (c := bodyOf Try.f34) Try.func34 (by kernel_rfl) (by kernel_rfl) (by kernel_rfl) (Nat.le_of_ble_eq_true rfl) (by rw [vstate_Find_eq] at hw; exact hw)

/-- lateen/vstate.Virtual -/
def vstate_Virtual (s : Sl) (a : Array Value) (h : Heap) (K : Value → Heap → Prop) : Prop :=
  new 37 a h fun p h_1 =>
  ld (.agg 3) h_1 p fun (x : Array Value) =>
  ACalls Try.prog F_vstate_find [s.v, .agg x] h_1 fun v h_2 => as2 (.agg 6) .bool v fun r r_1 =>
  new 39 #[.int .i64 0, .string ⟨#[]⟩, .slice none 0 0, .int .i64 0, .string ⟨#[]⟩, .int .i64 0] h_2 fun p_1 h_3 =>
  r.size = 6 ∧ st r.toList h_3 p_1 fun h_4 =>
  joinW (fun _ (t : Bool) h_5 =>
    K (.bool t) h_5) fun k =>
  ifB r_1
   (ld (.int .i64) h_4 ((p_1.add 3).add 0) fun (x_1 : Int) =>
     k (x_1 == 0) h_4)
   (k false h_4)
def vstate_Virtual_a : Ann := (.seq .leaf (.seq .leaf (.join [(4, .bool)] [] .leaf .leaf)))
theorem vstate_Virtual_eq (s : Sl) (a : Array Value) (h : Heap) (K : Value → Heap → Prop) : vstate_Virtual s a h K = fnW Try.prog ty vstate_Virtual_a (bodyOf Try.f35) [.tmp 4] [s.v, .agg a] h K := by kernel_rfl
theorem vstate_Virtual_of {s : Sl} {a : Array Value} {h : Heap} {K : Value → Heap → Prop} (hw : vstate_Virtual s a h K) : ACalls Try.prog F_vstate_Virtual [s.v, .agg a] h K :=
  calls_sound ty_ok mixed vstate_Virtual_a (c := bodyOf Try.f35) Try.func35 (by kernel_rfl) (by kernel_rfl) (by kernel_rfl) (Nat.le_of_ble_eq_true rfl) (by rw [vstate_Virtual_eq] at hw; exact hw)

/-- lateen/vstate.Really -/
def vstate_Really (s : Sl) (a : Array Value) (h : Heap) (K : Value → Heap → Prop) : Prop :=
  new 37 a h fun p h_1 =>
  new 37 #[.int .i64 0, .string ⟨#[]⟩, .int .i64 0] h_1 fun p_1 h_2 =>
  ld (.agg 3) h_2 p fun (x : Array Value) =>
  ACalls Try.prog F_vstate_find [s.v, .agg x] h_2 fun v h_3 => as2 (.agg 6) .bool v fun r r_1 =>
  new 39 #[.int .i64 0, .string ⟨#[]⟩, .slice none 0 0, .int .i64 0, .string ⟨#[]⟩, .int .i64 0] h_3 fun p_2 h_4 =>
  r.size = 6 ∧ st r.toList h_4 p_2 fun h_5 =>
  joinW (fun _ (t : Bool) h_6 =>
    ifB t
     (ld (.agg 3) h_6 (p_2.add 3) fun (x_1 : Array Value) =>
     x_1.size = 3 ∧ st x_1.toList h_6 p_1 fun h_7 =>
     ld (.agg 3) h_7 p_1 fun (x_2 : Array Value) => K (.agg x_2) h_7)
     (ld (.agg 3) h_6 p fun (x_3 : Array Value) =>
  x_3.size = 3 ∧ st x_3.toList h_6 p_1 fun h_8 =>
  ld (.agg 3) h_8 p_1 fun (x_4 : Array Value) => K (.agg x_4) h_8)) fun k =>
  ifB r_1
   (ld (.int .i64) h_5 ((p_2.add 3).add 0) fun (x_5 : Int) =>
     k (x_5 != 0) h_5)
   (k false h_5)
def vstate_Really_a : Ann := (.seq .leaf (.seq (.seq .leaf (.join [(19, .bool)] [3, 4, 5] .leaf (.cond (.seq .leaf .leaf) .leaf))) (.seq .leaf .leaf)))
theorem vstate_Really_eq (s : Sl) (a : Array Value) (h : Heap) (K : Value → Heap → Prop) : vstate_Really s a h K = fnW Try.prog ty vstate_Really_a (bodyOf Try.f36) [.cell 4 37] [s.v, .agg a] h K := by kernel_rfl
theorem vstate_Really_of {s : Sl} {a : Array Value} {h : Heap} {K : Value → Heap → Prop} (hw : vstate_Really s a h K) : ACalls Try.prog F_vstate_Really [s.v, .agg a] h K :=
  calls_sound ty_ok mixed vstate_Really_a (c := bodyOf Try.f36) Try.func36 (by kernel_rfl) (by kernel_rfl) (by kernel_rfl) (Nat.le_of_ble_eq_true rfl) (by rw [vstate_Really_eq] at hw; exact hw)

/-- lateen/vstate.Reach -/
def vstate_Reach (s : Sl) (l : Sl) (h : Heap) (K : Value → Heap → Prop) : Prop :=
  mkm h fun m h_1 =>
  ACalls Try.prog F_slices_Clone [l.v] h_1 fun v h_2 => as1 .sl v fun r =>
  loopW (fun _ (todo : Sl) h_3 next =>
    ifB (decide ((todo.len : Int) > 0))
     (ar .i64 ((todo.len : Int) - 1) fun n =>
    idx 3 todo n fun p =>
    ld (.agg 3) h_3 p fun (x : Array Value) =>
    new 37 #[.int .i64 0, .string ⟨#[]⟩, .int .i64 0] h_3 fun p_1 h_4 =>
    x.size = 3 ∧ st x.toList h_4 p_1 fun h_5 =>
    ar .i64 ((todo.len : Int) - 1) fun n_1 =>
    slc 3 todo none (some n_1) fun s_1 =>
    ld (.agg 3) h_5 p_1 fun (x_1 : Array Value) =>
    ACalls Try.prog F_vstate_find [s.v, .agg x_1] h_5 fun v_1 h_6 => as2 (.agg 6) .bool v_1 fun r_1 r_2 =>
    new 39 #[.int .i64 0, .string ⟨#[]⟩, .slice none 0 0, .int .i64 0, .string ⟨#[]⟩, .int .i64 0] h_6 fun p_2 h_7 =>
    r_1.size = 6 ∧ st r_1.toList h_7 p_2 fun h_8 =>
    joinW (fun _ (t : Bool) h_9 =>
      ifB t
       (next s_1 h_9)
       (ld (.int .i64) h_9 (p_2.add 0) fun (x_2 : Int) =>
    mup (.int .i64) m (.int .i64 x_2) (.bool true) h_9 fun h_10 =>
    ld .sl h_10 (p_2.add 2) fun (x_3 : Sl) =>
    app si_Lapi_Arg s_1 x_3 h_10 fun s_2 h_11 =>
    next s_2 h_11)) fun k =>
    ifB (!r_2)
     (k true h_8)
     (ld (.int .i64) h_8 ((p_2.add 3).add 0) fun (x_4 : Int) =>
       ifB (x_4 != 0)
         (k true h_8)
         (ld (.int .i64) h_8 (p_2.add 0) fun (x_5 : Int) =>
           mlk (.int .i64) m (.int .i64 x_5) h_8 fun r_3 => as1 .bool (r_3.getD (.bool false)) fun y =>
            k y h_8)))
     (ACalls Try.prog F_maps_Keys [.map m] h_3 fun v_2 h_12 => as1 .fn v_2 fun r_4 =>
  ACalls Try.prog F_slices_Sorted [r_4] h_12 fun v_3 h_13 => as1 .sl v_3 fun r_5 =>
  K r_5.v h_13)) r h_2
def vstate_Reach_a : Ann := (.seq .leaf (.seq .leaf (.seq .leaf (.seq (.block (.loop [(6, .sl)] [0, 5] (.seq (.seq .leaf (.cond .leaf .leaf)) (.block (.seq .leaf (.seq .leaf (.seq .leaf (.seq (.join [(46, .bool)] [0, 5, 6, 8] .leaf (.cond .leaf .leaf)) (.seq .leaf .leaf))))))))) (.seq .leaf .leaf)))))
theorem vstate_Reach_eq (s : Sl) (l : Sl) (h : Heap) (K : Value → Heap → Prop) : vstate_Reach s l h K = fnW Try.prog ty vstate_Reach_a (bodyOf Try.f37) [.tmp 4] [s.v, l.v] h K := by kernel_rfl
theorem vstate_Reach_of {s : Sl} {l : Sl} {h : Heap} {K : Value → Heap → Prop} (hw : vstate_Reach s l h K) : ACalls Try.prog F_vstate_Reach [s.v, l.v] h K :=
  calls_sound ty_ok mixed vstate_Reach_a (c := bodyOf Try.f37) Try.func37 (by kernel_rfl) (by kernel_rfl) (by kernel_rfl) (Nat.le_of_ble_eq_true rfl) (by rw [vstate_Reach_eq] at hw; exact hw)

/-- lateen/lateenlaw22.has -/
def lateenlaw22_has (l : Sl) (n : Int) (h : Heap) (K : Value → Heap → Prop) : Prop :=
  loopW (fun _ (i : Int) h_1 next =>
    ifB (decide (i < (l.len : Int)))
     (idx 1 l i fun p =>
    ld (.int .i64) h_1 p fun (x : Int) =>
    ifB (x == n)
     (K (.bool true) h_1)
     (ar .i64 (i + 1) fun n_1 =>
    next n_1 h_1))
     (K (.bool false) h_1)) 0 h
def lateenlaw22_has_a : Ann := (.seq .leaf (.seq (.seq .leaf (.block (.loop [(5, .int .i64)] [0, 1] (.seq (.seq .leaf (.cond .leaf .leaf)) (.seq (.block (.seq .leaf (.cond (.seq .leaf .leaf) .leaf))) .leaf))))) (.seq .leaf .leaf)))
theorem lateenlaw22_has_eq (l : Sl) (n : Int) (h : Heap) (K : Value → Heap → Prop) : lateenlaw22_has l n h K = fnW Try.prog ty lateenlaw22_has_a (bodyOf Try.f38) [.tmp 4] [l.v, .int .i64 n] h K := by kernel_rfl
theorem lateenlaw22_has_of {l : Sl} {n : Int} {h : Heap} {K : Value → Heap → Prop} (hw : lateenlaw22_has l n h K) : ACalls Try.prog F_lateenlaw22_has [l.v, .int .i64 n] h K :=
  calls_sound ty_ok mixed lateenlaw22_has_a (c := bodyOf Try.f38) Try.func38 (by kernel_rfl) (by kernel_rfl) (by kernel_rfl) (Nat.le_of_ble_eq_true rfl) (by rw [lateenlaw22_has_eq] at hw; exact hw)

/-- lateen/lateenlaw22.to -/
def lateenlaw22_to (n : Int) (h : Heap) (K : Value → Heap → Prop) : Prop :=
  new 37 #[.int .i64 0, .string ⟨#[]⟩, .int .i64 0] h fun p h_1 =>
  bst [(0, 1), (1, 1), (2, 1)] #[.int .i64 0, .string ⟨#[]⟩, .int .i64 0] [(0, .int .i64 5), (2, .int .i64 n)] fun c =>
  c.size = 3 ∧ st c.toList h_1 p fun h_2 =>
  ld (.agg 3) h_2 p fun (x : Array Value) => K (.agg x) h_2
def lateenlaw22_to_a : Ann := (.seq .leaf (.seq .leaf .leaf))
theorem lateenlaw22_to_eq (n : Int) (h : Heap) (K : Value → Heap → Prop) : lateenlaw22_to n h K = fnW Try.prog ty lateenlaw22_to_a (bodyOf Try.f39) [.cell 2 37] [.int .i64 n] h K := by kernel_rfl
theorem lateenlaw22_to_of {n : Int} {h : Heap} {K : Value → Heap → Prop} (hw : lateenlaw22_to n h K) : ACalls Try.prog F_lateenlaw22_to [.int .i64 n] h K :=
  calls_sound ty_ok mixed lateenlaw22_to_a (c := bodyOf Try.f39) Try.func39 (by kernel_rfl) (by kernel_rfl) (by kernel_rfl) (Nat.le_of_ble_eq_true rfl) (by rw [lateenlaw22_to_eq] at hw; exact hw)

/-- lateen/vstate.Set -/
def vstate_Set (s : Sl) (a : Array Value) (atv : Int) (v : Array Value) (h : Heap) (K : Value → Heap → Prop) : Prop :=
  new 37 a h fun p h_1 =>
  new 37 v h_1 fun p_1 h_2 =>
  ACalls Try.prog F_vstate_copied [s.v] h_2 fun v_1 h_3 => as1 .sl v_1 fun r =>
  ld (.agg 3) h_3 p fun (x : Array Value) =>
  ACalls Try.prog F_vstate_find [s.v, .agg x] h_3 fun v_2 h_4 => as2 (.agg 6) .bool v_2 fun r_1 r_2 =>
  new 39 #[.int .i64 0, .string ⟨#[]⟩, .slice none 0 0, .int .i64 0, .string ⟨#[]⟩, .int .i64 0] h_4 fun p_2 h_5 =>
  r_1.size = 6 ∧ st r_1.toList h_5 p_2 fun h_6 =>
  joinW (fun _ (t : Bool) h_7 =>
    ifB t
     (K (.tuple #[r.v, .bool false]) h_7)
     (ld (.int .i64) h_7 (p_2.add 0) fun (x_1 : Int) =>
  ACalls Try.prog F_vstate_place [r.v, .int .i64 x_1] h_7 fun v_3 h_8 => as2 (.int .i64) .bool v_3 fun r_3 _ =>
  idx 6 r r_3 fun p_3 =>
  ld .sl h_8 (p_3.add 2) fun (x_2 : Sl) =>
  ld (.agg 3) h_8 p_1 fun (x_3 : Array Value) =>
  idx 3 x_2 atv fun p_4 =>
  x_3.size = 3 ∧ st x_3.toList h_8 p_4 fun h_9 =>
  K (.tuple #[r.v, .bool true]) h_9)) fun k =>
  ifB (!r_2)
   (k true h_6)
   (ld (.int .i64) h_6 ((p_2.add 3).add 0) fun (x_4 : Int) =>
     ifB (x_4 != 0)
       (k true h_6)
       (ifB (decide (atv < 0))
         (k true h_6)
         (ld .sl h_6 (p_2.add 2) fun (x_5 : Sl) =>
           k (decide (atv ≥ (x_5.len : Int))) h_6)))
def vstate_Set_a : Ann := (.seq .leaf (.seq .leaf (.seq .leaf (.seq (.join [(41, .bool)] [2, 7, 10, 11] .leaf (.cond (.seq .leaf .leaf) .leaf)) (.seq .leaf (.seq .leaf (.seq .leaf .leaf)))))))
theorem vstate_Set_eq (s : Sl) (a : Array Value) (atv : Int) (v : Array Value) (h : Heap) (K : Value → Heap → Prop) : vstate_Set s a atv v h K = fnW Try.prog ty vstate_Set_a (bodyOf Try.f40) [.tmp 8, .tmp 9] [s.v, .agg a, .int .i64 atv, .agg v] h K := by kernel_rfl
theorem vstate_Set_of {s : Sl} {a : Array Value} {atv : Int} {v : Array Value} {h : Heap} {K : Value → Heap → Prop} (hw : vstate_Set s a atv v h K) : ACalls Try.prog F_vstate_Set [s.v, .agg a, .int .i64 atv, .agg v] h K :=
  calls_sound ty_ok mixed vstate_Set_a (c := bodyOf Try.f40) Try.func40 (by kernel_rfl) (by kernel_rfl) (by kernel_rfl) (Nat.le_of_ble_eq_true rfl) (by rw [vstate_Set_eq] at hw; exact hw)

/-- lateen/lateenref22.Set -/
def lateenref22_Set (s : Sl) (a : Array Value) (atv : Int) (v : Array Value) (h : Heap) (K : Value → Heap → Prop) : Prop :=
  new 37 a h fun p h_1 =>
  new 37 v h_1 fun p_1 h_2 =>
  ld (.agg 3) h_2 p fun (x : Array Value) =>
  ACalls Try.prog F_lateenref22_Find [s.v, .agg x] h_2 fun v_1 h_3 => as2 (.agg 6) .bool v_1 fun r _ =>
  new 40 #[.int .i64 0, .string ⟨#[]⟩, .slice none 0 0, .int .i64 0, .string ⟨#[]⟩, .int .i64 0] h_3 fun p_2 h_4 =>
  r.size = 6 ∧ st r.toList h_4 p_2 fun h_5 =>
  joinW (fun _ (t : Bool) h_6 =>
    ifB t
     (K (.tuple #[s.v, .bool false]) h_6)
     (ld .sl h_6 (p_2.add 2) fun (x_1 : Sl) =>
  app si_Lapi_Arg (⟨none, 0, 0⟩ : Sl) x_1 h_6 fun s_1 h_7 =>
  ld (.agg 3) h_7 p_1 fun (x_2 : Array Value) =>
  idx 3 s_1 atv fun p_3 =>
  x_2.size = 3 ∧ st x_2.toList h_7 p_3 fun h_8 =>
  st [s_1.v] h_8 (p_2.add 2) fun h_9 =>
  ld (.agg 6) h_9 p_2 fun (x_3 : Array Value) =>
  ACalls Try.prog F_lateenref22_Add [s.v, .agg x_3] h_9 fun v_2 h_10 => as1 .sl v_2 fun r_2 =>
  K (.tuple #[r_2.v, .bool true]) h_10)) fun k =>
  ld (.agg 3) h_5 p fun (x_4 : Array Value) =>
  ACalls Try.prog F_lateenref22_Virtual [s.v, .agg x_4] h_5 fun v_3 h_11 => as1 .bool v_3 fun r_3 =>
  ifB (!r_3)
   (k true h_11)
   (ifB (decide (atv < 0))
     (k true h_11)
     (ld .sl h_11 (p_2.add 2) fun (x_5 : Sl) =>
       k (decide (atv ≥ (x_5.len : Int))) h_11))
def lateenref22_Set_a : Ann := (.seq .leaf (.seq .leaf (.seq (.join [(33, .bool)] [0, 2, 7, 10] .leaf (.cond (.seq .leaf .leaf) .leaf)) (.seq .leaf (.seq .leaf (.seq .leaf (.seq .leaf (.seq .leaf .leaf))))))))
theorem lateenref22_Set_eq (s : Sl) (a : Array Value) (atv : Int) (v : Array Value) (h : Heap) (K : Value → Heap → Prop) : lateenref22_Set s a atv v h K = fnW Try.prog ty lateenref22_Set_a (bodyOf Try.f41) [.tmp 8, .tmp 9] [s.v, .agg a, .int .i64 atv, .agg v] h K := by kernel_rfl
theorem lateenref22_Set_of {s : Sl} {a : Array Value} {atv : Int} {v : Array Value} {h : Heap} {K : Value → Heap → Prop} (hw : lateenref22_Set s a atv v h K) : ACalls Try.prog F_lateenref22_Set [s.v, .agg a, .int .i64 atv, .agg v] h K :=
  calls_sound ty_ok mixed lateenref22_Set_a (c := bodyOf Try.f41) Try.func41 (by kernel_rfl) (by kernel_rfl) (by kernel_rfl) (Nat.le_of_ble_eq_true rfl) (by rw [lateenref22_Set_eq] at hw; exact hw)

/-- lateen/vstate.Add -/
def vstate_Add (s : Sl) (o : Array Value) (h : Heap) (K : Value → Heap → Prop) : Prop :=
  new 39 o h fun p h_1 =>
  ACalls Try.prog F_vstate_copied [s.v] h_1 fun v h_2 => as1 .sl v fun r =>
  ld (.int .i64) h_2 (p.add 0) fun (x : Int) =>
  ACalls Try.prog F_vstate_place [r.v, .int .i64 x] h_2 fun v_1 h_3 => as2 (.int .i64) .bool v_1 fun r_1 r_2 =>
  ifB r_2
   (ld (.agg 6) h_3 p fun (x_1 : Array Value) =>
   ACalls Try.prog F_vstate_Obj_copied [.agg x_1] h_3 fun v_2 h_4 => as1 (.agg 6) v_2 fun r_3 =>
   idx 6 r r_1 fun p_1 =>
   r_3.size = 6 ∧ st r_3.toList h_4 p_1 fun h_5 =>
   K r.v h_5)
   (ld (.agg 6) h_3 p fun (x_2 : Array Value) =>
  ACalls Try.prog F_vstate_Obj_copied [.agg x_2] h_3 fun v_3 h_6 => as1 (.agg 6) v_3 fun r_4 =>
  bld si_Lvstate_Obj 1 [(0, .agg r_4)] h_6 fun s_1 h_7 =>
  ACalls Try.prog F_slices_Insert [r.v, .int .i64 r_1, s_1.v] h_7 fun v_4 h_8 => as1 .sl v_4 fun r_5 =>
  K r_5.v h_8)
def vstate_Add_a : Ann := (.seq .leaf (.seq .leaf (.seq .leaf (.seq (.seq .leaf (.cond (.seq .leaf (.seq .leaf .leaf)) .leaf)) (.seq .leaf .leaf)))))
theorem vstate_Add_eq (s : Sl) (o : Array Value) (h : Heap) (K : Value → Heap → Prop) : vstate_Add s o h K = fnW Try.prog ty vstate_Add_a (bodyOf Try.f42) [.tmp 4] [s.v, .agg o] h K := by kernel_rfl
theorem vstate_Add_of {s : Sl} {o : Array Value} {h : Heap} {K : Value → Heap → Prop} (hw : vstate_Add s o h K) : ACalls Try.prog F_vstate_Add [s.v, .agg o] h K :=
  calls_sound ty_ok mixed vstate_Add_a (c := bodyOf Try.f42) Try.func42 (by kernel_rfl) (by kernel_rfl) (by kernel_rfl) (Nat.le_of_ble_eq_true rfl) (by rw [vstate_Add_eq] at hw; exact hw)

/-- lateen/lateenlaw22.one -/
def lateenlaw22_one (o : Array Value) (h : Heap) (K : Value → Heap → Prop) : Prop :=
  new 40 o h fun p h_1 =>
  new 39 #[.int .i64 0, .string ⟨#[]⟩, .slice none 0 0, .int .i64 0, .string ⟨#[]⟩, .int .i64 0] h_1 fun p_1 h_2 =>
  ld (.int .i64) h_2 (p.add 0) fun (x : Int) =>
  ld .str h_2 (p.add 1) fun (x_1 : ByteArray) =>
  ld .sl h_2 (p.add 2) fun (x_2 : Sl) =>
  ld (.agg 3) h_2 (p.add 3) fun (x_3 : Array Value) =>
  bst [(0, 1), (1, 1), (2, 1), (3, 3)] #[.int .i64 0, .string ⟨#[]⟩, .slice none 0 0, .int .i64 0, .string ⟨#[]⟩, .int .i64 0] [(0, .int .i64 x), (1, .string x_1), (2, x_2.v), (3, .agg x_3)] fun c =>
  c.size = 6 ∧ st c.toList h_2 p_1 fun h_3 =>
  ld (.agg 6) h_3 p_1 fun (x_4 : Array Value) => K (.agg x_4) h_3
def lateenlaw22_one_a : Ann := (.seq .leaf (.seq .leaf .leaf))
theorem lateenlaw22_one_eq (o : Array Value) (h : Heap) (K : Value → Heap → Prop) : lateenlaw22_one o h K = fnW Try.prog ty lateenlaw22_one_a (bodyOf Try.f43) [.cell 2 39] [.agg o] h K := by kernel_rfl
theorem lateenlaw22_one_of {o : Array Value} {h : Heap} {K : Value → Heap → Prop} (hw : lateenlaw22_one o h K) : ACalls Try.prog F_lateenlaw22_one [.agg o] h K :=
  calls_sound ty_ok mixed lateenlaw22_one_a (c := bodyOf Try.f43) Try.func43 (by kernel_rfl) (by kernel_rfl) (by kernel_rfl) (Nat.le_of_ble_eq_true rfl) (by rw [lateenlaw22_one_eq] at hw; exact hw)

/-- lateen/lateenref22.Add -/
def lateenref22_Add (s : Sl) (o : Array Value) (h : Heap) (K : Value → Heap → Prop) : Prop :=
  new 40 o h fun p h_1 =>
  loopW (fun _ (q_out : Sl × Bool × Int) h_2 next =>
    ifB (decide (q_out.2.2 < (s.len : Int)))
     (joinW (fun _ (q_out_1 : Sl × Bool) h_3 =>
      ar .i64 (q_out.2.2 + 1) fun n =>
      next (q_out_1.1, q_out_1.2, n) h_3) fun k =>
    joinW (fun _ (q_out_2 : Sl × Bool) h_4 =>
      idx 6 s q_out.2.2 fun p_1 =>
      ld (.int .i64) h_4 (p_1.add 0) fun (x : Int) =>
      ld (.int .i64) h_4 (p.add 0) fun (x_1 : Int) =>
      ifB (x != x_1)
       (idx 6 s q_out.2.2 fun p_2 =>
       ld (.agg 6) h_4 p_2 fun (x_2 : Array Value) =>
       bld si_Llateenref22_Obj 1 [(0, .agg x_2)] h_4 fun s_1 h_5 =>
       app si_Llateenref22_Obj q_out_2.1 s_1 h_5 fun s_2 h_6 =>
       k (s_2, q_out_2.2) h_6)
       (k (q_out_2.1, q_out_2.2) h_4)) fun k_1 =>
    joinW (fun _ (t : Bool) h_7 =>
      ifB t
       (ld (.agg 6) h_7 p fun (x_3 : Array Value) =>
       bld si_Llateenref22_Obj 1 [(0, .agg x_3)] h_7 fun s_3 h_8 =>
       app si_Llateenref22_Obj q_out.1 s_3 h_8 fun s_4 h_9 =>
       k_1 (s_4, true) h_9)
       (k_1 (q_out.1, q_out.2.1) h_7)) fun k_2 =>
    ifB (!q_out.2.1)
     (idx 6 s q_out.2.2 fun p_3 =>
       ld (.int .i64) h_2 (p_3.add 0) fun (x_4 : Int) =>
         ld (.int .i64) h_2 (p.add 0) fun (x_5 : Int) =>
           k_2 (decide (x_4 ≥ x_5)) h_2)
     (k_2 false h_2))
     (joinW (fun _ (out_3 : Sl) h_10 =>
    K out_3.v h_10) fun k_3 =>
  ifB (!q_out.2.1)
   (ld (.agg 6) h_2 p fun (x_6 : Array Value) =>
   bld si_Llateenref22_Obj 1 [(0, .agg x_6)] h_2 fun s_5 h_11 =>
   app si_Llateenref22_Obj q_out.1 s_5 h_11 fun s_6 h_12 =>
   k_3 s_6 h_12)
   (k_3 q_out.1 h_2))) ((⟨none, 0, 0⟩ : Sl), false, 0) h_1
def lateenref22_Add_a : Ann := (.seq .leaf (.seq .leaf (.seq .leaf (.seq (.seq .leaf (.block (.loop [(5, .sl), (6, .bool), (7, .int .i64)] [0, 3] (.seq (.seq .leaf (.cond .leaf .leaf)) (.join [(5, .sl), (6, .bool)] [0, 3, 7] (.block (.join [(5, .sl), (6, .bool)] [0, 3, 7] (.join [(25, .bool)] [0, 3, 5, 6, 7] .leaf (.cond (.seq .leaf .leaf) .leaf)) (.seq .leaf (.cond .leaf .leaf)))) .leaf))))) (.join [(5, .sl)] [] (.seq .leaf (.cond .leaf .leaf)) (.seq .leaf .leaf))))))
theorem lateenref22_Add_eq (s : Sl) (o : Array Value) (h : Heap) (K : Value → Heap → Prop) : lateenref22_Add s o h K = fnW Try.prog ty lateenref22_Add_a (bodyOf Try.f44) [.tmp 4] [s.v, .agg o] h K := by kernel_rfl
theorem lateenref22_Add_of {s : Sl} {o : Array Value} {h : Heap} {K : Value → Heap → Prop} (hw : lateenref22_Add s o h K) : ACalls Try.prog F_lateenref22_Add [s.v, .agg o] h K :=
  calls_sound ty_ok mixed lateenref22_Add_a (c := bodyOf Try.f44) Try.func44 (by kernel_rfl) (by kernel_rfl) (by kernel_rfl) (Nat.le_of_ble_eq_true rfl) (by rw [lateenref22_Add_eq] at hw; exact hw)

/-- lateen/lateenlaw22.same -/
def lateenlaw22_same (a : Sl) (b : Sl) (h : Heap) (K : Value → Heap → Prop) : Prop :=
  ifB ((a.len : Int) != (b.len : Int))
   (K (.bool false) h)
   (loopW (fun _ (i : Int) h_1 next =>
    ifB (decide (i < (a.len : Int)))
     (idx 1 a i fun p =>
    ld (.int .i64) h_1 p fun (x : Int) =>
    idx 1 b i fun p_1 =>
    ld (.int .i64) h_1 p_1 fun (x_1 : Int) =>
    ifB (x != x_1)
     (K (.bool false) h_1)
     (ar .i64 (i + 1) fun n =>
    next n h_1))
     (K (.bool true) h_1)) 0 h)
def lateenlaw22_same_a : Ann := (.seq .leaf (.seq (.seq .leaf (.cond (.seq .leaf .leaf) .leaf)) (.seq (.seq .leaf (.block (.loop [(5, .int .i64)] [0, 1] (.seq (.seq .leaf (.cond .leaf .leaf)) (.seq (.block (.seq .leaf (.cond (.seq .leaf .leaf) .leaf))) .leaf))))) (.seq .leaf .leaf))))
theorem lateenlaw22_same_eq (a : Sl) (b : Sl) (h : Heap) (K : Value → Heap → Prop) : lateenlaw22_same a b h K = fnW Try.prog ty lateenlaw22_same_a (bodyOf Try.f45) [.tmp 4] [a.v, b.v] h K := by kernel_rfl
theorem lateenlaw22_same_of {a : Sl} {b : Sl} {h : Heap} {K : Value → Heap → Prop} (hw : lateenlaw22_same a b h K) : ACalls Try.prog F_lateenlaw22_same [a.v, b.v] h K :=
  calls_sound ty_ok mixed lateenlaw22_same_a (c := bodyOf Try.f45) Try.func45 (by kernel_rfl) (by kernel_rfl) (by kernel_rfl) (Nat.le_of_ble_eq_true rfl) (by rw [lateenlaw22_same_eq] at hw; exact hw)

/-- lateen/lateenref22.Reach -/
def lateenref22_Reach (s : Sl) (l : Sl) (h : Heap) (K : Value → Heap → Prop) : Prop :=
  (s.len : Int) = (s.len : Int) ∧ mk si_Lbool (s.len : Int) h fun s_1 h_1 =>
  loopW (fun _ (n : Int) h_2 next =>
    ifB (decide (n ≤ (s.len : Int)))
     (loopW (fun _ (i : Int) h_3 next_1 =>
      ifB (decide (i < (s.len : Int)))
       (joinW (fun _ (_ : Unit) h_4 =>
        ar .i64 (i + 1) fun n_1 =>
        next_1 n_1 h_4) fun k =>
      joinW (fun _ (t : Bool) h_5 =>
        ifB t
         (k () h_5)
         (loopW (fun _ (k_2 : Int) h_6 next_2 =>
        ifB (decide (k_2 < (l.len : Int)))
         (joinW (fun _ (_ : Unit) h_7 =>
          ar .i64 (k_2 + 1) fun n_2 =>
          next_2 n_2 h_7) fun k_3 =>
        idx 1 s_1 i fun p =>
        ld .bool h_6 p fun (x : Bool) =>
        ifB x
         (idx 1 s_1 i fun p_1 =>
                st [.bool true] h_6 p_1 fun h_8 =>
                k_3 () h_8)
         (idx 3 l k_2 fun p_2 =>
           ld (.int .i64) h_6 (p_2.add 0) fun (x_1 : Int) =>
             ifB (x_1 == 5)
                (idx 3 l k_2 fun p_3 =>
                  ld (.int .i64) h_6 (p_3.add 2) fun (x_2 : Int) =>
                    idx 6 s i fun p_4 =>
                       ld (.int .i64) h_6 (p_4.add 0) fun (x_3 : Int) =>
                         idx 1 s_1 i fun p_5 =>
                           st [.bool (x_2 == x_3)] h_6 p_5 fun h_9 =>
                           k_3 () h_9)
                (idx 1 s_1 i fun p_6 =>
                           st [.bool false] h_6 p_6 fun h_10 =>
                           k_3 () h_10)))
         (loopW (fun _ (j : Int) h_11 next_3 =>
        ifB (decide (j < (s.len : Int)))
         (loopW (fun _ (k_4 : Int) h_12 next_4 =>
          joinW (fun _ (t_1 : Bool) h_13 =>
            ifB t_1
             (joinW (fun _ (_ : Unit) h_14 =>
            ar .i64 (k_4 + 1) fun n_3 =>
            next_4 n_3 h_14) fun k_6 =>
          idx 1 s_1 i fun p_7 =>
          ld .bool h_13 p_7 fun (x_4 : Bool) =>
          ifB x_4
           (idx 1 s_1 i fun p_8 =>
                      st [.bool true] h_13 p_8 fun h_15 =>
                      k_6 () h_15)
           (idx 6 s j fun p_9 =>
             ld .sl h_13 (p_9.add 2) fun (x_5 : Sl) =>
               idx 3 x_5 k_4 fun p_10 =>
                 ld (.int .i64) h_13 (p_10.add 0) fun (x_6 : Int) =>
                   ifB (x_6 == 5)
                      (idx 6 s j fun p_11 =>
                        ld .sl h_13 (p_11.add 2) fun (x_7 : Sl) =>
                          idx 3 x_7 k_4 fun p_12 =>
                            ld (.int .i64) h_13 (p_12.add 2) fun (x_8 : Int) =>
                              idx 6 s i fun p_13 =>
                                 ld (.int .i64) h_13 (p_13.add 0) fun (x_9 : Int) =>
                                   idx 1 s_1 i fun p_14 =>
                                     st [.bool (x_8 == x_9)] h_13 p_14 fun h_16 =>
                                     k_6 () h_16)
                      (idx 1 s_1 i fun p_15 =>
                                     st [.bool false] h_13 p_15 fun h_17 =>
                                     k_6 () h_17)))
             (ar .i64 (j + 1) fun n_4 =>
        next_3 n_4 h_13)) fun k_5 =>
          idx 6 s j fun p_16 =>
          ld .sl h_12 (p_16.add 2) fun (x_10 : Sl) =>
          ifB (decide (k_4 < (x_10.len : Int)))
           (idx 1 s_1 j fun p_17 =>
             ld .bool h_12 p_17 fun (x_11 : Bool) =>
              k_5 x_11 h_12)
           (k_5 false h_12)) 0 h_11)
         (k () h_11)) 0 h_6)) 0 h_5)) fun k_1 =>
      idx 6 s i fun p_18 =>
      ld (.int .i64) h_3 ((p_18.add 3).add 0) fun (x_12 : Int) =>
      ifB (x_12 != 0)
       (k_1 true h_3)
       (idx 1 s_1 i fun p_19 =>
         ld .bool h_3 p_19 fun (x_13 : Bool) =>
          k_1 x_13 h_3))
       (ar .i64 (n + 1) fun n_5 =>
    next n_5 h_3)) 0 h_2)
     (loopW (fun _ (q_out : Sl × Int) h_18 next_5 =>
    ifB (decide (q_out.2 < (s.len : Int)))
     (joinW (fun _ (out_1 : Sl) h_19 =>
      ar .i64 (q_out.2 + 1) fun n_6 =>
      next_5 (out_1, n_6) h_19) fun k_7 =>
    idx 1 s_1 q_out.2 fun p_20 =>
    ld .bool h_18 p_20 fun (x_14 : Bool) =>
    ifB x_14
     (idx 6 s q_out.2 fun p_21 =>
     ld (.int .i64) h_18 (p_21.add 0) fun (x_15 : Int) =>
     bld si_Lint64 1 [(0, .int .i64 x_15)] h_18 fun s_2 h_20 =>
     app si_Lint64 q_out.1 s_2 h_20 fun s_3 h_21 =>
     k_7 s_3 h_21)
     (k_7 q_out.1 h_18))
     (K q_out.1.v h_18)) ((⟨none, 0, 0⟩ : Sl), 0) h_2)) 0 h_1
def lateenref22_Reach_a : Ann := (.seq .leaf (.seq .leaf (.seq (.seq .leaf (.block (.loop [(6, .int .i64)] [0, 1, 5] (.seq (.seq .leaf (.cond .leaf .leaf)) (.seq (.block (.seq .leaf (.block (.loop [(7, .int .i64)] [0, 1, 5, 6] (.seq (.seq .leaf (.cond .leaf .leaf)) (.join [] [0, 1, 5, 6, 7] (.block (.seq (.join [(40, .bool)] [0, 1, 5, 6, 7] .leaf (.cond .leaf .leaf)) (.seq (.seq .leaf (.block (.loop [(8, .int .i64)] [0, 1, 5, 6, 7] (.seq (.seq .leaf (.cond .leaf .leaf)) (.join [] [0, 1, 5, 6, 7, 8] (.block .leaf) .leaf))))) (.seq .leaf (.block (.loop [(9, .int .i64)] [0, 1, 5, 6, 7] (.seq (.seq .leaf (.cond .leaf .leaf)) (.seq (.block (.seq .leaf (.block (.loop [(10, .int .i64)] [0, 1, 5, 6, 7, 9] (.seq (.join [(94, .bool)] [0, 1, 5, 6, 7, 9, 10] .leaf (.cond .leaf .leaf)) (.join [] [0, 1, 5, 6, 7, 9, 10] (.block .leaf) .leaf)))))) .leaf)))))))) .leaf)))))) .leaf))))) (.seq .leaf (.seq (.seq .leaf (.block (.loop [(11, .sl), (12, .int .i64)] [0, 5] (.seq (.seq .leaf (.cond .leaf .leaf)) (.join [(11, .sl)] [0, 5, 12] (.block (.seq .leaf (.cond .leaf .leaf))) .leaf))))) (.seq .leaf .leaf))))))
theorem lateenref22_Reach_eq (s : Sl) (l : Sl) (h : Heap) (K : Value → Heap → Prop) : lateenref22_Reach s l h K = fnW Try.prog ty lateenref22_Reach_a (bodyOf Try.f46) [.tmp 4] [s.v, l.v] h K := by kernel_rfl
theorem lateenref22_Reach_of {s : Sl} {l : Sl} {h : Heap} {K : Value → Heap → Prop} (hw : lateenref22_Reach s l h K) : ACalls Try.prog F_lateenref22_Reach [s.v, l.v] h K :=
  calls_sound ty_ok mixed lateenref22_Reach_a (c := bodyOf Try.f46) Try.func46 (by kernel_rfl) (by kernel_rfl) (by kernel_rfl) (Nat.le_of_ble_eq_true rfl) (by rw [lateenref22_Reach_eq] at hw; exact hw)

/-- lateen/vstate.Same -/
def vstate_Same (s : Sl) (t : Sl) (h : Heap) (K : Value → Heap → Prop) : Prop :=
  ACalls Try.prog F_slices_EqualFunc [s.v, t.v, .func (.func F_vstate_same) #[] #[]] h fun v h_1 => as1 .bool v fun r =>
  K (.bool r) h_1
def vstate_Same_a : Ann := (.seq .leaf (.seq .leaf .leaf))
theorem vstate_Same_eq (s : Sl) (t : Sl) (h : Heap) (K : Value → Heap → Prop) : vstate_Same s t h K = fnW Try.prog ty vstate_Same_a (bodyOf Try.f47) [.tmp 4] [s.v, t.v] h K := by kernel_rfl
theorem vstate_Same_of {s : Sl} {t : Sl} {h : Heap} {K : Value → Heap → Prop} (hw : vstate_Same s t h K) : ACalls Try.prog F_vstate_Same [s.v, t.v] h K :=
  calls_sound ty_ok mixed vstate_Same_a (c := bodyOf Try.f47) Try.func47 (by kernel_rfl) (by kernel_rfl) (by kernel_rfl) (Nat.le_of_ble_eq_true rfl) (by rw [vstate_Same_eq] at hw; exact hw)

/-- lateen/lateenlaw23.number -/
def lateenlaw23_number (n : Int) (h : Heap) (K : Value → Heap → Prop) : Prop :=
  new 37 #[.int .i64 0, .string ⟨#[]⟩, .int .i64 0] h fun p h_1 =>
  bst [(0, 1), (1, 1), (2, 1)] #[.int .i64 0, .string ⟨#[]⟩, .int .i64 0] [(0, .int .i64 2), (2, .int .i64 n)] fun c =>
  c.size = 3 ∧ st c.toList h_1 p fun h_2 =>
  ld (.agg 3) h_2 p fun (x : Array Value) => K (.agg x) h_2
def lateenlaw23_number_a : Ann := (.seq .leaf (.seq .leaf .leaf))
theorem lateenlaw23_number_eq (n : Int) (h : Heap) (K : Value → Heap → Prop) : lateenlaw23_number n h K = fnW Try.prog ty lateenlaw23_number_a (bodyOf Try.f59) [.cell 2 37] [.int .i64 n] h K := by kernel_rfl
theorem lateenlaw23_number_of {n : Int} {h : Heap} {K : Value → Heap → Prop} (hw : lateenlaw23_number n h K) : ACalls Try.prog F_lateenlaw23_number [.int .i64 n] h K :=
  calls_sound ty_ok mixed lateenlaw23_number_a (c := bodyOf Try.f59) Try.func59 (by kernel_rfl) (by kernel_rfl) (by kernel_rfl) (Nat.le_of_ble_eq_true rfl) (by rw [lateenlaw23_number_eq] at hw; exact hw)

/-- lateen/lateenref23.to -/
def lateenref23_to (id : Int) (h : Heap) (K : Value → Heap → Prop) : Prop :=
  new 37 #[.int .i64 0, .string ⟨#[]⟩, .int .i64 0] h fun p h_1 =>
  bst [(0, 1), (1, 1), (2, 1)] #[.int .i64 0, .string ⟨#[]⟩, .int .i64 0] [(0, .int .i64 5), (2, .int .i64 id)] fun c =>
  c.size = 3 ∧ st c.toList h_1 p fun h_2 =>
  ld (.agg 3) h_2 p fun (x : Array Value) => K (.agg x) h_2
def lateenref23_to_a : Ann := (.seq .leaf (.seq .leaf .leaf))
theorem lateenref23_to_eq (id : Int) (h : Heap) (K : Value → Heap → Prop) : lateenref23_to id h K = fnW Try.prog ty lateenref23_to_a (bodyOf Try.f60) [.cell 2 37] [.int .i64 id] h K := by kernel_rfl
theorem lateenref23_to_of {id : Int} {h : Heap} {K : Value → Heap → Prop} (hw : lateenref23_to id h K) : ACalls Try.prog F_lateenref23_to [.int .i64 id] h K :=
  calls_sound ty_ok mixed lateenref23_to_a (c := bodyOf Try.f60) Try.func60 (by kernel_rfl) (by kernel_rfl) (by kernel_rfl) (Nat.le_of_ble_eq_true rfl) (by rw [lateenref23_to_eq] at hw; exact hw)

/-- lateen/lateenref23.plain -/
def lateenref23_plain (l : Sl) (h : Heap) (K : Value → Heap → Prop) : Prop :=
  loopW (fun _ (i : Int) h_1 next =>
    ifB (decide (i < (l.len : Int)))
     (joinW (fun _ (t : Bool) h_2 =>
      ifB t
       (K (.bool false) h_2)
       (ar .i64 (i + 1) fun n =>
    next n h_2)) fun k =>
    idx 3 l i fun p =>
    ld (.int .i64) h_1 (p.add 0) fun (x : Int) =>
    ifB (x == 5)
     (idx 3 l i fun p_1 =>
       ld .str h_1 (p_1.add 1) fun (x_1 : ByteArray) =>
         k (!(x_1.toList == (⟨#[]⟩ : ByteArray).toList)) h_1)
     (k false h_1))
     (K (.bool true) h_1)) 0 h
def lateenref23_plain_a : Ann := (.seq .leaf (.seq (.seq .leaf (.block (.loop [(3, .int .i64)] [0] (.seq (.seq .leaf (.cond .leaf .leaf)) (.seq (.block (.join [(23, .bool)] [0, 3] .leaf (.cond (.seq .leaf .leaf) .leaf))) .leaf))))) (.seq .leaf .leaf)))
theorem lateenref23_plain_eq (l : Sl) (h : Heap) (K : Value → Heap → Prop) : lateenref23_plain l h K = fnW Try.prog ty lateenref23_plain_a (bodyOf Try.f61) [.tmp 2] [l.v] h K := by kernel_rfl
theorem lateenref23_plain_of {l : Sl} {h : Heap} {K : Value → Heap → Prop} (hw : lateenref23_plain l h K) : ACalls Try.prog F_lateenref23_plain [l.v] h K :=
  calls_sound ty_ok mixed lateenref23_plain_a (c := bodyOf Try.f61) Try.func61 (by kernel_rfl) (by kernel_rfl) (by kernel_rfl) (Nat.le_of_ble_eq_true rfl) (by rw [lateenref23_plain_eq] at hw; exact hw)

/-- (*lateen/merge.meeting).of -/
def merge_meeting_of (m : Option Addr) (id : Int) (h : Heap) (K : Value → Heap → Prop) : Prop :=
  nilck m fun p =>
  ld .sl h (p.add 0) fun (x : Sl) =>
  loopW (fun _ (q_out : Sl × Int) h_1 next =>
    ifB (decide (q_out.2 < (x.len : Int)))
     (idx 1 x q_out.2 fun p_1 =>
    ld .sl h_1 p_1 fun (x_1 : Sl) =>
    bst [(0, 1), (1, 1), (2, 1)] #[.int .i64 0, .string ⟨#[]⟩, .int .i64 0] [(0, .int .i64 5), (2, .int .i64 id)] fun c =>
    ACalls Try.prog F_vstate_Find [x_1.v, .agg c] h_1 fun v h_2 => as2 (.agg 6) .bool v fun r r_1 =>
    new 39 #[.int .i64 0, .string ⟨#[]⟩, .slice none 0 0, .int .i64 0, .string ⟨#[]⟩, .int .i64 0] h_2 fun p_2 h_3 =>
    r.size = 6 ∧ st r.toList h_3 p_2 fun h_4 =>
    ifB (!r_1)
     (K (.tuple #[(⟨none, 0, 0⟩ : Sl).v, .bool false]) h_4)
     (ld (.agg 6) h_4 p_2 fun (x_2 : Array Value) =>
    bld si_Lvstate_Obj 1 [(0, .agg x_2)] h_4 fun s h_5 =>
    app si_Lvstate_Obj q_out.1 s h_5 fun s_1 h_6 =>
    ar .i64 (q_out.2 + 1) fun n =>
    next (s_1, n) h_6))
     (K (.tuple #[q_out.1.v, .bool true]) h_1)) ((⟨none, 0, 0⟩ : Sl), 0) h
def merge_meeting_of_a : Ann := (.seq .leaf (.seq .leaf (.seq (.seq .leaf (.block (.loop [(6, .sl), (16, .int .i64)] [1, 14, 15] (.seq .leaf (.seq (.cond .leaf .leaf) (.seq (.block (.seq .leaf (.seq .leaf (.seq (.seq .leaf (.cond (.seq .leaf .leaf) .leaf)) .leaf)))) .leaf)))))) (.seq .leaf .leaf))))
theorem merge_meeting_of_eq (m : Option Addr) (id : Int) (h : Heap) (K : Value → Heap → Prop) : merge_meeting_of m id h K = fnW Try.prog ty merge_meeting_of_a (bodyOf Try.f62) [.tmp 4, .tmp 5] [.pointer m, .int .i64 id] h K := by kernel_rfl
theorem merge_meeting_of_of {m : Option Addr} {id : Int} {h : Heap} {K : Value → Heap → Prop} (hw : merge_meeting_of m id h K) : ACalls Try.prog F_merge_meeting_of [.pointer m, .int .i64 id] h K :=
  calls_sound ty_ok mixed merge_meeting_of_a (c := bodyOf Try.f62) Try.func62 (by kernel_rfl) (by kernel_rfl) (by kernel_rfl) (Nat.le_of_ble_eq_true rfl) (by rw [merge_meeting_of_eq] at hw; exact hw)

/-- (*lateen/merge.meeting).object -/
def merge_meeting_object (m : Option Addr) (l : Sl) (h : Heap) (K : Value → Heap → Prop) : Prop :=
  ACalls Try.prog F_merge_virtual [l.v] h fun v h_1 => as1 (.int .i64) v fun r =>
  loopW (fun _ (t : Int) h_2 next =>
    ifB (decide (t < (l.len : Int)))
     (joinW (fun _ (_ : Unit) h_3 =>
      ar .i64 (t + 1) fun n =>
      next n h_3) fun k =>
    idx 6 l t fun p =>
    ld (.agg 6) h_2 p fun (x : Array Value) =>
    new 39 #[.int .i64 0, .string ⟨#[]⟩, .slice none 0 0, .int .i64 0, .string ⟨#[]⟩, .int .i64 0] h_2 fun p_1 h_4 =>
    x.size = 6 ∧ st x.toList h_4 p_1 fun h_5 =>
    ifB (decide (r < (l.len : Int)))
     (ld (.int .i64) h_5 (p_1.add 0) fun (x_1 : Int) =>
     bst [(0, 1), (1, 1), (2, 1)] #[.int .i64 0, .string ⟨#[]⟩, .int .i64 0] [(0, .int .i64 5), (2, .int .i64 x_1)] fun c =>
     ACalls Try.prog F_merge_meeting_wants [.pointer m, .int .i64 t, .agg c] h_5 fun v_1 h_6 => as0 v_1 (
     k () h_6))
     (k () h_5))
     (ifB (decide (r < (l.len : Int)))
   (K (.tuple #[]) h_2)
   (idx 6 l 0 fun p_2 =>
  ld .sl h_2 (p_2.add 2) fun (x_2 : Sl) =>
  loopW (fun _ (t_1 : Int) h_7 next_1 =>
    ifB (decide (t_1 < (x_2.len : Int)))
     (joinW (fun _ (_ : Unit) h_8 =>
      ar .i64 (t_1 + 1) fun n_1 =>
      next_1 n_1 h_8) fun k_1 =>
    ACalls Try.prog F_merge_meeting_field [.pointer m, l.v, .int .i64 t_1] h_7 fun v_2 h_9 => as1 .sl v_2 fun r_1 =>
    ACalls Try.prog F_merge_one [r_1.v] h_9 fun v_3 h_10 => as2 (.agg 3) .bool v_3 fun r_2 r_3 =>
    new 37 #[.int .i64 0, .string ⟨#[]⟩, .int .i64 0] h_10 fun p_3 h_11 =>
    r_2.size = 3 ∧ st r_2.toList h_11 p_3 fun h_12 =>
    ifB r_3
     (k_1 () h_12)
     (loopW (fun _ (t_2 : Int) h_13 next_2 =>
      ifB (decide (t_2 < (r_1.len : Int)))
       (idx 3 r_1 t_2 fun p_4 =>
      ld (.agg 3) h_13 p_4 fun (x_3 : Array Value) =>
      new 37 #[.int .i64 0, .string ⟨#[]⟩, .int .i64 0] h_13 fun p_5 h_14 =>
      x_3.size = 3 ∧ st x_3.toList h_14 p_5 fun h_15 =>
      ld (.agg 3) h_15 p_5 fun (x_4 : Array Value) =>
      ACalls Try.prog F_merge_meeting_wants [.pointer m, .int .i64 t_2, .agg x_4] h_15 fun v_4 h_16 => as0 v_4 (
      ar .i64 (t_2 + 1) fun n_2 =>
      next_2 n_2 h_16))
       (k_1 () h_13)) 0 h_12))
     (K (.tuple #[]) h_7)) 0 h_2))) 0 h_1
def merge_meeting_object_a : Ann := (.seq .leaf (.seq (.seq .leaf (.block (.loop [(17, .int .i64)] [0, 1, 4, 15, 16] (.seq .leaf (.seq (.cond .leaf .leaf) (.join [] [0, 1, 4, 15, 16, 17] (.block (.seq .leaf (.seq .leaf (.cond .leaf .leaf)))) .leaf)))))) (.seq (.seq .leaf (.cond .leaf .leaf)) (.seq .leaf (.block (.loop [(42, .int .i64)] [0, 1, 41] (.seq .leaf (.seq (.cond .leaf .leaf) (.join [] [0, 1, 41, 42] (.block (.seq .leaf (.seq .leaf (.seq (.seq .leaf (.seq .leaf (.cond .leaf .leaf))) (.seq .leaf (.block (.loop [(57, .int .i64)] [0, 1, 41, 42, 55, 56] (.seq .leaf (.seq (.cond .leaf .leaf) (.seq (.block (.seq .leaf .leaf)) .leaf)))))))))) .leaf)))))))))
theorem merge_meeting_object_eq (m : Option Addr) (l : Sl) (h : Heap) (K : Value → Heap → Prop) : merge_meeting_object m l h K = fnW Try.prog ty merge_meeting_object_a (bodyOf Try.f63) [] [.pointer m, l.v] h K := by kernel_rfl
theorem merge_meeting_object_of {m : Option Addr} {l : Sl} {h : Heap} {K : Value → Heap → Prop} (hw : merge_meeting_object m l h K) : ACalls Try.prog F_merge_meeting_object [.pointer m, l.v] h K :=
  calls_sound ty_ok mixed merge_meeting_object_a (c := bodyOf Try.f63) Try.func63 (by kernel_rfl) (by kernel_rfl) (by kernel_rfl) (Nat.le_of_ble_eq_true rfl) (by rw [merge_meeting_object_eq] at hw; exact hw)

/-- (*lateen/merge.meeting).row -/
def merge_meeting_row (m : Option Addr) (row : Sl) (h : Heap) (K : Value → Heap → Prop) : Prop :=
  ACalls Try.prog F_merge_meeting_alias [.pointer m, row.v] h fun v h_1 => as2 (.agg 3) .bool v fun r r_1 =>
  new 37 #[.int .i64 0, .string ⟨#[]⟩, .int .i64 0] h_1 fun p h_2 =>
  r.size = 3 ∧ st r.toList h_2 p fun h_3 =>
  ifB r_1
   (K (.tuple #[]) h_3)
   (loopW (fun _ (t : Int) h_4 next =>
    ifB (decide (t < (row.len : Int)))
     (idx 3 row t fun p_1 =>
    ld (.agg 3) h_4 p_1 fun (x : Array Value) =>
    new 37 #[.int .i64 0, .string ⟨#[]⟩, .int .i64 0] h_4 fun p_2 h_5 =>
    x.size = 3 ∧ st x.toList h_5 p_2 fun h_6 =>
    ld (.agg 3) h_6 p_2 fun (x_1 : Array Value) =>
    ACalls Try.prog F_merge_meeting_wants [.pointer m, .int .i64 t, .agg x_1] h_6 fun v_1 h_7 => as0 v_1 (
    ar .i64 (t + 1) fun n =>
    next n h_7))
     (K (.tuple #[]) h_4)) 0 h_3)
def merge_meeting_row_a : Ann := (.seq (.seq .leaf (.seq .leaf (.cond .leaf .leaf))) (.seq .leaf (.block (.loop [(17, .int .i64)] [0, 15, 16] (.seq .leaf (.seq (.cond .leaf .leaf) (.seq (.block (.seq .leaf .leaf)) .leaf)))))))
theorem merge_meeting_row_eq (m : Option Addr) (row : Sl) (h : Heap) (K : Value → Heap → Prop) : merge_meeting_row m row h K = fnW Try.prog ty merge_meeting_row_a (bodyOf Try.f64) [] [.pointer m, row.v] h K := by kernel_rfl
theorem merge_meeting_row_of {m : Option Addr} {row : Sl} {h : Heap} {K : Value → Heap → Prop} (hw : merge_meeting_row m row h K) : ACalls Try.prog F_merge_meeting_row [.pointer m, row.v] h K :=
  calls_sound ty_ok mixed merge_meeting_row_a (c := bodyOf Try.f64) Try.func64 (by kernel_rfl) (by kernel_rfl) (by kernel_rfl) (Nat.le_of_ble_eq_true rfl) (by rw [merge_meeting_row_eq] at hw; exact hw)

/-- maps.Keys[map[int64]bool,int64,bool] -/
def maps_Keys (m : Option Nat) (h : Heap) (K : Value → Heap → Prop) : Prop :=
  new 108 #[.map m] h fun p h_1 =>
  K (.func (.func F_maps_Keys_map_int64_bool_int64_bool__1) #[] #[.pointer (some p)]) h_1
def maps_Keys_a : Ann := (.seq .leaf (.seq .leaf .leaf))
theorem maps_Keys_eq (m : Option Nat) (h : Heap) (K : Value → Heap → Prop) : maps_Keys m h K = fnW Try.prog ty maps_Keys_a (bodyOf Try.f66) [.tmp 2] [.map m] h K := by kernel_rfl
theorem maps_Keys_of {m : Option Nat} {h : Heap} {K : Value → Heap → Prop} (hw : maps_Keys m h K) : ACalls Try.prog F_maps_Keys [.map m] h K :=
  calls_sound ty_ok mixed maps_Keys_a (c := bodyOf Try.f66) Try.func66 (by kernel_rfl) (by kernel_rfl) (by kernel_rfl) (Nat.le_of_ble_eq_true rfl) (by rw [maps_Keys_eq] at hw; exact hw)

/-- (*lateen/merge.meeting).merged -/
def merge_meeting_merged (m : Option Addr) (l : Sl) (h : Heap) (K : Value → Heap → Prop) : Prop :=
  new 39 #[.int .i64 0, .string ⟨#[]⟩, .slice none 0 0, .int .i64 0, .string ⟨#[]⟩, .int .i64 0] h fun p h_1 =>
  idx 6 l 0 fun p_1 =>
  ld (.agg 6) h_1 p_1 fun (x : Array Value) =>
  new 39 #[.int .i64 0, .string ⟨#[]⟩, .slice none 0 0, .int .i64 0, .string ⟨#[]⟩, .int .i64 0] h_1 fun p_2 h_2 =>
  x.size = 6 ∧ st x.toList h_2 p_2 fun h_3 =>
  ACalls Try.prog F_merge_virtual [l.v] h_3 fun v h_4 => as1 (.int .i64) v fun r =>
  ifB (decide (r < (l.len : Int)))
   (loopW (fun _ (q_reals : Sl × Int) h_5 next =>
     ifB (decide (q_reals.2 < (l.len : Int)))
      (idx 6 l q_reals.2 fun p_3 =>
     ld (.agg 6) h_5 p_3 fun (x_1 : Array Value) =>
     new 39 #[.int .i64 0, .string ⟨#[]⟩, .slice none 0 0, .int .i64 0, .string ⟨#[]⟩, .int .i64 0] h_5 fun p_4 h_6 =>
     x_1.size = 6 ∧ st x_1.toList h_6 p_4 fun h_7 =>
     ld (.agg 3) h_7 (p_4.add 3) fun (x_2 : Array Value) =>
     bld si_Lapi_Arg 1 [(0, .agg x_2)] h_7 fun s h_8 =>
     app si_Lapi_Arg q_reals.1 s h_8 fun s_1 h_9 =>
     ar .i64 (q_reals.2 + 1) fun n =>
     next (s_1, n) h_9)
      (ld (.int .i64) h_5 (p_2.add 0) fun (x_3 : Int) =>
   ACalls Try.prog F_merge_meeting_phi [.pointer m, .int .i64 x_3, .int .i64 (-1), q_reals.1.v] h_5 fun v_1 h_10 => as1 (.agg 3) v_1 fun r_1 =>
   r_1.size = 3 ∧ st r_1.toList h_10 (p_2.add 3) fun h_11 =>
   ld (.agg 6) h_11 p_2 fun (x_4 : Array Value) =>
   x_4.size = 6 ∧ st x_4.toList h_11 p fun h_12 =>
   ld (.agg 6) h_12 p fun (x_5 : Array Value) => K (.agg x_5) h_12)) ((⟨none, 0, 0⟩ : Sl), 0) h_4)
   (ld .sl h_4 (p_2.add 2) fun (x_6 : Sl) =>
  ACalls Try.prog F_slices_Clone [x_6.v] h_4 fun v_2 h_13 => as1 .sl v_2 fun r_2 =>
  loopW (fun _ (t_1 : Int) h_14 next_1 =>
    ifB (decide (t_1 < (r_2.len : Int)))
     (∃ (R : Heap → Prop) (h_15 : Heap) (L : List As) (S : Specs), R h_14 ∧ Sep h_15 h_14 L ∧ (ldF (.int .i64) R (p_2.add 0) fun (x_7 : Int) =>
    freeW R h_15 (S 9 [.pointer m, l.v, .int .i64 t_1]) (L ++ []) (fun h_16 Kv =>
        ACalls Try.prog F_merge_meeting_field [.pointer m, l.v, .int .i64 t_1] h_16 fun v_3 h_17 => as1 .sl v_3 fun r_3 =>
        Kv r_3.v h_17) fun v_4 => as1 .sl v_4 fun r_4 =>
    freeW R h_15 (S 10 [.pointer m, .int .i64 x_7, .int .i64 t_1, r_4.v]) ((S 9 [.pointer m, l.v, .int .i64 t_1]).A v_4 ++ []) (fun h_18 Kv_1 =>
        ACalls Try.prog F_merge_meeting_phi [.pointer m, .int .i64 x_7, .int .i64 t_1, r_4.v] h_18 fun v_5 h_19 => as1 (.agg 3) v_5 fun r_5 =>
        Kv_1 (.agg r_5) h_19) fun v_6 => as1 (.agg 3) v_6 fun r_6 =>
    endF R h_15 ((S 10 [.pointer m, .int .i64 x_7, .int .i64 t_1, r_4.v]).A v_6 ++ []) fun h_20 =>
    idx 3 r_2 t_1 fun p_5 =>
    r_6.size = 3 ∧ st r_6.toList h_20 p_5 fun h_21 =>
    ar .i64 (t_1 + 1) fun n_1 =>
    next_1 n_1 h_21))
     (st [r_2.v] h_14 (p_2.add 2) fun h_22 =>
  ld (.agg 6) h_22 p_2 fun (x_8 : Array Value) =>
  x_8.size = 6 ∧ st x_8.toList h_22 p fun h_23 =>
  ld (.agg 6) h_23 p fun (x_9 : Array Value) => K (.agg x_9) h_23)) 0 h_13)
def merge_meeting_merged_a : Ann := (.seq .leaf (.seq .leaf (.seq (.seq .leaf (.cond (.seq .leaf (.seq (.seq .leaf (.block (.loop [(6, .sl), (21, .int .i64)] [0, 4, 5, 19, 20] (.seq .leaf (.seq (.cond .leaf .leaf) (.seq (.block (.seq .leaf .leaf)) .leaf)))))) (.seq .leaf (.seq .leaf .leaf)))) .leaf)) (.seq .leaf (.seq (.seq .leaf (.block (.loop [(43, .int .i64)] [0, 1, 4, 5, 9, 42] (.seq .leaf (.seq (.cond .leaf .leaf) (.seq (.block (.seq .leaf (.free 11 [[], [], [], [], [], [], [], [], [], [13], [9], [], []] [9, 10, 13]))) .leaf)))))) (.seq .leaf (.seq .leaf .leaf)))))))
theorem merge_meeting_merged_eq (m : Option Addr) (l : Sl) (h : Heap) (K : Value → Heap → Prop) : merge_meeting_merged m l h K = fnW Try.prog ty merge_meeting_merged_a (bodyOf Try.f67) [.cell 4 39] [.pointer m, l.v] h K := by kernel_rfl
theorem merge_meeting_merged_of {m : Option Addr} {l : Sl} {h : Heap} {K : Value → Heap → Prop} (hw : merge_meeting_merged m l h K) : ACalls Try.prog F_merge_meeting_merged [.pointer m, l.v] h K :=
  calls_sound ty_ok mixed merge_meeting_merged_a (c := bodyOf Try.f67) Try.func67 (by kernel_rfl) (by kernel_rfl) (by kernel_rfl) (Nat.le_of_ble_eq_true rfl) (by rw [merge_meeting_merged_eq] at hw; exact hw)

/-- (*lateen/merge.meeting).alias -/
def merge_meeting_alias (m : Option Addr) (row : Sl) (h : Heap) (K : Value → Heap → Prop) : Prop :=
  new 37 #[.int .i64 0, .string ⟨#[]⟩, .int .i64 0] h fun p h_1 =>
  loopW (fun _ (t : Int) h_2 next =>
    ifB (decide (t < (row.len : Int)))
     (idx 3 row t fun p_1 =>
    ld (.agg 3) h_2 p_1 fun (x : Array Value) =>
    new 37 #[.int .i64 0, .string ⟨#[]⟩, .int .i64 0] h_2 fun p_2 h_3 =>
    x.size = 3 ∧ st x.toList h_3 p_2 fun h_4 =>
    joinW (fun _ (t_1 : Bool) h_5 =>
      ifB t_1
       (bst [(0, 1), (1, 1), (2, 1)] #[.int .i64 0, .string ⟨#[]⟩, .int .i64 0] [] fun c =>
       c.size = 3 ∧ st c.toList h_5 p fun h_6 =>
       ld (.agg 3) h_6 p fun (x_1 : Array Value) => K (.tuple #[.agg x_1, .bool false]) h_6)
       (ar .i64 (t + 1) fun n =>
    next n h_5)) fun k =>
    ld (.agg 3) h_4 p_2 fun (x_2 : Array Value) =>
    idx 3 row 0 fun p_3 =>
    ld (.agg 3) h_4 p_3 fun (x_3 : Array Value) =>
    eqA [.int .i64, .str, .int .i64] x_2 x_3 fun b =>
    ifB (!b)
     (k true h_4)
     (nilck m fun p_4 =>
      ld .sl h_4 (p_4.add 0) fun (x_4 : Sl) =>
        idx 1 x_4 t fun p_5 =>
          ld .sl h_4 p_5 fun (x_5 : Sl) =>
           ld (.agg 3) h_4 p_2 fun (x_6 : Array Value) =>
            ACalls Try.prog F_vstate_Virtual [x_5.v, .agg x_6] h_4 fun v h_7 => as1 .bool v fun r =>
             hExt h_4 h_7 ∧ k (!r) h_7))
     (idx 3 row 0 fun p_6 =>
  ld (.agg 3) h_2 p_6 fun (x_7 : Array Value) =>
  x_7.size = 3 ∧ st x_7.toList h_2 p fun h_8 =>
  ld (.agg 3) h_8 p fun (x_8 : Array Value) => K (.tuple #[.agg x_8, .bool true]) h_8)) 0 h_1
def merge_meeting_alias_a : Ann := (.seq .leaf (.seq (.seq .leaf (.block (.loop [(10, .int .i64)] [0, 1, 4, 8, 9] (.seq .leaf (.seq (.cond .leaf .leaf) (.seq (.block (.seq .leaf (.join [(31, .bool)] [0, 1, 4, 8, 9, 10] .based (.cond (.seq .leaf .leaf) .leaf)))) .leaf)))))) (.seq .leaf .leaf)))
theorem merge_meeting_alias_eq (m : Option Addr) (row : Sl) (h : Heap) (K : Value → Heap → Prop) : merge_meeting_alias m row h K = fnW Try.prog ty merge_meeting_alias_a (bodyOf Try.f68) [.cell 4 37, .tmp 5] [.pointer m, row.v] h K := by kernel_rfl
theorem merge_meeting_alias_of {m : Option Addr} {row : Sl} {h : Heap} {K : Value → Heap → Prop} (hw : merge_meeting_alias m row h K) : ACalls Try.prog F_merge_meeting_alias [.pointer m, row.v] h K :=
  calls_sound ty_ok mixed merge_meeting_alias_a (c := bodyOf Try.f68) Try.func68 (by kernel_rfl) (by kernel_rfl) (by kernel_rfl) (Nat.le_of_ble_eq_true rfl) (by rw [merge_meeting_alias_eq] at hw; exact hw)

/-- lateen/vstate.find -/
def vstate_find (s : Sl) (a : Array Value) (h : Heap) (K : Value → Heap → Prop) : Prop :=
  new 37 a h fun p h_1 =>
  new 39 #[.int .i64 0, .string ⟨#[]⟩, .slice none 0 0, .int .i64 0, .string ⟨#[]⟩, .int .i64 0] h_1 fun p_1 h_2 =>
  ld (.int .i64) h_2 (p.add 0) fun (x : Int) =>
  ifB (x != 5)
   (bst [(0, 1), (1, 1), (2, 1), (3, 3)] #[.int .i64 0, .string ⟨#[]⟩, .slice none 0 0, .int .i64 0, .string ⟨#[]⟩, .int .i64 0] [] fun c =>
   c.size = 6 ∧ st c.toList h_2 p_1 fun h_3 =>
   ld (.agg 6) h_3 p_1 fun (x_1 : Array Value) => K (.tuple #[.agg x_1, .bool false]) h_3)
   (ld (.int .i64) h_2 (p.add 2) fun (x_2 : Int) =>
  ACalls Try.prog F_vstate_place [s.v, .int .i64 x_2] h_2 fun v h_4 => as2 (.int .i64) .bool v fun r r_1 =>
  ifB (!r_1)
   (bst [(0, 1), (1, 1), (2, 1), (3, 3)] #[.int .i64 0, .string ⟨#[]⟩, .slice none 0 0, .int .i64 0, .string ⟨#[]⟩, .int .i64 0] [] fun c_1 =>
   c_1.size = 6 ∧ st c_1.toList h_4 p_1 fun h_5 =>
   ld (.agg 6) h_5 p_1 fun (x_3 : Array Value) => K (.tuple #[.agg x_3, .bool false]) h_5)
   (idx 6 s r fun p_2 =>
  ld (.agg 6) h_4 p_2 fun (x_4 : Array Value) =>
  x_4.size = 6 ∧ st x_4.toList h_4 p_1 fun h_6 =>
  ld (.agg 6) h_6 p_1 fun (x_5 : Array Value) => K (.tuple #[.agg x_5, .bool true]) h_6))
def vstate_find_a : Ann := (.seq .leaf (.seq (.seq .leaf (.cond (.seq .leaf .leaf) .leaf)) (.seq .leaf (.seq (.seq .leaf (.cond (.seq .leaf .leaf) .leaf)) (.seq .leaf .leaf)))))
theorem vstate_find_eq (s : Sl) (a : Array Value) (h : Heap) (K : Value → Heap → Prop) : vstate_find s a h K = fnW Try.prog ty vstate_find_a (bodyOf Try.f69) [.cell 4 39, .tmp 5] [s.v, .agg a] h K := by kernel_rfl
theorem vstate_find_of {s : Sl} {a : Array Value} {h : Heap} {K : Value → Heap → Prop} (hw : vstate_find s a h K) : ACalls Try.prog F_vstate_find [s.v, .agg a] h K :=
  calls_sound ty_ok mixed vstate_find_a (c := bodyOf Try.f69) Try.func69 (by kernel_rfl) (by kernel_rfl) (by kernel_rfl) (Nat.le_of_ble_eq_true rfl) (by rw [vstate_find_eq] at hw; exact hw)

/-- (lateen/vstate.Obj).copied -/
def vstate_Obj_copied (o : Array Value) (h : Heap) (K : Value → Heap → Prop) : Prop :=
  new 39 o h fun p h_1 =>
  new 39 #[.int .i64 0, .string ⟨#[]⟩, .slice none 0 0, .int .i64 0, .string ⟨#[]⟩, .int .i64 0] h_1 fun p_1 h_2 =>
  ld .sl h_2 (p.add 2) fun (x : Sl) =>
  ACalls Try.prog F_slices_Clone [x.v] h_2 fun v h_3 => as1 .sl v fun r =>
  st [r.v] h_3 (p.add 2) fun h_4 =>
  ld (.agg 6) h_4 p fun (x_1 : Array Value) =>
  x_1.size = 6 ∧ st x_1.toList h_4 p_1 fun h_5 =>
  ld (.agg 6) h_5 p_1 fun (x_2 : Array Value) => K (.agg x_2) h_5
def vstate_Obj_copied_a : Ann := (.seq .leaf (.seq .leaf (.seq .leaf .leaf)))
theorem vstate_Obj_copied_eq (o : Array Value) (h : Heap) (K : Value → Heap → Prop) : vstate_Obj_copied o h K = fnW Try.prog ty vstate_Obj_copied_a (bodyOf Try.f70) [.cell 2 39] [.agg o] h K := by kernel_rfl
theorem vstate_Obj_copied_of {o : Array Value} {h : Heap} {K : Value → Heap → Prop} (hw : vstate_Obj_copied o h K) : ACalls Try.prog F_vstate_Obj_copied [.agg o] h K :=
  calls_sound ty_ok mixed vstate_Obj_copied_a (c := bodyOf Try.f70) Try.func70 (by kernel_rfl) (by kernel_rfl) (by kernel_rfl) (Nat.le_of_ble_eq_true rfl) (by rw [vstate_Obj_copied_eq] at hw; exact hw)

/-- slices.Clone[[]lateen/api.Arg,lateen/api.Arg] -/
def slices_Clone (s : Sl) (h : Heap) (K : Value → Heap → Prop) : Prop :=
  ifB s.a.isNone
   (K ((⟨none, 0, 0⟩ : Sl).v) h)
   (bld si_Lapi_Arg 0 [] h fun s_1 h_1 =>
  app si_Lapi_Arg s_1 s h_1 fun s_2 h_2 =>
  K s_2.v h_2)
def slices_Clone_a : Ann := (.seq .leaf (.seq (.seq .leaf (.cond (.seq .leaf .leaf) .leaf)) (.seq .leaf .leaf)))
theorem slices_Clone_eq (s : Sl) (h : Heap) (K : Value → Heap → Prop) : slices_Clone s h K = fnW Try.prog ty slices_Clone_a (bodyOf Try.f71) [.tmp 2] [s.v] h K := by kernel_rfl
theorem slices_Clone_of {s : Sl} {h : Heap} {K : Value → Heap → Prop} (hw : slices_Clone s h K) : ACalls Try.prog F_slices_Clone [s.v] h K :=
  calls_sound ty_ok mixed slices_Clone_a (c := bodyOf Try.f71) Try.func71 (by kernel_rfl) (by kernel_rfl) (by kernel_rfl) (Nat.le_of_ble_eq_true rfl) (by rw [slices_Clone_eq] at hw; exact hw)

/-- lateen/vstate.copied -/
def vstate_copied (s : Sl) (h : Heap) (K : Value → Heap → Prop) : Prop :=
  loopW (fun _ (q_out : Sl × Int) h_1 next =>
    ifB (decide (q_out.2 < (s.len : Int)))
     (idx 6 s q_out.2 fun p =>
    ld (.agg 6) h_1 p fun (x : Array Value) =>
    new 39 #[.int .i64 0, .string ⟨#[]⟩, .slice none 0 0, .int .i64 0, .string ⟨#[]⟩, .int .i64 0] h_1 fun p_1 h_2 =>
    x.size = 6 ∧ st x.toList h_2 p_1 fun h_3 =>
    ld (.agg 6) h_3 p_1 fun (x_1 : Array Value) =>
    ACalls Try.prog F_vstate_Obj_copied [.agg x_1] h_3 fun v h_4 => as1 (.agg 6) v fun r =>
    bld si_Lvstate_Obj 1 [(0, .agg r)] h_4 fun s_1 h_5 =>
    app si_Lvstate_Obj q_out.1 s_1 h_5 fun s_2 h_6 =>
    ar .i64 (q_out.2 + 1) fun n =>
    next (s_2, n) h_6)
     (K q_out.1.v h_1)) ((⟨none, 0, 0⟩ : Sl), 0) h
def vstate_copied_a : Ann := (.seq .leaf (.seq .leaf (.seq (.seq .leaf (.block (.loop [(3, .sl), (8, .int .i64)] [6, 7] (.seq .leaf (.seq (.cond .leaf .leaf) (.seq (.block (.seq .leaf .leaf)) .leaf)))))) (.seq .leaf .leaf))))
theorem vstate_copied_eq (s : Sl) (h : Heap) (K : Value → Heap → Prop) : vstate_copied s h K = fnW Try.prog ty vstate_copied_a (bodyOf Try.f72) [.tmp 2] [s.v] h K := by kernel_rfl
theorem vstate_copied_of {s : Sl} {h : Heap} {K : Value → Heap → Prop} (hw : vstate_copied s h K) : ACalls Try.prog F_vstate_copied [s.v] h K :=
  calls_sound ty_ok mixed vstate_copied_a (c := bodyOf Try.f72) Try.func72 (by kernel_rfl) (by kernel_rfl) (by kernel_rfl) (Nat.le_of_ble_eq_true rfl) (by rw [vstate_copied_eq] at hw; exact hw)

/-- lateen/vstate.place -/
def vstate_place (s : Sl) (id : Int) (h : Heap) (K : Value → Heap → Prop) : Prop :=
  new 27 #[s.v] h fun p h_1 =>
  new 2 #[.int .i64 id] h_1 fun p_1 h_2 =>
  ld .sl h_2 p fun (x : Sl) =>
  ACalls Try.prog F_sort_Search [.int .i64 (x.len : Int), .func (.func F_vstate_place_1) #[] #[.pointer (some p), .pointer (some p_1)]] h_2 fun v h_3 => as1 (.int .i64) v fun r =>
  joinW (fun _ (q_t : Int × Bool) h_4 =>
    K (.tuple #[.int .i64 q_t.1, .bool q_t.2]) h_4) fun k =>
  ld .sl h_3 p fun (x_1 : Sl) =>
  ifB (decide (r < (x_1.len : Int)))
   (ld .sl h_3 p fun (x_2 : Sl) =>
   idx 6 x_2 r fun p_2 =>
     ld (.int .i64) h_3 (p_2.add 0) fun (x_3 : Int) =>
       ld (.int .i64) h_3 p_1 fun (x_4 : Int) =>
        k (r, x_3 == x_4) h_3)
   (k (r, false) h_3)
def vstate_place_a : Ann := (.seq .leaf (.seq .leaf (.join [(4, .int .i64), (5, .bool)] [] .leaf .leaf)))
theorem vstate_place_eq (s : Sl) (id : Int) (h : Heap) (K : Value → Heap → Prop) : vstate_place s id h K = fnW Try.prog ty vstate_place_a (bodyOf Try.f73) [.tmp 4, .tmp 5] [s.v, .int .i64 id] h K := by kernel_rfl
theorem vstate_place_of {s : Sl} {id : Int} {h : Heap} {K : Value → Heap → Prop} (hw : vstate_place s id h K) : ACalls Try.prog F_vstate_place [s.v, .int .i64 id] h K :=
  calls_sound ty_ok mixed vstate_place_a (c := bodyOf Try.f73) Try.func73 (by kernel_rfl) (by kernel_rfl) (by kernel_rfl) (Nat.le_of_ble_eq_true rfl) (by rw [vstate_place_eq] at hw; exact hw)

/-- slices.Insert[[]lateen/vstate.Obj,lateen/vstate.Obj] -/
def slices_Insert (s : Sl) (i : Int) (v : Sl) (h : Heap) (K : Value → Heap → Prop) : Prop :=
  slc 6 s (some i) none fun _ =>
  ifB ((v.len : Int) == 0)
   (K s.v h)
   (ifB (i == (s.len : Int))
   (app si_Lvstate_Obj s v h fun s_2 h_1 =>
   K s_2.v h_1)
   (ar .i64 ((s.len : Int) + (v.len : Int)) fun n =>
  ifB (decide (n > (s.cap : Int)))
   (slc 6 s none (some i) fun s_3 =>
   ar .i64 ((s.len : Int) + (v.len : Int)) fun n_1 =>
   ar .i64 (n_1 - i) fun n_2 =>
   apz si_Lvstate_Obj s_3 n_2 h fun s_4 h_2 =>
   slc 6 s_4 (some i) none fun s_5 =>
   cpy 6 s_5 v h_2 fun _ h_3 =>
   ar .i64 (i + (v.len : Int)) fun n_4 =>
   slc 6 s_4 (some n_4) none fun s_6 =>
   slc 6 s (some i) none fun s_7 =>
   cpy 6 s_6 s_7 h_3 fun _ h_4 =>
   K s_4.v h_4)
   (ar .i64 ((s.len : Int) + (v.len : Int)) fun n_6 =>
  slc 6 s none (some n_6) fun s_8 =>
  ar .i64 (i + (v.len : Int)) fun n_7 =>
  slc 6 s_8 (some n_7) none fun s_9 =>
  callX Try.prog F_slices_overlaps [v.v, s_9.v] h fun v_1 => as1 .bool v_1 fun r =>
  ifB (!r)
   (ar .i64 (i + (v.len : Int)) fun n_8 =>
   slc 6 s_8 (some n_8) none fun s_10 =>
   slc 6 s_8 (some i) none fun s_11 =>
   cpy 6 s_10 s_11 h fun _ h_5 =>
   slc 6 s_8 (some i) none fun s_12 =>
   cpy 6 s_12 v h_5 fun _ h_6 =>
   K s_8.v h_6)
   (slc 6 s_8 (some (s.len : Int)) none fun s_13 =>
  cpy 6 s_13 v h fun _ h_7 =>
  slc 6 s_8 (some i) none fun s_14 =>
  ACalls Try.prog F_slices_rotateRight [s_14.v, .int .i64 (v.len : Int)] h_7 fun v_2 h_8 => as0 v_2 (
  K s_8.v h_8)))))
def slices_Insert_a : Ann := (.seq .leaf (.seq .leaf (.seq .leaf (.seq (.seq .leaf (.cond (.seq .leaf .leaf) .leaf)) (.seq .leaf (.seq (.seq .leaf (.cond (.seq .leaf .leaf) .leaf)) (.seq (.seq .leaf (.cond (.seq .leaf (.seq .leaf (.seq .leaf (.seq .leaf .leaf)))) .leaf)) (.seq .leaf (.seq (.seq .leaf (.cond (.seq .leaf (.seq .leaf (.seq .leaf .leaf))) .leaf)) (.seq .leaf (.seq .leaf (.seq .leaf .leaf))))))))))))
theorem slices_Insert_eq (s : Sl) (i : Int) (v : Sl) (h : Heap) (K : Value → Heap → Prop) : slices_Insert s i v h K = fnW Try.prog ty slices_Insert_a (bodyOf Try.f74) [.tmp 6] [s.v, .int .i64 i, v.v] h K := by kernel_rfl
theorem slices_Insert_of {s : Sl} {i : Int} {v : Sl} {h : Heap} {K : Value → Heap → Prop} (hw : slices_Insert s i v h K) : ACalls Try.prog F_slices_Insert [s.v, .int .i64 i, v.v] h K :=
  calls_sound ty_ok mixed slices_Insert_a (c := bodyOf Try.f74) Try.func74 (by kernel_rfl) (by kernel_rfl) (by kernel_rfl) (Nat.le_of_ble_eq_true rfl) (by rw [slices_Insert_eq] at hw; exact hw)

/-- slices.EqualFunc[[]lateen/vstate.Obj,[]lateen/vstate.Obj,lateen/vstate.Obj,lateen/vstate.Obj] -/
def slices_EqualFunc (s1 : Sl) (s2 : Sl) (eq : Value) (h : Heap) (K : Value → Heap → Prop) : Prop :=
  ifB ((s1.len : Int) != (s2.len : Int))
   (K (.bool false) h)
   (loopW (fun _ (t : Int) h_1 next =>
    ifB (decide (t < (s1.len : Int)))
     (idx 6 s1 t fun p =>
    ld (.agg 6) h_1 p fun (x : Array Value) =>
    new 39 #[.int .i64 0, .string ⟨#[]⟩, .slice none 0 0, .int .i64 0, .string ⟨#[]⟩, .int .i64 0] h_1 fun p_1 h_2 =>
    x.size = 6 ∧ st x.toList h_2 p_1 fun h_3 =>
    idx 6 s2 t fun p_2 =>
    ld (.agg 6) h_3 p_2 fun (x_1 : Array Value) =>
    new 39 #[.int .i64 0, .string ⟨#[]⟩, .slice none 0 0, .int .i64 0, .string ⟨#[]⟩, .int .i64 0] h_3 fun p_3 h_4 =>
    x_1.size = 6 ∧ st x_1.toList h_4 p_3 fun h_5 =>
    ld (.agg 6) h_5 p_1 fun (x_2 : Array Value) =>
    ld (.agg 6) h_5 p_3 fun (x_3 : Array Value) =>
    callV Try.prog eq [.agg x_2, .agg x_3] h_5 fun v h_6 => as1 .bool v fun r =>
    ifB (!r)
     (K (.bool false) h_6)
     (ar .i64 (t + 1) fun n =>
    next n h_6))
     (K (.bool true) h_1)) 0 h)
def slices_EqualFunc_a : Ann := (.seq .leaf (.seq (.seq .leaf (.cond (.seq .leaf .leaf) .leaf)) (.seq (.seq .leaf (.block (.loop [(17, .int .i64)] [1, 2, 15, 16] (.seq .leaf (.seq (.cond .leaf .leaf) (.seq (.block (.seq .leaf (.seq .leaf (.seq .leaf (.cond (.seq .leaf .leaf) .leaf))))) .leaf)))))) (.seq .leaf .leaf))))
theorem slices_EqualFunc_eq (s1 : Sl) (s2 : Sl) (eq : Value) (h : Heap) (K : Value → Heap → Prop) : slices_EqualFunc s1 s2 eq h K = fnW Try.prog ty slices_EqualFunc_a (bodyOf Try.f75) [.tmp 6] [s1.v, s2.v, eq] h K := by kernel_rfl
theorem slices_EqualFunc_of {s1 : Sl} {s2 : Sl} {eq : Value} {h : Heap} {K : Value → Heap → Prop} (hw : slices_EqualFunc s1 s2 eq h K) : ACalls Try.prog F_slices_EqualFunc [s1.v, s2.v, eq] h K :=
  calls_sound ty_ok mixed slices_EqualFunc_a (c := bodyOf Try.f75) Try.func75 (by kernel_rfl) (by kernel_rfl) (by kernel_rfl) (Nat.le_of_ble_eq_true rfl) (by rw [slices_EqualFunc_eq] at hw; exact hw)

/-- lateen/vstate.same -/
def vstate_same (a : Array Value) (b : Array Value) (h : Heap) (K : Value → Heap → Prop) : Prop :=
  new 39 a h fun p h_1 =>
  new 39 b h_1 fun p_1 h_2 =>
  joinW (fun _ (t : Bool) h_3 =>
    K (.bool t) h_3) fun k =>
  ld (.int .i64) h_2 (p.add 0) fun (x : Int) =>
  ld (.int .i64) h_2 (p_1.add 0) fun (x_1 : Int) =>
  ifB (x == x_1)
   (ld .str h_2 (p.add 1) fun (x_2 : ByteArray) =>
    ld .str h_2 (p_1.add 1) fun (x_3 : ByteArray) =>
      ifB (x_2.toList == x_3.toList)
        (ld (.agg 3) h_2 (p.add 3) fun (x_4 : Array Value) =>
         ld (.agg 3) h_2 (p_1.add 3) fun (x_5 : Array Value) =>
           eqA [.int .i64, .str, .int .i64] x_4 x_5 fun b_1 =>
            ifB b_1
             (ld .sl h_2 (p.add 2) fun (x_6 : Sl) =>
              ld .sl h_2 (p_1.add 2) fun (x_7 : Sl) =>
                ACalls Try.prog F_slices_Equal [x_6.v, x_7.v] h_2 fun v h_4 => as1 .bool v fun r =>
                 k r h_4)
             (k false h_2))
        (k false h_2))
   (k false h_2)
def vstate_same_a : Ann := (.seq .leaf (.join [(4, .bool)] [] .leaf .leaf))
theorem vstate_same_eq (a : Array Value) (b : Array Value) (h : Heap) (K : Value → Heap → Prop) : vstate_same a b h K = fnW Try.prog ty vstate_same_a (bodyOf Try.f76) [.tmp 4] [.agg a, .agg b] h K := by kernel_rfl
theorem vstate_same_of {a : Array Value} {b : Array Value} {h : Heap} {K : Value → Heap → Prop} (hw : vstate_same a b h K) : ACalls Try.prog F_vstate_same [.agg a, .agg b] h K :=
  calls_sound ty_ok mixed vstate_same_a (c := bodyOf Try.f76) Try.func76 (by kernel_rfl) (by kernel_rfl) (by kernel_rfl) (Nat.le_of_ble_eq_true rfl) (by rw [vstate_same_eq] at hw; exact hw)

/-- lateen/merge.virtual -/
def merge_virtual (l : Sl) (h : Heap) (K : Value → Heap → Prop) : Prop :=
  loopW (fun _ (q_n : Int × Int) h_1 next =>
    ifB (decide (q_n.2 < (l.len : Int)))
     (joinW (fun _ (n_1 : Int) h_2 =>
      ar .i64 (q_n.2 + 1) fun n_2 =>
      next (n_1, n_2) h_2) fun k =>
    idx 6 l q_n.2 fun p =>
    ld (.agg 6) h_1 p fun (x : Array Value) =>
    new 39 #[.int .i64 0, .string ⟨#[]⟩, .slice none 0 0, .int .i64 0, .string ⟨#[]⟩, .int .i64 0] h_1 fun p_1 h_3 =>
    x.size = 6 ∧ st x.toList h_3 p_1 fun h_4 =>
    ld (.int .i64) h_4 ((p_1.add 3).add 0) fun (x_1 : Int) =>
    ifB (x_1 == 0)
     (ar .i64 (q_n.1 + 1) fun n_3 =>
     k n_3 h_4)
     (k q_n.1 h_4))
     (K (.int .i64 q_n.1) h_1)) (0, 0) h
def merge_virtual_a : Ann := (.seq .leaf (.seq .leaf (.seq (.seq .leaf (.block (.loop [(3, .int .i64), (8, .int .i64)] [6, 7] (.seq .leaf (.seq (.cond .leaf .leaf) (.join [(3, .int .i64)] [6, 7, 8] (.block (.seq .leaf (.seq .leaf (.cond .leaf .leaf)))) .leaf)))))) (.seq .leaf .leaf))))
theorem merge_virtual_eq (l : Sl) (h : Heap) (K : Value → Heap → Prop) : merge_virtual l h K = fnW Try.prog ty merge_virtual_a (bodyOf Try.f92) [.tmp 2] [l.v] h K := by kernel_rfl
theorem merge_virtual_of {l : Sl} {h : Heap} {K : Value → Heap → Prop} (hw : merge_virtual l h K) : ACalls Try.prog F_merge_virtual [l.v] h K :=
  calls_sound ty_ok mixed merge_virtual_a (c := bodyOf Try.f92) Try.func92 (by kernel_rfl) (by kernel_rfl) (by kernel_rfl) (Nat.le_of_ble_eq_true rfl) (by rw [merge_virtual_eq] at hw; exact hw)

/-- (*lateen/merge.meeting).wants -/
def merge_meeting_wants (m : Option Addr) (way : Int) (a : Array Value) (h : Heap) (K : Value → Heap → Prop) : Prop :=
  new 37 a h fun p h_1 =>
  nilck m fun p_1 =>
  ld .sl h_1 (p_1.add 0) fun (x : Sl) =>
  idx 1 x way fun p_2 =>
  ld .sl h_1 p_2 fun (x_1 : Sl) =>
  ld (.agg 3) h_1 p fun (x_2 : Array Value) =>
  ACalls Try.prog F_vstate_Virtual [x_1.v, .agg x_2] h_1 fun v h_2 => as1 .bool v fun r =>
  hExt h_1 h_2 ∧ ifB r
   (nilck m fun p_3 =>
   ld .sl h_2 (p_3.add 1) fun (x_3 : Sl) =>
   idx 1 x_3 way fun p_4 =>
   ld .map h_2 p_4 fun (x_4 : Option Nat) =>
   ld (.int .i64) h_2 (p.add 2) fun (x_5 : Int) =>
   mup (.int .i64) x_4 (.int .i64 x_5) (.bool true) h_2 fun h_3 =>
   K (.tuple #[]) h_3)
   (K (.tuple #[]) h_2)
def merge_meeting_wants_a : Ann := (.seq .leaf (.seq .based (.cond .leaf .leaf)))
theorem merge_meeting_wants_eq (m : Option Addr) (way : Int) (a : Array Value) (h : Heap) (K : Value → Heap → Prop) : merge_meeting_wants m way a h K = fnW Try.prog ty merge_meeting_wants_a (bodyOf Try.f93) [] [.pointer m, .int .i64 way, .agg a] h K := by kernel_rfl
theorem merge_meeting_wants_of {m : Option Addr} {way : Int} {a : Array Value} {h : Heap} {K : Value → Heap → Prop} (hw : merge_meeting_wants m way a h K) : ACalls Try.prog F_merge_meeting_wants [.pointer m, .int .i64 way, .agg a] h K :=
  calls_sound ty_ok mixed merge_meeting_wants_a (c := bodyOf Try.f93) Try.func93 (by kernel_rfl) (by kernel_rfl) (by kernel_rfl) (Nat.le_of_ble_eq_true rfl) (by rw [merge_meeting_wants_eq] at hw; exact hw)

/-- (*lateen/merge.meeting).field -/
def merge_meeting_field (m : Option Addr) (l : Sl) (atv : Int) (h : Heap) (K : Value → Heap → Prop) : Prop :=
  loopW (fun _ (q_out : Sl × Int) h_1 next =>
    ifB (decide (q_out.2 < (l.len : Int)))
     (idx 6 l q_out.2 fun p =>
    ld (.agg 6) h_1 p fun (x : Array Value) =>
    new 39 #[.int .i64 0, .string ⟨#[]⟩, .slice none 0 0, .int .i64 0, .string ⟨#[]⟩, .int .i64 0] h_1 fun p_1 h_2 =>
    x.size = 6 ∧ st x.toList h_2 p_1 fun h_3 =>
    ld .sl h_3 (p_1.add 2) fun (x_1 : Sl) =>
    idx 3 x_1 atv fun p_2 =>
    ld (.agg 3) h_3 p_2 fun (x_2 : Array Value) =>
    bld si_Lapi_Arg 1 [(0, .agg x_2)] h_3 fun s h_4 =>
    app si_Lapi_Arg q_out.1 s h_4 fun s_1 h_5 =>
    ar .i64 (q_out.2 + 1) fun n =>
    next (s_1, n) h_5)
     (ACalls Try.prog F_merge_meeting_really [.pointer m, q_out.1.v] h_1 fun v h_6 => as1 .sl v fun r =>
  K r.v h_6)) ((⟨none, 0, 0⟩ : Sl), 0) h
def merge_meeting_field_a : Ann := (.seq .leaf (.seq .leaf (.seq (.seq .leaf (.block (.loop [(7, .sl), (12, .int .i64)] [0, 2, 10, 11] (.seq .leaf (.seq (.cond .leaf .leaf) (.seq (.block (.seq .leaf .leaf)) .leaf)))))) (.seq .leaf .leaf))))
theorem merge_meeting_field_eq (m : Option Addr) (l : Sl) (atv : Int) (h : Heap) (K : Value → Heap → Prop) : merge_meeting_field m l atv h K = fnW Try.prog ty merge_meeting_field_a (bodyOf Try.f94) [.tmp 6] [.pointer m, l.v, .int .i64 atv] h K := by kernel_rfl
theorem merge_meeting_field_of {m : Option Addr} {l : Sl} {atv : Int} {h : Heap} {K : Value → Heap → Prop} (hw : merge_meeting_field m l atv h K) : ACalls Try.prog F_merge_meeting_field [.pointer m, l.v, .int .i64 atv] h K :=
  calls_sound ty_ok mixed merge_meeting_field_a (c := bodyOf Try.f94) Try.func94 (by kernel_rfl) (by kernel_rfl) (by kernel_rfl) (Nat.le_of_ble_eq_true rfl) (by rw [merge_meeting_field_eq] at hw; exact hw)

/-- lateen/merge.one -/
def merge_one (l : Sl) (h : Heap) (K : Value → Heap → Prop) : Prop :=
  new 37 #[.int .i64 0, .string ⟨#[]⟩, .int .i64 0] h fun p h_1 =>
  loopW (fun _ (t : Int) h_2 next =>
    ifB (decide (t < (l.len : Int)))
     (idx 3 l t fun p_1 =>
    ld (.agg 3) h_2 p_1 fun (x : Array Value) =>
    new 37 #[.int .i64 0, .string ⟨#[]⟩, .int .i64 0] h_2 fun p_2 h_3 =>
    x.size = 3 ∧ st x.toList h_3 p_2 fun h_4 =>
    ld (.agg 3) h_4 p_2 fun (x_1 : Array Value) =>
    idx 3 l 0 fun p_3 =>
    ld (.agg 3) h_4 p_3 fun (x_2 : Array Value) =>
    eqA [.int .i64, .str, .int .i64] x_1 x_2 fun b =>
    ifB (!b)
     (bst [(0, 1), (1, 1), (2, 1)] #[.int .i64 0, .string ⟨#[]⟩, .int .i64 0] [] fun c =>
     c.size = 3 ∧ st c.toList h_4 p fun h_5 =>
     ld (.agg 3) h_5 p fun (x_3 : Array Value) => K (.tuple #[.agg x_3, .bool false]) h_5)
     (ar .i64 (t + 1) fun n =>
    next n h_4))
     (idx 3 l 0 fun p_4 =>
  ld (.agg 3) h_2 p_4 fun (x_4 : Array Value) =>
  x_4.size = 3 ∧ st x_4.toList h_2 p fun h_6 =>
  ld (.agg 3) h_6 p fun (x_5 : Array Value) => K (.tuple #[.agg x_5, .bool true]) h_6)) 0 h_1
def merge_one_a : Ann := (.seq .leaf (.seq (.seq .leaf (.block (.loop [(8, .int .i64)] [0, 2, 6, 7] (.seq .leaf (.seq (.cond .leaf .leaf) (.seq (.block (.seq .leaf (.seq .leaf (.cond (.seq .leaf .leaf) .leaf)))) .leaf)))))) (.seq .leaf .leaf)))
theorem merge_one_eq (l : Sl) (h : Heap) (K : Value → Heap → Prop) : merge_one l h K = fnW Try.prog ty merge_one_a (bodyOf Try.f95) [.cell 2 37, .tmp 3] [l.v] h K := by kernel_rfl
theorem merge_one_of {l : Sl} {h : Heap} {K : Value → Heap → Prop} (hw : merge_one l h K) : ACalls Try.prog F_merge_one [l.v] h K :=
  calls_sound ty_ok mixed merge_one_a (c := bodyOf Try.f95) Try.func95 (by kernel_rfl) (by kernel_rfl) (by kernel_rfl) (Nat.le_of_ble_eq_true rfl) (by rw [merge_one_eq] at hw; exact hw)

/-- maps.Keys[map[int64]bool,int64,bool]$1 -/
def maps_Keys_map_int64_bool_int64_bool__1 (_yield : Value) (p : Addr) (h : Heap) (_K : Value → Heap → Prop) : Prop :=
  ld .map h p fun (_x : Option Nat) =>
  False
def maps_Keys_map_int64_bool_int64_bool__1_a : Ann := (.seq .leaf (.block (.loop [] [] (.seq .leaf (.seq (.cond .leaf .leaf) (.block (.seq .leaf (.seq .leaf (.cond .leaf .leaf)))))))))
theorem maps_Keys_map_int64_bool_int64_bool__1_eq (yield : Value) (p : Addr) (h : Heap) (K : Value → Heap → Prop) : maps_Keys_map_int64_bool_int64_bool__1 yield p h K = fnW Try.prog ty maps_Keys_map_int64_bool_int64_bool__1_a (bodyOf Try.f98) [] [yield, .pointer (some p)] h K := by kernel_rfl
theorem maps_Keys_map_int64_bool_int64_bool__1_of {yield : Value} {p : Addr} {h : Heap} {K : Value → Heap → Prop} (hw : maps_Keys_map_int64_bool_int64_bool__1 yield p h K) : ACalls Try.prog F_maps_Keys_map_int64_bool_int64_bool__1 [yield, .pointer (some p)] h K :=
  calls_sound ty_ok mixed maps_Keys_map_int64_bool_int64_bool__1_a (c := bodyOf Try.f98) Try.func98 (by kernel_rfl) (by kernel_rfl) (by kernel_rfl) (Nat.le_of_ble_eq_true rfl) (by rw [maps_Keys_map_int64_bool_int64_bool__1_eq] at hw; exact hw)

/-- (*lateen/merge.meeting).phi -/
def merge_meeting_phi (m : Option Addr) (id : Int) (field : Int) (l : Sl) (h : Heap) (K : Value → Heap → Prop) : Prop :=
  new 37 #[.int .i64 0, .string ⟨#[]⟩, .int .i64 0] h fun p h_1 =>
  ACalls Try.prog F_merge_one [l.v] h_1 fun v h_2 => as2 (.agg 3) .bool v fun r r_1 =>
  new 37 #[.int .i64 0, .string ⟨#[]⟩, .int .i64 0] h_2 fun p_1 h_3 =>
  r.size = 3 ∧ st r.toList h_3 p_1 fun h_4 =>
  ifB r_1
   (ld (.agg 3) h_4 p_1 fun (x : Array Value) =>
   x.size = 3 ∧ st x.toList h_4 p fun h_5 =>
   ld (.agg 3) h_5 p fun (x_1 : Array Value) => K (.agg x_1) h_5)
   (nilck m fun p_2 =>
  ld .sl h_4 ((p_2.add 2).add 2) fun (x_2 : Sl) =>
  bst [(0, 1), (1, 1), (2, 1)] #[.int .i64 0, .int .i64 0, .slice none 0 0] [(0, .int .i64 id), (1, .int .i64 field), (2, l.v)] fun c =>
  bld si_Lmerge_Phi 1 [(0, .agg c)] h_4 fun s h_6 =>
  app si_Lmerge_Phi x_2 s h_6 fun s_1 h_7 =>
  nilck m fun p_3 =>
  st [s_1.v] h_7 ((p_3.add 2).add 2) fun h_8 =>
  ACalls Try.prog F_merge_open [] h_8 fun v_1 h_9 => as1 (.agg 3) v_1 fun r_2 =>
  r_2.size = 3 ∧ st r_2.toList h_9 p fun h_10 =>
  ld (.agg 3) h_10 p fun (x_3 : Array Value) => K (.agg x_3) h_10)
def merge_meeting_phi_a : Ann := (.seq .leaf (.seq (.seq .leaf (.seq .leaf (.cond (.seq .leaf .leaf) .leaf))) (.seq .leaf (.seq .leaf .leaf))))
theorem merge_meeting_phi_eq (m : Option Addr) (id : Int) (field : Int) (l : Sl) (h : Heap) (K : Value → Heap → Prop) : merge_meeting_phi m id field l h K = fnW Try.prog ty merge_meeting_phi_a (bodyOf Try.f99) [.cell 8 37] [.pointer m, .int .i64 id, .int .i64 field, l.v] h K := by kernel_rfl
theorem merge_meeting_phi_of {m : Option Addr} {id : Int} {field : Int} {l : Sl} {h : Heap} {K : Value → Heap → Prop} (hw : merge_meeting_phi m id field l h K) : ACalls Try.prog F_merge_meeting_phi [.pointer m, .int .i64 id, .int .i64 field, l.v] h K :=
  calls_sound ty_ok mixed merge_meeting_phi_a (c := bodyOf Try.f99) Try.func99 (by kernel_rfl) (by kernel_rfl) (by kernel_rfl) (Nat.le_of_ble_eq_true rfl) (by rw [merge_meeting_phi_eq] at hw; exact hw)

/-- sort.Search -/
def sort_Search (n : Int) (f : Value) (h : Heap) (K : Value → Heap → Prop) : Prop :=
  loopW (fun _ (q_i : Int × Int) h_1 next =>
    ifB (decide (q_i.1 < q_i.2))
     (ar .i64 (q_i.1 + q_i.2) fun n_1 =>
    (0 : Int) ≤ 1 ∧ (callV Try.prog f [.int .i64 (IntKind.i64.wrap (Int.fdiv (IntKind.u64.wrap n_1) (2 ^ min (Int.toNat 1) (IntKind.bits .u64))))] h_1 fun v h_2 => as1 .bool v fun r =>
    ifB (!r)
     (ar .i64 ((IntKind.i64.wrap (Int.fdiv (IntKind.u64.wrap n_1) (2 ^ min (Int.toNat 1) (IntKind.bits .u64)))) + 1) fun n_2 =>
     next (n_2, q_i.2) h_2)
     (next (q_i.1, IntKind.i64.wrap (Int.fdiv (IntKind.u64.wrap n_1) (2 ^ min (Int.toNat 1) (IntKind.bits .u64)))) h_2)))
     (K (.int .i64 q_i.1) h_1)) (0, n) h
def sort_Search_a : Ann := (.seq .leaf (.seq .leaf (.seq (.block (.loop [(5, .int .i64), (6, .int .i64)] [1] (.seq (.seq .leaf (.cond .leaf .leaf)) (.block (.seq .leaf (.seq .leaf (.cond .leaf .leaf))))))) (.seq .leaf .leaf))))
theorem sort_Search_eq (n : Int) (f : Value) (h : Heap) (K : Value → Heap → Prop) : sort_Search n f h K = fnW Try.prog ty sort_Search_a (bodyOf Try.f100) [.tmp 4] [.int .i64 n, f] h K := by kernel_rfl
theorem sort_Search_of {n : Int} {f : Value} {h : Heap} {K : Value → Heap → Prop} (hw : sort_Search n f h K) : ACalls Try.prog F_sort_Search [.int .i64 n, f] h K :=
  calls_sound ty_ok mixed sort_Search_a (c := bodyOf Try.f100) Try.func100 (by kernel_rfl) (by kernel_rfl) (by kernel_rfl) (Nat.le_of_ble_eq_true rfl) (by rw [sort_Search_eq] at hw; exact hw)

/-- lateen/vstate.place$1 -/
def vstate_place_1 (i : Int) (p : Addr) (p_1 : Addr) (h : Heap) (K : Value → Heap → Prop) : Prop :=
  ld .sl h p fun (x : Sl) =>
  idx 6 x i fun p_2 =>
  ld (.int .i64) h (p_2.add 0) fun (x_1 : Int) =>
  ld (.int .i64) h p_1 fun (x_2 : Int) =>
  K (.bool (decide (x_1 ≥ x_2))) h
def vstate_place_1_a : Ann := (.seq .leaf (.seq .leaf .leaf))
theorem vstate_place_1_eq (i : Int) (p : Addr) (p_1 : Addr) (h : Heap) (K : Value → Heap → Prop) : vstate_place_1 i p p_1 h K = fnW Try.prog ty vstate_place_1_a (bodyOf Try.f101) [.tmp 4] [.int .i64 i, .pointer (some p), .pointer (some p_1)] h K := by kernel_rfl
theorem vstate_place_1_of {i : Int} {p : Addr} {p_1 : Addr} {h : Heap} {K : Value → Heap → Prop} (hw : vstate_place_1 i p p_1 h K) : ACalls Try.prog F_vstate_place_1 [.int .i64 i, .pointer (some p), .pointer (some p_1)] h K :=
  calls_sound ty_ok mixed vstate_place_1_a (c := bodyOf Try.f101) Try.func101 (by kernel_rfl) (by kernel_rfl) (by kernel_rfl) (Nat.le_of_ble_eq_true rfl) (by rw [vstate_place_1_eq] at hw; exact hw)

/-- slices.rotateRight[lateen/vstate.Obj] -/
def slices_rotateRight (s : Sl) (r : Int) (h : Heap) (K : Value → Heap → Prop) : Prop :=
  ar .i64 ((s.len : Int) - r) fun n =>
  ACalls Try.prog F_slices_rotateLeft [s.v, .int .i64 n] h fun v h_1 => as0 v (
  K (.tuple #[]) h_1)
def slices_rotateRight_a : Ann := .leaf
theorem slices_rotateRight_eq (s : Sl) (r : Int) (h : Heap) (K : Value → Heap → Prop) : slices_rotateRight s r h K = fnW Try.prog ty slices_rotateRight_a (bodyOf Try.f103) [] [s.v, .int .i64 r] h K := by kernel_rfl
theorem slices_rotateRight_of {s : Sl} {r : Int} {h : Heap} {K : Value → Heap → Prop} (hw : slices_rotateRight s r h K) : ACalls Try.prog F_slices_rotateRight [s.v, .int .i64 r] h K :=
  calls_sound ty_ok mixed slices_rotateRight_a (c := bodyOf Try.f103) Try.func103 (by kernel_rfl) (by kernel_rfl) (by kernel_rfl) (Nat.le_of_ble_eq_true rfl) (by rw [slices_rotateRight_eq] at hw; exact hw)

/-- slices.Equal[[]lateen/api.Arg,lateen/api.Arg] -/
def slices_Equal (s1 : Sl) (s2 : Sl) (h : Heap) (K : Value → Heap → Prop) : Prop :=
  ifB ((s1.len : Int) != (s2.len : Int))
   (K (.bool false) h)
   (loopW (fun _ (t : Int) h_1 next =>
    ifB (decide (t < (s1.len : Int)))
     (idx 3 s1 t fun p =>
    ld (.agg 3) h_1 p fun (x : Array Value) =>
    idx 3 s2 t fun p_1 =>
    ld (.agg 3) h_1 p_1 fun (x_1 : Array Value) =>
    eqA [.int .i64, .str, .int .i64] x x_1 fun b =>
    ifB (!b)
     (K (.bool false) h_1)
     (ar .i64 (t + 1) fun n =>
    next n h_1))
     (K (.bool true) h_1)) 0 h)
def slices_Equal_a : Ann := (.seq .leaf (.seq (.seq .leaf (.cond (.seq .leaf .leaf) .leaf)) (.seq (.seq .leaf (.block (.loop [(13, .int .i64)] [0, 1, 12] (.seq .leaf (.seq (.cond .leaf .leaf) (.seq (.block (.seq .leaf (.seq .leaf (.cond (.seq .leaf .leaf) .leaf)))) .leaf)))))) (.seq .leaf .leaf))))
theorem slices_Equal_eq (s1 : Sl) (s2 : Sl) (h : Heap) (K : Value → Heap → Prop) : slices_Equal s1 s2 h K = fnW Try.prog ty slices_Equal_a (bodyOf Try.f104) [.tmp 4] [s1.v, s2.v] h K := by kernel_rfl
theorem slices_Equal_of {s1 : Sl} {s2 : Sl} {h : Heap} {K : Value → Heap → Prop} (hw : slices_Equal s1 s2 h K) : ACalls Try.prog F_slices_Equal [s1.v, s2.v] h K :=
  calls_sound ty_ok mixed slices_Equal_a (c := bodyOf Try.f104) Try.func104 (by kernel_rfl) (by kernel_rfl) (by kernel_rfl) (Nat.le_of_ble_eq_true rfl) (by rw [slices_Equal_eq] at hw; exact hw)

/-- (*lateen/merge.meeting).really -/
def merge_meeting_really (m : Option Addr) (l : Sl) (h : Heap) (K : Value → Heap → Prop) : Prop :=
  loopW (fun _ (q_out : Sl × Int) h_1 next =>
    ifB (decide (q_out.2 < (l.len : Int)))
     (idx 3 l q_out.2 fun p =>
    ld (.agg 3) h_1 p fun (x : Array Value) =>
    new 37 #[.int .i64 0, .string ⟨#[]⟩, .int .i64 0] h_1 fun p_1 h_2 =>
    x.size = 3 ∧ st x.toList h_2 p_1 fun h_3 =>
    nilck m fun p_2 =>
    ld .sl h_3 (p_2.add 0) fun (x_1 : Sl) =>
    idx 1 x_1 q_out.2 fun p_3 =>
    ld .sl h_3 p_3 fun (x_2 : Sl) =>
    ld (.agg 3) h_3 p_1 fun (x_3 : Array Value) =>
    ACalls Try.prog F_vstate_Really [x_2.v, .agg x_3] h_3 fun v h_4 => as1 (.agg 3) v fun r =>
    bld si_Lapi_Arg 1 [(0, .agg r)] h_4 fun s h_5 =>
    app si_Lapi_Arg q_out.1 s h_5 fun s_1 h_6 =>
    ar .i64 (q_out.2 + 1) fun n =>
    next (s_1, n) h_6)
     (K q_out.1.v h_1)) ((⟨none, 0, 0⟩ : Sl), 0) h
def merge_meeting_really_a : Ann := (.seq .leaf (.seq .leaf (.seq (.seq .leaf (.block (.loop [(5, .sl), (10, .int .i64)] [0, 8, 9] (.seq .leaf (.seq (.cond .leaf .leaf) (.seq (.block (.seq .leaf .leaf)) .leaf)))))) (.seq .leaf .leaf))))
theorem merge_meeting_really_eq (m : Option Addr) (l : Sl) (h : Heap) (K : Value → Heap → Prop) : merge_meeting_really m l h K = fnW Try.prog ty merge_meeting_really_a (bodyOf Try.f108) [.tmp 4] [.pointer m, l.v] h K := by kernel_rfl
theorem merge_meeting_really_of {m : Option Addr} {l : Sl} {h : Heap} {K : Value → Heap → Prop} (hw : merge_meeting_really m l h K) : ACalls Try.prog F_merge_meeting_really [.pointer m, l.v] h K :=
  calls_sound ty_ok mixed merge_meeting_really_a (c := bodyOf Try.f108) Try.func108 (by kernel_rfl) (by kernel_rfl) (by kernel_rfl) (Nat.le_of_ble_eq_true rfl) (by rw [merge_meeting_really_eq] at hw; exact hw)

/-- lateen/merge.open -/
def merge_open  (h : Heap) (K : Value → Heap → Prop) : Prop :=
  new 37 #[.int .i64 0, .string ⟨#[]⟩, .int .i64 0] h fun p h_1 =>
  bst [(0, 1), (1, 1), (2, 1)] #[.int .i64 0, .string ⟨#[]⟩, .int .i64 0] [(0, .int .i64 1), (1, .string ⟨#[95]⟩)] fun c =>
  c.size = 3 ∧ st c.toList h_1 p fun h_2 =>
  ld (.agg 3) h_2 p fun (x : Array Value) => K (.agg x) h_2
def merge_open_a : Ann := (.seq .leaf (.seq .leaf .leaf))
theorem merge_open_eq  (h : Heap) (K : Value → Heap → Prop) : merge_open  h K = fnW Try.prog ty merge_open_a (bodyOf Try.f112) [.cell 0 37] [] h K := by kernel_rfl
theorem merge_open_of  {h : Heap} {K : Value → Heap → Prop} (hw : merge_open  h K) : ACalls Try.prog F_merge_open [] h K :=
  calls_sound ty_ok mixed merge_open_a (c := bodyOf Try.f112) Try.func112 (by kernel_rfl) (by kernel_rfl) (by kernel_rfl) (Nat.le_of_ble_eq_true rfl) (by rw [merge_open_eq] at hw; exact hw)

/-- slices.rotateLeft[lateen/vstate.Obj] -/
def slices_rotateLeft (s : Sl) (r : Int) (h : Heap) (K : Value → Heap → Prop) : Prop :=
  slc 6 s none (some r) fun s_1 =>
  ACalls Try.prog F_slices_Reverse [s_1.v] h fun v h_1 => as0 v (
  slc 6 s (some r) none fun s_2 =>
  ACalls Try.prog F_slices_Reverse [s_2.v] h_1 fun v_1 h_2 => as0 v_1 (
  ACalls Try.prog F_slices_Reverse [s.v] h_2 fun v_2 h_3 => as0 v_2 (
  K (.tuple #[]) h_3)))
def slices_rotateLeft_a : Ann := (.seq .leaf (.seq .leaf .leaf))
theorem slices_rotateLeft_eq (s : Sl) (r : Int) (h : Heap) (K : Value → Heap → Prop) : slices_rotateLeft s r h K = fnW Try.prog ty slices_rotateLeft_a (bodyOf Try.f113) [] [s.v, .int .i64 r] h K := by kernel_rfl
theorem slices_rotateLeft_of {s : Sl} {r : Int} {h : Heap} {K : Value → Heap → Prop} (hw : slices_rotateLeft s r h K) : ACalls Try.prog F_slices_rotateLeft [s.v, .int .i64 r] h K :=
  calls_sound ty_ok mixed slices_rotateLeft_a (c := bodyOf Try.f113) Try.func113 (by kernel_rfl) (by kernel_rfl) (by kernel_rfl) (Nat.le_of_ble_eq_true rfl) (by rw [slices_rotateLeft_eq] at hw; exact hw)

/-- slices.Reverse[[]lateen/vstate.Obj,lateen/vstate.Obj] -/
def slices_Reverse (s : Sl) (h : Heap) (K : Value → Heap → Prop) : Prop :=
  ar .i64 ((s.len : Int) - 1) fun n =>
  loopW (fun _ (q_i : Int × Int) h_1 next =>
    ifB (decide (q_i.1 < q_i.2))
     (idx 6 s q_i.2 fun p =>
    ld (.agg 6) h_1 p fun (x : Array Value) =>
    idx 6 s q_i.1 fun p_1 =>
    ld (.agg 6) h_1 p_1 fun (x_1 : Array Value) =>
    idx 6 s q_i.1 fun p_2 =>
    x.size = 6 ∧ st x.toList h_1 p_2 fun h_2 =>
    idx 6 s q_i.2 fun p_3 =>
    x_1.size = 6 ∧ st x_1.toList h_2 p_3 fun h_3 =>
    ar .i64 (q_i.1 + 1) fun n_1 =>
    ar .i64 (q_i.2 - 1) fun n_2 =>
    next (n_1, n_2) h_3)
     (K (.tuple #[]) h_1)) (0, n) h
def slices_Reverse_a : Ann := (.seq .leaf (.block (.loop [(2, .int .i64), (3, .int .i64)] [0] (.seq (.seq .leaf (.cond .leaf .leaf)) (.seq (.block .leaf) .leaf)))))
theorem slices_Reverse_eq (s : Sl) (h : Heap) (K : Value → Heap → Prop) : slices_Reverse s h K = fnW Try.prog ty slices_Reverse_a (bodyOf Try.f128) [] [s.v] h K := by kernel_rfl
theorem slices_Reverse_of {s : Sl} {h : Heap} {K : Value → Heap → Prop} (hw : slices_Reverse s h K) : ACalls Try.prog F_slices_Reverse [s.v] h K :=
  calls_sound ty_ok mixed slices_Reverse_a (c := bodyOf Try.f128) Try.func128 (by kernel_rfl) (by kernel_rfl) (by kernel_rfl) (Nat.le_of_ble_eq_true rfl) (by rw [slices_Reverse_eq] at hw; exact hw)

end Go.Proofs.Ytncbpalncgcoaaa
