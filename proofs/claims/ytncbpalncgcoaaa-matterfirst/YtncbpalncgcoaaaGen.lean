/-
  Printed by genfw.py: the functions as Props over the layer, and what ties each to the model.
-/
import Derived.Test.YtncbpalncgcoaaaFwSound
import Derived.Test.YtncbpalncgcoaaaChecked
namespace Go.Proofs.Ytncbpalncgcoaaa
open Go.Fw

def si_Lvstate_Obj : SlI := ⟨39, 6, 80, .agg #[.int .i64 0, .string ⟨#[]⟩, .slice none 0 0, .int .i64 0, .string ⟨#[]⟩, .int .i64 0]⟩
def si_Lapi_Arg : SlI := ⟨37, 3, 32, .agg #[.int .i64 0, .string ⟨#[]⟩, .int .i64 0]⟩
def si_Lint64 : SlI := ⟨2, 1, 8, .int .i64 0⟩
def si_Llateenref22_Obj : SlI := ⟨40, 6, 80, .agg #[.int .i64 0, .string ⟨#[]⟩, .slice none 0 0, .int .i64 0, .string ⟨#[]⟩, .int .i64 0]⟩
def si_Lapi_Instr : SlI := ⟨101, 6, 112, .agg #[.int .i64 0, .string ⟨#[]⟩, .string ⟨#[]⟩, .slice none 0 0, .slice none 0 0, .slice none 0 0]⟩
def si_Lapi_Class : SlI := ⟨151, 2, 40, .agg #[.string ⟨#[]⟩, .slice none 0 0]⟩
def si_Lapi_Var : SlI := ⟨149, 2, 32, .agg #[.string ⟨#[]⟩, .string ⟨#[]⟩]⟩
def si_Lstring : SlI := ⟨9, 1, 16, .string ⟨#[]⟩⟩
def si_Lapi_Frame : SlI := ⟨157, 4, 64, .agg #[.string ⟨#[]⟩, .string ⟨#[]⟩, .int .i64 0, .slice none 0 0]⟩
def si_Lapi_Virt : SlI := ⟨161, 2, 40, .agg #[.string ⟨#[]⟩, .slice none 0 0]⟩
def si_Lbool : SlI := ⟨4, 1, 1, .bool false⟩
def si_LLint : SlI := ⟨132, 1, 24, .slice none 0 0⟩
def si_Lint : SlI := ⟨3, 1, 8, .int .i64 0⟩
def si_Lmatter_late : SlI := ⟨146, 3, 32, .agg #[.int .i64 0, .int .i64 0, .string ⟨#[]⟩]⟩
def si_Lapi_Bind : SlI := ⟨159, 4, 48, .agg #[.string ⟨#[]⟩, .int .i64 0, .string ⟨#[]⟩, .int .i64 0]⟩
def si_Luint8 : SlI := ⟨5, 1, 1, .int .u8 0⟩
def si_Lcalls_step : SlI := ⟨200, 2, 16, .agg #[.int .i64 0, .int .i64 0]⟩
abbrev F_lateenlaw24_MatterCodes : FuncId := 12
abbrev F_lateenlaw24_MatterFirst : FuncId := 13
abbrev F_lateenlaw24_MatterAll : FuncId := 14
abbrev F_lateenlaw24_MatterKeeps : FuncId := 15
abbrev F_lateenref22_Find : FuncId := 20
abbrev F_lateenref22_Really : FuncId := 22
abbrev F_lateenref22_Virtual : FuncId := 23
abbrev F_lateenref22_Same : FuncId := 24
abbrev F_lateenlaw22_Back : FuncId := 25
abbrev F_lateenref22_SameArgs : FuncId := 26
abbrev F_lateenlaw22_awake : FuncId := 28
abbrev F_lateenref22_Few : FuncId := 29
abbrev F_vstate_Right : FuncId := 30
abbrev F_lateenlaw22_There : FuncId := 31
abbrev F_lateenref22_Right : FuncId := 32
abbrev F_lateenref22_Rising : FuncId := 33
abbrev F_vstate_Find : FuncId := 34
abbrev F_vstate_Virtual : FuncId := 35
abbrev F_vstate_Really : FuncId := 36
abbrev F_vstate_Reach : FuncId := 37
abbrev F_lateenlaw22_has : FuncId := 38
abbrev F_lateenlaw22_to : FuncId := 39
abbrev F_vstate_Set : FuncId := 40
abbrev F_lateenref22_Set : FuncId := 41
abbrev F_vstate_Add : FuncId := 42
abbrev F_lateenlaw22_one : FuncId := 43
abbrev F_lateenref22_Add : FuncId := 44
abbrev F_lateenlaw22_same : FuncId := 45
abbrev F_lateenref22_Reach : FuncId := 46
abbrev F_vstate_Same : FuncId := 47
abbrev F_lateenlaw24_awake : FuncId := 48
abbrev F_lateenlaw24_right : FuncId := 49
abbrev F_matter_Order : FuncId := 50
abbrev F_lateenlaw24_sameIds : FuncId := 51
abbrev F_lateenref24_Order : FuncId := 52
abbrev F_matter_Code : FuncId := 53
abbrev F_lateenlaw24_program : FuncId := 54
abbrev F_lateenlaw24_names : FuncId := 55
abbrev F_lateenref24_Code : FuncId := 56
abbrev F_lateenref06_SameInstr : FuncId := 57
abbrev F_lateenlaw24_to : FuncId := 58
abbrev F_slices_Sorted : FuncId := 65
abbrev F_maps_Keys : FuncId := 66
abbrev F_vstate_find : FuncId := 69
abbrev F_vstate_Obj_copied : FuncId := 70
abbrev F_slices_Clone : FuncId := 71
abbrev F_vstate_copied : FuncId := 72
abbrev F_vstate_place : FuncId := 73
abbrev F_slices_Insert : FuncId := 74
abbrev F_slices_EqualFunc : FuncId := 75
abbrev F_vstate_same : FuncId := 76
abbrev F_lateenlaw24_made : FuncId := 77
abbrev F_matter_to : FuncId := 78
abbrev F_matter_graph : FuncId := 79
abbrev F_calls_Parts : FuncId := 80
abbrev F_calls_Order : FuncId := 81
abbrev F_lateenref16_SameNumbers : FuncId := 82
abbrev F_lateenref24_to : FuncId := 83
abbrev F_lateenref24_in : FuncId := 84
abbrev F_lateenref24_down : FuncId := 85
abbrev F_lateenref24_round : FuncId := 86
abbrev F_matter_coder_make : FuncId := 87
abbrev F_matter_variable : FuncId := 88
abbrev F_lateenref01_Put : FuncId := 89
abbrev F_lateenref07_Class : FuncId := 90
abbrev F_lateenref06_sameArgs : FuncId := 91
abbrev F_maps_Keys_map_int64_bool_int64_bool__1 : FuncId := 98
abbrev F_sort_Search : FuncId := 100
abbrev F_vstate_place_1 : FuncId := 101
abbrev F_slices_overlaps : FuncId := 102
abbrev F_slices_rotateRight : FuncId := 103
abbrev F_slices_Equal : FuncId := 104
abbrev F_calls_walk : FuncId := 105
abbrev F_types_Class : FuncId := 106
abbrev F_lateenref01_size : FuncId := 107
abbrev F_slices_rotateLeft : FuncId := 113
abbrev F_calls_walker_down : FuncId := 114
abbrev F_types_find : FuncId := 115
abbrev F_types_className : FuncId := 116
abbrev F_slices_Reverse : FuncId := 128
abbrev F_calls_walker_mark : FuncId := 129
abbrev F_calls_walker_leave : FuncId := 130
abbrev F_slices_Index : FuncId := 137
abbrev F_slices_Min : FuncId := 138
def ty : Tys :=
  { tk := [(2, .int .i64), (3, .int .i64), (4, .bool), (5, .int .u8), (9, .str), (27, .sl), (29, .sl), (37, .agg 3), (39, .agg 6), (40, .agg 6), (83, .sl), (86, .sl), (87, .sl), (91, .agg 5), (98, .sl), (99, .sl), (101, .agg 6), (108, .map), (126, .sl), (130, .sl), (132, .sl), (140, .map), (141, .sl), (146, .agg 3), (151, .agg 2), (155, .sl), (157, .agg 4), (159, .agg 4), (177, .sl), (178, .int .u64), (183, .int .u64), (200, .agg 2)]
    sl := [(27, si_Lvstate_Obj), (29, si_Lapi_Arg), (35, si_Lint64), (43, si_Llateenref22_Obj), (83, si_Lapi_Instr), (86, si_Lapi_Class), (87, si_Lapi_Var), (93, si_Lstring), (98, si_Lapi_Frame), (99, si_Lapi_Virt), (126, si_Lbool), (130, si_LLint), (132, si_Lint), (141, si_Lmatter_late), (155, si_Lapi_Bind), (177, si_Luint8), (202, si_Lcalls_step)]
    zs := [(37, .agg #[.int .i64 0, .string ⟨#[]⟩, .int .i64 0]), (39, .agg #[.int .i64 0, .string ⟨#[]⟩, .slice none 0 0, .int .i64 0, .string ⟨#[]⟩, .int .i64 0]), (40, .agg #[.int .i64 0, .string ⟨#[]⟩, .slice none 0 0, .int .i64 0, .string ⟨#[]⟩, .int .i64 0]), (91, .agg #[.bool false, .slice none 0 0, .slice none 0 0, .slice none 0 0, .slice none 0 0]), (101, .agg #[.int .i64 0, .string ⟨#[]⟩, .string ⟨#[]⟩, .slice none 0 0, .slice none 0 0, .slice none 0 0]), (146, .agg #[.int .i64 0, .int .i64 0, .string ⟨#[]⟩]), (151, .agg #[.string ⟨#[]⟩, .slice none 0 0]), (157, .agg #[.string ⟨#[]⟩, .string ⟨#[]⟩, .int .i64 0, .slice none 0 0]), (200, .agg #[.int .i64 0, .int .i64 0])]
    off := [((37, 0), 0), ((37, 1), 1), ((37, 2), 2), ((39, 0), 0), ((39, 1), 1), ((39, 2), 2), ((39, 3), 3), ((40, 0), 0), ((40, 1), 1), ((40, 2), 2), ((40, 3), 3), ((91, 1), 1), ((101, 0), 0), ((101, 1), 1), ((101, 2), 2), ((101, 3), 3), ((101, 4), 4), ((101, 5), 5), ((143, 0), 0), ((143, 1), 5), ((143, 2), 6), ((143, 3), 7), ((143, 4), 8), ((143, 5), 9), ((146, 0), 0), ((146, 1), 1), ((146, 2), 2), ((149, 0), 0), ((151, 0), 0), ((151, 1), 1), ((157, 0), 0), ((157, 1), 1), ((157, 2), 2), ((157, 3), 3), ((161, 0), 0), ((161, 1), 1), ((173, 0), 0), ((173, 1), 1), ((173, 2), 2), ((173, 3), 3), ((173, 4), 4), ((173, 5), 5), ((173, 6), 6), ((200, 0), 0), ((200, 1), 1)]
    res := [(0, []), (3, [.int .i64]), (4, [.bool]), (9, [.str]), (27, [.sl]), (29, [.sl]), (35, [.sl]), (37, [.agg 3]), (39, [.agg 6]), (41, [.agg 6, .bool]), (43, [.sl]), (59, [.agg 6, .bool]), (83, [.sl]), (84, [.sl, .sl]), (91, [.agg 5]), (93, [.sl]), (95, [.sl, .sl]), (114, [.fn]), (123, [.int .i64, .bool]), (126, [.sl]), (130, [.sl]), (132, [.sl]), (136, [.sl, .sl]), (153, [.agg 2, .bool]), (174, [.ptr]), (178, [.int .u64]), (200, [.agg 2])]
    fns := [20, 22, 23, 24, 25, 26, 29, 30, 31, 32, 33, 34, 35, 36, 37, 39, 42, 43, 44, 46, 48, 49, 50, 51, 52, 53, 54, 55, 56, 57, 58, 65, 66, 69, 70, 71, 72, 73, 74, 75, 77, 78, 79, 80, 81, 82, 83, 84, 85, 86, 87, 88, 89, 90, 91, 100, 103, 104, 105, 106, 107, 113, 114, 115, 128, 129, 130, 137, 138]
    bs := [(37, ([(0, 1), (1, 1), (2, 1)], .agg #[.int .i64 0, .string ⟨#[]⟩, .int .i64 0])), (39, ([(0, 1), (1, 1), (2, 1), (3, 3)], .agg #[.int .i64 0, .string ⟨#[]⟩, .slice none 0 0, .int .i64 0, .string ⟨#[]⟩, .int .i64 0])), (40, ([(0, 1), (1, 1), (2, 1), (3, 3)], .agg #[.int .i64 0, .string ⟨#[]⟩, .slice none 0 0, .int .i64 0, .string ⟨#[]⟩, .int .i64 0])), (91, ([(0, 1), (1, 1), (2, 1), (3, 1), (4, 1)], .agg #[.bool false, .slice none 0 0, .slice none 0 0, .slice none 0 0, .slice none 0 0])), (101, ([(0, 1), (1, 1), (2, 1), (3, 1), (4, 1), (5, 1)], .agg #[.int .i64 0, .string ⟨#[]⟩, .string ⟨#[]⟩, .slice none 0 0, .slice none 0 0, .slice none 0 0])), (143, ([(0, 5), (5, 1), (6, 1), (7, 1), (8, 1), (9, 1)], .agg #[.bool false, .slice none 0 0, .slice none 0 0, .slice none 0 0, .slice none 0 0, .slice none 0 0, .map none, .map none, .slice none 0 0, .slice none 0 0])), (146, ([(0, 1), (1, 1), (2, 1)], .agg #[.int .i64 0, .int .i64 0, .string ⟨#[]⟩])), (149, ([(0, 1), (1, 1)], .agg #[.string ⟨#[]⟩, .string ⟨#[]⟩])), (151, ([(0, 1), (1, 1)], .agg #[.string ⟨#[]⟩, .slice none 0 0])), (173, ([(0, 1), (1, 1), (2, 1), (3, 1), (4, 1), (5, 1), (6, 1)], .agg #[.slice none 0 0, .slice none 0 0, .slice none 0 0, .slice none 0 0, .slice none 0 0, .slice none 0 0, .slice none 0 0])), (200, ([(0, 1), (1, 1)], .agg #[.int .i64 0, .int .i64 0]))]
    mp := [(108, ((.int .i64), .bool false, .bool)), (134, ((.int .i64), .int .i64 0, .int .i64)), (140, ((.int .i64), .string ⟨#[]⟩, .str)), (171, ((.int .i64), .int .i64 0, .int .i64))]
    eqs := [(37, [.int .i64, .str, .int .i64]), (159, [.str, .int .i64, .str, .int .i64])]
    fld := [((37, 1), (1, .str))]
    ars := [] }
theorem ty_ok : TOk Try.prog ty where
  tk := (List.forall_mem_cons.2 ⟨⟨⟨_, Try.underlying2, rfl, rfl⟩, by kernel_rfl⟩, List.forall_mem_cons.2 ⟨⟨⟨_, Try.underlying3, rfl, rfl⟩, by kernel_rfl⟩, List.forall_mem_cons.2 ⟨⟨⟨_, Try.underlying4, rfl, rfl⟩, by kernel_rfl⟩, List.forall_mem_cons.2 ⟨⟨⟨_, Try.underlying5, rfl, rfl⟩, by kernel_rfl⟩, List.forall_mem_cons.2 ⟨⟨⟨_, Try.underlying9, rfl, rfl⟩, by kernel_rfl⟩, List.forall_mem_cons.2 ⟨⟨⟨_, Try.underlying27, rfl, ⟨_, rfl⟩⟩, by kernel_rfl⟩, List.forall_mem_cons.2 ⟨⟨⟨_, Try.underlying29, rfl, ⟨_, rfl⟩⟩, by kernel_rfl⟩, List.forall_mem_cons.2 ⟨⟨⟨_, Try.underlying37, rfl, trivial⟩, by kernel_rfl⟩, List.forall_mem_cons.2 ⟨⟨⟨_, Try.underlying39, rfl, trivial⟩, by kernel_rfl⟩, List.forall_mem_cons.2 ⟨⟨⟨_, Try.underlying40, rfl, trivial⟩, by kernel_rfl⟩, List.forall_mem_cons.2 ⟨⟨⟨_, Try.underlying83, rfl, ⟨_, rfl⟩⟩, by kernel_rfl⟩, List.forall_mem_cons.2 ⟨⟨⟨_, Try.underlying86, rfl, ⟨_, rfl⟩⟩, by kernel_rfl⟩, List.forall_mem_cons.2 ⟨⟨⟨_, Try.underlying87, rfl, ⟨_, rfl⟩⟩, by kernel_rfl⟩, List.forall_mem_cons.2 ⟨⟨⟨_, Try.underlying91, rfl, trivial⟩, by kernel_rfl⟩, List.forall_mem_cons.2 ⟨⟨⟨_, Try.underlying98, rfl, ⟨_, rfl⟩⟩, by kernel_rfl⟩, List.forall_mem_cons.2 ⟨⟨⟨_, Try.underlying99, rfl, ⟨_, rfl⟩⟩, by kernel_rfl⟩, List.forall_mem_cons.2 ⟨⟨⟨_, Try.underlying101, rfl, trivial⟩, by kernel_rfl⟩, List.forall_mem_cons.2 ⟨⟨⟨_, Try.underlying108, rfl, ⟨_, _, rfl⟩⟩, by kernel_rfl⟩, List.forall_mem_cons.2 ⟨⟨⟨_, Try.underlying126, rfl, ⟨_, rfl⟩⟩, by kernel_rfl⟩, List.forall_mem_cons.2 ⟨⟨⟨_, Try.underlying130, rfl, ⟨_, rfl⟩⟩, by kernel_rfl⟩, List.forall_mem_cons.2 ⟨⟨⟨_, Try.underlying132, rfl, ⟨_, rfl⟩⟩, by kernel_rfl⟩, List.forall_mem_cons.2 ⟨⟨⟨_, Try.underlying140, rfl, ⟨_, _, rfl⟩⟩, by kernel_rfl⟩, List.forall_mem_cons.2 ⟨⟨⟨_, Try.underlying141, rfl, ⟨_, rfl⟩⟩, by kernel_rfl⟩, List.forall_mem_cons.2 ⟨⟨⟨_, Try.underlying146, rfl, trivial⟩, by kernel_rfl⟩, List.forall_mem_cons.2 ⟨⟨⟨_, Try.underlying151, rfl, trivial⟩, by kernel_rfl⟩, List.forall_mem_cons.2 ⟨⟨⟨_, Try.underlying155, rfl, ⟨_, rfl⟩⟩, by kernel_rfl⟩, List.forall_mem_cons.2 ⟨⟨⟨_, Try.underlying157, rfl, trivial⟩, by kernel_rfl⟩, List.forall_mem_cons.2 ⟨⟨⟨_, Try.underlying159, rfl, trivial⟩, by kernel_rfl⟩, List.forall_mem_cons.2 ⟨⟨⟨_, Try.underlying177, rfl, ⟨_, rfl⟩⟩, by kernel_rfl⟩, List.forall_mem_cons.2 ⟨⟨⟨_, Try.underlying178, rfl, rfl⟩, by kernel_rfl⟩, List.forall_mem_cons.2 ⟨⟨⟨_, Try.underlying183, rfl, rfl⟩, by kernel_rfl⟩, List.forall_mem_cons.2 ⟨⟨⟨_, Try.underlying200, rfl, trivial⟩, by kernel_rfl⟩, List.forall_mem_nil _⟩⟩⟩⟩⟩⟩⟩⟩⟩⟩⟩⟩⟩⟩⟩⟩⟩⟩⟩⟩⟩⟩⟩⟩⟩⟩⟩⟩⟩⟩⟩⟩)
  sl := (List.forall_mem_cons.2 ⟨⟨Try.underlying27, by kernel_rfl, by kernel_rfl, by decide⟩, List.forall_mem_cons.2 ⟨⟨Try.underlying29, by kernel_rfl, by kernel_rfl, by decide⟩, List.forall_mem_cons.2 ⟨⟨Try.underlying35, by kernel_rfl, by kernel_rfl, by decide⟩, List.forall_mem_cons.2 ⟨⟨Try.underlying43, by kernel_rfl, by kernel_rfl, by decide⟩, List.forall_mem_cons.2 ⟨⟨Try.underlying83, by kernel_rfl, by kernel_rfl, by decide⟩, List.forall_mem_cons.2 ⟨⟨Try.underlying86, by kernel_rfl, by kernel_rfl, by decide⟩, List.forall_mem_cons.2 ⟨⟨Try.underlying87, by kernel_rfl, by kernel_rfl, by decide⟩, List.forall_mem_cons.2 ⟨⟨Try.underlying93, by kernel_rfl, by kernel_rfl, by decide⟩, List.forall_mem_cons.2 ⟨⟨Try.underlying98, by kernel_rfl, by kernel_rfl, by decide⟩, List.forall_mem_cons.2 ⟨⟨Try.underlying99, by kernel_rfl, by kernel_rfl, by decide⟩, List.forall_mem_cons.2 ⟨⟨Try.underlying126, by kernel_rfl, by kernel_rfl, by decide⟩, List.forall_mem_cons.2 ⟨⟨Try.underlying130, by kernel_rfl, by kernel_rfl, by decide⟩, List.forall_mem_cons.2 ⟨⟨Try.underlying132, by kernel_rfl, by kernel_rfl, by decide⟩, List.forall_mem_cons.2 ⟨⟨Try.underlying141, by kernel_rfl, by kernel_rfl, by decide⟩, List.forall_mem_cons.2 ⟨⟨Try.underlying155, by kernel_rfl, by kernel_rfl, by decide⟩, List.forall_mem_cons.2 ⟨⟨Try.underlying177, by kernel_rfl, by kernel_rfl, by decide⟩, List.forall_mem_cons.2 ⟨⟨Try.underlying202, by kernel_rfl, by kernel_rfl, by decide⟩, List.forall_mem_nil _⟩⟩⟩⟩⟩⟩⟩⟩⟩⟩⟩⟩⟩⟩⟩⟩⟩)
  zs := (List.forall_mem_cons.2 ⟨(show ZsOk _ _ by unfold ZsOk; kernel_rfl), List.forall_mem_cons.2 ⟨(show ZsOk _ _ by unfold ZsOk; kernel_rfl), List.forall_mem_cons.2 ⟨(show ZsOk _ _ by unfold ZsOk; kernel_rfl), List.forall_mem_cons.2 ⟨(show ZsOk _ _ by unfold ZsOk; kernel_rfl), List.forall_mem_cons.2 ⟨(show ZsOk _ _ by unfold ZsOk; kernel_rfl), List.forall_mem_cons.2 ⟨(show ZsOk _ _ by unfold ZsOk; kernel_rfl), List.forall_mem_cons.2 ⟨(show ZsOk _ _ by unfold ZsOk; kernel_rfl), List.forall_mem_cons.2 ⟨(show ZsOk _ _ by unfold ZsOk; kernel_rfl), List.forall_mem_cons.2 ⟨(show ZsOk _ _ by unfold ZsOk; kernel_rfl), List.forall_mem_nil _⟩⟩⟩⟩⟩⟩⟩⟩⟩)
  off := (List.forall_mem_cons.2 ⟨⟨_, _, Try.underlying37, rfl, rfl, by kernel_rfl⟩, List.forall_mem_cons.2 ⟨⟨_, _, Try.underlying37, rfl, rfl, by kernel_rfl⟩, List.forall_mem_cons.2 ⟨⟨_, _, Try.underlying37, rfl, rfl, by kernel_rfl⟩, List.forall_mem_cons.2 ⟨⟨_, _, Try.underlying39, rfl, rfl, by kernel_rfl⟩, List.forall_mem_cons.2 ⟨⟨_, _, Try.underlying39, rfl, rfl, by kernel_rfl⟩, List.forall_mem_cons.2 ⟨⟨_, _, Try.underlying39, rfl, rfl, by kernel_rfl⟩, List.forall_mem_cons.2 ⟨⟨_, _, Try.underlying39, rfl, rfl, by kernel_rfl⟩, List.forall_mem_cons.2 ⟨⟨_, _, Try.underlying40, rfl, rfl, by kernel_rfl⟩, List.forall_mem_cons.2 ⟨⟨_, _, Try.underlying40, rfl, rfl, by kernel_rfl⟩, List.forall_mem_cons.2 ⟨⟨_, _, Try.underlying40, rfl, rfl, by kernel_rfl⟩, List.forall_mem_cons.2 ⟨⟨_, _, Try.underlying40, rfl, rfl, by kernel_rfl⟩, List.forall_mem_cons.2 ⟨⟨_, _, Try.underlying91, rfl, rfl, by kernel_rfl⟩, List.forall_mem_cons.2 ⟨⟨_, _, Try.underlying101, rfl, rfl, by kernel_rfl⟩, List.forall_mem_cons.2 ⟨⟨_, _, Try.underlying101, rfl, rfl, by kernel_rfl⟩, List.forall_mem_cons.2 ⟨⟨_, _, Try.underlying101, rfl, rfl, by kernel_rfl⟩, List.forall_mem_cons.2 ⟨⟨_, _, Try.underlying101, rfl, rfl, by kernel_rfl⟩, List.forall_mem_cons.2 ⟨⟨_, _, Try.underlying101, rfl, rfl, by kernel_rfl⟩, List.forall_mem_cons.2 ⟨⟨_, _, Try.underlying101, rfl, rfl, by kernel_rfl⟩, List.forall_mem_cons.2 ⟨⟨_, _, Try.underlying143, rfl, rfl, by kernel_rfl⟩, List.forall_mem_cons.2 ⟨⟨_, _, Try.underlying143, rfl, rfl, by kernel_rfl⟩, List.forall_mem_cons.2 ⟨⟨_, _, Try.underlying143, rfl, rfl, by kernel_rfl⟩, List.forall_mem_cons.2 ⟨⟨_, _, Try.underlying143, rfl, rfl, by kernel_rfl⟩, List.forall_mem_cons.2 ⟨⟨_, _, Try.underlying143, rfl, rfl, by kernel_rfl⟩, List.forall_mem_cons.2 ⟨⟨_, _, Try.underlying143, rfl, rfl, by kernel_rfl⟩, List.forall_mem_cons.2 ⟨⟨_, _, Try.underlying146, rfl, rfl, by kernel_rfl⟩, List.forall_mem_cons.2 ⟨⟨_, _, Try.underlying146, rfl, rfl, by kernel_rfl⟩, List.forall_mem_cons.2 ⟨⟨_, _, Try.underlying146, rfl, rfl, by kernel_rfl⟩, List.forall_mem_cons.2 ⟨⟨_, _, Try.underlying149, rfl, rfl, by kernel_rfl⟩, List.forall_mem_cons.2 ⟨⟨_, _, Try.underlying151, rfl, rfl, by kernel_rfl⟩, List.forall_mem_cons.2 ⟨⟨_, _, Try.underlying151, rfl, rfl, by kernel_rfl⟩, List.forall_mem_cons.2 ⟨⟨_, _, Try.underlying157, rfl, rfl, by kernel_rfl⟩, List.forall_mem_cons.2 ⟨⟨_, _, Try.underlying157, rfl, rfl, by kernel_rfl⟩, List.forall_mem_cons.2 ⟨⟨_, _, Try.underlying157, rfl, rfl, by kernel_rfl⟩, List.forall_mem_cons.2 ⟨⟨_, _, Try.underlying157, rfl, rfl, by kernel_rfl⟩, List.forall_mem_cons.2 ⟨⟨_, _, Try.underlying161, rfl, rfl, by kernel_rfl⟩, List.forall_mem_cons.2 ⟨⟨_, _, Try.underlying161, rfl, rfl, by kernel_rfl⟩, List.forall_mem_cons.2 ⟨⟨_, _, Try.underlying173, rfl, rfl, by kernel_rfl⟩, List.forall_mem_cons.2 ⟨⟨_, _, Try.underlying173, rfl, rfl, by kernel_rfl⟩, List.forall_mem_cons.2 ⟨⟨_, _, Try.underlying173, rfl, rfl, by kernel_rfl⟩, List.forall_mem_cons.2 ⟨⟨_, _, Try.underlying173, rfl, rfl, by kernel_rfl⟩, List.forall_mem_cons.2 ⟨⟨_, _, Try.underlying173, rfl, rfl, by kernel_rfl⟩, List.forall_mem_cons.2 ⟨⟨_, _, Try.underlying173, rfl, rfl, by kernel_rfl⟩, List.forall_mem_cons.2 ⟨⟨_, _, Try.underlying173, rfl, rfl, by kernel_rfl⟩, List.forall_mem_cons.2 ⟨⟨_, _, Try.underlying200, rfl, rfl, by kernel_rfl⟩, List.forall_mem_cons.2 ⟨⟨_, _, Try.underlying200, rfl, rfl, by kernel_rfl⟩, List.forall_mem_nil _⟩⟩⟩⟩⟩⟩⟩⟩⟩⟩⟩⟩⟩⟩⟩⟩⟩⟩⟩⟩⟩⟩⟩⟩⟩⟩⟩⟩⟩⟩⟩⟩⟩⟩⟩⟩⟩⟩⟩⟩⟩⟩⟩⟩⟩)
  fns := (List.forall_mem_cons.2 ⟨(show FnOk _ _ by unfold FnOk; kernel_rfl), List.forall_mem_cons.2 ⟨(show FnOk _ _ by unfold FnOk; kernel_rfl), List.forall_mem_cons.2 ⟨(show FnOk _ _ by unfold FnOk; kernel_rfl), List.forall_mem_cons.2 ⟨(show FnOk _ _ by unfold FnOk; kernel_rfl), List.forall_mem_cons.2 ⟨(show FnOk _ _ by unfold FnOk; kernel_rfl), List.forall_mem_cons.2 ⟨(show FnOk _ _ by unfold FnOk; kernel_rfl), List.forall_mem_cons.2 ⟨(show FnOk _ _ by unfold FnOk; kernel_rfl), List.forall_mem_cons.2 ⟨(show FnOk _ _ by unfold FnOk; kernel_rfl), List.forall_mem_cons.2 ⟨(show FnOk _ _ by unfold FnOk; kernel_rfl), List.forall_mem_cons.2 ⟨(show FnOk _ _ by unfold FnOk; kernel_rfl), List.forall_mem_cons.2 ⟨(show FnOk _ _ by unfold FnOk; kernel_rfl), List.forall_mem_cons.2 ⟨(show FnOk _ _ by unfold FnOk; kernel_rfl), List.forall_mem_cons.2 ⟨(show FnOk _ _ by unfold FnOk; kernel_rfl), List.forall_mem_cons.2 ⟨(show FnOk _ _ by unfold FnOk; kernel_rfl), List.forall_mem_cons.2 ⟨(show FnOk _ _ by unfold FnOk; kernel_rfl), List.forall_mem_cons.2 ⟨(show FnOk _ _ by unfold FnOk; kernel_rfl), List.forall_mem_cons.2 ⟨(show FnOk _ _ by unfold FnOk; kernel_rfl), List.forall_mem_cons.2 ⟨(show FnOk _ _ by unfold FnOk; kernel_rfl), List.forall_mem_cons.2 ⟨(show FnOk _ _ by unfold FnOk; kernel_rfl), List.forall_mem_cons.2 ⟨(show FnOk _ _ by unfold FnOk; kernel_rfl), List.forall_mem_cons.2 ⟨(show FnOk _ _ by unfold FnOk; kernel_rfl), List.forall_mem_cons.2 ⟨(show FnOk _ _ by unfold FnOk; kernel_rfl), List.forall_mem_cons.2 ⟨(show FnOk _ _ by unfold FnOk; kernel_rfl), List.forall_mem_cons.2 ⟨(show FnOk _ _ by unfold FnOk; kernel_rfl), List.forall_mem_cons.2 ⟨(show FnOk _ _ by unfold FnOk; kernel_rfl), List.forall_mem_cons.2 ⟨(show FnOk _ _ by unfold FnOk; kernel_rfl), List.forall_mem_cons.2 ⟨(show FnOk _ _ by unfold FnOk; kernel_rfl), List.forall_mem_cons.2 ⟨(show FnOk _ _ by unfold FnOk; kernel_rfl), List.forall_mem_cons.2 ⟨(show FnOk _ _ by unfold FnOk; kernel_rfl), List.forall_mem_cons.2 ⟨(show FnOk _ _ by unfold FnOk; kernel_rfl), List.forall_mem_cons.2 ⟨(show FnOk _ _ by unfold FnOk; kernel_rfl), List.forall_mem_cons.2 ⟨(show FnOk _ _ by unfold FnOk; kernel_rfl), List.forall_mem_cons.2 ⟨(show FnOk _ _ by unfold FnOk; kernel_rfl), List.forall_mem_cons.2 ⟨(show FnOk _ _ by unfold FnOk; kernel_rfl), List.forall_mem_cons.2 ⟨(show FnOk _ _ by unfold FnOk; kernel_rfl), List.forall_mem_cons.2 ⟨(show FnOk _ _ by unfold FnOk; kernel_rfl), List.forall_mem_cons.2 ⟨(show FnOk _ _ by unfold FnOk; kernel_rfl), List.forall_mem_cons.2 ⟨(show FnOk _ _ by unfold FnOk; kernel_rfl), List.forall_mem_cons.2 ⟨(show FnOk _ _ by unfold FnOk; kernel_rfl), List.forall_mem_cons.2 ⟨(show FnOk _ _ by unfold FnOk; kernel_rfl), List.forall_mem_cons.2 ⟨(show FnOk _ _ by unfold FnOk; kernel_rfl), List.forall_mem_cons.2 ⟨(show FnOk _ _ by unfold FnOk; kernel_rfl), List.forall_mem_cons.2 ⟨(show FnOk _ _ by unfold FnOk; kernel_rfl), List.forall_mem_cons.2 ⟨(show FnOk _ _ by unfold FnOk; kernel_rfl), List.forall_mem_cons.2 ⟨(show FnOk _ _ by unfold FnOk; kernel_rfl), List.forall_mem_cons.2 ⟨(show FnOk _ _ by unfold FnOk; kernel_rfl), List.forall_mem_cons.2 ⟨(show FnOk _ _ by unfold FnOk; kernel_rfl), List.forall_mem_cons.2 ⟨(show FnOk _ _ by unfold FnOk; kernel_rfl), List.forall_mem_cons.2 ⟨(show FnOk _ _ by unfold FnOk; kernel_rfl), List.forall_mem_cons.2 ⟨(show FnOk _ _ by unfold FnOk; kernel_rfl), List.forall_mem_cons.2 ⟨(show FnOk _ _ by unfold FnOk; kernel_rfl), List.forall_mem_cons.2 ⟨(show FnOk _ _ by unfold FnOk; kernel_rfl), List.forall_mem_cons.2 ⟨(show FnOk _ _ by unfold FnOk; kernel_rfl), List.forall_mem_cons.2 ⟨(show FnOk _ _ by unfold FnOk; kernel_rfl), List.forall_mem_cons.2 ⟨(show FnOk _ _ by unfold FnOk; kernel_rfl), List.forall_mem_cons.2 ⟨(show FnOk _ _ by unfold FnOk; kernel_rfl), List.forall_mem_cons.2 ⟨(show FnOk _ _ by unfold FnOk; kernel_rfl), List.forall_mem_cons.2 ⟨(show FnOk _ _ by unfold FnOk; kernel_rfl), List.forall_mem_cons.2 ⟨(show FnOk _ _ by unfold FnOk; kernel_rfl), List.forall_mem_cons.2 ⟨(show FnOk _ _ by unfold FnOk; kernel_rfl), List.forall_mem_cons.2 ⟨(show FnOk _ _ by unfold FnOk; kernel_rfl), List.forall_mem_cons.2 ⟨(show FnOk _ _ by unfold FnOk; kernel_rfl), List.forall_mem_cons.2 ⟨(show FnOk _ _ by unfold FnOk; kernel_rfl), List.forall_mem_cons.2 ⟨(show FnOk _ _ by unfold FnOk; kernel_rfl), List.forall_mem_cons.2 ⟨(show FnOk _ _ by unfold FnOk; kernel_rfl), List.forall_mem_cons.2 ⟨(show FnOk _ _ by unfold FnOk; kernel_rfl), List.forall_mem_cons.2 ⟨(show FnOk _ _ by unfold FnOk; kernel_rfl), List.forall_mem_cons.2 ⟨(show FnOk _ _ by unfold FnOk; kernel_rfl), List.forall_mem_cons.2 ⟨(show FnOk _ _ by unfold FnOk; kernel_rfl), List.forall_mem_nil _⟩⟩⟩⟩⟩⟩⟩⟩⟩⟩⟩⟩⟩⟩⟩⟩⟩⟩⟩⟩⟩⟩⟩⟩⟩⟩⟩⟩⟩⟩⟩⟩⟩⟩⟩⟩⟩⟩⟩⟩⟩⟩⟩⟩⟩⟩⟩⟩⟩⟩⟩⟩⟩⟩⟩⟩⟩⟩⟩⟩⟩⟩⟩⟩⟩⟩⟩⟩⟩)
  bs := (List.forall_mem_cons.2 ⟨⟨_, Try.underlying37, by kernel_rfl, by kernel_rfl⟩, List.forall_mem_cons.2 ⟨⟨_, Try.underlying39, by kernel_rfl, by kernel_rfl⟩, List.forall_mem_cons.2 ⟨⟨_, Try.underlying40, by kernel_rfl, by kernel_rfl⟩, List.forall_mem_cons.2 ⟨⟨_, Try.underlying91, by kernel_rfl, by kernel_rfl⟩, List.forall_mem_cons.2 ⟨⟨_, Try.underlying101, by kernel_rfl, by kernel_rfl⟩, List.forall_mem_cons.2 ⟨⟨_, Try.underlying143, by kernel_rfl, by kernel_rfl⟩, List.forall_mem_cons.2 ⟨⟨_, Try.underlying146, by kernel_rfl, by kernel_rfl⟩, List.forall_mem_cons.2 ⟨⟨_, Try.underlying149, by kernel_rfl, by kernel_rfl⟩, List.forall_mem_cons.2 ⟨⟨_, Try.underlying151, by kernel_rfl, by kernel_rfl⟩, List.forall_mem_cons.2 ⟨⟨_, Try.underlying173, by kernel_rfl, by kernel_rfl⟩, List.forall_mem_cons.2 ⟨⟨_, Try.underlying200, by kernel_rfl, by kernel_rfl⟩, List.forall_mem_nil _⟩⟩⟩⟩⟩⟩⟩⟩⟩⟩⟩)
  mp := (List.forall_mem_cons.2 ⟨⟨2, 4, Try.underlying108, by kernel_rfl, (show ZsOk _ _ by unfold ZsOk; kernel_rfl)⟩, List.forall_mem_cons.2 ⟨⟨3, 3, Try.underlying134, by kernel_rfl, (show ZsOk _ _ by unfold ZsOk; kernel_rfl)⟩, List.forall_mem_cons.2 ⟨⟨2, 9, Try.underlying140, by kernel_rfl, (show ZsOk _ _ by unfold ZsOk; kernel_rfl)⟩, List.forall_mem_cons.2 ⟨⟨2, 3, Try.underlying171, by kernel_rfl, (show ZsOk _ _ by unfold ZsOk; kernel_rfl)⟩, List.forall_mem_nil _⟩⟩⟩⟩)
  eqs := (List.forall_mem_cons.2 ⟨⟨by kernel_rfl, by kernel_rfl, by kernel_rfl, by kernel_rfl⟩, List.forall_mem_cons.2 ⟨⟨by kernel_rfl, by kernel_rfl, by kernel_rfl, by kernel_rfl⟩, List.forall_mem_nil _⟩⟩)
  fld := (List.forall_mem_cons.2 ⟨⟨_, _, Try.underlying37, rfl, rfl, by kernel_rfl⟩, List.forall_mem_nil _⟩)
  ars := (List.forall_mem_nil _)
theorem mixed : Try.prog.follows .mixedOrders = true := by kernel_rfl

/-- lateen/lateenlaw24.MatterCodes -/
def lateenlaw24_MatterCodes (s : Sl) (l : Sl) (h : Heap) (K : Value → Heap → Prop) : Prop :=
  joinW (fun _ (t : Bool) h_1 =>
    ifB t
     (ACalls Try.prog F_lateenlaw24_awake [] h_1 fun v h_2 => as1 .bool v fun r =>
     K (.bool r) h_2)
     (ACalls Try.prog F_lateenlaw22_There [s.v] h_1 fun v_1 h_3 => as1 .sl v_1 fun r_1 =>
  ACalls Try.prog F_matter_Order [r_1.v, l.v] h_3 fun v_2 h_4 => as1 .sl v_2 fun r_2 =>
  ACalls Try.prog F_lateenref24_Order [s.v, l.v] h_4 fun v_3 h_5 => as1 .sl v_3 fun r_3 =>
  ACalls Try.prog F_lateenlaw24_sameIds [r_2.v, r_3.v] h_5 fun v_4 h_6 => as1 .bool v_4 fun r_4 =>
  ifB (!r_4)
   (K (.bool false) h_6)
   (ACalls Try.prog F_lateenlaw24_program [] h_6 fun v_5 h_7 => as1 (.agg 5) v_5 fun r_5 =>
  ACalls Try.prog F_lateenlaw22_There [s.v] h_7 fun v_6 h_8 => as1 .sl v_6 fun r_6 =>
  ACalls Try.prog F_lateenlaw24_names [r_2.v] h_8 fun v_7 h_9 => as1 .sl v_7 fun r_7 =>
  ACalls Try.prog F_matter_Code [.agg r_5, r_6.v, r_2.v, r_7.v] h_9 fun v_8 h_10 => as2 .sl .sl v_8 fun r_8 r_9 =>
  ACalls Try.prog F_lateenlaw24_program [] h_10 fun v_9 h_11 => as1 (.agg 5) v_9 fun r_10 =>
  ACalls Try.prog F_lateenlaw24_names [r_2.v] h_11 fun v_10 h_12 => as1 .sl v_10 fun r_11 =>
  ACalls Try.prog F_lateenref24_Code [.agg r_10, s.v, r_2.v, r_11.v] h_12 fun v_11 h_13 => as2 .sl .sl v_11 fun r_12 r_13 =>
  joinW (fun _ (t_1 : Bool) h_14 =>
    ifB t_1
     (K (.bool false) h_14)
     (loopW (fun _ (i : Int) h_15 next =>
    ifB (decide (i < (r_8.len : Int)))
     (idx 6 r_8 i fun p =>
    ld (.agg 6) h_15 p fun (x : Array Value) =>
    idx 6 r_12 i fun p_1 =>
    ld (.agg 6) h_15 p_1 fun (x_1 : Array Value) =>
    ACalls Try.prog F_lateenref06_SameInstr [.agg x, .agg x_1] h_15 fun v_12 h_16 => as1 .bool v_12 fun r_14 =>
    ifB (!r_14)
     (K (.bool false) h_16)
     (ar .i64 (i + 1) fun n =>
    next n h_16))
     (K (.bool true) h_15)) 0 h_14)) fun k_1 =>
  ifB ((r_8.len : Int) != (r_12.len : Int))
   (k_1 true h_13)
   (ACalls Try.prog F_lateenlaw22_Back [r_9.v] h_13 fun v_13 h_17 => as1 .sl v_13 fun r_15 =>
    ACalls Try.prog F_lateenref22_Same [r_15.v, r_13.v] h_17 fun v_14 h_18 => as1 .bool v_14 fun r_16 =>
      k_1 (!r_16) h_18)))) fun k =>
  ACalls Try.prog F_lateenlaw24_awake [] h fun v_15 h_19 => as1 .bool v_15 fun r_17 =>
  ifB (!r_17)
   (k true h_19)
   (ACalls Try.prog F_lateenlaw24_right [s.v] h_19 fun v_16 h_20 => as1 .bool v_16 fun r_18 =>
    ifB (!r_18)
      (k true h_20)
      (k (decide ((l.len : Int) > 20)) h_20))
def lateenlaw24_MatterCodes_a : Ann := (.seq .leaf (.seq (.join [(22, .bool)] [0, 1] .leaf (.cond (.seq .leaf .leaf) .leaf)) (.seq .leaf (.seq (.seq .leaf (.cond (.seq .leaf .leaf) .leaf)) (.seq .leaf (.seq .leaf (.seq (.join [(64, .bool)] [6, 8] .leaf (.cond (.seq .leaf .leaf) .leaf)) (.seq (.seq .leaf (.block (.loop [(10, .int .i64)] [6, 8] (.seq (.seq .leaf (.cond .leaf .leaf)) (.seq (.block (.seq .leaf (.cond (.seq .leaf .leaf) .leaf))) .leaf))))) (.seq .leaf .leaf)))))))))
theorem lateenlaw24_MatterCodes_eq (s : Sl) (l : Sl) (h : Heap) (K : Value → Heap → Prop) : lateenlaw24_MatterCodes s l h K = fnW Try.prog ty lateenlaw24_MatterCodes_a (bodyOf Try.f12) [.tmp 4] [s.v, l.v] h K := by kernel_rfl
theorem lateenlaw24_MatterCodes_of {s : Sl} {l : Sl} {h : Heap} {K : Value → Heap → Prop} (hw : lateenlaw24_MatterCodes s l h K) : ACalls Try.prog F_lateenlaw24_MatterCodes [s.v, l.v] h K :=
  calls_sound ty_ok mixed lateenlaw24_MatterCodes_a (c := bodyOf Try.f12) Try.func12 (by kernel_rfl) (by kernel_rfl) (by kernel_rfl) (Nat.le_of_ble_eq_true rfl) (by rw [lateenlaw24_MatterCodes_eq] at hw; exact hw)

/-- lateen/lateenlaw24.MatterFirst -/
def lateenlaw24_MatterFirst (s : Sl) (l : Sl) (h : Heap) (K : Value → Heap → Prop) : Prop :=
  joinW (fun _ (t : Bool) h_1 =>
    ifB t
     (ACalls Try.prog F_lateenlaw24_awake [] h_1 fun v h_2 => as1 .bool v fun r =>
     K (.bool r) h_2)
     (ACalls Try.prog F_lateenlaw22_There [s.v] h_1 fun v_1 h_3 => as1 .sl v_1 fun r_1 =>
  ACalls Try.prog F_matter_Order [r_1.v, l.v] h_3 fun v_2 h_4 => as1 .sl v_2 fun r_2 =>
  ACalls Try.prog F_lateenlaw24_program [] h_4 fun v_3 h_5 => as1 (.agg 5) v_3 fun r_3 =>
  ACalls Try.prog F_lateenlaw22_There [s.v] h_5 fun v_4 h_6 => as1 .sl v_4 fun r_4 =>
  ACalls Try.prog F_lateenlaw24_names [r_2.v] h_6 fun v_5 h_7 => as1 .sl v_5 fun r_5 =>
  ACalls Try.prog F_matter_Code [.agg r_3, r_4.v, r_2.v, r_5.v] h_7 fun v_6 h_8 => as2 .sl .sl v_6 fun r_6 _ =>
  loopW (fun _ (q_round : Bool × Int × Int) h_9 next =>
    ifB (decide (q_round.2.2 < (r_2.len : Int)))
     (idx 1 r_2 q_round.2.2 fun p =>
    ld (.int .i64) h_9 p fun (x : Int) =>
    ACalls Try.prog F_lateenlaw24_to [.int .i64 x] h_9 fun v_7 h_10 => as1 (.agg 3) v_7 fun r_8 =>
    ACalls Try.prog F_lateenref22_Find [s.v, .agg r_8] h_10 fun v_8 h_11 => as2 (.agg 6) .bool v_8 fun r_9 _ =>
    new 40 #[.int .i64 0, .string ⟨#[]⟩, .slice none 0 0, .int .i64 0, .string ⟨#[]⟩, .int .i64 0] h_11 fun p_1 h_12 =>
    r_9.size = 6 ∧ st r_9.toList h_12 p_1 fun h_13 =>
    loopW (fun _ (q_round_1 : Bool × Int × Int) h_14 next_1 =>
      ld .sl h_14 (p_1.add 2) fun (x_1 : Sl) =>
      ifB (decide (q_round_1.2.2 < (x_1.len : Int)))
       (joinW (fun _ (up_2 : Int) h_15 =>
        loopW (fun _ (q_round_2 : Bool × Int) h_16 next_2 =>
          ifB (decide (q_round_2.2 < (r_2.len : Int)))
           (joinW (fun _ (round_3 : Bool) h_17 =>
            ar .i64 (q_round_2.2 + 1) fun n =>
            next_2 (round_3, n) h_17) fun k_3 =>
          joinW (fun _ (t_1 : Bool) h_18 =>
            ifB t_1
             (k_3 q_round_2.1 h_18)
             (ld .sl h_18 (p_1.add 2) fun (x_2 : Sl) =>
          idx 3 x_2 q_round_1.2.2 fun p_2 =>
          ld (.agg 3) h_18 p_2 fun (x_3 : Array Value) =>
          bld si_Lapi_Arg 1 [(0, .agg x_3)] h_18 fun s_1 h_19 =>
          ACalls Try.prog F_lateenref22_Reach [s.v, s_1.v] h_19 fun v_9 h_20 => as1 .sl v_9 fun r_11 =>
          loopW (fun _ (q_back : Bool × Int) h_21 next_3 =>
            ifB (decide (q_back.2 < (r_11.len : Int)))
             (joinW (fun _ (back_1 : Bool) h_22 =>
              ar .i64 (q_back.2 + 1) fun n_2 =>
              next_3 (back_1, n_2) h_22) fun k_5 =>
            ifB q_back.1
             (k_5 true h_21)
             (idx 1 r_11 q_back.2 fun p_3 =>
               ld (.int .i64) h_21 p_3 fun (x_4 : Int) =>
                idx 1 r_2 q_round.2.2 fun p_4 =>
                   ld (.int .i64) h_21 p_4 fun (x_5 : Int) =>
                    k_5 (x_4 == x_5) h_21))
             (ifB (!q_back.1)
           (K (.bool false) h_21)
           (k_3 true h_21))) (false, 0) h_20)) fun k_4 =>
          ld .sl h_16 (p_1.add 2) fun (x_6 : Sl) =>
          idx 3 x_6 q_round_1.2.2 fun p_5 =>
          ld (.agg 3) h_16 p_5 fun (x_7 : Array Value) =>
          ACalls Try.prog F_lateenref22_Virtual [s.v, .agg x_7] h_16 fun v_10 h_23 => as1 .bool v_10 fun r_12 =>
          hExt h_16 h_23 ∧ ifB (!r_12)
           (k_4 true h_23)
           (ld .sl h_16 (p_1.add 2) fun (x_8 : Sl) =>
            idx 3 x_8 q_round_1.2.2 fun p_6 =>
              ld (.int .i64) h_16 (p_6.add 2) fun (x_9 : Int) =>
                idx 1 r_2 q_round_2.2 fun p_7 =>
                   ld (.int .i64) h_16 p_7 fun (x_10 : Int) =>
                    k_4 (x_9 != x_10) h_23))
           (ar .i64 (q_round_1.2.2 + 1) fun n_3 =>
      next_1 (q_round_2.1, up_2, n_3) h_16)) (q_round_1.1, q_round.2.2) h_15) fun k_2 =>
      joinW (fun _ (t_2 : Bool) h_24 =>
        ifB t_2
         (ar .i64 (q_round_1.2.1 + 1) fun n_4 =>
         k_2 n_4 h_24)
         (k_2 q_round_1.2.1 h_24)) fun k_6 =>
      ld .sl h_14 (p_1.add 2) fun (x_11 : Sl) =>
      idx 3 x_11 q_round_1.2.2 fun p_8 =>
      ld (.agg 3) h_14 p_8 fun (x_12 : Array Value) =>
      ACalls Try.prog F_lateenref22_Virtual [s.v, .agg x_12] h_14 fun v_11 h_25 => as1 .bool v_11 fun r_13 =>
      hExt h_14 h_25 ∧ ifB r_13
       (ld .sl h_14 (p_1.add 2) fun (x_13 : Sl) =>
        idx 3 x_13 q_round_1.2.2 fun p_9 =>
          ld (.int .i64) h_14 (p_9.add 2) fun (x_14 : Int) =>
            idx 1 r_2 q_round.2.2 fun p_10 =>
               ld (.int .i64) h_14 p_10 fun (x_15 : Int) =>
                k_6 (decide (x_14 ≥ x_15)) h_25)
       (k_6 false h_25))
       (ar .i64 (q_round.2.2 + 1) fun n_5 =>
    next (q_round_1.1, q_round_1.2.1, n_5) h_14)) (q_round.1, q_round.2.1, 0) h_13)
     (joinW (fun _ (t_3 : Bool) h_26 =>
    K (.bool t_3) h_26) fun k_7 =>
  ifB q_round.1
   (ar .i64 ((r_6.len : Int) - (r_2.len : Int)) fun n_6 =>
            k_7 (decide (n_6 ≤ q_round.2.1)) h_9)
   (ifB ((r_6.len : Int) == (r_2.len : Int))
        (ar .i64 ((r_6.len : Int) - (r_2.len : Int)) fun n_7 =>
            k_7 (decide (n_7 ≤ q_round.2.1)) h_9)
        (k_7 false h_9)))) (false, 0, 0) h_8)) fun k =>
  ACalls Try.prog F_lateenlaw24_awake [] h fun v_12 h_27 => as1 .bool v_12 fun r_14 =>
  ifB (!r_14)
   (k true h_27)
   (ACalls Try.prog F_lateenlaw24_right [s.v] h_27 fun v_13 h_28 => as1 .bool v_13 fun r_15 =>
    ifB (!r_15)
      (k true h_28)
      (k (decide ((l.len : Int) > 20)) h_28))
def lateenlaw24_MatterFirst_a : Ann := (.seq .leaf (.seq (.join [(29, .bool)] [0, 1] .leaf (.cond (.seq .leaf .leaf) .leaf)) (.seq .leaf (.seq .leaf (.seq .leaf (.seq .leaf (.seq (.seq .leaf (.block (.loop [(8, .bool), (9, .int .i64), (10, .int .i64)] [0, 5, 6] (.seq (.seq .leaf (.cond .leaf .leaf)) (.seq (.block (.seq .leaf (.seq .leaf (.block (.loop [(8, .bool), (9, .int .i64), (13, .int .i64)] [0, 5, 6, 10, 11] (.seq (.seq .leaf (.cond .leaf .leaf)) (.seq (.block (.join [(9, .int .i64)] [0, 5, 6, 8, 10, 11, 13] (.join [(87, .bool)] [0, 5, 6, 8, 9, 10, 11, 13] .based (.cond .leaf .leaf)) (.seq .leaf (.block (.loop [(8, .bool), (14, .int .i64)] [0, 5, 6, 9, 10, 11, 13] (.seq (.seq .leaf (.cond .leaf .leaf)) (.join [(8, .bool)] [0, 5, 6, 9, 10, 11, 13, 14] (.block (.seq (.join [(117, .bool)] [0, 5, 6, 8, 9, 10, 11, 13, 14] .based (.cond .leaf .leaf)) (.seq .leaf (.seq .leaf (.seq (.seq .leaf (.block (.loop [(15, .bool), (17, .int .i64)] [0, 5, 6, 9, 10, 11, 13, 14, 16] (.seq (.seq .leaf (.cond .leaf .leaf)) (.join [(15, .bool)] [0, 5, 6, 9, 10, 11, 13, 14, 16, 17] (.block .leaf) .leaf))))) (.seq (.seq .leaf (.cond (.seq .leaf .leaf) .leaf)) .leaf)))))) .leaf))))))) .leaf))))))) .leaf))))) (.join [(4, .bool)] [] .leaf .leaf))))))))
theorem lateenlaw24_MatterFirst_eq (s : Sl) (l : Sl) (h : Heap) (K : Value → Heap → Prop) : lateenlaw24_MatterFirst s l h K = fnW Try.prog ty lateenlaw24_MatterFirst_a (bodyOf Try.f13) [.tmp 4] [s.v, l.v] h K := by kernel_rfl
theorem lateenlaw24_MatterFirst_of {s : Sl} {l : Sl} {h : Heap} {K : Value → Heap → Prop} (hw : lateenlaw24_MatterFirst s l h K) : ACalls Try.prog F_lateenlaw24_MatterFirst [s.v, l.v] h K :=
  calls_sound ty_ok mixed lateenlaw24_MatterFirst_a (c := bodyOf Try.f13) Try.func13 (by kernel_rfl) (by kernel_rfl) (by kernel_rfl) (Nat.le_of_ble_eq_true rfl) (by rw [lateenlaw24_MatterFirst_eq] at hw; exact hw)

/-- lateen/lateenlaw24.MatterAll -/
def lateenlaw24_MatterAll (s : Sl) (l : Sl) (h : Heap) (K : Value → Heap → Prop) : Prop :=
  joinW (fun _ (t : Bool) h_1 =>
    ifB t
     (ACalls Try.prog F_lateenlaw24_awake [] h_1 fun v h_2 => as1 .bool v fun r =>
     K (.bool r) h_2)
     (ACalls Try.prog F_lateenlaw22_There [s.v] h_1 fun v_1 h_3 => as1 .sl v_1 fun r_1 =>
  ACalls Try.prog F_matter_Order [r_1.v, l.v] h_3 fun v_2 h_4 => as1 .sl v_2 fun r_2 =>
  ACalls Try.prog F_lateenlaw24_program [] h_4 fun v_3 h_5 => as1 (.agg 5) v_3 fun r_3 =>
  ACalls Try.prog F_lateenlaw22_There [s.v] h_5 fun v_4 h_6 => as1 .sl v_4 fun r_4 =>
  ACalls Try.prog F_lateenlaw24_names [r_2.v] h_6 fun v_5 h_7 => as1 .sl v_5 fun r_5 =>
  ACalls Try.prog F_matter_Code [.agg r_3, r_4.v, r_2.v, r_5.v] h_7 fun v_6 h_8 => as2 .sl .sl v_6 fun _ r_7 =>
  ACalls Try.prog F_lateenlaw22_Back [r_7.v] h_8 fun v_7 h_9 => as1 .sl v_7 fun r_8 =>
  loopW (fun _ (i : Int) h_10 next =>
    ifB (decide (i < (s.len : Int)))
     (loopW (fun _ (q_made : Bool × Int) h_11 next_1 =>
      ifB (decide (q_made.2 < (r_2.len : Int)))
       (joinW (fun _ (made_1 : Bool) h_12 =>
        ar .i64 (q_made.2 + 1) fun n =>
        next_1 (made_1, n) h_12) fun k_2 =>
      ifB q_made.1
       (k_2 true h_11)
       (idx 1 r_2 q_made.2 fun p =>
         ld (.int .i64) h_11 p fun (x : Int) =>
          idx 6 s i fun p_1 =>
             ld (.int .i64) h_11 (p_1.add 0) fun (x_1 : Int) =>
               k_2 (x == x_1) h_11))
       (idx 6 s i fun p_2 =>
    ld (.int .i64) h_11 (p_2.add 0) fun (x_2 : Int) =>
    ACalls Try.prog F_lateenlaw24_to [.int .i64 x_2] h_11 fun v_8 h_13 => as1 (.agg 3) v_8 fun r_9 =>
    ACalls Try.prog F_lateenref22_Find [r_8.v, .agg r_9] h_13 fun v_9 h_14 => as2 (.agg 6) .bool v_9 fun r_10 r_11 =>
    new 40 #[.int .i64 0, .string ⟨#[]⟩, .slice none 0 0, .int .i64 0, .string ⟨#[]⟩, .int .i64 0] h_14 fun p_3 h_15 =>
    r_10.size = 6 ∧ st r_10.toList h_15 p_3 fun h_16 =>
    joinW (fun _ (t_1 : Bool) h_17 =>
      ifB t_1
       (K (.bool false) h_17)
       (ar .i64 (i + 1) fun n_1 =>
    next n_1 h_17)) fun k_3 =>
    ifB (!r_11)
     (k_3 true h_16)
     (ifB q_made.1
       (ld (.int .i64) h_16 ((p_3.add 3).add 0) fun (x_3 : Int) =>
         ifB (x_3 == 0)
            (k_3 true h_16)
            (ifB (!q_made.1)
               (ld (.agg 3) h_16 (p_3.add 3) fun (x_4 : Array Value) =>
                idx 6 s i fun p_4 =>
                   ld (.agg 3) h_16 (p_4.add 3) fun (x_5 : Array Value) =>
                     eqA [.int .i64, .str, .int .i64] x_4 x_5 fun b =>
                      ifB (!b)
                        (k_3 true h_16)
                        (ld .sl h_16 (p_3.add 2) fun (x_6 : Sl) =>
                         idx 6 s i fun p_5 =>
                            ld .sl h_16 (p_5.add 2) fun (x_7 : Sl) =>
                              ACalls Try.prog F_lateenref22_SameArgs [x_6.v, x_7.v] h_16 fun v_10 h_18 => as1 .bool v_10 fun r_12 =>
                               hExt h_16 h_18 ∧ k_3 (!r_12) h_18))
               (ld .sl h_16 (p_3.add 2) fun (x_8 : Sl) =>
                         idx 6 s i fun p_6 =>
                            ld .sl h_16 (p_6.add 2) fun (x_9 : Sl) =>
                              ACalls Try.prog F_lateenref22_SameArgs [x_8.v, x_9.v] h_16 fun v_11 h_19 => as1 .bool v_11 fun r_13 =>
                               hExt h_16 h_19 ∧ k_3 (!r_13) h_19)))
       (ifB (!q_made.1)
               (ld (.agg 3) h_16 (p_3.add 3) fun (x_10 : Array Value) =>
                idx 6 s i fun p_7 =>
                   ld (.agg 3) h_16 (p_7.add 3) fun (x_11 : Array Value) =>
                     eqA [.int .i64, .str, .int .i64] x_10 x_11 fun b_1 =>
                      ifB (!b_1)
                        (k_3 true h_16)
                        (ld .sl h_16 (p_3.add 2) fun (x_12 : Sl) =>
                         idx 6 s i fun p_8 =>
                            ld .sl h_16 (p_8.add 2) fun (x_13 : Sl) =>
                              ACalls Try.prog F_lateenref22_SameArgs [x_12.v, x_13.v] h_16 fun v_12 h_20 => as1 .bool v_12 fun r_14 =>
                               hExt h_16 h_20 ∧ k_3 (!r_14) h_20))
               (ld .sl h_16 (p_3.add 2) fun (x_14 : Sl) =>
                         idx 6 s i fun p_9 =>
                            ld .sl h_16 (p_9.add 2) fun (x_15 : Sl) =>
                              ACalls Try.prog F_lateenref22_SameArgs [x_14.v, x_15.v] h_16 fun v_13 h_21 => as1 .bool v_13 fun r_15 =>
                               hExt h_16 h_21 ∧ k_3 (!r_15) h_21))))) (false, 0) h_10)
     (loopW (fun _ (i_1 : Int) h_22 next_2 =>
    ifB (decide (i_1 < (l.len : Int)))
     (idx 1 l i_1 fun p_10 =>
    ld (.int .i64) h_22 p_10 fun (x_16 : Int) =>
    ACalls Try.prog F_lateenlaw24_to [.int .i64 x_16] h_22 fun v_14 h_23 => as1 (.agg 3) v_14 fun r_16 =>
    ACalls Try.prog F_lateenref22_Virtual [r_8.v, .agg r_16] h_23 fun v_15 h_24 => as1 .bool v_15 fun r_17 =>
    ifB r_17
     (K (.bool false) h_24)
     (ar .i64 (i_1 + 1) fun n_2 =>
    next_2 n_2 h_24))
     (K (.bool true) h_22)) 0 h_10)) 0 h_9)) fun k =>
  ACalls Try.prog F_lateenlaw24_awake [] h fun v_16 h_25 => as1 .bool v_16 fun r_18 =>
  ifB (!r_18)
   (k true h_25)
   (ACalls Try.prog F_lateenlaw24_right [s.v] h_25 fun v_17 h_26 => as1 .bool v_17 fun r_19 =>
    ifB (!r_19)
      (k true h_26)
      (k (decide ((l.len : Int) > 20)) h_26))
def lateenlaw24_MatterAll_a : Ann := (.seq .leaf (.seq (.join [(26, .bool)] [0, 1] .leaf (.cond (.seq .leaf .leaf) .leaf)) (.seq .leaf (.seq .leaf (.seq .leaf (.seq (.seq .leaf (.block (.loop [(9, .int .i64)] [0, 1, 5, 8] (.seq (.seq .leaf (.cond .leaf .leaf)) (.seq (.block (.seq .leaf (.seq (.seq .leaf (.block (.loop [(10, .bool), (11, .int .i64)] [0, 1, 5, 8, 9] (.seq (.seq .leaf (.cond .leaf .leaf)) (.join [(10, .bool)] [0, 1, 5, 8, 9, 11] (.block .leaf) .leaf))))) (.seq .leaf (.join [(115, .bool)] [0, 1, 5, 8, 9] .based (.cond (.seq .leaf .leaf) .leaf)))))) .leaf))))) (.seq (.seq .leaf (.block (.loop [(14, .int .i64)] [1, 8] (.seq (.seq .leaf (.cond .leaf .leaf)) (.seq (.block (.seq .leaf (.cond (.seq .leaf .leaf) .leaf))) .leaf))))) (.seq .leaf .leaf))))))))
theorem lateenlaw24_MatterAll_eq (s : Sl) (l : Sl) (h : Heap) (K : Value → Heap → Prop) : lateenlaw24_MatterAll s l h K = fnW Try.prog ty lateenlaw24_MatterAll_a (bodyOf Try.f14) [.tmp 4] [s.v, l.v] h K := by kernel_rfl
theorem lateenlaw24_MatterAll_of {s : Sl} {l : Sl} {h : Heap} {K : Value → Heap → Prop} (hw : lateenlaw24_MatterAll s l h K) : ACalls Try.prog F_lateenlaw24_MatterAll [s.v, l.v] h K :=
  calls_sound ty_ok mixed lateenlaw24_MatterAll_a (c := bodyOf Try.f14) Try.func14 (by kernel_rfl) (by kernel_rfl) (by kernel_rfl) (Nat.le_of_ble_eq_true rfl) (by rw [lateenlaw24_MatterAll_eq] at hw; exact hw)

/-- lateen/lateenlaw24.MatterKeeps -/
def lateenlaw24_MatterKeeps (s : Sl) (l : Sl) (h : Heap) (K : Value → Heap → Prop) : Prop :=
  joinW (fun _ (t : Bool) h_1 =>
    ifB t
     (ACalls Try.prog F_lateenlaw24_awake [] h_1 fun v h_2 => as1 .bool v fun r =>
     K (.bool r) h_2)
     (loopW (fun _ (q_was : Sl × Int) h_3 next =>
    ifB (decide (q_was.2 < (s.len : Int)))
     (idx 6 s q_was.2 fun p =>
    ld (.agg 6) h_3 p fun (x : Array Value) =>
    new 40 #[.int .i64 0, .string ⟨#[]⟩, .slice none 0 0, .int .i64 0, .string ⟨#[]⟩, .int .i64 0] h_3 fun p_1 h_4 =>
    x.size = 6 ∧ st x.toList h_4 p_1 fun h_5 =>
    bld si_Lapi_Arg 0 [] h_5 fun s_1 h_6 =>
    idx 6 s q_was.2 fun p_2 =>
    ld .sl h_6 (p_2.add 2) fun (x_1 : Sl) =>
    app si_Lapi_Arg s_1 x_1 h_6 fun s_2 h_7 =>
    st [s_2.v] h_7 (p_1.add 2) fun h_8 =>
    ld (.agg 6) h_8 p_1 fun (x_2 : Array Value) =>
    bld si_Llateenref22_Obj 1 [(0, .agg x_2)] h_8 fun s_3 h_9 =>
    app si_Llateenref22_Obj q_was.1 s_3 h_9 fun s_4 h_10 =>
    ar .i64 (q_was.2 + 1) fun n =>
    next (s_4, n) h_10)
     (bld si_Lint64 0 [] h_3 fun s_5 h_11 =>
  app si_Lint64 s_5 l h_11 fun s_6 h_12 =>
  ACalls Try.prog F_lateenlaw22_There [s.v] h_12 fun v_1 h_13 => as1 .sl v_1 fun r_1 =>
  ACalls Try.prog F_matter_Order [r_1.v, l.v] h_13 fun v_2 h_14 => as1 .sl v_2 fun r_2 =>
  ACalls Try.prog F_lateenlaw24_program [] h_14 fun v_3 h_15 => as1 (.agg 5) v_3 fun r_3 =>
  ACalls Try.prog F_lateenlaw22_There [s.v] h_15 fun v_4 h_16 => as1 .sl v_4 fun r_4 =>
  ACalls Try.prog F_lateenlaw24_names [r_2.v] h_16 fun v_5 h_17 => as1 .sl v_5 fun r_5 =>
  ACalls Try.prog F_matter_Code [.agg r_3, r_4.v, r_2.v, r_5.v] h_17 fun v_6 h_18 => as2 .sl .sl v_6 fun _ r_7 =>
  loopW (fun _ (i_1 : Int) h_19 next_1 =>
    ifB (decide (i_1 < (r_7.len : Int)))
     (idx 6 r_7 i_1 fun p_3 =>
    st [.int .i64 (-7)] h_19 (p_3.add 0) fun h_20 =>
    ar .i64 (i_1 + 1) fun n_1 =>
    next_1 n_1 h_20)
     (loopW (fun _ (i_2 : Int) h_21 next_2 =>
    ifB (decide (i_2 < (r_2.len : Int)))
     (idx 1 r_2 i_2 fun p_4 =>
    st [.int .i64 (-7)] h_21 p_4 fun h_22 =>
    ar .i64 (i_2 + 1) fun n_2 =>
    next_2 n_2 h_22)
     (joinW (fun _ (t_1 : Bool) h_23 =>
    K (.bool t_1) h_23) fun k_1 =>
  ACalls Try.prog F_lateenref22_Same [s.v, q_was.1.v] h_21 fun v_7 h_24 => as1 .bool v_7 fun r_8 =>
  ifB r_8
   (ACalls Try.prog F_lateenlaw24_sameIds [l.v, s_6.v] h_24 fun v_8 h_25 => as1 .bool v_8 fun r_9 =>
     k_1 r_9 h_25)
   (k_1 false h_24))) 0 h_19)) 0 h_18)) ((⟨none, 0, 0⟩ : Sl), 0) h_1)) fun k =>
  ACalls Try.prog F_lateenlaw24_awake [] h fun v_9 h_26 => as1 .bool v_9 fun r_10 =>
  ifB (!r_10)
   (k true h_26)
   (ACalls Try.prog F_lateenlaw24_right [s.v] h_26 fun v_10 h_27 => as1 .bool v_10 fun r_11 =>
    ifB (!r_11)
      (k true h_27)
      (k (decide ((l.len : Int) > 20)) h_27))
def lateenlaw24_MatterKeeps_a : Ann := (.seq .leaf (.seq (.join [(25, .bool)] [0, 1] .leaf (.cond (.seq .leaf .leaf) .leaf)) (.seq .leaf (.seq (.seq .leaf (.block (.loop [(5, .sl), (6, .int .i64)] [0, 1] (.seq (.seq .leaf (.cond .leaf .leaf)) (.seq (.block (.seq .leaf (.seq .leaf .leaf))) .leaf))))) (.seq .leaf (.seq .leaf (.seq .leaf (.seq (.seq .leaf (.block (.loop [(12, .int .i64)] [0, 1, 5, 8, 9, 11] (.seq (.seq .leaf (.cond .leaf .leaf)) (.seq (.block .leaf) .leaf))))) (.seq (.seq .leaf (.block (.loop [(13, .int .i64)] [0, 1, 5, 8, 9] (.seq (.seq .leaf (.cond .leaf .leaf)) (.seq (.block .leaf) .leaf))))) (.join [(4, .bool)] [] .leaf .leaf))))))))))
theorem lateenlaw24_MatterKeeps_eq (s : Sl) (l : Sl) (h : Heap) (K : Value → Heap → Prop) : lateenlaw24_MatterKeeps s l h K = fnW Try.prog ty lateenlaw24_MatterKeeps_a (bodyOf Try.f15) [.tmp 4] [s.v, l.v] h K := by kernel_rfl
theorem lateenlaw24_MatterKeeps_of {s : Sl} {l : Sl} {h : Heap} {K : Value → Heap → Prop} (hw : lateenlaw24_MatterKeeps s l h K) : ACalls Try.prog F_lateenlaw24_MatterKeeps [s.v, l.v] h K :=
  calls_sound ty_ok mixed lateenlaw24_MatterKeeps_a (c := bodyOf Try.f15) Try.func15 (by kernel_rfl) (by kernel_rfl) (by kernel_rfl) (Nat.le_of_ble_eq_true rfl) (by rw [lateenlaw24_MatterKeeps_eq] at hw; exact hw)

/-- lateen/lateenref22.Find -/
def lateenref22_Find (s : Sl) (a : Array Value) (h : Heap) (K : Value → Heap → Prop) : Prop :=
  new 37 a h fun p h_1 =>
  new 40 #[.int .i64 0, .string ⟨#[]⟩, .slice none 0 0, .int .i64 0, .string ⟨#[]⟩, .int .i64 0] h_1 fun p_1 h_2 =>
  loopW (fun _ (i : Int) h_3 next =>
    joinW (fun _ (t : Bool) h_4 =>
      ifB t
       (idx 6 s i fun p_2 =>
    ld (.int .i64) h_4 (p_2.add 0) fun (x : Int) =>
    ld (.int .i64) h_4 (p.add 2) fun (x_1 : Int) =>
    ifB (x == x_1)
     (idx 6 s i fun p_3 =>
     ld (.agg 6) h_4 p_3 fun (x_2 : Array Value) =>
     x_2.size = 6 ∧ st x_2.toList h_4 p_1 fun h_5 =>
     ld (.agg 6) h_5 p_1 fun (x_3 : Array Value) => K (.tuple #[.agg x_3, .bool true]) h_5)
     (ar .i64 (i + 1) fun n =>
    next n h_4))
       (bst [(0, 1), (1, 1), (2, 1), (3, 3)] #[.int .i64 0, .string ⟨#[]⟩, .slice none 0 0, .int .i64 0, .string ⟨#[]⟩, .int .i64 0] [] fun c =>
  c.size = 6 ∧ st c.toList h_4 p_1 fun h_6 =>
  ld (.agg 6) h_6 p_1 fun (x_4 : Array Value) => K (.tuple #[.agg x_4, .bool false]) h_6)) fun k =>
    ifB (decide (i < (s.len : Int)))
     (ld (.int .i64) h_3 (p.add 0) fun (x_5 : Int) =>
      k (x_5 == 5) h_3)
     (k false h_3)) 0 h_2
def lateenref22_Find_a : Ann := (.seq .leaf (.seq (.seq .leaf (.block (.loop [(6, .int .i64)] [0, 3, 4] (.seq (.join [(15, .bool)] [0, 3, 4, 6] .leaf (.cond .leaf .leaf)) (.seq (.block (.seq .leaf (.cond (.seq .leaf .leaf) .leaf))) .leaf))))) (.seq .leaf .leaf)))
theorem lateenref22_Find_eq (s : Sl) (a : Array Value) (h : Heap) (K : Value → Heap → Prop) : lateenref22_Find s a h K = fnW Try.prog ty lateenref22_Find_a (bodyOf Try.f20) [.cell 4 40, .tmp 5] [s.v, .agg a] h K := by kernel_rfl
theorem lateenref22_Find_of {s : Sl} {a : Array Value} {h : Heap} {K : Value → Heap → Prop} (hw : lateenref22_Find s a h K) : ACalls Try.prog F_lateenref22_Find [s.v, .agg a] h K :=
  calls_sound ty_ok mixed lateenref22_Find_a (c := bodyOf Try.f20) Try.func20 (by kernel_rfl) (by kernel_rfl) (by kernel_rfl) (Nat.le_of_ble_eq_true rfl) (by rw [lateenref22_Find_eq] at hw; exact hw)

/-- lateen/lateenref22.Really -/
def lateenref22_Really (s : Sl) (a : Array Value) (h : Heap) (K : Value → Heap → Prop) : Prop :=
  new 37 a h fun p h_1 =>
  new 37 #[.int .i64 0, .string ⟨#[]⟩, .int .i64 0] h_1 fun p_1 h_2 =>
  ld (.agg 3) h_2 p fun (x : Array Value) =>
  ACalls Try.prog F_lateenref22_Find [s.v, .agg x] h_2 fun v h_3 => as2 (.agg 6) .bool v fun r r_1 =>
  new 40 #[.int .i64 0, .string ⟨#[]⟩, .slice none 0 0, .int .i64 0, .string ⟨#[]⟩, .int .i64 0] h_3 fun p_2 h_4 =>
  r.size = 6 ∧ st r.toList h_4 p_2 fun h_5 =>
  joinW (fun _ (t : Bool) h_6 =>
    ifB t
     (ld (.agg 3) h_6 (p_2.add 3) fun (x_1 : Array Value) =>
     x_1.size = 3 ∧ st x_1.toList h_6 p_1 fun h_7 =>
     ld (.agg 3) h_7 p_1 fun (x_2 : Array Value) => K (.agg x_2) h_7)
     (ld (.agg 3) h_6 p fun (x_3 : Array Value) =>
  x_3.size = 3 ∧ st x_3.toList h_6 p_1 fun h_8 =>
  ld (.agg 3) h_8 p_1 fun (x_4 : Array Value) => K (.agg x_4) h_8)) fun k =>
  ifB r_1
   (ld (.int .i64) h_5 ((p_2.add 3).add 0) fun (x_5 : Int) =>
     k (x_5 != 0) h_5)
   (k false h_5)
def lateenref22_Really_a : Ann := (.seq .leaf (.seq .leaf (.seq (.join [(19, .bool)] [3, 4, 5] .leaf (.cond (.seq .leaf .leaf) .leaf)) (.seq .leaf .leaf))))
theorem lateenref22_Really_eq (s : Sl) (a : Array Value) (h : Heap) (K : Value → Heap → Prop) : lateenref22_Really s a h K = fnW Try.prog ty lateenref22_Really_a (bodyOf Try.f22) [.cell 4 37] [s.v, .agg a] h K := by kernel_rfl
theorem lateenref22_Really_of {s : Sl} {a : Array Value} {h : Heap} {K : Value → Heap → Prop} (hw : lateenref22_Really s a h K) : ACalls Try.prog F_lateenref22_Really [s.v, .agg a] h K :=
  calls_sound ty_ok mixed lateenref22_Really_a (c := bodyOf Try.f22) Try.func22 (by kernel_rfl) (by kernel_rfl) (by kernel_rfl) (Nat.le_of_ble_eq_true rfl) (by rw [lateenref22_Really_eq] at hw; exact hw)

/-- lateen/lateenref22.Virtual -/
def lateenref22_Virtual (s : Sl) (a : Array Value) (h : Heap) (K : Value → Heap → Prop) : Prop :=
  new 37 a h fun p h_1 =>
  ld (.agg 3) h_1 p fun (x : Array Value) =>
  ACalls Try.prog F_lateenref22_Find [s.v, .agg x] h_1 fun v h_2 => as2 (.agg 6) .bool v fun r r_1 =>
  new 40 #[.int .i64 0, .string ⟨#[]⟩, .slice none 0 0, .int .i64 0, .string ⟨#[]⟩, .int .i64 0] h_2 fun p_1 h_3 =>
  r.size = 6 ∧ st r.toList h_3 p_1 fun h_4 =>
  joinW (fun _ (t : Bool) h_5 =>
    K (.bool t) h_5) fun k =>
  ifB r_1
   (ld (.int .i64) h_4 ((p_1.add 3).add 0) fun (x_1 : Int) =>
     k (x_1 == 0) h_4)
   (k false h_4)
def lateenref22_Virtual_a : Ann := (.seq .leaf (.seq .leaf (.join [(4, .bool)] [] .leaf .leaf)))
theorem lateenref22_Virtual_eq (s : Sl) (a : Array Value) (h : Heap) (K : Value → Heap → Prop) : lateenref22_Virtual s a h K = fnW Try.prog ty lateenref22_Virtual_a (bodyOf Try.f23) [.tmp 4] [s.v, .agg a] h K := by kernel_rfl
theorem lateenref22_Virtual_of {s : Sl} {a : Array Value} {h : Heap} {K : Value → Heap → Prop} (hw : lateenref22_Virtual s a h K) : ACalls Try.prog F_lateenref22_Virtual [s.v, .agg a] h K :=
  calls_sound ty_ok mixed lateenref22_Virtual_a (c := bodyOf Try.f23) Try.func23 (by kernel_rfl) (by kernel_rfl) (by kernel_rfl) (Nat.le_of_ble_eq_true rfl) (by rw [lateenref22_Virtual_eq] at hw; exact hw)

/-- lateen/lateenref22.Same -/
def lateenref22_Same (s : Sl) (t : Sl) (h : Heap) (K : Value → Heap → Prop) : Prop :=
  ifB ((s.len : Int) != (t.len : Int))
   (K (.bool false) h)
   (loopW (fun _ (i : Int) h_1 next =>
    ifB (decide (i < (s.len : Int)))
     (joinW (fun _ (t_1 : Bool) h_2 =>
      ifB t_1
       (K (.bool false) h_2)
       (ar .i64 (i + 1) fun n =>
    next n h_2)) fun k =>
    idx 6 s i fun p =>
    ld (.int .i64) h_1 (p.add 0) fun (x : Int) =>
    idx 6 t i fun p_1 =>
    ld (.int .i64) h_1 (p_1.add 0) fun (x_1 : Int) =>
    ifB (x != x_1)
     (k true h_1)
     (idx 6 s i fun p_2 =>
       ld .str h_1 (p_2.add 1) fun (x_2 : ByteArray) =>
         idx 6 t i fun p_3 =>
            ld .str h_1 (p_3.add 1) fun (x_3 : ByteArray) =>
              ifB (!(x_2.toList == x_3.toList))
                (k true h_1)
                (idx 6 s i fun p_4 =>
                  ld (.agg 3) h_1 (p_4.add 3) fun (x_4 : Array Value) =>
                    idx 6 t i fun p_5 =>
                       ld (.agg 3) h_1 (p_5.add 3) fun (x_5 : Array Value) =>
                         eqA [.int .i64, .str, .int .i64] x_4 x_5 fun b =>
                          ifB (!b)
                           (k true h_1)
                           (idx 6 s i fun p_6 =>
                             ld .sl h_1 (p_6.add 2) fun (x_6 : Sl) =>
                               idx 6 t i fun p_7 =>
                                  ld .sl h_1 (p_7.add 2) fun (x_7 : Sl) =>
                                    ACalls Try.prog F_lateenref22_SameArgs [x_6.v, x_7.v] h_1 fun v h_3 => as1 .bool v fun r =>
                                     hExt h_1 h_3 ∧ k (!r) h_3))))
     (K (.bool true) h_1)) 0 h)
def lateenref22_Same_a : Ann := (.seq .leaf (.seq (.seq .leaf (.cond (.seq .leaf .leaf) .leaf)) (.seq (.seq .leaf (.block (.loop [(5, .int .i64)] [0, 1] (.seq (.seq .leaf (.cond .leaf .leaf)) (.seq (.block (.join [(67, .bool)] [0, 1, 5] .based (.cond (.seq .leaf .leaf) .leaf))) .leaf))))) (.seq .leaf .leaf))))
theorem lateenref22_Same_eq (s : Sl) (t : Sl) (h : Heap) (K : Value → Heap → Prop) : lateenref22_Same s t h K = fnW Try.prog ty lateenref22_Same_a (bodyOf Try.f24) [.tmp 4] [s.v, t.v] h K := by kernel_rfl
theorem lateenref22_Same_of {s : Sl} {t : Sl} {h : Heap} {K : Value → Heap → Prop} (hw : lateenref22_Same s t h K) : ACalls Try.prog F_lateenref22_Same [s.v, t.v] h K :=
  calls_sound ty_ok mixed lateenref22_Same_a (c := bodyOf Try.f24) Try.func24 (by kernel_rfl) (by kernel_rfl) (by kernel_rfl) (Nat.le_of_ble_eq_true rfl) (by rw [lateenref22_Same_eq] at hw; exact hw)

/-- lateen/lateenlaw22.Back -/
def lateenlaw22_Back (s : Sl) (h : Heap) (K : Value → Heap → Prop) : Prop :=
  loopW (fun _ (q_out : Sl × Int) h_1 next =>
    ifB (decide (q_out.2 < (s.len : Int)))
     (idx 6 s q_out.2 fun p =>
    ld (.int .i64) h_1 (p.add 0) fun (x : Int) =>
    idx 6 s q_out.2 fun p_1 =>
    ld .str h_1 (p_1.add 1) fun (x_1 : ByteArray) =>
    idx 6 s q_out.2 fun p_2 =>
    ld .sl h_1 (p_2.add 2) fun (x_2 : Sl) =>
    idx 6 s q_out.2 fun p_3 =>
    ld (.agg 3) h_1 (p_3.add 3) fun (x_3 : Array Value) =>
    bst [(0, 1), (1, 1), (2, 1), (3, 3)] #[.int .i64 0, .string ⟨#[]⟩, .slice none 0 0, .int .i64 0, .string ⟨#[]⟩, .int .i64 0] [(0, .int .i64 x), (1, .string x_1), (2, x_2.v), (3, .agg x_3)] fun c =>
    bld si_Llateenref22_Obj 1 [(0, .agg c)] h_1 fun s_1 h_2 =>
    app si_Llateenref22_Obj q_out.1 s_1 h_2 fun s_2 h_3 =>
    ar .i64 (q_out.2 + 1) fun n =>
    next (s_2, n) h_3)
     (K q_out.1.v h_1)) ((⟨none, 0, 0⟩ : Sl), 0) h
def lateenlaw22_Back_a : Ann := (.seq .leaf (.seq .leaf (.seq (.seq .leaf (.block (.loop [(3, .sl), (4, .int .i64)] [0] (.seq (.seq .leaf (.cond .leaf .leaf)) (.seq (.block .leaf) .leaf))))) (.seq .leaf .leaf))))
theorem lateenlaw22_Back_eq (s : Sl) (h : Heap) (K : Value → Heap → Prop) : lateenlaw22_Back s h K = fnW Try.prog ty lateenlaw22_Back_a (bodyOf Try.f25) [.tmp 2] [s.v] h K := by kernel_rfl
theorem lateenlaw22_Back_of {s : Sl} {h : Heap} {K : Value → Heap → Prop} (hw : lateenlaw22_Back s h K) : ACalls Try.prog F_lateenlaw22_Back [s.v] h K :=
  calls_sound ty_ok mixed lateenlaw22_Back_a (c := bodyOf Try.f25) Try.func25 (by kernel_rfl) (by kernel_rfl) (by kernel_rfl) (Nat.le_of_ble_eq_true rfl) (by rw [lateenlaw22_Back_eq] at hw; exact hw)

/-- lateen/lateenref22.SameArgs -/
def lateenref22_SameArgs (a : Sl) (b : Sl) (h : Heap) (K : Value → Heap → Prop) : Prop :=
  ifB ((a.len : Int) != (b.len : Int))
   (K (.bool false) h)
   (loopW (fun _ (i : Int) h_1 next =>
    ifB (decide (i < (a.len : Int)))
     (idx 3 a i fun p =>
    ld (.agg 3) h_1 p fun (x : Array Value) =>
    idx 3 b i fun p_1 =>
    ld (.agg 3) h_1 p_1 fun (x_1 : Array Value) =>
    eqA [.int .i64, .str, .int .i64] x x_1 fun b_1 =>
    ifB (!b_1)
     (K (.bool false) h_1)
     (ar .i64 (i + 1) fun n =>
    next n h_1))
     (K (.bool true) h_1)) 0 h)
def lateenref22_SameArgs_a : Ann := (.seq .leaf (.seq (.seq .leaf (.cond (.seq .leaf .leaf) .leaf)) (.seq (.seq .leaf (.block (.loop [(5, .int .i64)] [0, 1] (.seq (.seq .leaf (.cond .leaf .leaf)) (.seq (.block (.seq .leaf (.cond (.seq .leaf .leaf) .leaf))) .leaf))))) (.seq .leaf .leaf))))
theorem lateenref22_SameArgs_eq (a : Sl) (b : Sl) (h : Heap) (K : Value → Heap → Prop) : lateenref22_SameArgs a b h K = fnW Try.prog ty lateenref22_SameArgs_a (bodyOf Try.f26) [.tmp 4] [a.v, b.v] h K := by kernel_rfl
theorem lateenref22_SameArgs_of {a : Sl} {b : Sl} {h : Heap} {K : Value → Heap → Prop} (hw : lateenref22_SameArgs a b h K) : ACalls Try.prog F_lateenref22_SameArgs [a.v, b.v] h K :=
  calls_sound ty_ok mixed lateenref22_SameArgs_a (c := bodyOf Try.f26) Try.func26 (by kernel_rfl) (by kernel_rfl) (by kernel_rfl) (Nat.le_of_ble_eq_true rfl) (by rw [lateenref22_SameArgs_eq] at hw; exact hw)

/-- lateen/lateenlaw22.awake -/
def lateenlaw22_awake  (h : Heap) (K : Value → Heap → Prop) : Prop :=
  ACalls Try.prog F_lateenlaw22_to [.int .i64 2] h fun v h_1 => as1 (.agg 3) v fun r =>
  bld si_Lapi_Arg 1 [(0, .agg r)] h_1 fun s h_2 =>
  bst [(0, 1), (1, 1), (2, 1), (3, 3)] #[.int .i64 0, .string ⟨#[]⟩, .slice none 0 0, .int .i64 0, .string ⟨#[]⟩, .int .i64 0] [(0, .int .i64 1), (2, s.v)] fun c =>
  ACalls Try.prog F_lateenlaw22_to [.int .i64 1] h_2 fun v_1 h_3 => as1 (.agg 3) v_1 fun r_1 =>
  bld si_Lapi_Arg 1 [(0, .agg r_1)] h_3 fun s_1 h_4 =>
  bst [(0, 1), (1, 1), (2, 1), (3, 3)] #[.int .i64 0, .string ⟨#[]⟩, .slice none 0 0, .int .i64 0, .string ⟨#[]⟩, .int .i64 0] [(0, .int .i64 2), (2, s_1.v)] fun c_1 =>
  bld si_Lvstate_Obj 2 [(0, .agg c), (1, .agg c_1)] h_4 fun s_2 h_5 =>
  ACalls Try.prog F_lateenlaw22_to [.int .i64 1] h_5 fun v_2 h_6 => as1 (.agg 3) v_2 fun r_2 =>
  bld si_Lapi_Arg 1 [(0, .agg r_2)] h_6 fun s_3 h_7 =>
  ACalls Try.prog F_vstate_Reach [s_2.v, s_3.v] h_7 fun v_3 h_8 => as1 .sl v_3 fun r_3 =>
  bst [(0, 1), (1, 1), (2, 1)] #[.int .i64 0, .string ⟨#[]⟩, .int .i64 0] [(0, .int .i64 1), (1, .string ⟨#[120]⟩)] fun c_2 =>
  bst [(0, 1), (1, 1), (2, 1), (3, 3)] #[.int .i64 0, .string ⟨#[]⟩, .slice none 0 0, .int .i64 0, .string ⟨#[]⟩, .int .i64 0] [(0, .int .i64 2), (3, .agg c_2)] fun c_3 =>
  ACalls Try.prog F_vstate_Add [s_2.v, .agg c_3] h_8 fun v_4 h_9 => as1 .sl v_4 fun r_4 =>
  ACalls Try.prog F_lateenlaw22_to [.int .i64 1] h_9 fun v_5 h_10 => as1 (.agg 3) v_5 fun r_5 =>
  bld si_Lapi_Arg 1 [(0, .agg r_5)] h_10 fun s_4 h_11 =>
  ACalls Try.prog F_vstate_Reach [r_4.v, s_4.v] h_11 fun v_6 h_12 => as1 .sl v_6 fun r_6 =>
  joinW (fun _ (t : Bool) h_13 =>
    K (.bool t) h_13) fun k =>
  ACalls Try.prog F_vstate_Right [s_2.v] h_12 fun v_7 h_14 => as1 .bool v_7 fun r_7 =>
  ifB r_7
   (ifB ((r_3.len : Int) == 2)
      (idx 1 r_3 0 fun p =>
       ld (.int .i64) h_14 p fun (x : Int) =>
        ifB (x == 1)
          (idx 1 r_3 1 fun p_1 =>
           ld (.int .i64) h_14 p_1 fun (x_1 : Int) =>
            ifB (x_1 == 2)
              (ifB ((r_6.len : Int) == 1)
                 (ACalls Try.prog F_lateenlaw22_to [.int .i64 2] h_14 fun v_8 h_15 => as1 (.agg 3) v_8 fun r_8 =>
                  ACalls Try.prog F_vstate_Really [r_4.v, .agg r_8] h_15 fun v_9 h_16 => as1 (.agg 3) v_9 fun r_9 =>
                   fldA .str r_9 1 fun x_2 =>
                    ifB (x_2.toList == (⟨#[120]⟩ : ByteArray).toList)
                      (ACalls Try.prog F_lateenlaw22_to [.int .i64 2] h_16 fun v_10 h_17 => as1 (.agg 3) v_10 fun r_10 =>
                       ACalls Try.prog F_vstate_Virtual [s_2.v, .agg r_10] h_17 fun v_11 h_18 => as1 .bool v_11 fun r_11 =>
                        ifB r_11
                         (ACalls Try.prog F_lateenlaw22_to [.int .i64 2] h_18 fun v_12 h_19 => as1 (.agg 3) v_12 fun r_12 =>
                          ACalls Try.prog F_vstate_Virtual [r_4.v, .agg r_12] h_19 fun v_13 h_20 => as1 .bool v_13 fun r_13 =>
                           ifB (!r_13)
                             (slc 6 s_2 none (some 1) fun s_5 =>
                              ACalls Try.prog F_vstate_Right [s_5.v] h_20 fun v_14 h_21 => as1 .bool v_14 fun r_14 =>
                               k (!r_14) h_21)
                             (k false h_20))
                         (k false h_18))
                      (k false h_16))
                 (k false h_14))
              (k false h_14))
          (k false h_14))
      (k false h_14))
   (k false h_14)
def lateenlaw22_awake_a : Ann := (.seq .leaf (.seq .leaf (.seq .leaf (.seq .leaf (.seq .leaf (.join [(0, .bool)] [] .leaf .leaf))))))
theorem lateenlaw22_awake_eq  (h : Heap) (K : Value → Heap → Prop) : lateenlaw22_awake  h K = fnW Try.prog ty lateenlaw22_awake_a (bodyOf Try.f28) [.tmp 0] [] h K := by kernel_rfl
theorem lateenlaw22_awake_of  {h : Heap} {K : Value → Heap → Prop} (hw : lateenlaw22_awake  h K) : ACalls Try.prog F_lateenlaw22_awake [] h K :=
  calls_sound ty_ok mixed lateenlaw22_awake_a (c := bodyOf Try.f28) Try.func28 (by kernel_rfl) (by kernel_rfl) (by kernel_rfl) (Nat.le_of_ble_eq_true rfl) (by rw [lateenlaw22_awake_eq] at hw; exact hw)

/-- lateen/lateenref22.Few -/
def lateenref22_Few (s : Sl) (h : Heap) (K : Value → Heap → Prop) : Prop :=
  ifB (decide ((s.len : Int) > 40))
   (K (.bool false) h)
   (loopW (fun _ (i : Int) h_1 next =>
    ifB (decide (i < (s.len : Int)))
     (idx 6 s i fun p =>
    ld .sl h_1 (p.add 2) fun (x : Sl) =>
    ifB (decide ((x.len : Int) > 20))
     (K (.bool false) h_1)
     (ar .i64 (i + 1) fun n =>
    next n h_1))
     (K (.bool true) h_1)) 0 h)
def lateenref22_Few_a : Ann := (.seq .leaf (.seq (.seq .leaf (.cond (.seq .leaf .leaf) .leaf)) (.seq (.seq .leaf (.block (.loop [(3, .int .i64)] [0] (.seq (.seq .leaf (.cond .leaf .leaf)) (.seq (.block (.seq .leaf (.cond (.seq .leaf .leaf) .leaf))) .leaf))))) (.seq .leaf .leaf))))
theorem lateenref22_Few_eq (s : Sl) (h : Heap) (K : Value → Heap → Prop) : lateenref22_Few s h K = fnW Try.prog ty lateenref22_Few_a (bodyOf Try.f29) [.tmp 2] [s.v] h K := by kernel_rfl
theorem lateenref22_Few_of {s : Sl} {h : Heap} {K : Value → Heap → Prop} (hw : lateenref22_Few s h K) : ACalls Try.prog F_lateenref22_Few [s.v] h K :=
  calls_sound ty_ok mixed lateenref22_Few_a (c := bodyOf Try.f29) Try.func29 (by kernel_rfl) (by kernel_rfl) (by kernel_rfl) (Nat.le_of_ble_eq_true rfl) (by rw [lateenref22_Few_eq] at hw; exact hw)

/-- lateen/vstate.Right -/
def vstate_Right (s : Sl) (h : Heap) (K : Value → Heap → Prop) : Prop :=
  loopW (fun _ (q_last : Int × Int) h_1 next =>
    ifB (decide (q_last.2 < (s.len : Int)))
     (idx 6 s q_last.2 fun p =>
    ld (.agg 6) h_1 p fun (x : Array Value) =>
    new 39 #[.int .i64 0, .string ⟨#[]⟩, .slice none 0 0, .int .i64 0, .string ⟨#[]⟩, .int .i64 0] h_1 fun p_1 h_2 =>
    x.size = 6 ∧ st x.toList h_2 p_1 fun h_3 =>
    joinW (fun _ (t_1 : Bool) h_4 =>
      ifB t_1
       (K (.bool false) h_4)
       (ld (.int .i64) h_4 (p_1.add 0) fun (x_1 : Int) =>
    ar .i64 (q_last.2 + 1) fun n =>
    next (x_1, n) h_4)) fun k =>
    ld (.int .i64) h_3 (p_1.add 0) fun (x_2 : Int) =>
    ifB (decide (x_2 ≤ q_last.1))
     (k true h_3)
     (ld (.int .i64) h_3 ((p_1.add 3).add 0) fun (x_3 : Int) =>
       k (x_3 == 5) h_3))
     (loopW (fun _ (t_2 : Int) h_5 next_1 =>
    ifB (decide (t_2 < (s.len : Int)))
     (idx 6 s t_2 fun p_2 =>
    ld (.agg 6) h_5 p_2 fun (x_4 : Array Value) =>
    new 39 #[.int .i64 0, .string ⟨#[]⟩, .slice none 0 0, .int .i64 0, .string ⟨#[]⟩, .int .i64 0] h_5 fun p_3 h_6 =>
    x_4.size = 6 ∧ st x_4.toList h_6 p_3 fun h_7 =>
    ld .sl h_7 (p_3.add 2) fun (x_5 : Sl) =>
    loopW (fun _ (t_3 : Int) h_8 next_2 =>
      ifB (decide (t_3 < (x_5.len : Int)))
       (idx 3 x_5 t_3 fun p_4 =>
      ld (.agg 3) h_8 p_4 fun (x_6 : Array Value) =>
      new 37 #[.int .i64 0, .string ⟨#[]⟩, .int .i64 0] h_8 fun p_5 h_9 =>
      x_6.size = 3 ∧ st x_6.toList h_9 p_5 fun h_10 =>
      ld (.agg 3) h_10 p_5 fun (x_7 : Array Value) =>
      ACalls Try.prog F_vstate_find [s.v, .agg x_7] h_10 fun v h_11 => as2 (.agg 6) .bool v fun r r_1 =>
      new 39 #[.int .i64 0, .string ⟨#[]⟩, .slice none 0 0, .int .i64 0, .string ⟨#[]⟩, .int .i64 0] h_11 fun p_6 h_12 =>
      r.size = 6 ∧ st r.toList h_12 p_6 fun h_13 =>
      joinW (fun _ (t_4 : Bool) h_14 =>
        ifB t_4
         (K (.bool false) h_14)
         (ar .i64 (t_3 + 1) fun n_1 =>
      next_2 n_1 h_14)) fun k_1 =>
      ld (.int .i64) h_13 (p_5.add 0) fun (x_8 : Int) =>
      ifB (x_8 == 5)
       (k_1 (!r_1) h_13)
       (k_1 false h_13))
       (ar .i64 (t_2 + 1) fun n_2 =>
    next_1 n_2 h_8)) 0 h_7)
     (K (.bool true) h_5)) 0 h_1)) ((-1), 0) h
def vstate_Right_a : Ann := (.seq .leaf (.seq .leaf (.seq (.seq .leaf (.block (.loop [(3, .int .i64), (14, .int .i64)] [0, 12, 13] (.seq .leaf (.seq (.cond .leaf .leaf) (.seq (.block (.seq .leaf (.seq (.join [(27, .bool)] [0, 5, 12, 13, 14] .leaf (.cond (.seq .leaf .leaf) .leaf)) .leaf))) .leaf)))))) (.seq (.seq .leaf (.block (.loop [(33, .int .i64)] [0, 31, 32] (.seq .leaf (.seq (.cond .leaf .leaf) (.seq (.block (.seq .leaf (.seq .leaf (.block (.loop [(40, .int .i64)] [0, 31, 32, 33, 38, 39] (.seq .leaf (.seq (.cond .leaf .leaf) (.seq (.block (.seq .leaf (.seq .leaf (.join [(56, .bool)] [0, 31, 32, 33, 38, 39, 40] .leaf (.cond (.seq .leaf .leaf) .leaf))))) .leaf)))))))) .leaf)))))) (.seq .leaf .leaf)))))
theorem vstate_Right_eq (s : Sl) (h : Heap) (K : Value → Heap → Prop) : vstate_Right s h K = fnW Try.prog ty vstate_Right_a (bodyOf Try.f30) [.tmp 2] [s.v] h K := by kernel_rfl
theorem vstate_Right_of {s : Sl} {h : Heap} {K : Value → Heap → Prop} (hw : vstate_Right s h K) : ACalls Try.prog F_vstate_Right [s.v] h K :=
  calls_sound ty_ok mixed vstate_Right_a (c := bodyOf Try.f30) Try.func30 (by kernel_rfl) (by kernel_rfl) (by kernel_rfl) (Nat.le_of_ble_eq_true rfl) (by rw [vstate_Right_eq] at hw; exact hw)

/-- lateen/lateenlaw22.There -/
def lateenlaw22_There (s : Sl) (h : Heap) (K : Value → Heap → Prop) : Prop :=
  loopW (fun _ (q_out : Sl × Int) h_1 next =>
    ifB (decide (q_out.2 < (s.len : Int)))
     (idx 6 s q_out.2 fun p =>
    ld (.agg 6) h_1 p fun (x : Array Value) =>
    ACalls Try.prog F_lateenlaw22_one [.agg x] h_1 fun v h_2 => as1 (.agg 6) v fun r =>
    bld si_Lvstate_Obj 1 [(0, .agg r)] h_2 fun s_1 h_3 =>
    app si_Lvstate_Obj q_out.1 s_1 h_3 fun s_2 h_4 =>
    ar .i64 (q_out.2 + 1) fun n =>
    next (s_2, n) h_4)
     (K q_out.1.v h_1)) ((⟨none, 0, 0⟩ : Sl), 0) h
def lateenlaw22_There_a : Ann := (.seq .leaf (.seq .leaf (.seq (.seq .leaf (.block (.loop [(3, .sl), (4, .int .i64)] [0] (.seq (.seq .leaf (.cond .leaf .leaf)) (.seq (.block .leaf) .leaf))))) (.seq .leaf .leaf))))
theorem lateenlaw22_There_eq (s : Sl) (h : Heap) (K : Value → Heap → Prop) : lateenlaw22_There s h K = fnW Try.prog ty lateenlaw22_There_a (bodyOf Try.f31) [.tmp 2] [s.v] h K := by kernel_rfl
theorem lateenlaw22_There_of {s : Sl} {h : Heap} {K : Value → Heap → Prop} (hw : lateenlaw22_There s h K) : ACalls Try.prog F_lateenlaw22_There [s.v] h K :=
  calls_sound ty_ok mixed lateenlaw22_There_a (c := bodyOf Try.f31) Try.func31 (by kernel_rfl) (by kernel_rfl) (by kernel_rfl) (Nat.le_of_ble_eq_true rfl) (by rw [lateenlaw22_There_eq] at hw; exact hw)

/-- lateen/lateenref22.Right -/
def lateenref22_Right (s : Sl) (h : Heap) (K : Value → Heap → Prop) : Prop :=
  joinW (fun _ (t : Bool) h_1 =>
    ifB t
     (K (.bool false) h_1)
     (loopW (fun _ (i : Int) h_2 next =>
    ifB (decide (i < (s.len : Int)))
     (idx 6 s i fun p =>
    ld (.int .i64) h_2 ((p.add 3).add 0) fun (x : Int) =>
    ifB (x == 5)
     (K (.bool false) h_2)
     (loopW (fun _ (k_1 : Int) h_3 next_1 =>
      idx 6 s i fun p_1 =>
      ld .sl h_3 (p_1.add 2) fun (x_1 : Sl) =>
      ifB (decide (k_1 < (x_1.len : Int)))
       (idx 6 s i fun p_2 =>
      ld .sl h_3 (p_2.add 2) fun (x_2 : Sl) =>
      idx 3 x_2 k_1 fun p_3 =>
      ld (.agg 3) h_3 p_3 fun (x_3 : Array Value) =>
      ACalls Try.prog F_lateenref22_Find [s.v, .agg x_3] h_3 fun v h_4 => as2 (.agg 6) .bool v fun r r_1 =>
      new 40 #[.int .i64 0, .string ⟨#[]⟩, .slice none 0 0, .int .i64 0, .string ⟨#[]⟩, .int .i64 0] h_4 fun p_4 h_5 =>
      r.size = 6 ∧ st r.toList h_5 p_4 fun h_6 =>
      joinW (fun _ (t_1 : Bool) h_7 =>
        ifB t_1
         (K (.bool false) h_7)
         (ar .i64 (k_1 + 1) fun n =>
      next_1 n h_7)) fun k_2 =>
      idx 6 s i fun p_5 =>
      ld .sl h_6 (p_5.add 2) fun (x_4 : Sl) =>
      idx 3 x_4 k_1 fun p_6 =>
      ld (.int .i64) h_6 (p_6.add 0) fun (x_5 : Int) =>
      ifB (x_5 == 5)
       (k_2 (!r_1) h_6)
       (k_2 false h_6))
       (ar .i64 (i + 1) fun n_1 =>
    next n_1 h_3)) 0 h_2))
     (K (.bool true) h_2)) 0 h_1)) fun k =>
  ACalls Try.prog F_lateenref22_Rising [s.v] h fun v_1 h_8 => as1 .bool v_1 fun r_2 =>
  ifB (!r_2)
   (k true h_8)
   (ifB (decide ((s.len : Int) > 0))
       (idx 6 s 0 fun p_7 =>
        ld (.int .i64) h_8 (p_7.add 0) fun (x_6 : Int) =>
          k (decide (x_6 < 0)) h_8)
       (k false h_8))
def lateenref22_Right_a : Ann := (.seq .leaf (.seq (.join [(21, .bool)] [0] .leaf (.cond (.seq .leaf .leaf) .leaf)) (.seq (.seq .leaf (.block (.loop [(3, .int .i64)] [0] (.seq (.seq .leaf (.cond .leaf .leaf)) (.seq (.block (.seq (.seq .leaf (.cond (.seq .leaf .leaf) .leaf)) (.seq .leaf (.block (.loop [(4, .int .i64)] [0, 3] (.seq (.seq .leaf (.cond .leaf .leaf)) (.seq (.block (.seq .leaf (.join [(71, .bool)] [0, 3, 4] .leaf (.cond (.seq .leaf .leaf) .leaf)))) .leaf))))))) .leaf))))) (.seq .leaf .leaf))))
theorem lateenref22_Right_eq (s : Sl) (h : Heap) (K : Value → Heap → Prop) : lateenref22_Right s h K = fnW Try.prog ty lateenref22_Right_a (bodyOf Try.f32) [.tmp 2] [s.v] h K := by kernel_rfl
theorem lateenref22_Right_of {s : Sl} {h : Heap} {K : Value → Heap → Prop} (hw : lateenref22_Right s h K) : ACalls Try.prog F_lateenref22_Right [s.v] h K :=
  calls_sound ty_ok mixed lateenref22_Right_a (c := bodyOf Try.f32) Try.func32 (by kernel_rfl) (by kernel_rfl) (by kernel_rfl) (Nat.le_of_ble_eq_true rfl) (by rw [lateenref22_Right_eq] at hw; exact hw)

/-- lateen/lateenref22.Rising -/
def lateenref22_Rising (s : Sl) (h : Heap) (K : Value → Heap → Prop) : Prop :=
  loopW (fun _ (i : Int) h_1 next =>
    ifB (decide (i < (s.len : Int)))
     (idx 6 s i fun p =>
    ld (.int .i64) h_1 (p.add 0) fun (x : Int) =>
    ar .i64 (i - 1) fun n =>
    idx 6 s n fun p_1 =>
    ld (.int .i64) h_1 (p_1.add 0) fun (x_1 : Int) =>
    ifB (decide (x ≤ x_1))
     (K (.bool false) h_1)
     (ar .i64 (i + 1) fun n_1 =>
    next n_1 h_1))
     (K (.bool true) h_1)) 1 h
def lateenref22_Rising_a : Ann := (.seq .leaf (.seq (.seq .leaf (.block (.loop [(3, .int .i64)] [0] (.seq (.seq .leaf (.cond .leaf .leaf)) (.seq (.block (.seq .leaf (.cond (.seq .leaf .leaf) .leaf))) .leaf))))) (.seq .leaf .leaf)))
theorem lateenref22_Rising_eq (s : Sl) (h : Heap) (K : Value → Heap → Prop) : lateenref22_Rising s h K = fnW Try.prog ty lateenref22_Rising_a (bodyOf Try.f33) [.tmp 2] [s.v] h K := by kernel_rfl
theorem lateenref22_Rising_of {s : Sl} {h : Heap} {K : Value → Heap → Prop} (hw : lateenref22_Rising s h K) : ACalls Try.prog F_lateenref22_Rising [s.v] h K :=
  calls_sound ty_ok mixed lateenref22_Rising_a (c := bodyOf Try.f33) Try.func33 (by kernel_rfl) (by kernel_rfl) (by kernel_rfl) (Nat.le_of_ble_eq_true rfl) (by rw [lateenref22_Rising_eq] at hw; exact hw)

/-- lateen/vstate.Find -/
def vstate_Find (s : Sl) (a : Array Value) (h : Heap) (K : Value → Heap → Prop) : Prop :=
  new 37 a h fun p h_1 =>
  new 39 #[.int .i64 0, .string ⟨#[]⟩, .slice none 0 0, .int .i64 0, .string ⟨#[]⟩, .int .i64 0] h_1 fun p_1 h_2 =>
  ld (.agg 3) h_2 p fun (x : Array Value) =>
  ACalls Try.prog F_vstate_find [s.v, .agg x] h_2 fun v h_3 => as2 (.agg 6) .bool v fun r r_1 =>
  new 39 #[.int .i64 0, .string ⟨#[]⟩, .slice none 0 0, .int .i64 0, .string ⟨#[]⟩, .int .i64 0] h_3 fun p_2 h_4 =>
  r.size = 6 ∧ st r.toList h_4 p_2 fun h_5 =>
  ld (.agg 6) h_5 p_2 fun (x_1 : Array Value) =>
  ACalls Try.prog F_vstate_Obj_copied [.agg x_1] h_5 fun v_1 h_6 => as1 (.agg 6) v_1 fun r_2 =>
  r_2.size = 6 ∧ st r_2.toList h_6 p_1 fun h_7 =>
  ld (.agg 6) h_7 p_1 fun (x_2 : Array Value) => K (.tuple #[.agg x_2, .bool r_1]) h_7
def vstate_Find_a : Ann := (.seq .leaf (.seq .leaf (.seq .leaf .leaf)))
theorem vstate_Find_eq (s : Sl) (a : Array Value) (h : Heap) (K : Value → Heap → Prop) : vstate_Find s a h K = fnW Try.prog ty vstate_Find_a (bodyOf Try.f34) [.cell 4 39, .tmp 5] [s.v, .agg a] h K := by kernel_rfl
theorem vstate_Find_of {s : Sl} {a : Array Value} {h : Heap} {K : Value → Heap → Prop} (hw : vstate_Find s a h K) : ACalls Try.prog F_vstate_Find [s.v, .agg a] h K :=
  calls_sound ty_ok mixed vstate_Find_a (c := bodyOf Try.f34) Try.func34 (by kernel_rfl) (by kernel_rfl) (by kernel_rfl) (Nat.le_of_ble_eq_true rfl) (by rw [vstate_Find_eq] at hw; exact hw)

/-- lateen/vstate.Virtual -/
def vstate_Virtual (s : Sl) (a : Array Value) (h : Heap) (K : Value → Heap → Prop) : Prop :=
  new 37 a h fun p h_1 =>
  ld (.agg 3) h_1 p fun (x : Array Value) =>
  ACalls Try.prog F_vstate_find [s.v, .agg x] h_1 fun v h_2 => as2 (.agg 6) .bool v fun r r_1 =>
  new 39 #[.int .i64 0, .string ⟨#[]⟩, .slice none 0 0, .int .i64 0, .string ⟨#[]⟩, .int .i64 0] h_2 fun p_1 h_3 =>
  r.size = 6 ∧ st r.toList h_3 p_1 fun h_4 =>
  joinW (fun _ (t : Bool) h_5 =>
    K (.bool t) h_5) fun k =>
  ifB r_1
   (ld (.int .i64) h_4 ((p_1.add 3).add 0) fun (x_1 : Int) =>
     k (x_1 == 0) h_4)
   (k false h_4)
def vstate_Virtual_a : Ann := (.seq .leaf (.seq .leaf (.join [(4, .bool)] [] .leaf .leaf)))
theorem vstate_Virtual_eq (s : Sl) (a : Array Value) (h : Heap) (K : Value → Heap → Prop) : vstate_Virtual s a h K = fnW Try.prog ty vstate_Virtual_a (bodyOf Try.f35) [.tmp 4] [s.v, .agg a] h K := by kernel_rfl
theorem vstate_Virtual_of {s : Sl} {a : Array Value} {h : Heap} {K : Value → Heap → Prop} (hw : vstate_Virtual s a h K) : ACalls Try.prog F_vstate_Virtual [s.v, .agg a] h K :=
  calls_sound ty_ok mixed vstate_Virtual_a (c := bodyOf Try.f35) Try.func35 (by kernel_rfl) (by kernel_rfl) (by kernel_rfl) (Nat.le_of_ble_eq_true rfl) (by rw [vstate_Virtual_eq] at hw; exact hw)

/-- lateen/vstate.Really -/
def vstate_Really (s : Sl) (a : Array Value) (h : Heap) (K : Value → Heap → Prop) : Prop :=
  new 37 a h fun p h_1 =>
  new 37 #[.int .i64 0, .string ⟨#[]⟩, .int .i64 0] h_1 fun p_1 h_2 =>
  ld (.agg 3) h_2 p fun (x : Array Value) =>
  ACalls Try.prog F_vstate_find [s.v, .agg x] h_2 fun v h_3 => as2 (.agg 6) .bool v fun r r_1 =>
  new 39 #[.int .i64 0, .string ⟨#[]⟩, .slice none 0 0, .int .i64 0, .string ⟨#[]⟩, .int .i64 0] h_3 fun p_2 h_4 =>
  r.size = 6 ∧ st r.toList h_4 p_2 fun h_5 =>
  joinW (fun _ (t : Bool) h_6 =>
    ifB t
     (ld (.agg 3) h_6 (p_2.add 3) fun (x_1 : Array Value) =>
     x_1.size = 3 ∧ st x_1.toList h_6 p_1 fun h_7 =>
     ld (.agg 3) h_7 p_1 fun (x_2 : Array Value) => K (.agg x_2) h_7)
     (ld (.agg 3) h_6 p fun (x_3 : Array Value) =>
  x_3.size = 3 ∧ st x_3.toList h_6 p_1 fun h_8 =>
  ld (.agg 3) h_8 p_1 fun (x_4 : Array Value) => K (.agg x_4) h_8)) fun k =>
  ifB r_1
   (ld (.int .i64) h_5 ((p_2.add 3).add 0) fun (x_5 : Int) =>
     k (x_5 != 0) h_5)
   (k false h_5)
def vstate_Really_a : Ann := (.seq .leaf (.seq (.seq .leaf (.join [(19, .bool)] [3, 4, 5] .leaf (.cond (.seq .leaf .leaf) .leaf))) (.seq .leaf .leaf)))
theorem vstate_Really_eq (s : Sl) (a : Array Value) (h : Heap) (K : Value → Heap → Prop) : vstate_Really s a h K = fnW Try.prog ty vstate_Really_a (bodyOf Try.f36) [.cell 4 37] [s.v, .agg a] h K := by kernel_rfl
theorem vstate_Really_of {s : Sl} {a : Array Value} {h : Heap} {K : Value → Heap → Prop} (hw : vstate_Really s a h K) : ACalls Try.prog F_vstate_Really [s.v, .agg a] h K :=
  calls_sound ty_ok mixed vstate_Really_a (c := bodyOf Try.f36) Try.func36 (by kernel_rfl) (by kernel_rfl) (by kernel_rfl) (Nat.le_of_ble_eq_true rfl) (by rw [vstate_Really_eq] at hw; exact hw)

/-- lateen/vstate.Reach -/
def vstate_Reach (s : Sl) (l : Sl) (h : Heap) (K : Value → Heap → Prop) : Prop :=
  mkm h fun m h_1 =>
  ACalls Try.prog F_slices_Clone [l.v] h_1 fun v h_2 => as1 .sl v fun r =>
  loopW (fun _ (todo : Sl) h_3 next =>
    ifB (decide ((todo.len : Int) > 0))
     (ar .i64 ((todo.len : Int) - 1) fun n =>
    idx 3 todo n fun p =>
    ld (.agg 3) h_3 p fun (x : Array Value) =>
    new 37 #[.int .i64 0, .string ⟨#[]⟩, .int .i64 0] h_3 fun p_1 h_4 =>
    x.size = 3 ∧ st x.toList h_4 p_1 fun h_5 =>
    ar .i64 ((todo.len : Int) - 1) fun n_1 =>
    slc 3 todo none (some n_1) fun s_1 =>
    ld (.agg 3) h_5 p_1 fun (x_1 : Array Value) =>
    ACalls Try.prog F_vstate_find [s.v, .agg x_1] h_5 fun v_1 h_6 => as2 (.agg 6) .bool v_1 fun r_1 r_2 =>
    new 39 #[.int .i64 0, .string ⟨#[]⟩, .slice none 0 0, .int .i64 0, .string ⟨#[]⟩, .int .i64 0] h_6 fun p_2 h_7 =>
    r_1.size = 6 ∧ st r_1.toList h_7 p_2 fun h_8 =>
    joinW (fun _ (t : Bool) h_9 =>
      ifB t
       (next s_1 h_9)
       (ld (.int .i64) h_9 (p_2.add 0) fun (x_2 : Int) =>
    mup (.int .i64) m (.int .i64 x_2) (.bool true) h_9 fun h_10 =>
    ld .sl h_10 (p_2.add 2) fun (x_3 : Sl) =>
    app si_Lapi_Arg s_1 x_3 h_10 fun s_2 h_11 =>
    next s_2 h_11)) fun k =>
    ifB (!r_2)
     (k true h_8)
     (ld (.int .i64) h_8 ((p_2.add 3).add 0) fun (x_4 : Int) =>
       ifB (x_4 != 0)
         (k true h_8)
         (ld (.int .i64) h_8 (p_2.add 0) fun (x_5 : Int) =>
           mlk (.int .i64) m (.int .i64 x_5) h_8 fun r_3 => as1 .bool (r_3.getD (.bool false)) fun y =>
            k y h_8)))
     (ACalls Try.prog F_maps_Keys [.map m] h_3 fun v_2 h_12 => as1 .fn v_2 fun r_4 =>
  ACalls Try.prog F_slices_Sorted [r_4] h_12 fun v_3 h_13 => as1 .sl v_3 fun r_5 =>
  K r_5.v h_13)) r h_2
def vstate_Reach_a : Ann := (.seq .leaf (.seq .leaf (.seq .leaf (.seq (.block (.loop [(6, .sl)] [0, 5] (.seq (.seq .leaf (.cond .leaf .leaf)) (.block (.seq .leaf (.seq .leaf (.seq .leaf (.seq (.join [(46, .bool)] [0, 5, 6, 8] .leaf (.cond .leaf .leaf)) (.seq .leaf .leaf))))))))) (.seq .leaf .leaf)))))
theorem vstate_Reach_eq (s : Sl) (l : Sl) (h : Heap) (K : Value → Heap → Prop) : vstate_Reach s l h K = fnW Try.prog ty vstate_Reach_a (bodyOf Try.f37) [.tmp 4] [s.v, l.v] h K := by kernel_rfl
theorem vstate_Reach_of {s : Sl} {l : Sl} {h : Heap} {K : Value → Heap → Prop} (hw : vstate_Reach s l h K) : ACalls Try.prog F_vstate_Reach [s.v, l.v] h K :=
  calls_sound ty_ok mixed vstate_Reach_a (c := bodyOf Try.f37) Try.func37 (by kernel_rfl) (by kernel_rfl) (by kernel_rfl) (Nat.le_of_ble_eq_true rfl) (by rw [vstate_Reach_eq] at hw; exact hw)

/-- lateen/lateenlaw22.has -/
def lateenlaw22_has (l : Sl) (n : Int) (h : Heap) (K : Value → Heap → Prop) : Prop :=
  loopW (fun _ (i : Int) h_1 next =>
    ifB (decide (i < (l.len : Int)))
     (idx 1 l i fun p =>
    ld (.int .i64) h_1 p fun (x : Int) =>
    ifB (x == n)
     (K (.bool true) h_1)
     (ar .i64 (i + 1) fun n_1 =>
    next n_1 h_1))
     (K (.bool false) h_1)) 0 h
def lateenlaw22_has_a : Ann := (.seq .leaf (.seq (.seq .leaf (.block (.loop [(5, .int .i64)] [0, 1] (.seq (.seq .leaf (.cond .leaf .leaf)) (.seq (.block (.seq .leaf (.cond (.seq .leaf .leaf) .leaf))) .leaf))))) (.seq .leaf .leaf)))
theorem lateenlaw22_has_eq (l : Sl) (n : Int) (h : Heap) (K : Value → Heap → Prop) : lateenlaw22_has l n h K = fnW Try.prog ty lateenlaw22_has_a (bodyOf Try.f38) [.tmp 4] [l.v, .int .i64 n] h K := by kernel_rfl
theorem lateenlaw22_has_of {l : Sl} {n : Int} {h : Heap} {K : Value → Heap → Prop} (hw : lateenlaw22_has l n h K) : ACalls Try.prog F_lateenlaw22_has [l.v, .int .i64 n] h K :=
  calls_sound ty_ok mixed lateenlaw22_has_a (c := bodyOf Try.f38) Try.func38 (by kernel_rfl) (by kernel_rfl) (by kernel_rfl) (Nat.le_of_ble_eq_true rfl) (by rw [lateenlaw22_has_eq] at hw; exact hw)

/-- lateen/lateenlaw22.to -/
def lateenlaw22_to (n : Int) (h : Heap) (K : Value → Heap → Prop) : Prop :=
  new 37 #[.int .i64 0, .string ⟨#[]⟩, .int .i64 0] h fun p h_1 =>
  bst [(0, 1), (1, 1), (2, 1)] #[.int .i64 0, .string ⟨#[]⟩, .int .i64 0] [(0, .int .i64 5), (2, .int .i64 n)] fun c =>
  c.size = 3 ∧ st c.toList h_1 p fun h_2 =>
  ld (.agg 3) h_2 p fun (x : Array Value) => K (.agg x) h_2
def lateenlaw22_to_a : Ann := (.seq .leaf (.seq .leaf .leaf))
theorem lateenlaw22_to_eq (n : Int) (h : Heap) (K : Value → Heap → Prop) : lateenlaw22_to n h K = fnW Try.prog ty lateenlaw22_to_a (bodyOf Try.f39) [.cell 2 37] [.int .i64 n] h K := by kernel_rfl
theorem lateenlaw22_to_of {n : Int} {h : Heap} {K : Value → Heap → Prop} (hw : lateenlaw22_to n h K) : ACalls Try.prog F_lateenlaw22_to [.int .i64 n] h K :=
  calls_sound ty_ok mixed lateenlaw22_to_a (c := bodyOf Try.f39) Try.func39 (by kernel_rfl) (by kernel_rfl) (by kernel_rfl) (Nat.le_of_ble_eq_true rfl) (by rw [lateenlaw22_to_eq] at hw; exact hw)

/-- lateen/vstate.Set -/
def vstate_Set (s : Sl) (a : Array Value) (atv : Int) (v : Array Value) (h : Heap) (K : Value → Heap → Prop) : Prop :=
  new 37 a h fun p h_1 =>
  new 37 v h_1 fun p_1 h_2 =>
  ACalls Try.prog F_vstate_copied [s.v] h_2 fun v_1 h_3 => as1 .sl v_1 fun r =>
  ld (.agg 3) h_3 p fun (x : Array Value) =>
  ACalls Try.prog F_vstate_find [s.v, .agg x] h_3 fun v_2 h_4 => as2 (.agg 6) .bool v_2 fun r_1 r_2 =>
  new 39 #[.int .i64 0, .string ⟨#[]⟩, .slice none 0 0, .int .i64 0, .string ⟨#[]⟩, .int .i64 0] h_4 fun p_2 h_5 =>
  r_1.size = 6 ∧ st r_1.toList h_5 p_2 fun h_6 =>
  joinW (fun _ (t : Bool) h_7 =>
    ifB t
     (K (.tuple #[r.v, .bool false]) h_7)
     (ld (.int .i64) h_7 (p_2.add 0) fun (x_1 : Int) =>
  ACalls Try.prog F_vstate_place [r.v, .int .i64 x_1] h_7 fun v_3 h_8 => as2 (.int .i64) .bool v_3 fun r_3 _ =>
  idx 6 r r_3 fun p_3 =>
  ld .sl h_8 (p_3.add 2) fun (x_2 : Sl) =>
  ld (.agg 3) h_8 p_1 fun (x_3 : Array Value) =>
  idx 3 x_2 atv fun p_4 =>
  x_3.size = 3 ∧ st x_3.toList h_8 p_4 fun h_9 =>
  K (.tuple #[r.v, .bool true]) h_9)) fun k =>
  ifB (!r_2)
   (k true h_6)
   (ld (.int .i64) h_6 ((p_2.add 3).add 0) fun (x_4 : Int) =>
     ifB (x_4 != 0)
       (k true h_6)
       (ifB (decide (atv < 0))
         (k true h_6)
         (ld .sl h_6 (p_2.add 2) fun (x_5 : Sl) =>
           k (decide (atv ≥ (x_5.len : Int))) h_6)))
def vstate_Set_a : Ann := (.seq .leaf (.seq .leaf (.seq .leaf (.seq (.join [(41, .bool)] [2, 7, 10, 11] .leaf (.cond (.seq .leaf .leaf) .leaf)) (.seq .leaf (.seq .leaf (.seq .leaf .leaf)))))))
theorem vstate_Set_eq (s : Sl) (a : Array Value) (atv : Int) (v : Array Value) (h : Heap) (K : Value → Heap → Prop) : vstate_Set s a atv v h K = fnW Try.prog ty vstate_Set_a (bodyOf Try.f40) [.tmp 8, .tmp 9] [s.v, .agg a, .int .i64 atv, .agg v] h K := by kernel_rfl
theorem vstate_Set_of {s : Sl} {a : Array Value} {atv : Int} {v : Array Value} {h : Heap} {K : Value → Heap → Prop} (hw : vstate_Set s a atv v h K) : ACalls Try.prog F_vstate_Set [s.v, .agg a, .int .i64 atv, .agg v] h K :=
  calls_sound ty_ok mixed vstate_Set_a (c := bodyOf Try.f40) Try.func40 (by kernel_rfl) (by kernel_rfl) (by kernel_rfl) (Nat.le_of_ble_eq_true rfl) (by rw [vstate_Set_eq] at hw; exact hw)

/-- lateen/lateenref22.Set -/
def lateenref22_Set (s : Sl) (a : Array Value) (atv : Int) (v : Array Value) (h : Heap) (K : Value → Heap → Prop) : Prop :=
  new 37 a h fun p h_1 =>
  new 37 v h_1 fun p_1 h_2 =>
  ld (.agg 3) h_2 p fun (x : Array Value) =>
  ACalls Try.prog F_lateenref22_Find [s.v, .agg x] h_2 fun v_1 h_3 => as2 (.agg 6) .bool v_1 fun r _ =>
  new 40 #[.int .i64 0, .string ⟨#[]⟩, .slice none 0 0, .int .i64 0, .string ⟨#[]⟩, .int .i64 0] h_3 fun p_2 h_4 =>
  r.size = 6 ∧ st r.toList h_4 p_2 fun h_5 =>
  joinW (fun _ (t : Bool) h_6 =>
    ifB t
     (K (.tuple #[s.v, .bool false]) h_6)
     (ld .sl h_6 (p_2.add 2) fun (x_1 : Sl) =>
  app si_Lapi_Arg (⟨none, 0, 0⟩ : Sl) x_1 h_6 fun s_1 h_7 =>
  ld (.agg 3) h_7 p_1 fun (x_2 : Array Value) =>
  idx 3 s_1 atv fun p_3 =>
  x_2.size = 3 ∧ st x_2.toList h_7 p_3 fun h_8 =>
  st [s_1.v] h_8 (p_2.add 2) fun h_9 =>
  ld (.agg 6) h_9 p_2 fun (x_3 : Array Value) =>
  ACalls Try.prog F_lateenref22_Add [s.v, .agg x_3] h_9 fun v_2 h_10 => as1 .sl v_2 fun r_2 =>
  K (.tuple #[r_2.v, .bool true]) h_10)) fun k =>
  ld (.agg 3) h_5 p fun (x_4 : Array Value) =>
  ACalls Try.prog F_lateenref22_Virtual [s.v, .agg x_4] h_5 fun v_3 h_11 => as1 .bool v_3 fun r_3 =>
  ifB (!r_3)
   (k true h_11)
   (ifB (decide (atv < 0))
     (k true h_11)
     (ld .sl h_11 (p_2.add 2) fun (x_5 : Sl) =>
       k (decide (atv ≥ (x_5.len : Int))) h_11))
def lateenref22_Set_a : Ann := (.seq .leaf (.seq .leaf (.seq (.join [(33, .bool)] [0, 2, 7, 10] .leaf (.cond (.seq .leaf .leaf) .leaf)) (.seq .leaf (.seq .leaf (.seq .leaf (.seq .leaf (.seq .leaf .leaf))))))))
theorem lateenref22_Set_eq (s : Sl) (a : Array Value) (atv : Int) (v : Array Value) (h : Heap) (K : Value → Heap → Prop) : lateenref22_Set s a atv v h K = fnW Try.prog ty lateenref22_Set_a (bodyOf Try.f41) [.tmp 8, .tmp 9] [s.v, .agg a, .int .i64 atv, .agg v] h K := by kernel_rfl
theorem lateenref22_Set_of {s : Sl} {a : Array Value} {atv : Int} {v : Array Value} {h : Heap} {K : Value → Heap → Prop} (hw : lateenref22_Set s a atv v h K) : ACalls Try.prog F_lateenref22_Set [s.v, .agg a, .int .i64 atv, .agg v] h K :=
  calls_sound ty_ok mixed lateenref22_Set_a (c := bodyOf Try.f41) Try.func41 (by kernel_rfl) (by kernel_rfl) (by kernel_rfl) (Nat.le_of_ble_eq_true rfl) (by rw [lateenref22_Set_eq] at hw; exact hw)

/-- lateen/vstate.Add -/
def vstate_Add (s : Sl) (o : Array Value) (h : Heap) (K : Value → Heap → Prop) : Prop :=
  new 39 o h fun p h_1 =>
  ACalls Try.prog F_vstate_copied [s.v] h_1 fun v h_2 => as1 .sl v fun r =>
  ld (.int .i64) h_2 (p.add 0) fun (x : Int) =>
  ACalls Try.prog F_vstate_place [r.v, .int .i64 x] h_2 fun v_1 h_3 => as2 (.int .i64) .bool v_1 fun r_1 r_2 =>
  ifB r_2
   (ld (.agg 6) h_3 p fun (x_1 : Array Value) =>
   ACalls Try.prog F_vstate_Obj_copied [.agg x_1] h_3 fun v_2 h_4 => as1 (.agg 6) v_2 fun r_3 =>
   idx 6 r r_1 fun p_1 =>
   r_3.size = 6 ∧ st r_3.toList h_4 p_1 fun h_5 =>
   K r.v h_5)
   (ld (.agg 6) h_3 p fun (x_2 : Array Value) =>
  ACalls Try.prog F_vstate_Obj_copied [.agg x_2] h_3 fun v_3 h_6 => as1 (.agg 6) v_3 fun r_4 =>
  bld si_Lvstate_Obj 1 [(0, .agg r_4)] h_6 fun s_1 h_7 =>
  ACalls Try.prog F_slices_Insert [r.v, .int .i64 r_1, s_1.v] h_7 fun v_4 h_8 => as1 .sl v_4 fun r_5 =>
  K r_5.v h_8)
def vstate_Add_a : Ann := (.seq .leaf (.seq .leaf (.seq .leaf (.seq (.seq .leaf (.cond (.seq .leaf (.seq .leaf .leaf)) .leaf)) (.seq .leaf .leaf)))))
theorem vstate_Add_eq (s : Sl) (o : Array Value) (h : Heap) (K : Value → Heap → Prop) : vstate_Add s o h K = fnW Try.prog ty vstate_Add_a (bodyOf Try.f42) [.tmp 4] [s.v, .agg o] h K := by kernel_rfl
theorem vstate_Add_of {s : Sl} {o : Array Value} {h : Heap} {K : Value → Heap → Prop} (hw : vstate_Add s o h K) : ACalls Try.prog F_vstate_Add [s.v, .agg o] h K :=
  calls_sound ty_ok mixed vstate_Add_a (c := bodyOf Try.f42) Try.func42 (by kernel_rfl) (by kernel_rfl) (by kernel_rfl) (Nat.le_of_ble_eq_true rfl) (by rw [vstate_Add_eq] at hw; exact hw)

/-- lateen/lateenlaw22.one -/
def lateenlaw22_one (o : Array Value) (h : Heap) (K : Value → Heap → Prop) : Prop :=
  new 40 o h fun p h_1 =>
  new 39 #[.int .i64 0, .string ⟨#[]⟩, .slice none 0 0, .int .i64 0, .string ⟨#[]⟩, .int .i64 0] h_1 fun p_1 h_2 =>
  ld (.int .i64) h_2 (p.add 0) fun (x : Int) =>
  ld .str h_2 (p.add 1) fun (x_1 : ByteArray) =>
  ld .sl h_2 (p.add 2) fun (x_2 : Sl) =>
  ld (.agg 3) h_2 (p.add 3) fun (x_3 : Array Value) =>
  bst [(0, 1), (1, 1), (2, 1), (3, 3)] #[.int .i64 0, .string ⟨#[]⟩, .slice none 0 0, .int .i64 0, .string ⟨#[]⟩, .int .i64 0] [(0, .int .i64 x), (1, .string x_1), (2, x_2.v), (3, .agg x_3)] fun c =>
  c.size = 6 ∧ st c.toList h_2 p_1 fun h_3 =>
  ld (.agg 6) h_3 p_1 fun (x_4 : Array Value) => K (.agg x_4) h_3
def lateenlaw22_one_a : Ann := (.seq .leaf (.seq .leaf .leaf))
theorem lateenlaw22_one_eq (o : Array Value) (h : Heap) (K : Value → Heap → Prop) : lateenlaw22_one o h K = fnW Try.prog ty lateenlaw22_one_a (bodyOf Try.f43) [.cell 2 39] [.agg o] h K := by kernel_rfl
theorem lateenlaw22_one_of {o : Array Value} {h : Heap} {K : Value → Heap → Prop} (hw : lateenlaw22_one o h K) : ACalls Try.prog F_lateenlaw22_one [.agg o] h K :=
  calls_sound ty_ok mixed lateenlaw22_one_a (c := bodyOf Try.f43) Try.func43 (by kernel_rfl) (by kernel_rfl) (by kernel_rfl) (Nat.le_of_ble_eq_true rfl) (by rw [lateenlaw22_one_eq] at hw; exact hw)

/-- lateen/lateenref22.Add -/
def lateenref22_Add (s : Sl) (o : Array Value) (h : Heap) (K : Value → Heap → Prop) : Prop :=
  new 40 o h fun p h_1 =>
  loopW (fun _ (q_out : Sl × Bool × Int) h_2 next =>
    ifB (decide (q_out.2.2 < (s.len : Int)))
     (joinW (fun _ (q_out_1 : Sl × Bool) h_3 =>
      ar .i64 (q_out.2.2 + 1) fun n =>
      next (q_out_1.1, q_out_1.2, n) h_3) fun k =>
    joinW (fun _ (q_out_2 : Sl × Bool) h_4 =>
      idx 6 s q_out.2.2 fun p_1 =>
      ld (.int .i64) h_4 (p_1.add 0) fun (x : Int) =>
      ld (.int .i64) h_4 (p.add 0) fun (x_1 : Int) =>
      ifB (x != x_1)
       (idx 6 s q_out.2.2 fun p_2 =>
       ld (.agg 6) h_4 p_2 fun (x_2 : Array Value) =>
       bld si_Llateenref22_Obj 1 [(0, .agg x_2)] h_4 fun s_1 h_5 =>
       app si_Llateenref22_Obj q_out_2.1 s_1 h_5 fun s_2 h_6 =>
       k (s_2, q_out_2.2) h_6)
       (k (q_out_2.1, q_out_2.2) h_4)) fun k_1 =>
    joinW (fun _ (t : Bool) h_7 =>
      ifB t
       (ld (.agg 6) h_7 p fun (x_3 : Array Value) =>
       bld si_Llateenref22_Obj 1 [(0, .agg x_3)] h_7 fun s_3 h_8 =>
       app si_Llateenref22_Obj q_out.1 s_3 h_8 fun s_4 h_9 =>
       k_1 (s_4, true) h_9)
       (k_1 (q_out.1, q_out.2.1) h_7)) fun k_2 =>
    ifB (!q_out.2.1)
     (idx 6 s q_out.2.2 fun p_3 =>
       ld (.int .i64) h_2 (p_3.add 0) fun (x_4 : Int) =>
         ld (.int .i64) h_2 (p.add 0) fun (x_5 : Int) =>
           k_2 (decide (x_4 ≥ x_5)) h_2)
     (k_2 false h_2))
     (joinW (fun _ (out_3 : Sl) h_10 =>
    K out_3.v h_10) fun k_3 =>
  ifB (!q_out.2.1)
   (ld (.agg 6) h_2 p fun (x_6 : Array Value) =>
   bld si_Llateenref22_Obj 1 [(0, .agg x_6)] h_2 fun s_5 h_11 =>
   app si_Llateenref22_Obj q_out.1 s_5 h_11 fun s_6 h_12 =>
   k_3 s_6 h_12)
   (k_3 q_out.1 h_2))) ((⟨none, 0, 0⟩ : Sl), false, 0) h_1
def lateenref22_Add_a : Ann := (.seq .leaf (.seq .leaf (.seq .leaf (.seq (.seq .leaf (.block (.loop [(5, .sl), (6, .bool), (7, .int .i64)] [0, 3] (.seq (.seq .leaf (.cond .leaf .leaf)) (.join [(5, .sl), (6, .bool)] [0, 3, 7] (.block (.join [(5, .sl), (6, .bool)] [0, 3, 7] (.join [(25, .bool)] [0, 3, 5, 6, 7] .leaf (.cond (.seq .leaf .leaf) .leaf)) (.seq .leaf (.cond .leaf .leaf)))) .leaf))))) (.join [(5, .sl)] [] (.seq .leaf (.cond .leaf .leaf)) (.seq .leaf .leaf))))))
theorem lateenref22_Add_eq (s : Sl) (o : Array Value) (h : Heap) (K : Value → Heap → Prop) : lateenref22_Add s o h K = fnW Try.prog ty lateenref22_Add_a (bodyOf Try.f44) [.tmp 4] [s.v, .agg o] h K := by kernel_rfl
theorem lateenref22_Add_of {s : Sl} {o : Array Value} {h : Heap} {K : Value → Heap → Prop} (hw : lateenref22_Add s o h K) : ACalls Try.prog F_lateenref22_Add [s.v, .agg o] h K :=
  calls_sound ty_ok mixed lateenref22_Add_a (c := bodyOf Try.f44) Try.func44 (by kernel_rfl) (by kernel_rfl) (by kernel_rfl) (Nat.le_of_ble_eq_true rfl) (by rw [lateenref22_Add_eq] at hw; exact hw)

/-- lateen/lateenlaw22.same -/
def lateenlaw22_same (a : Sl) (b : Sl) (h : Heap) (K : Value → Heap → Prop) : Prop :=
  ifB ((a.len : Int) != (b.len : Int))
   (K (.bool false) h)
   (loopW (fun _ (i : Int) h_1 next =>
    ifB (decide (i < (a.len : Int)))
     (idx 1 a i fun p =>
    ld (.int .i64) h_1 p fun (x : Int) =>
    idx 1 b i fun p_1 =>
    ld (.int .i64) h_1 p_1 fun (x_1 : Int) =>
    ifB (x != x_1)
     (K (.bool false) h_1)
     (ar .i64 (i + 1) fun n =>
    next n h_1))
     (K (.bool true) h_1)) 0 h)
def lateenlaw22_same_a : Ann := (.seq .leaf (.seq (.seq .leaf (.cond (.seq .leaf .leaf) .leaf)) (.seq (.seq .leaf (.block (.loop [(5, .int .i64)] [0, 1] (.seq (.seq .leaf (.cond .leaf .leaf)) (.seq (.block (.seq .leaf (.cond (.seq .leaf .leaf) .leaf))) .leaf))))) (.seq .leaf .leaf))))
theorem lateenlaw22_same_eq (a : Sl) (b : Sl) (h : Heap) (K : Value → Heap → Prop) : lateenlaw22_same a b h K = fnW Try.prog ty lateenlaw22_same_a (bodyOf Try.f45) [.tmp 4] [a.v, b.v] h K := by kernel_rfl
theorem lateenlaw22_same_of {a : Sl} {b : Sl} {h : Heap} {K : Value → Heap → Prop} (hw : lateenlaw22_same a b h K) : ACalls Try.prog F_lateenlaw22_same [a.v, b.v] h K :=
  calls_sound ty_ok mixed lateenlaw22_same_a (c := bodyOf Try.f45) Try.func45 (by kernel_rfl) (by kernel_rfl) (by kernel_rfl) (Nat.le_of_ble_eq_true rfl) (by rw [lateenlaw22_same_eq] at hw; exact hw)

/-- lateen/lateenref22.Reach -/
def lateenref22_Reach (s : Sl) (l : Sl) (h : Heap) (K : Value → Heap → Prop) : Prop :=
  (s.len : Int) = (s.len : Int) ∧ mk si_Lbool (s.len : Int) h fun s_1 h_1 =>
  loopW (fun _ (n : Int) h_2 next =>
    ifB (decide (n ≤ (s.len : Int)))
     (loopW (fun _ (i : Int) h_3 next_1 =>
      ifB (decide (i < (s.len : Int)))
       (joinW (fun _ (_ : Unit) h_4 =>
        ar .i64 (i + 1) fun n_1 =>
        next_1 n_1 h_4) fun k =>
      joinW (fun _ (t : Bool) h_5 =>
        ifB t
         (k () h_5)
         (loopW (fun _ (k_2 : Int) h_6 next_2 =>
        ifB (decide (k_2 < (l.len : Int)))
         (joinW (fun _ (_ : Unit) h_7 =>
          ar .i64 (k_2 + 1) fun n_2 =>
          next_2 n_2 h_7) fun k_3 =>
        idx 1 s_1 i fun p =>
        ld .bool h_6 p fun (x : Bool) =>
        ifB x
         (idx 1 s_1 i fun p_1 =>
                st [.bool true] h_6 p_1 fun h_8 =>
                k_3 () h_8)
         (idx 3 l k_2 fun p_2 =>
           ld (.int .i64) h_6 (p_2.add 0) fun (x_1 : Int) =>
             ifB (x_1 == 5)
                (idx 3 l k_2 fun p_3 =>
                  ld (.int .i64) h_6 (p_3.add 2) fun (x_2 : Int) =>
                    idx 6 s i fun p_4 =>
                       ld (.int .i64) h_6 (p_4.add 0) fun (x_3 : Int) =>
                         idx 1 s_1 i fun p_5 =>
                           st [.bool (x_2 == x_3)] h_6 p_5 fun h_9 =>
                           k_3 () h_9)
                (idx 1 s_1 i fun p_6 =>
                           st [.bool false] h_6 p_6 fun h_10 =>
                           k_3 () h_10)))
         (loopW (fun _ (j : Int) h_11 next_3 =>
        ifB (decide (j < (s.len : Int)))
         (loopW (fun _ (k_4 : Int) h_12 next_4 =>
          joinW (fun _ (t_1 : Bool) h_13 =>
            ifB t_1
             (joinW (fun _ (_ : Unit) h_14 =>
            ar .i64 (k_4 + 1) fun n_3 =>
            next_4 n_3 h_14) fun k_6 =>
          idx 1 s_1 i fun p_7 =>
          ld .bool h_13 p_7 fun (x_4 : Bool) =>
          ifB x_4
           (idx 1 s_1 i fun p_8 =>
                      st [.bool true] h_13 p_8 fun h_15 =>
                      k_6 () h_15)
           (idx 6 s j fun p_9 =>
             ld .sl h_13 (p_9.add 2) fun (x_5 : Sl) =>
               idx 3 x_5 k_4 fun p_10 =>
                 ld (.int .i64) h_13 (p_10.add 0) fun (x_6 : Int) =>
                   ifB (x_6 == 5)
                      (idx 6 s j fun p_11 =>
                        ld .sl h_13 (p_11.add 2) fun (x_7 : Sl) =>
                          idx 3 x_7 k_4 fun p_12 =>
                            ld (.int .i64) h_13 (p_12.add 2) fun (x_8 : Int) =>
                              idx 6 s i fun p_13 =>
                                 ld (.int .i64) h_13 (p_13.add 0) fun (x_9 : Int) =>
                                   idx 1 s_1 i fun p_14 =>
                                     st [.bool (x_8 == x_9)] h_13 p_14 fun h_16 =>
                                     k_6 () h_16)
                      (idx 1 s_1 i fun p_15 =>
                                     st [.bool false] h_13 p_15 fun h_17 =>
                                     k_6 () h_17)))
             (ar .i64 (j + 1) fun n_4 =>
        next_3 n_4 h_13)) fun k_5 =>
          idx 6 s j fun p_16 =>
          ld .sl h_12 (p_16.add 2) fun (x_10 : Sl) =>
          ifB (decide (k_4 < (x_10.len : Int)))
           (idx 1 s_1 j fun p_17 =>
             ld .bool h_12 p_17 fun (x_11 : Bool) =>
              k_5 x_11 h_12)
           (k_5 false h_12)) 0 h_11)
         (k () h_11)) 0 h_6)) 0 h_5)) fun k_1 =>
      idx 6 s i fun p_18 =>
      ld (.int .i64) h_3 ((p_18.add 3).add 0) fun (x_12 : Int) =>
      ifB (x_12 != 0)
       (k_1 true h_3)
       (idx 1 s_1 i fun p_19 =>
         ld .bool h_3 p_19 fun (x_13 : Bool) =>
          k_1 x_13 h_3))
       (ar .i64 (n + 1) fun n_5 =>
    next n_5 h_3)) 0 h_2)
     (loopW (fun _ (q_out : Sl × Int) h_18 next_5 =>
    ifB (decide (q_out.2 < (s.len : Int)))
     (joinW (fun _ (out_1 : Sl) h_19 =>
      ar .i64 (q_out.2 + 1) fun n_6 =>
      next_5 (out_1, n_6) h_19) fun k_7 =>
    idx 1 s_1 q_out.2 fun p_20 =>
    ld .bool h_18 p_20 fun (x_14 : Bool) =>
    ifB x_14
     (idx 6 s q_out.2 fun p_21 =>
     ld (.int .i64) h_18 (p_21.add 0) fun (x_15 : Int) =>
     bld si_Lint64 1 [(0, .int .i64 x_15)] h_18 fun s_2 h_20 =>
     app si_Lint64 q_out.1 s_2 h_20 fun s_3 h_21 =>
     k_7 s_3 h_21)
     (k_7 q_out.1 h_18))
     (K q_out.1.v h_18)) ((⟨none, 0, 0⟩ : Sl), 0) h_2)) 0 h_1
def lateenref22_Reach_a : Ann := (.seq .leaf (.seq .leaf (.seq (.seq .leaf (.block (.loop [(6, .int .i64)] [0, 1, 5] (.seq (.seq .leaf (.cond .leaf .leaf)) (.seq (.block (.seq .leaf (.block (.loop [(7, .int .i64)] [0, 1, 5, 6] (.seq (.seq .leaf (.cond .leaf .leaf)) (.join [] [0, 1, 5, 6, 7] (.block (.seq (.join [(40, .bool)] [0, 1, 5, 6, 7] .leaf (.cond .leaf .leaf)) (.seq (.seq .leaf (.block (.loop [(8, .int .i64)] [0, 1, 5, 6, 7] (.seq (.seq .leaf (.cond .leaf .leaf)) (.join [] [0, 1, 5, 6, 7, 8] (.block .leaf) .leaf))))) (.seq .leaf (.block (.loop [(9, .int .i64)] [0, 1, 5, 6, 7] (.seq (.seq .leaf (.cond .leaf .leaf)) (.seq (.block (.seq .leaf (.block (.loop [(10, .int .i64)] [0, 1, 5, 6, 7, 9] (.seq (.join [(94, .bool)] [0, 1, 5, 6, 7, 9, 10] .leaf (.cond .leaf .leaf)) (.join [] [0, 1, 5, 6, 7, 9, 10] (.block .leaf) .leaf)))))) .leaf)))))))) .leaf)))))) .leaf))))) (.seq .leaf (.seq (.seq .leaf (.block (.loop [(11, .sl), (12, .int .i64)] [0, 5] (.seq (.seq .leaf (.cond .leaf .leaf)) (.join [(11, .sl)] [0, 5, 12] (.block (.seq .leaf (.cond .leaf .leaf))) .leaf))))) (.seq .leaf .leaf))))))
theorem lateenref22_Reach_eq (s : Sl) (l : Sl) (h : Heap) (K : Value → Heap → Prop) : lateenref22_Reach s l h K = fnW Try.prog ty lateenref22_Reach_a (bodyOf Try.f46) [.tmp 4] [s.v, l.v] h K := by kernel_rfl
theorem lateenref22_Reach_of {s : Sl} {l : Sl} {h : Heap} {K : Value → Heap → Prop} (hw : lateenref22_Reach s l h K) : ACalls Try.prog F_lateenref22_Reach [s.v, l.v] h K :=
  calls_sound ty_ok mixed lateenref22_Reach_a (c := bodyOf Try.f46) Try.func46 (by kernel_rfl) (by kernel_rfl) (by kernel_rfl) (Nat.le_of_ble_eq_true rfl) (by rw [lateenref22_Reach_eq] at hw; exact hw)

/-- lateen/vstate.Same -/
def vstate_Same (s : Sl) (t : Sl) (h : Heap) (K : Value → Heap → Prop) : Prop :=
  ACalls Try.prog F_slices_EqualFunc [s.v, t.v, .func (.func F_vstate_same) #[] #[]] h fun v h_1 => as1 .bool v fun r =>
  K (.bool r) h_1
def vstate_Same_a : Ann := (.seq .leaf (.seq .leaf .leaf))
theorem vstate_Same_eq (s : Sl) (t : Sl) (h : Heap) (K : Value → Heap → Prop) : vstate_Same s t h K = fnW Try.prog ty vstate_Same_a (bodyOf Try.f47) [.tmp 4] [s.v, t.v] h K := by kernel_rfl
theorem vstate_Same_of {s : Sl} {t : Sl} {h : Heap} {K : Value → Heap → Prop} (hw : vstate_Same s t h K) : ACalls Try.prog F_vstate_Same [s.v, t.v] h K :=
  calls_sound ty_ok mixed vstate_Same_a (c := bodyOf Try.f47) Try.func47 (by kernel_rfl) (by kernel_rfl) (by kernel_rfl) (Nat.le_of_ble_eq_true rfl) (by rw [vstate_Same_eq] at hw; exact hw)

/-- lateen/lateenlaw24.awake -/
def lateenlaw24_awake  (h : Heap) (K : Value → Heap → Prop) : Prop :=
  bst [(0, 1), (1, 1), (2, 1)] #[.int .i64 0, .string ⟨#[]⟩, .int .i64 0] [(0, .int .i64 4)] fun c =>
  new 37 #[.int .i64 0, .string ⟨#[]⟩, .int .i64 0] h fun p h_1 =>
  c.size = 3 ∧ st c.toList h_1 p fun h_2 =>
  ∃ (R : Heap → Prop) (h_3 : Heap) (L : List As) (S : Specs), R h_2 ∧ Sep h_3 h_2 L ∧ (freeW R h_3 (S 0 []) [] (fun h_4 Kv =>
      ACalls Try.prog F_lateenlaw24_to [.int .i64 2] h_4 fun v h_5 => as1 (.agg 3) v fun r =>
      Kv (.agg r) h_5) fun v_1 => as1 (.agg 3) v_1 fun r_1 =>
  ldF (.agg 3) R p fun (x : Array Value) =>
  freeW R h_3 (S 2 [.agg r_1, .agg x]) ((S 0 []).A v_1 ++ []) (fun h_6 Kv_1 =>
      bld si_Lapi_Arg 2 [(0, .agg r_1), (1, .agg x)] h_6 fun s h_7 =>
      Kv_1 s.v h_7) fun v_2 => as1 .sl v_2 fun r_2 =>
  bst [(0, 1), (1, 1), (2, 1), (3, 3)] #[.int .i64 0, .string ⟨#[]⟩, .slice none 0 0, .int .i64 0, .string ⟨#[]⟩, .int .i64 0] [(0, .int .i64 1), (1, .string ⟨#[80]⟩), (2, r_2.v)] fun c_1 =>
  ldF (.agg 3) R p fun (x_1 : Array Value) =>
  ldF (.agg 3) R p fun (x_2 : Array Value) =>
  freeW R h_3 (S 6 [.agg x_1, .agg x_2]) [] (fun h_8 Kv_2 =>
      bld si_Lapi_Arg 2 [(0, .agg x_1), (1, .agg x_2)] h_8 fun s_1 h_9 =>
      Kv_2 s_1.v h_9) fun v_3 => as1 .sl v_3 fun r_3 =>
  bst [(0, 1), (1, 1), (2, 1), (3, 3)] #[.int .i64 0, .string ⟨#[]⟩, .slice none 0 0, .int .i64 0, .string ⟨#[]⟩, .int .i64 0] [(0, .int .i64 2), (1, .string ⟨#[80]⟩), (2, r_3.v)] fun c_2 =>
  freeW R h_3 (S 8 [.agg c_1, .agg c_2]) [] (fun h_10 Kv_3 =>
      bld si_Lvstate_Obj 2 [(0, .agg c_1), (1, .agg c_2)] h_10 fun s_2 h_11 =>
      Kv_3 s_2.v h_11) fun v_4 => as1 .sl v_4 fun r_4 =>
  endF R h_3 ((S 2 [.agg r_1, .agg x]).A v_2 ++ ((S 6 [.agg x_1, .agg x_2]).A v_3 ++ ((S 8 [.agg c_1, .agg c_2]).A v_4 ++ (L ++ [])))) fun h_12 =>
  ∃ (R_1 : Heap → Prop) (h_13 : Heap) (L_1 : List As) (S_1 : Specs), R_1 h_12 ∧ Sep h_13 h_12 L_1 ∧ (freeW R_1 h_13 (S_1 0 []) [] (fun h_14 Kv_4 =>
      ACalls Try.prog F_lateenlaw24_to [.int .i64 1] h_14 fun v_5 h_15 => as1 (.agg 3) v_5 fun r_5 =>
      Kv_4 (.agg r_5) h_15) fun v_6 => as1 (.agg 3) v_6 fun r_6 =>
  ldF (.agg 3) R_1 p fun (x_3 : Array Value) =>
  freeW R_1 h_13 (S_1 2 [.agg r_6, .agg x_3]) ((S_1 0 []).A v_6 ++ []) (fun h_16 Kv_5 =>
      bld si_Lapi_Arg 2 [(0, .agg r_6), (1, .agg x_3)] h_16 fun s_3 h_17 =>
      Kv_5 s_3.v h_17) fun v_7 => as1 .sl v_7 fun r_7 =>
  bst [(0, 1), (1, 1), (2, 1), (3, 3)] #[.int .i64 0, .string ⟨#[]⟩, .slice none 0 0, .int .i64 0, .string ⟨#[]⟩, .int .i64 0] [(0, .int .i64 1), (1, .string ⟨#[80]⟩), (2, r_7.v)] fun c_3 =>
  freeW R_1 h_13 (S_1 4 [.agg c_3]) [] (fun h_18 Kv_6 =>
      bld si_Lvstate_Obj 1 [(0, .agg c_3)] h_18 fun s_4 h_19 =>
      Kv_6 s_4.v h_19) fun v_8 => as1 .sl v_8 fun r_8 =>
  endF R_1 h_13 ((S_1 2 [.agg r_6, .agg x_3]).A v_7 ++ ((S_1 4 [.agg c_3]).A v_8 ++ (L_1 ++ []))) fun h_20 =>
  bld si_Lint64 1 [(0, .int .i64 1)] h_20 fun s_5 h_21 =>
  ACalls Try.prog F_matter_Order [r_4.v, s_5.v] h_21 fun v_9 h_22 => as1 .sl v_9 fun r_9 =>
  ACalls Try.prog F_lateenlaw24_program [] h_22 fun v_10 h_23 => as1 (.agg 5) v_10 fun r_10 =>
  bld si_Lint64 1 [(0, .int .i64 1)] h_23 fun s_6 h_24 =>
  bld si_Lstring 1 [(0, .string ⟨#[120]⟩)] h_24 fun s_7 h_25 =>
  ACalls Try.prog F_matter_Code [.agg r_10, r_8.v, s_6.v, s_7.v] h_25 fun v_11 h_26 => as2 .sl .sl v_11 fun r_11 r_12 =>
  joinW (fun _ (t : Bool) h_27 =>
    K (.bool t) h_27) fun k =>
  ifB ((r_9.len : Int) == 2)
   (idx 1 r_9 0 fun p_1 =>
    ld (.int .i64) h_26 p_1 fun (x_4 : Int) =>
     ifB (x_4 == 2)
       (idx 1 r_9 1 fun p_2 =>
        ld (.int .i64) h_26 p_2 fun (x_5 : Int) =>
         ifB (x_5 == 1)
           (ifB ((r_11.len : Int) == 2)
              (idx 6 r_11 0 fun p_3 =>
               ld (.int .i64) h_26 (p_3.add 0) fun (x_6 : Int) =>
                 ifB (x_6 == 25)
                   (idx 6 r_11 0 fun p_4 =>
                    ld .sl h_26 (p_4.add 3) fun (x_7 : Sl) =>
                      idx 3 x_7 0 fun p_5 =>
                       ld (.agg 3) h_26 p_5 fun (x_8 : Array Value) =>
                        ld (.agg 3) h_26 p fun (x_9 : Array Value) =>
                         eqA [.int .i64, .str, .int .i64] x_8 x_9 fun b =>
                          ifB b
                           (idx 6 r_11 1 fun p_6 =>
                            ld (.int .i64) h_26 (p_6.add 0) fun (x_10 : Int) =>
                              ifB (x_10 == 27)
                                (idx 6 r_11 1 fun p_7 =>
                                 ld .str h_26 (p_7.add 2) fun (x_11 : ByteArray) =>
                                   ifB (x_11.toList == (⟨#[110]⟩ : ByteArray).toList)
                                     (ifB ((r_12.len : Int) == 1)
                                        (idx 6 r_12 0 fun p_8 =>
                                         ld .str h_26 ((p_8.add 3).add 1) fun (x_12 : ByteArray) =>
                                            k (x_12.toList == (⟨#[120]⟩ : ByteArray).toList) h_26)
                                        (k false h_26))
                                     (k false h_26))
                                (k false h_26))
                           (k false h_26))
                   (k false h_26))
              (k false h_26))
           (k false h_26))
       (k false h_26))
   (k false h_26)))
def lateenlaw24_awake_a : Ann := (.seq .leaf (.seq .leaf (.seq (.free 9 [[], [], [0], [], [], [], [], [], [], []] [0, 2, 6, 8, 10]) (.seq (.free 5 [[], [], [0], [], [], []] [0, 2, 4, 6]) (.seq .leaf (.seq .leaf (.join [(0, .bool)] [] .leaf .leaf)))))))
theorem lateenlaw24_awake_eq  (h : Heap) (K : Value → Heap → Prop) : lateenlaw24_awake  h K = fnW Try.prog ty lateenlaw24_awake_a (bodyOf Try.f48) [.tmp 0] [] h K := by kernel_rfl
theorem lateenlaw24_awake_of  {h : Heap} {K : Value → Heap → Prop} (hw : lateenlaw24_awake  h K) : ACalls Try.prog F_lateenlaw24_awake [] h K :=
  calls_sound ty_ok mixed lateenlaw24_awake_a (c := bodyOf Try.f48) Try.func48 (by kernel_rfl) (by kernel_rfl) (by kernel_rfl) (Nat.le_of_ble_eq_true rfl) (by rw [lateenlaw24_awake_eq] at hw; exact hw)

/-- lateen/lateenlaw24.right -/
def lateenlaw24_right (s : Sl) (h : Heap) (K : Value → Heap → Prop) : Prop :=
  joinW (fun _ (t : Bool) h_1 =>
    ifB t
     (K (.bool false) h_1)
     (loopW (fun _ (i : Int) h_2 next =>
    ifB (decide (i < (s.len : Int)))
     (joinW (fun _ (t_1 : Bool) h_3 =>
      ifB t_1
       (K (.bool false) h_3)
       (ar .i64 (i + 1) fun n =>
    next n h_3)) fun k_1 =>
    idx 6 s i fun p =>
    ld .str h_2 (p.add 1) fun (x : ByteArray) =>
    ifB (!(x.toList == (⟨#[80]⟩ : ByteArray).toList))
     (k_1 true h_2)
     (idx 6 s i fun p_1 =>
       ld .sl h_2 (p_1.add 2) fun (x_1 : Sl) =>
         ifB ((x_1.len : Int) != 2)
            (k_1 true h_2)
            (idx 6 s i fun p_2 =>
              ld (.agg 3) h_2 (p_2.add 3) fun (x_2 : Array Value) =>
                ACalls Try.prog F_lateenlaw24_made [.agg x_2] h_2 fun v h_4 => as1 .bool v fun r =>
                 ifB r
                  (k_1 true h_4)
                  (idx 6 s i fun p_3 =>
                    ld .sl h_4 (p_3.add 2) fun (x_3 : Sl) =>
                      idx 3 x_3 0 fun p_4 =>
                       ld (.agg 3) h_4 p_4 fun (x_4 : Array Value) =>
                        ACalls Try.prog F_lateenlaw24_made [.agg x_4] h_4 fun v_1 h_5 => as1 .bool v_1 fun r_1 =>
                         ifB r_1
                          (k_1 true h_5)
                          (idx 6 s i fun p_5 =>
                            ld .sl h_5 (p_5.add 2) fun (x_5 : Sl) =>
                              idx 3 x_5 1 fun p_6 =>
                               ld (.agg 3) h_5 p_6 fun (x_6 : Array Value) =>
                                ACalls Try.prog F_lateenlaw24_made [.agg x_6] h_5 fun v_2 h_6 => as1 .bool v_2 fun r_2 =>
                                 k_1 r_2 h_6)))))
     (K (.bool true) h_2)) 0 h_1)) fun k =>
  ACalls Try.prog F_lateenref22_Few [s.v] h fun v_3 h_7 => as1 .bool v_3 fun r_3 =>
  ifB (!r_3)
   (k true h_7)
   (ACalls Try.prog F_lateenref22_Right [s.v] h_7 fun v_4 h_8 => as1 .bool v_4 fun r_4 =>
    ifB (!r_4)
      (k true h_8)
      (k (decide ((s.len : Int) > 12)) h_8))
def lateenlaw24_right_a : Ann := (.seq .leaf (.seq (.join [(16, .bool)] [0] .leaf (.cond (.seq .leaf .leaf) .leaf)) (.seq (.seq .leaf (.block (.loop [(3, .int .i64)] [0] (.seq (.seq .leaf (.cond .leaf .leaf)) (.seq (.block (.join [(65, .bool)] [0, 3] .leaf (.cond (.seq .leaf .leaf) .leaf))) .leaf))))) (.seq .leaf .leaf))))
theorem lateenlaw24_right_eq (s : Sl) (h : Heap) (K : Value → Heap → Prop) : lateenlaw24_right s h K = fnW Try.prog ty lateenlaw24_right_a (bodyOf Try.f49) [.tmp 2] [s.v] h K := by kernel_rfl
theorem lateenlaw24_right_of {s : Sl} {h : Heap} {K : Value → Heap → Prop} (hw : lateenlaw24_right s h K) : ACalls Try.prog F_lateenlaw24_right [s.v] h K :=
  calls_sound ty_ok mixed lateenlaw24_right_a (c := bodyOf Try.f49) Try.func49 (by kernel_rfl) (by kernel_rfl) (by kernel_rfl) (Nat.le_of_ble_eq_true rfl) (by rw [lateenlaw24_right_eq] at hw; exact hw)

/-- lateen/matter.Order -/
def matter_Order (s : Sl) (l : Sl) (h : Heap) (K : Value → Heap → Prop) : Prop :=
  loopW (fun _ (q_fromv : Sl × Int) h_1 next =>
    ifB (decide (q_fromv.2 < (l.len : Int)))
     (idx 1 l q_fromv.2 fun p =>
    ld (.int .i64) h_1 p fun (x : Int) =>
    ACalls Try.prog F_matter_to [.int .i64 x] h_1 fun v h_2 => as1 (.agg 3) v fun r =>
    bld si_Lapi_Arg 1 [(0, .agg r)] h_2 fun s_1 h_3 =>
    app si_Lapi_Arg q_fromv.1 s_1 h_3 fun s_2 h_4 =>
    ar .i64 (q_fromv.2 + 1) fun n =>
    next (s_2, n) h_4)
     (ACalls Try.prog F_vstate_Reach [s.v, q_fromv.1.v] h_1 fun v_1 h_5 => as1 .sl v_1 fun r_1 =>
  ACalls Try.prog F_matter_graph [s.v, r_1.v] h_5 fun v_2 h_6 => as1 .sl v_2 fun r_2 =>
  ACalls Try.prog F_calls_Parts [r_2.v] h_6 fun v_3 h_7 => as1 .sl v_3 fun r_3 =>
  mkm h_7 fun m h_8 =>
  ACalls Try.prog F_calls_Order [r_2.v] h_8 fun v_4 h_9 => as1 .sl v_4 fun r_4 =>
  loopW (fun _ (t_1 : Int) h_10 next_1 =>
    ifB (decide (t_1 < (r_4.len : Int)))
     (idx 1 r_4 t_1 fun p_1 =>
    ld (.int .i64) h_10 p_1 fun (x_1 : Int) =>
    idx 1 r_3 x_1 fun p_2 =>
    ld (.int .i64) h_10 p_2 fun (x_2 : Int) =>
    mup (.int .i64) m (.int .i64 x_2) (.int .i64 x_1) h_10 fun h_11 =>
    ar .i64 (t_1 + 1) fun n_1 =>
    next_1 n_1 h_11)
     (loopW (fun _ (q_out : Sl × Int) h_12 next_2 =>
    ifB (decide (q_out.2 < (r_4.len : Int)))
     (joinW (fun _ (out_1 : Sl) h_13 =>
      ar .i64 (q_out.2 + 1) fun n_2 =>
      next_2 (out_1, n_2) h_13) fun k =>
    idx 1 r_4 q_out.2 fun p_3 =>
    ld (.int .i64) h_12 p_3 fun (x_3 : Int) =>
    idx 1 r_3 x_3 fun p_4 =>
    ld (.int .i64) h_12 p_4 fun (x_4 : Int) =>
    mlk (.int .i64) m (.int .i64 x_4) h_12 fun r_5 => as1 (.int .i64) (r_5.getD (.int .i64 0)) fun y =>
    ifB (y != x_3)
     (k q_out.1 h_12)
     (loopW (fun _ (q_out_2 : Sl × Int) h_14 next_3 =>
      ifB (decide (q_out_2.2 < (r_1.len : Int)))
       (joinW (fun _ (out_3 : Sl) h_15 =>
        ar .i64 (q_out_2.2 + 1) fun n_3 =>
        next_3 (out_3, n_3) h_15) fun k_1 =>
      idx 1 r_1 q_out_2.2 fun p_5 =>
      ld (.int .i64) h_14 p_5 fun (x_5 : Int) =>
      idx 1 r_3 q_out_2.2 fun p_6 =>
      ld (.int .i64) h_14 p_6 fun (x_6 : Int) =>
      idx 1 r_3 x_3 fun p_7 =>
      ld (.int .i64) h_14 p_7 fun (x_7 : Int) =>
      ifB (x_6 == x_7)
       (bld si_Lint64 1 [(0, .int .i64 x_5)] h_14 fun s_3 h_16 =>
       app si_Lint64 q_out_2.1 s_3 h_16 fun s_4 h_17 =>
       k_1 s_4 h_17)
       (k_1 q_out_2.1 h_14))
       (k q_out_2.1 h_14)) (q_out.1, 0) h_12))
     (K q_out.1.v h_12)) ((⟨none, 0, 0⟩ : Sl), 0) h_10)) 0 h_9)) ((⟨none, 0, 0⟩ : Sl), 0) h
def matter_Order_a : Ann := (.seq .leaf (.seq .leaf (.seq (.seq .leaf (.block (.loop [(5, .sl), (22, .int .i64)] [0, 20, 21] (.seq .leaf (.seq (.cond .leaf .leaf) (.seq (.block (.seq .leaf .leaf)) .leaf)))))) (.seq .leaf (.seq .leaf (.seq .leaf (.seq .leaf (.seq .leaf (.seq (.seq .leaf (.block (.loop [(45, .int .i64)] [8, 10, 11, 12, 43, 44] (.seq .leaf (.seq (.cond .leaf .leaf) (.seq (.block (.seq .leaf .leaf)) .leaf)))))) (.seq .leaf (.seq (.seq .leaf (.block (.loop [(15, .sl), (58, .int .i64)] [8, 10, 11, 56, 57] (.seq .leaf (.seq (.cond .leaf .leaf) (.join [(15, .sl)] [8, 10, 11, 56, 57, 58] (.block (.seq .leaf (.seq (.seq .leaf (.cond .leaf .leaf)) (.seq .leaf (.block (.loop [(15, .sl), (72, .int .i64)] [8, 10, 11, 17, 56, 57, 58, 70, 71] (.seq .leaf (.seq (.cond .leaf .leaf) (.join [(15, .sl)] [8, 10, 11, 17, 56, 57, 58, 70, 71, 72] (.block (.seq .leaf (.seq .leaf (.cond .leaf .leaf)))) .leaf))))))))) .leaf)))))) (.seq .leaf .leaf))))))))))))
theorem matter_Order_eq (s : Sl) (l : Sl) (h : Heap) (K : Value → Heap → Prop) : matter_Order s l h K = fnW Try.prog ty matter_Order_a (bodyOf Try.f50) [.tmp 4] [s.v, l.v] h K := by kernel_rfl
theorem matter_Order_of {s : Sl} {l : Sl} {h : Heap} {K : Value → Heap → Prop} (hw : matter_Order s l h K) : ACalls Try.prog F_matter_Order [s.v, l.v] h K :=
  calls_sound ty_ok mixed matter_Order_a (c := bodyOf Try.f50) Try.func50 (by kernel_rfl) (by kernel_rfl) (by kernel_rfl) (Nat.le_of_ble_eq_true rfl) (by rw [matter_Order_eq] at hw; exact hw)

/-- lateen/lateenlaw24.sameIds -/
def lateenlaw24_sameIds (a : Sl) (b : Sl) (h : Heap) (K : Value → Heap → Prop) : Prop :=
  ACalls Try.prog F_lateenref16_SameNumbers [a.v, b.v] h fun v h_1 => as1 .bool v fun r =>
  K (.bool r) h_1
def lateenlaw24_sameIds_a : Ann := (.seq .leaf (.seq .leaf .leaf))
theorem lateenlaw24_sameIds_eq (a : Sl) (b : Sl) (h : Heap) (K : Value → Heap → Prop) : lateenlaw24_sameIds a b h K = fnW Try.prog ty lateenlaw24_sameIds_a (bodyOf Try.f51) [.tmp 4] [a.v, b.v] h K := by kernel_rfl
theorem lateenlaw24_sameIds_of {a : Sl} {b : Sl} {h : Heap} {K : Value → Heap → Prop} (hw : lateenlaw24_sameIds a b h K) : ACalls Try.prog F_lateenlaw24_sameIds [a.v, b.v] h K :=
  calls_sound ty_ok mixed lateenlaw24_sameIds_a (c := bodyOf Try.f51) Try.func51 (by kernel_rfl) (by kernel_rfl) (by kernel_rfl) (Nat.le_of_ble_eq_true rfl) (by rw [lateenlaw24_sameIds_eq] at hw; exact hw)

/-- lateen/lateenref24.Order -/
def lateenref24_Order (s : Sl) (l : Sl) (h : Heap) (K : Value → Heap → Prop) : Prop :=
  loopW (fun _ (q_fromv : Sl × Int) h_1 next =>
    ifB (decide (q_fromv.2 < (l.len : Int)))
     (idx 1 l q_fromv.2 fun p =>
    ld (.int .i64) h_1 p fun (x : Int) =>
    ACalls Try.prog F_lateenref24_to [.int .i64 x] h_1 fun v h_2 => as1 (.agg 3) v fun r =>
    bld si_Lapi_Arg 1 [(0, .agg r)] h_2 fun s_1 h_3 =>
    app si_Lapi_Arg q_fromv.1 s_1 h_3 fun s_2 h_4 =>
    ar .i64 (q_fromv.2 + 1) fun n =>
    next (s_2, n) h_4)
     (ACalls Try.prog F_lateenref22_Reach [s.v, q_fromv.1.v] h_1 fun v_1 h_5 => as1 .sl v_1 fun r_1 =>
  loopW (fun _ (q_marked : Sl × Sl × Int) h_6 next_1 =>
    ifB (decide (q_marked.2.2 < (r_1.len : Int)))
     (joinW (fun _ (q_marked_1 : Sl × Sl) h_7 =>
      ar .i64 (q_marked.2.2 + 1) fun n_1 =>
      next_1 (q_marked_1.1, q_marked_1.2, n_1) h_7) fun k =>
    idx 1 r_1 q_marked.2.2 fun p_1 =>
    ld (.int .i64) h_6 p_1 fun (x_1 : Int) =>
    ACalls Try.prog F_lateenref24_in [q_marked.1.v, .int .i64 x_1] h_6 fun v_2 h_8 => as1 (.int .i64) v_2 fun r_2 =>
    ifB (decide (r_2 < 0))
     (idx 1 r_1 q_marked.2.2 fun p_2 =>
     ld (.int .i64) h_8 p_2 fun (x_2 : Int) =>
     ACalls Try.prog F_lateenref24_down [s.v, r_1.v, .int .i64 x_2, q_marked.1.v, q_marked.2.1.v] h_8 fun v_3 h_9 => as2 .sl .sl v_3 fun r_3 r_4 =>
     k (r_3, r_4) h_9)
     (k (q_marked.1, q_marked.2.1) h_8))
     (loopW (fun _ (q_out : Sl × Int) h_10 next_2 =>
    ifB (decide (q_out.2 < (q_marked.2.1.len : Int)))
     (ar .i64 (q_out.2 + 1) fun n_2 =>
    loopW (fun _ (q_last : Bool × Int) h_11 next_3 =>
      ifB (decide (q_last.2 < (q_marked.2.1.len : Int)))
       (joinW (fun _ (last_1 : Bool) h_12 =>
        ar .i64 (q_last.2 + 1) fun n_3 =>
        next_3 (last_1, n_3) h_12) fun k_2 =>
      ifB q_last.1
       (idx 1 q_marked.2.1 q_out.2 fun p_3 =>
          ld (.int .i64) h_11 p_3 fun (x_3 : Int) =>
           idx 1 q_marked.2.1 q_last.2 fun p_4 =>
              ld (.int .i64) h_11 p_4 fun (x_4 : Int) =>
               ACalls Try.prog F_lateenref24_round [s.v, .int .i64 x_3, .int .i64 x_4] h_11 fun v_4 h_13 => as1 .bool v_4 fun r_5 =>
                k_2 (!r_5) h_13)
       (k_2 false h_11))
       (loopW (fun _ (q_out_1 : Sl × Int) h_14 next_4 =>
      joinW (fun _ (t : Bool) h_15 =>
        ifB t
         (joinW (fun _ (out_2 : Sl) h_16 =>
        ar .i64 (q_out_1.2 + 1) fun n_4 =>
        next_4 (out_2, n_4) h_16) fun k_5 =>
      joinW (fun _ (t_1 : Bool) h_17 =>
        ifB t_1
         (idx 1 r_1 q_out_1.2 fun p_5 =>
         ld (.int .i64) h_17 p_5 fun (x_5 : Int) =>
         bld si_Lint64 1 [(0, .int .i64 x_5)] h_17 fun s_3 h_18 =>
         app si_Lint64 q_out_1.1 s_3 h_18 fun s_4 h_19 =>
         k_5 s_4 h_19)
         (k_5 q_out_1.1 h_17)) fun k_6 =>
      idx 1 r_1 q_out_1.2 fun p_6 =>
      ld (.int .i64) h_15 p_6 fun (x_6 : Int) =>
      idx 1 q_marked.2.1 q_out.2 fun p_7 =>
      ld (.int .i64) h_15 p_7 fun (x_7 : Int) =>
      ifB (x_6 == x_7)
       (k_6 true h_15)
       (idx 1 q_marked.2.1 q_out.2 fun p_8 =>
          ld (.int .i64) h_15 p_8 fun (x_8 : Int) =>
           idx 1 r_1 q_out_1.2 fun p_9 =>
              ld (.int .i64) h_15 p_9 fun (x_9 : Int) =>
               ACalls Try.prog F_lateenref24_round [s.v, .int .i64 x_8, .int .i64 x_9] h_15 fun v_5 h_20 => as1 .bool v_5 fun r_6 =>
                hExt h_15 h_20 ∧ k_6 r_6 h_20))
         (ar .i64 (q_out.2 + 1) fun n_5 =>
    next_2 (q_out_1.1, n_5) h_15)) fun k_4 =>
      ifB (decide (q_out_1.2 < (r_1.len : Int)))
       (k_4 q_last.1 h_14)
       (k_4 false h_14)) (q_out.1, 0) h_11)) (true, n_2) h_10)
     (K q_out.1.v h_10)) ((⟨none, 0, 0⟩ : Sl), 0) h_6)) ((⟨none, 0, 0⟩ : Sl), (⟨none, 0, 0⟩ : Sl), 0) h_5)) ((⟨none, 0, 0⟩ : Sl), 0) h
def lateenref24_Order_a : Ann := (.seq .leaf (.seq .leaf (.seq (.seq .leaf (.block (.loop [(5, .sl), (6, .int .i64)] [0, 1] (.seq (.seq .leaf (.cond .leaf .leaf)) (.seq (.block .leaf) .leaf))))) (.seq .leaf (.seq .leaf (.seq .leaf (.seq (.seq .leaf (.block (.loop [(8, .sl), (9, .sl), (10, .int .i64)] [0, 7] (.seq (.seq .leaf (.cond .leaf .leaf)) (.join [(8, .sl), (9, .sl)] [0, 7, 10] (.block (.seq .leaf (.cond .leaf .leaf))) .leaf))))) (.seq .leaf (.seq (.seq .leaf (.block (.loop [(11, .sl), (12, .int .i64)] [0, 7, 9] (.seq (.seq .leaf (.cond .leaf .leaf)) (.seq (.block (.seq .leaf (.seq (.seq .leaf (.block (.loop [(13, .bool), (14, .int .i64)] [0, 7, 9, 11, 12] (.seq (.seq .leaf (.cond .leaf .leaf)) (.join [(13, .bool)] [0, 7, 9, 11, 12, 14] (.block .leaf) .leaf))))) (.seq .leaf (.block (.loop [(11, .sl), (15, .int .i64)] [0, 7, 9, 12, 13] (.seq (.join [(92, .bool)] [0, 7, 9, 11, 12, 13, 15] .leaf (.cond .leaf .leaf)) (.join [(11, .sl)] [0, 7, 9, 12, 13, 15] (.block (.join [(115, .bool)] [0, 7, 9, 11, 12, 13, 15] .based (.cond .leaf .leaf))) .leaf)))))))) .leaf))))) (.seq .leaf .leaf))))))))))
theorem lateenref24_Order_eq (s : Sl) (l : Sl) (h : Heap) (K : Value → Heap → Prop) : lateenref24_Order s l h K = fnW Try.prog ty lateenref24_Order_a (bodyOf Try.f52) [.tmp 4] [s.v, l.v] h K := by kernel_rfl
theorem lateenref24_Order_of {s : Sl} {l : Sl} {h : Heap} {K : Value → Heap → Prop} (hw : lateenref24_Order s l h K) : ACalls Try.prog F_lateenref24_Order [s.v, l.v] h K :=
  calls_sound ty_ok mixed lateenref24_Order_a (c := bodyOf Try.f52) Try.func52 (by kernel_rfl) (by kernel_rfl) (by kernel_rfl) (Nat.le_of_ble_eq_true rfl) (by rw [lateenref24_Order_eq] at hw; exact hw)

/-- lateen/matter.Code -/
def matter_Code (p : Array Value) (s : Sl) (order : Sl) (names : Sl) (h : Heap) (K : Value → Heap → Prop) : Prop :=
  new 91 p h fun p_1 h_1 =>
  ld (.agg 5) h_1 p_1 fun (x : Array Value) =>
  mkm h_1 fun m h_2 =>
  mkm h_2 fun m_1 h_3 =>
  bst [(0, 5), (5, 1), (6, 1), (7, 1), (8, 1), (9, 1)] #[.bool false, .slice none 0 0, .slice none 0 0, .slice none 0 0, .slice none 0 0, .slice none 0 0, .map none, .map none, .slice none 0 0, .slice none 0 0] [(0, .agg x), (1, s.v), (2, .map m), (3, .map m_1)] fun c =>
  new 143 c h_3 fun p_2 h_4 =>
  loopW (fun _ (t : Int) h_5 next =>
    ifB (decide (t < (order.len : Int)))
     (idx 1 order t fun p_3 =>
    ld (.int .i64) h_5 p_3 fun (x_1 : Int) =>
    ld .map h_5 (p_2.add 6) fun (x_2 : Option Nat) =>
    idx 1 names t fun p_4 =>
    ld .str h_5 p_4 fun (x_3 : ByteArray) =>
    mup (.int .i64) x_2 (.int .i64 x_1) (.string x_3) h_5 fun h_6 =>
    ar .i64 (t + 1) fun n =>
    next n h_6)
     (loopW (fun _ (t_1 : Int) h_7 next_1 =>
    ifB (decide (t_1 < (order.len : Int)))
     (idx 1 order t_1 fun p_5 =>
    ld (.int .i64) h_7 p_5 fun (x_4 : Int) =>
    ACalls Try.prog F_matter_coder_make [.pointer (some p_2), .int .i64 x_4] h_7 fun v h_8 => as0 v (
    ar .i64 (t_1 + 1) fun n_1 =>
    next_1 n_1 h_8))
     (ld .sl h_7 (p_2.add 9) fun (x_5 : Sl) =>
  loopW (fun _ (t_2 : Int) h_9 next_2 =>
    ifB (decide (t_2 < (x_5.len : Int)))
     (idx 3 x_5 t_2 fun p_6 =>
    ld (.agg 3) h_9 p_6 fun (x_6 : Array Value) =>
    new 146 #[.int .i64 0, .int .i64 0, .string ⟨#[]⟩] h_9 fun p_7 h_10 =>
    x_6.size = 3 ∧ st x_6.toList h_10 p_7 fun h_11 =>
    ∃ (R : Heap → Prop) (h_12 : Heap) (L : List As) (S : Specs), R h_11 ∧ Sep h_12 h_11 L ∧ (ldF .sl R (p_2.add 8) fun (x_7 : Sl) =>
    ldF .str R (p_7.add 2) fun (x_8 : ByteArray) =>
    ldF .map R (p_2.add 6) fun (x_9 : Option Nat) =>
    ldF (.int .i64) R (p_7.add 0) fun (x_10 : Int) =>
    freeW R h_12 (S 13 [.map x_9, .int .i64 x_10]) [] (fun h_13 Kv =>
        mlk (.int .i64) x_9 (.int .i64 x_10) h_13 fun r => as1 .str (r.getD (.string ⟨#[]⟩)) fun y =>
        Kv (.string y) h_13) fun v_1 => as1 .str v_1 fun r_1 =>
    freeW R h_12 (S 14 [.string r_1]) ((S 13 [.map x_9, .int .i64 x_10]).A v_1 ++ []) (fun h_14 Kv_1 =>
        ACalls Try.prog F_matter_variable [.string r_1] h_14 fun v_2 h_15 => as1 (.agg 3) v_2 fun r_2 =>
        Kv_1 (.agg r_2) h_15) fun v_3 => as1 (.agg 3) v_3 fun r_3 =>
    ldF .map R (p_2.add 6) fun (x_11 : Option Nat) =>
    ldF (.int .i64) R (p_7.add 1) fun (x_12 : Int) =>
    freeW R h_12 (S 21 [.map x_11, .int .i64 x_12]) [] (fun h_16 Kv_2 =>
        mlk (.int .i64) x_11 (.int .i64 x_12) h_16 fun r_4 => as1 .str (r_4.getD (.string ⟨#[]⟩)) fun y_1 =>
        Kv_2 (.string y_1) h_16) fun v_4 => as1 .str v_4 fun r_5 =>
    freeW R h_12 (S 22 [.string r_5]) ((S 21 [.map x_11, .int .i64 x_12]).A v_4 ++ []) (fun h_17 Kv_3 =>
        ACalls Try.prog F_matter_variable [.string r_5] h_17 fun v_5 h_18 => as1 (.agg 3) v_5 fun r_6 =>
        Kv_3 (.agg r_6) h_18) fun v_6 => as1 (.agg 3) v_6 fun r_7 =>
    freeW R h_12 (S 23 [.agg r_3, .agg r_7]) ((S 14 [.string r_1]).A v_3 ++ ((S 22 [.string r_5]).A v_6 ++ [])) (fun h_19 Kv_4 =>
        bld si_Lapi_Arg 2 [(0, .agg r_3), (1, .agg r_7)] h_19 fun s_1 h_20 =>
        Kv_4 s_1.v h_20) fun v_7 => as1 .sl v_7 fun r_8 =>
    bst [(0, 1), (1, 1), (2, 1), (3, 1), (4, 1), (5, 1)] #[.int .i64 0, .string ⟨#[]⟩, .string ⟨#[]⟩, .slice none 0 0, .slice none 0 0, .slice none 0 0] [(0, .int .i64 27), (2, .string x_8), (3, r_8.v)] fun c_1 =>
    freeW R h_12 (S 25 [.agg c_1]) ((S 23 [.agg r_3, .agg r_7]).A v_7 ++ []) (fun h_21 Kv_5 =>
        bld si_Lapi_Instr 1 [(0, .agg c_1)] h_21 fun s_2 h_22 =>
        Kv_5 s_2.v h_22) fun v_8 => as1 .sl v_8 fun r_9 =>
    freeW R h_12 (S 26 [x_7.v, r_9.v]) ((S 25 [.agg c_1]).A v_8 ++ (L ++ [])) (fun h_23 Kv_6 =>
        app si_Lapi_Instr x_7 r_9 h_23 fun s_3 h_24 =>
        Kv_6 s_3.v h_24) fun v_9 => as1 .sl v_9 fun r_10 =>
    endF R h_12 ((S 26 [x_7.v, r_9.v]).A v_9 ++ []) fun h_25 =>
    st [r_10.v] h_25 (p_2.add 8) fun h_26 =>
    ar .i64 (t_2 + 1) fun n_2 =>
    next_2 n_2 h_26))
     (loopW (fun _ (q_out : Sl × Int) h_27 next_3 =>
    ifB (decide (q_out.2 < (order.len : Int)))
     (idx 1 order q_out.2 fun p_8 =>
    ld (.int .i64) h_27 p_8 fun (x_13 : Int) =>
    ACalls Try.prog F_matter_to [.int .i64 x_13] h_27 fun v_10 h_28 => as1 (.agg 3) v_10 fun r_11 =>
    ACalls Try.prog F_vstate_Find [q_out.1.v, .agg r_11] h_28 fun v_11 h_29 => as2 (.agg 6) .bool v_11 fun r_12 _ =>
    new 39 #[.int .i64 0, .string ⟨#[]⟩, .slice none 0 0, .int .i64 0, .string ⟨#[]⟩, .int .i64 0] h_29 fun p_9 h_30 =>
    r_12.size = 6 ∧ st r_12.toList h_30 p_9 fun h_31 =>
    idx 1 names q_out.2 fun p_10 =>
    ld .str h_31 p_10 fun (x_14 : ByteArray) =>
    ACalls Try.prog F_matter_variable [.string x_14] h_31 fun v_12 h_32 => as1 (.agg 3) v_12 fun r_14 =>
    r_14.size = 3 ∧ st r_14.toList h_32 (p_9.add 3) fun h_33 =>
    ld (.agg 6) h_33 p_9 fun (x_15 : Array Value) =>
    ACalls Try.prog F_vstate_Add [q_out.1.v, .agg x_15] h_33 fun v_13 h_34 => as1 .sl v_13 fun r_15 =>
    ar .i64 (q_out.2 + 1) fun n_3 =>
    next_3 (r_15, n_3) h_34)
     (joinW (fun _ (out_1 : Sl) h_35 =>
    ld .sl h_35 (p_2.add 8) fun (x_16 : Sl) =>
    K (.tuple #[x_16.v, out_1.v]) h_35) fun k =>
  ifB ((order.len : Int) == 0)
   (bld si_Lvstate_Obj 0 [] h_27 fun s_4 h_36 =>
   app si_Lvstate_Obj s_4 s h_36 fun s_5 h_37 =>
   k s_5 h_37)
   (k q_out.1 h_27))) (s, 0) h_9)) 0 h_7)) 0 h_5)) 0 h_4
def matter_Code_a : Ann := (.seq .leaf (.seq .leaf (.seq (.seq .leaf (.block (.loop [(30, .int .i64)] [1, 2, 3, 10, 28, 29] (.seq .leaf (.seq (.cond .leaf .leaf) (.seq (.block (.seq .leaf .leaf)) .leaf)))))) (.seq (.seq .leaf (.block (.loop [(47, .int .i64)] [1, 2, 3, 10, 45, 46] (.seq .leaf (.seq (.cond .leaf .leaf) (.seq (.block (.seq .leaf .leaf)) .leaf)))))) (.seq (.seq .leaf (.block (.loop [(60, .int .i64)] [1, 2, 3, 10, 58, 59] (.seq .leaf (.seq (.cond .leaf .leaf) (.seq (.block (.seq .leaf (.free 27 [[], [], [], [], [], [], [], [], [], [], [], [], [], [], [13], [], [], [], [], [], [], [], [21], [14, 22], [], [23], [25, 30], [], [], []] [13, 14, 21, 22, 23, 25, 26, 30]))) .leaf)))))) (.seq .leaf (.seq (.seq .leaf (.block (.loop [(17, .sl), (97, .int .i64)] [1, 2, 3, 10, 95, 96] (.seq .leaf (.seq (.cond .leaf .leaf) (.seq (.block (.seq .leaf (.seq .leaf (.seq .leaf .leaf)))) .leaf)))))) (.join [(17, .sl)] [10] (.seq .leaf (.cond .leaf .leaf)) (.seq .leaf .leaf)))))))))
theorem matter_Code_eq (p : Array Value) (s : Sl) (order : Sl) (names : Sl) (h : Heap) (K : Value → Heap → Prop) : matter_Code p s order names h K = fnW Try.prog ty matter_Code_a (bodyOf Try.f53) [.tmp 8, .tmp 9] [.agg p, s.v, order.v, names.v] h K := by kernel_rfl
theorem matter_Code_of {p : Array Value} {s : Sl} {order : Sl} {names : Sl} {h : Heap} {K : Value → Heap → Prop} (hw : matter_Code p s order names h K) : ACalls Try.prog F_matter_Code [.agg p, s.v, order.v, names.v] h K :=
  calls_sound ty_ok mixed matter_Code_a (c := bodyOf Try.f53) Try.func53 (by kernel_rfl) (by kernel_rfl) (by kernel_rfl) (Nat.le_of_ble_eq_true rfl) (by rw [matter_Code_eq] at hw; exact hw)

/-- lateen/lateenlaw24.program -/
def lateenlaw24_program  (h : Heap) (K : Value → Heap → Prop) : Prop :=
  new 91 #[.bool false, .slice none 0 0, .slice none 0 0, .slice none 0 0, .slice none 0 0] h fun p h_1 =>
  bst [(0, 1), (1, 1)] #[.string ⟨#[]⟩, .string ⟨#[]⟩] [(0, .string ⟨#[110]⟩), (1, .string ⟨#[80]⟩)] fun c =>
  bst [(0, 1), (1, 1)] #[.string ⟨#[]⟩, .string ⟨#[]⟩] [(0, .string ⟨#[109]⟩), (1, .string ⟨#[80]⟩)] fun c_1 =>
  bld si_Lapi_Var 2 [(0, .agg c), (1, .agg c_1)] h_1 fun s h_2 =>
  bst [(0, 1), (1, 1)] #[.string ⟨#[]⟩, .slice none 0 0] [(0, .string ⟨#[80]⟩), (1, s.v)] fun c_2 =>
  bld si_Lapi_Class 1 [(0, .agg c_2)] h_2 fun s_1 h_3 =>
  bst [(0, 1), (1, 1), (2, 1), (3, 1), (4, 1)] #[.bool false, .slice none 0 0, .slice none 0 0, .slice none 0 0, .slice none 0 0] [(1, s_1.v)] fun c_3 =>
  c_3.size = 5 ∧ st c_3.toList h_3 p fun h_4 =>
  ld (.agg 5) h_4 p fun (x : Array Value) => K (.agg x) h_4
def lateenlaw24_program_a : Ann := (.seq .leaf (.seq .leaf .leaf))
theorem lateenlaw24_program_eq  (h : Heap) (K : Value → Heap → Prop) : lateenlaw24_program  h K = fnW Try.prog ty lateenlaw24_program_a (bodyOf Try.f54) [.cell 0 91] [] h K := by kernel_rfl
theorem lateenlaw24_program_of  {h : Heap} {K : Value → Heap → Prop} (hw : lateenlaw24_program  h K) : ACalls Try.prog F_lateenlaw24_program [] h K :=
  calls_sound ty_ok mixed lateenlaw24_program_a (c := bodyOf Try.f54) Try.func54 (by kernel_rfl) (by kernel_rfl) (by kernel_rfl) (Nat.le_of_ble_eq_true rfl) (by rw [lateenlaw24_program_eq] at hw; exact hw)

/-- lateen/lateenlaw24.names -/
def lateenlaw24_names (l : Sl) (h : Heap) (K : Value → Heap → Prop) : Prop :=
  loopW (fun _ (q_out : Sl × Int) h_1 next =>
    ifB (decide (q_out.2 < (l.len : Int)))
     (ACalls Try.prog F_lateenref01_Put [.int .i64 q_out.2] h_1 fun v h_2 => as1 .str v fun r =>
    (((⟨#[110, 101, 119]⟩ : ByteArray).size + r.size : Nat) : Int) ≤ IntKind.i64.max ∧ (bld si_Lstring 1 [(0, .string ((⟨#[110, 101, 119]⟩ : ByteArray) ++ r))] h_2 fun s h_3 =>
    app si_Lstring q_out.1 s h_3 fun s_1 h_4 =>
    ar .i64 (q_out.2 + 1) fun n =>
    next (s_1, n) h_4))
     (K q_out.1.v h_1)) ((⟨none, 0, 0⟩ : Sl), 0) h
def lateenlaw24_names_a : Ann := (.seq .leaf (.seq .leaf (.seq (.seq .leaf (.block (.loop [(3, .sl), (4, .int .i64)] [0] (.seq (.seq .leaf (.cond .leaf .leaf)) (.seq (.block .leaf) .leaf))))) (.seq .leaf .leaf))))
theorem lateenlaw24_names_eq (l : Sl) (h : Heap) (K : Value → Heap → Prop) : lateenlaw24_names l h K = fnW Try.prog ty lateenlaw24_names_a (bodyOf Try.f55) [.tmp 2] [l.v] h K := by kernel_rfl
theorem lateenlaw24_names_of {l : Sl} {h : Heap} {K : Value → Heap → Prop} (hw : lateenlaw24_names l h K) : ACalls Try.prog F_lateenlaw24_names [l.v] h K :=
  calls_sound ty_ok mixed lateenlaw24_names_a (c := bodyOf Try.f55) Try.func55 (by kernel_rfl) (by kernel_rfl) (by kernel_rfl) (Nat.le_of_ble_eq_true rfl) (by rw [lateenlaw24_names_eq] at hw; exact hw)

/-- lateen/lateenref24.Code -/
def lateenref24_Code (p : Array Value) (s : Sl) (order : Sl) (names : Sl) (h : Heap) (K : Value → Heap → Prop) : Prop :=
  new 91 p h fun p_1 h_1 =>
  loopW (fun _ (q_out : Sl × Sl × Sl × Int) h_2 next =>
    ifB (decide (q_out.2.2.2 < (order.len : Int)))
     (idx 1 order q_out.2.2.2 fun p_2 =>
    ld (.int .i64) h_2 p_2 fun (x : Int) =>
    ACalls Try.prog F_lateenref24_to [.int .i64 x] h_2 fun v h_3 => as1 (.agg 3) v fun r =>
    ACalls Try.prog F_lateenref22_Find [s.v, .agg r] h_3 fun v_1 h_4 => as2 (.agg 6) .bool v_1 fun r_1 _ =>
    new 40 #[.int .i64 0, .string ⟨#[]⟩, .slice none 0 0, .int .i64 0, .string ⟨#[]⟩, .int .i64 0] h_4 fun p_3 h_5 =>
    r_1.size = 6 ∧ st r_1.toList h_5 p_3 fun h_6 =>
    ld (.agg 5) h_6 p_1 fun (x_1 : Array Value) =>
    ld .str h_6 (p_3.add 1) fun (x_2 : ByteArray) =>
    ACalls Try.prog F_lateenref07_Class [.agg x_1, .string x_2] h_6 fun v_2 h_7 => as2 (.agg 2) .bool v_2 fun r_3 _ =>
    new 151 #[.string ⟨#[]⟩, .slice none 0 0] h_7 fun p_4 h_8 =>
    r_3.size = 2 ∧ st r_3.toList h_8 p_4 fun h_9 =>
    idx 1 names q_out.2.2.2 fun p_5 =>
    ld .str h_9 p_5 fun (x_3 : ByteArray) =>
    ld .str h_9 (p_3.add 1) fun (x_4 : ByteArray) =>
    bst [(0, 1), (1, 1), (2, 1), (3, 1), (4, 1), (5, 1)] #[.int .i64 0, .string ⟨#[]⟩, .string ⟨#[]⟩, .slice none 0 0, .slice none 0 0, .slice none 0 0] [(0, .int .i64 25), (1, .string x_3), (2, .string x_4)] fun c =>
    new 101 #[.int .i64 0, .string ⟨#[]⟩, .string ⟨#[]⟩, .slice none 0 0, .slice none 0 0, .slice none 0 0] h_9 fun p_6 h_10 =>
    c.size = 6 ∧ st c.toList h_10 p_6 fun h_11 =>
    idx 1 names q_out.2.2.2 fun p_7 =>
    ld .str h_11 p_7 fun (x_5 : ByteArray) =>
    bst [(0, 1), (1, 1), (2, 1)] #[.int .i64 0, .string ⟨#[]⟩, .int .i64 0] [(0, .int .i64 1), (1, .string x_5)] fun c_1 =>
    new 37 #[.int .i64 0, .string ⟨#[]⟩, .int .i64 0] h_11 fun p_8 h_12 =>
    c_1.size = 3 ∧ st c_1.toList h_12 p_8 fun h_13 =>
    loopW (fun _ (q_late_1 : Sl × Int) h_14 next_1 =>
      ld .sl h_14 (p_3.add 2) fun (x_6 : Sl) =>
      ifB (decide (q_late_1.2 < (x_6.len : Int)))
       (ld .sl h_14 (p_3.add 2) fun (x_7 : Sl) =>
      idx 3 x_7 q_late_1.2 fun p_9 =>
      ld (.agg 3) h_14 p_9 fun (x_8 : Array Value) =>
      ACalls Try.prog F_lateenref22_Really [s.v, .agg x_8] h_14 fun v_3 h_15 => as1 (.agg 3) v_3 fun r_5 =>
      new 37 #[.int .i64 0, .string ⟨#[]⟩, .int .i64 0] h_15 fun p_10 h_16 =>
      r_5.size = 3 ∧ st r_5.toList h_16 p_10 fun h_17 =>
      joinW (fun _ (atv : Int) h_18 =>
        joinW (fun _ (late_2 : Sl) h_19 =>
          ld .sl h_19 (p_6.add 3) fun (x_9 : Sl) =>
          ld (.agg 3) h_19 p_10 fun (x_10 : Array Value) =>
          bld si_Lapi_Arg 1 [(0, .agg x_10)] h_19 fun s_1 h_20 =>
          app si_Lapi_Arg x_9 s_1 h_20 fun s_2 h_21 =>
          st [s_2.v] h_21 (p_6.add 3) fun h_22 =>
          ar .i64 (q_late_1.2 + 1) fun n =>
      next_1 (late_2, n) h_22) fun k_2 =>
        joinW (fun _ (t : Bool) h_23 =>
          ifB t
           (idx 1 names atv fun p_11 =>
           ld .str h_23 p_11 fun (x_11 : ByteArray) =>
           bst [(0, 1), (1, 1), (2, 1)] #[.int .i64 0, .string ⟨#[]⟩, .int .i64 0] [(0, .int .i64 1), (1, .string x_11)] fun c_2 =>
           c_2.size = 3 ∧ st c_2.toList h_23 p_10 fun h_24 =>
           k_2 q_late_1.1 h_24)
           (ifB (decide (atv ≥ 0))
            (ld .sl h_23 (p_4.add 1) fun (x_12 : Sl) =>
            idx 2 x_12 q_late_1.2 fun p_12 =>
            ld .str h_23 (p_12.add 0) fun (x_13 : ByteArray) =>
            ld (.agg 3) h_23 p_8 fun (x_14 : Array Value) =>
            idx 1 names atv fun p_13 =>
            ld .str h_23 p_13 fun (x_15 : ByteArray) =>
            bst [(0, 1), (1, 1), (2, 1)] #[.int .i64 0, .string ⟨#[]⟩, .int .i64 0] [(0, .int .i64 1), (1, .string x_15)] fun c_3 =>
            bld si_Lapi_Arg 2 [(0, .agg x_14), (1, .agg c_3)] h_23 fun s_3 h_25 =>
            bst [(0, 1), (1, 1), (2, 1), (3, 1), (4, 1), (5, 1)] #[.int .i64 0, .string ⟨#[]⟩, .string ⟨#[]⟩, .slice none 0 0, .slice none 0 0, .slice none 0 0] [(0, .int .i64 27), (2, .string x_13), (3, s_3.v)] fun c_4 =>
            bld si_Lapi_Instr 1 [(0, .agg c_4)] h_25 fun s_4 h_26 =>
            app si_Lapi_Instr q_late_1.1 s_4 h_26 fun s_5 h_27 =>
            bst [(0, 1), (1, 1), (2, 1)] #[.int .i64 0, .string ⟨#[]⟩, .int .i64 0] [(0, .int .i64 4)] fun c_5 =>
            c_5.size = 3 ∧ st c_5.toList h_27 p_10 fun h_28 =>
            k_2 s_5 h_28)
            (k_2 q_late_1.1 h_23))) fun k_3 =>
        ifB (decide (atv ≥ 0))
         (k_3 (decide (atv < q_out.2.2.2)) h_18)
         (k_3 false h_18)) fun k_1 =>
      ld (.int .i64) h_17 (p_10.add 0) fun (x_16 : Int) =>
      ifB (x_16 == 5)
       (ld (.int .i64) h_17 (p_10.add 2) fun (x_17 : Int) =>
       ACalls Try.prog F_lateenref24_in [order.v, .int .i64 x_17] h_17 fun v_4 h_29 => as1 (.int .i64) v_4 fun r_6 =>
       k_1 r_6 h_29)
       (k_1 (-1) h_17))
       (ld (.agg 6) h_14 p_6 fun (x_18 : Array Value) =>
    bld si_Lapi_Instr 1 [(0, .agg x_18)] h_14 fun s_6 h_30 =>
    app si_Lapi_Instr q_out.1 s_6 h_30 fun s_7 h_31 =>
    ld (.agg 3) h_31 p_8 fun (x_19 : Array Value) =>
    x_19.size = 3 ∧ st x_19.toList h_31 (p_3.add 3) fun h_32 =>
    ld (.agg 6) h_32 p_3 fun (x_20 : Array Value) =>
    ACalls Try.prog F_lateenref22_Add [q_out.2.2.1.v, .agg x_20] h_32 fun v_5 h_33 => as1 .sl v_5 fun r_7 =>
    ar .i64 (q_out.2.2.2 + 1) fun n_1 =>
    next (s_7, q_late_1.1, r_7, n_1) h_33)) (q_out.2.1, 0) h_13)
     (app si_Lapi_Instr q_out.1 q_out.2.1 h_2 fun s_8 h_34 =>
  K (.tuple #[s_8.v, q_out.2.2.1.v]) h_34)) ((⟨none, 0, 0⟩ : Sl), (⟨none, 0, 0⟩ : Sl), s, 0) h_1
def lateenref24_Code_a : Ann := (.seq .leaf (.seq .leaf (.seq .leaf (.seq .leaf (.seq (.seq .leaf (.block (.loop [(10, .sl), (11, .sl), (12, .sl), (13, .int .i64)] [1, 2, 3, 4] (.seq (.seq .leaf (.cond .leaf .leaf)) (.seq (.block (.seq .leaf (.seq .leaf (.seq .leaf (.seq .leaf (.seq (.seq .leaf (.block (.loop [(11, .sl), (20, .int .i64)] [1, 2, 3, 4, 10, 12, 13, 14, 16, 18, 19] (.seq (.seq .leaf (.cond .leaf .leaf)) (.seq (.block (.seq .leaf (.seq .leaf (.join [(22, .int .i64)] [1, 2, 3, 4, 10, 11, 12, 13, 14, 16, 18, 19, 20, 21] (.seq .leaf (.cond .leaf .leaf)) (.join [(11, .sl)] [1, 2, 3, 4, 10, 12, 13, 14, 16, 18, 19, 20, 21] (.join [(86, .bool)] [1, 2, 3, 4, 10, 11, 12, 13, 14, 16, 18, 19, 20, 21, 22] .leaf (.cond .leaf (.seq .leaf (.cond (.seq .leaf .leaf) .leaf)))) .leaf))))) .leaf))))) (.seq .leaf (.seq .leaf .leaf)))))))) .leaf))))) (.seq .leaf .leaf))))))
theorem lateenref24_Code_eq (p : Array Value) (s : Sl) (order : Sl) (names : Sl) (h : Heap) (K : Value → Heap → Prop) : lateenref24_Code p s order names h K = fnW Try.prog ty lateenref24_Code_a (bodyOf Try.f56) [.tmp 8, .tmp 9] [.agg p, s.v, order.v, names.v] h K := by kernel_rfl
theorem lateenref24_Code_of {p : Array Value} {s : Sl} {order : Sl} {names : Sl} {h : Heap} {K : Value → Heap → Prop} (hw : lateenref24_Code p s order names h K) : ACalls Try.prog F_lateenref24_Code [.agg p, s.v, order.v, names.v] h K :=
  calls_sound ty_ok mixed lateenref24_Code_a (c := bodyOf Try.f56) Try.func56 (by kernel_rfl) (by kernel_rfl) (by kernel_rfl) (Nat.le_of_ble_eq_true rfl) (by rw [lateenref24_Code_eq] at hw; exact hw)

/-- lateen/lateenref06.SameInstr -/
def lateenref06_SameInstr (a : Array Value) (b : Array Value) (h : Heap) (K : Value → Heap → Prop) : Prop :=
  new 101 a h fun p h_1 =>
  new 101 b h_1 fun p_1 h_2 =>
  joinW (fun _ (t : Bool) h_3 =>
    ifB t
     (K (.bool false) h_3)
     (loopW (fun _ (i : Int) h_4 next =>
    ld .sl h_4 (p.add 4) fun (x : Sl) =>
    ifB (decide (i < (x.len : Int)))
     (ld .sl h_4 (p.add 4) fun (x_1 : Sl) =>
    idx 4 x_1 i fun p_2 =>
    ld (.agg 4) h_4 p_2 fun (x_2 : Array Value) =>
    new 157 #[.string ⟨#[]⟩, .string ⟨#[]⟩, .int .i64 0, .slice none 0 0] h_4 fun p_3 h_5 =>
    x_2.size = 4 ∧ st x_2.toList h_5 p_3 fun h_6 =>
    ld .sl h_6 (p_1.add 4) fun (x_3 : Sl) =>
    idx 4 x_3 i fun p_4 =>
    ld (.agg 4) h_6 p_4 fun (x_4 : Array Value) =>
    new 157 #[.string ⟨#[]⟩, .string ⟨#[]⟩, .int .i64 0, .slice none 0 0] h_6 fun p_5 h_7 =>
    x_4.size = 4 ∧ st x_4.toList h_7 p_5 fun h_8 =>
    joinW (fun _ (t_1 : Bool) h_9 =>
      ifB t_1
       (K (.bool false) h_9)
       (loopW (fun _ (k_2 : Int) h_10 next_1 =>
      ld .sl h_10 (p_3.add 3) fun (x_5 : Sl) =>
      ifB (decide (k_2 < (x_5.len : Int)))
       (ld .sl h_10 (p_3.add 3) fun (x_6 : Sl) =>
      idx 4 x_6 k_2 fun p_6 =>
      ld (.agg 4) h_10 p_6 fun (x_7 : Array Value) =>
      ld .sl h_10 (p_5.add 3) fun (x_8 : Sl) =>
      idx 4 x_8 k_2 fun p_7 =>
      ld (.agg 4) h_10 p_7 fun (x_9 : Array Value) =>
      eqA [.str, .int .i64, .str, .int .i64] x_7 x_9 fun b_1 =>
      ifB (!b_1)
       (K (.bool false) h_10)
       (ar .i64 (k_2 + 1) fun n =>
      next_1 n h_10))
       (ar .i64 (i + 1) fun n_1 =>
    next n_1 h_10)) 0 h_9)) fun k_1 =>
    ld .str h_8 (p_3.add 0) fun (x_10 : ByteArray) =>
    ld .str h_8 (p_5.add 0) fun (x_11 : ByteArray) =>
    ifB (!(x_10.toList == x_11.toList))
     (k_1 true h_8)
     (ld .str h_8 (p_3.add 1) fun (x_12 : ByteArray) =>
      ld .str h_8 (p_5.add 1) fun (x_13 : ByteArray) =>
        ifB (!(x_12.toList == x_13.toList))
          (k_1 true h_8)
          (ld (.int .i64) h_8 (p_3.add 2) fun (x_14 : Int) =>
           ld (.int .i64) h_8 (p_5.add 2) fun (x_15 : Int) =>
             ifB (x_14 != x_15)
               (k_1 true h_8)
               (ld .sl h_8 (p_3.add 3) fun (x_16 : Sl) =>
                ld .sl h_8 (p_5.add 3) fun (x_17 : Sl) =>
                   k_1 ((x_16.len : Int) != (x_17.len : Int)) h_8))))
     (loopW (fun _ (i_1 : Int) h_11 next_2 =>
    ld .sl h_11 (p.add 5) fun (x_18 : Sl) =>
    ifB (decide (i_1 < (x_18.len : Int)))
     (joinW (fun _ (t_2 : Bool) h_12 =>
      ifB t_2
       (K (.bool false) h_12)
       (ar .i64 (i_1 + 1) fun n_2 =>
    next_2 n_2 h_12)) fun k_3 =>
    ld .sl h_11 (p.add 5) fun (x_19 : Sl) =>
    idx 2 x_19 i_1 fun p_8 =>
    ld .str h_11 (p_8.add 0) fun (x_20 : ByteArray) =>
    ld .sl h_11 (p_1.add 5) fun (x_21 : Sl) =>
    idx 2 x_21 i_1 fun p_9 =>
    ld .str h_11 (p_9.add 0) fun (x_22 : ByteArray) =>
    ifB (!(x_20.toList == x_22.toList))
     (k_3 true h_11)
     (ld .sl h_11 (p.add 5) fun (x_23 : Sl) =>
      idx 2 x_23 i_1 fun p_10 =>
        ld .sl h_11 (p_10.add 1) fun (x_24 : Sl) =>
          ld .sl h_11 (p_1.add 5) fun (x_25 : Sl) =>
            idx 2 x_25 i_1 fun p_11 =>
              ld .sl h_11 (p_11.add 1) fun (x_26 : Sl) =>
                ACalls Try.prog F_lateenref06_sameArgs [x_24.v, x_26.v] h_11 fun v h_13 => as1 .bool v fun r =>
                 hExt h_11 h_13 ∧ k_3 (!r) h_13))
     (K (.bool true) h_11)) 0 h_4)) 0 h_3)) fun k =>
  ld (.int .i64) h_2 (p.add 0) fun (x_27 : Int) =>
  ld (.int .i64) h_2 (p_1.add 0) fun (x_28 : Int) =>
  ifB (x_27 != x_28)
   (k true h_2)
   (ld .str h_2 (p.add 1) fun (x_29 : ByteArray) =>
    ld .str h_2 (p_1.add 1) fun (x_30 : ByteArray) =>
      ifB (!(x_29.toList == x_30.toList))
        (k true h_2)
        (ld .str h_2 (p.add 2) fun (x_31 : ByteArray) =>
         ld .str h_2 (p_1.add 2) fun (x_32 : ByteArray) =>
           ifB (!(x_31.toList == x_32.toList))
             (k true h_2)
             (ld .sl h_2 (p.add 3) fun (x_33 : Sl) =>
              ld .sl h_2 (p_1.add 3) fun (x_34 : Sl) =>
                ACalls Try.prog F_lateenref06_sameArgs [x_33.v, x_34.v] h_2 fun v_1 h_14 => as1 .bool v_1 fun r_1 =>
                 ifB (!r_1)
                   (k true h_14)
                   (ld .sl h_14 (p.add 4) fun (x_35 : Sl) =>
                    ld .sl h_14 (p_1.add 4) fun (x_36 : Sl) =>
                       ifB ((x_35.len : Int) != (x_36.len : Int))
                          (k true h_14)
                          (ld .sl h_14 (p.add 5) fun (x_37 : Sl) =>
                           ld .sl h_14 (p_1.add 5) fun (x_38 : Sl) =>
                              k ((x_37.len : Int) != (x_38.len : Int)) h_14)))))
def lateenref06_SameInstr_a : Ann := (.seq .leaf (.seq (.join [(54, .bool)] [2, 3] .leaf (.cond (.seq .leaf .leaf) .leaf)) (.seq (.seq .leaf (.block (.loop [(5, .int .i64)] [2, 3] (.seq (.seq .leaf (.cond .leaf .leaf)) (.seq (.block (.seq .leaf (.seq .leaf (.seq (.join [(99, .bool)] [2, 3, 5, 6, 7] .leaf (.cond (.seq .leaf .leaf) .leaf)) (.seq .leaf (.block (.loop [(8, .int .i64)] [2, 3, 5, 6, 7] (.seq (.seq .leaf (.cond .leaf .leaf)) (.seq (.block (.seq .leaf (.cond (.seq .leaf .leaf) .leaf))) .leaf))))))))) .leaf))))) (.seq (.seq .leaf (.block (.loop [(9, .int .i64)] [2, 3] (.seq (.seq .leaf (.cond .leaf .leaf)) (.seq (.block (.join [(153, .bool)] [2, 3, 9] .based (.cond (.seq .leaf .leaf) .leaf))) .leaf))))) (.seq .leaf .leaf)))))
theorem lateenref06_SameInstr_eq (a : Array Value) (b : Array Value) (h : Heap) (K : Value → Heap → Prop) : lateenref06_SameInstr a b h K = fnW Try.prog ty lateenref06_SameInstr_a (bodyOf Try.f57) [.tmp 4] [.agg a, .agg b] h K := by kernel_rfl
theorem lateenref06_SameInstr_of {a : Array Value} {b : Array Value} {h : Heap} {K : Value → Heap → Prop} (hw : lateenref06_SameInstr a b h K) : ACalls Try.prog F_lateenref06_SameInstr [.agg a, .agg b] h K :=
  calls_sound ty_ok mixed lateenref06_SameInstr_a (c := bodyOf Try.f57) Try.func57 (by kernel_rfl) (by kernel_rfl) (by kernel_rfl) (Nat.le_of_ble_eq_true rfl) (by rw [lateenref06_SameInstr_eq] at hw; exact hw)

/-- lateen/lateenlaw24.to -/
def lateenlaw24_to (n : Int) (h : Heap) (K : Value → Heap → Prop) : Prop :=
  new 37 #[.int .i64 0, .string ⟨#[]⟩, .int .i64 0] h fun p h_1 =>
  bst [(0, 1), (1, 1), (2, 1)] #[.int .i64 0, .string ⟨#[]⟩, .int .i64 0] [(0, .int .i64 5), (2, .int .i64 n)] fun c =>
  c.size = 3 ∧ st c.toList h_1 p fun h_2 =>
  ld (.agg 3) h_2 p fun (x : Array Value) => K (.agg x) h_2
def lateenlaw24_to_a : Ann := (.seq .leaf (.seq .leaf .leaf))
theorem lateenlaw24_to_eq (n : Int) (h : Heap) (K : Value → Heap → Prop) : lateenlaw24_to n h K = fnW Try.prog ty lateenlaw24_to_a (bodyOf Try.f58) [.cell 2 37] [.int .i64 n] h K := by kernel_rfl
theorem lateenlaw24_to_of {n : Int} {h : Heap} {K : Value → Heap → Prop} (hw : lateenlaw24_to n h K) : ACalls Try.prog F_lateenlaw24_to [.int .i64 n] h K :=
  calls_sound ty_ok mixed lateenlaw24_to_a (c := bodyOf Try.f58) Try.func58 (by kernel_rfl) (by kernel_rfl) (by kernel_rfl) (Nat.le_of_ble_eq_true rfl) (by rw [lateenlaw24_to_eq] at hw; exact hw)

/-- maps.Keys[map[int64]bool,int64,bool] -/
def maps_Keys (m : Option Nat) (h : Heap) (K : Value → Heap → Prop) : Prop :=
  new 108 #[.map m] h fun p h_1 =>
  K (.func (.func F_maps_Keys_map_int64_bool_int64_bool__1) #[] #[.pointer (some p)]) h_1
def maps_Keys_a : Ann := (.seq .leaf (.seq .leaf .leaf))
theorem maps_Keys_eq (m : Option Nat) (h : Heap) (K : Value → Heap → Prop) : maps_Keys m h K = fnW Try.prog ty maps_Keys_a (bodyOf Try.f66) [.tmp 2] [.map m] h K := by kernel_rfl
theorem maps_Keys_of {m : Option Nat} {h : Heap} {K : Value → Heap → Prop} (hw : maps_Keys m h K) : ACalls Try.prog F_maps_Keys [.map m] h K :=
  calls_sound ty_ok mixed maps_Keys_a (c := bodyOf Try.f66) Try.func66 (by kernel_rfl) (by kernel_rfl) (by kernel_rfl) (Nat.le_of_ble_eq_true rfl) (by rw [maps_Keys_eq] at hw; exact hw)

/-- lateen/vstate.find -/
def vstate_find (s : Sl) (a : Array Value) (h : Heap) (K : Value → Heap → Prop) : Prop :=
  new 37 a h fun p h_1 =>
  new 39 #[.int .i64 0, .string ⟨#[]⟩, .slice none 0 0, .int .i64 0, .string ⟨#[]⟩, .int .i64 0] h_1 fun p_1 h_2 =>
  ld (.int .i64) h_2 (p.add 0) fun (x : Int) =>
  ifB (x != 5)
   (bst [(0, 1), (1, 1), (2, 1), (3, 3)] #[.int .i64 0, .string ⟨#[]⟩, .slice none 0 0, .int .i64 0, .string ⟨#[]⟩, .int .i64 0] [] fun c =>
   c.size = 6 ∧ st c.toList h_2 p_1 fun h_3 =>
   ld (.agg 6) h_3 p_1 fun (x_1 : Array Value) => K (.tuple #[.agg x_1, .bool false]) h_3)
   (ld (.int .i64) h_2 (p.add 2) fun (x_2 : Int) =>
  ACalls Try.prog F_vstate_place [s.v, .int .i64 x_2] h_2 fun v h_4 => as2 (.int .i64) .bool v fun r r_1 =>
  ifB (!r_1)
   (bst [(0, 1), (1, 1), (2, 1), (3, 3)] #[.int .i64 0, .string ⟨#[]⟩, .slice none 0 0, .int .i64 0, .string ⟨#[]⟩, .int .i64 0] [] fun c_1 =>
   c_1.size = 6 ∧ st c_1.toList h_4 p_1 fun h_5 =>
   ld (.agg 6) h_5 p_1 fun (x_3 : Array Value) => K (.tuple #[.agg x_3, .bool false]) h_5)
   (idx 6 s r fun p_2 =>
  ld (.agg 6) h_4 p_2 fun (x_4 : Array Value) =>
  x_4.size = 6 ∧ st x_4.toList h_4 p_1 fun h_6 =>
  ld (.agg 6) h_6 p_1 fun (x_5 : Array Value) => K (.tuple #[.agg x_5, .bool true]) h_6))
def vstate_find_a : Ann := (.seq .leaf (.seq (.seq .leaf (.cond (.seq .leaf .leaf) .leaf)) (.seq .leaf (.seq (.seq .leaf (.cond (.seq .leaf .leaf) .leaf)) (.seq .leaf .leaf)))))
theorem vstate_find_eq (s : Sl) (a : Array Value) (h : Heap) (K : Value → Heap → Prop) : vstate_find s a h K = fnW Try.prog ty vstate_find_a (bodyOf Try.f69) [.cell 4 39, .tmp 5] [s.v, .agg a] h K := by kernel_rfl
theorem vstate_find_of {s : Sl} {a : Array Value} {h : Heap} {K : Value → Heap → Prop} (hw : vstate_find s a h K) : ACalls Try.prog F_vstate_find [s.v, .agg a] h K :=
  calls_sound ty_ok mixed vstate_find_a (c := bodyOf Try.f69) Try.func69 (by kernel_rfl) (by kernel_rfl) (by kernel_rfl) (Nat.le_of_ble_eq_true rfl) (by rw [vstate_find_eq] at hw; exact hw)

/-- (lateen/vstate.Obj).copied -/
def vstate_Obj_copied (o : Array Value) (h : Heap) (K : Value → Heap → Prop) : Prop :=
  new 39 o h fun p h_1 =>
  new 39 #[.int .i64 0, .string ⟨#[]⟩, .slice none 0 0, .int .i64 0, .string ⟨#[]⟩, .int .i64 0] h_1 fun p_1 h_2 =>
  ld .sl h_2 (p.add 2) fun (x : Sl) =>
  ACalls Try.prog F_slices_Clone [x.v] h_2 fun v h_3 => as1 .sl v fun r =>
  st [r.v] h_3 (p.add 2) fun h_4 =>
  ld (.agg 6) h_4 p fun (x_1 : Array Value) =>
  x_1.size = 6 ∧ st x_1.toList h_4 p_1 fun h_5 =>
  ld (.agg 6) h_5 p_1 fun (x_2 : Array Value) => K (.agg x_2) h_5
def vstate_Obj_copied_a : Ann := (.seq .leaf (.seq .leaf (.seq .leaf .leaf)))
theorem vstate_Obj_copied_eq (o : Array Value) (h : Heap) (K : Value → Heap → Prop) : vstate_Obj_copied o h K = fnW Try.prog ty vstate_Obj_copied_a (bodyOf Try.f70) [.cell 2 39] [.agg o] h K := by kernel_rfl
theorem vstate_Obj_copied_of {o : Array Value} {h : Heap} {K : Value → Heap → Prop} (hw : vstate_Obj_copied o h K) : ACalls Try.prog F_vstate_Obj_copied [.agg o] h K :=
  calls_sound ty_ok mixed vstate_Obj_copied_a (c := bodyOf Try.f70) Try.func70 (by kernel_rfl) (by kernel_rfl) (by kernel_rfl) (Nat.le_of_ble_eq_true rfl) (by rw [vstate_Obj_copied_eq] at hw; exact hw)

/-- slices.Clone[[]lateen/api.Arg,lateen/api.Arg] -/
def slices_Clone (s : Sl) (h : Heap) (K : Value → Heap → Prop) : Prop :=
  ifB s.a.isNone
   (K ((⟨none, 0, 0⟩ : Sl).v) h)
   (bld si_Lapi_Arg 0 [] h fun s_1 h_1 =>
  app si_Lapi_Arg s_1 s h_1 fun s_2 h_2 =>
  K s_2.v h_2)
def slices_Clone_a : Ann := (.seq .leaf (.seq (.seq .leaf (.cond (.seq .leaf .leaf) .leaf)) (.seq .leaf .leaf)))
theorem slices_Clone_eq (s : Sl) (h : Heap) (K : Value → Heap → Prop) : slices_Clone s h K = fnW Try.prog ty slices_Clone_a (bodyOf Try.f71) [.tmp 2] [s.v] h K := by kernel_rfl
theorem slices_Clone_of {s : Sl} {h : Heap} {K : Value → Heap → Prop} (hw : slices_Clone s h K) : ACalls Try.prog F_slices_Clone [s.v] h K :=
  calls_sound ty_ok mixed slices_Clone_a (c := bodyOf Try.f71) Try.func71 (by kernel_rfl) (by kernel_rfl) (by kernel_rfl) (Nat.le_of_ble_eq_true rfl) (by rw [slices_Clone_eq] at hw; exact hw)

/-- lateen/vstate.copied -/
def vstate_copied (s : Sl) (h : Heap) (K : Value → Heap → Prop) : Prop :=
  loopW (fun _ (q_out : Sl × Int) h_1 next =>
    ifB (decide (q_out.2 < (s.len : Int)))
     (idx 6 s q_out.2 fun p =>
    ld (.agg 6) h_1 p fun (x : Array Value) =>
    new 39 #[.int .i64 0, .string ⟨#[]⟩, .slice none 0 0, .int .i64 0, .string ⟨#[]⟩, .int .i64 0] h_1 fun p_1 h_2 =>
    x.size = 6 ∧ st x.toList h_2 p_1 fun h_3 =>
    ld (.agg 6) h_3 p_1 fun (x_1 : Array Value) =>
    ACalls Try.prog F_vstate_Obj_copied [.agg x_1] h_3 fun v h_4 => as1 (.agg 6) v fun r =>
    bld si_Lvstate_Obj 1 [(0, .agg r)] h_4 fun s_1 h_5 =>
    app si_Lvstate_Obj q_out.1 s_1 h_5 fun s_2 h_6 =>
    ar .i64 (q_out.2 + 1) fun n =>
    next (s_2, n) h_6)
     (K q_out.1.v h_1)) ((⟨none, 0, 0⟩ : Sl), 0) h
def vstate_copied_a : Ann := (.seq .leaf (.seq .leaf (.seq (.seq .leaf (.block (.loop [(3, .sl), (8, .int .i64)] [6, 7] (.seq .leaf (.seq (.cond .leaf .leaf) (.seq (.block (.seq .leaf .leaf)) .leaf)))))) (.seq .leaf .leaf))))
theorem vstate_copied_eq (s : Sl) (h : Heap) (K : Value → Heap → Prop) : vstate_copied s h K = fnW Try.prog ty vstate_copied_a (bodyOf Try.f72) [.tmp 2] [s.v] h K := by kernel_rfl
theorem vstate_copied_of {s : Sl} {h : Heap} {K : Value → Heap → Prop} (hw : vstate_copied s h K) : ACalls Try.prog F_vstate_copied [s.v] h K :=
  calls_sound ty_ok mixed vstate_copied_a (c := bodyOf Try.f72) Try.func72 (by kernel_rfl) (by kernel_rfl) (by kernel_rfl) (Nat.le_of_ble_eq_true rfl) (by rw [vstate_copied_eq] at hw; exact hw)

/-- lateen/vstate.place -/
def vstate_place (s : Sl) (id : Int) (h : Heap) (K : Value → Heap → Prop) : Prop :=
  new 27 #[s.v] h fun p h_1 =>
  new 2 #[.int .i64 id] h_1 fun p_1 h_2 =>
  ld .sl h_2 p fun (x : Sl) =>
  ACalls Try.prog F_sort_Search [.int .i64 (x.len : Int), .func (.func F_vstate_place_1) #[] #[.pointer (some p), .pointer (some p_1)]] h_2 fun v h_3 => as1 (.int .i64) v fun r =>
  joinW (fun _ (q_t : Int × Bool) h_4 =>
    K (.tuple #[.int .i64 q_t.1, .bool q_t.2]) h_4) fun k =>
  ld .sl h_3 p fun (x_1 : Sl) =>
  ifB (decide (r < (x_1.len : Int)))
   (ld .sl h_3 p fun (x_2 : Sl) =>
   idx 6 x_2 r fun p_2 =>
     ld (.int .i64) h_3 (p_2.add 0) fun (x_3 : Int) =>
       ld (.int .i64) h_3 p_1 fun (x_4 : Int) =>
        k (r, x_3 == x_4) h_3)
   (k (r, false) h_3)
def vstate_place_a : Ann := (.seq .leaf (.seq .leaf (.join [(4, .int .i64), (5, .bool)] [] .leaf .leaf)))
theorem vstate_place_eq (s : Sl) (id : Int) (h : Heap) (K : Value → Heap → Prop) : vstate_place s id h K = fnW Try.prog ty vstate_place_a (bodyOf Try.f73) [.tmp 4, .tmp 5] [s.v, .int .i64 id] h K := by kernel_rfl
theorem vstate_place_of {s : Sl} {id : Int} {h : Heap} {K : Value → Heap → Prop} (hw : vstate_place s id h K) : ACalls Try.prog F_vstate_place [s.v, .int .i64 id] h K :=
  calls_sound ty_ok mixed vstate_place_a (c := bodyOf Try.f73) Try.func73 (by kernel_rfl) (by kernel_rfl) (by kernel_rfl) (Nat.le_of_ble_eq_true rfl) (by rw [vstate_place_eq] at hw; exact hw)

/-- slices.Insert[[]lateen/vstate.Obj,lateen/vstate.Obj] -/
def slices_Insert (s : Sl) (i : Int) (v : Sl) (h : Heap) (K : Value → Heap → Prop) : Prop :=
  slc 6 s (some i) none fun _ =>
  ifB ((v.len : Int) == 0)
   (K s.v h)
   (ifB (i == (s.len : Int))
   (app si_Lvstate_Obj s v h fun s_2 h_1 =>
   K s_2.v h_1)
   (ar .i64 ((s.len : Int) + (v.len : Int)) fun n =>
  ifB (decide (n > (s.cap : Int)))
   (slc 6 s none (some i) fun s_3 =>
   ar .i64 ((s.len : Int) + (v.len : Int)) fun n_1 =>
   ar .i64 (n_1 - i) fun n_2 =>
   apz si_Lvstate_Obj s_3 n_2 h fun s_4 h_2 =>
   slc 6 s_4 (some i) none fun s_5 =>
   cpy 6 s_5 v h_2 fun _ h_3 =>
   ar .i64 (i + (v.len : Int)) fun n_4 =>
   slc 6 s_4 (some n_4) none fun s_6 =>
   slc 6 s (some i) none fun s_7 =>
   cpy 6 s_6 s_7 h_3 fun _ h_4 =>
   K s_4.v h_4)
   (ar .i64 ((s.len : Int) + (v.len : Int)) fun n_6 =>
  slc 6 s none (some n_6) fun s_8 =>
  ar .i64 (i + (v.len : Int)) fun n_7 =>
  slc 6 s_8 (some n_7) none fun s_9 =>
  callX Try.prog F_slices_overlaps [v.v, s_9.v] h fun v_1 => as1 .bool v_1 fun r =>
  ifB (!r)
   (ar .i64 (i + (v.len : Int)) fun n_8 =>
   slc 6 s_8 (some n_8) none fun s_10 =>
   slc 6 s_8 (some i) none fun s_11 =>
   cpy 6 s_10 s_11 h fun _ h_5 =>
   slc 6 s_8 (some i) none fun s_12 =>
   cpy 6 s_12 v h_5 fun _ h_6 =>
   K s_8.v h_6)
   (slc 6 s_8 (some (s.len : Int)) none fun s_13 =>
  cpy 6 s_13 v h fun _ h_7 =>
  slc 6 s_8 (some i) none fun s_14 =>
  ACalls Try.prog F_slices_rotateRight [s_14.v, .int .i64 (v.len : Int)] h_7 fun v_2 h_8 => as0 v_2 (
  K s_8.v h_8)))))
def slices_Insert_a : Ann := (.seq .leaf (.seq .leaf (.seq .leaf (.seq (.seq .leaf (.cond (.seq .leaf .leaf) .leaf)) (.seq .leaf (.seq (.seq .leaf (.cond (.seq .leaf .leaf) .leaf)) (.seq (.seq .leaf (.cond (.seq .leaf (.seq .leaf (.seq .leaf (.seq .leaf .leaf)))) .leaf)) (.seq .leaf (.seq (.seq .leaf (.cond (.seq .leaf (.seq .leaf (.seq .leaf .leaf))) .leaf)) (.seq .leaf (.seq .leaf (.seq .leaf .leaf))))))))))))
theorem slices_Insert_eq (s : Sl) (i : Int) (v : Sl) (h : Heap) (K : Value → Heap → Prop) : slices_Insert s i v h K = fnW Try.prog ty slices_Insert_a (bodyOf Try.f74) [.tmp 6] [s.v, .int .i64 i, v.v] h K := by kernel_rfl
theorem slices_Insert_of {s : Sl} {i : Int} {v : Sl} {h : Heap} {K : Value → Heap → Prop} (hw : slices_Insert s i v h K) : ACalls Try.prog F_slices_Insert [s.v, .int .i64 i, v.v] h K :=
  calls_sound ty_ok mixed slices_Insert_a (c := bodyOf Try.f74) Try.func74 (by kernel_rfl) (by kernel_rfl) (by kernel_rfl) (Nat.le_of_ble_eq_true rfl) (by rw [slices_Insert_eq] at hw; exact hw)

/-- slices.EqualFunc[[]lateen/vstate.Obj,[]lateen/vstate.Obj,lateen/vstate.Obj,lateen/vstate.Obj] -/
def slices_EqualFunc (s1 : Sl) (s2 : Sl) (eq : Value) (h : Heap) (K : Value → Heap → Prop) : Prop :=
  ifB ((s1.len : Int) != (s2.len : Int))
   (K (.bool false) h)
   (loopW (fun _ (t : Int) h_1 next =>
    ifB (decide (t < (s1.len : Int)))
     (idx 6 s1 t fun p =>
    ld (.agg 6) h_1 p fun (x : Array Value) =>
    new 39 #[.int .i64 0, .string ⟨#[]⟩, .slice none 0 0, .int .i64 0, .string ⟨#[]⟩, .int .i64 0] h_1 fun p_1 h_2 =>
    x.size = 6 ∧ st x.toList h_2 p_1 fun h_3 =>
    idx 6 s2 t fun p_2 =>
    ld (.agg 6) h_3 p_2 fun (x_1 : Array Value) =>
    new 39 #[.int .i64 0, .string ⟨#[]⟩, .slice none 0 0, .int .i64 0, .string ⟨#[]⟩, .int .i64 0] h_3 fun p_3 h_4 =>
    x_1.size = 6 ∧ st x_1.toList h_4 p_3 fun h_5 =>
    ld (.agg 6) h_5 p_1 fun (x_2 : Array Value) =>
    ld (.agg 6) h_5 p_3 fun (x_3 : Array Value) =>
    callV Try.prog eq [.agg x_2, .agg x_3] h_5 fun v h_6 => as1 .bool v fun r =>
    ifB (!r)
     (K (.bool false) h_6)
     (ar .i64 (t + 1) fun n =>
    next n h_6))
     (K (.bool true) h_1)) 0 h)
def slices_EqualFunc_a : Ann := (.seq .leaf (.seq (.seq .leaf (.cond (.seq .leaf .leaf) .leaf)) (.seq (.seq .leaf (.block (.loop [(17, .int .i64)] [1, 2, 15, 16] (.seq .leaf (.seq (.cond .leaf .leaf) (.seq (.block (.seq .leaf (.seq .leaf (.seq .leaf (.cond (.seq .leaf .leaf) .leaf))))) .leaf)))))) (.seq .leaf .leaf))))
theorem slices_EqualFunc_eq (s1 : Sl) (s2 : Sl) (eq : Value) (h : Heap) (K : Value → Heap → Prop) : slices_EqualFunc s1 s2 eq h K = fnW Try.prog ty slices_EqualFunc_a (bodyOf Try.f75) [.tmp 6] [s1.v, s2.v, eq] h K := by kernel_rfl
theorem slices_EqualFunc_of {s1 : Sl} {s2 : Sl} {eq : Value} {h : Heap} {K : Value → Heap → Prop} (hw : slices_EqualFunc s1 s2 eq h K) : ACalls Try.prog F_slices_EqualFunc [s1.v, s2.v, eq] h K :=
  calls_sound ty_ok mixed slices_EqualFunc_a (c := bodyOf Try.f75) Try.func75 (by kernel_rfl) (by kernel_rfl) (by kernel_rfl) (Nat.le_of_ble_eq_true rfl) (by rw [slices_EqualFunc_eq] at hw; exact hw)

/-- lateen/vstate.same -/
def vstate_same (a : Array Value) (b : Array Value) (h : Heap) (K : Value → Heap → Prop) : Prop :=
  new 39 a h fun p h_1 =>
  new 39 b h_1 fun p_1 h_2 =>
  joinW (fun _ (t : Bool) h_3 =>
    K (.bool t) h_3) fun k =>
  ld (.int .i64) h_2 (p.add 0) fun (x : Int) =>
  ld (.int .i64) h_2 (p_1.add 0) fun (x_1 : Int) =>
  ifB (x == x_1)
   (ld .str h_2 (p.add 1) fun (x_2 : ByteArray) =>
    ld .str h_2 (p_1.add 1) fun (x_3 : ByteArray) =>
      ifB (x_2.toList == x_3.toList)
        (ld (.agg 3) h_2 (p.add 3) fun (x_4 : Array Value) =>
         ld (.agg 3) h_2 (p_1.add 3) fun (x_5 : Array Value) =>
           eqA [.int .i64, .str, .int .i64] x_4 x_5 fun b_1 =>
            ifB b_1
             (ld .sl h_2 (p.add 2) fun (x_6 : Sl) =>
              ld .sl h_2 (p_1.add 2) fun (x_7 : Sl) =>
                ACalls Try.prog F_slices_Equal [x_6.v, x_7.v] h_2 fun v h_4 => as1 .bool v fun r =>
                 k r h_4)
             (k false h_2))
        (k false h_2))
   (k false h_2)
def vstate_same_a : Ann := (.seq .leaf (.join [(4, .bool)] [] .leaf .leaf))
theorem vstate_same_eq (a : Array Value) (b : Array Value) (h : Heap) (K : Value → Heap → Prop) : vstate_same a b h K = fnW Try.prog ty vstate_same_a (bodyOf Try.f76) [.tmp 4] [.agg a, .agg b] h K := by kernel_rfl
theorem vstate_same_of {a : Array Value} {b : Array Value} {h : Heap} {K : Value → Heap → Prop} (hw : vstate_same a b h K) : ACalls Try.prog F_vstate_same [.agg a, .agg b] h K :=
  calls_sound ty_ok mixed vstate_same_a (c := bodyOf Try.f76) Try.func76 (by kernel_rfl) (by kernel_rfl) (by kernel_rfl) (Nat.le_of_ble_eq_true rfl) (by rw [vstate_same_eq] at hw; exact hw)

/-- lateen/lateenlaw24.made -/
def lateenlaw24_made (a : Array Value) (h : Heap) (K : Value → Heap → Prop) : Prop :=
  new 37 a h fun p h_1 =>
  joinW (fun _ (t : Bool) h_2 =>
    K (.bool t) h_2) fun k =>
  ld (.int .i64) h_1 (p.add 0) fun (x : Int) =>
  ifB (x == 1)
   (ld .str h_1 (p.add 1) fun (x_1 : ByteArray) =>
    ifB (decide ((x_1.size : Int) ≥ 3))
       (ld .str h_1 (p.add 1) fun (x_2 : ByteArray) =>
        slcS x_2 none (some 3) fun s =>
         k (s.toList == (⟨#[110, 101, 119]⟩ : ByteArray).toList) h_1)
       (k false h_1))
   (k false h_1)
def lateenlaw24_made_a : Ann := (.seq .leaf (.join [(2, .bool)] [] .leaf .leaf))
theorem lateenlaw24_made_eq (a : Array Value) (h : Heap) (K : Value → Heap → Prop) : lateenlaw24_made a h K = fnW Try.prog ty lateenlaw24_made_a (bodyOf Try.f77) [.tmp 2] [.agg a] h K := by kernel_rfl
theorem lateenlaw24_made_of {a : Array Value} {h : Heap} {K : Value → Heap → Prop} (hw : lateenlaw24_made a h K) : ACalls Try.prog F_lateenlaw24_made [.agg a] h K :=
  calls_sound ty_ok mixed lateenlaw24_made_a (c := bodyOf Try.f77) Try.func77 (by kernel_rfl) (by kernel_rfl) (by kernel_rfl) (Nat.le_of_ble_eq_true rfl) (by rw [lateenlaw24_made_eq] at hw; exact hw)

/-- lateen/matter.to -/
def matter_to (id : Int) (h : Heap) (K : Value → Heap → Prop) : Prop :=
  new 37 #[.int .i64 0, .string ⟨#[]⟩, .int .i64 0] h fun p h_1 =>
  bst [(0, 1), (1, 1), (2, 1)] #[.int .i64 0, .string ⟨#[]⟩, .int .i64 0] [(0, .int .i64 5), (2, .int .i64 id)] fun c =>
  c.size = 3 ∧ st c.toList h_1 p fun h_2 =>
  ld (.agg 3) h_2 p fun (x : Array Value) => K (.agg x) h_2
def matter_to_a : Ann := (.seq .leaf (.seq .leaf .leaf))
theorem matter_to_eq (id : Int) (h : Heap) (K : Value → Heap → Prop) : matter_to id h K = fnW Try.prog ty matter_to_a (bodyOf Try.f78) [.cell 2 37] [.int .i64 id] h K := by kernel_rfl
theorem matter_to_of {id : Int} {h : Heap} {K : Value → Heap → Prop} (hw : matter_to id h K) : ACalls Try.prog F_matter_to [.int .i64 id] h K :=
  calls_sound ty_ok mixed matter_to_a (c := bodyOf Try.f78) Try.func78 (by kernel_rfl) (by kernel_rfl) (by kernel_rfl) (Nat.le_of_ble_eq_true rfl) (by rw [matter_to_eq] at hw; exact hw)

/-- lateen/matter.graph -/
def matter_graph (s : Sl) (ids : Sl) (h : Heap) (K : Value → Heap → Prop) : Prop :=
  mkm h fun m h_1 =>
  loopW (fun _ (t : Int) h_2 next =>
    ifB (decide (t < (ids.len : Int)))
     (idx 1 ids t fun p =>
    ld (.int .i64) h_2 p fun (x : Int) =>
    mup (.int .i64) m (.int .i64 x) (.int .i64 t) h_2 fun h_3 =>
    ar .i64 (t + 1) fun n =>
    next n h_3)
     ((ids.len : Int) = (ids.len : Int) ∧ mk si_LLint (ids.len : Int) h_2 fun s_1 h_4 =>
  loopW (fun _ (t_1 : Int) h_5 next_1 =>
    ifB (decide (t_1 < (ids.len : Int)))
     (idx 1 ids t_1 fun p_1 =>
    ld (.int .i64) h_5 p_1 fun (x_1 : Int) =>
    ACalls Try.prog F_matter_to [.int .i64 x_1] h_5 fun v h_6 => as1 (.agg 3) v fun r =>
    ACalls Try.prog F_vstate_Find [s.v, .agg r] h_6 fun v_1 h_7 => as2 (.agg 6) .bool v_1 fun r_1 _ =>
    new 39 #[.int .i64 0, .string ⟨#[]⟩, .slice none 0 0, .int .i64 0, .string ⟨#[]⟩, .int .i64 0] h_7 fun p_2 h_8 =>
    r_1.size = 6 ∧ st r_1.toList h_8 p_2 fun h_9 =>
    ld .sl h_9 (p_2.add 2) fun (x_2 : Sl) =>
    loopW (fun _ (t_2 : Int) h_10 next_2 =>
      ifB (decide (t_2 < (x_2.len : Int)))
       (joinW (fun _ (_ : Unit) h_11 =>
        ar .i64 (t_2 + 1) fun n_1 =>
        next_2 n_1 h_11) fun k =>
      idx 3 x_2 t_2 fun p_3 =>
      ld (.agg 3) h_10 p_3 fun (x_3 : Array Value) =>
      new 37 #[.int .i64 0, .string ⟨#[]⟩, .int .i64 0] h_10 fun p_4 h_12 =>
      x_3.size = 3 ∧ st x_3.toList h_12 p_4 fun h_13 =>
      ld (.int .i64) h_13 (p_4.add 2) fun (x_4 : Int) =>
      mlk (.int .i64) m (.int .i64 x_4) h_13 fun r_3 => as1 (.int .i64) (r_3.getD (.int .i64 0)) fun y =>
      joinW (fun _ (t_3 : Bool) h_14 =>
        ifB t_3
         (idx 1 s_1 t_1 fun p_5 =>
         ld .sl h_14 p_5 fun (x_5 : Sl) =>
         bld si_Lint 1 [(0, .int .i64 y)] h_14 fun s_2 h_15 =>
         app si_Lint x_5 s_2 h_15 fun s_3 h_16 =>
         idx 1 s_1 t_1 fun p_6 =>
         st [s_3.v] h_16 p_6 fun h_17 =>
         k () h_17)
         (k () h_14)) fun k_1 =>
      ifB r_3.isSome
       (ld (.int .i64) h_13 (p_4.add 0) fun (x_6 : Int) =>
        k_1 (x_6 == 5) h_13)
       (k_1 false h_13))
       (ar .i64 (t_1 + 1) fun n_2 =>
    next_1 n_2 h_10)) 0 h_9)
     (K s_1.v h_5)) 0 h_4)) 0 h_1
def matter_graph_a : Ann := (.seq .leaf (.seq .leaf (.seq (.seq .leaf (.block (.loop [(20, .int .i64)] [0, 1, 5, 18, 19] (.seq .leaf (.seq (.cond .leaf .leaf) (.seq (.block (.seq .leaf .leaf)) .leaf)))))) (.seq .leaf (.seq (.seq .leaf (.block (.loop [(34, .int .i64)] [0, 5, 8, 32, 33] (.seq .leaf (.seq (.cond .leaf .leaf) (.seq (.block (.seq .leaf (.seq .leaf (.seq .leaf (.block (.loop [(49, .int .i64)] [0, 5, 8, 9, 32, 33, 34, 47, 48] (.seq .leaf (.seq (.cond .leaf .leaf) (.join [] [0, 5, 8, 9, 32, 33, 34, 47, 48, 49] (.block (.seq .leaf (.seq .leaf (.join [(65, .bool)] [0, 5, 8, 9, 15, 32, 33, 34, 47, 48, 49] .leaf (.cond .leaf .leaf))))) .leaf))))))))) .leaf)))))) (.seq .leaf .leaf))))))
theorem matter_graph_eq (s : Sl) (ids : Sl) (h : Heap) (K : Value → Heap → Prop) : matter_graph s ids h K = fnW Try.prog ty matter_graph_a (bodyOf Try.f79) [.tmp 4] [s.v, ids.v] h K := by kernel_rfl
theorem matter_graph_of {s : Sl} {ids : Sl} {h : Heap} {K : Value → Heap → Prop} (hw : matter_graph s ids h K) : ACalls Try.prog F_matter_graph [s.v, ids.v] h K :=
  calls_sound ty_ok mixed matter_graph_a (c := bodyOf Try.f79) Try.func79 (by kernel_rfl) (by kernel_rfl) (by kernel_rfl) (Nat.le_of_ble_eq_true rfl) (by rw [matter_graph_eq] at hw; exact hw)

/-- lateen/calls.Parts -/
def calls_Parts (g : Sl) (h : Heap) (K : Value → Heap → Prop) : Prop :=
  ACalls Try.prog F_calls_walk [g.v] h fun v h_1 => as1 .ptr v fun r =>
  nilck r fun p =>
  ld .sl h_1 (p.add 3) fun (x : Sl) =>
  K x.v h_1
def calls_Parts_a : Ann := (.seq .leaf (.seq .leaf .leaf))
theorem calls_Parts_eq (g : Sl) (h : Heap) (K : Value → Heap → Prop) : calls_Parts g h K = fnW Try.prog ty calls_Parts_a (bodyOf Try.f80) [.tmp 2] [g.v] h K := by kernel_rfl
theorem calls_Parts_of {g : Sl} {h : Heap} {K : Value → Heap → Prop} (hw : calls_Parts g h K) : ACalls Try.prog F_calls_Parts [g.v] h K :=
  calls_sound ty_ok mixed calls_Parts_a (c := bodyOf Try.f80) Try.func80 (by kernel_rfl) (by kernel_rfl) (by kernel_rfl) (Nat.le_of_ble_eq_true rfl) (by rw [calls_Parts_eq] at hw; exact hw)

/-- lateen/calls.Order -/
def calls_Order (g : Sl) (h : Heap) (K : Value → Heap → Prop) : Prop :=
  ACalls Try.prog F_calls_walk [g.v] h fun v h_1 => as1 .ptr v fun r =>
  nilck r fun p =>
  ld .sl h_1 (p.add 5) fun (x : Sl) =>
  K x.v h_1
def calls_Order_a : Ann := (.seq .leaf (.seq .leaf .leaf))
theorem calls_Order_eq (g : Sl) (h : Heap) (K : Value → Heap → Prop) : calls_Order g h K = fnW Try.prog ty calls_Order_a (bodyOf Try.f81) [.tmp 2] [g.v] h K := by kernel_rfl
theorem calls_Order_of {g : Sl} {h : Heap} {K : Value → Heap → Prop} (hw : calls_Order g h K) : ACalls Try.prog F_calls_Order [g.v] h K :=
  calls_sound ty_ok mixed calls_Order_a (c := bodyOf Try.f81) Try.func81 (by kernel_rfl) (by kernel_rfl) (by kernel_rfl) (Nat.le_of_ble_eq_true rfl) (by rw [calls_Order_eq] at hw; exact hw)

/-- lateen/lateenref16.SameNumbers -/
def lateenref16_SameNumbers (a : Sl) (b : Sl) (h : Heap) (K : Value → Heap → Prop) : Prop :=
  ifB ((a.len : Int) != (b.len : Int))
   (K (.bool false) h)
   (loopW (fun _ (i : Int) h_1 next =>
    ifB (decide (i < (a.len : Int)))
     (idx 1 a i fun p =>
    ld (.int .i64) h_1 p fun (x : Int) =>
    idx 1 b i fun p_1 =>
    ld (.int .i64) h_1 p_1 fun (x_1 : Int) =>
    ifB (x != x_1)
     (K (.bool false) h_1)
     (ar .i64 (i + 1) fun n =>
    next n h_1))
     (K (.bool true) h_1)) 0 h)
def lateenref16_SameNumbers_a : Ann := (.seq .leaf (.seq (.seq .leaf (.cond (.seq .leaf .leaf) .leaf)) (.seq (.seq .leaf (.block (.loop [(5, .int .i64)] [0, 1] (.seq (.seq .leaf (.cond .leaf .leaf)) (.seq (.block (.seq .leaf (.cond (.seq .leaf .leaf) .leaf))) .leaf))))) (.seq .leaf .leaf))))
theorem lateenref16_SameNumbers_eq (a : Sl) (b : Sl) (h : Heap) (K : Value → Heap → Prop) : lateenref16_SameNumbers a b h K = fnW Try.prog ty lateenref16_SameNumbers_a (bodyOf Try.f82) [.tmp 4] [a.v, b.v] h K := by kernel_rfl
theorem lateenref16_SameNumbers_of {a : Sl} {b : Sl} {h : Heap} {K : Value → Heap → Prop} (hw : lateenref16_SameNumbers a b h K) : ACalls Try.prog F_lateenref16_SameNumbers [a.v, b.v] h K :=
  calls_sound ty_ok mixed lateenref16_SameNumbers_a (c := bodyOf Try.f82) Try.func82 (by kernel_rfl) (by kernel_rfl) (by kernel_rfl) (Nat.le_of_ble_eq_true rfl) (by rw [lateenref16_SameNumbers_eq] at hw; exact hw)

/-- lateen/lateenref24.to -/
def lateenref24_to (id : Int) (h : Heap) (K : Value → Heap → Prop) : Prop :=
  new 37 #[.int .i64 0, .string ⟨#[]⟩, .int .i64 0] h fun p h_1 =>
  bst [(0, 1), (1, 1), (2, 1)] #[.int .i64 0, .string ⟨#[]⟩, .int .i64 0] [(0, .int .i64 5), (2, .int .i64 id)] fun c =>
  c.size = 3 ∧ st c.toList h_1 p fun h_2 =>
  ld (.agg 3) h_2 p fun (x : Array Value) => K (.agg x) h_2
def lateenref24_to_a : Ann := (.seq .leaf (.seq .leaf .leaf))
theorem lateenref24_to_eq (id : Int) (h : Heap) (K : Value → Heap → Prop) : lateenref24_to id h K = fnW Try.prog ty lateenref24_to_a (bodyOf Try.f83) [.cell 2 37] [.int .i64 id] h K := by kernel_rfl
theorem lateenref24_to_of {id : Int} {h : Heap} {K : Value → Heap → Prop} (hw : lateenref24_to id h K) : ACalls Try.prog F_lateenref24_to [.int .i64 id] h K :=
  calls_sound ty_ok mixed lateenref24_to_a (c := bodyOf Try.f83) Try.func83 (by kernel_rfl) (by kernel_rfl) (by kernel_rfl) (Nat.le_of_ble_eq_true rfl) (by rw [lateenref24_to_eq] at hw; exact hw)

/-- lateen/lateenref24.in -/
def lateenref24_in (l : Sl) (n : Int) (h : Heap) (K : Value → Heap → Prop) : Prop :=
  loopW (fun _ (i : Int) h_1 next =>
    ifB (decide (i < (l.len : Int)))
     (idx 1 l i fun p =>
    ld (.int .i64) h_1 p fun (x : Int) =>
    ifB (x == n)
     (K (.int .i64 i) h_1)
     (ar .i64 (i + 1) fun n_1 =>
    next n_1 h_1))
     (K (.int .i64 (-1)) h_1)) 0 h
def lateenref24_in_a : Ann := (.seq .leaf (.seq (.seq .leaf (.block (.loop [(5, .int .i64)] [0, 1] (.seq (.seq .leaf (.cond .leaf .leaf)) (.seq (.block (.seq .leaf (.cond (.seq .leaf .leaf) .leaf))) .leaf))))) (.seq .leaf .leaf)))
theorem lateenref24_in_eq (l : Sl) (n : Int) (h : Heap) (K : Value → Heap → Prop) : lateenref24_in l n h K = fnW Try.prog ty lateenref24_in_a (bodyOf Try.f84) [.tmp 4] [l.v, .int .i64 n] h K := by kernel_rfl
theorem lateenref24_in_of {l : Sl} {n : Int} {h : Heap} {K : Value → Heap → Prop} (hw : lateenref24_in l n h K) : ACalls Try.prog F_lateenref24_in [l.v, .int .i64 n] h K :=
  calls_sound ty_ok mixed lateenref24_in_a (c := bodyOf Try.f84) Try.func84 (by kernel_rfl) (by kernel_rfl) (by kernel_rfl) (Nat.le_of_ble_eq_true rfl) (by rw [lateenref24_in_eq] at hw; exact hw)

/-- lateen/lateenref24.down -/
def lateenref24_down (s : Sl) (all : Sl) (id : Int) (marked : Sl) (made : Sl) (h : Heap) (K : Value → Heap → Prop) : Prop :=
  ACalls Try.prog F_lateenref24_to [.int .i64 id] h fun v h_1 => as1 (.agg 3) v fun r =>
  ACalls Try.prog F_lateenref22_Find [s.v, .agg r] h_1 fun v_1 h_2 => as2 (.agg 6) .bool v_1 fun r_1 _ =>
  new 40 #[.int .i64 0, .string ⟨#[]⟩, .slice none 0 0, .int .i64 0, .string ⟨#[]⟩, .int .i64 0] h_2 fun p h_3 =>
  r_1.size = 6 ∧ st r_1.toList h_3 p fun h_4 =>
  bld si_Lint64 0 [] h_4 fun s_1 h_5 =>
  app si_Lint64 s_1 marked h_5 fun s_2 h_6 =>
  bld si_Lint64 1 [(0, .int .i64 id)] h_6 fun s_3 h_7 =>
  app si_Lint64 s_2 s_3 h_7 fun s_4 h_8 =>
  loopW (fun _ (q_marked_1 : Sl × Sl × Int) h_9 next =>
    ld .sl h_9 (p.add 2) fun (x : Sl) =>
    ifB (decide (q_marked_1.2.2 < (x.len : Int)))
     (joinW (fun _ (q_marked_2 : Sl × Sl) h_10 =>
      ar .i64 (q_marked_1.2.2 + 1) fun n =>
      next (q_marked_2.1, q_marked_2.2, n) h_10) fun k_1 =>
    ld .sl h_9 (p.add 2) fun (x_1 : Sl) =>
    idx 3 x_1 q_marked_1.2.2 fun p_1 =>
    ld (.agg 3) h_9 p_1 fun (x_2 : Array Value) =>
    new 37 #[.int .i64 0, .string ⟨#[]⟩, .int .i64 0] h_9 fun p_2 h_11 =>
    x_2.size = 3 ∧ st x_2.toList h_11 p_2 fun h_12 =>
    joinW (fun _ (t : Bool) h_13 =>
      ifB t
       (ld (.int .i64) h_13 (p_2.add 2) fun (x_3 : Int) =>
       ACalls Try.prog F_lateenref24_down [s.v, all.v, .int .i64 x_3, q_marked_1.1.v, q_marked_1.2.1.v] h_13 fun v_2 h_14 => as2 .sl .sl v_2 fun r_3 r_4 =>
       k_1 (r_3, r_4) h_14)
       (k_1 (q_marked_1.1, q_marked_1.2.1) h_13)) fun k_2 =>
    ld (.int .i64) h_12 (p_2.add 0) fun (x_4 : Int) =>
    ifB (x_4 == 5)
     (ld (.int .i64) h_12 (p_2.add 2) fun (x_5 : Int) =>
       ACalls Try.prog F_lateenref24_in [all.v, .int .i64 x_5] h_12 fun v_3 h_15 => as1 (.int .i64) v_3 fun r_5 =>
        ifB (decide (r_5 ≥ 0))
          (ld (.int .i64) h_15 (p_2.add 2) fun (x_6 : Int) =>
            ACalls Try.prog F_lateenref24_in [q_marked_1.1.v, .int .i64 x_6] h_15 fun v_4 h_16 => as1 (.int .i64) v_4 fun r_6 =>
             k_2 (decide (r_6 < 0)) h_16)
          (k_2 false h_15))
     (k_2 false h_12))
     (bld si_Lint64 0 [] h_9 fun s_5 h_17 =>
  app si_Lint64 s_5 q_marked_1.2.1 h_17 fun s_6 h_18 =>
  bld si_Lint64 1 [(0, .int .i64 id)] h_18 fun s_7 h_19 =>
  app si_Lint64 s_6 s_7 h_19 fun s_8 h_20 =>
  K (.tuple #[q_marked_1.1.v, s_8.v]) h_20)) (s_4, made, 0) h_8
def lateenref24_down_a : Ann := (.seq .leaf (.seq .leaf (.seq .leaf (.seq (.seq .leaf (.block (.loop [(3, .sl), (4, .sl), (14, .int .i64)] [0, 1, 2, 12] (.seq (.seq .leaf (.cond .leaf .leaf)) (.join [(3, .sl), (4, .sl)] [0, 1, 2, 12, 14] (.block (.seq .leaf (.join [(57, .bool)] [0, 1, 2, 3, 4, 12, 14, 15] .leaf (.cond .leaf .leaf)))) .leaf))))) (.seq .leaf .leaf)))))
theorem lateenref24_down_eq (s : Sl) (all : Sl) (id : Int) (marked : Sl) (made : Sl) (h : Heap) (K : Value → Heap → Prop) : lateenref24_down s all id marked made h K = fnW Try.prog ty lateenref24_down_a (bodyOf Try.f85) [.tmp 10, .tmp 11] [s.v, all.v, .int .i64 id, marked.v, made.v] h K := by kernel_rfl
theorem lateenref24_down_of {s : Sl} {all : Sl} {id : Int} {marked : Sl} {made : Sl} {h : Heap} {K : Value → Heap → Prop} (hw : lateenref24_down s all id marked made h K) : ACalls Try.prog F_lateenref24_down [s.v, all.v, .int .i64 id, marked.v, made.v] h K :=
  calls_sound ty_ok mixed lateenref24_down_a (c := bodyOf Try.f85) Try.func85 (by kernel_rfl) (by kernel_rfl) (by kernel_rfl) (Nat.le_of_ble_eq_true rfl) (by rw [lateenref24_down_eq] at hw; exact hw)

/-- lateen/lateenref24.round -/
def lateenref24_round (s : Sl) (a : Int) (b : Int) (h : Heap) (K : Value → Heap → Prop) : Prop :=
  joinW (fun _ (t : Bool) h_1 =>
    K (.bool t) h_1) fun k =>
  ACalls Try.prog F_lateenref24_to [.int .i64 a] h fun v h_2 => as1 (.agg 3) v fun r =>
  bld si_Lapi_Arg 1 [(0, .agg r)] h_2 fun s_1 h_3 =>
  ACalls Try.prog F_lateenref22_Reach [s.v, s_1.v] h_3 fun v_1 h_4 => as1 .sl v_1 fun r_1 =>
  ACalls Try.prog F_lateenref24_in [r_1.v, .int .i64 b] h_4 fun v_2 h_5 => as1 (.int .i64) v_2 fun r_2 =>
  ifB (decide (r_2 ≥ 0))
   (ACalls Try.prog F_lateenref24_to [.int .i64 b] h_5 fun v_3 h_6 => as1 (.agg 3) v_3 fun r_3 =>
     bld si_Lapi_Arg 1 [(0, .agg r_3)] h_6 fun s_2 h_7 =>
      ACalls Try.prog F_lateenref22_Reach [s.v, s_2.v] h_7 fun v_4 h_8 => as1 .sl v_4 fun r_4 =>
       ACalls Try.prog F_lateenref24_in [r_4.v, .int .i64 a] h_8 fun v_5 h_9 => as1 (.int .i64) v_5 fun r_5 =>
         k (decide (r_5 ≥ 0)) h_9)
   (k false h_5)
def lateenref24_round_a : Ann := (.seq .leaf (.join [(6, .bool)] [] .leaf .leaf))
theorem lateenref24_round_eq (s : Sl) (a : Int) (b : Int) (h : Heap) (K : Value → Heap → Prop) : lateenref24_round s a b h K = fnW Try.prog ty lateenref24_round_a (bodyOf Try.f86) [.tmp 6] [s.v, .int .i64 a, .int .i64 b] h K := by kernel_rfl
theorem lateenref24_round_of {s : Sl} {a : Int} {b : Int} {h : Heap} {K : Value → Heap → Prop} (hw : lateenref24_round s a b h K) : ACalls Try.prog F_lateenref24_round [s.v, .int .i64 a, .int .i64 b] h K :=
  calls_sound ty_ok mixed lateenref24_round_a (c := bodyOf Try.f86) Try.func86 (by kernel_rfl) (by kernel_rfl) (by kernel_rfl) (Nat.le_of_ble_eq_true rfl) (by rw [lateenref24_round_eq] at hw; exact hw)

/-- (*lateen/matter.coder).make -/
def matter_coder_make (c : Option Addr) (id : Int) (h : Heap) (K : Value → Heap → Prop) : Prop :=
  ∃ (R : Heap → Prop) (h_1 : Heap) (L : List As) (S : Specs), R h ∧ Sep h_1 h L ∧ (nilck c fun p =>
  ldF .sl R (p.add 5) fun (x : Sl) =>
  freeW R h_1 (S 5 [.int .i64 id]) [] (fun h_2 Kv =>
      ACalls Try.prog F_matter_to [.int .i64 id] h_2 fun v h_3 => as1 (.agg 3) v fun r =>
      Kv (.agg r) h_3) fun v_1 => as1 (.agg 3) v_1 fun r_1 =>
  freeW R h_1 (S 6 [x.v, .agg r_1]) ((S 5 [.int .i64 id]).A v_1 ++ []) (fun h_4 Kv_1 =>
      ACalls Try.prog F_vstate_Find [x.v, .agg r_1] h_4 fun v_2 h_5 => as2 (.agg 6) .bool v_2 fun r_2 r_3 =>
      Kv_1 (.tuple #[.agg r_2, .bool r_3]) h_5) fun v_3 => as2 (.agg 6) .bool v_3 fun r_4 _ =>
  freeW R h_1 (S 10 []) [] (fun h_6 Kv_2 =>
      new 39 #[.int .i64 0, .string ⟨#[]⟩, .slice none 0 0, .int .i64 0, .string ⟨#[]⟩, .int .i64 0] h_6 fun p_1 h_7 =>
      Kv_2 (.pointer (some p_1)) h_7) fun v_4 => asP v_4 fun p_2 =>
  freeW R h_1 (S 11 [.pointer (some p_2), .agg r_4]) ((S 10 []).A v_4 ++ (L ++ [])) (fun h_8 Kv_3 =>
      r_4.size = 6 ∧ st r_4.toList h_8 p_2 fun h_9 =>
      Kv_3 undef h_9) fun v_5 =>
  endF R h_1 ((S 6 [x.v, .agg r_1]).A v_3 ++ ((S 11 [.pointer (some p_2), .agg r_4]).A v_5 ++ [])) fun h_10 =>
  ∃ (R_1 : Heap → Prop) (h_11 : Heap) (L_1 : List As) (S_1 : Specs), R_1 h_10 ∧ Sep h_11 h_10 L_1 ∧ (nilck c fun p_3 =>
  ldF (.agg 5) R_1 (p_3.add 0) fun (x_1 : Array Value) =>
  ldF .str R_1 (p_2.add 1) fun (x_2 : ByteArray) =>
  freeW R_1 h_11 (S_1 6 [.agg x_1, .string x_2]) [] (fun h_12 Kv_4 =>
      ACalls Try.prog F_types_Class [.agg x_1, .string x_2] h_12 fun v_6 h_13 => as2 (.agg 2) .bool v_6 fun r_6 r_7 =>
      Kv_4 (.tuple #[.agg r_6, .bool r_7]) h_13) fun v_7 => as2 (.agg 2) .bool v_7 fun r_8 _ =>
  freeW R_1 h_11 (S_1 10 []) [] (fun h_14 Kv_5 =>
      new 151 #[.string ⟨#[]⟩, .slice none 0 0] h_14 fun p_4 h_15 =>
      Kv_5 (.pointer (some p_4)) h_15) fun v_8 => asP v_8 fun p_5 =>
  freeW R_1 h_11 (S_1 11 [.pointer (some p_5), .agg r_8]) ((S_1 10 []).A v_8 ++ (L_1 ++ [])) (fun h_16 Kv_6 =>
      r_8.size = 2 ∧ st r_8.toList h_16 p_5 fun h_17 =>
      Kv_6 undef h_17) fun v_9 =>
  endF R_1 h_11 ((S_1 6 [.agg x_1, .string x_2]).A v_7 ++ ((S_1 11 [.pointer (some p_5), .agg r_8]).A v_9 ++ [])) fun h_18 =>
  ∃ (R_2 : Heap → Prop) (h_19 : Heap) (L_2 : List As) (S_2 : Specs), R_2 h_18 ∧ Sep h_19 h_18 L_2 ∧ (nilck c fun p_6 =>
  ldF .map R_2 (p_6.add 6) fun (x_3 : Option Nat) =>
  freeW R_2 h_19 (S_2 5 [.map x_3, .int .i64 id]) [] (fun h_20 Kv_7 =>
      mlk (.int .i64) x_3 (.int .i64 id) h_20 fun r_10 => as1 .str (r_10.getD (.string ⟨#[]⟩)) fun y =>
      Kv_7 (.string y) h_20) fun v_10 => as1 .str v_10 fun r_11 =>
  ldF .str R_2 (p_2.add 1) fun (x_4 : ByteArray) =>
  bst [(0, 1), (1, 1), (2, 1), (3, 1), (4, 1), (5, 1)] #[.int .i64 0, .string ⟨#[]⟩, .string ⟨#[]⟩, .slice none 0 0, .slice none 0 0, .slice none 0 0] [(0, .int .i64 25), (1, .string r_11), (2, .string x_4)] fun c_1 =>
  freeW R_2 h_19 (S_2 9 []) [] (fun h_21 Kv_8 =>
      new 101 #[.int .i64 0, .string ⟨#[]⟩, .string ⟨#[]⟩, .slice none 0 0, .slice none 0 0, .slice none 0 0] h_21 fun p_7 h_22 =>
      Kv_8 (.pointer (some p_7)) h_22) fun v_11 => asP v_11 fun p_8 =>
  endF R_2 h_19 ((S_2 5 [.map x_3, .int .i64 id]).A v_10 ++ ((S_2 9 []).A v_11 ++ (L_2 ++ []))) fun h_23 =>
  c_1.size = 6 ∧ st c_1.toList h_23 p_8 fun h_24 =>
  ld .sl h_24 (p_2.add 2) fun (x_5 : Sl) =>
  loopW (fun _ (t : Int) h_25 next =>
    ifB (decide (t < (x_5.len : Int)))
     (idx 3 x_5 t fun p_9 =>
    ld (.agg 3) h_25 p_9 fun (x_6 : Array Value) =>
    new 37 #[.int .i64 0, .string ⟨#[]⟩, .int .i64 0] h_25 fun p_10 h_26 =>
    x_6.size = 3 ∧ st x_6.toList h_26 p_10 fun h_27 =>
    nilck c fun p_11 =>
    ld .sl h_27 (p_11.add 5) fun (x_7 : Sl) =>
    ld (.agg 3) h_27 p_10 fun (x_8 : Array Value) =>
    ACalls Try.prog F_vstate_Really [x_7.v, .agg x_8] h_27 fun v_12 h_28 => as1 (.agg 3) v_12 fun r_12 =>
    r_12.size = 3 ∧ st r_12.toList h_28 p_10 fun h_29 =>
    nilck c fun p_12 =>
    ld .map h_29 (p_12.add 6) fun (x_9 : Option Nat) =>
    ld (.int .i64) h_29 (p_10.add 2) fun (x_10 : Int) =>
    mlk (.int .i64) x_9 (.int .i64 x_10) h_29 fun r_13 => as1 .str (r_13.getD (.string ⟨#[]⟩)) fun y_1 =>
    joinW (fun _ (_ : Unit) h_30 =>
      ld .sl h_30 (p_8.add 3) fun (x_11 : Sl) =>
      ld (.agg 3) h_30 p_10 fun (x_12 : Array Value) =>
      bld si_Lapi_Arg 1 [(0, .agg x_12)] h_30 fun s h_31 =>
      app si_Lapi_Arg x_11 s h_31 fun s_1 h_32 =>
      st [s_1.v] h_32 (p_8.add 3) fun h_33 =>
      ar .i64 (t + 1) fun n =>
    next n h_33) fun k =>
    joinW (fun _ (t_1 : Bool) h_34 =>
      ifB t_1
       (k () h_34)
       (nilck c fun p_13 =>
       ld .map h_34 (p_13.add 7) fun (x_13 : Option Nat) =>
       ld (.int .i64) h_34 (p_10.add 2) fun (x_14 : Int) =>
       mlk (.int .i64) x_13 (.int .i64 x_14) h_34 fun r_14 => as1 .bool (r_14.getD (.bool false)) fun y_2 =>
       ifB y_2
        (ACalls Try.prog F_matter_variable [.string y_1] h_34 fun v_13 h_35 => as1 (.agg 3) v_13 fun r_15 =>
        r_15.size = 3 ∧ st r_15.toList h_35 p_10 fun h_36 =>
        k () h_36)
        (nilck c fun p_14 =>
        ld .sl h_34 (p_14.add 9) fun (x_15 : Sl) =>
        ld (.int .i64) h_34 (p_10.add 2) fun (x_16 : Int) =>
        ld .sl h_34 (p_5.add 1) fun (x_17 : Sl) =>
        idx 2 x_17 t fun p_15 =>
        ld .str h_34 (p_15.add 0) fun (x_18 : ByteArray) =>
        bst [(0, 1), (1, 1), (2, 1)] #[.int .i64 0, .int .i64 0, .string ⟨#[]⟩] [(0, .int .i64 id), (1, .int .i64 x_16), (2, .string x_18)] fun c_2 =>
        bld si_Lmatter_late 1 [(0, .agg c_2)] h_34 fun s_2 h_37 =>
        app si_Lmatter_late x_15 s_2 h_37 fun s_3 h_38 =>
        nilck c fun p_16 =>
        st [s_3.v] h_38 (p_16.add 9) fun h_39 =>
        bst [(0, 1), (1, 1), (2, 1)] #[.int .i64 0, .string ⟨#[]⟩, .int .i64 0] [(0, .int .i64 4)] fun c_3 =>
        c_3.size = 3 ∧ st c_3.toList h_39 p_10 fun h_40 =>
        k () h_40))) fun k_1 =>
    ld (.int .i64) h_29 (p_10.add 0) fun (x_19 : Int) =>
    ifB (x_19 != 5)
     (k_1 true h_29)
     (k_1 (!r_13.isSome) h_29))
     (nilck c fun p_17 =>
  ld .sl h_25 (p_17.add 8) fun (x_20 : Sl) =>
  ld (.agg 6) h_25 p_8 fun (x_21 : Array Value) =>
  bld si_Lapi_Instr 1 [(0, .agg x_21)] h_25 fun s_4 h_41 =>
  app si_Lapi_Instr x_20 s_4 h_41 fun s_5 h_42 =>
  nilck c fun p_18 =>
  st [s_5.v] h_42 (p_18.add 8) fun h_43 =>
  nilck c fun p_19 =>
  ld .map h_43 (p_19.add 7) fun (x_22 : Option Nat) =>
  mup (.int .i64) x_22 (.int .i64 id) (.bool true) h_43 fun h_44 =>
  K (.tuple #[]) h_44)) 0 h_24)))
def matter_coder_make_a : Ann := (.seq (.free 12 [[], [], [], [], [], [], [5], [], [], [], [], [10, 13], []] [5, 6, 10, 11, 13]) (.seq (.free 12 [[], [], [], [], [], [], [], [], [], [], [], [10, 13], []] [6, 10, 11, 13]) (.seq (.free 10 [[], [], [], [], [], [], [], [], [], [], []] [5, 9, 11]) (.seq (.seq .leaf (.block (.loop [(45, .int .i64)] [0, 1, 6, 8, 43, 44] (.seq .leaf (.seq (.cond .leaf .leaf) (.seq (.block (.seq .leaf (.seq .leaf (.seq .leaf (.join [] [0, 1, 6, 8, 10, 43, 44, 45] (.block (.join [(86, .bool)] [0, 1, 6, 8, 9, 10, 11, 43, 44, 45] .leaf (.cond .leaf (.seq .leaf (.cond .leaf (.seq .leaf .leaf)))))) .leaf))))) .leaf)))))) (.seq .leaf .leaf)))))
theorem matter_coder_make_eq (c : Option Addr) (id : Int) (h : Heap) (K : Value → Heap → Prop) : matter_coder_make c id h K = fnW Try.prog ty matter_coder_make_a (bodyOf Try.f87) [] [.pointer c, .int .i64 id] h K := by kernel_rfl
theorem matter_coder_make_of {c : Option Addr} {id : Int} {h : Heap} {K : Value → Heap → Prop} (hw : matter_coder_make c id h K) : ACalls Try.prog F_matter_coder_make [.pointer c, .int .i64 id] h K :=
  calls_sound ty_ok mixed matter_coder_make_a (c := bodyOf Try.f87) Try.func87 (by kernel_rfl) (by kernel_rfl) (by kernel_rfl) (Nat.le_of_ble_eq_true rfl) (by rw [matter_coder_make_eq] at hw; exact hw)

/-- lateen/matter.variable -/
def matter_variable (name : ByteArray) (h : Heap) (K : Value → Heap → Prop) : Prop :=
  new 37 #[.int .i64 0, .string ⟨#[]⟩, .int .i64 0] h fun p h_1 =>
  bst [(0, 1), (1, 1), (2, 1)] #[.int .i64 0, .string ⟨#[]⟩, .int .i64 0] [(0, .int .i64 1), (1, .string name)] fun c =>
  c.size = 3 ∧ st c.toList h_1 p fun h_2 =>
  ld (.agg 3) h_2 p fun (x : Array Value) => K (.agg x) h_2
def matter_variable_a : Ann := (.seq .leaf (.seq .leaf .leaf))
theorem matter_variable_eq (name : ByteArray) (h : Heap) (K : Value → Heap → Prop) : matter_variable name h K = fnW Try.prog ty matter_variable_a (bodyOf Try.f88) [.cell 2 37] [.string name] h K := by kernel_rfl
theorem matter_variable_of {name : ByteArray} {h : Heap} {K : Value → Heap → Prop} (hw : matter_variable name h K) : ACalls Try.prog F_matter_variable [.string name] h K :=
  calls_sound ty_ok mixed matter_variable_a (c := bodyOf Try.f88) Try.func88 (by kernel_rfl) (by kernel_rfl) (by kernel_rfl) (Nat.le_of_ble_eq_true rfl) (by rw [matter_variable_eq] at hw; exact hw)

/-- lateen/lateenref01.Put -/
def lateenref01_Put (n : Int) (h : Heap) (K : Value → Heap → Prop) : Prop :=
  ACalls Try.prog F_lateenref01_size [.int .i64 n] h fun v h_1 => as1 (.int .u64) v fun r =>
  loopW (fun _ (q_b : Sl × Int) h_2 next =>
    (10 : Int) ≠ 0 ∧ (ar .u64 (48 + (Int.tmod q_b.2 10)) fun n_1 =>
    bld si_Luint8 1 [(0, .int .u8 (IntKind.u8.wrap n_1))] h_2 fun s h_3 =>
    app si_Luint8 s q_b.1 h_3 fun s_1 h_4 =>
    (10 : Int) ≠ 0 ∧ (ifB ((IntKind.u64.wrap (Int.tdiv q_b.2 10)) == 0)
     (ifB (decide (n < 0))
   (toS h_4 s_1 fun s_2 =>
   (((⟨#[45]⟩ : ByteArray).size + s_2.size : Nat) : Int) ≤ IntKind.i64.max ∧ (K (.string ((⟨#[45]⟩ : ByteArray) ++ s_2)) h_4))
   (toS h_4 s_1 fun s_3 =>
  K (.string s_3) h_4))
     (next (s_1, IntKind.u64.wrap (Int.tdiv q_b.2 10)) h_4)))) ((⟨none, 0, 0⟩ : Sl), r) h_1
def lateenref01_Put_a : Ann := (.seq .leaf (.seq .leaf (.seq .leaf (.seq (.block (.loop [(3, .sl), (4, .int .u64)] [0] (.block (.seq .leaf (.seq .leaf (.seq .leaf (.cond .leaf .leaf))))))) (.seq (.seq .leaf (.cond (.seq .leaf .leaf) .leaf)) (.seq .leaf .leaf))))))
theorem lateenref01_Put_eq (n : Int) (h : Heap) (K : Value → Heap → Prop) : lateenref01_Put n h K = fnW Try.prog ty lateenref01_Put_a (bodyOf Try.f89) [.tmp 2] [.int .i64 n] h K := by kernel_rfl
theorem lateenref01_Put_of {n : Int} {h : Heap} {K : Value → Heap → Prop} (hw : lateenref01_Put n h K) : ACalls Try.prog F_lateenref01_Put [.int .i64 n] h K :=
  calls_sound ty_ok mixed lateenref01_Put_a (c := bodyOf Try.f89) Try.func89 (by kernel_rfl) (by kernel_rfl) (by kernel_rfl) (Nat.le_of_ble_eq_true rfl) (by rw [lateenref01_Put_eq] at hw; exact hw)

/-- lateen/lateenref07.Class -/
def lateenref07_Class (p : Array Value) (name : ByteArray) (h : Heap) (K : Value → Heap → Prop) : Prop :=
  new 91 p h fun p_1 h_1 =>
  new 151 #[.string ⟨#[]⟩, .slice none 0 0] h_1 fun p_2 h_2 =>
  loopW (fun _ (i : Int) h_3 next =>
    ld .sl h_3 (p_1.add 1) fun (x : Sl) =>
    ifB (decide (i < (x.len : Int)))
     (ld .sl h_3 (p_1.add 1) fun (x_1 : Sl) =>
    idx 2 x_1 i fun p_3 =>
    ld .str h_3 (p_3.add 0) fun (x_2 : ByteArray) =>
    ifB (x_2.toList == name.toList)
     (ld .sl h_3 (p_1.add 1) fun (x_3 : Sl) =>
     idx 2 x_3 i fun p_4 =>
     ld (.agg 2) h_3 p_4 fun (x_4 : Array Value) =>
     x_4.size = 2 ∧ st x_4.toList h_3 p_2 fun h_4 =>
     ld (.agg 2) h_4 p_2 fun (x_5 : Array Value) => K (.tuple #[.agg x_5, .bool true]) h_4)
     (ar .i64 (i + 1) fun n =>
    next n h_3))
     (bst [(0, 1), (1, 1)] #[.string ⟨#[]⟩, .slice none 0 0] [] fun c =>
  c.size = 2 ∧ st c.toList h_3 p_2 fun h_5 =>
  ld (.agg 2) h_5 p_2 fun (x_6 : Array Value) => K (.tuple #[.agg x_6, .bool false]) h_5)) 0 h_2
def lateenref07_Class_a : Ann := (.seq .leaf (.seq (.seq .leaf (.block (.loop [(6, .int .i64)] [1, 2, 4] (.seq (.seq .leaf (.cond .leaf .leaf)) (.seq (.block (.seq .leaf (.cond (.seq .leaf .leaf) .leaf))) .leaf))))) (.seq .leaf .leaf)))
theorem lateenref07_Class_eq (p : Array Value) (name : ByteArray) (h : Heap) (K : Value → Heap → Prop) : lateenref07_Class p name h K = fnW Try.prog ty lateenref07_Class_a (bodyOf Try.f90) [.cell 4 151, .tmp 5] [.agg p, .string name] h K := by kernel_rfl
theorem lateenref07_Class_of {p : Array Value} {name : ByteArray} {h : Heap} {K : Value → Heap → Prop} (hw : lateenref07_Class p name h K) : ACalls Try.prog F_lateenref07_Class [.agg p, .string name] h K :=
  calls_sound ty_ok mixed lateenref07_Class_a (c := bodyOf Try.f90) Try.func90 (by kernel_rfl) (by kernel_rfl) (by kernel_rfl) (Nat.le_of_ble_eq_true rfl) (by rw [lateenref07_Class_eq] at hw; exact hw)

/-- lateen/lateenref06.sameArgs -/
def lateenref06_sameArgs (a : Sl) (b : Sl) (h : Heap) (K : Value → Heap → Prop) : Prop :=
  ifB ((a.len : Int) != (b.len : Int))
   (K (.bool false) h)
   (loopW (fun _ (i : Int) h_1 next =>
    ifB (decide (i < (a.len : Int)))
     (idx 3 a i fun p =>
    ld (.agg 3) h_1 p fun (x : Array Value) =>
    idx 3 b i fun p_1 =>
    ld (.agg 3) h_1 p_1 fun (x_1 : Array Value) =>
    eqA [.int .i64, .str, .int .i64] x x_1 fun b_1 =>
    ifB (!b_1)
     (K (.bool false) h_1)
     (ar .i64 (i + 1) fun n =>
    next n h_1))
     (K (.bool true) h_1)) 0 h)
def lateenref06_sameArgs_a : Ann := (.seq .leaf (.seq (.seq .leaf (.cond (.seq .leaf .leaf) .leaf)) (.seq (.seq .leaf (.block (.loop [(5, .int .i64)] [0, 1] (.seq (.seq .leaf (.cond .leaf .leaf)) (.seq (.block (.seq .leaf (.cond (.seq .leaf .leaf) .leaf))) .leaf))))) (.seq .leaf .leaf))))
theorem lateenref06_sameArgs_eq (a : Sl) (b : Sl) (h : Heap) (K : Value → Heap → Prop) : lateenref06_sameArgs a b h K = fnW Try.prog ty lateenref06_sameArgs_a (bodyOf Try.f91) [.tmp 4] [a.v, b.v] h K := by kernel_rfl
theorem lateenref06_sameArgs_of {a : Sl} {b : Sl} {h : Heap} {K : Value → Heap → Prop} (hw : lateenref06_sameArgs a b h K) : ACalls Try.prog F_lateenref06_sameArgs [a.v, b.v] h K :=
  calls_sound ty_ok mixed lateenref06_sameArgs_a (c := bodyOf Try.f91) Try.func91 (by kernel_rfl) (by kernel_rfl) (by kernel_rfl) (Nat.le_of_ble_eq_true rfl) (by rw [lateenref06_sameArgs_eq] at hw; exact hw)

/-- maps.Keys[map[int64]bool,int64,bool]$1 -/
def maps_Keys_map_int64_bool_int64_bool__1 (yield : Value) (p : Addr) (h : Heap) (K : Value → Heap → Prop) : Prop :=
  ld .map h p fun (x : Option Nat) =>
  rng x h fun r h_1 =>
  loopW (fun _ (_ : Unit) h_2 next =>
    nxt r h_2
     (K (.tuple #[]) h_2) fun _ _ h_3 =>
    ent r h_3 fun key_1 _ =>
    callV Try.prog yield [key_1] h_3 fun v h_4 => as1 .bool v fun r_1 =>
    ifB (!r_1)
     (K (.tuple #[]) h_4)
     (next () h_4)) () h_1
def maps_Keys_map_int64_bool_int64_bool__1_a : Ann := (.seq .leaf (.block (.loop [] [0, 5] (.seq .leaf (.seq (.cond .leaf .leaf) (.block (.seq .leaf (.seq .leaf (.cond .leaf .leaf)))))))))
theorem maps_Keys_map_int64_bool_int64_bool__1_eq (yield : Value) (p : Addr) (h : Heap) (K : Value → Heap → Prop) : maps_Keys_map_int64_bool_int64_bool__1 yield p h K = fnW Try.prog ty maps_Keys_map_int64_bool_int64_bool__1_a (bodyOf Try.f98) [] [yield, .pointer (some p)] h K := by kernel_rfl
theorem maps_Keys_map_int64_bool_int64_bool__1_of {yield : Value} {p : Addr} {h : Heap} {K : Value → Heap → Prop} (hw : maps_Keys_map_int64_bool_int64_bool__1 yield p h K) : ACalls Try.prog F_maps_Keys_map_int64_bool_int64_bool__1 [yield, .pointer (some p)] h K :=
  calls_sound ty_ok mixed maps_Keys_map_int64_bool_int64_bool__1_a (c := bodyOf Try.f98) Try.func98 (by kernel_rfl) (by kernel_rfl) (by kernel_rfl) (Nat.le_of_ble_eq_true rfl) (by rw [maps_Keys_map_int64_bool_int64_bool__1_eq] at hw; exact hw)

/-- sort.Search -/
def sort_Search (n : Int) (f : Value) (h : Heap) (K : Value → Heap → Prop) : Prop :=
  loopW (fun _ (q_i : Int × Int) h_1 next =>
    ifB (decide (q_i.1 < q_i.2))
     (ar .i64 (q_i.1 + q_i.2) fun n_1 =>
    (0 : Int) ≤ 1 ∧ (callV Try.prog f [.int .i64 (IntKind.i64.wrap (Int.fdiv (IntKind.u64.wrap n_1) (2 ^ min (Int.toNat 1) (IntKind.bits .u64))))] h_1 fun v h_2 => as1 .bool v fun r =>
    ifB (!r)
     (ar .i64 ((IntKind.i64.wrap (Int.fdiv (IntKind.u64.wrap n_1) (2 ^ min (Int.toNat 1) (IntKind.bits .u64)))) + 1) fun n_2 =>
     next (n_2, q_i.2) h_2)
     (next (q_i.1, IntKind.i64.wrap (Int.fdiv (IntKind.u64.wrap n_1) (2 ^ min (Int.toNat 1) (IntKind.bits .u64)))) h_2)))
     (K (.int .i64 q_i.1) h_1)) (0, n) h
def sort_Search_a : Ann := (.seq .leaf (.seq .leaf (.seq (.block (.loop [(5, .int .i64), (6, .int .i64)] [1] (.seq (.seq .leaf (.cond .leaf .leaf)) (.block (.seq .leaf (.seq .leaf (.cond .leaf .leaf))))))) (.seq .leaf .leaf))))
theorem sort_Search_eq (n : Int) (f : Value) (h : Heap) (K : Value → Heap → Prop) : sort_Search n f h K = fnW Try.prog ty sort_Search_a (bodyOf Try.f100) [.tmp 4] [.int .i64 n, f] h K := by kernel_rfl
theorem sort_Search_of {n : Int} {f : Value} {h : Heap} {K : Value → Heap → Prop} (hw : sort_Search n f h K) : ACalls Try.prog F_sort_Search [.int .i64 n, f] h K :=
  calls_sound ty_ok mixed sort_Search_a (c := bodyOf Try.f100) Try.func100 (by kernel_rfl) (by kernel_rfl) (by kernel_rfl) (Nat.le_of_ble_eq_true rfl) (by rw [sort_Search_eq] at hw; exact hw)

/-- lateen/vstate.place$1 -/
def vstate_place_1 (i : Int) (p : Addr) (p_1 : Addr) (h : Heap) (K : Value → Heap → Prop) : Prop :=
  ld .sl h p fun (x : Sl) =>
  idx 6 x i fun p_2 =>
  ld (.int .i64) h (p_2.add 0) fun (x_1 : Int) =>
  ld (.int .i64) h p_1 fun (x_2 : Int) =>
  K (.bool (decide (x_1 ≥ x_2))) h
def vstate_place_1_a : Ann := (.seq .leaf (.seq .leaf .leaf))
theorem vstate_place_1_eq (i : Int) (p : Addr) (p_1 : Addr) (h : Heap) (K : Value → Heap → Prop) : vstate_place_1 i p p_1 h K = fnW Try.prog ty vstate_place_1_a (bodyOf Try.f101) [.tmp 4] [.int .i64 i, .pointer (some p), .pointer (some p_1)] h K := by kernel_rfl
theorem vstate_place_1_of {i : Int} {p : Addr} {p_1 : Addr} {h : Heap} {K : Value → Heap → Prop} (hw : vstate_place_1 i p p_1 h K) : ACalls Try.prog F_vstate_place_1 [.int .i64 i, .pointer (some p), .pointer (some p_1)] h K :=
  calls_sound ty_ok mixed vstate_place_1_a (c := bodyOf Try.f101) Try.func101 (by kernel_rfl) (by kernel_rfl) (by kernel_rfl) (Nat.le_of_ble_eq_true rfl) (by rw [vstate_place_1_eq] at hw; exact hw)

/-- slices.rotateRight[lateen/vstate.Obj] -/
def slices_rotateRight (s : Sl) (r : Int) (h : Heap) (K : Value → Heap → Prop) : Prop :=
  ar .i64 ((s.len : Int) - r) fun n =>
  ACalls Try.prog F_slices_rotateLeft [s.v, .int .i64 n] h fun v h_1 => as0 v (
  K (.tuple #[]) h_1)
def slices_rotateRight_a : Ann := .leaf
theorem slices_rotateRight_eq (s : Sl) (r : Int) (h : Heap) (K : Value → Heap → Prop) : slices_rotateRight s r h K = fnW Try.prog ty slices_rotateRight_a (bodyOf Try.f103) [] [s.v, .int .i64 r] h K := by kernel_rfl
theorem slices_rotateRight_of {s : Sl} {r : Int} {h : Heap} {K : Value → Heap → Prop} (hw : slices_rotateRight s r h K) : ACalls Try.prog F_slices_rotateRight [s.v, .int .i64 r] h K :=
  calls_sound ty_ok mixed slices_rotateRight_a (c := bodyOf Try.f103) Try.func103 (by kernel_rfl) (by kernel_rfl) (by kernel_rfl) (Nat.le_of_ble_eq_true rfl) (by rw [slices_rotateRight_eq] at hw; exact hw)

/-- slices.Equal[[]lateen/api.Arg,lateen/api.Arg] -/
def slices_Equal (s1 : Sl) (s2 : Sl) (h : Heap) (K : Value → Heap → Prop) : Prop :=
  ifB ((s1.len : Int) != (s2.len : Int))
   (K (.bool false) h)
   (loopW (fun _ (t : Int) h_1 next =>
    ifB (decide (t < (s1.len : Int)))
     (idx 3 s1 t fun p =>
    ld (.agg 3) h_1 p fun (x : Array Value) =>
    idx 3 s2 t fun p_1 =>
    ld (.agg 3) h_1 p_1 fun (x_1 : Array Value) =>
    eqA [.int .i64, .str, .int .i64] x x_1 fun b =>
    ifB (!b)
     (K (.bool false) h_1)
     (ar .i64 (t + 1) fun n =>
    next n h_1))
     (K (.bool true) h_1)) 0 h)
def slices_Equal_a : Ann := (.seq .leaf (.seq (.seq .leaf (.cond (.seq .leaf .leaf) .leaf)) (.seq (.seq .leaf (.block (.loop [(13, .int .i64)] [0, 1, 12] (.seq .leaf (.seq (.cond .leaf .leaf) (.seq (.block (.seq .leaf (.seq .leaf (.cond (.seq .leaf .leaf) .leaf)))) .leaf)))))) (.seq .leaf .leaf))))
theorem slices_Equal_eq (s1 : Sl) (s2 : Sl) (h : Heap) (K : Value → Heap → Prop) : slices_Equal s1 s2 h K = fnW Try.prog ty slices_Equal_a (bodyOf Try.f104) [.tmp 4] [s1.v, s2.v] h K := by kernel_rfl
theorem slices_Equal_of {s1 : Sl} {s2 : Sl} {h : Heap} {K : Value → Heap → Prop} (hw : slices_Equal s1 s2 h K) : ACalls Try.prog F_slices_Equal [s1.v, s2.v] h K :=
  calls_sound ty_ok mixed slices_Equal_a (c := bodyOf Try.f104) Try.func104 (by kernel_rfl) (by kernel_rfl) (by kernel_rfl) (Nat.le_of_ble_eq_true rfl) (by rw [slices_Equal_eq] at hw; exact hw)

/-- lateen/calls.walk -/
def calls_walk (g : Sl) (h : Heap) (K : Value → Heap → Prop) : Prop :=
  ∃ (R : Heap → Prop) (h_1 : Heap) (L : List As) (S : Specs), R h ∧ Sep h_1 h L ∧ (freeW R h_1 (S 2 [.int .i64 (g.len : Int), .int .i64 (g.len : Int)]) [] (fun h_2 Kv =>
      (g.len : Int) = (g.len : Int) ∧ mk si_Lint (g.len : Int) h_2 fun s h_3 =>
      Kv s.v h_3) fun v => as1 .sl v fun r =>
  freeW R h_1 (S 4 [.int .i64 (g.len : Int), .int .i64 (g.len : Int)]) [] (fun h_4 Kv_1 =>
      (g.len : Int) = (g.len : Int) ∧ mk si_Lint (g.len : Int) h_4 fun s_1 h_5 =>
      Kv_1 s_1.v h_5) fun v_1 => as1 .sl v_1 fun r_1 =>
  freeW R h_1 (S 6 [.int .i64 (g.len : Int), .int .i64 (g.len : Int)]) [] (fun h_6 Kv_2 =>
      (g.len : Int) = (g.len : Int) ∧ mk si_Lint (g.len : Int) h_6 fun s_2 h_7 =>
      Kv_2 s_2.v h_7) fun v_2 => as1 .sl v_2 fun r_2 =>
  freeW R h_1 (S 8 [.int .i64 (g.len : Int), .int .i64 (g.len : Int)]) [] (fun h_8 Kv_3 =>
      (g.len : Int) = (g.len : Int) ∧ mk si_Lbool (g.len : Int) h_8 fun s_3 h_9 =>
      Kv_3 s_3.v h_9) fun v_3 => as1 .sl v_3 fun r_3 =>
  bst [(0, 1), (1, 1), (2, 1), (3, 1), (4, 1), (5, 1), (6, 1)] #[.slice none 0 0, .slice none 0 0, .slice none 0 0, .slice none 0 0, .slice none 0 0, .slice none 0 0, .slice none 0 0] [(0, g.v), (1, r.v), (2, r_1.v), (3, r_2.v), (6, r_3.v)] fun c =>
  freeW R h_1 (S 10 [.agg c]) [] (fun h_10 Kv_4 =>
      new 173 c h_10 fun p h_11 =>
      Kv_4 (.pointer (some p)) h_11) fun v_4 => asP v_4 fun p_1 =>
  endF R h_1 ((S 2 [.int .i64 (g.len : Int), .int .i64 (g.len : Int)]).A v ++ ((S 4 [.int .i64 (g.len : Int), .int .i64 (g.len : Int)]).A v_1 ++ ((S 6 [.int .i64 (g.len : Int), .int .i64 (g.len : Int)]).A v_2 ++ ((S 8 [.int .i64 (g.len : Int), .int .i64 (g.len : Int)]).A v_3 ++ ((S 10 [.agg c]).A v_4 ++ (L ++ [])))))) fun h_12 =>
  ld .sl h_12 (p_1.add 3) fun (x : Sl) =>
  loopW (fun _ (t : Int) h_13 next =>
    ifB (decide (t < (x.len : Int)))
     (ld .sl h_13 (p_1.add 3) fun (x_1 : Sl) =>
    idx 1 x_1 t fun p_2 =>
    st [.int .i64 (-1)] h_13 p_2 fun h_14 =>
    ar .i64 (t + 1) fun n =>
    next n h_14)
     (loopW (fun _ (q_marked : Int × Int) h_15 next_1 =>
    ifB (decide (q_marked.2 < (g.len : Int)))
     (joinW (fun _ (marked_1 : Int) h_16 =>
      ar .i64 (q_marked.2 + 1) fun n_1 =>
      next_1 (marked_1, n_1) h_16) fun k =>
    ld .sl h_15 (p_1.add 1) fun (x_2 : Sl) =>
    idx 1 x_2 q_marked.2 fun p_3 =>
    ld (.int .i64) h_15 p_3 fun (x_3 : Int) =>
    ifB (x_3 == 0)
     (ACalls Try.prog F_calls_walker_down [.pointer (some p_1), .int .i64 q_marked.2, .int .i64 q_marked.1] h_15 fun v_5 h_17 => as1 (.int .i64) v_5 fun r_4 =>
     k r_4 h_17)
     (k q_marked.1 h_15))
     (K (.pointer (some p_1)) h_15)) (0, 0) h_13)) 0 h_12)
def calls_walk_a : Ann := (.seq .leaf (.seq .leaf (.seq (.free 11 [[], [], [], [], [], [], [], [], [], [], [], []] [2, 4, 6, 8, 10, 12]) (.seq (.seq .leaf (.block (.loop [(26, .int .i64)] [0, 4, 25] (.seq .leaf (.seq (.cond .leaf .leaf) (.seq (.block (.seq .leaf .leaf)) .leaf)))))) (.seq .leaf (.seq (.seq .leaf (.block (.loop [(6, .int .i64), (38, .int .i64)] [4, 37] (.seq .leaf (.seq (.cond .leaf .leaf) (.join [(6, .int .i64)] [4, 37, 38] (.block (.seq .leaf (.seq .leaf (.cond .leaf .leaf)))) .leaf)))))) (.seq .leaf .leaf)))))))
theorem calls_walk_eq (g : Sl) (h : Heap) (K : Value → Heap → Prop) : calls_walk g h K = fnW Try.prog ty calls_walk_a (bodyOf Try.f105) [.tmp 2] [g.v] h K := by kernel_rfl
theorem calls_walk_of {g : Sl} {h : Heap} {K : Value → Heap → Prop} (hw : calls_walk g h K) : ACalls Try.prog F_calls_walk [g.v] h K :=
  calls_sound ty_ok mixed calls_walk_a (c := bodyOf Try.f105) Try.func105 (by kernel_rfl) (by kernel_rfl) (by kernel_rfl) (Nat.le_of_ble_eq_true rfl) (by rw [calls_walk_eq] at hw; exact hw)

/-- lateen/types.Class -/
def types_Class (p : Array Value) (name : ByteArray) (h : Heap) (K : Value → Heap → Prop) : Prop :=
  new 91 p h fun p_1 h_1 =>
  new 151 #[.string ⟨#[]⟩, .slice none 0 0] h_1 fun p_2 h_2 =>
  ld .sl h_2 (p_1.add 1) fun (x : Sl) =>
  ACalls Try.prog F_types_find [x.v, .string name, .func (.func F_types_className) #[] #[]] h_2 fun v h_3 => as2 (.agg 2) .bool v fun r r_1 =>
  r.size = 2 ∧ st r.toList h_3 p_2 fun h_4 =>
  ld (.agg 2) h_4 p_2 fun (x_1 : Array Value) => K (.tuple #[.agg x_1, .bool r_1]) h_4
def types_Class_a : Ann := (.seq .leaf (.seq .leaf .leaf))
theorem types_Class_eq (p : Array Value) (name : ByteArray) (h : Heap) (K : Value → Heap → Prop) : types_Class p name h K = fnW Try.prog ty types_Class_a (bodyOf Try.f106) [.cell 4 151, .tmp 5] [.agg p, .string name] h K := by kernel_rfl
theorem types_Class_of {p : Array Value} {name : ByteArray} {h : Heap} {K : Value → Heap → Prop} (hw : types_Class p name h K) : ACalls Try.prog F_types_Class [.agg p, .string name] h K :=
  calls_sound ty_ok mixed types_Class_a (c := bodyOf Try.f106) Try.func106 (by kernel_rfl) (by kernel_rfl) (by kernel_rfl) (Nat.le_of_ble_eq_true rfl) (by rw [types_Class_eq] at hw; exact hw)

/-- lateen/lateenref01.size -/
def lateenref01_size (n : Int) (h : Heap) (K : Value → Heap → Prop) : Prop :=
  ifB (decide (n < 0))
   (ar .u64 (0 - (IntKind.u64.wrap n)) fun n_1 =>
   K (.int .u64 n_1) h)
   (K (.int .u64 (IntKind.u64.wrap n)) h)
def lateenref01_size_a : Ann := (.seq .leaf (.seq (.seq .leaf (.cond (.seq .leaf .leaf) .leaf)) (.seq .leaf .leaf)))
theorem lateenref01_size_eq (n : Int) (h : Heap) (K : Value → Heap → Prop) : lateenref01_size n h K = fnW Try.prog ty lateenref01_size_a (bodyOf Try.f107) [.tmp 2] [.int .i64 n] h K := by kernel_rfl
theorem lateenref01_size_of {n : Int} {h : Heap} {K : Value → Heap → Prop} (hw : lateenref01_size n h K) : ACalls Try.prog F_lateenref01_size [.int .i64 n] h K :=
  calls_sound ty_ok mixed lateenref01_size_a (c := bodyOf Try.f107) Try.func107 (by kernel_rfl) (by kernel_rfl) (by kernel_rfl) (Nat.le_of_ble_eq_true rfl) (by rw [lateenref01_size_eq] at hw; exact hw)

/-- slices.rotateLeft[lateen/vstate.Obj] -/
def slices_rotateLeft (s : Sl) (r : Int) (h : Heap) (K : Value → Heap → Prop) : Prop :=
  slc 6 s none (some r) fun s_1 =>
  ACalls Try.prog F_slices_Reverse [s_1.v] h fun v h_1 => as0 v (
  slc 6 s (some r) none fun s_2 =>
  ACalls Try.prog F_slices_Reverse [s_2.v] h_1 fun v_1 h_2 => as0 v_1 (
  ACalls Try.prog F_slices_Reverse [s.v] h_2 fun v_2 h_3 => as0 v_2 (
  K (.tuple #[]) h_3)))
def slices_rotateLeft_a : Ann := (.seq .leaf (.seq .leaf .leaf))
theorem slices_rotateLeft_eq (s : Sl) (r : Int) (h : Heap) (K : Value → Heap → Prop) : slices_rotateLeft s r h K = fnW Try.prog ty slices_rotateLeft_a (bodyOf Try.f113) [] [s.v, .int .i64 r] h K := by kernel_rfl
theorem slices_rotateLeft_of {s : Sl} {r : Int} {h : Heap} {K : Value → Heap → Prop} (hw : slices_rotateLeft s r h K) : ACalls Try.prog F_slices_rotateLeft [s.v, .int .i64 r] h K :=
  calls_sound ty_ok mixed slices_rotateLeft_a (c := bodyOf Try.f113) Try.func113 (by kernel_rfl) (by kernel_rfl) (by kernel_rfl) (Nat.le_of_ble_eq_true rfl) (by rw [slices_rotateLeft_eq] at hw; exact hw)

/-- (*lateen/calls.walker).down -/
def calls_walker_down (w : Option Addr) (fromv : Int) (marked : Int) (h : Heap) (K : Value → Heap → Prop) : Prop :=
  ar .i64 (marked + 1) fun n =>
  ACalls Try.prog F_calls_walker_mark [.pointer w, .int .i64 fromv, .int .i64 n] h fun v h_1 => as1 (.agg 2) v fun r =>
  bld si_Lcalls_step 1 [(0, .agg r)] h_1 fun s h_2 =>
  loopW (fun _ (q_marked_1 : Int × Sl) h_3 next =>
    ifB (decide ((q_marked_1.2.len : Int) > 0))
     (ar .i64 ((q_marked_1.2.len : Int) - 1) fun n_1 =>
    idx 2 q_marked_1.2 n_1 fun p =>
    ld (.int .i64) h_3 (p.add 1) fun (x : Int) =>
    nilck w fun p_1 =>
    ld .sl h_3 (p_1.add 0) fun (x_1 : Sl) =>
    ld (.int .i64) h_3 (p.add 0) fun (x_2 : Int) =>
    idx 1 x_1 x_2 fun p_2 =>
    ld .sl h_3 p_2 fun (x_3 : Sl) =>
    ifB (x == (x_3.len : Int))
     (ld (.int .i64) h_3 (p.add 0) fun (x_4 : Int) =>
     ar .i64 ((q_marked_1.2.len : Int) - 1) fun n_2 =>
     slc 2 q_marked_1.2 none (some n_2) fun s_1 =>
     ACalls Try.prog F_calls_walker_leave [.pointer w, .int .i64 x_4] h_3 fun v_1 h_4 => as0 v_1 (
     joinW (fun _ (_ : Unit) h_5 =>
       next (q_marked_1.1, s_1) h_5) fun k =>
     ifB (decide ((s_1.len : Int) > 0))
      (ar .i64 ((s_1.len : Int) - 1) fun n_3 =>
      idx 2 s_1 n_3 fun p_3 =>
      ld (.int .i64) h_4 (p_3.add 0) fun (x_5 : Int) =>
      nilck w fun p_4 =>
      ld .sl h_4 (p_4.add 2) fun (x_6 : Sl) =>
      nilck w fun p_5 =>
      ld .sl h_4 (p_5.add 2) fun (x_7 : Sl) =>
      idx 1 x_7 x_5 fun p_6 =>
      ld (.int .i64) h_4 p_6 fun (x_8 : Int) =>
      nilck w fun p_7 =>
      ld .sl h_4 (p_7.add 2) fun (x_9 : Sl) =>
      idx 1 x_9 x_4 fun p_8 =>
      ld (.int .i64) h_4 p_8 fun (x_10 : Int) =>
      idx 1 x_6 x_5 fun p_9 =>
      st [.int .i64 (if x_10 < x_8 then x_10 else x_8)] h_4 p_9 fun h_6 =>
      k () h_6)
      (k () h_4)))
     (nilck w fun p_10 =>
    ld .sl h_3 (p_10.add 0) fun (x_11 : Sl) =>
    ld (.int .i64) h_3 (p.add 0) fun (x_12 : Int) =>
    idx 1 x_11 x_12 fun p_11 =>
    ld .sl h_3 p_11 fun (x_13 : Sl) =>
    ld (.int .i64) h_3 (p.add 1) fun (x_14 : Int) =>
    idx 1 x_13 x_14 fun p_12 =>
    ld (.int .i64) h_3 p_12 fun (x_15 : Int) =>
    ld (.int .i64) h_3 (p.add 1) fun (x_16 : Int) =>
    ar .i64 (x_16 + 1) fun n_4 =>
    st [.int .i64 n_4] h_3 (p.add 1) fun h_7 =>
    joinW (fun _ (t : Bool) h_8 =>
      ifB t
       (next (q_marked_1.1, q_marked_1.2) h_8)
       (nilck w fun p_13 =>
       ld .sl h_8 (p_13.add 1) fun (x_17 : Sl) =>
       idx 1 x_17 x_15 fun p_14 =>
       ld (.int .i64) h_8 p_14 fun (x_18 : Int) =>
       ifB (x_18 == 0)
        (ar .i64 (q_marked_1.1 + 1) fun n_5 =>
        ACalls Try.prog F_calls_walker_mark [.pointer w, .int .i64 x_15, .int .i64 n_5] h_8 fun v_2 h_9 => as1 (.agg 2) v_2 fun r_1 =>
        bld si_Lcalls_step 1 [(0, .agg r_1)] h_9 fun s_2 h_10 =>
        app si_Lcalls_step q_marked_1.2 s_2 h_10 fun s_3 h_11 =>
        next (n_5, s_3) h_11)
        (nilck w fun p_15 =>
        ld .sl h_8 (p_15.add 3) fun (x_19 : Sl) =>
        idx 1 x_19 x_15 fun p_16 =>
        ld (.int .i64) h_8 p_16 fun (x_20 : Int) =>
        ifB (decide (x_20 < 0))
         (nilck w fun p_17 =>
         ld .sl h_8 (p_17.add 2) fun (x_21 : Sl) =>
         ld (.int .i64) h_8 (p.add 0) fun (x_22 : Int) =>
         nilck w fun p_18 =>
         ld .sl h_8 (p_18.add 2) fun (x_23 : Sl) =>
         ld (.int .i64) h_8 (p.add 0) fun (x_24 : Int) =>
         idx 1 x_23 x_24 fun p_19 =>
         ld (.int .i64) h_8 p_19 fun (x_25 : Int) =>
         nilck w fun p_20 =>
         ld .sl h_8 (p_20.add 1) fun (x_26 : Sl) =>
         idx 1 x_26 x_15 fun p_21 =>
         ld (.int .i64) h_8 p_21 fun (x_27 : Int) =>
         idx 1 x_21 x_22 fun p_22 =>
         st [.int .i64 (if x_27 < x_25 then x_27 else x_25)] h_8 p_22 fun h_12 =>
         nilck w fun p_23 =>
         ld .sl h_12 (p_23.add 6) fun (x_28 : Sl) =>
         ld (.int .i64) h_12 (p.add 0) fun (x_29 : Int) =>
         nilck w fun p_24 =>
         ld .sl h_12 (p_24.add 6) fun (x_30 : Sl) =>
         ld (.int .i64) h_12 (p.add 0) fun (x_31 : Int) =>
         idx 1 x_30 x_31 fun p_25 =>
         ld .bool h_12 p_25 fun (x_32 : Bool) =>
         ifB x_32
          (idx 1 x_28 x_29 fun p_26 =>
               st [.bool true] h_12 p_26 fun h_13 =>
               next (q_marked_1.1, q_marked_1.2) h_13)
          (ld (.int .i64) h_12 (p.add 0) fun (x_33 : Int) =>
              idx 1 x_28 x_29 fun p_27 =>
               st [.bool (x_15 == x_33)] h_12 p_27 fun h_14 =>
               next (q_marked_1.1, q_marked_1.2) h_14))
         (next (q_marked_1.1, q_marked_1.2) h_8)))) fun k_1 =>
    ifB (decide (x_15 < 0))
     (k_1 true h_7)
     (nilck w fun p_28 =>
       ld .sl h_7 (p_28.add 0) fun (x_34 : Sl) =>
         k_1 (decide (x_15 ≥ (x_34.len : Int))) h_7)))
     (K (.int .i64 q_marked_1.1) h_3)) (n, s) h_2
def calls_walker_down_a : Ann := (.seq .leaf (.seq .leaf (.seq .leaf (.seq (.block (.loop [(2, .int .i64), (7, .sl)] [0] (.seq (.seq .leaf (.cond .leaf .leaf)) (.block (.seq .leaf (.seq (.seq .leaf (.cond (.seq .leaf (.seq .leaf (.seq .leaf (.join [] [0, 2, 7] (.seq .leaf (.cond (.seq .leaf .leaf) .leaf)) .leaf)))) .leaf)) (.seq .leaf (.seq .leaf (.block (.join [(109, .bool)] [0, 2, 7, 8, 11] .leaf (.cond .leaf (.seq .leaf (.cond (.seq .leaf .leaf) (.seq .leaf (.cond (.seq .leaf .leaf) .leaf))))))))))))))) (.seq .leaf .leaf)))))
theorem calls_walker_down_eq (w : Option Addr) (fromv : Int) (marked : Int) (h : Heap) (K : Value → Heap → Prop) : calls_walker_down w fromv marked h K = fnW Try.prog ty calls_walker_down_a (bodyOf Try.f114) [.tmp 6] [.pointer w, .int .i64 fromv, .int .i64 marked] h K := by kernel_rfl
theorem calls_walker_down_of {w : Option Addr} {fromv : Int} {marked : Int} {h : Heap} {K : Value → Heap → Prop} (hw : calls_walker_down w fromv marked h K) : ACalls Try.prog F_calls_walker_down [.pointer w, .int .i64 fromv, .int .i64 marked] h K :=
  calls_sound ty_ok mixed calls_walker_down_a (c := bodyOf Try.f114) Try.func114 (by kernel_rfl) (by kernel_rfl) (by kernel_rfl) (Nat.le_of_ble_eq_true rfl) (by rw [calls_walker_down_eq] at hw; exact hw)

/-- lateen/types.find[lateen/api.Class] -/
def types_find (l : Sl) (name : ByteArray) (ofv : Value) (h : Heap) (K : Value → Heap → Prop) : Prop :=
  new 151 #[.string ⟨#[]⟩, .slice none 0 0] h fun p h_1 =>
  loopW (fun _ (t : Int) h_2 next =>
    ifB (decide (t < (l.len : Int)))
     (idx 2 l t fun p_1 =>
    ld (.agg 2) h_2 p_1 fun (x : Array Value) =>
    new 151 #[.string ⟨#[]⟩, .slice none 0 0] h_2 fun p_2 h_3 =>
    x.size = 2 ∧ st x.toList h_3 p_2 fun h_4 =>
    ld (.agg 2) h_4 p_2 fun (x_1 : Array Value) =>
    callV Try.prog ofv [.agg x_1] h_4 fun v h_5 => as1 .str v fun r =>
    ifB (r.toList == name.toList)
     (ld (.agg 2) h_5 p_2 fun (x_2 : Array Value) =>
     x_2.size = 2 ∧ st x_2.toList h_5 p fun h_6 =>
     ld (.agg 2) h_6 p fun (x_3 : Array Value) => K (.tuple #[.agg x_3, .bool true]) h_6)
     (ar .i64 (t + 1) fun n =>
    next n h_5))
     (new 151 #[.string ⟨#[]⟩, .slice none 0 0] h_2 fun p_3 h_7 =>
  ld (.agg 2) h_7 p_3 fun (x_4 : Array Value) =>
  x_4.size = 2 ∧ st x_4.toList h_7 p fun h_8 =>
  ld (.agg 2) h_8 p fun (x_5 : Array Value) => K (.tuple #[.agg x_5, .bool false]) h_8)) 0 h_1
def types_find_a : Ann := (.seq .leaf (.seq (.seq .leaf (.block (.loop [(13, .int .i64)] [1, 2, 6, 11, 12] (.seq .leaf (.seq (.cond .leaf .leaf) (.seq (.block (.seq .leaf (.seq .leaf (.cond (.seq .leaf .leaf) .leaf)))) .leaf)))))) (.seq .leaf (.seq .leaf .leaf))))
theorem types_find_eq (l : Sl) (name : ByteArray) (ofv : Value) (h : Heap) (K : Value → Heap → Prop) : types_find l name ofv h K = fnW Try.prog ty types_find_a (bodyOf Try.f115) [.cell 6 151, .tmp 7] [l.v, .string name, ofv] h K := by kernel_rfl
theorem types_find_of {l : Sl} {name : ByteArray} {ofv : Value} {h : Heap} {K : Value → Heap → Prop} (hw : types_find l name ofv h K) : ACalls Try.prog F_types_find [l.v, .string name, ofv] h K :=
  calls_sound ty_ok mixed types_find_a (c := bodyOf Try.f115) Try.func115 (by kernel_rfl) (by kernel_rfl) (by kernel_rfl) (Nat.le_of_ble_eq_true rfl) (by rw [types_find_eq] at hw; exact hw)

/-- lateen/types.className -/
def types_className (c : Array Value) (h : Heap) (K : Value → Heap → Prop) : Prop :=
  new 151 c h fun p h_1 =>
  ld .str h_1 (p.add 0) fun (x : ByteArray) =>
  K (.string x) h_1
def types_className_a : Ann := (.seq .leaf (.seq .leaf .leaf))
theorem types_className_eq (c : Array Value) (h : Heap) (K : Value → Heap → Prop) : types_className c h K = fnW Try.prog ty types_className_a (bodyOf Try.f116) [.tmp 2] [.agg c] h K := by kernel_rfl
theorem types_className_of {c : Array Value} {h : Heap} {K : Value → Heap → Prop} (hw : types_className c h K) : ACalls Try.prog F_types_className [.agg c] h K :=
  calls_sound ty_ok mixed types_className_a (c := bodyOf Try.f116) Try.func116 (by kernel_rfl) (by kernel_rfl) (by kernel_rfl) (Nat.le_of_ble_eq_true rfl) (by rw [types_className_eq] at hw; exact hw)

/-- slices.Reverse[[]lateen/vstate.Obj,lateen/vstate.Obj] -/
def slices_Reverse (s : Sl) (h : Heap) (K : Value → Heap → Prop) : Prop :=
  ar .i64 ((s.len : Int) - 1) fun n =>
  loopW (fun _ (q_i : Int × Int) h_1 next =>
    ifB (decide (q_i.1 < q_i.2))
     (idx 6 s q_i.2 fun p =>
    ld (.agg 6) h_1 p fun (x : Array Value) =>
    idx 6 s q_i.1 fun p_1 =>
    ld (.agg 6) h_1 p_1 fun (x_1 : Array Value) =>
    idx 6 s q_i.1 fun p_2 =>
    x.size = 6 ∧ st x.toList h_1 p_2 fun h_2 =>
    idx 6 s q_i.2 fun p_3 =>
    x_1.size = 6 ∧ st x_1.toList h_2 p_3 fun h_3 =>
    ar .i64 (q_i.1 + 1) fun n_1 =>
    ar .i64 (q_i.2 - 1) fun n_2 =>
    next (n_1, n_2) h_3)
     (K (.tuple #[]) h_1)) (0, n) h
def slices_Reverse_a : Ann := (.seq .leaf (.block (.loop [(2, .int .i64), (3, .int .i64)] [0] (.seq (.seq .leaf (.cond .leaf .leaf)) (.seq (.block .leaf) .leaf)))))
theorem slices_Reverse_eq (s : Sl) (h : Heap) (K : Value → Heap → Prop) : slices_Reverse s h K = fnW Try.prog ty slices_Reverse_a (bodyOf Try.f128) [] [s.v] h K := by kernel_rfl
theorem slices_Reverse_of {s : Sl} {h : Heap} {K : Value → Heap → Prop} (hw : slices_Reverse s h K) : ACalls Try.prog F_slices_Reverse [s.v] h K :=
  calls_sound ty_ok mixed slices_Reverse_a (c := bodyOf Try.f128) Try.func128 (by kernel_rfl) (by kernel_rfl) (by kernel_rfl) (Nat.le_of_ble_eq_true rfl) (by rw [slices_Reverse_eq] at hw; exact hw)

/-- (*lateen/calls.walker).mark -/
def calls_walker_mark (w : Option Addr) (k : Int) (n : Int) (h : Heap) (K : Value → Heap → Prop) : Prop :=
  new 200 #[.int .i64 0, .int .i64 0] h fun p h_1 =>
  nilck w fun p_1 =>
  ld .sl h_1 (p_1.add 1) fun (x : Sl) =>
  nilck w fun p_2 =>
  ld .sl h_1 (p_2.add 2) fun (x_1 : Sl) =>
  idx 1 x k fun p_3 =>
  st [.int .i64 n] h_1 p_3 fun h_2 =>
  idx 1 x_1 k fun p_4 =>
  st [.int .i64 n] h_2 p_4 fun h_3 =>
  nilck w fun p_5 =>
  ld .sl h_3 (p_5.add 4) fun (x_2 : Sl) =>
  bld si_Lint 1 [(0, .int .i64 k)] h_3 fun s h_4 =>
  app si_Lint x_2 s h_4 fun s_1 h_5 =>
  nilck w fun p_6 =>
  st [s_1.v] h_5 (p_6.add 4) fun h_6 =>
  bst [(0, 1), (1, 1)] #[.int .i64 0, .int .i64 0] [(0, .int .i64 k)] fun c =>
  c.size = 2 ∧ st c.toList h_6 p fun h_7 =>
  ld (.agg 2) h_7 p fun (x_3 : Array Value) => K (.agg x_3) h_7
def calls_walker_mark_a : Ann := (.seq .leaf (.seq .leaf (.seq .leaf (.seq .leaf .leaf))))
theorem calls_walker_mark_eq (w : Option Addr) (k : Int) (n : Int) (h : Heap) (K : Value → Heap → Prop) : calls_walker_mark w k n h K = fnW Try.prog ty calls_walker_mark_a (bodyOf Try.f129) [.cell 6 200] [.pointer w, .int .i64 k, .int .i64 n] h K := by kernel_rfl
theorem calls_walker_mark_of {w : Option Addr} {k : Int} {n : Int} {h : Heap} {K : Value → Heap → Prop} (hw : calls_walker_mark w k n h K) : ACalls Try.prog F_calls_walker_mark [.pointer w, .int .i64 k, .int .i64 n] h K :=
  calls_sound ty_ok mixed calls_walker_mark_a (c := bodyOf Try.f129) Try.func129 (by kernel_rfl) (by kernel_rfl) (by kernel_rfl) (Nat.le_of_ble_eq_true rfl) (by rw [calls_walker_mark_eq] at hw; exact hw)

/-- (*lateen/calls.walker).leave -/
def calls_walker_leave (w : Option Addr) (k : Int) (h : Heap) (K : Value → Heap → Prop) : Prop :=
  nilck w fun p =>
  ld .sl h (p.add 5) fun (x : Sl) =>
  bld si_Lint 1 [(0, .int .i64 k)] h fun s h_1 =>
  app si_Lint x s h_1 fun s_1 h_2 =>
  nilck w fun p_1 =>
  st [s_1.v] h_2 (p_1.add 5) fun h_3 =>
  nilck w fun p_2 =>
  ld .sl h_3 (p_2.add 2) fun (x_1 : Sl) =>
  idx 1 x_1 k fun p_3 =>
  ld (.int .i64) h_3 p_3 fun (x_2 : Int) =>
  nilck w fun p_4 =>
  ld .sl h_3 (p_4.add 1) fun (x_3 : Sl) =>
  idx 1 x_3 k fun p_5 =>
  ld (.int .i64) h_3 p_5 fun (x_4 : Int) =>
  ifB (x_2 != x_4)
   (K (.tuple #[]) h_3)
   (nilck w fun p_6 =>
  ld .sl h_3 (p_6.add 4) fun (x_5 : Sl) =>
  ACalls Try.prog F_slices_Index [x_5.v, .int .i64 k] h_3 fun v h_4 => as1 (.int .i64) v fun r =>
  nilck w fun p_7 =>
  ld .sl h_4 (p_7.add 4) fun (x_6 : Sl) =>
  slc 1 x_6 (some r) none fun s_2 =>
  ACalls Try.prog F_slices_Min [s_2.v] h_4 fun v_1 h_5 => as1 (.int .i64) v_1 fun r_1 =>
  loopW (fun _ (t : Int) h_6 next =>
    ifB (decide (t < (s_2.len : Int)))
     (joinW (fun _ (_ : Unit) h_7 =>
      ar .i64 (t + 1) fun n =>
      next n h_7) fun k_1 =>
    idx 1 s_2 t fun p_8 =>
    ld (.int .i64) h_6 p_8 fun (x_7 : Int) =>
    nilck w fun p_9 =>
    ld .sl h_6 (p_9.add 3) fun (x_8 : Sl) =>
    idx 1 x_8 x_7 fun p_10 =>
    st [.int .i64 r_1] h_6 p_10 fun h_8 =>
    nilck w fun p_11 =>
    ld .sl h_8 (p_11.add 6) fun (x_9 : Sl) =>
    nilck w fun p_12 =>
    ld .sl h_8 (p_12.add 6) fun (x_10 : Sl) =>
    idx 1 x_10 x_7 fun p_13 =>
    ld .bool h_8 p_13 fun (x_11 : Bool) =>
    ifB x_11
     (idx 1 x_9 x_7 fun p_14 =>
       st [.bool true] h_8 p_14 fun h_9 =>
       k_1 () h_9)
     (idx 1 x_9 x_7 fun p_15 =>
       st [.bool (decide ((s_2.len : Int) > 1))] h_8 p_15 fun h_10 =>
       k_1 () h_10))
     (nilck w fun p_16 =>
  ld .sl h_6 (p_16.add 4) fun (x_12 : Sl) =>
  slc 1 x_12 none (some r) fun s_3 =>
  nilck w fun p_17 =>
  st [s_3.v] h_6 (p_17.add 4) fun h_11 =>
  K (.tuple #[]) h_11)) 0 h_5)
def calls_walker_leave_a : Ann := (.seq .leaf (.seq (.seq .leaf (.cond .leaf .leaf)) (.seq .leaf (.seq .leaf (.seq .leaf (.seq (.seq .leaf (.block (.loop [(50, .int .i64)] [0, 4, 5, 6, 48, 49] (.seq .leaf (.seq (.cond .leaf .leaf) (.join [] [0, 4, 5, 6, 48, 49, 50] (.block (.seq .leaf (.seq .leaf .leaf))) .leaf)))))) .leaf))))))
theorem calls_walker_leave_eq (w : Option Addr) (k : Int) (h : Heap) (K : Value → Heap → Prop) : calls_walker_leave w k h K = fnW Try.prog ty calls_walker_leave_a (bodyOf Try.f130) [] [.pointer w, .int .i64 k] h K := by kernel_rfl
theorem calls_walker_leave_of {w : Option Addr} {k : Int} {h : Heap} {K : Value → Heap → Prop} (hw : calls_walker_leave w k h K) : ACalls Try.prog F_calls_walker_leave [.pointer w, .int .i64 k] h K :=
  calls_sound ty_ok mixed calls_walker_leave_a (c := bodyOf Try.f130) Try.func130 (by kernel_rfl) (by kernel_rfl) (by kernel_rfl) (Nat.le_of_ble_eq_true rfl) (by rw [calls_walker_leave_eq] at hw; exact hw)

/-- slices.Index[[]int,int] -/
def slices_Index (s : Sl) (v : Int) (h : Heap) (K : Value → Heap → Prop) : Prop :=
  loopW (fun _ (t : Int) h_1 next =>
    ifB (decide (t < (s.len : Int)))
     (idx 1 s t fun p =>
    ld (.int .i64) h_1 p fun (x : Int) =>
    ifB (v == x)
     (K (.int .i64 t) h_1)
     (ar .i64 (t + 1) fun n =>
    next n h_1))
     (K (.int .i64 (-1)) h_1)) 0 h
def slices_Index_a : Ann := (.seq .leaf (.seq (.seq .leaf (.block (.loop [(8, .int .i64)] [0, 1, 7] (.seq .leaf (.seq (.cond .leaf .leaf) (.seq (.block (.seq .leaf (.seq .leaf (.cond (.seq .leaf .leaf) .leaf)))) .leaf)))))) (.seq .leaf .leaf)))
theorem slices_Index_eq (s : Sl) (v : Int) (h : Heap) (K : Value → Heap → Prop) : slices_Index s v h K = fnW Try.prog ty slices_Index_a (bodyOf Try.f137) [.tmp 4] [s.v, .int .i64 v] h K := by kernel_rfl
theorem slices_Index_of {s : Sl} {v : Int} {h : Heap} {K : Value → Heap → Prop} (hw : slices_Index s v h K) : ACalls Try.prog F_slices_Index [s.v, .int .i64 v] h K :=
  calls_sound ty_ok mixed slices_Index_a (c := bodyOf Try.f137) Try.func137 (by kernel_rfl) (by kernel_rfl) (by kernel_rfl) (Nat.le_of_ble_eq_true rfl) (by rw [slices_Index_eq] at hw; exact hw)

/-- slices.Min[[]int,int] -/
def slices_Min (x : Sl) (h : Heap) (K : Value → Heap → Prop) : Prop :=
  ifB (decide ((x.len : Int) < 1))
   (False)
   (idx 1 x 0 fun p =>
  ld (.int .i64) h p fun (x_1 : Int) =>
  loopW (fun _ (q_m : Int × Int) h_1 next =>
    ifB (decide (q_m.2 < (x.len : Int)))
     (idx 1 x q_m.2 fun p_1 =>
    ld (.int .i64) h_1 p_1 fun (x_2 : Int) =>
    ar .i64 (q_m.2 + 1) fun n =>
    next ((if x_2 < q_m.1 then x_2 else q_m.1), n) h_1)
     (K (.int .i64 q_m.1) h_1)) (x_1, 1) h)
def slices_Min_a : Ann := (.seq .leaf (.seq (.seq .leaf (.cond .leaf .leaf)) (.seq .leaf (.seq (.seq .leaf (.block (.loop [(3, .int .i64), (4, .int .i64)] [0] (.seq (.seq .leaf (.cond .leaf .leaf)) (.seq (.block .leaf) .leaf))))) (.seq .leaf .leaf)))))
theorem slices_Min_eq (x : Sl) (h : Heap) (K : Value → Heap → Prop) : slices_Min x h K = fnW Try.prog ty slices_Min_a (bodyOf Try.f138) [.tmp 2] [x.v] h K := by kernel_rfl
theorem slices_Min_of {x : Sl} {h : Heap} {K : Value → Heap → Prop} (hw : slices_Min x h K) : ACalls Try.prog F_slices_Min [x.v] h K :=
  calls_sound ty_ok mixed slices_Min_a (c := bodyOf Try.f138) Try.func138 (by kernel_rfl) (by kernel_rfl) (by kernel_rfl) (Nat.le_of_ble_eq_true rfl) (by rw [slices_Min_eq] at hw; exact hw)

end Go.Proofs.Ytncbpalncgcoaaa
