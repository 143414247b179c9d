/-
  Printed by genfw.py: the functions as Props over the layer, and what ties each to the model.
-/
import Derived.Test.YtojdbliehgejbaaDoorFwSound
import Derived.Test.YtojdbliehgejbaaDoorChecked
namespace Go.Proofs.YtojdbliehgejbaaDoor
open Go.Fw

def si_Lapi_Var : SlI := ⟨76, 2, 32, .agg #[.string ⟨#[]⟩, .string ⟨#[]⟩]⟩
def si_Lapi_Block : SlI := ⟨50, 9, 136, .agg #[.string ⟨#[]⟩, .slice none 0 0, .slice none 0 0, .int .i64 0, .int .i64 0, .string ⟨#[]⟩, .int .i64 0, .slice none 0 0, .int .i64 0]⟩
def si_Lapi_Func : SlI := ⟨25, 5, 104, .agg #[.string ⟨#[]⟩, .string ⟨#[]⟩, .slice none 0 0, .slice none 0 0, .slice none 0 0]⟩
def si_Lapi_Class : SlI := ⟨58, 2, 40, .agg #[.string ⟨#[]⟩, .slice none 0 0]⟩
def si_Lapi_Extern : SlI := ⟨60, 2, 24, .agg #[.string ⟨#[]⟩, .int .i64 0]⟩
def si_LLstring : SlI := ⟨36, 1, 24, .slice none 0 0⟩
def si_Lstring : SlI := ⟨9, 1, 16, .string ⟨#[]⟩⟩
def si_Lapi_Arg : SlI := ⟨38, 3, 32, .agg #[.int .i64 0, .string ⟨#[]⟩, .int .i64 0]⟩
def si_Lapi_Frame : SlI := ⟨106, 4, 64, .agg #[.string ⟨#[]⟩, .string ⟨#[]⟩, .int .i64 0, .slice none 0 0]⟩
def si_Lapi_Virt : SlI := ⟨110, 2, 40, .agg #[.string ⟨#[]⟩, .slice none 0 0]⟩
def si_Lapi_Instr : SlI := ⟨43, 6, 112, .agg #[.int .i64 0, .string ⟨#[]⟩, .string ⟨#[]⟩, .slice none 0 0, .slice none 0 0, .slice none 0 0]⟩
def si_Lapi_Phi : SlI := ⟨64, 2, 40, .agg #[.string ⟨#[]⟩, .slice none 0 0]⟩
def si_Luint8 : SlI := ⟨5, 1, 1, .int .u8 0⟩
def si_Lapi_In : SlI := ⟨66, 4, 48, .agg #[.string ⟨#[]⟩, .int .i64 0, .string ⟨#[]⟩, .int .i64 0]⟩
def si_Llive_set : SlI := ⟨73, 1, 8, .map none⟩
def si_Lassign_set : SlI := ⟨79, 1, 8, .map none⟩
def si_Lbool : SlI := ⟨4, 1, 1, .bool false⟩
def si_Lapi_Bind : SlI := ⟨108, 4, 48, .agg #[.string ⟨#[]⟩, .int .i64 0, .string ⟨#[]⟩, .int .i64 0]⟩
def si_LLint : SlI := ⟨115, 1, 24, .slice none 0 0⟩
def si_Lint : SlI := ⟨3, 1, 8, .int .i64 0⟩
def si_Lflow_step : SlI := ⟨147, 2, 16, .agg #[.int .i64 0, .int .i64 0]⟩
abbrev F_lateenlaw12_LiveKeeps : FuncId := 3
abbrev F_lateenlaw13_AssignKeeps : FuncId := 4
abbrev F_lateenlaw12_awake : FuncId := 5
abbrev F_lateenlaw12_few : FuncId := 6
abbrev F_lateenref06_Lines : FuncId := 7
abbrev F_live_Ins : FuncId := 8
abbrev F_lateenlaw13_awake : FuncId := 9
abbrev F_lateenlaw13_few : FuncId := 10
abbrev F_assign_Ins : FuncId := 11
abbrev F_assign_Right : FuncId := 12
abbrev F_lateenlaw12_v : FuncId := 13
abbrev F_lateenref12_Same : FuncId := 14
abbrev F_live_At : FuncId := 15
abbrev F_lateenref06_FewFunc : FuncId := 16
abbrev F_lateenref08_Few : FuncId := 17
abbrev F_lateenref08_Right : FuncId := 18
abbrev F_lateenref06_put : FuncId := 19
abbrev F_lateenref06_vars : FuncId := 20
abbrev F_lateenref01_Put : FuncId := 21
abbrev F_lateenref03_Put : FuncId := 22
abbrev F_lateenref06_code : FuncId := 23
abbrev F_lateenref06_ends : FuncId := 24
abbrev F_live_all : FuncId := 25
abbrev F_live_set_names : FuncId := 26
abbrev F_assign_all : FuncId := 27
abbrev F_slices_Sorted : FuncId := 28
abbrev F_maps_Keys_0 : FuncId := 29
abbrev F_assign_set_block : FuncId := 30
abbrev F_assign_set_over : FuncId := 31
abbrev F_assign_phis : FuncId := 32
abbrev F_live_end : FuncId := 33
abbrev F_live_set_back : FuncId := 34
abbrev F_lateenref06_countVars : FuncId := 35
abbrev F_lateenref06_countBlock : FuncId := 36
abbrev F_lateenref08_Place : FuncId := 37
abbrev F_lateenref08_Come : FuncId := 38
abbrev F_lateenref01_size : FuncId := 39
abbrev F_lateenref03_Right : FuncId := 40
abbrev F_lateenref02_Put : FuncId := 41
abbrev F_lateenref05_Of : FuncId := 42
abbrev F_lateenref06_args : FuncId := 43
abbrev F_maps_Keys_1 : FuncId := 44
abbrev F_flow_Of : FuncId := 45
abbrev F_flow_Preds : FuncId := 46
abbrev F_flow_Order : FuncId := 47
abbrev F_assign_params : FuncId := 48
abbrev F_assign_meet : FuncId := 49
abbrev F_assign_set_phis : FuncId := 50
abbrev F_maps_Keys_assign_set_string_bool__1 : FuncId := 53
abbrev F_maps_Clone : FuncId := 54
abbrev F_assign_set_has : FuncId := 55
abbrev F_live_Uses : FuncId := 56
abbrev F_assign_set_arg : FuncId := 57
abbrev F_assign_leads : FuncId := 58
abbrev F_shape_Place : FuncId := 59
abbrev F_live_set_into : FuncId := 60
abbrev F_live_set_arg : FuncId := 61
abbrev F_live_set_over : FuncId := 62
abbrev F_lateenref06_countInstr : FuncId := 63
abbrev F_lateenref08_Leads : FuncId := 64
abbrev F_lateenref03_Name : FuncId := 65
abbrev F_lateenref02_Plain : FuncId := 66
abbrev F_maps_Keys_live_set_string_bool__1 : FuncId := 67
abbrev F_slices_Contains_0 : FuncId := 68
abbrev F_flow_walk : FuncId := 69
abbrev F_slices_Reverse : FuncId := 70
abbrev F_live_set_instr : FuncId := 75
abbrev F_slices_Contains_1 : FuncId := 76
abbrev F_lateenref06_countArgs : FuncId := 77
abbrev F_lateenref02_IsNan : FuncId := 78
abbrev F_slices_Index_0 : FuncId := 79
abbrev F_slices_Index_1 : FuncId := 91
def ty : Tys :=
  { tk := [(2, .int .i64), (3, .int .i64), (4, .bool), (5, .int .u8), (9, .str), (22, .sl), (23, .sl), (25, .agg 5), (28, .sl), (29, .sl), (30, .sl), (32, .agg 5), (36, .sl), (38, .agg 3), (39, .sl), (40, .sl), (41, .sl), (43, .agg 6), (45, .sl), (47, .agg 6), (48, .sl), (50, .agg 9), (54, .sl), (62, .sl), (64, .agg 2), (66, .agg 4), (73, .map), (76, .agg 2), (79, .map), (96, .int .u64), (100, .agg 5), (104, .sl), (106, .agg 4), (108, .agg 4), (110, .agg 2), (115, .sl)]
    sl := [(22, si_Lapi_Var), (23, si_Lapi_Block), (28, si_Lapi_Func), (29, si_Lapi_Class), (30, si_Lapi_Extern), (34, si_LLstring), (36, si_Lstring), (39, si_Lapi_Arg), (40, si_Lapi_Frame), (41, si_Lapi_Virt), (45, si_Lapi_Instr), (48, si_Lapi_Phi), (54, si_Luint8), (62, si_Lapi_In), (70, si_Llive_set), (77, si_Lassign_set), (94, si_Lbool), (104, si_Lapi_Bind), (112, si_LLint), (115, si_Lint), (148, si_Lflow_step)]
    zs := [(25, .agg #[.string ⟨#[]⟩, .string ⟨#[]⟩, .slice none 0 0, .slice none 0 0, .slice none 0 0]), (32, .agg #[.bool false, .slice none 0 0, .slice none 0 0, .slice none 0 0, .slice none 0 0]), (38, .agg #[.int .i64 0, .string ⟨#[]⟩, .int .i64 0]), (43, .agg #[.int .i64 0, .string ⟨#[]⟩, .string ⟨#[]⟩, .slice none 0 0, .slice none 0 0, .slice none 0 0]), (50, .agg #[.string ⟨#[]⟩, .slice none 0 0, .slice none 0 0, .int .i64 0, .int .i64 0, .string ⟨#[]⟩, .int .i64 0, .slice none 0 0, .int .i64 0]), (64, .agg #[.string ⟨#[]⟩, .slice none 0 0]), (66, .agg #[.string ⟨#[]⟩, .int .i64 0, .string ⟨#[]⟩, .int .i64 0]), (76, .agg #[.string ⟨#[]⟩, .string ⟨#[]⟩]), (100, .agg #[.string ⟨#[]⟩, .bool false, .bool false, .int .i64 0, .int .i64 0]), (106, .agg #[.string ⟨#[]⟩, .string ⟨#[]⟩, .int .i64 0, .slice none 0 0]), (108, .agg #[.string ⟨#[]⟩, .int .i64 0, .string ⟨#[]⟩, .int .i64 0]), (110, .agg #[.string ⟨#[]⟩, .slice none 0 0])]
    off := [((25, 0), 0), ((25, 1), 1), ((25, 2), 2), ((25, 3), 3), ((25, 4), 4), ((32, 0), 0), ((32, 1), 1), ((32, 2), 2), ((32, 3), 3), ((32, 4), 4), ((38, 0), 0), ((38, 1), 1), ((38, 2), 2), ((43, 0), 0), ((43, 1), 1), ((43, 2), 2), ((43, 3), 3), ((43, 4), 4), ((43, 5), 5), ((47, 0), 0), ((47, 1), 1), ((47, 2), 4), ((47, 3), 5), ((50, 0), 0), ((50, 1), 1), ((50, 2), 2), ((50, 3), 3), ((58, 0), 0), ((58, 1), 1), ((60, 0), 0), ((60, 1), 1), ((64, 0), 0), ((64, 1), 1), ((66, 0), 0), ((66, 1), 1), ((76, 0), 0), ((76, 1), 1), ((100, 0), 0), ((100, 1), 1), ((100, 2), 2), ((100, 3), 3), ((100, 4), 4), ((106, 0), 0), ((106, 1), 1), ((106, 2), 2), ((106, 3), 3), ((108, 0), 0), ((108, 1), 1), ((110, 0), 0), ((110, 1), 1), ((147, 0), 0), ((147, 1), 1)]
    res := [(0, []), (2, [.int .i64]), (3, [.int .i64]), (4, [.bool]), (9, [.str]), (34, [.sl]), (36, [.sl]), (38, [.agg 3]), (39, [.sl]), (45, [.sl]), (54, [.sl]), (70, [.sl]), (73, [.map]), (77, [.sl]), (79, [.map]), (82, [.fn]), (92, [.int .i64, .bool]), (94, [.sl]), (96, [.int .u64]), (101, [.agg 5, .bool]), (112, [.sl]), (115, [.sl]), (134, [.sl, .sl])]
    fns := [5, 6, 7, 8, 9, 10, 11, 12, 13, 14, 15, 16, 17, 18, 19, 20, 21, 22, 23, 24, 25, 26, 27, 28, 29, 30, 31, 32, 33, 34, 35, 36, 37, 38, 39, 40, 41, 42, 43, 44, 45, 46, 47, 48, 49, 50, 54, 55, 56, 57, 58, 59, 60, 61, 62, 63, 64, 65, 66, 68, 69, 70, 75, 76, 77, 78, 79, 91]
    bs := [(25, ([(0, 1), (1, 1), (2, 1), (3, 1), (4, 1)], .agg #[.string ⟨#[]⟩, .string ⟨#[]⟩, .slice none 0 0, .slice none 0 0, .slice none 0 0])), (32, ([(0, 1), (1, 1), (2, 1), (3, 1), (4, 1)], .agg #[.bool false, .slice none 0 0, .slice none 0 0, .slice none 0 0, .slice none 0 0])), (38, ([(0, 1), (1, 1), (2, 1)], .agg #[.int .i64 0, .string ⟨#[]⟩, .int .i64 0])), (43, ([(0, 1), (1, 1), (2, 1), (3, 1), (4, 1), (5, 1)], .agg #[.int .i64 0, .string ⟨#[]⟩, .string ⟨#[]⟩, .slice none 0 0, .slice none 0 0, .slice none 0 0])), (47, ([(0, 1), (1, 3), (4, 1), (5, 1)], .agg #[.int .i64 0, .int .i64 0, .string ⟨#[]⟩, .int .i64 0, .slice none 0 0, .int .i64 0])), (50, ([(0, 1), (1, 1), (2, 1), (3, 6)], .agg #[.string ⟨#[]⟩, .slice none 0 0, .slice none 0 0, .int .i64 0, .int .i64 0, .string ⟨#[]⟩, .int .i64 0, .slice none 0 0, .int .i64 0])), (76, ([(0, 1), (1, 1)], .agg #[.string ⟨#[]⟩, .string ⟨#[]⟩])), (100, ([(0, 1), (1, 1), (2, 1), (3, 1), (4, 1)], .agg #[.string ⟨#[]⟩, .bool false, .bool false, .int .i64 0, .int .i64 0])), (147, ([(0, 1), (1, 1)], .agg #[.int .i64 0, .int .i64 0]))]
    mp := [(73, (.string, .bool false, .bool)), (79, (.string, .bool false, .bool)), (84, (.string, .map none, .map))]
    eqs := []
    fld := []
    ars := [(132, (35, 1))] }
theorem ty_ok : TOk Tryd.prog ty where
  tk := (List.forall_mem_cons.2 ⟨⟨⟨_, Tryd.underlying2, rfl, rfl⟩, by kernel_rfl⟩, List.forall_mem_cons.2 ⟨⟨⟨_, Tryd.underlying3, rfl, rfl⟩, by kernel_rfl⟩, List.forall_mem_cons.2 ⟨⟨⟨_, Tryd.underlying4, rfl, rfl⟩, by kernel_rfl⟩, List.forall_mem_cons.2 ⟨⟨⟨_, Tryd.underlying5, rfl, rfl⟩, by kernel_rfl⟩, List.forall_mem_cons.2 ⟨⟨⟨_, Tryd.underlying9, rfl, rfl⟩, by kernel_rfl⟩, List.forall_mem_cons.2 ⟨⟨⟨_, Tryd.underlying22, rfl, ⟨_, rfl⟩⟩, by kernel_rfl⟩, List.forall_mem_cons.2 ⟨⟨⟨_, Tryd.underlying23, rfl, ⟨_, rfl⟩⟩, by kernel_rfl⟩, List.forall_mem_cons.2 ⟨⟨⟨_, Tryd.underlying25, rfl, trivial⟩, by kernel_rfl⟩, List.forall_mem_cons.2 ⟨⟨⟨_, Tryd.underlying28, rfl, ⟨_, rfl⟩⟩, by kernel_rfl⟩, List.forall_mem_cons.2 ⟨⟨⟨_, Tryd.underlying29, rfl, ⟨_, rfl⟩⟩, by kernel_rfl⟩, List.forall_mem_cons.2 ⟨⟨⟨_, Tryd.underlying30, rfl, ⟨_, rfl⟩⟩, by kernel_rfl⟩, List.forall_mem_cons.2 ⟨⟨⟨_, Tryd.underlying32, rfl, trivial⟩, by kernel_rfl⟩, List.forall_mem_cons.2 ⟨⟨⟨_, Tryd.underlying36, rfl, ⟨_, rfl⟩⟩, by kernel_rfl⟩, List.forall_mem_cons.2 ⟨⟨⟨_, Tryd.underlying38, rfl, trivial⟩, by kernel_rfl⟩, List.forall_mem_cons.2 ⟨⟨⟨_, Tryd.underlying39, rfl, ⟨_, rfl⟩⟩, by kernel_rfl⟩, List.forall_mem_cons.2 ⟨⟨⟨_, Tryd.underlying40, rfl, ⟨_, rfl⟩⟩, by kernel_rfl⟩, List.forall_mem_cons.2 ⟨⟨⟨_, Tryd.underlying41, rfl, ⟨_, rfl⟩⟩, by kernel_rfl⟩, List.forall_mem_cons.2 ⟨⟨⟨_, Tryd.underlying43, rfl, trivial⟩, by kernel_rfl⟩, List.forall_mem_cons.2 ⟨⟨⟨_, Tryd.underlying45, rfl, ⟨_, rfl⟩⟩, by kernel_rfl⟩, List.forall_mem_cons.2 ⟨⟨⟨_, Tryd.underlying47, rfl, trivial⟩, by kernel_rfl⟩, List.forall_mem_cons.2 ⟨⟨⟨_, Tryd.underlying48, rfl, ⟨_, rfl⟩⟩, by kernel_rfl⟩, List.forall_mem_cons.2 ⟨⟨⟨_, Tryd.underlying50, rfl, trivial⟩, by kernel_rfl⟩, List.forall_mem_cons.2 ⟨⟨⟨_, Tryd.underlying54, rfl, ⟨_, rfl⟩⟩, by kernel_rfl⟩, List.forall_mem_cons.2 ⟨⟨⟨_, Tryd.underlying62, rfl, ⟨_, rfl⟩⟩, by kernel_rfl⟩, List.forall_mem_cons.2 ⟨⟨⟨_, Tryd.underlying64, rfl, trivial⟩, by kernel_rfl⟩, List.forall_mem_cons.2 ⟨⟨⟨_, Tryd.underlying66, rfl, trivial⟩, by kernel_rfl⟩, List.forall_mem_cons.2 ⟨⟨⟨_, Tryd.underlying73, rfl, ⟨_, _, rfl⟩⟩, by kernel_rfl⟩, List.forall_mem_cons.2 ⟨⟨⟨_, Tryd.underlying76, rfl, trivial⟩, by kernel_rfl⟩, List.forall_mem_cons.2 ⟨⟨⟨_, Tryd.underlying79, rfl, ⟨_, _, rfl⟩⟩, by kernel_rfl⟩, List.forall_mem_cons.2 ⟨⟨⟨_, Tryd.underlying96, rfl, rfl⟩, by kernel_rfl⟩, List.forall_mem_cons.2 ⟨⟨⟨_, Tryd.underlying100, rfl, trivial⟩, by kernel_rfl⟩, List.forall_mem_cons.2 ⟨⟨⟨_, Tryd.underlying104, rfl, ⟨_, rfl⟩⟩, by kernel_rfl⟩, List.forall_mem_cons.2 ⟨⟨⟨_, Tryd.underlying106, rfl, trivial⟩, by kernel_rfl⟩, List.forall_mem_cons.2 ⟨⟨⟨_, Tryd.underlying108, rfl, trivial⟩, by kernel_rfl⟩, List.forall_mem_cons.2 ⟨⟨⟨_, Tryd.underlying110, rfl, trivial⟩, by kernel_rfl⟩, List.forall_mem_cons.2 ⟨⟨⟨_, Tryd.underlying115, rfl, ⟨_, rfl⟩⟩, by kernel_rfl⟩, List.forall_mem_nil _⟩⟩⟩⟩⟩⟩⟩⟩⟩⟩⟩⟩⟩⟩⟩⟩⟩⟩⟩⟩⟩⟩⟩⟩⟩⟩⟩⟩⟩⟩⟩⟩⟩⟩⟩⟩)
  sl := (List.forall_mem_cons.2 ⟨⟨Tryd.underlying22, by kernel_rfl, by kernel_rfl, by decide⟩, List.forall_mem_cons.2 ⟨⟨Tryd.underlying23, by kernel_rfl, by kernel_rfl, by decide⟩, List.forall_mem_cons.2 ⟨⟨Tryd.underlying28, by kernel_rfl, by kernel_rfl, by decide⟩, List.forall_mem_cons.2 ⟨⟨Tryd.underlying29, by kernel_rfl, by kernel_rfl, by decide⟩, List.forall_mem_cons.2 ⟨⟨Tryd.underlying30, by kernel_rfl, by kernel_rfl, by decide⟩, List.forall_mem_cons.2 ⟨⟨Tryd.underlying34, by kernel_rfl, by kernel_rfl, by decide⟩, List.forall_mem_cons.2 ⟨⟨Tryd.underlying36, by kernel_rfl, by kernel_rfl, by decide⟩, List.forall_mem_cons.2 ⟨⟨Tryd.underlying39, by kernel_rfl, by kernel_rfl, by decide⟩, List.forall_mem_cons.2 ⟨⟨Tryd.underlying40, by kernel_rfl, by kernel_rfl, by decide⟩, List.forall_mem_cons.2 ⟨⟨Tryd.underlying41, by kernel_rfl, by kernel_rfl, by decide⟩, List.forall_mem_cons.2 ⟨⟨Tryd.underlying45, by kernel_rfl, by kernel_rfl, by decide⟩, List.forall_mem_cons.2 ⟨⟨Tryd.underlying48, by kernel_rfl, by kernel_rfl, by decide⟩, List.forall_mem_cons.2 ⟨⟨Tryd.underlying54, by kernel_rfl, by kernel_rfl, by decide⟩, List.forall_mem_cons.2 ⟨⟨Tryd.underlying62, by kernel_rfl, by kernel_rfl, by decide⟩, List.forall_mem_cons.2 ⟨⟨Tryd.underlying70, by kernel_rfl, by kernel_rfl, by decide⟩, List.forall_mem_cons.2 ⟨⟨Tryd.underlying77, by kernel_rfl, by kernel_rfl, by decide⟩, List.forall_mem_cons.2 ⟨⟨Tryd.underlying94, by kernel_rfl, by kernel_rfl, by decide⟩, List.forall_mem_cons.2 ⟨⟨Tryd.underlying104, by kernel_rfl, by kernel_rfl, by decide⟩, List.forall_mem_cons.2 ⟨⟨Tryd.underlying112, by kernel_rfl, by kernel_rfl, by decide⟩, List.forall_mem_cons.2 ⟨⟨Tryd.underlying115, by kernel_rfl, by kernel_rfl, by decide⟩, List.forall_mem_cons.2 ⟨⟨Tryd.underlying148, by kernel_rfl, by kernel_rfl, by decide⟩, List.forall_mem_nil _⟩⟩⟩⟩⟩⟩⟩⟩⟩⟩⟩⟩⟩⟩⟩⟩⟩⟩⟩⟩⟩)
  zs := (List.forall_mem_cons.2 ⟨(show ZsOk _ _ by unfold ZsOk; kernel_rfl), List.forall_mem_cons.2 ⟨(show ZsOk _ _ by unfold ZsOk; kernel_rfl), List.forall_mem_cons.2 ⟨(show ZsOk _ _ by unfold ZsOk; kernel_rfl), List.forall_mem_cons.2 ⟨(show ZsOk _ _ by unfold ZsOk; kernel_rfl), List.forall_mem_cons.2 ⟨(show ZsOk _ _ by unfold ZsOk; kernel_rfl), List.forall_mem_cons.2 ⟨(show ZsOk _ _ by unfold ZsOk; kernel_rfl), List.forall_mem_cons.2 ⟨(show ZsOk _ _ by unfold ZsOk; kernel_rfl), List.forall_mem_cons.2 ⟨(show ZsOk _ _ by unfold ZsOk; kernel_rfl), List.forall_mem_cons.2 ⟨(show ZsOk _ _ by unfold ZsOk; kernel_rfl), List.forall_mem_cons.2 ⟨(show ZsOk _ _ by unfold ZsOk; kernel_rfl), List.forall_mem_cons.2 ⟨(show ZsOk _ _ by unfold ZsOk; kernel_rfl), List.forall_mem_cons.2 ⟨(show ZsOk _ _ by unfold ZsOk; kernel_rfl), List.forall_mem_nil _⟩⟩⟩⟩⟩⟩⟩⟩⟩⟩⟩⟩)
  off := (List.forall_mem_cons.2 ⟨⟨_, _, Tryd.underlying25, rfl, rfl, by kernel_rfl⟩, List.forall_mem_cons.2 ⟨⟨_, _, Tryd.underlying25, rfl, rfl, by kernel_rfl⟩, List.forall_mem_cons.2 ⟨⟨_, _, Tryd.underlying25, rfl, rfl, by kernel_rfl⟩, List.forall_mem_cons.2 ⟨⟨_, _, Tryd.underlying25, rfl, rfl, by kernel_rfl⟩, List.forall_mem_cons.2 ⟨⟨_, _, Tryd.underlying25, rfl, rfl, by kernel_rfl⟩, List.forall_mem_cons.2 ⟨⟨_, _, Tryd.underlying32, rfl, rfl, by kernel_rfl⟩, List.forall_mem_cons.2 ⟨⟨_, _, Tryd.underlying32, rfl, rfl, by kernel_rfl⟩, List.forall_mem_cons.2 ⟨⟨_, _, Tryd.underlying32, rfl, rfl, by kernel_rfl⟩, List.forall_mem_cons.2 ⟨⟨_, _, Tryd.underlying32, rfl, rfl, by kernel_rfl⟩, List.forall_mem_cons.2 ⟨⟨_, _, Tryd.underlying32, rfl, rfl, by kernel_rfl⟩, List.forall_mem_cons.2 ⟨⟨_, _, Tryd.underlying38, rfl, rfl, by kernel_rfl⟩, List.forall_mem_cons.2 ⟨⟨_, _, Tryd.underlying38, rfl, rfl, by kernel_rfl⟩, List.forall_mem_cons.2 ⟨⟨_, _, Tryd.underlying38, rfl, rfl, by kernel_rfl⟩, List.forall_mem_cons.2 ⟨⟨_, _, Tryd.underlying43, rfl, rfl, by kernel_rfl⟩, List.forall_mem_cons.2 ⟨⟨_, _, Tryd.underlying43, rfl, rfl, by kernel_rfl⟩, List.forall_mem_cons.2 ⟨⟨_, _, Tryd.underlying43, rfl, rfl, by kernel_rfl⟩, List.forall_mem_cons.2 ⟨⟨_, _, Tryd.underlying43, rfl, rfl, by kernel_rfl⟩, List.forall_mem_cons.2 ⟨⟨_, _, Tryd.underlying43, rfl, rfl, by kernel_rfl⟩, List.forall_mem_cons.2 ⟨⟨_, _, Tryd.underlying43, rfl, rfl, by kernel_rfl⟩, List.forall_mem_cons.2 ⟨⟨_, _, Tryd.underlying47, rfl, rfl, by kernel_rfl⟩, List.forall_mem_cons.2 ⟨⟨_, _, Tryd.underlying47, rfl, rfl, by kernel_rfl⟩, List.forall_mem_cons.2 ⟨⟨_, _, Tryd.underlying47, rfl, rfl, by kernel_rfl⟩, List.forall_mem_cons.2 ⟨⟨_, _, Tryd.underlying47, rfl, rfl, by kernel_rfl⟩, List.forall_mem_cons.2 ⟨⟨_, _, Tryd.underlying50, rfl, rfl, by kernel_rfl⟩, List.forall_mem_cons.2 ⟨⟨_, _, Tryd.underlying50, rfl, rfl, by kernel_rfl⟩, List.forall_mem_cons.2 ⟨⟨_, _, Tryd.underlying50, rfl, rfl, by kernel_rfl⟩, List.forall_mem_cons.2 ⟨⟨_, _, Tryd.underlying50, rfl, rfl, by kernel_rfl⟩, List.forall_mem_cons.2 ⟨⟨_, _, Tryd.underlying58, rfl, rfl, by kernel_rfl⟩, List.forall_mem_cons.2 ⟨⟨_, _, Tryd.underlying58, rfl, rfl, by kernel_rfl⟩, List.forall_mem_cons.2 ⟨⟨_, _, Tryd.underlying60, rfl, rfl, by kernel_rfl⟩, List.forall_mem_cons.2 ⟨⟨_, _, Tryd.underlying60, rfl, rfl, by kernel_rfl⟩, List.forall_mem_cons.2 ⟨⟨_, _, Tryd.underlying64, rfl, rfl, by kernel_rfl⟩, List.forall_mem_cons.2 ⟨⟨_, _, Tryd.underlying64, rfl, rfl, by kernel_rfl⟩, List.forall_mem_cons.2 ⟨⟨_, _, Tryd.underlying66, rfl, rfl, by kernel_rfl⟩, List.forall_mem_cons.2 ⟨⟨_, _, Tryd.underlying66, rfl, rfl, by kernel_rfl⟩, List.forall_mem_cons.2 ⟨⟨_, _, Tryd.underlying76, rfl, rfl, by kernel_rfl⟩, List.forall_mem_cons.2 ⟨⟨_, _, Tryd.underlying76, rfl, rfl, by kernel_rfl⟩, List.forall_mem_cons.2 ⟨⟨_, _, Tryd.underlying100, rfl, rfl, by kernel_rfl⟩, List.forall_mem_cons.2 ⟨⟨_, _, Tryd.underlying100, rfl, rfl, by kernel_rfl⟩, List.forall_mem_cons.2 ⟨⟨_, _, Tryd.underlying100, rfl, rfl, by kernel_rfl⟩, List.forall_mem_cons.2 ⟨⟨_, _, Tryd.underlying100, rfl, rfl, by kernel_rfl⟩, List.forall_mem_cons.2 ⟨⟨_, _, Tryd.underlying100, rfl, rfl, by kernel_rfl⟩, List.forall_mem_cons.2 ⟨⟨_, _, Tryd.underlying106, rfl, rfl, by kernel_rfl⟩, List.forall_mem_cons.2 ⟨⟨_, _, Tryd.underlying106, rfl, rfl, by kernel_rfl⟩, List.forall_mem_cons.2 ⟨⟨_, _, Tryd.underlying106, rfl, rfl, by kernel_rfl⟩, List.forall_mem_cons.2 ⟨⟨_, _, Tryd.underlying106, rfl, rfl, by kernel_rfl⟩, List.forall_mem_cons.2 ⟨⟨_, _, Tryd.underlying108, rfl, rfl, by kernel_rfl⟩, List.forall_mem_cons.2 ⟨⟨_, _, Tryd.underlying108, rfl, rfl, by kernel_rfl⟩, List.forall_mem_cons.2 ⟨⟨_, _, Tryd.underlying110, rfl, rfl, by kernel_rfl⟩, List.forall_mem_cons.2 ⟨⟨_, _, Tryd.underlying110, rfl, rfl, by kernel_rfl⟩, List.forall_mem_cons.2 ⟨⟨_, _, Tryd.underlying147, rfl, rfl, by kernel_rfl⟩, List.forall_mem_cons.2 ⟨⟨_, _, Tryd.underlying147, rfl, rfl, by kernel_rfl⟩, List.forall_mem_nil _⟩⟩⟩⟩⟩⟩⟩⟩⟩⟩⟩⟩⟩⟩⟩⟩⟩⟩⟩⟩⟩⟩⟩⟩⟩⟩⟩⟩⟩⟩⟩⟩⟩⟩⟩⟩⟩⟩⟩⟩⟩⟩⟩⟩⟩⟩⟩⟩⟩⟩⟩⟩)
  fns := (List.forall_mem_cons.2 ⟨(show FnOk _ _ by unfold FnOk; kernel_rfl), List.forall_mem_cons.2 ⟨(show FnOk _ _ by unfold FnOk; kernel_rfl), List.forall_mem_cons.2 ⟨(show FnOk _ _ by unfold FnOk; kernel_rfl), List.forall_mem_cons.2 ⟨(show FnOk _ _ by unfold FnOk; kernel_rfl), List.forall_mem_cons.2 ⟨(show FnOk _ _ by unfold FnOk; kernel_rfl), List.forall_mem_cons.2 ⟨(show FnOk _ _ by unfold FnOk; kernel_rfl), List.forall_mem_cons.2 ⟨(show FnOk _ _ by unfold FnOk; kernel_rfl), List.forall_mem_cons.2 ⟨(show FnOk _ _ by unfold FnOk; kernel_rfl), List.forall_mem_cons.2 ⟨(show FnOk _ _ by unfold FnOk; kernel_rfl), List.forall_mem_cons.2 ⟨(show FnOk _ _ by unfold FnOk; kernel_rfl), List.forall_mem_cons.2 ⟨(show FnOk _ _ by unfold FnOk; kernel_rfl), List.forall_mem_cons.2 ⟨(show FnOk _ _ by unfold FnOk; kernel_rfl), List.forall_mem_cons.2 ⟨(show FnOk _ _ by unfold FnOk; kernel_rfl), List.forall_mem_cons.2 ⟨(show FnOk _ _ by unfold FnOk; kernel_rfl), List.forall_mem_cons.2 ⟨(show FnOk _ _ by unfold FnOk; kernel_rfl), List.forall_mem_cons.2 ⟨(show FnOk _ _ by unfold FnOk; kernel_rfl), List.forall_mem_cons.2 ⟨(show FnOk _ _ by unfold FnOk; kernel_rfl), List.forall_mem_cons.2 ⟨(show FnOk _ _ by unfold FnOk; kernel_rfl), List.forall_mem_cons.2 ⟨(show FnOk _ _ by unfold FnOk; kernel_rfl), List.forall_mem_cons.2 ⟨(show FnOk _ _ by unfold FnOk; kernel_rfl), List.forall_mem_cons.2 ⟨(show FnOk _ _ by unfold FnOk; kernel_rfl), List.forall_mem_cons.2 ⟨(show FnOk _ _ by unfold FnOk; kernel_rfl), List.forall_mem_cons.2 ⟨(show FnOk _ _ by unfold FnOk; kernel_rfl), List.forall_mem_cons.2 ⟨(show FnOk _ _ by unfold FnOk; kernel_rfl), List.forall_mem_cons.2 ⟨(show FnOk _ _ by unfold FnOk; kernel_rfl), List.forall_mem_cons.2 ⟨(show FnOk _ _ by unfold FnOk; kernel_rfl), List.forall_mem_cons.2 ⟨(show FnOk _ _ by unfold FnOk; kernel_rfl), List.forall_mem_cons.2 ⟨(show FnOk _ _ by unfold FnOk; kernel_rfl), List.forall_mem_cons.2 ⟨(show FnOk _ _ by unfold FnOk; kernel_rfl), List.forall_mem_cons.2 ⟨(show FnOk _ _ by unfold FnOk; kernel_rfl), List.forall_mem_cons.2 ⟨(show FnOk _ _ by unfold FnOk; kernel_rfl), List.forall_mem_cons.2 ⟨(show FnOk _ _ by unfold FnOk; kernel_rfl), List.forall_mem_cons.2 ⟨(show FnOk _ _ by unfold FnOk; kernel_rfl), List.forall_mem_cons.2 ⟨(show FnOk _ _ by unfold FnOk; kernel_rfl), List.forall_mem_cons.2 ⟨(show FnOk _ _ by unfold FnOk; kernel_rfl), List.forall_mem_cons.2 ⟨(show FnOk _ _ by unfold FnOk; kernel_rfl), List.forall_mem_cons.2 ⟨(show FnOk _ _ by unfold FnOk; kernel_rfl), List.forall_mem_cons.2 ⟨(show FnOk _ _ by unfold FnOk; kernel_rfl), List.forall_mem_cons.2 ⟨(show FnOk _ _ by unfold FnOk; kernel_rfl), List.forall_mem_cons.2 ⟨(show FnOk _ _ by unfold FnOk; kernel_rfl), List.forall_mem_cons.2 ⟨(show FnOk _ _ by unfold FnOk; kernel_rfl), List.forall_mem_cons.2 ⟨(show FnOk _ _ by unfold FnOk; kernel_rfl), List.forall_mem_cons.2 ⟨(show FnOk _ _ by unfold FnOk; kernel_rfl), List.forall_mem_cons.2 ⟨(show FnOk _ _ by unfold FnOk; kernel_rfl), List.forall_mem_cons.2 ⟨(show FnOk _ _ by unfold FnOk; kernel_rfl), List.forall_mem_cons.2 ⟨(show FnOk _ _ by unfold FnOk; kernel_rfl), List.forall_mem_cons.2 ⟨(show FnOk _ _ by unfold FnOk; kernel_rfl), List.forall_mem_cons.2 ⟨(show FnOk _ _ by unfold FnOk; kernel_rfl), List.forall_mem_cons.2 ⟨(show FnOk _ _ by unfold FnOk; kernel_rfl), List.forall_mem_cons.2 ⟨(show FnOk _ _ by unfold FnOk; kernel_rfl), List.forall_mem_cons.2 ⟨(show FnOk _ _ by unfold FnOk; kernel_rfl), List.forall_mem_cons.2 ⟨(show FnOk _ _ by unfold FnOk; kernel_rfl), List.forall_mem_cons.2 ⟨(show FnOk _ _ by unfold FnOk; kernel_rfl), List.forall_mem_cons.2 ⟨(show FnOk _ _ by unfold FnOk; kernel_rfl), List.forall_mem_cons.2 ⟨(show FnOk _ _ by unfold FnOk; kernel_rfl), List.forall_mem_cons.2 ⟨(show FnOk _ _ by unfold FnOk; kernel_rfl), List.forall_mem_cons.2 ⟨(show FnOk _ _ by unfold FnOk; kernel_rfl), List.forall_mem_cons.2 ⟨(show FnOk _ _ by unfold FnOk; kernel_rfl), List.forall_mem_cons.2 ⟨(show FnOk _ _ by unfold FnOk; kernel_rfl), List.forall_mem_cons.2 ⟨(show FnOk _ _ by unfold FnOk; kernel_rfl), List.forall_mem_cons.2 ⟨(show FnOk _ _ by unfold FnOk; kernel_rfl), List.forall_mem_cons.2 ⟨(show FnOk _ _ by unfold FnOk; kernel_rfl), List.forall_mem_cons.2 ⟨(show FnOk _ _ by unfold FnOk; kernel_rfl), List.forall_mem_cons.2 ⟨(show FnOk _ _ by unfold FnOk; kernel_rfl), List.forall_mem_cons.2 ⟨(show FnOk _ _ by unfold FnOk; kernel_rfl), List.forall_mem_cons.2 ⟨(show FnOk _ _ by unfold FnOk; kernel_rfl), List.forall_mem_cons.2 ⟨(show FnOk _ _ by unfold FnOk; kernel_rfl), List.forall_mem_cons.2 ⟨(show FnOk _ _ by unfold FnOk; kernel_rfl), List.forall_mem_nil _⟩⟩⟩⟩⟩⟩⟩⟩⟩⟩⟩⟩⟩⟩⟩⟩⟩⟩⟩⟩⟩⟩⟩⟩⟩⟩⟩⟩⟩⟩⟩⟩⟩⟩⟩⟩⟩⟩⟩⟩⟩⟩⟩⟩⟩⟩⟩⟩⟩⟩⟩⟩⟩⟩⟩⟩⟩⟩⟩⟩⟩⟩⟩⟩⟩⟩⟩⟩)
  bs := (List.forall_mem_cons.2 ⟨⟨_, Tryd.underlying25, by kernel_rfl, by kernel_rfl⟩, List.forall_mem_cons.2 ⟨⟨_, Tryd.underlying32, by kernel_rfl, by kernel_rfl⟩, List.forall_mem_cons.2 ⟨⟨_, Tryd.underlying38, by kernel_rfl, by kernel_rfl⟩, List.forall_mem_cons.2 ⟨⟨_, Tryd.underlying43, by kernel_rfl, by kernel_rfl⟩, List.forall_mem_cons.2 ⟨⟨_, Tryd.underlying47, by kernel_rfl, by kernel_rfl⟩, List.forall_mem_cons.2 ⟨⟨_, Tryd.underlying50, by kernel_rfl, by kernel_rfl⟩, List.forall_mem_cons.2 ⟨⟨_, Tryd.underlying76, by kernel_rfl, by kernel_rfl⟩, List.forall_mem_cons.2 ⟨⟨_, Tryd.underlying100, by kernel_rfl, by kernel_rfl⟩, List.forall_mem_cons.2 ⟨⟨_, Tryd.underlying147, by kernel_rfl, by kernel_rfl⟩, List.forall_mem_nil _⟩⟩⟩⟩⟩⟩⟩⟩⟩)
  mp := (List.forall_mem_cons.2 ⟨⟨9, 4, Tryd.underlying73, by kernel_rfl, (show ZsOk _ _ by unfold ZsOk; kernel_rfl)⟩, List.forall_mem_cons.2 ⟨⟨9, 4, Tryd.underlying79, by kernel_rfl, (show ZsOk _ _ by unfold ZsOk; kernel_rfl)⟩, List.forall_mem_cons.2 ⟨⟨9, 79, Tryd.underlying84, by kernel_rfl, (show ZsOk _ _ by unfold ZsOk; kernel_rfl)⟩, List.forall_mem_nil _⟩⟩⟩)
  eqs := (List.forall_mem_nil _)
  fld := (List.forall_mem_nil _)
  ars := (List.forall_mem_cons.2 ⟨⟨_, Tryd.underlying132, by kernel_rfl⟩, List.forall_mem_nil _⟩)
theorem mixed : Tryd.prog.follows .mixedOrders = true := by kernel_rfl

/-- lateen/lateenlaw12.LiveKeeps -/
def lateenlaw12_LiveKeeps (f : Array Value) (h : Heap) (K : Value → Heap → Prop) : Prop :=
  new 25 f h fun p h_1 =>
  joinW (fun _ (t : Bool) h_2 =>
    ifB t
     (ACalls Tryd.prog F_lateenlaw12_awake [] h_2 fun v h_3 => as1 .bool v fun r =>
     K (.bool r) h_3)
     (ld (.agg 5) h_2 p fun (x : Array Value) =>
  bld si_Lapi_Func 1 [(0, .agg x)] h_2 fun s h_4 =>
  bst [(0, 1), (1, 1), (2, 1), (3, 1), (4, 1)] #[.bool false, .slice none 0 0, .slice none 0 0, .slice none 0 0, .slice none 0 0] [(4, s.v)] fun c =>
  new 32 #[.bool false, .slice none 0 0, .slice none 0 0, .slice none 0 0, .slice none 0 0] h_4 fun p_1 h_5 =>
  c.size = 5 ∧ st c.toList h_5 p_1 fun h_6 =>
  ld (.agg 5) h_6 p_1 fun (x_1 : Array Value) =>
  ACalls Tryd.prog F_lateenref06_Lines [.agg x_1] h_6 fun v_1 h_7 => as1 .str v_1 fun r_1 =>
  ld (.agg 5) h_7 p fun (x_2 : Array Value) =>
  ACalls Tryd.prog F_live_Ins [.agg x_2] h_7 fun v_2 h_8 => as1 .sl v_2 fun r_2 =>
  loopW (fun _ (i : Int) h_9 next =>
    ifB (decide (i < (r_2.len : Int)))
     (loopW (fun _ (k_1 : Int) h_10 next_1 =>
      idx 1 r_2 i fun p_2 =>
      ld .sl h_10 p_2 fun (x_3 : Sl) =>
      ifB (decide (k_1 < (x_3.len : Int)))
       (idx 1 r_2 i fun p_3 =>
      ld .sl h_10 p_3 fun (x_4 : Sl) =>
      idx 1 x_4 k_1 fun p_4 =>
      st [.string ⟨#[115, 112, 111, 105, 108, 116]⟩] h_10 p_4 fun h_11 =>
      ar .i64 (k_1 + 1) fun n =>
      next_1 n h_11)
       (ar .i64 (i + 1) fun n_1 =>
    next n_1 h_10)) 0 h_9)
     (joinW (fun _ (t_1 : Bool) h_12 =>
    K (.bool t_1) h_12) fun k_2 =>
  ∃ (R : Heap → Prop) (h_13 : Heap) (L : List As) (S : Specs), R h_9 ∧ Sep h_13 h_9 L ∧ (ldF (.agg 5) R p_1 fun (x_5 : Array Value) =>
  freeW R h_13 (S 1 [.agg x_5]) [] (fun h_14 Kv =>
      ACalls Tryd.prog F_lateenref06_Lines [.agg x_5] h_14 fun v_3 h_15 => as1 .str v_3 fun r_3 =>
      Kv (.string r_3) h_15) fun v_4 => as1 .str v_4 fun r_4 =>
  ifB (r_4.toList == r_1.toList)
   (ldF (.agg 5) R p fun (x_6 : Array Value) =>
   freeW R h_13 (S 6 [.agg x_6, .bool true]) [] (fun h_16 Kv_1 =>
        ACalls Tryd.prog F_live_Ins [.agg x_6] h_16 fun v_5 h_17 => as1 .sl v_5 fun r_5 =>
        Kv_1 r_5.v h_17) fun v_6 => as1 .sl v_6 fun r_6 =>
    ldF .sl R (p.add 4) fun (x_7 : Sl) =>
       endF R h_13 ((S 1 [.agg x_5]).A v_4 ++ ((S 6 [.agg x_6, .bool true]).A v_6 ++ (L ++ []))) fun h_18 =>
         k_2 ((r_6.len : Int) == (x_7.len : Int)) h_18)
   (endF R h_13 ((S 1 [.agg x_5]).A v_4 ++ (L ++ [])) fun h_19 =>
         k_2 false h_19)))) 0 h_8)) fun k =>
  ACalls Tryd.prog F_lateenlaw12_awake [] h_1 fun v_7 h_20 => as1 .bool v_7 fun r_7 =>
  ifB (!r_7)
   (k true h_20)
   (ld (.agg 5) h_20 p fun (x_8 : Array Value) =>
   ACalls Tryd.prog F_lateenlaw12_few [.agg x_8] h_20 fun v_8 h_21 => as1 .bool v_8 fun r_8 =>
    k (!r_8) h_21)
def lateenlaw12_LiveKeeps_a : Ann := (.seq .leaf (.seq (.join [(14, .bool)] [1] .leaf (.cond (.seq .leaf .leaf) .leaf)) (.seq .leaf (.seq .leaf (.seq .leaf (.seq (.seq .leaf (.block (.loop [(6, .int .i64)] [1, 3, 4, 5] (.seq (.seq .leaf (.cond .leaf .leaf)) (.seq (.block (.seq .leaf (.block (.loop [(7, .int .i64)] [1, 3, 4, 5, 6] (.seq (.seq .leaf (.cond .leaf .leaf)) (.seq (.block .leaf) .leaf)))))) .leaf))))) (.join [(2, .bool)] [] (.free 13 [[], [], [], [], [], [], [], [], [], [], [], [], [], []] [1, 6, 14]) .leaf)))))))
theorem lateenlaw12_LiveKeeps_eq (f : Array Value) (h : Heap) (K : Value → Heap → Prop) : lateenlaw12_LiveKeeps f h K = fnW Tryd.prog ty lateenlaw12_LiveKeeps_a (bodyOf Tryd.f3) [.tmp 2] [.agg f] h K := by kernel_rfl
theorem lateenlaw12_LiveKeeps_of {f : Array Value} {h : Heap} {K : Value → Heap → Prop} (hw : lateenlaw12_LiveKeeps f h K) : ACalls Tryd.prog F_lateenlaw12_LiveKeeps [.agg f] h K :=
  calls_sound ty_ok mixed lateenlaw12_LiveKeeps_a (c := bodyOf Tryd.f3) Tryd.func3 (by kernel_rfl) (by kernel_rfl) (by kernel_rfl) (Nat.le_of_ble_eq_true rfl) (by rw [lateenlaw12_LiveKeeps_eq] at hw; exact hw)

/-- lateen/lateenlaw13.AssignKeeps -/
def lateenlaw13_AssignKeeps (f : Array Value) (h : Heap) (K : Value → Heap → Prop) : Prop :=
  new 25 f h fun p h_1 =>
  joinW (fun _ (t : Bool) h_2 =>
    ifB t
     (ACalls Tryd.prog F_lateenlaw13_awake [] h_2 fun v h_3 => as1 .bool v fun r =>
     K (.bool r) h_3)
     (ld (.agg 5) h_2 p fun (x : Array Value) =>
  bld si_Lapi_Func 1 [(0, .agg x)] h_2 fun s h_4 =>
  bst [(0, 1), (1, 1), (2, 1), (3, 1), (4, 1)] #[.bool false, .slice none 0 0, .slice none 0 0, .slice none 0 0, .slice none 0 0] [(4, s.v)] fun c =>
  new 32 #[.bool false, .slice none 0 0, .slice none 0 0, .slice none 0 0, .slice none 0 0] h_4 fun p_1 h_5 =>
  c.size = 5 ∧ st c.toList h_5 p_1 fun h_6 =>
  ld (.agg 5) h_6 p_1 fun (x_1 : Array Value) =>
  ACalls Tryd.prog F_lateenref06_Lines [.agg x_1] h_6 fun v_1 h_7 => as1 .str v_1 fun r_1 =>
  ld (.agg 5) h_7 p fun (x_2 : Array Value) =>
  ACalls Tryd.prog F_assign_Ins [.agg x_2] h_7 fun v_2 h_8 => as1 .sl v_2 fun r_2 =>
  loopW (fun _ (i : Int) h_9 next =>
    ifB (decide (i < (r_2.len : Int)))
     (loopW (fun _ (k_1 : Int) h_10 next_1 =>
      idx 1 r_2 i fun p_2 =>
      ld .sl h_10 p_2 fun (x_3 : Sl) =>
      ifB (decide (k_1 < (x_3.len : Int)))
       (idx 1 r_2 i fun p_3 =>
      ld .sl h_10 p_3 fun (x_4 : Sl) =>
      idx 1 x_4 k_1 fun p_4 =>
      st [.string ⟨#[115, 112, 111, 105, 108, 116]⟩] h_10 p_4 fun h_11 =>
      ar .i64 (k_1 + 1) fun n =>
      next_1 n h_11)
       (ar .i64 (i + 1) fun n_1 =>
    next n_1 h_10)) 0 h_9)
     (ld (.agg 5) h_9 p fun (x_5 : Array Value) =>
  ACalls Tryd.prog F_assign_Right [.agg x_5] h_9 fun v_3 h_12 => as1 .bool v_3 fun _ =>
  ld (.agg 5) h_12 p_1 fun (x_6 : Array Value) =>
  ACalls Tryd.prog F_lateenref06_Lines [.agg x_6] h_12 fun v_4 h_13 => as1 .str v_4 fun r_4 =>
  K (.bool (r_4.toList == r_1.toList)) h_13)) 0 h_8)) fun k =>
  ACalls Tryd.prog F_lateenlaw13_awake [] h_1 fun v_5 h_14 => as1 .bool v_5 fun r_5 =>
  ifB (!r_5)
   (k true h_14)
   (ld (.agg 5) h_14 p fun (x_7 : Array Value) =>
   ACalls Tryd.prog F_lateenlaw13_few [.agg x_7] h_14 fun v_6 h_15 => as1 .bool v_6 fun r_6 =>
    k (!r_6) h_15)
def lateenlaw13_AssignKeeps_a : Ann := (.seq .leaf (.seq (.join [(14, .bool)] [1] .leaf (.cond (.seq .leaf .leaf) .leaf)) (.seq .leaf (.seq .leaf (.seq .leaf (.seq (.seq .leaf (.block (.loop [(6, .int .i64)] [1, 3, 4, 5] (.seq (.seq .leaf (.cond .leaf .leaf)) (.seq (.block (.seq .leaf (.block (.loop [(7, .int .i64)] [1, 3, 4, 5, 6] (.seq (.seq .leaf (.cond .leaf .leaf)) (.seq (.block .leaf) .leaf)))))) .leaf))))) (.seq .leaf (.seq .leaf .leaf))))))))
theorem lateenlaw13_AssignKeeps_eq (f : Array Value) (h : Heap) (K : Value → Heap → Prop) : lateenlaw13_AssignKeeps f h K = fnW Tryd.prog ty lateenlaw13_AssignKeeps_a (bodyOf Tryd.f4) [.tmp 2] [.agg f] h K := by kernel_rfl
theorem lateenlaw13_AssignKeeps_of {f : Array Value} {h : Heap} {K : Value → Heap → Prop} (hw : lateenlaw13_AssignKeeps f h K) : ACalls Tryd.prog F_lateenlaw13_AssignKeeps [.agg f] h K :=
  calls_sound ty_ok mixed lateenlaw13_AssignKeeps_a (c := bodyOf Tryd.f4) Tryd.func4 (by kernel_rfl) (by kernel_rfl) (by kernel_rfl) (Nat.le_of_ble_eq_true rfl) (by rw [lateenlaw13_AssignKeeps_eq] at hw; exact hw)

/-- lateen/lateenlaw12.awake -/
def lateenlaw12_awake  (h : Heap) (K : Value → Heap → Prop) : Prop :=
  bst [(0, 1), (1, 1), (2, 1)] #[.int .i64 0, .string ⟨#[]⟩, .int .i64 0] [(0, .int .i64 2), (2, .int .i64 1)] fun c =>
  new 38 #[.int .i64 0, .string ⟨#[]⟩, .int .i64 0] h fun p h_1 =>
  c.size = 3 ∧ st c.toList h_1 p fun h_2 =>
  ∃ (R : Heap → Prop) (h_3 : Heap) (L : List As) (S : Specs), R h_2 ∧ Sep h_3 h_2 L ∧ (ldF (.agg 3) R p fun (x : Array Value) =>
  freeW R h_3 (S 1 [.agg x]) [] (fun h_4 Kv =>
      bld si_Lapi_Arg 1 [(0, .agg x)] h_4 fun s h_5 =>
      Kv s.v h_5) fun v => as1 .sl v fun r =>
  bst [(0, 1), (1, 1), (2, 1), (3, 1), (4, 1), (5, 1)] #[.int .i64 0, .string ⟨#[]⟩, .string ⟨#[]⟩, .slice none 0 0, .slice none 0 0, .slice none 0 0] [(0, .int .i64 24), (1, .string ⟨#[120]⟩), (3, r.v)] fun c_1 =>
  freeW R h_3 (S 3 []) [] (fun h_6 Kv_1 =>
      ACalls Tryd.prog F_lateenlaw12_v [.string ⟨#[120]⟩] h_6 fun v_1 h_7 => as1 (.agg 3) v_1 fun r_1 =>
      Kv_1 (.agg r_1) h_7) fun v_2 => as1 (.agg 3) v_2 fun r_2 =>
  freeW R h_3 (S 4 []) [] (fun h_8 Kv_2 =>
      ACalls Tryd.prog F_lateenlaw12_v [.string ⟨#[122]⟩] h_8 fun v_3 h_9 => as1 (.agg 3) v_3 fun r_3 =>
      Kv_2 (.agg r_3) h_9) fun v_4 => as1 (.agg 3) v_4 fun r_4 =>
  freeW R h_3 (S 5 [.agg r_2, .agg r_4]) ((S 3 []).A v_2 ++ ((S 4 []).A v_4 ++ [])) (fun h_10 Kv_3 =>
      bld si_Lapi_Arg 2 [(0, .agg r_2), (1, .agg r_4)] h_10 fun s_1 h_11 =>
      Kv_3 s_1.v h_11) fun v_5 => as1 .sl v_5 fun r_5 =>
  bst [(0, 1), (1, 1), (2, 1), (3, 1), (4, 1), (5, 1)] #[.int .i64 0, .string ⟨#[]⟩, .string ⟨#[]⟩, .slice none 0 0, .slice none 0 0, .slice none 0 0] [(0, .int .i64 1), (1, .string ⟨#[121]⟩), (3, r_5.v)] fun c_2 =>
  freeW R h_3 (S 7 [.agg c_1, .agg c_2]) [] (fun h_12 Kv_4 =>
      bld si_Lapi_Instr 2 [(0, .agg c_1), (1, .agg c_2)] h_12 fun s_2 h_13 =>
      Kv_4 s_2.v h_13) fun v_6 => as1 .sl v_6 fun r_6 =>
  freeW R h_3 (S 8 []) [] (fun h_14 Kv_5 =>
      ACalls Tryd.prog F_lateenlaw12_v [.string ⟨#[121]⟩] h_14 fun v_7 h_15 => as1 (.agg 3) v_7 fun r_7 =>
      Kv_5 (.agg r_7) h_15) fun v_8 => as1 (.agg 3) v_8 fun r_8 =>
  bst [(0, 1), (1, 3), (4, 1), (5, 1)] #[.int .i64 0, .int .i64 0, .string ⟨#[]⟩, .int .i64 0, .slice none 0 0, .int .i64 0] [(0, .int .i64 3), (1, .agg r_8)] fun c_3 =>
  bst [(0, 1), (1, 1), (2, 1), (3, 6)] #[.string ⟨#[]⟩, .slice none 0 0, .slice none 0 0, .int .i64 0, .int .i64 0, .string ⟨#[]⟩, .int .i64 0, .slice none 0 0, .int .i64 0] [(0, .string ⟨#[98]⟩), (2, r_6.v), (3, .agg c_3)] fun c_4 =>
  freeW R h_3 (S 11 []) [] (fun h_16 Kv_6 =>
      new 50 #[.string ⟨#[]⟩, .slice none 0 0, .slice none 0 0, .int .i64 0, .int .i64 0, .string ⟨#[]⟩, .int .i64 0, .slice none 0 0, .int .i64 0] h_16 fun p_1 h_17 =>
      Kv_6 (.pointer (some p_1)) h_17) fun v_9 => asP v_9 fun p_2 =>
  endF R h_3 ((S 1 [.agg x]).A v ++ ((S 5 [.agg r_2, .agg r_4]).A v_5 ++ ((S 7 [.agg c_1, .agg c_2]).A v_6 ++ ((S 8 []).A v_8 ++ ((S 11 []).A v_9 ++ (L ++ [])))))) fun h_18 =>
  c_4.size = 9 ∧ st c_4.toList h_18 p_2 fun h_19 =>
  ld (.agg 9) h_19 p_2 fun (x_1 : Array Value) =>
  bld si_Lapi_Block 1 [(0, .agg x_1)] h_19 fun s_3 h_20 =>
  bst [(0, 1), (1, 1), (2, 1), (3, 1), (4, 1)] #[.string ⟨#[]⟩, .string ⟨#[]⟩, .slice none 0 0, .slice none 0 0, .slice none 0 0] [(4, s_3.v)] fun c_5 =>
  new 25 #[.string ⟨#[]⟩, .string ⟨#[]⟩, .slice none 0 0, .slice none 0 0, .slice none 0 0] h_20 fun p_3 h_21 =>
  c_5.size = 5 ∧ st c_5.toList h_21 p_3 fun h_22 =>
  joinW (fun _ (t : Bool) h_23 =>
    K (.bool t) h_23) fun k =>
  ld (.agg 5) h_22 p_3 fun (x_2 : Array Value) =>
  ACalls Tryd.prog F_live_At [.agg x_2, .int .i64 0, .int .i64 0] h_22 fun v_10 h_24 => as1 .sl v_10 fun r_9 =>
  bld si_Lstring 1 [(0, .string ⟨#[122]⟩)] h_24 fun s_4 h_25 =>
  ACalls Tryd.prog F_lateenref12_Same [r_9.v, s_4.v] h_25 fun v_11 h_26 => as1 .bool v_11 fun r_10 =>
  ifB r_10
   (ld (.agg 5) h_26 p_3 fun (x_3 : Array Value) =>
   ACalls Tryd.prog F_live_At [.agg x_3, .int .i64 0, .int .i64 1] h_26 fun v_12 h_27 => as1 .sl v_12 fun r_11 =>
    bld si_Lstring 2 [(0, .string ⟨#[120]⟩), (1, .string ⟨#[122]⟩)] h_27 fun s_5 h_28 =>
     ACalls Tryd.prog F_lateenref12_Same [r_11.v, s_5.v] h_28 fun v_13 h_29 => as1 .bool v_13 fun r_12 =>
      ifB r_12
       (ld (.agg 5) h_29 p_3 fun (x_4 : Array Value) =>
       ACalls Tryd.prog F_live_At [.agg x_4, .int .i64 0, .int .i64 2] h_29 fun v_14 h_30 => as1 .sl v_14 fun r_13 =>
        bld si_Lstring 1 [(0, .string ⟨#[121]⟩)] h_30 fun s_6 h_31 =>
         ACalls Tryd.prog F_lateenref12_Same [r_13.v, s_6.v] h_31 fun v_15 h_32 => as1 .bool v_15 fun r_14 =>
          ifB r_14
           (ld (.agg 5) h_32 p_3 fun (x_5 : Array Value) =>
           ACalls Tryd.prog F_live_At [.agg x_5, .int .i64 0, .int .i64 3] h_32 fun v_16 h_33 => as1 .sl v_16 fun r_15 =>
            k ((r_15.len : Int) == 0) h_33)
           (k false h_32))
       (k false h_29))
   (k false h_26))
def lateenlaw12_awake_a : Ann := (.seq .leaf (.seq .leaf (.seq (.free 12 [[], [], [], [], [], [3, 4], [], [], [], [], [], [], []] [1, 3, 4, 5, 7, 8, 11, 13]) (.seq .leaf (.join [(0, .bool)] [] .leaf .leaf)))))
theorem lateenlaw12_awake_eq  (h : Heap) (K : Value → Heap → Prop) : lateenlaw12_awake  h K = fnW Tryd.prog ty lateenlaw12_awake_a (bodyOf Tryd.f5) [.tmp 0] [] h K := by kernel_rfl
theorem lateenlaw12_awake_of  {h : Heap} {K : Value → Heap → Prop} (hw : lateenlaw12_awake  h K) : ACalls Tryd.prog F_lateenlaw12_awake [] h K :=
  calls_sound ty_ok mixed lateenlaw12_awake_a (c := bodyOf Tryd.f5) Tryd.func5 (by kernel_rfl) (by kernel_rfl) (by kernel_rfl) (Nat.le_of_ble_eq_true rfl) (by rw [lateenlaw12_awake_eq] at hw; exact hw)

/-- lateen/lateenlaw12.few -/
def lateenlaw12_few (f : Array Value) (h : Heap) (K : Value → Heap → Prop) : Prop :=
  new 25 f h fun p h_1 =>
  joinW (fun _ (t : Bool) h_2 =>
    K (.bool t) h_2) fun k =>
  ld (.agg 5) h_1 p fun (x : Array Value) =>
  ACalls Tryd.prog F_lateenref06_FewFunc [.agg x, .int .i64 3000] h_1 fun v h_3 => as1 (.int .i64) v fun r =>
  ifB (decide (r ≤ 3000))
   (ld (.agg 5) h_3 p fun (x_1 : Array Value) =>
   ACalls Tryd.prog F_lateenref08_Few [.agg x_1] h_3 fun v_1 h_4 => as1 .bool v_1 fun r_1 =>
    ifB r_1
     (ld .sl h_4 (p.add 4) fun (x_2 : Sl) =>
      ifB (decide ((x_2.len : Int) ≤ 30))
         (ld (.agg 5) h_4 p fun (x_3 : Array Value) =>
         ACalls Tryd.prog F_lateenref08_Right [.agg x_3] h_4 fun v_2 h_5 => as1 .bool v_2 fun r_2 =>
          k r_2 h_5)
         (k false h_4))
     (k false h_4))
   (k false h_3)
def lateenlaw12_few_a : Ann := (.seq .leaf (.join [(2, .bool)] [] .leaf .leaf))
theorem lateenlaw12_few_eq (f : Array Value) (h : Heap) (K : Value → Heap → Prop) : lateenlaw12_few f h K = fnW Tryd.prog ty lateenlaw12_few_a (bodyOf Tryd.f6) [.tmp 2] [.agg f] h K := by kernel_rfl
theorem lateenlaw12_few_of {f : Array Value} {h : Heap} {K : Value → Heap → Prop} (hw : lateenlaw12_few f h K) : ACalls Tryd.prog F_lateenlaw12_few [.agg f] h K :=
  calls_sound ty_ok mixed lateenlaw12_few_a (c := bodyOf Tryd.f6) Tryd.func6 (by kernel_rfl) (by kernel_rfl) (by kernel_rfl) (Nat.le_of_ble_eq_true rfl) (by rw [lateenlaw12_few_eq] at hw; exact hw)

/-- lateen/lateenref06.Lines -/
def lateenref06_Lines (p : Array Value) (h : Heap) (K : Value → Heap → Prop) : Prop :=
  new 32 p h fun p_1 h_1 =>
  joinW (fun _ (out : Sl) h_2 =>
    loopW (fun _ (q_out_1 : Sl × Int) h_3 next =>
      ld .sl h_3 (p_1.add 1) fun (x : Sl) =>
      ifB (decide (q_out_1.2 < (x.len : Int)))
       (∃ (R : Heap → Prop) (h_4 : Heap) (L : List As) (S : Specs), R h_3 ∧ Sep h_4 h_3 L ∧ (ldF .sl R (p_1.add 1) fun (x_1 : Sl) =>
      idx 2 x_1 q_out_1.2 fun p_2 =>
      ldF .str R (p_2.add 0) fun (x_2 : ByteArray) =>
      freeW R h_4 (S 7 [.string x_2]) (L ++ []) (fun h_5 Kv =>
          bld si_Lstring 2 [(0, .string ⟨#[99, 108, 97, 115, 115]⟩), (1, .string x_2)] h_5 fun s h_6 =>
          Kv s.v h_6) fun v => as1 .sl v fun r =>
      freeW R h_4 (S 8 [q_out_1.1.v, r.v]) ((S 7 [.string x_2]).A v ++ []) (fun h_7 Kv_1 =>
          ACalls Tryd.prog F_lateenref06_put [q_out_1.1.v, r.v] h_7 fun v_1 h_8 => as1 .sl v_1 fun r_1 =>
          Kv_1 r_1.v h_8) fun v_2 => as1 .sl v_2 fun r_2 =>
      ldF .sl R (p_1.add 1) fun (x_3 : Sl) =>
      idx 2 x_3 q_out_1.2 fun p_3 =>
      ldF .sl R (p_3.add 1) fun (x_4 : Sl) =>
      freeW R h_4 (S 15 [r_2.v, x_4.v]) ((S 8 [q_out_1.1.v, r.v]).A v_2 ++ []) (fun h_9 Kv_2 =>
          ACalls Tryd.prog F_lateenref06_vars [r_2.v, .string ⟨#[102, 105, 101, 108, 100]⟩, x_4.v] h_9 fun v_3 h_10 => as1 .sl v_3 fun r_3 =>
          Kv_2 r_3.v h_10) fun v_4 => as1 .sl v_4 fun r_4 =>
      endF R h_4 ((S 15 [r_2.v, x_4.v]).A v_4 ++ []) fun h_11 =>
      ar .i64 (q_out_1.2 + 1) fun n =>
      next (r_4, n) h_11))
       (ld .sl h_3 (p_1.add 2) fun (x_5 : Sl) =>
    ACalls Tryd.prog F_lateenref06_vars [q_out_1.1.v, .string ⟨#[103, 108, 111, 98, 97, 108]⟩, x_5.v] h_3 fun v_5 h_12 => as1 .sl v_5 fun r_5 =>
    loopW (fun _ (q_out_2 : Sl × Int) h_13 next_1 =>
      ld .sl h_13 (p_1.add 3) fun (x_6 : Sl) =>
      ifB (decide (q_out_2.2 < (x_6.len : Int)))
       (∃ (R_1 : Heap → Prop) (h_14 : Heap) (L_1 : List As) (S_1 : Specs), R_1 h_13 ∧ Sep h_14 h_13 L_1 ∧ (ldF .sl R_1 (p_1.add 3) fun (x_7 : Sl) =>
      idx 2 x_7 q_out_2.2 fun p_4 =>
      ldF .str R_1 (p_4.add 0) fun (x_8 : ByteArray) =>
      ldF .sl R_1 (p_1.add 3) fun (x_9 : Sl) =>
      idx 2 x_9 q_out_2.2 fun p_5 =>
      ldF (.int .i64) R_1 (p_5.add 1) fun (x_10 : Int) =>
      freeW R_1 h_14 (S_1 13 [.int .i64 x_10]) (L_1 ++ []) (fun h_15 Kv_3 =>
          ACalls Tryd.prog F_lateenref01_Put [.int .i64 x_10] h_15 fun v_6 h_16 => as1 .str v_6 fun r_6 =>
          Kv_3 (.string r_6) h_16) fun v_7 => as1 .str v_7 fun r_7 =>
      freeW R_1 h_14 (S_1 14 [.string x_8, .string r_7]) ((S_1 13 [.int .i64 x_10]).A v_7 ++ []) (fun h_17 Kv_4 =>
          bld si_Lstring 3 [(0, .string ⟨#[101, 120, 116, 101, 114, 110]⟩), (1, .string x_8), (2, .string r_7)] h_17 fun s_1 h_18 =>
          Kv_4 s_1.v h_18) fun v_8 => as1 .sl v_8 fun r_8 =>
      freeW R_1 h_14 (S_1 15 [q_out_2.1.v, r_8.v]) ((S_1 14 [.string x_8, .string r_7]).A v_8 ++ []) (fun h_19 Kv_5 =>
          ACalls Tryd.prog F_lateenref06_put [q_out_2.1.v, r_8.v] h_19 fun v_9 h_20 => as1 .sl v_9 fun r_9 =>
          Kv_5 r_9.v h_20) fun v_10 => as1 .sl v_10 fun r_10 =>
      endF R_1 h_14 ((S_1 15 [q_out_2.1.v, r_8.v]).A v_10 ++ []) fun h_21 =>
      ar .i64 (q_out_2.2 + 1) fun n_1 =>
      next_1 (r_10, n_1) h_21))
       (loopW (fun _ (q_out_3 : Sl × Int) h_22 next_2 =>
      ld .sl h_22 (p_1.add 4) fun (x_11 : Sl) =>
      ifB (decide (q_out_3.2 < (x_11.len : Int)))
       (ld .sl h_22 (p_1.add 4) fun (x_12 : Sl) =>
      idx 5 x_12 q_out_3.2 fun p_6 =>
      ld (.agg 5) h_22 p_6 fun (x_13 : Array Value) =>
      new 25 #[.string ⟨#[]⟩, .string ⟨#[]⟩, .slice none 0 0, .slice none 0 0, .slice none 0 0] h_22 fun p_7 h_23 =>
      x_13.size = 5 ∧ st x_13.toList h_23 p_7 fun h_24 =>
      ∃ (R_2 : Heap → Prop) (h_25 : Heap) (L_2 : List As) (S_2 : Specs), R_2 h_24 ∧ Sep h_25 h_24 L_2 ∧ (ldF .str R_2 (p_7.add 0) fun (x_14 : ByteArray) =>
      ldF .str R_2 (p_7.add 1) fun (x_15 : ByteArray) =>
      freeW R_2 h_25 (S_2 5 [.string x_14, .string x_15]) (L_2 ++ []) (fun h_26 Kv_6 =>
          bld si_Lstring 3 [(0, .string ⟨#[102, 117, 110, 99]⟩), (1, .string x_14), (2, .string x_15)] h_26 fun s_2 h_27 =>
          Kv_6 s_2.v h_27) fun v_11 => as1 .sl v_11 fun r_11 =>
      freeW R_2 h_25 (S_2 6 [q_out_3.1.v, r_11.v]) ((S_2 5 [.string x_14, .string x_15]).A v_11 ++ []) (fun h_28 Kv_7 =>
          ACalls Tryd.prog F_lateenref06_put [q_out_3.1.v, r_11.v] h_28 fun v_12 h_29 => as1 .sl v_12 fun r_12 =>
          Kv_7 r_12.v h_29) fun v_13 => as1 .sl v_13 fun r_13 =>
      ldF .sl R_2 (p_7.add 2) fun (x_16 : Sl) =>
      freeW R_2 h_25 (S_2 9 [r_13.v, x_16.v]) ((S_2 6 [q_out_3.1.v, r_11.v]).A v_13 ++ []) (fun h_30 Kv_8 =>
          ACalls Tryd.prog F_lateenref06_vars [r_13.v, .string ⟨#[112, 97, 114, 97, 109]⟩, x_16.v] h_30 fun v_14 h_31 => as1 .sl v_14 fun r_14 =>
          Kv_8 r_14.v h_31) fun v_15 => as1 .sl v_15 fun r_15 =>
      ldF .sl R_2 (p_7.add 3) fun (x_17 : Sl) =>
      freeW R_2 h_25 (S_2 12 [r_15.v, x_17.v]) ((S_2 9 [r_13.v, x_16.v]).A v_15 ++ []) (fun h_32 Kv_9 =>
          ACalls Tryd.prog F_lateenref06_vars [r_15.v, .string ⟨#[118, 97, 114]⟩, x_17.v] h_32 fun v_16 h_33 => as1 .sl v_16 fun r_16 =>
          Kv_9 r_16.v h_33) fun v_17 => as1 .sl v_17 fun r_17 =>
      endF R_2 h_25 ((S_2 12 [r_15.v, x_17.v]).A v_17 ++ []) fun h_34 =>
      loopW (fun _ (q_out_4 : Sl × Int) h_35 next_3 =>
        ld .sl h_35 (p_7.add 4) fun (x_18 : Sl) =>
        ifB (decide (q_out_4.2 < (x_18.len : Int)))
         (ld .sl h_35 (p_7.add 4) fun (x_19 : Sl) =>
        idx 9 x_19 q_out_4.2 fun p_8 =>
        ld (.agg 9) h_35 p_8 fun (x_20 : Array Value) =>
        new 50 #[.string ⟨#[]⟩, .slice none 0 0, .slice none 0 0, .int .i64 0, .int .i64 0, .string ⟨#[]⟩, .int .i64 0, .slice none 0 0, .int .i64 0] h_35 fun p_9 h_36 =>
        x_20.size = 9 ∧ st x_20.toList h_36 p_9 fun h_37 =>
        ld .str h_37 (p_9.add 0) fun (x_21 : ByteArray) =>
        bld si_Lstring 2 [(0, .string ⟨#[98, 108, 111, 99, 107]⟩), (1, .string x_21)] h_37 fun s_3 h_38 =>
        ACalls Tryd.prog F_lateenref06_put [q_out_4.1.v, s_3.v] h_38 fun v_18 h_39 => as1 .sl v_18 fun r_18 =>
        loopW (fun _ (q_out_5 : Sl × Int) h_40 next_4 =>
          ld .sl h_40 (p_9.add 1) fun (x_22 : Sl) =>
          ifB (decide (q_out_5.2 < (x_22.len : Int)))
           (ld .sl h_40 (p_9.add 1) fun (x_23 : Sl) =>
          idx 2 x_23 q_out_5.2 fun p_10 =>
          ld .str h_40 (p_10.add 0) fun (x_24 : ByteArray) =>
          bld si_Lstring 2 [(0, .string ⟨#[112, 104, 105]⟩), (1, .string x_24)] h_40 fun s_4 h_41 =>
          loopW (fun _ (q_w : Sl × Int) h_42 next_5 =>
            ld .sl h_42 (p_9.add 1) fun (x_25 : Sl) =>
            idx 2 x_25 q_out_5.2 fun p_11 =>
            ld .sl h_42 (p_11.add 1) fun (x_26 : Sl) =>
            ifB (decide (q_w.2 < (x_26.len : Int)))
             (∃ (R_3 : Heap → Prop) (h_43 : Heap) (L_3 : List As) (S_3 : Specs), R_3 h_42 ∧ Sep h_43 h_42 L_3 ∧ (ldF .sl R_3 (p_9.add 1) fun (x_27 : Sl) =>
            idx 2 x_27 q_out_5.2 fun p_12 =>
            ldF .sl R_3 (p_12.add 1) fun (x_28 : Sl) =>
            idx 4 x_28 q_w.2 fun p_13 =>
            ldF .str R_3 (p_13.add 0) fun (x_29 : ByteArray) =>
            ldF .sl R_3 (p_9.add 1) fun (x_30 : Sl) =>
            idx 2 x_30 q_out_5.2 fun p_14 =>
            ldF .sl R_3 (p_14.add 1) fun (x_31 : Sl) =>
            idx 4 x_31 q_w.2 fun p_15 =>
            ldF (.agg 3) R_3 (p_15.add 1) fun (x_32 : Array Value) =>
            freeW R_3 h_43 (S_3 21 [.agg x_32]) (L_3 ++ []) (fun h_44 Kv_10 =>
                ACalls Tryd.prog F_lateenref03_Put [.agg x_32] h_44 fun v_19 h_45 => as1 .str v_19 fun r_19 =>
                Kv_10 (.string r_19) h_45) fun v_20 => as1 .str v_20 fun r_20 =>
            freeW R_3 h_43 (S_3 22 [.string x_29, .string r_20]) ((S_3 21 [.agg x_32]).A v_20 ++ []) (fun h_46 Kv_11 =>
                bld si_Lstring 2 [(0, .string x_29), (1, .string r_20)] h_46 fun s_5 h_47 =>
                Kv_11 s_5.v h_47) fun v_21 => as1 .sl v_21 fun r_21 =>
            freeW R_3 h_43 (S_3 23 [q_w.1.v, r_21.v]) ((S_3 22 [.string x_29, .string r_20]).A v_21 ++ []) (fun h_48 Kv_12 =>
                app si_Lstring q_w.1 r_21 h_48 fun s_6 h_49 =>
                Kv_12 s_6.v h_49) fun v_22 => as1 .sl v_22 fun r_22 =>
            endF R_3 h_43 ((S_3 23 [q_w.1.v, r_21.v]).A v_22 ++ []) fun h_50 =>
            ar .i64 (q_w.2 + 1) fun n_3 =>
            next_5 (r_22, n_3) h_50))
             (ACalls Tryd.prog F_lateenref06_put [q_out_5.1.v, q_w.1.v] h_42 fun v_23 h_51 => as1 .sl v_23 fun r_23 =>
          ar .i64 (q_out_5.2 + 1) fun n_4 =>
          next_4 (r_23, n_4) h_51)) (s_4, 0) h_41)
           (loopW (fun _ (q_out_6 : Sl × Int) h_52 next_6 =>
          ld .sl h_52 (p_9.add 2) fun (x_33 : Sl) =>
          ifB (decide (q_out_6.2 < (x_33.len : Int)))
           (ld .sl h_52 (p_9.add 2) fun (x_34 : Sl) =>
          idx 6 x_34 q_out_6.2 fun p_16 =>
          ld (.agg 6) h_52 p_16 fun (x_35 : Array Value) =>
          ACalls Tryd.prog F_lateenref06_code [q_out_6.1.v, .agg x_35] h_52 fun v_24 h_53 => as1 .sl v_24 fun r_24 =>
          ar .i64 (q_out_6.2 + 1) fun n_5 =>
          next_6 (r_24, n_5) h_53)
           (ld (.agg 6) h_52 (p_9.add 3) fun (x_36 : Array Value) =>
        ACalls Tryd.prog F_lateenref06_ends [q_out_6.1.v, .agg x_36] h_52 fun v_25 h_54 => as1 .sl v_25 fun r_25 =>
        ar .i64 (q_out_4.2 + 1) fun n_6 =>
        next_3 (r_25, n_6) h_54)) (q_out_5.1, 0) h_40)) (r_18, 0) h_39)
         (ar .i64 (q_out_3.2 + 1) fun n_7 =>
      next_2 (q_out_4.1, n_7) h_35)) (r_17, 0) h_34))
       (toS h_22 q_out_3.1 fun s_7 =>
    K (.string s_7) h_22)) (q_out_2.1, 0) h_13)) (r_5, 0) h_12)) (out, 0) h_2) fun k =>
  ld .bool h_1 (p_1.add 0) fun (x_37 : Bool) =>
  ifB x_37
   (bld si_Lstring 1 [(0, .string ⟨#[115, 115, 97]⟩)] h_1 fun s_8 h_55 =>
   ACalls Tryd.prog F_lateenref06_put [(⟨none, 0, 0⟩ : Sl).v, s_8.v] h_55 fun v_26 h_56 => as1 .sl v_26 fun r_26 =>
   k r_26 h_56)
   (k (⟨none, 0, 0⟩ : Sl) h_1)
def lateenref06_Lines_a : Ann := (.seq .leaf (.seq .leaf (.join [(3, .sl)] [1] (.seq .leaf (.cond .leaf .leaf)) (.seq (.seq .leaf (.block (.loop [(3, .sl), (4, .int .i64)] [1] (.seq (.seq .leaf (.cond .leaf .leaf)) (.seq (.block (.free 16 [[], [], [], [], [], [], [], [17], [7], [], [], [], [], [], [], [8], []] [7, 8, 15, 17])) .leaf))))) (.seq .leaf (.seq (.seq .leaf (.block (.loop [(3, .sl), (5, .int .i64)] [1] (.seq (.seq .leaf (.cond .leaf .leaf)) (.seq (.block (.free 16 [[], [], [], [], [], [], [], [], [], [], [], [], [], [17], [13], [14], []] [13, 14, 15, 17])) .leaf))))) (.seq (.seq .leaf (.block (.loop [(3, .sl), (6, .int .i64)] [1] (.seq (.seq .leaf (.cond .leaf .leaf)) (.seq (.block (.seq .leaf (.seq (.free 13 [[], [], [], [], [], [14], [5], [], [], [6], [], [], [9], []] [5, 6, 9, 12, 14]) (.seq .leaf (.block (.loop [(3, .sl), (8, .int .i64)] [1, 6, 7] (.seq (.seq .leaf (.cond .leaf .leaf)) (.seq (.block (.seq .leaf (.seq .leaf (.seq (.seq .leaf (.block (.loop [(3, .sl), (10, .int .i64)] [1, 6, 7, 8, 9] (.seq (.seq .leaf (.cond .leaf .leaf)) (.seq (.block (.seq .leaf (.seq (.seq .leaf (.block (.loop [(11, .sl), (12, .int .i64)] [1, 3, 6, 7, 8, 9, 10] (.seq (.seq .leaf (.cond .leaf .leaf)) (.seq (.block (.free 24 [[], [], [], [], [], [], [], [], [], [], [], [], [], [], [], [], [], [], [], [], [], [25], [21], [22], []] [21, 22, 23, 25])) .leaf))))) .leaf))) .leaf))))) (.seq (.seq .leaf (.block (.loop [(3, .sl), (13, .int .i64)] [1, 6, 7, 8, 9] (.seq (.seq .leaf (.cond .leaf .leaf)) (.seq (.block .leaf) .leaf))))) .leaf))))) .leaf)))))))) .leaf))))) (.seq .leaf .leaf))))))))
theorem lateenref06_Lines_eq (p : Array Value) (h : Heap) (K : Value → Heap → Prop) : lateenref06_Lines p h K = fnW Tryd.prog ty lateenref06_Lines_a (bodyOf Tryd.f7) [.tmp 2] [.agg p] h K := by kernel_rfl
theorem lateenref06_Lines_of {p : Array Value} {h : Heap} {K : Value → Heap → Prop} (hw : lateenref06_Lines p h K) : ACalls Tryd.prog F_lateenref06_Lines [.agg p] h K :=
  calls_sound ty_ok mixed lateenref06_Lines_a (c := bodyOf Tryd.f7) Tryd.func7 (by kernel_rfl) (by kernel_rfl) (by kernel_rfl) (Nat.le_of_ble_eq_true rfl) (by rw [lateenref06_Lines_eq] at hw; exact hw)

/-- lateen/live.Ins -/
def live_Ins (f : Array Value) (h : Heap) (K : Value → Heap → Prop) : Prop :=
  new 25 f h fun p h_1 =>
  ld (.agg 5) h_1 p fun (x : Array Value) =>
  ACalls Tryd.prog F_live_all [.agg x] h_1 fun v h_2 => as1 .sl v fun r =>
  loopW (fun _ (q_out : Sl × Int) h_3 next =>
    ifB (decide (q_out.2 < (r.len : Int)))
     (idx 1 r q_out.2 fun p_1 =>
    ld .map h_3 p_1 fun (x_1 : Option Nat) =>
    ACalls Tryd.prog F_live_set_names [.map x_1] h_3 fun v_1 h_4 => as1 .sl v_1 fun r_1 =>
    bld si_LLstring 1 [(0, r_1.v)] h_4 fun s h_5 =>
    app si_LLstring q_out.1 s h_5 fun s_1 h_6 =>
    ar .i64 (q_out.2 + 1) fun n =>
    next (s_1, n) h_6)
     (K q_out.1.v h_3)) ((⟨none, 0, 0⟩ : Sl), 0) h_2
def live_Ins_a : Ann := (.seq .leaf (.seq .leaf (.seq (.seq .leaf (.block (.loop [(3, .sl), (9, .int .i64)] [7, 8] (.seq .leaf (.seq (.cond .leaf .leaf) (.seq (.block (.seq .leaf .leaf)) .leaf)))))) (.seq .leaf .leaf))))
theorem live_Ins_eq (f : Array Value) (h : Heap) (K : Value → Heap → Prop) : live_Ins f h K = fnW Tryd.prog ty live_Ins_a (bodyOf Tryd.f8) [.tmp 2] [.agg f] h K := by kernel_rfl
theorem live_Ins_of {f : Array Value} {h : Heap} {K : Value → Heap → Prop} (hw : live_Ins f h K) : ACalls Tryd.prog F_live_Ins [.agg f] h K :=
  calls_sound ty_ok mixed live_Ins_a (c := bodyOf Tryd.f8) Tryd.func8 (by kernel_rfl) (by kernel_rfl) (by kernel_rfl) (Nat.le_of_ble_eq_true rfl) (by rw [live_Ins_eq] at hw; exact hw)

/-- lateen/lateenlaw13.awake -/
def lateenlaw13_awake  (h : Heap) (K : Value → Heap → Prop) : Prop :=
  bst [(0, 1), (1, 1), (2, 1)] #[.int .i64 0, .string ⟨#[]⟩, .int .i64 0] [(0, .int .i64 1), (1, .string ⟨#[120]⟩)] fun c =>
  new 38 #[.int .i64 0, .string ⟨#[]⟩, .int .i64 0] h fun p h_1 =>
  c.size = 3 ∧ st c.toList h_1 p fun h_2 =>
  bst [(0, 1), (1, 1), (2, 1)] #[.int .i64 0, .string ⟨#[]⟩, .int .i64 0] [(0, .int .i64 2), (2, .int .i64 1)] fun c_1 =>
  bld si_Lapi_Arg 1 [(0, .agg c_1)] h_2 fun s h_3 =>
  bst [(0, 1), (1, 1), (2, 1), (3, 1), (4, 1), (5, 1)] #[.int .i64 0, .string ⟨#[]⟩, .string ⟨#[]⟩, .slice none 0 0, .slice none 0 0, .slice none 0 0] [(0, .int .i64 24), (1, .string ⟨#[120]⟩), (3, s.v)] fun c_2 =>
  new 43 #[.int .i64 0, .string ⟨#[]⟩, .string ⟨#[]⟩, .slice none 0 0, .slice none 0 0, .slice none 0 0] h_3 fun p_1 h_4 =>
  c_2.size = 6 ∧ st c_2.toList h_4 p_1 fun h_5 =>
  bst [(0, 1), (1, 1)] #[.string ⟨#[]⟩, .string ⟨#[]⟩] [(0, .string ⟨#[107]⟩), (1, .string ⟨#[105, 110, 116]⟩)] fun c_3 =>
  bld si_Lapi_Var 1 [(0, .agg c_3)] h_5 fun s_1 h_6 =>
  bst [(0, 1), (1, 1), (2, 1)] #[.int .i64 0, .string ⟨#[]⟩, .int .i64 0] [(0, .int .i64 1), (1, .string ⟨#[107]⟩)] fun c_4 =>
  bld si_Lstring 2 [(0, .string ⟨#[98, 49]⟩), (1, .string ⟨#[98, 50]⟩)] h_6 fun s_2 h_7 =>
  bst [(0, 1), (1, 3), (4, 1), (5, 1)] #[.int .i64 0, .int .i64 0, .string ⟨#[]⟩, .int .i64 0, .slice none 0 0, .int .i64 0] [(0, .int .i64 2), (1, .agg c_4), (2, s_2.v)] fun c_5 =>
  bst [(0, 1), (1, 1), (2, 1), (3, 6)] #[.string ⟨#[]⟩, .slice none 0 0, .slice none 0 0, .int .i64 0, .int .i64 0, .string ⟨#[]⟩, .int .i64 0, .slice none 0 0, .int .i64 0] [(0, .string ⟨#[98, 48]⟩), (3, .agg c_5)] fun c_6 =>
  ld (.agg 6) h_7 p_1 fun (x : Array Value) =>
  bld si_Lapi_Instr 1 [(0, .agg x)] h_7 fun s_3 h_8 =>
  bld si_Lstring 1 [(0, .string ⟨#[98, 50]⟩)] h_8 fun s_4 h_9 =>
  bst [(0, 1), (1, 3), (4, 1), (5, 1)] #[.int .i64 0, .int .i64 0, .string ⟨#[]⟩, .int .i64 0, .slice none 0 0, .int .i64 0] [(0, .int .i64 1), (2, s_4.v)] fun c_7 =>
  bst [(0, 1), (1, 1), (2, 1), (3, 6)] #[.string ⟨#[]⟩, .slice none 0 0, .slice none 0 0, .int .i64 0, .int .i64 0, .string ⟨#[]⟩, .int .i64 0, .slice none 0 0, .int .i64 0] [(0, .string ⟨#[98, 49]⟩), (2, s_3.v), (3, .agg c_7)] fun c_8 =>
  ld (.agg 3) h_9 p fun (x_1 : Array Value) =>
  bst [(0, 1), (1, 3), (4, 1), (5, 1)] #[.int .i64 0, .int .i64 0, .string ⟨#[]⟩, .int .i64 0, .slice none 0 0, .int .i64 0] [(0, .int .i64 3), (1, .agg x_1)] fun c_9 =>
  bst [(0, 1), (1, 1), (2, 1), (3, 6)] #[.string ⟨#[]⟩, .slice none 0 0, .slice none 0 0, .int .i64 0, .int .i64 0, .string ⟨#[]⟩, .int .i64 0, .slice none 0 0, .int .i64 0] [(0, .string ⟨#[98, 50]⟩), (3, .agg c_9)] fun c_10 =>
  bld si_Lapi_Block 3 [(0, .agg c_6), (1, .agg c_8), (2, .agg c_10)] h_9 fun s_5 h_10 =>
  bst [(0, 1), (1, 1), (2, 1), (3, 1), (4, 1)] #[.string ⟨#[]⟩, .string ⟨#[]⟩, .slice none 0 0, .slice none 0 0, .slice none 0 0] [(2, s_1.v), (4, s_5.v)] fun c_11 =>
  new 25 #[.string ⟨#[]⟩, .string ⟨#[]⟩, .slice none 0 0, .slice none 0 0, .slice none 0 0] h_10 fun p_2 h_11 =>
  c_11.size = 5 ∧ st c_11.toList h_11 p_2 fun h_12 =>
  ld (.agg 5) h_12 p_2 fun (x_2 : Array Value) =>
  ACalls Tryd.prog F_assign_Ins [.agg x_2] h_12 fun v h_13 => as1 .sl v fun r =>
  ld (.agg 5) h_13 p_2 fun (x_3 : Array Value) =>
  ACalls Tryd.prog F_assign_Right [.agg x_3] h_13 fun v_1 h_14 => as1 .bool v_1 fun r_1 =>
  ld .sl h_14 (p_2.add 4) fun (x_4 : Sl) =>
  ld (.agg 6) h_14 p_1 fun (x_5 : Array Value) =>
  bld si_Lapi_Instr 1 [(0, .agg x_5)] h_14 fun s_6 h_15 =>
  idx 9 x_4 2 fun p_3 =>
  st [s_6.v] h_15 (p_3.add 2) fun h_16 =>
  joinW (fun _ (t : Bool) h_17 =>
    K (.bool t) h_17) fun k =>
  ifB ((r.len : Int) == 3)
   (idx 1 r 2 fun p_4 =>
    ld .sl h_16 p_4 fun (x_6 : Sl) =>
     bld si_Lstring 1 [(0, .string ⟨#[107]⟩)] h_16 fun s_7 h_18 =>
      ACalls Tryd.prog F_lateenref12_Same [x_6.v, s_7.v] h_18 fun v_2 h_19 => as1 .bool v_2 fun r_2 =>
       ifB r_2
        (ifB (!r_1)
         (ld (.agg 5) h_19 p_2 fun (x_7 : Array Value) =>
         ACalls Tryd.prog F_assign_Right [.agg x_7] h_19 fun v_3 h_20 => as1 .bool v_3 fun r_3 =>
          k r_3 h_20)
         (k false h_19))
        (k false h_19))
   (k false h_16)
def lateenlaw13_awake_a : Ann := (.seq .leaf (.seq .leaf (.seq .leaf (.seq .leaf (.seq .leaf (.seq .leaf (.seq .leaf (.join [(0, .bool)] [] .leaf .leaf))))))))
theorem lateenlaw13_awake_eq  (h : Heap) (K : Value → Heap → Prop) : lateenlaw13_awake  h K = fnW Tryd.prog ty lateenlaw13_awake_a (bodyOf Tryd.f9) [.tmp 0] [] h K := by kernel_rfl
theorem lateenlaw13_awake_of  {h : Heap} {K : Value → Heap → Prop} (hw : lateenlaw13_awake  h K) : ACalls Tryd.prog F_lateenlaw13_awake [] h K :=
  calls_sound ty_ok mixed lateenlaw13_awake_a (c := bodyOf Tryd.f9) Tryd.func9 (by kernel_rfl) (by kernel_rfl) (by kernel_rfl) (Nat.le_of_ble_eq_true rfl) (by rw [lateenlaw13_awake_eq] at hw; exact hw)

/-- lateen/lateenlaw13.few -/
def lateenlaw13_few (f : Array Value) (h : Heap) (K : Value → Heap → Prop) : Prop :=
  new 25 f h fun p h_1 =>
  joinW (fun _ (t : Bool) h_2 =>
    K (.bool t) h_2) fun k =>
  ld (.agg 5) h_1 p fun (x : Array Value) =>
  ACalls Tryd.prog F_lateenref06_FewFunc [.agg x, .int .i64 3000] h_1 fun v h_3 => as1 (.int .i64) v fun r =>
  ifB (decide (r ≤ 3000))
   (ld (.agg 5) h_3 p fun (x_1 : Array Value) =>
   ACalls Tryd.prog F_lateenref08_Few [.agg x_1] h_3 fun v_1 h_4 => as1 .bool v_1 fun r_1 =>
    ifB r_1
     (ld .sl h_4 (p.add 4) fun (x_2 : Sl) =>
      ifB (decide ((x_2.len : Int) ≤ 30))
         (ld (.agg 5) h_4 p fun (x_3 : Array Value) =>
         ACalls Tryd.prog F_lateenref08_Right [.agg x_3] h_4 fun v_2 h_5 => as1 .bool v_2 fun r_2 =>
          k r_2 h_5)
         (k false h_4))
     (k false h_4))
   (k false h_3)
def lateenlaw13_few_a : Ann := (.seq .leaf (.join [(2, .bool)] [] .leaf .leaf))
theorem lateenlaw13_few_eq (f : Array Value) (h : Heap) (K : Value → Heap → Prop) : lateenlaw13_few f h K = fnW Tryd.prog ty lateenlaw13_few_a (bodyOf Tryd.f10) [.tmp 2] [.agg f] h K := by kernel_rfl
theorem lateenlaw13_few_of {f : Array Value} {h : Heap} {K : Value → Heap → Prop} (hw : lateenlaw13_few f h K) : ACalls Tryd.prog F_lateenlaw13_few [.agg f] h K :=
  calls_sound ty_ok mixed lateenlaw13_few_a (c := bodyOf Tryd.f10) Tryd.func10 (by kernel_rfl) (by kernel_rfl) (by kernel_rfl) (Nat.le_of_ble_eq_true rfl) (by rw [lateenlaw13_few_eq] at hw; exact hw)

/-- lateen/assign.Ins -/
def assign_Ins (f : Array Value) (h : Heap) (K : Value → Heap → Prop) : Prop :=
  new 25 f h fun p h_1 =>
  ld (.agg 5) h_1 p fun (x : Array Value) =>
  ACalls Tryd.prog F_assign_all [.agg x] h_1 fun v h_2 => as1 .sl v fun r =>
  loopW (fun _ (q_out : Sl × Int) h_3 next =>
    ifB (decide (q_out.2 < (r.len : Int)))
     (idx 1 r q_out.2 fun p_1 =>
    ld .map h_3 p_1 fun (x_1 : Option Nat) =>
    ACalls Tryd.prog F_maps_Keys_0 [.map x_1] h_3 fun v_1 h_4 => as1 .fn v_1 fun r_1 =>
    ACalls Tryd.prog F_slices_Sorted [r_1] h_4 fun v_2 h_5 => as1 .sl v_2 fun r_2 =>
    bld si_LLstring 1 [(0, r_2.v)] h_5 fun s h_6 =>
    app si_LLstring q_out.1 s h_6 fun s_1 h_7 =>
    ar .i64 (q_out.2 + 1) fun n =>
    next (s_1, n) h_7)
     (K q_out.1.v h_3)) ((⟨none, 0, 0⟩ : Sl), 0) h_2
def assign_Ins_a : Ann := (.seq .leaf (.seq .leaf (.seq (.seq .leaf (.block (.loop [(3, .sl), (9, .int .i64)] [7, 8] (.seq .leaf (.seq (.cond .leaf .leaf) (.seq (.block (.seq .leaf .leaf)) .leaf)))))) (.seq .leaf .leaf))))
theorem assign_Ins_eq (f : Array Value) (h : Heap) (K : Value → Heap → Prop) : assign_Ins f h K = fnW Tryd.prog ty assign_Ins_a (bodyOf Tryd.f11) [.tmp 2] [.agg f] h K := by kernel_rfl
theorem assign_Ins_of {f : Array Value} {h : Heap} {K : Value → Heap → Prop} (hw : assign_Ins f h K) : ACalls Tryd.prog F_assign_Ins [.agg f] h K :=
  calls_sound ty_ok mixed assign_Ins_a (c := bodyOf Tryd.f11) Tryd.func11 (by kernel_rfl) (by kernel_rfl) (by kernel_rfl) (Nat.le_of_ble_eq_true rfl) (by rw [assign_Ins_eq] at hw; exact hw)

/-- lateen/assign.Right -/
def assign_Right (f : Array Value) (h : Heap) (K : Value → Heap → Prop) : Prop :=
  new 25 f h fun p h_1 =>
  mkm h_1 fun m h_2 =>
  ld (.agg 5) h_2 p fun (x : Array Value) =>
  ACalls Tryd.prog F_assign_all [.agg x] h_2 fun v h_3 => as1 .sl v fun r =>
  loopW (fun _ (t : Int) h_4 next =>
    ifB (decide (t < (r.len : Int)))
     (idx 1 r t fun p_1 =>
    ld .map h_4 p_1 fun (x_1 : Option Nat) =>
    ld .sl h_4 (p.add 4) fun (x_2 : Sl) =>
    idx 9 x_2 t fun p_2 =>
    ld (.agg 9) h_4 p_2 fun (x_3 : Array Value) =>
    ACalls Tryd.prog F_assign_set_block [.map x_1, .agg x_3] h_4 fun v_1 h_5 => as1 .bool v_1 fun r_1 =>
    ifB (!r_1)
     (K (.bool false) h_5)
     (ld .sl h_5 (p.add 4) fun (x_4 : Sl) =>
    idx 9 x_4 t fun p_3 =>
    ld .str h_5 (p_3.add 0) fun (x_5 : ByteArray) =>
    ld .sl h_5 (p.add 4) fun (x_6 : Sl) =>
    idx 9 x_6 t fun p_4 =>
    ld (.agg 9) h_5 p_4 fun (x_7 : Array Value) =>
    ACalls Tryd.prog F_assign_set_over [.map x_1, .agg x_7] h_5 fun v_2 h_6 => as1 .map v_2 fun r_2 =>
    hExt h_5 h_6 ∧ mup .string m (.string x_5) (.map r_2) h_6 fun h_7 =>
    hExt h_6 h_7 ∧ ar .i64 (t + 1) fun n =>
    next n h_7))
     (ld (.agg 5) h_4 p fun (x_8 : Array Value) =>
  ACalls Tryd.prog F_assign_phis [.agg x_8, .map m] h_4 fun v_3 h_8 => as1 .bool v_3 fun r_3 =>
  K (.bool r_3) h_8)) 0 h_3
def assign_Right_a : Ann := (.seq .leaf (.seq .leaf (.seq (.seq .leaf (.block (.loop [(10, .int .i64)] [1, 3, 8, 9] (.seq .leaf (.seq (.cond .leaf .leaf) (.seq (.block (.seq .leaf (.seq (.seq .leaf (.cond (.seq .leaf .leaf) .leaf)) .based))) .leaf)))))) (.seq .leaf .leaf))))
theorem assign_Right_eq (f : Array Value) (h : Heap) (K : Value → Heap → Prop) : assign_Right f h K = fnW Tryd.prog ty assign_Right_a (bodyOf Tryd.f12) [.tmp 2] [.agg f] h K := by kernel_rfl
theorem assign_Right_of {f : Array Value} {h : Heap} {K : Value → Heap → Prop} (hw : assign_Right f h K) : ACalls Tryd.prog F_assign_Right [.agg f] h K :=
  calls_sound ty_ok mixed assign_Right_a (c := bodyOf Tryd.f12) Tryd.func12 (by kernel_rfl) (by kernel_rfl) (by kernel_rfl) (Nat.le_of_ble_eq_true rfl) (by rw [assign_Right_eq] at hw; exact hw)

/-- lateen/lateenlaw12.v -/
def lateenlaw12_v (s : ByteArray) (h : Heap) (K : Value → Heap → Prop) : Prop :=
  new 38 #[.int .i64 0, .string ⟨#[]⟩, .int .i64 0] h fun p h_1 =>
  bst [(0, 1), (1, 1), (2, 1)] #[.int .i64 0, .string ⟨#[]⟩, .int .i64 0] [(0, .int .i64 1), (1, .string s)] fun c =>
  c.size = 3 ∧ st c.toList h_1 p fun h_2 =>
  ld (.agg 3) h_2 p fun (x : Array Value) => K (.agg x) h_2
def lateenlaw12_v_a : Ann := (.seq .leaf (.seq .leaf .leaf))
theorem lateenlaw12_v_eq (s : ByteArray) (h : Heap) (K : Value → Heap → Prop) : lateenlaw12_v s h K = fnW Tryd.prog ty lateenlaw12_v_a (bodyOf Tryd.f13) [.cell 2 38] [.string s] h K := by kernel_rfl
theorem lateenlaw12_v_of {s : ByteArray} {h : Heap} {K : Value → Heap → Prop} (hw : lateenlaw12_v s h K) : ACalls Tryd.prog F_lateenlaw12_v [.string s] h K :=
  calls_sound ty_ok mixed lateenlaw12_v_a (c := bodyOf Tryd.f13) Tryd.func13 (by kernel_rfl) (by kernel_rfl) (by kernel_rfl) (Nat.le_of_ble_eq_true rfl) (by rw [lateenlaw12_v_eq] at hw; exact hw)

/-- lateen/lateenref12.Same -/
def lateenref12_Same (a : Sl) (b : Sl) (h : Heap) (K : Value → Heap → Prop) : Prop :=
  ifB ((a.len : Int) != (b.len : Int))
   (K (.bool false) h)
   (loopW (fun _ (i : Int) h_1 next =>
    ifB (decide (i < (a.len : Int)))
     (idx 1 a i fun p =>
    ld .str h_1 p fun (x : ByteArray) =>
    idx 1 b i fun p_1 =>
    ld .str h_1 p_1 fun (x_1 : ByteArray) =>
    ifB (!(x.toList == x_1.toList))
     (K (.bool false) h_1)
     (ar .i64 (i + 1) fun n =>
    next n h_1))
     (K (.bool true) h_1)) 0 h)
def lateenref12_Same_a : Ann := (.seq .leaf (.seq (.seq .leaf (.cond (.seq .leaf .leaf) .leaf)) (.seq (.seq .leaf (.block (.loop [(5, .int .i64)] [0, 1] (.seq (.seq .leaf (.cond .leaf .leaf)) (.seq (.block (.seq .leaf (.cond (.seq .leaf .leaf) .leaf))) .leaf))))) (.seq .leaf .leaf))))
theorem lateenref12_Same_eq (a : Sl) (b : Sl) (h : Heap) (K : Value → Heap → Prop) : lateenref12_Same a b h K = fnW Tryd.prog ty lateenref12_Same_a (bodyOf Tryd.f14) [.tmp 4] [a.v, b.v] h K := by kernel_rfl
theorem lateenref12_Same_of {a : Sl} {b : Sl} {h : Heap} {K : Value → Heap → Prop} (hw : lateenref12_Same a b h K) : ACalls Tryd.prog F_lateenref12_Same [a.v, b.v] h K :=
  calls_sound ty_ok mixed lateenref12_Same_a (c := bodyOf Tryd.f14) Tryd.func14 (by kernel_rfl) (by kernel_rfl) (by kernel_rfl) (Nat.le_of_ble_eq_true rfl) (by rw [lateenref12_Same_eq] at hw; exact hw)

/-- lateen/live.At -/
def live_At (f : Array Value) (block : Int) (atv : Int) (h : Heap) (K : Value → Heap → Prop) : Prop :=
  new 25 f h fun p h_1 =>
  joinW (fun _ (t : Bool) h_2 =>
    ifB t
     (K ((⟨none, 0, 0⟩ : Sl).v) h_2)
     (ld (.agg 5) h_2 p fun (x : Array Value) =>
  ld (.agg 5) h_2 p fun (x_1 : Array Value) =>
  ACalls Tryd.prog F_live_all [.agg x_1] h_2 fun v h_3 => as1 .sl v fun r =>
  hExt h_2 h_3 ∧ ACalls Tryd.prog F_live_end [.agg x, r.v, .int .i64 block] h_3 fun v_1 h_4 => as1 .map v_1 fun r_1 =>
  hExt h_3 h_4 ∧ ld .sl h_4 (p.add 4) fun (x_2 : Sl) =>
  idx 9 x_2 block fun p_1 =>
  ld (.agg 9) h_4 p_1 fun (x_3 : Array Value) =>
  ACalls Tryd.prog F_live_set_back [.map r_1, .agg x_3, .int .i64 atv] h_4 fun v_2 h_5 => as0 v_2 (
  ACalls Tryd.prog F_live_set_names [.map r_1] h_5 fun v_3 h_6 => as1 .sl v_3 fun r_2 =>
  K r_2.v h_6))) fun k =>
  ifB (decide (block < 0))
   (k true h_1)
   (ld .sl h_1 (p.add 4) fun (x_4 : Sl) =>
     ifB (decide (block ≥ (x_4.len : Int)))
        (k true h_1)
        (ifB (decide (atv < 0))
          (k true h_1)
          (ld .sl h_1 (p.add 4) fun (x_5 : Sl) =>
            idx 9 x_5 block fun p_2 =>
              ld .sl h_1 (p_2.add 2) fun (x_6 : Sl) =>
                k (decide (atv > (x_6.len : Int))) h_1)))
def live_At_a : Ann := (.seq .leaf (.seq (.join [(31, .bool)] [1, 2, 3] .leaf (.cond (.seq .leaf .leaf) .leaf)) (.seq .based (.seq .leaf (.seq .leaf .leaf)))))
theorem live_At_eq (f : Array Value) (block : Int) (atv : Int) (h : Heap) (K : Value → Heap → Prop) : live_At f block atv h K = fnW Tryd.prog ty live_At_a (bodyOf Tryd.f15) [.tmp 6] [.agg f, .int .i64 block, .int .i64 atv] h K := by kernel_rfl
theorem live_At_of {f : Array Value} {block : Int} {atv : Int} {h : Heap} {K : Value → Heap → Prop} (hw : live_At f block atv h K) : ACalls Tryd.prog F_live_At [.agg f, .int .i64 block, .int .i64 atv] h K :=
  calls_sound ty_ok mixed live_At_a (c := bodyOf Tryd.f15) Tryd.func15 (by kernel_rfl) (by kernel_rfl) (by kernel_rfl) (Nat.le_of_ble_eq_true rfl) (by rw [live_At_eq] at hw; exact hw)

/-- lateen/lateenref06.FewFunc -/
def lateenref06_FewFunc (f : Array Value) (most : Int) (h : Heap) (K : Value → Heap → Prop) : Prop :=
  new 25 f h fun p h_1 =>
  ld .sl h_1 (p.add 4) fun (x : Sl) =>
  ifB (decide ((x.len : Int) > most))
   (ar .i64 (most + 1) fun n =>
   K (.int .i64 n) h_1)
   (ld .str h_1 (p.add 0) fun (x_1 : ByteArray) =>
  ar .i64 (1 + (x_1.size : Int)) fun n_1 =>
  joinW (fun _ (n_2 : Int) h_2 =>
    joinW (fun _ (n_3 : Int) h_3 =>
      joinW (fun _ (n_4 : Int) h_4 =>
        loopW (fun _ (q_n_5 : Int × Int) h_5 next =>
          joinW (fun _ (t : Bool) h_6 =>
            ifB t
             (ld .sl h_6 (p.add 4) fun (x_2 : Sl) =>
          idx 9 x_2 q_n_5.2 fun p_1 =>
          ld (.agg 9) h_6 p_1 fun (x_3 : Array Value) =>
          ACalls Tryd.prog F_lateenref06_countBlock [.agg x_3, .int .i64 most] h_6 fun v h_7 => as1 (.int .i64) v fun r =>
          ar .i64 (q_n_5.1 + r) fun n_6 =>
          ar .i64 (q_n_5.2 + 1) fun n_7 =>
          next (n_6, n_7) h_7)
             (K (.int .i64 q_n_5.1) h_6)) fun k_3 =>
          ld .sl h_5 (p.add 4) fun (x_4 : Sl) =>
          ifB (decide (q_n_5.2 < (x_4.len : Int)))
           (k_3 (decide (q_n_5.1 ≤ most)) h_5)
           (k_3 false h_5)) (n_4, 0) h_4) fun k_2 =>
      ifB (decide (n_3 ≤ most))
       (ld .sl h_3 (p.add 3) fun (x_5 : Sl) =>
       ACalls Tryd.prog F_lateenref06_countVars [x_5.v, .int .i64 most] h_3 fun v_1 h_8 => as1 (.int .i64) v_1 fun r_1 =>
       ar .i64 (n_3 + r_1) fun n_8 =>
       k_2 n_8 h_8)
       (k_2 n_3 h_3)) fun k_1 =>
    ifB (decide (n_2 ≤ most))
     (ld .sl h_2 (p.add 2) fun (x_6 : Sl) =>
     ACalls Tryd.prog F_lateenref06_countVars [x_6.v, .int .i64 most] h_2 fun v_2 h_9 => as1 (.int .i64) v_2 fun r_2 =>
     ar .i64 (n_2 + r_2) fun n_9 =>
     k_1 n_9 h_9)
     (k_1 n_2 h_2)) fun k =>
  ifB (decide (n_1 ≤ most))
   (ld .str h_1 (p.add 1) fun (x_7 : ByteArray) =>
   ar .i64 (n_1 + (x_7.size : Int)) fun n_10 =>
   k n_10 h_1)
   (k n_1 h_1))
def lateenref06_FewFunc_a : Ann := (.seq .leaf (.seq (.seq .leaf (.cond (.seq .leaf .leaf) .leaf)) (.seq .leaf (.join [(5, .int .i64)] [1, 2] (.seq .leaf (.cond .leaf .leaf)) (.join [(5, .int .i64)] [1, 2] (.seq .leaf (.cond .leaf .leaf)) (.join [(5, .int .i64)] [1, 2] (.seq .leaf (.cond .leaf .leaf)) (.seq (.seq .leaf (.block (.loop [(5, .int .i64), (6, .int .i64)] [1, 2] (.seq (.join [(53, .bool)] [1, 2, 5, 6] .leaf (.cond .leaf .leaf)) (.seq (.block .leaf) .leaf))))) (.seq .leaf .leaf))))))))
theorem lateenref06_FewFunc_eq (f : Array Value) (most : Int) (h : Heap) (K : Value → Heap → Prop) : lateenref06_FewFunc f most h K = fnW Tryd.prog ty lateenref06_FewFunc_a (bodyOf Tryd.f16) [.tmp 4] [.agg f, .int .i64 most] h K := by kernel_rfl
theorem lateenref06_FewFunc_of {f : Array Value} {most : Int} {h : Heap} {K : Value → Heap → Prop} (hw : lateenref06_FewFunc f most h K) : ACalls Tryd.prog F_lateenref06_FewFunc [.agg f, .int .i64 most] h K :=
  calls_sound ty_ok mixed lateenref06_FewFunc_a (c := bodyOf Tryd.f16) Tryd.func16 (by kernel_rfl) (by kernel_rfl) (by kernel_rfl) (Nat.le_of_ble_eq_true rfl) (by rw [lateenref06_FewFunc_eq] at hw; exact hw)

/-- lateen/lateenref08.Few -/
def lateenref08_Few (f : Array Value) (h : Heap) (K : Value → Heap → Prop) : Prop :=
  new 25 f h fun p h_1 =>
  ld .sl h_1 (p.add 4) fun (x : Sl) =>
  ifB (decide ((x.len : Int) > 60))
   (K (.bool false) h_1)
   (loopW (fun _ (i : Int) h_2 next =>
    ld .sl h_2 (p.add 4) fun (x_1 : Sl) =>
    ifB (decide (i < (x_1.len : Int)))
     (joinW (fun _ (t : Bool) h_3 =>
      ifB t
       (K (.bool false) h_3)
       (loopW (fun _ (k_1 : Int) h_4 next_1 =>
      ld .sl h_4 (p.add 4) fun (x_2 : Sl) =>
      idx 9 x_2 i fun p_1 =>
      ld .sl h_4 (p_1.add 1) fun (x_3 : Sl) =>
      ifB (decide (k_1 < (x_3.len : Int)))
       (ld .sl h_4 (p.add 4) fun (x_4 : Sl) =>
      idx 9 x_4 i fun p_2 =>
      ld .sl h_4 (p_2.add 1) fun (x_5 : Sl) =>
      idx 2 x_5 k_1 fun p_3 =>
      ld .sl h_4 (p_3.add 1) fun (x_6 : Sl) =>
      ifB (decide ((x_6.len : Int) > 60))
       (K (.bool false) h_4)
       (ar .i64 (k_1 + 1) fun n =>
      next_1 n h_4))
       (ar .i64 (i + 1) fun n_1 =>
    next n_1 h_4)) 0 h_3)) fun k =>
    ld .sl h_2 (p.add 4) fun (x_7 : Sl) =>
    idx 9 x_7 i fun p_4 =>
    ld .sl h_2 ((p_4.add 3).add 4) fun (x_8 : Sl) =>
    ifB (decide ((x_8.len : Int) > 8))
     (k true h_2)
     (ld .sl h_2 (p.add 4) fun (x_9 : Sl) =>
      idx 9 x_9 i fun p_5 =>
        ld .sl h_2 (p_5.add 1) fun (x_10 : Sl) =>
          k (decide ((x_10.len : Int) > 40)) h_2))
     (K (.bool true) h_2)) 0 h_1)
def lateenref08_Few_a : Ann := (.seq .leaf (.seq (.seq .leaf (.cond (.seq .leaf .leaf) .leaf)) (.seq (.seq .leaf (.block (.loop [(3, .int .i64)] [1] (.seq (.seq .leaf (.cond .leaf .leaf)) (.seq (.block (.seq (.join [(34, .bool)] [1, 3] .leaf (.cond (.seq .leaf .leaf) .leaf)) (.seq .leaf (.block (.loop [(4, .int .i64)] [1, 3] (.seq (.seq .leaf (.cond .leaf .leaf)) (.seq (.block (.seq .leaf (.cond (.seq .leaf .leaf) .leaf))) .leaf))))))) .leaf))))) (.seq .leaf .leaf))))
theorem lateenref08_Few_eq (f : Array Value) (h : Heap) (K : Value → Heap → Prop) : lateenref08_Few f h K = fnW Tryd.prog ty lateenref08_Few_a (bodyOf Tryd.f17) [.tmp 2] [.agg f] h K := by kernel_rfl
theorem lateenref08_Few_of {f : Array Value} {h : Heap} {K : Value → Heap → Prop} (hw : lateenref08_Few f h K) : ACalls Tryd.prog F_lateenref08_Few [.agg f] h K :=
  calls_sound ty_ok mixed lateenref08_Few_a (c := bodyOf Tryd.f17) Tryd.func17 (by kernel_rfl) (by kernel_rfl) (by kernel_rfl) (Nat.le_of_ble_eq_true rfl) (by rw [lateenref08_Few_eq] at hw; exact hw)

/-- lateen/lateenref08.Right -/
def lateenref08_Right (f : Array Value) (h : Heap) (K : Value → Heap → Prop) : Prop :=
  new 25 f h fun p h_1 =>
  loopW (fun _ (i : Int) h_2 next =>
    ld .sl h_2 (p.add 4) fun (x : Sl) =>
    ifB (decide (i < (x.len : Int)))
     (ld (.agg 5) h_2 p fun (x_1 : Array Value) =>
    ld .sl h_2 (p.add 4) fun (x_2 : Sl) =>
    idx 9 x_2 i fun p_1 =>
    ld .str h_2 (p_1.add 0) fun (x_3 : ByteArray) =>
    ACalls Tryd.prog F_lateenref08_Place [.agg x_1, .string x_3] h_2 fun v h_3 => as2 (.int .i64) .bool v fun r _ =>
    hExt h_2 h_3 ∧ ifB (r != i)
     (K (.bool false) h_3)
     (ld .sl h_3 (p.add 4) fun (x_4 : Sl) =>
    idx 9 x_4 i fun p_2 =>
    ld .sl h_3 ((p_2.add 3).add 4) fun (x_5 : Sl) =>
    loopW (fun _ (k : Int) h_4 next_1 =>
      ifB (decide (k < (x_5.len : Int)))
       (ld (.agg 5) h_4 p fun (x_6 : Array Value) =>
      idx 1 x_5 k fun p_3 =>
      ld .str h_4 p_3 fun (x_7 : ByteArray) =>
      ACalls Tryd.prog F_lateenref08_Place [.agg x_6, .string x_7] h_4 fun v_1 h_5 => as2 (.int .i64) .bool v_1 fun r_2 r_3 =>
      joinW (fun _ (t : Bool) h_6 =>
        ifB t
         (K (.bool false) h_6)
         (loopW (fun _ (j : Int) h_7 next_2 =>
        ifB (decide (j < k))
         (idx 1 x_5 j fun p_4 =>
        ld .str h_7 p_4 fun (x_8 : ByteArray) =>
        idx 1 x_5 k fun p_5 =>
        ld .str h_7 p_5 fun (x_9 : ByteArray) =>
        ifB (x_8.toList == x_9.toList)
         (K (.bool false) h_7)
         (ar .i64 (j + 1) fun n =>
        next_2 n h_7))
         (ar .i64 (k + 1) fun n_1 =>
      next_1 n_1 h_7)) 0 h_6)) fun k_1 =>
      ifB (!r_3)
       (k_1 true h_5)
       (k_1 (r_2 == 0) h_5))
       (ar .i64 (i + 1) fun n_2 =>
    next n_2 h_4)) 0 h_3))
     (ld (.agg 5) h_2 p fun (x_10 : Array Value) =>
  ACalls Tryd.prog F_lateenref08_Come [.agg x_10] h_2 fun v_2 h_8 => as1 .sl v_2 fun r_4 =>
  loopW (fun _ (i_1 : Int) h_9 next_3 =>
    ifB (decide (i_1 < (r_4.len : Int)))
     (idx 1 r_4 i_1 fun p_6 =>
    ld .bool h_9 p_6 fun (x_11 : Bool) =>
    ifB (!x_11)
     (K (.bool false) h_9)
     (ar .i64 (i_1 + 1) fun n_3 =>
    next_3 n_3 h_9))
     (K (.bool (decide ((r_4.len : Int) > 0))) h_9)) 0 h_8)) 0 h_1
def lateenref08_Right_a : Ann := (.seq .leaf (.seq (.seq .leaf (.block (.loop [(3, .int .i64)] [1] (.seq (.seq .leaf (.cond .leaf .leaf)) (.seq (.block (.seq .based (.seq (.seq .leaf (.cond (.seq .leaf .leaf) .leaf)) (.seq .leaf (.seq .leaf (.block (.loop [(7, .int .i64)] [1, 3, 6] (.seq (.seq .leaf (.cond .leaf .leaf)) (.seq (.block (.seq .leaf (.seq (.join [(61, .bool)] [1, 3, 6, 7] .leaf (.cond (.seq .leaf .leaf) .leaf)) (.seq .leaf (.block (.loop [(10, .int .i64)] [1, 3, 6, 7] (.seq (.seq .leaf (.cond .leaf .leaf)) (.seq (.block (.seq .leaf (.cond (.seq .leaf .leaf) .leaf))) .leaf)))))))) .leaf))))))))) .leaf))))) (.seq .leaf (.seq (.seq .leaf (.block (.loop [(12, .int .i64)] [11] (.seq (.seq .leaf (.cond .leaf .leaf)) (.seq (.block (.seq .leaf (.cond (.seq .leaf .leaf) .leaf))) .leaf))))) (.seq .leaf .leaf)))))
theorem lateenref08_Right_eq (f : Array Value) (h : Heap) (K : Value → Heap → Prop) : lateenref08_Right f h K = fnW Tryd.prog ty lateenref08_Right_a (bodyOf Tryd.f18) [.tmp 2] [.agg f] h K := by kernel_rfl
theorem lateenref08_Right_of {f : Array Value} {h : Heap} {K : Value → Heap → Prop} (hw : lateenref08_Right f h K) : ACalls Tryd.prog F_lateenref08_Right [.agg f] h K :=
  calls_sound ty_ok mixed lateenref08_Right_a (c := bodyOf Tryd.f18) Tryd.func18 (by kernel_rfl) (by kernel_rfl) (by kernel_rfl) (Nat.le_of_ble_eq_true rfl) (by rw [lateenref08_Right_eq] at hw; exact hw)

/-- lateen/lateenref06.put -/
def lateenref06_put (out : Sl) (l : Sl) (h : Heap) (K : Value → Heap → Prop) : Prop :=
  loopW (fun _ (q_out_1 : Sl × Int) h_1 next =>
    ifB (decide (q_out_1.2 < (l.len : Int)))
     (joinW (fun _ (out_2 : Sl) h_2 =>
      idx 1 l q_out_1.2 fun p =>
      ld .str h_2 p fun (x : ByteArray) =>
      apS si_Luint8 out_2 x h_2 fun s h_3 =>
      ar .i64 (q_out_1.2 + 1) fun n =>
    next (s, n) h_3) fun k =>
    ifB (decide (q_out_1.2 > 0))
     (bld si_Luint8 1 [(0, .int .u8 32)] h_1 fun s_1 h_4 =>
     app si_Luint8 q_out_1.1 s_1 h_4 fun s_2 h_5 =>
     k s_2 h_5)
     (k q_out_1.1 h_1))
     (bld si_Luint8 1 [(0, .int .u8 10)] h_1 fun s_3 h_6 =>
  app si_Luint8 q_out_1.1 s_3 h_6 fun s_4 h_7 =>
  K s_4.v h_7)) (out, 0) h
def lateenref06_put_a : Ann := (.seq .leaf (.seq (.seq .leaf (.block (.loop [(0, .sl), (5, .int .i64)] [1] (.seq (.seq .leaf (.cond .leaf .leaf)) (.seq (.block (.join [(0, .sl)] [1, 5] (.seq .leaf (.cond .leaf .leaf)) .leaf)) .leaf))))) (.seq .leaf .leaf)))
theorem lateenref06_put_eq (out : Sl) (l : Sl) (h : Heap) (K : Value → Heap → Prop) : lateenref06_put out l h K = fnW Tryd.prog ty lateenref06_put_a (bodyOf Tryd.f19) [.tmp 4] [out.v, l.v] h K := by kernel_rfl
theorem lateenref06_put_of {out : Sl} {l : Sl} {h : Heap} {K : Value → Heap → Prop} (hw : lateenref06_put out l h K) : ACalls Tryd.prog F_lateenref06_put [out.v, l.v] h K :=
  calls_sound ty_ok mixed lateenref06_put_a (c := bodyOf Tryd.f19) Tryd.func19 (by kernel_rfl) (by kernel_rfl) (by kernel_rfl) (Nat.le_of_ble_eq_true rfl) (by rw [lateenref06_put_eq] at hw; exact hw)

/-- lateen/lateenref06.vars -/
def lateenref06_vars (out : Sl) (first : ByteArray) (l : Sl) (h : Heap) (K : Value → Heap → Prop) : Prop :=
  loopW (fun _ (q_out_1 : Sl × Int) h_1 next =>
    ifB (decide (q_out_1.2 < (l.len : Int)))
     (∃ (R : Heap → Prop) (h_2 : Heap) (L : List As) (S : Specs), R h_1 ∧ Sep h_2 h_1 L ∧ (idx 2 l q_out_1.2 fun p =>
    ldF .str R (p.add 0) fun (x : ByteArray) =>
    idx 2 l q_out_1.2 fun p_1 =>
    ldF .str R (p_1.add 1) fun (x_1 : ByteArray) =>
    freeW R h_2 (S 12 [.string first, .string x, .string x_1]) (L ++ []) (fun h_3 Kv =>
        bld si_Lstring 3 [(0, .string first), (1, .string x), (2, .string x_1)] h_3 fun s h_4 =>
        Kv s.v h_4) fun v => as1 .sl v fun r =>
    freeW R h_2 (S 13 [q_out_1.1.v, r.v]) ((S 12 [.string first, .string x, .string x_1]).A v ++ []) (fun h_5 Kv_1 =>
        ACalls Tryd.prog F_lateenref06_put [q_out_1.1.v, r.v] h_5 fun v_1 h_6 => as1 .sl v_1 fun r_1 =>
        Kv_1 r_1.v h_6) fun v_2 => as1 .sl v_2 fun r_2 =>
    endF R h_2 ((S 13 [q_out_1.1.v, r.v]).A v_2 ++ []) fun h_7 =>
    ar .i64 (q_out_1.2 + 1) fun n =>
    next (r_2, n) h_7))
     (K q_out_1.1.v h_1)) (out, 0) h
def lateenref06_vars_a : Ann := (.seq .leaf (.seq (.seq .leaf (.block (.loop [(0, .sl), (7, .int .i64)] [1, 2] (.seq (.seq .leaf (.cond .leaf .leaf)) (.seq (.block (.free 14 [[], [], [], [], [], [], [], [], [], [], [], [], [15], [12], []] [12, 13, 15])) .leaf))))) (.seq .leaf .leaf)))
theorem lateenref06_vars_eq (out : Sl) (first : ByteArray) (l : Sl) (h : Heap) (K : Value → Heap → Prop) : lateenref06_vars out first l h K = fnW Tryd.prog ty lateenref06_vars_a (bodyOf Tryd.f20) [.tmp 6] [out.v, .string first, l.v] h K := by kernel_rfl
theorem lateenref06_vars_of {out : Sl} {first : ByteArray} {l : Sl} {h : Heap} {K : Value → Heap → Prop} (hw : lateenref06_vars out first l h K) : ACalls Tryd.prog F_lateenref06_vars [out.v, .string first, l.v] h K :=
  calls_sound ty_ok mixed lateenref06_vars_a (c := bodyOf Tryd.f20) Tryd.func20 (by kernel_rfl) (by kernel_rfl) (by kernel_rfl) (Nat.le_of_ble_eq_true rfl) (by rw [lateenref06_vars_eq] at hw; exact hw)

/-- lateen/lateenref01.Put -/
def lateenref01_Put (n : Int) (h : Heap) (K : Value → Heap → Prop) : Prop :=
  ACalls Tryd.prog F_lateenref01_size [.int .i64 n] h fun v h_1 => as1 (.int .u64) v fun r =>
  loopW (fun _ (q_b : Sl × Int) h_2 next =>
    (10 : Int) ≠ 0 ∧ (ar .u64 (48 + (Int.tmod q_b.2 10)) fun n_1 =>
    bld si_Luint8 1 [(0, .int .u8 (IntKind.u8.wrap n_1))] h_2 fun s h_3 =>
    app si_Luint8 s q_b.1 h_3 fun s_1 h_4 =>
    (10 : Int) ≠ 0 ∧ (ifB ((IntKind.u64.wrap (Int.tdiv q_b.2 10)) == 0)
     (ifB (decide (n < 0))
   (toS h_4 s_1 fun s_2 =>
   (((⟨#[45]⟩ : ByteArray).size + s_2.size : Nat) : Int) ≤ IntKind.i64.max ∧ (K (.string ((⟨#[45]⟩ : ByteArray) ++ s_2)) h_4))
   (toS h_4 s_1 fun s_3 =>
  K (.string s_3) h_4))
     (next (s_1, IntKind.u64.wrap (Int.tdiv q_b.2 10)) h_4)))) ((⟨none, 0, 0⟩ : Sl), r) h_1
def lateenref01_Put_a : Ann := (.seq .leaf (.seq .leaf (.seq .leaf (.seq (.block (.loop [(3, .sl), (4, .int .u64)] [0] (.block (.seq .leaf (.seq .leaf (.seq .leaf (.cond .leaf .leaf))))))) (.seq (.seq .leaf (.cond (.seq .leaf .leaf) .leaf)) (.seq .leaf .leaf))))))
theorem lateenref01_Put_eq (n : Int) (h : Heap) (K : Value → Heap → Prop) : lateenref01_Put n h K = fnW Tryd.prog ty lateenref01_Put_a (bodyOf Tryd.f21) [.tmp 2] [.int .i64 n] h K := by kernel_rfl
theorem lateenref01_Put_of {n : Int} {h : Heap} {K : Value → Heap → Prop} (hw : lateenref01_Put n h K) : ACalls Tryd.prog F_lateenref01_Put [.int .i64 n] h K :=
  calls_sound ty_ok mixed lateenref01_Put_a (c := bodyOf Tryd.f21) Tryd.func21 (by kernel_rfl) (by kernel_rfl) (by kernel_rfl) (Nat.le_of_ble_eq_true rfl) (by rw [lateenref01_Put_eq] at hw; exact hw)

/-- lateen/lateenref03.Put -/
def lateenref03_Put (a : Array Value) (h : Heap) (K : Value → Heap → Prop) : Prop :=
  new 38 a h fun p h_1 =>
  ld (.agg 3) h_1 p fun (x : Array Value) =>
  ACalls Tryd.prog F_lateenref03_Right [.agg x] h_1 fun v h_2 => as1 .bool v fun r =>
  ifB (!r)
   (K (.string ⟨#[]⟩) h_2)
   (ld (.int .i64) h_2 (p.add 0) fun (x_1 : Int) =>
  ifB (x_1 == 1)
   (ld .str h_2 (p.add 1) fun (x_2 : ByteArray) =>
   K (.string x_2) h_2)
   (ld (.int .i64) h_2 (p.add 0) fun (x_3 : Int) =>
  ifB (x_3 == 2)
   (ld (.int .i64) h_2 (p.add 2) fun (x_4 : Int) =>
   ACalls Tryd.prog F_lateenref01_Put [.int .i64 x_4] h_2 fun v_1 h_3 => as1 .str v_1 fun r_1 =>
   K (.string r_1) h_3)
   (ld (.int .i64) h_2 (p.add 0) fun (x_5 : Int) =>
  ifB (x_5 == 3)
   (ld (.int .i64) h_2 (p.add 2) fun (x_6 : Int) =>
   ACalls Tryd.prog F_lateenref02_Put [.int .i64 x_6] h_2 fun v_2 h_4 => as1 .str v_2 fun r_2 =>
   K (.string r_2) h_4)
   (ld (.int .i64) h_2 (p.add 0) fun (x_7 : Int) =>
  ifB (x_7 == 4)
   (K (.string ⟨#[110, 117, 108, 108]⟩) h_2)
   (ld (.int .i64) h_2 (p.add 2) fun (x_8 : Int) =>
  ACalls Tryd.prog F_lateenref01_Put [.int .i64 x_8] h_2 fun v_3 h_5 => as1 .str v_3 fun r_3 =>
  (((⟨#[35]⟩ : ByteArray).size + r_3.size : Nat) : Int) ≤ IntKind.i64.max ∧ (K (.string ((⟨#[35]⟩ : ByteArray) ++ r_3)) h_5))))))
def lateenref03_Put_a : Ann := (.seq .leaf (.seq (.seq .leaf (.cond (.seq .leaf .leaf) .leaf)) (.seq (.seq .leaf (.cond (.seq .leaf .leaf) .leaf)) (.seq (.seq .leaf (.cond (.seq .leaf .leaf) .leaf)) (.seq (.seq .leaf (.cond (.seq .leaf .leaf) .leaf)) (.seq (.seq .leaf (.cond (.seq .leaf .leaf) .leaf)) (.seq .leaf .leaf)))))))
theorem lateenref03_Put_eq (a : Array Value) (h : Heap) (K : Value → Heap → Prop) : lateenref03_Put a h K = fnW Tryd.prog ty lateenref03_Put_a (bodyOf Tryd.f22) [.tmp 2] [.agg a] h K := by kernel_rfl
theorem lateenref03_Put_of {a : Array Value} {h : Heap} {K : Value → Heap → Prop} (hw : lateenref03_Put a h K) : ACalls Tryd.prog F_lateenref03_Put [.agg a] h K :=
  calls_sound ty_ok mixed lateenref03_Put_a (c := bodyOf Tryd.f22) Tryd.func22 (by kernel_rfl) (by kernel_rfl) (by kernel_rfl) (Nat.le_of_ble_eq_true rfl) (by rw [lateenref03_Put_eq] at hw; exact hw)

/-- lateen/lateenref06.code -/
def lateenref06_code (out : Sl) (x : Array Value) (h : Heap) (K : Value → Heap → Prop) : Prop :=
  new 43 x h fun p h_1 =>
  ld (.int .i64) h_1 (p.add 0) fun (x_1 : Int) =>
  ACalls Tryd.prog F_lateenref05_Of [.int .i64 x_1] h_1 fun v h_2 => as2 (.agg 5) .bool v fun r _ =>
  new 100 #[.string ⟨#[]⟩, .bool false, .bool false, .int .i64 0, .int .i64 0] h_2 fun p_1 h_3 =>
  r.size = 5 ∧ st r.toList h_3 p_1 fun h_4 =>
  joinW (fun _ (l : Sl) h_5 =>
    ld .str h_5 (p_1.add 0) fun (x_2 : ByteArray) =>
    bld si_Lstring 1 [(0, .string x_2)] h_5 fun s h_6 =>
    app si_Lstring l s h_6 fun s_1 h_7 =>
    joinW (fun _ (l_1 : Sl) h_8 =>
      ACalls Tryd.prog F_lateenref06_put [out.v, l_1.v] h_8 fun v_1 h_9 => as1 .sl v_1 fun r_2 =>
      loopW (fun _ (q_out_1 : Sl × Int) h_10 next =>
        ld .sl h_10 (p.add 4) fun (x_3 : Sl) =>
        ifB (decide (q_out_1.2 < (x_3.len : Int)))
         (∃ (R : Heap → Prop) (h_11 : Heap) (L : List As) (S : Specs), R h_10 ∧ Sep h_11 h_10 L ∧ (ldF .sl R (p.add 4) fun (x_4 : Sl) =>
        idx 4 x_4 q_out_1.2 fun p_2 =>
        ldF .str R (p_2.add 0) fun (x_5 : ByteArray) =>
        ldF .sl R (p.add 4) fun (x_6 : Sl) =>
        idx 4 x_6 q_out_1.2 fun p_3 =>
        ldF .str R (p_3.add 1) fun (x_7 : ByteArray) =>
        ldF .sl R (p.add 4) fun (x_8 : Sl) =>
        idx 4 x_8 q_out_1.2 fun p_4 =>
        ldF (.int .i64) R (p_4.add 2) fun (x_9 : Int) =>
        freeW R h_11 (S 18 [.int .i64 x_9]) (L ++ []) (fun h_12 Kv =>
            ACalls Tryd.prog F_lateenref01_Put [.int .i64 x_9] h_12 fun v_2 h_13 => as1 .str v_2 fun r_3 =>
            Kv (.string r_3) h_13) fun v_3 => as1 .str v_3 fun r_4 =>
        freeW R h_11 (S 19 [.string x_5, .string x_7, .string r_4]) ((S 18 [.int .i64 x_9]).A v_3 ++ []) (fun h_14 Kv_1 =>
            bld si_Lstring 4 [(0, .string ⟨#[97, 116]⟩), (1, .string x_5), (2, .string x_7), (3, .string r_4)] h_14 fun s_2 h_15 =>
            Kv_1 s_2.v h_15) fun v_4 => as1 .sl v_4 fun r_5 =>
        endF R h_11 ((S 19 [.string x_5, .string x_7, .string r_4]).A v_4 ++ []) fun h_16 =>
        loopW (fun _ (q_w : Sl × Int) h_17 next_1 =>
          ld .sl h_17 (p.add 4) fun (x_10 : Sl) =>
          idx 4 x_10 q_out_1.2 fun p_5 =>
          ld .sl h_17 (p_5.add 3) fun (x_11 : Sl) =>
          ifB (decide (q_w.2 < (x_11.len : Int)))
           (∃ (R_1 : Heap → Prop) (h_18 : Heap) (L_1 : List As) (S_1 : Specs), R_1 h_17 ∧ Sep h_18 h_17 L_1 ∧ (ldF .sl R_1 (p.add 4) fun (x_12 : Sl) =>
          idx 4 x_12 q_out_1.2 fun p_6 =>
          ldF .sl R_1 (p_6.add 3) fun (x_13 : Sl) =>
          idx 4 x_13 q_w.2 fun p_7 =>
          ldF .str R_1 (p_7.add 0) fun (x_14 : ByteArray) =>
          ldF .sl R_1 (p.add 4) fun (x_15 : Sl) =>
          idx 4 x_15 q_out_1.2 fun p_8 =>
          ldF .sl R_1 (p_8.add 3) fun (x_16 : Sl) =>
          idx 4 x_16 q_w.2 fun p_9 =>
          ldF (.agg 3) R_1 (p_9.add 1) fun (x_17 : Array Value) =>
          freeW R_1 h_18 (S_1 21 [.agg x_17]) (L_1 ++ []) (fun h_19 Kv_2 =>
              ACalls Tryd.prog F_lateenref03_Put [.agg x_17] h_19 fun v_5 h_20 => as1 .str v_5 fun r_6 =>
              Kv_2 (.string r_6) h_20) fun v_6 => as1 .str v_6 fun r_7 =>
          freeW R_1 h_18 (S_1 22 [.string x_14, .string r_7]) ((S_1 21 [.agg x_17]).A v_6 ++ []) (fun h_21 Kv_3 =>
              bld si_Lstring 2 [(0, .string x_14), (1, .string r_7)] h_21 fun s_3 h_22 =>
              Kv_3 s_3.v h_22) fun v_7 => as1 .sl v_7 fun r_8 =>
          freeW R_1 h_18 (S_1 23 [q_w.1.v, r_8.v]) ((S_1 22 [.string x_14, .string r_7]).A v_7 ++ []) (fun h_23 Kv_4 =>
              app si_Lstring q_w.1 r_8 h_23 fun s_4 h_24 =>
              Kv_4 s_4.v h_24) fun v_8 => as1 .sl v_8 fun r_9 =>
          endF R_1 h_18 ((S_1 23 [q_w.1.v, r_8.v]).A v_8 ++ []) fun h_25 =>
          ar .i64 (q_w.2 + 1) fun n =>
          next_1 (r_9, n) h_25))
           (ACalls Tryd.prog F_lateenref06_put [q_out_1.1.v, q_w.1.v] h_17 fun v_9 h_26 => as1 .sl v_9 fun r_10 =>
        ar .i64 (q_out_1.2 + 1) fun n_1 =>
        next (r_10, n_1) h_26)) (r_5, 0) h_16))
         (loopW (fun _ (q_out_2 : Sl × Int) h_27 next_2 =>
        ld .sl h_27 (p.add 5) fun (x_18 : Sl) =>
        ifB (decide (q_out_2.2 < (x_18.len : Int)))
         (∃ (R_2 : Heap → Prop) (h_28 : Heap) (L_2 : List As) (S_2 : Specs), R_2 h_27 ∧ Sep h_28 h_27 L_2 ∧ (ldF .sl R_2 (p.add 5) fun (x_19 : Sl) =>
        idx 2 x_19 q_out_2.2 fun p_10 =>
        ldF .str R_2 (p_10.add 0) fun (x_20 : ByteArray) =>
        freeW R_2 h_28 (S_2 7 [.string x_20]) (L_2 ++ []) (fun h_29 Kv_5 =>
            bld si_Lstring 2 [(0, .string ⟨#[111, 98, 106]⟩), (1, .string x_20)] h_29 fun s_5 h_30 =>
            Kv_5 s_5.v h_30) fun v_10 => as1 .sl v_10 fun r_11 =>
        ldF .sl R_2 (p.add 5) fun (x_21 : Sl) =>
        idx 2 x_21 q_out_2.2 fun p_11 =>
        ldF .sl R_2 (p_11.add 1) fun (x_22 : Sl) =>
        freeW R_2 h_28 (S_2 14 [r_11.v, x_22.v]) ((S_2 7 [.string x_20]).A v_10 ++ []) (fun h_31 Kv_6 =>
            ACalls Tryd.prog F_lateenref06_args [r_11.v, x_22.v] h_31 fun v_11 h_32 => as1 .sl v_11 fun r_12 =>
            Kv_6 r_12.v h_32) fun v_12 => as1 .sl v_12 fun r_13 =>
        freeW R_2 h_28 (S_2 15 [q_out_2.1.v, r_13.v]) ((S_2 14 [r_11.v, x_22.v]).A v_12 ++ []) (fun h_33 Kv_7 =>
            ACalls Tryd.prog F_lateenref06_put [q_out_2.1.v, r_13.v] h_33 fun v_13 h_34 => as1 .sl v_13 fun r_14 =>
            Kv_7 r_14.v h_34) fun v_14 => as1 .sl v_14 fun r_15 =>
        endF R_2 h_28 ((S_2 15 [q_out_2.1.v, r_13.v]).A v_14 ++ []) fun h_35 =>
        ar .i64 (q_out_2.2 + 1) fun n_2 =>
        next_2 (r_15, n_2) h_35))
         (K q_out_2.1.v h_27)) (q_out_1.1, 0) h_10)) (r_2, 0) h_9) fun k_1 =>
    joinW (fun _ (t : Bool) h_36 =>
      ifB t
       (ld .sl h_36 (p.add 3) fun (x_23 : Sl) =>
       slc 3 x_23 none (some 1) fun s_6 =>
       ACalls Tryd.prog F_lateenref06_args [s_1.v, s_6.v] h_36 fun v_15 h_37 => as1 .sl v_15 fun r_16 =>
       ld .str h_37 (p.add 2) fun (x_24 : ByteArray) =>
       bld si_Lstring 1 [(0, .string x_24)] h_37 fun s_7 h_38 =>
       app si_Lstring r_16 s_7 h_38 fun s_8 h_39 =>
       ld .sl h_39 (p.add 3) fun (x_25 : Sl) =>
       slc 3 x_25 (some 1) none fun s_9 =>
       ACalls Tryd.prog F_lateenref06_args [s_8.v, s_9.v] h_39 fun v_16 h_40 => as1 .sl v_16 fun r_17 =>
       k_1 r_17 h_40)
       (joinW (fun _ (l_2 : Sl) h_41 =>
         ld .sl h_41 (p.add 3) fun (x_26 : Sl) =>
         ACalls Tryd.prog F_lateenref06_args [l_2.v, x_26.v] h_41 fun v_17 h_42 => as1 .sl v_17 fun r_18 =>
         k_1 r_18 h_42) fun k_4 =>
       ld .bool h_36 (p_1.add 2) fun (x_27 : Bool) =>
       ifB x_27
        (ld .str h_36 (p.add 2) fun (x_28 : ByteArray) =>
        bld si_Lstring 1 [(0, .string x_28)] h_36 fun s_10 h_43 =>
        app si_Lstring s_1 s_10 h_43 fun s_11 h_44 =>
        k_4 s_11 h_44)
        (k_4 s_1 h_36))) fun k_3 =>
    ld (.int .i64) h_7 (p.add 0) fun (x_29 : Int) =>
    ifB (x_29 == 26)
     (ld .sl h_7 (p.add 3) fun (x_30 : Sl) =>
         k_3 (decide ((x_30.len : Int) > 0)) h_7)
     (ld (.int .i64) h_7 (p.add 0) fun (x_31 : Int) =>
      ifB (x_31 == 27)
        (ld .sl h_7 (p.add 3) fun (x_32 : Sl) =>
         k_3 (decide ((x_32.len : Int) > 0)) h_7)
        (k_3 false h_7))) fun k =>
  ld .bool h_4 (p_1.add 1) fun (x_33 : Bool) =>
  ifB x_33
   (ld .str h_4 (p.add 1) fun (x_34 : ByteArray) =>
   bld si_Lstring 2 [(0, .string x_34), (1, .string ⟨#[61]⟩)] h_4 fun s_12 h_45 =>
   app si_Lstring (⟨none, 0, 0⟩ : Sl) s_12 h_45 fun s_13 h_46 =>
   k s_13 h_46)
   (k (⟨none, 0, 0⟩ : Sl) h_4)
def lateenref06_code_a : Ann := (.seq .leaf (.seq .leaf (.seq .leaf (.join [(7, .sl)] [0, 3, 5] (.seq .leaf (.cond .leaf .leaf)) (.seq .leaf (.join [(7, .sl)] [0, 3] (.join [(43, .bool)] [0, 3, 5, 7] .leaf (.cond (.seq .leaf (.seq .leaf .leaf)) (.join [(7, .sl)] [0, 3] (.seq .leaf (.cond .leaf .leaf)) .leaf))) (.seq .leaf (.seq (.seq .leaf (.block (.loop [(0, .sl), (8, .int .i64)] [3] (.seq (.seq .leaf (.cond .leaf .leaf)) (.seq (.block (.seq (.free 20 [[], [], [], [], [], [], [], [], [], [], [], [], [], [], [], [], [], [], [21], [18], []] [18, 19, 21]) (.seq (.seq .leaf (.block (.loop [(9, .sl), (10, .int .i64)] [0, 3, 8] (.seq (.seq .leaf (.cond .leaf .leaf)) (.seq (.block (.free 24 [[], [], [], [], [], [], [], [], [], [], [], [], [], [], [], [], [], [], [], [], [], [25], [21], [22], []] [21, 22, 23, 25])) .leaf))))) .leaf))) .leaf))))) (.seq (.seq .leaf (.block (.loop [(0, .sl), (11, .int .i64)] [3] (.seq (.seq .leaf (.cond .leaf .leaf)) (.seq (.block (.free 16 [[], [], [], [], [], [], [], [17], [], [], [], [], [], [], [7], [14], []] [7, 14, 15, 17])) .leaf))))) (.seq .leaf .leaf))))))))))
theorem lateenref06_code_eq (out : Sl) (x : Array Value) (h : Heap) (K : Value → Heap → Prop) : lateenref06_code out x h K = fnW Tryd.prog ty lateenref06_code_a (bodyOf Tryd.f23) [.tmp 4] [out.v, .agg x] h K := by kernel_rfl
theorem lateenref06_code_of {out : Sl} {x : Array Value} {h : Heap} {K : Value → Heap → Prop} (hw : lateenref06_code out x h K) : ACalls Tryd.prog F_lateenref06_code [out.v, .agg x] h K :=
  calls_sound ty_ok mixed lateenref06_code_a (c := bodyOf Tryd.f23) Tryd.func23 (by kernel_rfl) (by kernel_rfl) (by kernel_rfl) (Nat.le_of_ble_eq_true rfl) (by rw [lateenref06_code_eq] at hw; exact hw)

/-- lateen/lateenref06.ends -/
def lateenref06_ends (out : Sl) (t : Array Value) (h : Heap) (K : Value → Heap → Prop) : Prop :=
  new 47 t h fun p h_1 =>
  bld si_Lstring 5 [(0, .string ⟨#[]⟩), (1, .string ⟨#[106, 117, 109, 112]⟩), (2, .string ⟨#[98, 114, 97, 110, 99, 104]⟩), (3, .string ⟨#[114, 101, 116]⟩), (4, .string ⟨#[116, 114, 97, 112]⟩)] h_1 fun s h_2 =>
  joinW (fun _ (t_1 : Bool) h_3 =>
    ifB t_1
     (K out.v h_3)
     (ld (.int .i64) h_3 (p.add 0) fun (x : Int) =>
  idx 1 s x fun p_1 =>
  ld .str h_3 p_1 fun (x_1 : ByteArray) =>
  bld si_Lstring 1 [(0, .string x_1)] h_3 fun s_1 h_4 =>
  joinW (fun _ (w : Sl) h_5 =>
    ld .sl h_5 (p.add 4) fun (x_2 : Sl) =>
    app si_Lstring w x_2 h_5 fun s_2 h_6 =>
    joinW (fun _ (w_1 : Sl) h_7 =>
      ACalls Tryd.prog F_lateenref06_put [out.v, w_1.v] h_7 fun v h_8 => as1 .sl v fun r =>
      K r.v h_8) fun k_2 =>
    ld (.int .i64) h_6 (p.add 0) fun (x_3 : Int) =>
    ifB (x_3 == 4)
     (ld (.int .i64) h_6 (p.add 5) fun (x_4 : Int) =>
     ACalls Tryd.prog F_lateenref01_Put [.int .i64 x_4] h_6 fun v_1 h_9 => as1 .str v_1 fun r_1 =>
     bld si_Lstring 1 [(0, .string r_1)] h_9 fun s_3 h_10 =>
     app si_Lstring s_2 s_3 h_10 fun s_4 h_11 =>
     k_2 s_4 h_11)
     (k_2 s_2 h_6)) fun k_1 =>
  joinW (fun _ (t_2 : Bool) h_12 =>
    ifB t_2
     (ld (.agg 3) h_12 (p.add 1) fun (x_5 : Array Value) =>
     ACalls Tryd.prog F_lateenref03_Put [.agg x_5] h_12 fun v_2 h_13 => as1 .str v_2 fun r_2 =>
     bld si_Lstring 1 [(0, .string r_2)] h_13 fun s_5 h_14 =>
     app si_Lstring s_1 s_5 h_14 fun s_6 h_15 =>
     k_1 s_6 h_15)
     (k_1 s_1 h_12)) fun k_3 =>
  ld (.int .i64) h_4 (p.add 0) fun (x_6 : Int) =>
  ifB (x_6 == 2)
   (k_3 true h_4)
   (ld (.int .i64) h_4 (p.add 0) fun (x_7 : Int) =>
    k_3 (x_7 == 3) h_4))) fun k =>
  ld (.int .i64) h_2 (p.add 0) fun (x_8 : Int) =>
  ifB (decide (x_8 < 1))
   (k true h_2)
   (ld (.int .i64) h_2 (p.add 0) fun (x_9 : Int) =>
    k (decide (x_9 > 4)) h_2)
def lateenref06_ends_a : Ann := (.seq .leaf (.seq .leaf (.seq (.join [(15, .bool)] [0, 3, 5] .leaf (.cond (.seq .leaf .leaf) .leaf)) (.seq .leaf (.join [(6, .sl)] [0, 3] (.join [(30, .bool)] [0, 3, 6] .leaf (.cond .leaf .leaf)) (.seq .leaf (.join [(6, .sl)] [0] (.seq .leaf (.cond .leaf .leaf)) (.seq .leaf .leaf))))))))
theorem lateenref06_ends_eq (out : Sl) (t : Array Value) (h : Heap) (K : Value → Heap → Prop) : lateenref06_ends out t h K = fnW Tryd.prog ty lateenref06_ends_a (bodyOf Tryd.f24) [.tmp 4] [out.v, .agg t] h K := by kernel_rfl
theorem lateenref06_ends_of {out : Sl} {t : Array Value} {h : Heap} {K : Value → Heap → Prop} (hw : lateenref06_ends out t h K) : ACalls Tryd.prog F_lateenref06_ends [out.v, .agg t] h K :=
  calls_sound ty_ok mixed lateenref06_ends_a (c := bodyOf Tryd.f24) Tryd.func24 (by kernel_rfl) (by kernel_rfl) (by kernel_rfl) (Nat.le_of_ble_eq_true rfl) (by rw [lateenref06_ends_eq] at hw; exact hw)

/-- lateen/live.all -/
def live_all (f : Array Value) (h : Heap) (K : Value → Heap → Prop) : Prop :=
  new 25 f h fun p h_1 =>
  ld .sl h_1 (p.add 4) fun (x : Sl) =>
  (x.len : Int) = (x.len : Int) ∧ mk si_Llive_set (x.len : Int) h_1 fun s h_2 =>
  loopW (fun _ (t : Int) h_3 next =>
    ifB (decide (t < (s.len : Int)))
     (mkm h_3 fun m h_4 =>
    idx 1 s t fun p_1 =>
    st [.map m] h_4 p_1 fun h_5 =>
    ar .i64 (t + 1) fun n =>
    next n h_5)
     (loopW (fun _ (grown : Bool) h_6 next_1 =>
    ifB grown
     (ld .sl h_6 (p.add 4) fun (x_1 : Sl) =>
    ar .i64 ((x_1.len : Int) - 1) fun n_1 =>
    loopW (fun _ (q_grown_1 : Bool × Int) h_7 next_2 =>
      ifB (decide (q_grown_1.2 ≥ 0))
       (ld (.agg 5) h_7 p fun (x_2 : Array Value) =>
      ACalls Tryd.prog F_live_end [.agg x_2, s.v, .int .i64 q_grown_1.2] h_7 fun v h_8 => as1 .map v fun r =>
      ld .sl h_8 (p.add 4) fun (x_3 : Sl) =>
      idx 9 x_3 q_grown_1.2 fun p_2 =>
      ld (.agg 9) h_8 p_2 fun (x_4 : Array Value) =>
      ACalls Tryd.prog F_live_set_back [.map r, .agg x_4, .int .i64 0] h_8 fun v_1 h_9 => as0 v_1 (
      joinW (fun _ (grown_2 : Bool) h_10 =>
        idx 1 s q_grown_1.2 fun p_3 =>
        st [.map r] h_10 p_3 fun h_11 =>
        ar .i64 (q_grown_1.2 - 1) fun n_2 =>
      next_2 (grown_2, n_2) h_11) fun k_1 =>
      mln r h_9 fun n_3 =>
      hExt h_9 h_9 ∧ idx 1 s q_grown_1.2 fun p_4 =>
      ld .map h_9 p_4 fun (x_5 : Option Nat) =>
      mln x_5 h_9 fun n_4 =>
      hExt h_9 h_9 ∧ ifB (decide (n_3 > n_4))
       (k_1 true h_9)
       (k_1 q_grown_1.1 h_9)))
       (next_1 q_grown_1.1 h_7)) (false, n_1) h_6)
     (K s.v h_6)) true h_3)) 0 h_2
def live_all_a : Ann := (.seq .leaf (.seq .leaf (.seq (.seq .leaf (.block (.loop [(14, .int .i64)] [1, 3, 13] (.seq .leaf (.seq (.cond .leaf .leaf) (.seq (.block (.seq .leaf .leaf)) .leaf)))))) (.seq (.seq .leaf (.block (.loop [(5, .bool)] [1, 3] (.seq (.seq .leaf (.cond .leaf .leaf)) (.block (.seq .leaf (.seq .leaf (.block (.loop [(5, .bool), (6, .int .i64)] [1, 3] (.seq (.seq .leaf (.cond .leaf .leaf)) (.seq (.block (.seq .leaf (.seq .leaf (.join [(5, .bool)] [1, 3, 6, 7] (.seq .based (.cond .leaf .leaf)) .leaf)))) .leaf))))))))))) (.seq .leaf .leaf)))))
theorem live_all_eq (f : Array Value) (h : Heap) (K : Value → Heap → Prop) : live_all f h K = fnW Tryd.prog ty live_all_a (bodyOf Tryd.f25) [.tmp 2] [.agg f] h K := by kernel_rfl
theorem live_all_of {f : Array Value} {h : Heap} {K : Value → Heap → Prop} (hw : live_all f h K) : ACalls Tryd.prog F_live_all [.agg f] h K :=
  calls_sound ty_ok mixed live_all_a (c := bodyOf Tryd.f25) Tryd.func25 (by kernel_rfl) (by kernel_rfl) (by kernel_rfl) (Nat.le_of_ble_eq_true rfl) (by rw [live_all_eq] at hw; exact hw)

/-- (lateen/live.set).names -/
def live_set_names (s : Option Nat) (h : Heap) (K : Value → Heap → Prop) : Prop :=
  ACalls Tryd.prog F_maps_Keys_1 [.map s] h fun v h_1 => as1 .fn v fun r =>
  ACalls Tryd.prog F_slices_Sorted [r] h_1 fun v_1 h_2 => as1 .sl v_1 fun r_1 =>
  K r_1.v h_2
def live_set_names_a : Ann := (.seq .leaf (.seq .leaf .leaf))
theorem live_set_names_eq (s : Option Nat) (h : Heap) (K : Value → Heap → Prop) : live_set_names s h K = fnW Tryd.prog ty live_set_names_a (bodyOf Tryd.f26) [.tmp 2] [.map s] h K := by kernel_rfl
theorem live_set_names_of {s : Option Nat} {h : Heap} {K : Value → Heap → Prop} (hw : live_set_names s h K) : ACalls Tryd.prog F_live_set_names [.map s] h K :=
  calls_sound ty_ok mixed live_set_names_a (c := bodyOf Tryd.f26) Tryd.func26 (by kernel_rfl) (by kernel_rfl) (by kernel_rfl) (Nat.le_of_ble_eq_true rfl) (by rw [live_set_names_eq] at hw; exact hw)

/-- lateen/assign.all -/
def assign_all (f : Array Value) (h : Heap) (K : Value → Heap → Prop) : Prop :=
  new 25 f h fun p h_1 =>
  ld (.agg 5) h_1 p fun (x : Array Value) =>
  ACalls Tryd.prog F_flow_Of [.agg x] h_1 fun v h_2 => as1 .sl v fun r =>
  ACalls Tryd.prog F_flow_Preds [r.v] h_2 fun v_1 h_3 => as1 .sl v_1 fun r_1 =>
  ACalls Tryd.prog F_flow_Order [r.v] h_3 fun v_2 h_4 => as1 .sl v_2 fun r_2 =>
  ld .sl h_4 (p.add 4) fun (x_1 : Sl) =>
  (x_1.len : Int) = (x_1.len : Int) ∧ mk si_Lassign_set (x_1.len : Int) h_4 fun s h_5 =>
  ld .sl h_5 (p.add 4) fun (x_2 : Sl) =>
  (x_2.len : Int) = (x_2.len : Int) ∧ mk si_Lassign_set (x_2.len : Int) h_5 fun s_1 h_6 =>
  loopW (fun _ (changed : Bool) h_7 next =>
    ifB changed
     (loopW (fun _ (q_changed_1 : Bool × Int) h_8 next_1 =>
      ifB (decide (q_changed_1.2 < (r_2.len : Int)))
       (idx 1 r_2 q_changed_1.2 fun p_1 =>
      ld (.int .i64) h_8 p_1 fun (x_3 : Int) =>
      joinW (fun _ (inv : Option Nat) h_9 =>
        idx 1 r_1 x_3 fun p_2 =>
        ld .sl h_9 p_2 fun (x_4 : Sl) =>
        loopW (fun _ (q_inv_1 : (Option Nat) × Int) h_10 next_2 =>
          ifB (decide (q_inv_1.2 < (x_4.len : Int)))
           (joinW (fun _ (inv_2 : Option Nat) h_11 =>
            ar .i64 (q_inv_1.2 + 1) fun n =>
            next_2 (inv_2, n) h_11) fun k_1 =>
          idx 1 x_4 q_inv_1.2 fun p_3 =>
          ld (.int .i64) h_10 p_3 fun (x_5 : Int) =>
          idx 1 s_1 x_5 fun p_4 =>
          ld .map h_10 p_4 fun (x_6 : Option Nat) =>
          ifB (!x_6.isNone)
           (idx 1 s_1 x_5 fun p_5 =>
           ld .map h_10 p_5 fun (x_7 : Option Nat) =>
           ACalls Tryd.prog F_assign_meet [.map q_inv_1.1, .map x_7] h_10 fun v_3 h_12 => as1 .map v_3 fun r_3 =>
           k_1 r_3 h_12)
           (k_1 q_inv_1.1 h_10))
           (joinW (fun _ (inv_3 : Option Nat) h_13 =>
          ld .sl h_13 (p.add 4) fun (x_8 : Sl) =>
          idx 9 x_8 x_3 fun p_6 =>
          ld (.agg 9) h_13 p_6 fun (x_9 : Array Value) =>
          ACalls Tryd.prog F_assign_set_phis [.map inv_3, .agg x_9] h_13 fun v_4 h_14 => as1 .map v_4 fun r_4 =>
          joinW (fun _ (changed_2 : Bool) h_15 =>
            ld .sl h_15 (p.add 4) fun (x_10 : Sl) =>
            idx 9 x_10 x_3 fun p_7 =>
            ld (.agg 9) h_15 p_7 fun (x_11 : Array Value) =>
            ACalls Tryd.prog F_assign_set_over [.map r_4, .agg x_11] h_15 fun v_5 h_16 => as1 .map v_5 fun r_5 =>
            idx 1 s x_3 fun p_8 =>
            st [.map r_4] h_16 p_8 fun h_17 =>
            idx 1 s_1 x_3 fun p_9 =>
            st [.map r_5] h_17 p_9 fun h_18 =>
            ar .i64 (q_changed_1.2 + 1) fun n_1 =>
      next_1 (changed_2, n_1) h_18) fun k_3 =>
          joinW (fun _ (t_2 : Bool) h_19 =>
            ifB t_2
             (k_3 true h_19)
             (k_3 q_changed_1.1 h_19)) fun k_4 =>
          idx 1 s x_3 fun p_10 =>
          ld .map h_14 p_10 fun (x_12 : Option Nat) =>
          ifB x_12.isNone
           (k_4 true h_14)
           (idx 1 s x_3 fun p_11 =>
             ld .map h_14 p_11 fun (x_13 : Option Nat) =>
              mln x_13 h_14 fun n_2 =>
               mln r_4 h_14 fun n_3 =>
                 k_4 (n_2 != n_3) h_14)) fun k_2 =>
        ifB q_inv_1.1.isNone
         (mkm h_10 fun m h_20 =>
         k_2 m h_20)
         (k_2 q_inv_1.1 h_10))) (inv, 0) h_9) fun k =>
      ifB (x_3 == 0)
       (ld (.agg 5) h_8 p fun (x_14 : Array Value) =>
       ACalls Tryd.prog F_assign_params [.agg x_14] h_8 fun v_6 h_21 => as1 .map v_6 fun r_6 =>
       k r_6 h_21)
       (k none h_8))
       (next q_changed_1.1 h_8)) (false, 0) h_7)
     (K s.v h_7)) true h_6
def assign_all_a : Ann := (.seq .leaf (.seq .leaf (.seq .leaf (.seq .leaf (.seq .leaf (.seq .leaf (.seq (.seq .leaf (.block (.loop [(8, .bool)] [1, 4, 5, 6, 7] (.seq (.seq .leaf (.cond .leaf .leaf)) (.block (.seq .leaf (.seq .leaf (.block (.loop [(8, .bool), (31, .int .i64)] [1, 4, 5, 6, 7, 29, 30] (.seq .leaf (.seq (.cond .leaf .leaf) (.seq (.block (.seq .leaf (.seq .leaf (.join [(11, .map)] [1, 4, 5, 6, 7, 8, 10, 29, 30, 31] (.seq .leaf (.cond .leaf .leaf)) (.seq (.seq .leaf (.block (.loop [(11, .map), (44, .int .i64)] [1, 4, 5, 6, 7, 8, 10, 29, 30, 31, 42, 43] (.seq .leaf (.seq (.cond .leaf .leaf) (.join [(11, .map)] [1, 4, 5, 6, 7, 8, 10, 29, 30, 31, 42, 43, 44] (.block (.seq .leaf (.seq .leaf (.cond .leaf .leaf)))) .leaf)))))) (.join [(11, .map)] [1, 4, 5, 6, 7, 8, 10, 29, 30, 31] (.seq .leaf (.cond .leaf .leaf)) (.seq .leaf (.join [(8, .bool)] [1, 4, 5, 6, 7, 10, 11, 29, 30, 31] (.join [(84, .bool)] [1, 4, 5, 6, 7, 8, 10, 11, 29, 30, 31] .leaf (.cond .leaf .leaf)) .leaf)))))))) .leaf)))))))))))) (.seq .leaf .leaf))))))))
theorem assign_all_eq (f : Array Value) (h : Heap) (K : Value → Heap → Prop) : assign_all f h K = fnW Tryd.prog ty assign_all_a (bodyOf Tryd.f27) [.tmp 2] [.agg f] h K := by kernel_rfl
theorem assign_all_of {f : Array Value} {h : Heap} {K : Value → Heap → Prop} (hw : assign_all f h K) : ACalls Tryd.prog F_assign_all [.agg f] h K :=
  calls_sound ty_ok mixed assign_all_a (c := bodyOf Tryd.f27) Tryd.func27 (by kernel_rfl) (by kernel_rfl) (by kernel_rfl) (Nat.le_of_ble_eq_true rfl) (by rw [assign_all_eq] at hw; exact hw)

/-- maps.Keys[lateen/assign.set,string,bool] -/
def maps_Keys_0 (m : Option Nat) (h : Heap) (K : Value → Heap → Prop) : Prop :=
  new 79 #[.map m] h fun p h_1 =>
  K (.func (.func F_maps_Keys_assign_set_string_bool__1) #[] #[.pointer (some p)]) h_1
def maps_Keys_0_a : Ann := (.seq .leaf (.seq .leaf .leaf))
theorem maps_Keys_0_eq (m : Option Nat) (h : Heap) (K : Value → Heap → Prop) : maps_Keys_0 m h K = fnW Tryd.prog ty maps_Keys_0_a (bodyOf Tryd.f29) [.tmp 2] [.map m] h K := by kernel_rfl
theorem maps_Keys_0_of {m : Option Nat} {h : Heap} {K : Value → Heap → Prop} (hw : maps_Keys_0 m h K) : ACalls Tryd.prog F_maps_Keys_0 [.map m] h K :=
  calls_sound ty_ok mixed maps_Keys_0_a (c := bodyOf Tryd.f29) Tryd.func29 (by kernel_rfl) (by kernel_rfl) (by kernel_rfl) (Nat.le_of_ble_eq_true rfl) (by rw [maps_Keys_0_eq] at hw; exact hw)

/-- (lateen/assign.set).block -/
def assign_set_block (s : Option Nat) (b : Array Value) (h : Heap) (K : Value → Heap → Prop) : Prop :=
  new 50 b h fun p h_1 =>
  ACalls Tryd.prog F_maps_Clone [.map s] h_1 fun v h_2 => as1 .map v fun r =>
  ld .sl h_2 (p.add 2) fun (x : Sl) =>
  loopW (fun _ (t : Int) h_3 next =>
    ifB (decide (t < (x.len : Int)))
     (joinW (fun _ (_ : Unit) h_4 =>
      ar .i64 (t + 1) fun n =>
      next n h_4) fun k =>
    idx 6 x t fun p_1 =>
    ld (.agg 6) h_3 p_1 fun (x_1 : Array Value) =>
    new 43 #[.int .i64 0, .string ⟨#[]⟩, .string ⟨#[]⟩, .slice none 0 0, .slice none 0 0, .slice none 0 0] h_3 fun p_2 h_5 =>
    x_1.size = 6 ∧ st x_1.toList h_5 p_2 fun h_6 =>
    ld (.agg 6) h_6 p_2 fun (x_2 : Array Value) =>
    ACalls Tryd.prog F_live_Uses [.agg x_2] h_6 fun v_1 h_7 => as1 .sl v_1 fun r_1 =>
    ACalls Tryd.prog F_assign_set_has [.map r, r_1.v] h_7 fun v_2 h_8 => as1 .bool v_2 fun r_2 =>
    ifB (!r_2)
     (K (.bool false) h_8)
     (ld .str h_8 (p_2.add 1) fun (x_3 : ByteArray) =>
    ifB (!(x_3.toList == (⟨#[]⟩ : ByteArray).toList))
     (ld .str h_8 (p_2.add 1) fun (x_4 : ByteArray) =>
     mup .string r (.string x_4) (.bool true) h_8 fun h_9 =>
     k () h_9)
     (k () h_8)))
     (joinW (fun _ (t_1 : Bool) h_10 =>
    K (.bool t_1) h_10) fun k_1 =>
  ld (.int .i64) h_3 ((p.add 3).add 0) fun (x_5 : Int) =>
  ifB (x_5 != 2)
   (ld (.int .i64) h_3 ((p.add 3).add 0) fun (x_6 : Int) =>
     ifB (x_6 != 3)
       (k_1 true h_3)
       (ld (.agg 3) h_3 ((p.add 3).add 1) fun (x_7 : Array Value) =>
          ACalls Tryd.prog F_assign_set_arg [.map r, .agg x_7] h_3 fun v_3 h_11 => as1 .bool v_3 fun r_3 =>
           k_1 r_3 h_11))
   (ld (.agg 3) h_3 ((p.add 3).add 1) fun (x_8 : Array Value) =>
          ACalls Tryd.prog F_assign_set_arg [.map r, .agg x_8] h_3 fun v_4 h_12 => as1 .bool v_4 fun r_4 =>
           k_1 r_4 h_12))) 0 h_2
def assign_set_block_a : Ann := (.seq .leaf (.seq .leaf (.seq (.seq .leaf (.block (.loop [(13, .int .i64)] [3, 5, 11, 12] (.seq .leaf (.seq (.cond .leaf .leaf) (.join [] [3, 5, 11, 12, 13] (.block (.seq .leaf (.seq (.seq .leaf (.cond (.seq .leaf .leaf) .leaf)) (.seq .leaf (.cond .leaf .leaf))))) .leaf)))))) (.join [(4, .bool)] [] .leaf .leaf))))
theorem assign_set_block_eq (s : Option Nat) (b : Array Value) (h : Heap) (K : Value → Heap → Prop) : assign_set_block s b h K = fnW Tryd.prog ty assign_set_block_a (bodyOf Tryd.f30) [.tmp 4] [.map s, .agg b] h K := by kernel_rfl
theorem assign_set_block_of {s : Option Nat} {b : Array Value} {h : Heap} {K : Value → Heap → Prop} (hw : assign_set_block s b h K) : ACalls Tryd.prog F_assign_set_block [.map s, .agg b] h K :=
  calls_sound ty_ok mixed assign_set_block_a (c := bodyOf Tryd.f30) Tryd.func30 (by kernel_rfl) (by kernel_rfl) (by kernel_rfl) (Nat.le_of_ble_eq_true rfl) (by rw [assign_set_block_eq] at hw; exact hw)

/-- (lateen/assign.set).over -/
def assign_set_over (s : Option Nat) (b : Array Value) (h : Heap) (K : Value → Heap → Prop) : Prop :=
  new 50 b h fun p h_1 =>
  ACalls Tryd.prog F_maps_Clone [.map s] h_1 fun v h_2 => as1 .map v fun r =>
  ld .sl h_2 (p.add 2) fun (x : Sl) =>
  loopW (fun _ (t : Int) h_3 next =>
    ifB (decide (t < (x.len : Int)))
     (joinW (fun _ (_ : Unit) h_4 =>
      ar .i64 (t + 1) fun n =>
      next n h_4) fun k =>
    idx 6 x t fun p_1 =>
    ld (.agg 6) h_3 p_1 fun (x_1 : Array Value) =>
    new 43 #[.int .i64 0, .string ⟨#[]⟩, .string ⟨#[]⟩, .slice none 0 0, .slice none 0 0, .slice none 0 0] h_3 fun p_2 h_5 =>
    x_1.size = 6 ∧ st x_1.toList h_5 p_2 fun h_6 =>
    ld .str h_6 (p_2.add 1) fun (x_2 : ByteArray) =>
    ifB (!(x_2.toList == (⟨#[]⟩ : ByteArray).toList))
     (ld .str h_6 (p_2.add 1) fun (x_3 : ByteArray) =>
     mup .string r (.string x_3) (.bool true) h_6 fun h_7 =>
     k () h_7)
     (k () h_6))
     (K (.map r) h_3)) 0 h_2
def assign_set_over_a : Ann := (.seq .leaf (.seq .leaf (.seq (.seq .leaf (.block (.loop [(13, .int .i64)] [5, 11, 12] (.seq .leaf (.seq (.cond .leaf .leaf) (.join [] [5, 11, 12, 13] (.block (.seq .leaf (.seq .leaf (.cond .leaf .leaf)))) .leaf)))))) (.seq .leaf .leaf))))
theorem assign_set_over_eq (s : Option Nat) (b : Array Value) (h : Heap) (K : Value → Heap → Prop) : assign_set_over s b h K = fnW Tryd.prog ty assign_set_over_a (bodyOf Tryd.f31) [.tmp 4] [.map s, .agg b] h K := by kernel_rfl
theorem assign_set_over_of {s : Option Nat} {b : Array Value} {h : Heap} {K : Value → Heap → Prop} (hw : assign_set_over s b h K) : ACalls Tryd.prog F_assign_set_over [.map s, .agg b] h K :=
  calls_sound ty_ok mixed assign_set_over_a (c := bodyOf Tryd.f31) Tryd.func31 (by kernel_rfl) (by kernel_rfl) (by kernel_rfl) (Nat.le_of_ble_eq_true rfl) (by rw [assign_set_over_eq] at hw; exact hw)

/-- lateen/assign.phis -/
def assign_phis (f : Array Value) (outs : Option Nat) (h : Heap) (K : Value → Heap → Prop) : Prop :=
  new 25 f h fun p h_1 =>
  ld .sl h_1 (p.add 4) fun (x : Sl) =>
  loopW (fun _ (t : Int) h_2 next =>
    ifB (decide (t < (x.len : Int)))
     (idx 9 x t fun p_1 =>
    ld (.agg 9) h_2 p_1 fun (x_1 : Array Value) =>
    new 50 #[.string ⟨#[]⟩, .slice none 0 0, .slice none 0 0, .int .i64 0, .int .i64 0, .string ⟨#[]⟩, .int .i64 0, .slice none 0 0, .int .i64 0] h_2 fun p_2 h_3 =>
    x_1.size = 9 ∧ st x_1.toList h_3 p_2 fun h_4 =>
    ld .sl h_4 (p_2.add 1) fun (x_2 : Sl) =>
    loopW (fun _ (t_1 : Int) h_5 next_1 =>
      ifB (decide (t_1 < (x_2.len : Int)))
       (idx 2 x_2 t_1 fun p_3 =>
      ld (.agg 2) h_5 p_3 fun (x_3 : Array Value) =>
      new 64 #[.string ⟨#[]⟩, .slice none 0 0] h_5 fun p_4 h_6 =>
      x_3.size = 2 ∧ st x_3.toList h_6 p_4 fun h_7 =>
      ld .sl h_7 (p_4.add 1) fun (x_4 : Sl) =>
      loopW (fun _ (t_2 : Int) h_8 next_2 =>
        ifB (decide (t_2 < (x_4.len : Int)))
         (idx 4 x_4 t_2 fun p_5 =>
        ld (.agg 4) h_8 p_5 fun (x_5 : Array Value) =>
        new 66 #[.string ⟨#[]⟩, .int .i64 0, .string ⟨#[]⟩, .int .i64 0] h_8 fun p_6 h_9 =>
        x_5.size = 4 ∧ st x_5.toList h_9 p_6 fun h_10 =>
        ld .str h_10 (p_6.add 0) fun (x_6 : ByteArray) =>
        mlk .string outs (.string x_6) h_10 fun r => as1 .map (r.getD (.map none)) fun y =>
        joinW (fun _ (t_3 : Bool) h_11 =>
          ifB t_3
           (K (.bool false) h_11)
           (ar .i64 (t_2 + 1) fun n =>
        next_2 n h_11)) fun k =>
        ifB r.isSome
         (ld (.agg 5) h_10 p fun (x_7 : Array Value) =>
         ld .str h_10 (p_6.add 0) fun (x_8 : ByteArray) =>
           ld .str h_10 (p_2.add 0) fun (x_9 : ByteArray) =>
             ACalls Tryd.prog F_assign_leads [.agg x_7, .string x_8, .string x_9] h_10 fun v h_12 => as1 .bool v fun r_1 =>
              ifB r_1
               (ld (.agg 3) h_12 (p_6.add 1) fun (x_10 : Array Value) =>
                 ACalls Tryd.prog F_assign_set_arg [.map y, .agg x_10] h_12 fun v_1 h_13 => as1 .bool v_1 fun r_2 =>
                  k (!r_2) h_13)
               (k false h_12))
         (k false h_10))
         (ar .i64 (t_1 + 1) fun n_1 =>
      next_1 n_1 h_8)) 0 h_7)
       (ar .i64 (t + 1) fun n_2 =>
    next n_2 h_5)) 0 h_4)
     (K (.bool true) h_2)) 0 h_1
def assign_phis_a : Ann := (.seq .leaf (.seq (.seq .leaf (.block (.loop [(16, .int .i64)] [1, 2, 14, 15] (.seq .leaf (.seq (.cond .leaf .leaf) (.seq (.block (.seq .leaf (.seq .leaf (.block (.loop [(23, .int .i64)] [1, 2, 6, 14, 15, 16, 21, 22] (.seq .leaf (.seq (.cond .leaf .leaf) (.seq (.block (.seq .leaf (.seq .leaf (.block (.loop [(30, .int .i64)] [1, 2, 6, 14, 15, 16, 21, 22, 23, 28, 29] (.seq .leaf (.seq (.cond .leaf .leaf) (.seq (.block (.seq .leaf (.seq .leaf (.join [(56, .bool)] [1, 2, 6, 14, 15, 16, 21, 22, 23, 28, 29, 30] .leaf (.cond (.seq .leaf .leaf) .leaf))))) .leaf)))))))) .leaf)))))))) .leaf)))))) (.seq .leaf .leaf)))
theorem assign_phis_eq (f : Array Value) (outs : Option Nat) (h : Heap) (K : Value → Heap → Prop) : assign_phis f outs h K = fnW Tryd.prog ty assign_phis_a (bodyOf Tryd.f32) [.tmp 4] [.agg f, .map outs] h K := by kernel_rfl
theorem assign_phis_of {f : Array Value} {outs : Option Nat} {h : Heap} {K : Value → Heap → Prop} (hw : assign_phis f outs h K) : ACalls Tryd.prog F_assign_phis [.agg f, .map outs] h K :=
  calls_sound ty_ok mixed assign_phis_a (c := bodyOf Tryd.f32) Tryd.func32 (by kernel_rfl) (by kernel_rfl) (by kernel_rfl) (Nat.le_of_ble_eq_true rfl) (by rw [assign_phis_eq] at hw; exact hw)

/-- lateen/live.end -/
def live_end (f : Array Value) (ins : Sl) (block : Int) (h : Heap) (K : Value → Heap → Prop) : Prop :=
  new 25 f h fun p h_1 =>
  ld .sl h_1 (p.add 4) fun (x : Sl) =>
  idx 9 x block fun p_1 =>
  ld (.agg 9) h_1 p_1 fun (x_1 : Array Value) =>
  new 50 #[.string ⟨#[]⟩, .slice none 0 0, .slice none 0 0, .int .i64 0, .int .i64 0, .string ⟨#[]⟩, .int .i64 0, .slice none 0 0, .int .i64 0] h_1 fun p_2 h_2 =>
  x_1.size = 9 ∧ st x_1.toList h_2 p_2 fun h_3 =>
  mkm h_3 fun m h_4 =>
  ld .sl h_4 ((p_2.add 3).add 4) fun (x_2 : Sl) =>
  loopW (fun _ (t : Int) h_5 next =>
    ifB (decide (t < (x_2.len : Int)))
     (joinW (fun _ (_ : Unit) h_6 =>
      ar .i64 (t + 1) fun n =>
      next n h_6) fun k =>
    idx 1 x_2 t fun p_3 =>
    ld .str h_5 p_3 fun (x_3 : ByteArray) =>
    ld (.agg 5) h_5 p fun (x_4 : Array Value) =>
    ACalls Tryd.prog F_shape_Place [.agg x_4, .string x_3] h_5 fun v h_7 => as2 (.int .i64) .bool v fun r r_1 =>
    ifB (!r_1)
     (k () h_7)
     (ld .sl h_7 (p.add 4) fun (x_5 : Sl) =>
    idx 9 x_5 r fun p_4 =>
    ld (.agg 9) h_7 p_4 fun (x_6 : Array Value) =>
    idx 1 ins r fun p_5 =>
    ld .map h_7 p_5 fun (x_7 : Option Nat) =>
    ld .str h_7 (p_2.add 0) fun (x_8 : ByteArray) =>
    ACalls Tryd.prog F_live_set_into [.map m, .agg x_6, .map x_7, .string x_8] h_7 fun v_1 h_8 => as0 v_1 (
    hExt h_7 h_8 ∧ k () h_8)))
     (joinW (fun _ (_ : Unit) h_9 =>
    K (.map m) h_9) fun k_1 =>
  joinW (fun _ (t_1 : Bool) h_10 =>
    ifB t_1
     (ld (.agg 3) h_10 ((p_2.add 3).add 1) fun (x_9 : Array Value) =>
     ACalls Tryd.prog F_live_set_arg [.map m, .agg x_9] h_10 fun v_2 h_11 => as0 v_2 (
     k_1 () h_11))
     (k_1 () h_10)) fun k_2 =>
  ld (.int .i64) h_5 ((p_2.add 3).add 0) fun (x_10 : Int) =>
  ifB (x_10 == 2)
   (k_2 true h_5)
   (ld (.int .i64) h_5 ((p_2.add 3).add 0) fun (x_11 : Int) =>
     k_2 (x_11 == 3) h_5))) 0 h_4
def live_end_a : Ann := (.seq .leaf (.seq .leaf (.seq .leaf (.seq (.seq .leaf (.block (.loop [(23, .int .i64)] [1, 3, 7, 8, 21, 22] (.seq .leaf (.seq (.cond .leaf .leaf) (.join [] [1, 3, 7, 8, 21, 22, 23] (.block (.seq .leaf (.seq .leaf (.seq (.seq .leaf (.cond .leaf .leaf)) .based)))) .leaf)))))) (.join [] [8] (.join [(58, .bool)] [7, 8] .leaf (.cond .leaf .leaf)) (.seq .leaf .leaf))))))
theorem live_end_eq (f : Array Value) (ins : Sl) (block : Int) (h : Heap) (K : Value → Heap → Prop) : live_end f ins block h K = fnW Tryd.prog ty live_end_a (bodyOf Tryd.f33) [.tmp 6] [.agg f, ins.v, .int .i64 block] h K := by kernel_rfl
theorem live_end_of {f : Array Value} {ins : Sl} {block : Int} {h : Heap} {K : Value → Heap → Prop} (hw : live_end f ins block h K) : ACalls Tryd.prog F_live_end [.agg f, ins.v, .int .i64 block] h K :=
  calls_sound ty_ok mixed live_end_a (c := bodyOf Tryd.f33) Tryd.func33 (by kernel_rfl) (by kernel_rfl) (by kernel_rfl) (Nat.le_of_ble_eq_true rfl) (by rw [live_end_eq] at hw; exact hw)

/-- (lateen/live.set).back -/
def live_set_back (s : Option Nat) (b : Array Value) (atv : Int) (h : Heap) (K : Value → Heap → Prop) : Prop :=
  new 50 b h fun p h_1 =>
  ld .sl h_1 (p.add 2) fun (x : Sl) =>
  ar .i64 ((x.len : Int) - 1) fun n =>
  loopW (fun _ (i : Int) h_2 next =>
    ifB (decide (i ≥ atv))
     (ld .sl h_2 (p.add 2) fun (x_1 : Sl) =>
    idx 6 x_1 i fun p_1 =>
    ld (.agg 6) h_2 p_1 fun (x_2 : Array Value) =>
    ACalls Tryd.prog F_live_set_over [.map s, .agg x_2] h_2 fun v h_3 => as0 v (
    ar .i64 (i - 1) fun n_1 =>
    next n_1 h_3))
     (K (.tuple #[]) h_2)) n h_1
def live_set_back_a : Ann := (.seq .leaf (.seq .leaf (.block (.loop [(6, .int .i64)] [0, 2, 4] (.seq (.seq .leaf (.cond .leaf .leaf)) (.seq (.block .leaf) .leaf))))))
theorem live_set_back_eq (s : Option Nat) (b : Array Value) (atv : Int) (h : Heap) (K : Value → Heap → Prop) : live_set_back s b atv h K = fnW Tryd.prog ty live_set_back_a (bodyOf Tryd.f34) [] [.map s, .agg b, .int .i64 atv] h K := by kernel_rfl
theorem live_set_back_of {s : Option Nat} {b : Array Value} {atv : Int} {h : Heap} {K : Value → Heap → Prop} (hw : live_set_back s b atv h K) : ACalls Tryd.prog F_live_set_back [.map s, .agg b, .int .i64 atv] h K :=
  calls_sound ty_ok mixed live_set_back_a (c := bodyOf Tryd.f34) Tryd.func34 (by kernel_rfl) (by kernel_rfl) (by kernel_rfl) (Nat.le_of_ble_eq_true rfl) (by rw [live_set_back_eq] at hw; exact hw)

/-- lateen/lateenref06.countVars -/
def lateenref06_countVars (l : Sl) (most : Int) (h : Heap) (K : Value → Heap → Prop) : Prop :=
  ifB (decide ((l.len : Int) > most))
   (ar .i64 (most + 1) fun n =>
   K (.int .i64 n) h)
   (loopW (fun _ (q_n_1 : Int × Int) h_1 next =>
    joinW (fun _ (t : Bool) h_2 =>
      ifB t
       (joinW (fun _ (n_2 : Int) h_3 =>
      ar .i64 (q_n_1.2 + 1) fun n_3 =>
      next (n_2, n_3) h_3) fun k_1 =>
    idx 2 l q_n_1.2 fun p =>
    ld .str h_2 (p.add 0) fun (x : ByteArray) =>
    ar .i64 (q_n_1.1 + (x.size : Int)) fun n_4 =>
    ifB (decide (n_4 ≤ most))
     (idx 2 l q_n_1.2 fun p_1 =>
     ld .str h_2 (p_1.add 1) fun (x_1 : ByteArray) =>
     ar .i64 (n_4 + (x_1.size : Int)) fun n_5 =>
     k_1 n_5 h_2)
     (k_1 n_4 h_2))
       (K (.int .i64 q_n_1.1) h_2)) fun k =>
    ifB (decide (q_n_1.2 < (l.len : Int)))
     (k (decide (q_n_1.1 ≤ most)) h_1)
     (k false h_1)) ((l.len : Int), 0) h)
def lateenref06_countVars_a : Ann := (.seq .leaf (.seq (.seq .leaf (.cond (.seq .leaf .leaf) .leaf)) (.seq .leaf (.seq (.seq .leaf (.block (.loop [(5, .int .i64), (6, .int .i64)] [0, 1] (.seq (.join [(23, .bool)] [0, 1, 5, 6] .leaf (.cond .leaf .leaf)) (.join [(5, .int .i64)] [0, 1, 6] (.block (.seq .leaf (.seq .leaf (.cond .leaf .leaf)))) .leaf))))) (.seq .leaf .leaf)))))
theorem lateenref06_countVars_eq (l : Sl) (most : Int) (h : Heap) (K : Value → Heap → Prop) : lateenref06_countVars l most h K = fnW Tryd.prog ty lateenref06_countVars_a (bodyOf Tryd.f35) [.tmp 4] [l.v, .int .i64 most] h K := by kernel_rfl
theorem lateenref06_countVars_of {l : Sl} {most : Int} {h : Heap} {K : Value → Heap → Prop} (hw : lateenref06_countVars l most h K) : ACalls Tryd.prog F_lateenref06_countVars [l.v, .int .i64 most] h K :=
  calls_sound ty_ok mixed lateenref06_countVars_a (c := bodyOf Tryd.f35) Tryd.func35 (by kernel_rfl) (by kernel_rfl) (by kernel_rfl) (Nat.le_of_ble_eq_true rfl) (by rw [lateenref06_countVars_eq] at hw; exact hw)

/-- lateen/lateenref06.countBlock -/
def lateenref06_countBlock (b : Array Value) (most : Int) (h : Heap) (K : Value → Heap → Prop) : Prop :=
  new 50 b h fun p h_1 =>
  joinW (fun _ (t : Bool) h_2 =>
    ifB t
     (ar .i64 (most + 1) fun n =>
     K (.int .i64 n) h_2)
     (ld .str h_2 (p.add 0) fun (x : ByteArray) =>
  ar .i64 (1 + (x.size : Int)) fun n_1 =>
  joinW (fun _ (n_2 : Int) h_3 =>
    loopW (fun _ (q_n_3 : Int × Int) h_4 next =>
      joinW (fun _ (t_1 : Bool) h_5 =>
        ifB t_1
         (ar .i64 (q_n_3.1 + 1) fun n_4 =>
      ld .sl h_5 ((p.add 3).add 4) fun (x_1 : Sl) =>
      idx 1 x_1 q_n_3.2 fun p_1 =>
      ld .str h_5 p_1 fun (x_2 : ByteArray) =>
      ar .i64 (n_4 + (x_2.size : Int)) fun n_5 =>
      ar .i64 (q_n_3.2 + 1) fun n_6 =>
      next (n_5, n_6) h_5)
         (loopW (fun _ (q_n_7 : Int × Int) h_6 next_1 =>
      joinW (fun _ (t_2 : Bool) h_7 =>
        ifB t_2
         (ar .i64 (q_n_7.1 + 1) fun n_8 =>
      ld .sl h_7 (p.add 1) fun (x_3 : Sl) =>
      idx 2 x_3 q_n_7.2 fun p_2 =>
      ld .str h_7 (p_2.add 0) fun (x_4 : ByteArray) =>
      ar .i64 (n_8 + (x_4.size : Int)) fun n_9 =>
      loopW (fun _ (q_n_10 : Int × Int) h_8 next_2 =>
        joinW (fun _ (t_3 : Bool) h_9 =>
          ifB t_3
           (joinW (fun _ (n_11 : Int) h_10 =>
          ar .i64 (q_n_10.2 + 1) fun n_12 =>
          next_2 (n_11, n_12) h_10) fun k_6 =>
        ar .i64 (q_n_10.1 + 1) fun n_13 =>
        ld .sl h_9 (p.add 1) fun (x_5 : Sl) =>
        idx 2 x_5 q_n_7.2 fun p_3 =>
        ld .sl h_9 (p_3.add 1) fun (x_6 : Sl) =>
        idx 4 x_6 q_n_10.2 fun p_4 =>
        ld .str h_9 (p_4.add 0) fun (x_7 : ByteArray) =>
        ar .i64 (n_13 + (x_7.size : Int)) fun n_14 =>
        ifB (decide (n_14 ≤ most))
         (ld .sl h_9 (p.add 1) fun (x_8 : Sl) =>
         idx 2 x_8 q_n_7.2 fun p_5 =>
         ld .sl h_9 (p_5.add 1) fun (x_9 : Sl) =>
         idx 4 x_9 q_n_10.2 fun p_6 =>
         ld .str h_9 ((p_6.add 1).add 1) fun (x_10 : ByteArray) =>
         ar .i64 (n_14 + (x_10.size : Int)) fun n_15 =>
         k_6 n_15 h_9)
         (k_6 n_14 h_9))
           (ar .i64 (q_n_7.2 + 1) fun n_16 =>
      next_1 (q_n_10.1, n_16) h_9)) fun k_5 =>
        ld .sl h_8 (p.add 1) fun (x_11 : Sl) =>
        idx 2 x_11 q_n_7.2 fun p_7 =>
        ld .sl h_8 (p_7.add 1) fun (x_12 : Sl) =>
        ifB (decide (q_n_10.2 < (x_12.len : Int)))
         (k_5 (decide (q_n_10.1 ≤ most)) h_8)
         (k_5 false h_8)) (n_9, 0) h_7)
         (loopW (fun _ (q_n_17 : Int × Int) h_11 next_3 =>
      joinW (fun _ (t_4 : Bool) h_12 =>
        ifB t_4
         (ld .sl h_12 (p.add 2) fun (x_13 : Sl) =>
      idx 6 x_13 q_n_17.2 fun p_8 =>
      ld (.agg 6) h_12 p_8 fun (x_14 : Array Value) =>
      ACalls Tryd.prog F_lateenref06_countInstr [.agg x_14, .int .i64 most] h_12 fun v h_13 => as1 (.int .i64) v fun r =>
      ar .i64 (q_n_17.1 + r) fun n_18 =>
      ar .i64 (q_n_17.2 + 1) fun n_19 =>
      next_3 (n_18, n_19) h_13)
         (K (.int .i64 q_n_17.1) h_12)) fun k_7 =>
      ld .sl h_11 (p.add 2) fun (x_15 : Sl) =>
      ifB (decide (q_n_17.2 < (x_15.len : Int)))
       (k_7 (decide (q_n_17.1 ≤ most)) h_11)
       (k_7 false h_11)) (q_n_7.1, 0) h_7)) fun k_3 =>
      ld .sl h_6 (p.add 1) fun (x_16 : Sl) =>
      ifB (decide (q_n_7.2 < (x_16.len : Int)))
       (k_3 (decide (q_n_7.1 ≤ most)) h_6)
       (k_3 false h_6)) (q_n_3.1, 0) h_5)) fun k_2 =>
      ld .sl h_4 ((p.add 3).add 4) fun (x_17 : Sl) =>
      ifB (decide (q_n_3.2 < (x_17.len : Int)))
       (k_2 (decide (q_n_3.1 ≤ most)) h_4)
       (k_2 false h_4)) (n_2, 0) h_3) fun k_1 =>
  ifB (decide (n_1 ≤ most))
   (ld .str h_2 (((p.add 3).add 1).add 1) fun (x_18 : ByteArray) =>
   ar .i64 (n_1 + (x_18.size : Int)) fun n_20 =>
   k_1 n_20 h_2)
   (k_1 n_1 h_2))) fun k =>
  ld .sl h_1 (p.add 1) fun (x_19 : Sl) =>
  ifB (decide ((x_19.len : Int) > most))
   (k true h_1)
   (ld .sl h_1 (p.add 2) fun (x_20 : Sl) =>
    ifB (decide ((x_20.len : Int) > most))
        (k true h_1)
        (ld .sl h_1 ((p.add 3).add 4) fun (x_21 : Sl) =>
          k (decide ((x_21.len : Int) > most)) h_1))
def lateenref06_countBlock_a : Ann := (.seq .leaf (.seq (.join [(29, .bool)] [1, 2] .leaf (.cond (.seq .leaf .leaf) .leaf)) (.seq .leaf (.join [(5, .int .i64)] [1, 2] (.seq .leaf (.cond .leaf .leaf)) (.seq (.seq .leaf (.block (.loop [(5, .int .i64), (6, .int .i64)] [1, 2] (.seq (.join [(56, .bool)] [1, 2, 5, 6] .leaf (.cond .leaf .leaf)) (.seq (.block .leaf) .leaf))))) (.seq (.seq .leaf (.block (.loop [(5, .int .i64), (7, .int .i64)] [1, 2] (.seq (.join [(78, .bool)] [1, 2, 5, 7] .leaf (.cond .leaf .leaf)) (.seq (.block (.seq .leaf (.seq .leaf (.block (.loop [(5, .int .i64), (8, .int .i64)] [1, 2, 7] (.seq (.join [(104, .bool)] [1, 2, 5, 7, 8] .leaf (.cond .leaf .leaf)) (.join [(5, .int .i64)] [1, 2, 7, 8] (.block (.seq .leaf (.seq .leaf (.cond .leaf .leaf)))) .leaf))))))) .leaf))))) (.seq (.seq .leaf (.block (.loop [(5, .int .i64), (9, .int .i64)] [1, 2] (.seq (.join [(147, .bool)] [1, 2, 5, 9] .leaf (.cond .leaf .leaf)) (.seq (.block .leaf) .leaf))))) (.seq .leaf .leaf))))))))
theorem lateenref06_countBlock_eq (b : Array Value) (most : Int) (h : Heap) (K : Value → Heap → Prop) : lateenref06_countBlock b most h K = fnW Tryd.prog ty lateenref06_countBlock_a (bodyOf Tryd.f36) [.tmp 4] [.agg b, .int .i64 most] h K := by kernel_rfl
theorem lateenref06_countBlock_of {b : Array Value} {most : Int} {h : Heap} {K : Value → Heap → Prop} (hw : lateenref06_countBlock b most h K) : ACalls Tryd.prog F_lateenref06_countBlock [.agg b, .int .i64 most] h K :=
  calls_sound ty_ok mixed lateenref06_countBlock_a (c := bodyOf Tryd.f36) Tryd.func36 (by kernel_rfl) (by kernel_rfl) (by kernel_rfl) (Nat.le_of_ble_eq_true rfl) (by rw [lateenref06_countBlock_eq] at hw; exact hw)

/-- lateen/lateenref08.Place -/
def lateenref08_Place (f : Array Value) (name : ByteArray) (h : Heap) (K : Value → Heap → Prop) : Prop :=
  new 25 f h fun p h_1 =>
  loopW (fun _ (i : Int) h_2 next =>
    ld .sl h_2 (p.add 4) fun (x : Sl) =>
    ifB (decide (i < (x.len : Int)))
     (ld .sl h_2 (p.add 4) fun (x_1 : Sl) =>
    idx 9 x_1 i fun p_1 =>
    ld .str h_2 (p_1.add 0) fun (x_2 : ByteArray) =>
    ifB (x_2.toList == name.toList)
     (K (.tuple #[.int .i64 i, .bool true]) h_2)
     (ar .i64 (i + 1) fun n =>
    next n h_2))
     (K (.tuple #[.int .i64 0, .bool false]) h_2)) 0 h_1
def lateenref08_Place_a : Ann := (.seq .leaf (.seq (.seq .leaf (.block (.loop [(6, .int .i64)] [1, 2] (.seq (.seq .leaf (.cond .leaf .leaf)) (.seq (.block (.seq .leaf (.cond (.seq .leaf .leaf) .leaf))) .leaf))))) (.seq .leaf .leaf)))
theorem lateenref08_Place_eq (f : Array Value) (name : ByteArray) (h : Heap) (K : Value → Heap → Prop) : lateenref08_Place f name h K = fnW Tryd.prog ty lateenref08_Place_a (bodyOf Tryd.f37) [.tmp 4, .tmp 5] [.agg f, .string name] h K := by kernel_rfl
theorem lateenref08_Place_of {f : Array Value} {name : ByteArray} {h : Heap} {K : Value → Heap → Prop} (hw : lateenref08_Place f name h K) : ACalls Tryd.prog F_lateenref08_Place [.agg f, .string name] h K :=
  calls_sound ty_ok mixed lateenref08_Place_a (c := bodyOf Tryd.f37) Tryd.func37 (by kernel_rfl) (by kernel_rfl) (by kernel_rfl) (Nat.le_of_ble_eq_true rfl) (by rw [lateenref08_Place_eq] at hw; exact hw)

/-- lateen/lateenref08.Come -/
def lateenref08_Come (f : Array Value) (h : Heap) (K : Value → Heap → Prop) : Prop :=
  new 25 f h fun p h_1 =>
  ld .sl h_1 (p.add 4) fun (x : Sl) =>
  (x.len : Int) = (x.len : Int) ∧ mk si_Lbool (x.len : Int) h_1 fun s h_2 =>
  loopW (fun _ (more : Bool) h_3 next =>
    ifB more
     (idx 1 s 0 fun p_1 =>
    st [.bool true] h_3 p_1 fun h_4 =>
    loopW (fun _ (q_more_1 : Bool × Int) h_5 next_1 =>
      ifB (decide (q_more_1.2 < (s.len : Int)))
       (loopW (fun _ (q_more_2 : Bool × Int) h_6 next_2 =>
        joinW (fun _ (t : Bool) h_7 =>
          ifB t
           (joinW (fun _ (more_3 : Bool) h_8 =>
          ar .i64 (q_more_2.2 + 1) fun n =>
          next_2 (more_3, n) h_8) fun k_2 =>
        joinW (fun _ (t_1 : Bool) h_9 =>
          ifB t_1
           (idx 1 s q_more_2.2 fun p_2 =>
           st [.bool true] h_9 p_2 fun h_10 =>
           k_2 true h_10)
           (k_2 q_more_2.1 h_9)) fun k_3 =>
        idx 1 s q_more_2.2 fun p_3 =>
        ld .bool h_7 p_3 fun (x_1 : Bool) =>
        ifB (!x_1)
         (ld (.agg 5) h_7 p fun (x_2 : Array Value) =>
         ACalls Tryd.prog F_lateenref08_Leads [.agg x_2, .int .i64 q_more_1.2, .int .i64 q_more_2.2] h_7 fun v h_11 => as1 .bool v fun r =>
            k_3 r h_11)
         (k_3 false h_7))
           (ar .i64 (q_more_1.2 + 1) fun n_1 =>
      next_1 (q_more_2.1, n_1) h_7)) fun k_1 =>
        ifB (decide (q_more_2.2 < (s.len : Int)))
         (idx 1 s q_more_1.2 fun p_4 =>
           ld .bool h_6 p_4 fun (x_3 : Bool) =>
            k_1 x_3 h_6)
         (k_1 false h_6)) (q_more_1.1, 0) h_5)
       (next q_more_1.1 h_5)) (false, 0) h_4)
     (K s.v h_3)) (decide ((s.len : Int) > 0)) h_2
def lateenref08_Come_a : Ann := (.seq .leaf (.seq .leaf (.seq .leaf (.seq (.block (.loop [(4, .bool)] [1, 3] (.seq (.seq .leaf (.cond .leaf .leaf)) (.block (.seq .leaf (.seq .leaf (.seq .leaf (.block (.loop [(4, .bool), (5, .int .i64)] [1, 3] (.seq (.seq .leaf (.cond .leaf .leaf)) (.seq (.block (.seq .leaf (.block (.loop [(4, .bool), (6, .int .i64)] [1, 3, 5] (.seq (.join [(32, .bool)] [1, 3, 4, 5, 6] .leaf (.cond .leaf .leaf)) (.join [(4, .bool)] [1, 3, 5, 6] (.block (.join [(45, .bool)] [1, 3, 4, 5, 6] .leaf (.cond (.seq .leaf .leaf) .leaf))) .leaf)))))) .leaf))))))))))) (.seq .leaf .leaf)))))
theorem lateenref08_Come_eq (f : Array Value) (h : Heap) (K : Value → Heap → Prop) : lateenref08_Come f h K = fnW Tryd.prog ty lateenref08_Come_a (bodyOf Tryd.f38) [.tmp 2] [.agg f] h K := by kernel_rfl
theorem lateenref08_Come_of {f : Array Value} {h : Heap} {K : Value → Heap → Prop} (hw : lateenref08_Come f h K) : ACalls Tryd.prog F_lateenref08_Come [.agg f] h K :=
  calls_sound ty_ok mixed lateenref08_Come_a (c := bodyOf Tryd.f38) Tryd.func38 (by kernel_rfl) (by kernel_rfl) (by kernel_rfl) (Nat.le_of_ble_eq_true rfl) (by rw [lateenref08_Come_eq] at hw; exact hw)

/-- lateen/lateenref01.size -/
def lateenref01_size (n : Int) (h : Heap) (K : Value → Heap → Prop) : Prop :=
  ifB (decide (n < 0))
   (ar .u64 (0 - (IntKind.u64.wrap n)) fun n_1 =>
   K (.int .u64 n_1) h)
   (K (.int .u64 (IntKind.u64.wrap n)) h)
def lateenref01_size_a : Ann := (.seq .leaf (.seq (.seq .leaf (.cond (.seq .leaf .leaf) .leaf)) (.seq .leaf .leaf)))
theorem lateenref01_size_eq (n : Int) (h : Heap) (K : Value → Heap → Prop) : lateenref01_size n h K = fnW Tryd.prog ty lateenref01_size_a (bodyOf Tryd.f39) [.tmp 2] [.int .i64 n] h K := by kernel_rfl
theorem lateenref01_size_of {n : Int} {h : Heap} {K : Value → Heap → Prop} (hw : lateenref01_size n h K) : ACalls Tryd.prog F_lateenref01_size [.int .i64 n] h K :=
  calls_sound ty_ok mixed lateenref01_size_a (c := bodyOf Tryd.f39) Tryd.func39 (by kernel_rfl) (by kernel_rfl) (by kernel_rfl) (Nat.le_of_ble_eq_true rfl) (by rw [lateenref01_size_eq] at hw; exact hw)

/-- lateen/lateenref03.Right -/
def lateenref03_Right (a : Array Value) (h : Heap) (K : Value → Heap → Prop) : Prop :=
  new 38 a h fun p h_1 =>
  ld (.int .i64) h_1 (p.add 0) fun (x : Int) =>
  ifB (x == 1)
   (joinW (fun _ (t : Bool) h_2 =>
     K (.bool t) h_2) fun k =>
   ld .str h_1 (p.add 1) fun (x_1 : ByteArray) =>
   ACalls Tryd.prog F_lateenref03_Name [.string x_1] h_1 fun v h_3 => as1 .bool v fun r =>
   ifB r
    (ld (.int .i64) h_3 (p.add 2) fun (x_2 : Int) =>
     k (x_2 == 0) h_3)
    (k false h_3))
   (joinW (fun _ (t_1 : Bool) h_4 =>
    ifB t_1
     (K (.bool false) h_4)
     (joinW (fun _ (t_2 : Bool) h_5 =>
    K (.bool t_2) h_5) fun k_2 =>
  ld (.int .i64) h_4 (p.add 0) fun (x_3 : Int) =>
  ifB (x_3 == 2)
   (k_2 true h_4)
   (ld (.int .i64) h_4 (p.add 0) fun (x_4 : Int) =>
    ifB (x_4 == 3)
       (ld (.int .i64) h_4 (p.add 2) fun (x_5 : Int) =>
        ACalls Tryd.prog F_lateenref02_Plain [.int .i64 x_5] h_4 fun v_1 h_6 => as1 (.int .i64) v_1 fun r_1 =>
         hExt h_4 h_6 ∧ ld (.int .i64) h_4 (p.add 2) fun (x_6 : Int) =>
           ifB (r_1 == x_6)
              (k_2 true h_6)
              (ld (.int .i64) h_4 (p.add 0) fun (x_7 : Int) =>
               ifB (x_7 == 4)
                  (ld (.int .i64) h_4 (p.add 2) fun (x_8 : Int) =>
                   ifB (x_8 == 0)
                      (k_2 true h_6)
                      (ld (.int .i64) h_4 (p.add 0) fun (x_9 : Int) =>
                       ifB (x_9 == 5)
                          (ld (.int .i64) h_4 (p.add 2) fun (x_10 : Int) =>
                           ifB (decide (x_10 ≥ 0))
                               (ld (.int .i64) h_4 (p.add 2) fun (x_11 : Int) =>
                                k_2 (decide (x_11 ≤ 999)) h_6)
                               (k_2 false h_6))
                          (k_2 false h_6)))
                  (ld (.int .i64) h_4 (p.add 0) fun (x_12 : Int) =>
                       ifB (x_12 == 5)
                          (ld (.int .i64) h_4 (p.add 2) fun (x_13 : Int) =>
                           ifB (decide (x_13 ≥ 0))
                               (ld (.int .i64) h_4 (p.add 2) fun (x_14 : Int) =>
                                k_2 (decide (x_14 ≤ 999)) h_6)
                               (k_2 false h_6))
                          (k_2 false h_6))))
       (ld (.int .i64) h_4 (p.add 0) fun (x_15 : Int) =>
               ifB (x_15 == 4)
                  (ld (.int .i64) h_4 (p.add 2) fun (x_16 : Int) =>
                   ifB (x_16 == 0)
                      (k_2 true h_4)
                      (ld (.int .i64) h_4 (p.add 0) fun (x_17 : Int) =>
                       ifB (x_17 == 5)
                          (ld (.int .i64) h_4 (p.add 2) fun (x_18 : Int) =>
                           ifB (decide (x_18 ≥ 0))
                               (ld (.int .i64) h_4 (p.add 2) fun (x_19 : Int) =>
                                k_2 (decide (x_19 ≤ 999)) h_4)
                               (k_2 false h_4))
                          (k_2 false h_4)))
                  (ld (.int .i64) h_4 (p.add 0) fun (x_20 : Int) =>
                       ifB (x_20 == 5)
                          (ld (.int .i64) h_4 (p.add 2) fun (x_21 : Int) =>
                           ifB (decide (x_21 ≥ 0))
                               (ld (.int .i64) h_4 (p.add 2) fun (x_22 : Int) =>
                                k_2 (decide (x_22 ≤ 999)) h_4)
                               (k_2 false h_4))
                          (k_2 false h_4)))))) fun k_1 =>
  ld (.int .i64) h_1 (p.add 0) fun (x_23 : Int) =>
  ifB (decide (x_23 < 1))
   (k_1 true h_1)
   (ld (.int .i64) h_1 (p.add 0) fun (x_24 : Int) =>
    ifB (decide (x_24 > 5))
      (k_1 true h_1)
      (ld .str h_1 (p.add 1) fun (x_25 : ByteArray) =>
       k_1 (!(x_25.toList == (⟨#[]⟩ : ByteArray).toList)) h_1)))
def lateenref03_Right_a : Ann := (.seq .leaf (.seq (.seq .leaf (.cond (.join [(2, .bool)] [] .leaf .leaf) .leaf)) (.seq (.join [(26, .bool)] [1] .leaf (.cond (.seq .leaf .leaf) .leaf)) (.join [(2, .bool)] [] .based .leaf))))
theorem lateenref03_Right_eq (a : Array Value) (h : Heap) (K : Value → Heap → Prop) : lateenref03_Right a h K = fnW Tryd.prog ty lateenref03_Right_a (bodyOf Tryd.f40) [.tmp 2] [.agg a] h K := by kernel_rfl
theorem lateenref03_Right_of {a : Array Value} {h : Heap} {K : Value → Heap → Prop} (hw : lateenref03_Right a h K) : ACalls Tryd.prog F_lateenref03_Right [.agg a] h K :=
  calls_sound ty_ok mixed lateenref03_Right_a (c := bodyOf Tryd.f40) Tryd.func40 (by kernel_rfl) (by kernel_rfl) (by kernel_rfl) (Nat.le_of_ble_eq_true rfl) (by rw [lateenref03_Right_eq] at hw; exact hw)

/-- lateen/lateenref02.Put -/
def lateenref02_Put (n : Int) (h : Heap) (K : Value → Heap → Prop) : Prop :=
  ACalls Tryd.prog F_lateenref02_Plain [.int .i64 n] h fun v h_1 => as1 (.int .i64) v fun r =>
  loopW (fun _ (q_u : Int × Sl × Int) h_2 next =>
    ifB (decide (q_u.2.2 < 16))
     ((16 : Int) ≠ 0 ∧ (joinW (fun _ (d : Int) h_3 =>
      bld si_Luint8 1 [(0, .int .u8 d)] h_3 fun s h_4 =>
      app si_Luint8 s q_u.2.1 h_4 fun s_1 h_5 =>
      (16 : Int) ≠ 0 ∧ (ar .i64 (q_u.2.2 + 1) fun n_1 =>
    next (IntKind.u64.wrap (Int.tdiv q_u.1 16), s_1, n_1) h_5)) fun k =>
    ifB (decide ((IntKind.u8.wrap (Int.tmod q_u.1 16)) < 10))
     (ar .u8 ((IntKind.u8.wrap (Int.tmod q_u.1 16)) + 48) fun n_2 =>
     k n_2 h_2)
     (ar .u8 ((IntKind.u8.wrap (Int.tmod q_u.1 16)) + 87) fun n_3 =>
     k n_3 h_2)))
     (toS h_2 q_u.2.1 fun s_2 =>
  (((⟨#[48, 102]⟩ : ByteArray).size + s_2.size : Nat) : Int) ≤ IntKind.i64.max ∧ (K (.string ((⟨#[48, 102]⟩ : ByteArray) ++ s_2)) h_2))) (IntKind.u64.wrap r, (⟨none, 0, 0⟩ : Sl), 0) h_1
def lateenref02_Put_a : Ann := (.seq .leaf (.seq .leaf (.seq .leaf (.seq (.seq .leaf (.block (.loop [(3, .int .u64), (4, .sl), (5, .int .i64)] [] (.seq (.seq .leaf (.cond .leaf .leaf)) (.seq (.block (.seq .leaf (.join [(6, .int .u8)] [3, 4, 5] (.seq .leaf (.cond .leaf .leaf)) (.seq .leaf .leaf)))) .leaf))))) (.seq .leaf .leaf)))))
theorem lateenref02_Put_eq (n : Int) (h : Heap) (K : Value → Heap → Prop) : lateenref02_Put n h K = fnW Tryd.prog ty lateenref02_Put_a (bodyOf Tryd.f41) [.tmp 2] [.int .i64 n] h K := by kernel_rfl
theorem lateenref02_Put_of {n : Int} {h : Heap} {K : Value → Heap → Prop} (hw : lateenref02_Put n h K) : ACalls Tryd.prog F_lateenref02_Put [.int .i64 n] h K :=
  calls_sound ty_ok mixed lateenref02_Put_a (c := bodyOf Tryd.f41) Tryd.func41 (by kernel_rfl) (by kernel_rfl) (by kernel_rfl) (Nat.le_of_ble_eq_true rfl) (by rw [lateenref02_Put_eq] at hw; exact hw)

/-- lateen/lateenref05.Of -/
def lateenref05_Of (op : Int) (h : Heap) (K : Value → Heap → Prop) : Prop :=
  new 100 #[.string ⟨#[]⟩, .bool false, .bool false, .int .i64 0, .int .i64 0] h fun p h_1 =>
  joinW (fun _ (t : Bool) h_2 =>
    ifB t
     (bst [(0, 1), (1, 1), (2, 1), (3, 1), (4, 1)] #[.string ⟨#[]⟩, .bool false, .bool false, .int .i64 0, .int .i64 0] [] fun c =>
     c.size = 5 ∧ st c.toList h_2 p fun h_3 =>
     ld (.agg 5) h_3 p fun (x : Array Value) => K (.tuple #[.agg x, .bool false]) h_3)
     (idxP 35 1 (⟨0, 0, none⟩ : Addr) op fun p_1 =>
  ld .str h_2 p_1 fun (x_1 : ByteArray) =>
  ifB (op != 27)
   (ifB (op != 30)
     (ifB (op != 33)
       (ifB (op == 25)
         (bst [(0, 1), (1, 1), (2, 1), (3, 1), (4, 1)] #[.string ⟨#[]⟩, .bool false, .bool false, .int .i64 0, .int .i64 0] [(0, .string x_1), (1, .bool (op != 34)), (2, .bool true)] fun c_1 =>
                new 100 #[.string ⟨#[]⟩, .bool false, .bool false, .int .i64 0, .int .i64 0] h_2 fun p_2 h_4 =>
                c_1.size = 5 ∧ st c_1.toList h_4 p_2 fun h_5 =>
                joinW (fun _ (_ : Unit) h_6 =>
    ld (.agg 5) h_6 p_2 fun (x_2 : Array Value) =>
    x_2.size = 5 ∧ st x_2.toList h_6 p fun h_7 =>
    ld (.agg 5) h_7 p fun (x_3 : Array Value) => K (.tuple #[.agg x_3, .bool true]) h_7) fun k_1 =>
  joinW (fun _ (t_1 : Bool) h_8 =>
    ifB t_1
     (st [.int .i64 1] h_8 (p_2.add 3) fun h_9 =>
     st [.int .i64 1] h_9 (p_2.add 4) fun h_10 =>
     k_1 () h_10)
     (joinW (fun _ (t_2 : Bool) h_11 =>
       ifB t_2
        (st [.int .i64 8] h_11 (p_2.add 4) fun h_12 =>
        k_1 () h_12)
        (joinW (fun _ (t_3 : Bool) h_13 =>
          ifB t_3
           (st [.int .i64 0] h_13 (p_2.add 4) fun h_14 =>
           k_1 () h_14)
           (st [.int .i64 2] h_13 (p_2.add 3) fun h_15 =>
           st [.int .i64 2] h_15 (p_2.add 4) fun h_16 =>
           k_1 () h_16)) fun k_4 =>
        ifB (op == 29)
         (k_4 (op == 29) h_11)
         (k_4 (op == 34) h_11))) fun k_3 =>
     ifB (op == 25)
      (k_3 (op == 25) h_8)
      (ifB (op == 31)
       (k_3 (op == 31) h_8)
       (k_3 (op == 32) h_8)))) fun k_2 =>
  ifB (op == 22)
   (k_2 (op == 22) h_5)
   (ifB (op == 23)
    (k_2 (op == 23) h_5)
    (ifB (op == 24)
     (k_2 (op == 24) h_5)
     (ifB (op == 26)
      (k_2 (op == 26) h_5)
      (ifB (op == 30)
       (k_2 (op == 30) h_5)
       (k_2 (op == 33) h_5))))))
         (ifB (op == 26)
           (bst [(0, 1), (1, 1), (2, 1), (3, 1), (4, 1)] #[.string ⟨#[]⟩, .bool false, .bool false, .int .i64 0, .int .i64 0] [(0, .string x_1), (1, .bool (op != 34)), (2, .bool true)] fun c_2 =>
                new 100 #[.string ⟨#[]⟩, .bool false, .bool false, .int .i64 0, .int .i64 0] h_2 fun p_3 h_17 =>
                c_2.size = 5 ∧ st c_2.toList h_17 p_3 fun h_18 =>
                joinW (fun _ (_ : Unit) h_19 =>
    ld (.agg 5) h_19 p_3 fun (x_4 : Array Value) =>
    x_4.size = 5 ∧ st x_4.toList h_19 p fun h_20 =>
    ld (.agg 5) h_20 p fun (x_5 : Array Value) => K (.tuple #[.agg x_5, .bool true]) h_20) fun k_5 =>
  joinW (fun _ (t_4 : Bool) h_21 =>
    ifB t_4
     (st [.int .i64 1] h_21 (p_3.add 3) fun h_22 =>
     st [.int .i64 1] h_22 (p_3.add 4) fun h_23 =>
     k_5 () h_23)
     (joinW (fun _ (t_5 : Bool) h_24 =>
       ifB t_5
        (st [.int .i64 8] h_24 (p_3.add 4) fun h_25 =>
        k_5 () h_25)
        (joinW (fun _ (t_6 : Bool) h_26 =>
          ifB t_6
           (st [.int .i64 0] h_26 (p_3.add 4) fun h_27 =>
           k_5 () h_27)
           (st [.int .i64 2] h_26 (p_3.add 3) fun h_28 =>
           st [.int .i64 2] h_28 (p_3.add 4) fun h_29 =>
           k_5 () h_29)) fun k_8 =>
        ifB (op == 29)
         (k_8 (op == 29) h_24)
         (k_8 (op == 34) h_24))) fun k_7 =>
     ifB (op == 25)
      (k_7 (op == 25) h_21)
      (ifB (op == 31)
       (k_7 (op == 31) h_21)
       (k_7 (op == 32) h_21)))) fun k_6 =>
  ifB (op == 22)
   (k_6 (op == 22) h_18)
   (ifB (op == 23)
    (k_6 (op == 23) h_18)
    (ifB (op == 24)
     (k_6 (op == 24) h_18)
     (ifB (op == 26)
      (k_6 (op == 26) h_18)
      (ifB (op == 30)
       (k_6 (op == 30) h_18)
       (k_6 (op == 33) h_18))))))
           (ifB (op == 27)
             (bst [(0, 1), (1, 1), (2, 1), (3, 1), (4, 1)] #[.string ⟨#[]⟩, .bool false, .bool false, .int .i64 0, .int .i64 0] [(0, .string x_1), (1, .bool (op != 34)), (2, .bool true)] fun c_3 =>
                new 100 #[.string ⟨#[]⟩, .bool false, .bool false, .int .i64 0, .int .i64 0] h_2 fun p_4 h_30 =>
                c_3.size = 5 ∧ st c_3.toList h_30 p_4 fun h_31 =>
                joinW (fun _ (_ : Unit) h_32 =>
    ld (.agg 5) h_32 p_4 fun (x_6 : Array Value) =>
    x_6.size = 5 ∧ st x_6.toList h_32 p fun h_33 =>
    ld (.agg 5) h_33 p fun (x_7 : Array Value) => K (.tuple #[.agg x_7, .bool true]) h_33) fun k_9 =>
  joinW (fun _ (t_7 : Bool) h_34 =>
    ifB t_7
     (st [.int .i64 1] h_34 (p_4.add 3) fun h_35 =>
     st [.int .i64 1] h_35 (p_4.add 4) fun h_36 =>
     k_9 () h_36)
     (joinW (fun _ (t_8 : Bool) h_37 =>
       ifB t_8
        (st [.int .i64 8] h_37 (p_4.add 4) fun h_38 =>
        k_9 () h_38)
        (joinW (fun _ (t_9 : Bool) h_39 =>
          ifB t_9
           (st [.int .i64 0] h_39 (p_4.add 4) fun h_40 =>
           k_9 () h_40)
           (st [.int .i64 2] h_39 (p_4.add 3) fun h_41 =>
           st [.int .i64 2] h_41 (p_4.add 4) fun h_42 =>
           k_9 () h_42)) fun k_12 =>
        ifB (op == 29)
         (k_12 (op == 29) h_37)
         (k_12 (op == 34) h_37))) fun k_11 =>
     ifB (op == 25)
      (k_11 (op == 25) h_34)
      (ifB (op == 31)
       (k_11 (op == 31) h_34)
       (k_11 (op == 32) h_34)))) fun k_10 =>
  ifB (op == 22)
   (k_10 (op == 22) h_31)
   (ifB (op == 23)
    (k_10 (op == 23) h_31)
    (ifB (op == 24)
     (k_10 (op == 24) h_31)
     (ifB (op == 26)
      (k_10 (op == 26) h_31)
      (ifB (op == 30)
       (k_10 (op == 30) h_31)
       (k_10 (op == 33) h_31))))))
             (ifB (decide (op ≥ 29))
                (bst [(0, 1), (1, 1), (2, 1), (3, 1), (4, 1)] #[.string ⟨#[]⟩, .bool false, .bool false, .int .i64 0, .int .i64 0] [(0, .string x_1), (1, .bool (op != 34)), (2, .bool (decide (op ≤ 32)))] fun c_4 =>
                  new 100 #[.string ⟨#[]⟩, .bool false, .bool false, .int .i64 0, .int .i64 0] h_2 fun p_5 h_43 =>
                  c_4.size = 5 ∧ st c_4.toList h_43 p_5 fun h_44 =>
                  joinW (fun _ (_ : Unit) h_45 =>
    ld (.agg 5) h_45 p_5 fun (x_8 : Array Value) =>
    x_8.size = 5 ∧ st x_8.toList h_45 p fun h_46 =>
    ld (.agg 5) h_46 p fun (x_9 : Array Value) => K (.tuple #[.agg x_9, .bool true]) h_46) fun k_13 =>
  joinW (fun _ (t_10 : Bool) h_47 =>
    ifB t_10
     (st [.int .i64 1] h_47 (p_5.add 3) fun h_48 =>
     st [.int .i64 1] h_48 (p_5.add 4) fun h_49 =>
     k_13 () h_49)
     (joinW (fun _ (t_11 : Bool) h_50 =>
       ifB t_11
        (st [.int .i64 8] h_50 (p_5.add 4) fun h_51 =>
        k_13 () h_51)
        (joinW (fun _ (t_12 : Bool) h_52 =>
          ifB t_12
           (st [.int .i64 0] h_52 (p_5.add 4) fun h_53 =>
           k_13 () h_53)
           (st [.int .i64 2] h_52 (p_5.add 3) fun h_54 =>
           st [.int .i64 2] h_54 (p_5.add 4) fun h_55 =>
           k_13 () h_55)) fun k_16 =>
        ifB (op == 29)
         (k_16 (op == 29) h_50)
         (k_16 (op == 34) h_50))) fun k_15 =>
     ifB (op == 25)
      (k_15 (op == 25) h_47)
      (ifB (op == 31)
       (k_15 (op == 31) h_47)
       (k_15 (op == 32) h_47)))) fun k_14 =>
  ifB (op == 22)
   (k_14 (op == 22) h_44)
   (ifB (op == 23)
    (k_14 (op == 23) h_44)
    (ifB (op == 24)
     (k_14 (op == 24) h_44)
     (ifB (op == 26)
      (k_14 (op == 26) h_44)
      (ifB (op == 30)
       (k_14 (op == 30) h_44)
       (k_14 (op == 33) h_44))))))
                (bst [(0, 1), (1, 1), (2, 1), (3, 1), (4, 1)] #[.string ⟨#[]⟩, .bool false, .bool false, .int .i64 0, .int .i64 0] [(0, .string x_1), (1, .bool (op != 34)), (2, .bool false)] fun c_5 =>
                  new 100 #[.string ⟨#[]⟩, .bool false, .bool false, .int .i64 0, .int .i64 0] h_2 fun p_6 h_56 =>
                  c_5.size = 5 ∧ st c_5.toList h_56 p_6 fun h_57 =>
                  joinW (fun _ (_ : Unit) h_58 =>
    ld (.agg 5) h_58 p_6 fun (x_10 : Array Value) =>
    x_10.size = 5 ∧ st x_10.toList h_58 p fun h_59 =>
    ld (.agg 5) h_59 p fun (x_11 : Array Value) => K (.tuple #[.agg x_11, .bool true]) h_59) fun k_17 =>
  joinW (fun _ (t_13 : Bool) h_60 =>
    ifB t_13
     (st [.int .i64 1] h_60 (p_6.add 3) fun h_61 =>
     st [.int .i64 1] h_61 (p_6.add 4) fun h_62 =>
     k_17 () h_62)
     (joinW (fun _ (t_14 : Bool) h_63 =>
       ifB t_14
        (st [.int .i64 8] h_63 (p_6.add 4) fun h_64 =>
        k_17 () h_64)
        (joinW (fun _ (t_15 : Bool) h_65 =>
          ifB t_15
           (st [.int .i64 0] h_65 (p_6.add 4) fun h_66 =>
           k_17 () h_66)
           (st [.int .i64 2] h_65 (p_6.add 3) fun h_67 =>
           st [.int .i64 2] h_67 (p_6.add 4) fun h_68 =>
           k_17 () h_68)) fun k_20 =>
        ifB (op == 29)
         (k_20 (op == 29) h_63)
         (k_20 (op == 34) h_63))) fun k_19 =>
     ifB (op == 25)
      (k_19 (op == 25) h_60)
      (ifB (op == 31)
       (k_19 (op == 31) h_60)
       (k_19 (op == 32) h_60)))) fun k_18 =>
  ifB (op == 22)
   (k_18 (op == 22) h_57)
   (ifB (op == 23)
    (k_18 (op == 23) h_57)
    (ifB (op == 24)
     (k_18 (op == 24) h_57)
     (ifB (op == 26)
      (k_18 (op == 26) h_57)
      (ifB (op == 30)
       (k_18 (op == 30) h_57)
       (k_18 (op == 33) h_57))))))))))
       (ifB (op == 25)
         (bst [(0, 1), (1, 1), (2, 1), (3, 1), (4, 1)] #[.string ⟨#[]⟩, .bool false, .bool false, .int .i64 0, .int .i64 0] [(0, .string x_1), (1, .bool false), (2, .bool true)] fun c_6 =>
                new 100 #[.string ⟨#[]⟩, .bool false, .bool false, .int .i64 0, .int .i64 0] h_2 fun p_7 h_69 =>
                c_6.size = 5 ∧ st c_6.toList h_69 p_7 fun h_70 =>
                joinW (fun _ (_ : Unit) h_71 =>
    ld (.agg 5) h_71 p_7 fun (x_12 : Array Value) =>
    x_12.size = 5 ∧ st x_12.toList h_71 p fun h_72 =>
    ld (.agg 5) h_72 p fun (x_13 : Array Value) => K (.tuple #[.agg x_13, .bool true]) h_72) fun k_21 =>
  joinW (fun _ (t_16 : Bool) h_73 =>
    ifB t_16
     (st [.int .i64 1] h_73 (p_7.add 3) fun h_74 =>
     st [.int .i64 1] h_74 (p_7.add 4) fun h_75 =>
     k_21 () h_75)
     (joinW (fun _ (t_17 : Bool) h_76 =>
       ifB t_17
        (st [.int .i64 8] h_76 (p_7.add 4) fun h_77 =>
        k_21 () h_77)
        (joinW (fun _ (t_18 : Bool) h_78 =>
          ifB t_18
           (st [.int .i64 0] h_78 (p_7.add 4) fun h_79 =>
           k_21 () h_79)
           (st [.int .i64 2] h_78 (p_7.add 3) fun h_80 =>
           st [.int .i64 2] h_80 (p_7.add 4) fun h_81 =>
           k_21 () h_81)) fun k_24 =>
        ifB (op == 29)
         (k_24 (op == 29) h_76)
         (k_24 (op == 34) h_76))) fun k_23 =>
     ifB (op == 25)
      (k_23 (op == 25) h_73)
      (ifB (op == 31)
       (k_23 (op == 31) h_73)
       (k_23 (op == 32) h_73)))) fun k_22 =>
  ifB (op == 22)
   (k_22 (op == 22) h_70)
   (ifB (op == 23)
    (k_22 (op == 23) h_70)
    (ifB (op == 24)
     (k_22 (op == 24) h_70)
     (ifB (op == 26)
      (k_22 (op == 26) h_70)
      (ifB (op == 30)
       (k_22 (op == 30) h_70)
       (k_22 (op == 33) h_70))))))
         (ifB (op == 26)
           (bst [(0, 1), (1, 1), (2, 1), (3, 1), (4, 1)] #[.string ⟨#[]⟩, .bool false, .bool false, .int .i64 0, .int .i64 0] [(0, .string x_1), (1, .bool false), (2, .bool true)] fun c_7 =>
                new 100 #[.string ⟨#[]⟩, .bool false, .bool false, .int .i64 0, .int .i64 0] h_2 fun p_8 h_82 =>
                c_7.size = 5 ∧ st c_7.toList h_82 p_8 fun h_83 =>
                joinW (fun _ (_ : Unit) h_84 =>
    ld (.agg 5) h_84 p_8 fun (x_14 : Array Value) =>
    x_14.size = 5 ∧ st x_14.toList h_84 p fun h_85 =>
    ld (.agg 5) h_85 p fun (x_15 : Array Value) => K (.tuple #[.agg x_15, .bool true]) h_85) fun k_25 =>
  joinW (fun _ (t_19 : Bool) h_86 =>
    ifB t_19
     (st [.int .i64 1] h_86 (p_8.add 3) fun h_87 =>
     st [.int .i64 1] h_87 (p_8.add 4) fun h_88 =>
     k_25 () h_88)
     (joinW (fun _ (t_20 : Bool) h_89 =>
       ifB t_20
        (st [.int .i64 8] h_89 (p_8.add 4) fun h_90 =>
        k_25 () h_90)
        (joinW (fun _ (t_21 : Bool) h_91 =>
          ifB t_21
           (st [.int .i64 0] h_91 (p_8.add 4) fun h_92 =>
           k_25 () h_92)
           (st [.int .i64 2] h_91 (p_8.add 3) fun h_93 =>
           st [.int .i64 2] h_93 (p_8.add 4) fun h_94 =>
           k_25 () h_94)) fun k_28 =>
        ifB (op == 29)
         (k_28 (op == 29) h_89)
         (k_28 (op == 34) h_89))) fun k_27 =>
     ifB (op == 25)
      (k_27 (op == 25) h_86)
      (ifB (op == 31)
       (k_27 (op == 31) h_86)
       (k_27 (op == 32) h_86)))) fun k_26 =>
  ifB (op == 22)
   (k_26 (op == 22) h_83)
   (ifB (op == 23)
    (k_26 (op == 23) h_83)
    (ifB (op == 24)
     (k_26 (op == 24) h_83)
     (ifB (op == 26)
      (k_26 (op == 26) h_83)
      (ifB (op == 30)
       (k_26 (op == 30) h_83)
       (k_26 (op == 33) h_83))))))
           (ifB (op == 27)
             (bst [(0, 1), (1, 1), (2, 1), (3, 1), (4, 1)] #[.string ⟨#[]⟩, .bool false, .bool false, .int .i64 0, .int .i64 0] [(0, .string x_1), (1, .bool false), (2, .bool true)] fun c_8 =>
                new 100 #[.string ⟨#[]⟩, .bool false, .bool false, .int .i64 0, .int .i64 0] h_2 fun p_9 h_95 =>
                c_8.size = 5 ∧ st c_8.toList h_95 p_9 fun h_96 =>
                joinW (fun _ (_ : Unit) h_97 =>
    ld (.agg 5) h_97 p_9 fun (x_16 : Array Value) =>
    x_16.size = 5 ∧ st x_16.toList h_97 p fun h_98 =>
    ld (.agg 5) h_98 p fun (x_17 : Array Value) => K (.tuple #[.agg x_17, .bool true]) h_98) fun k_29 =>
  joinW (fun _ (t_22 : Bool) h_99 =>
    ifB t_22
     (st [.int .i64 1] h_99 (p_9.add 3) fun h_100 =>
     st [.int .i64 1] h_100 (p_9.add 4) fun h_101 =>
     k_29 () h_101)
     (joinW (fun _ (t_23 : Bool) h_102 =>
       ifB t_23
        (st [.int .i64 8] h_102 (p_9.add 4) fun h_103 =>
        k_29 () h_103)
        (joinW (fun _ (t_24 : Bool) h_104 =>
          ifB t_24
           (st [.int .i64 0] h_104 (p_9.add 4) fun h_105 =>
           k_29 () h_105)
           (st [.int .i64 2] h_104 (p_9.add 3) fun h_106 =>
           st [.int .i64 2] h_106 (p_9.add 4) fun h_107 =>
           k_29 () h_107)) fun k_32 =>
        ifB (op == 29)
         (k_32 (op == 29) h_102)
         (k_32 (op == 34) h_102))) fun k_31 =>
     ifB (op == 25)
      (k_31 (op == 25) h_99)
      (ifB (op == 31)
       (k_31 (op == 31) h_99)
       (k_31 (op == 32) h_99)))) fun k_30 =>
  ifB (op == 22)
   (k_30 (op == 22) h_96)
   (ifB (op == 23)
    (k_30 (op == 23) h_96)
    (ifB (op == 24)
     (k_30 (op == 24) h_96)
     (ifB (op == 26)
      (k_30 (op == 26) h_96)
      (ifB (op == 30)
       (k_30 (op == 30) h_96)
       (k_30 (op == 33) h_96))))))
             (ifB (decide (op ≥ 29))
                (bst [(0, 1), (1, 1), (2, 1), (3, 1), (4, 1)] #[.string ⟨#[]⟩, .bool false, .bool false, .int .i64 0, .int .i64 0] [(0, .string x_1), (1, .bool false), (2, .bool (decide (op ≤ 32)))] fun c_9 =>
                  new 100 #[.string ⟨#[]⟩, .bool false, .bool false, .int .i64 0, .int .i64 0] h_2 fun p_10 h_108 =>
                  c_9.size = 5 ∧ st c_9.toList h_108 p_10 fun h_109 =>
                  joinW (fun _ (_ : Unit) h_110 =>
    ld (.agg 5) h_110 p_10 fun (x_18 : Array Value) =>
    x_18.size = 5 ∧ st x_18.toList h_110 p fun h_111 =>
    ld (.agg 5) h_111 p fun (x_19 : Array Value) => K (.tuple #[.agg x_19, .bool true]) h_111) fun k_33 =>
  joinW (fun _ (t_25 : Bool) h_112 =>
    ifB t_25
     (st [.int .i64 1] h_112 (p_10.add 3) fun h_113 =>
     st [.int .i64 1] h_113 (p_10.add 4) fun h_114 =>
     k_33 () h_114)
     (joinW (fun _ (t_26 : Bool) h_115 =>
       ifB t_26
        (st [.int .i64 8] h_115 (p_10.add 4) fun h_116 =>
        k_33 () h_116)
        (joinW (fun _ (t_27 : Bool) h_117 =>
          ifB t_27
           (st [.int .i64 0] h_117 (p_10.add 4) fun h_118 =>
           k_33 () h_118)
           (st [.int .i64 2] h_117 (p_10.add 3) fun h_119 =>
           st [.int .i64 2] h_119 (p_10.add 4) fun h_120 =>
           k_33 () h_120)) fun k_36 =>
        ifB (op == 29)
         (k_36 (op == 29) h_115)
         (k_36 (op == 34) h_115))) fun k_35 =>
     ifB (op == 25)
      (k_35 (op == 25) h_112)
      (ifB (op == 31)
       (k_35 (op == 31) h_112)
       (k_35 (op == 32) h_112)))) fun k_34 =>
  ifB (op == 22)
   (k_34 (op == 22) h_109)
   (ifB (op == 23)
    (k_34 (op == 23) h_109)
    (ifB (op == 24)
     (k_34 (op == 24) h_109)
     (ifB (op == 26)
      (k_34 (op == 26) h_109)
      (ifB (op == 30)
       (k_34 (op == 30) h_109)
       (k_34 (op == 33) h_109))))))
                (bst [(0, 1), (1, 1), (2, 1), (3, 1), (4, 1)] #[.string ⟨#[]⟩, .bool false, .bool false, .int .i64 0, .int .i64 0] [(0, .string x_1), (1, .bool false), (2, .bool false)] fun c_10 =>
                  new 100 #[.string ⟨#[]⟩, .bool false, .bool false, .int .i64 0, .int .i64 0] h_2 fun p_11 h_121 =>
                  c_10.size = 5 ∧ st c_10.toList h_121 p_11 fun h_122 =>
                  joinW (fun _ (_ : Unit) h_123 =>
    ld (.agg 5) h_123 p_11 fun (x_20 : Array Value) =>
    x_20.size = 5 ∧ st x_20.toList h_123 p fun h_124 =>
    ld (.agg 5) h_124 p fun (x_21 : Array Value) => K (.tuple #[.agg x_21, .bool true]) h_124) fun k_37 =>
  joinW (fun _ (t_28 : Bool) h_125 =>
    ifB t_28
     (st [.int .i64 1] h_125 (p_11.add 3) fun h_126 =>
     st [.int .i64 1] h_126 (p_11.add 4) fun h_127 =>
     k_37 () h_127)
     (joinW (fun _ (t_29 : Bool) h_128 =>
       ifB t_29
        (st [.int .i64 8] h_128 (p_11.add 4) fun h_129 =>
        k_37 () h_129)
        (joinW (fun _ (t_30 : Bool) h_130 =>
          ifB t_30
           (st [.int .i64 0] h_130 (p_11.add 4) fun h_131 =>
           k_37 () h_131)
           (st [.int .i64 2] h_130 (p_11.add 3) fun h_132 =>
           st [.int .i64 2] h_132 (p_11.add 4) fun h_133 =>
           k_37 () h_133)) fun k_40 =>
        ifB (op == 29)
         (k_40 (op == 29) h_128)
         (k_40 (op == 34) h_128))) fun k_39 =>
     ifB (op == 25)
      (k_39 (op == 25) h_125)
      (ifB (op == 31)
       (k_39 (op == 31) h_125)
       (k_39 (op == 32) h_125)))) fun k_38 =>
  ifB (op == 22)
   (k_38 (op == 22) h_122)
   (ifB (op == 23)
    (k_38 (op == 23) h_122)
    (ifB (op == 24)
     (k_38 (op == 24) h_122)
     (ifB (op == 26)
      (k_38 (op == 26) h_122)
      (ifB (op == 30)
       (k_38 (op == 30) h_122)
       (k_38 (op == 33) h_122)))))))))))
     (ifB (op == 25)
         (bst [(0, 1), (1, 1), (2, 1), (3, 1), (4, 1)] #[.string ⟨#[]⟩, .bool false, .bool false, .int .i64 0, .int .i64 0] [(0, .string x_1), (1, .bool false), (2, .bool true)] fun c_11 =>
                new 100 #[.string ⟨#[]⟩, .bool false, .bool false, .int .i64 0, .int .i64 0] h_2 fun p_12 h_134 =>
                c_11.size = 5 ∧ st c_11.toList h_134 p_12 fun h_135 =>
                joinW (fun _ (_ : Unit) h_136 =>
    ld (.agg 5) h_136 p_12 fun (x_22 : Array Value) =>
    x_22.size = 5 ∧ st x_22.toList h_136 p fun h_137 =>
    ld (.agg 5) h_137 p fun (x_23 : Array Value) => K (.tuple #[.agg x_23, .bool true]) h_137) fun k_41 =>
  joinW (fun _ (t_31 : Bool) h_138 =>
    ifB t_31
     (st [.int .i64 1] h_138 (p_12.add 3) fun h_139 =>
     st [.int .i64 1] h_139 (p_12.add 4) fun h_140 =>
     k_41 () h_140)
     (joinW (fun _ (t_32 : Bool) h_141 =>
       ifB t_32
        (st [.int .i64 8] h_141 (p_12.add 4) fun h_142 =>
        k_41 () h_142)
        (joinW (fun _ (t_33 : Bool) h_143 =>
          ifB t_33
           (st [.int .i64 0] h_143 (p_12.add 4) fun h_144 =>
           k_41 () h_144)
           (st [.int .i64 2] h_143 (p_12.add 3) fun h_145 =>
           st [.int .i64 2] h_145 (p_12.add 4) fun h_146 =>
           k_41 () h_146)) fun k_44 =>
        ifB (op == 29)
         (k_44 (op == 29) h_141)
         (k_44 (op == 34) h_141))) fun k_43 =>
     ifB (op == 25)
      (k_43 (op == 25) h_138)
      (ifB (op == 31)
       (k_43 (op == 31) h_138)
       (k_43 (op == 32) h_138)))) fun k_42 =>
  ifB (op == 22)
   (k_42 (op == 22) h_135)
   (ifB (op == 23)
    (k_42 (op == 23) h_135)
    (ifB (op == 24)
     (k_42 (op == 24) h_135)
     (ifB (op == 26)
      (k_42 (op == 26) h_135)
      (ifB (op == 30)
       (k_42 (op == 30) h_135)
       (k_42 (op == 33) h_135))))))
         (ifB (op == 26)
           (bst [(0, 1), (1, 1), (2, 1), (3, 1), (4, 1)] #[.string ⟨#[]⟩, .bool false, .bool false, .int .i64 0, .int .i64 0] [(0, .string x_1), (1, .bool false), (2, .bool true)] fun c_12 =>
                new 100 #[.string ⟨#[]⟩, .bool false, .bool false, .int .i64 0, .int .i64 0] h_2 fun p_13 h_147 =>
                c_12.size = 5 ∧ st c_12.toList h_147 p_13 fun h_148 =>
                joinW (fun _ (_ : Unit) h_149 =>
    ld (.agg 5) h_149 p_13 fun (x_24 : Array Value) =>
    x_24.size = 5 ∧ st x_24.toList h_149 p fun h_150 =>
    ld (.agg 5) h_150 p fun (x_25 : Array Value) => K (.tuple #[.agg x_25, .bool true]) h_150) fun k_45 =>
  joinW (fun _ (t_34 : Bool) h_151 =>
    ifB t_34
     (st [.int .i64 1] h_151 (p_13.add 3) fun h_152 =>
     st [.int .i64 1] h_152 (p_13.add 4) fun h_153 =>
     k_45 () h_153)
     (joinW (fun _ (t_35 : Bool) h_154 =>
       ifB t_35
        (st [.int .i64 8] h_154 (p_13.add 4) fun h_155 =>
        k_45 () h_155)
        (joinW (fun _ (t_36 : Bool) h_156 =>
          ifB t_36
           (st [.int .i64 0] h_156 (p_13.add 4) fun h_157 =>
           k_45 () h_157)
           (st [.int .i64 2] h_156 (p_13.add 3) fun h_158 =>
           st [.int .i64 2] h_158 (p_13.add 4) fun h_159 =>
           k_45 () h_159)) fun k_48 =>
        ifB (op == 29)
         (k_48 (op == 29) h_154)
         (k_48 (op == 34) h_154))) fun k_47 =>
     ifB (op == 25)
      (k_47 (op == 25) h_151)
      (ifB (op == 31)
       (k_47 (op == 31) h_151)
       (k_47 (op == 32) h_151)))) fun k_46 =>
  ifB (op == 22)
   (k_46 (op == 22) h_148)
   (ifB (op == 23)
    (k_46 (op == 23) h_148)
    (ifB (op == 24)
     (k_46 (op == 24) h_148)
     (ifB (op == 26)
      (k_46 (op == 26) h_148)
      (ifB (op == 30)
       (k_46 (op == 30) h_148)
       (k_46 (op == 33) h_148))))))
           (ifB (op == 27)
             (bst [(0, 1), (1, 1), (2, 1), (3, 1), (4, 1)] #[.string ⟨#[]⟩, .bool false, .bool false, .int .i64 0, .int .i64 0] [(0, .string x_1), (1, .bool false), (2, .bool true)] fun c_13 =>
                new 100 #[.string ⟨#[]⟩, .bool false, .bool false, .int .i64 0, .int .i64 0] h_2 fun p_14 h_160 =>
                c_13.size = 5 ∧ st c_13.toList h_160 p_14 fun h_161 =>
                joinW (fun _ (_ : Unit) h_162 =>
    ld (.agg 5) h_162 p_14 fun (x_26 : Array Value) =>
    x_26.size = 5 ∧ st x_26.toList h_162 p fun h_163 =>
    ld (.agg 5) h_163 p fun (x_27 : Array Value) => K (.tuple #[.agg x_27, .bool true]) h_163) fun k_49 =>
  joinW (fun _ (t_37 : Bool) h_164 =>
    ifB t_37
     (st [.int .i64 1] h_164 (p_14.add 3) fun h_165 =>
     st [.int .i64 1] h_165 (p_14.add 4) fun h_166 =>
     k_49 () h_166)
     (joinW (fun _ (t_38 : Bool) h_167 =>
       ifB t_38
        (st [.int .i64 8] h_167 (p_14.add 4) fun h_168 =>
        k_49 () h_168)
        (joinW (fun _ (t_39 : Bool) h_169 =>
          ifB t_39
           (st [.int .i64 0] h_169 (p_14.add 4) fun h_170 =>
           k_49 () h_170)
           (st [.int .i64 2] h_169 (p_14.add 3) fun h_171 =>
           st [.int .i64 2] h_171 (p_14.add 4) fun h_172 =>
           k_49 () h_172)) fun k_52 =>
        ifB (op == 29)
         (k_52 (op == 29) h_167)
         (k_52 (op == 34) h_167))) fun k_51 =>
     ifB (op == 25)
      (k_51 (op == 25) h_164)
      (ifB (op == 31)
       (k_51 (op == 31) h_164)
       (k_51 (op == 32) h_164)))) fun k_50 =>
  ifB (op == 22)
   (k_50 (op == 22) h_161)
   (ifB (op == 23)
    (k_50 (op == 23) h_161)
    (ifB (op == 24)
     (k_50 (op == 24) h_161)
     (ifB (op == 26)
      (k_50 (op == 26) h_161)
      (ifB (op == 30)
       (k_50 (op == 30) h_161)
       (k_50 (op == 33) h_161))))))
             (ifB (decide (op ≥ 29))
                (bst [(0, 1), (1, 1), (2, 1), (3, 1), (4, 1)] #[.string ⟨#[]⟩, .bool false, .bool false, .int .i64 0, .int .i64 0] [(0, .string x_1), (1, .bool false), (2, .bool (decide (op ≤ 32)))] fun c_14 =>
                  new 100 #[.string ⟨#[]⟩, .bool false, .bool false, .int .i64 0, .int .i64 0] h_2 fun p_15 h_173 =>
                  c_14.size = 5 ∧ st c_14.toList h_173 p_15 fun h_174 =>
                  joinW (fun _ (_ : Unit) h_175 =>
    ld (.agg 5) h_175 p_15 fun (x_28 : Array Value) =>
    x_28.size = 5 ∧ st x_28.toList h_175 p fun h_176 =>
    ld (.agg 5) h_176 p fun (x_29 : Array Value) => K (.tuple #[.agg x_29, .bool true]) h_176) fun k_53 =>
  joinW (fun _ (t_40 : Bool) h_177 =>
    ifB t_40
     (st [.int .i64 1] h_177 (p_15.add 3) fun h_178 =>
     st [.int .i64 1] h_178 (p_15.add 4) fun h_179 =>
     k_53 () h_179)
     (joinW (fun _ (t_41 : Bool) h_180 =>
       ifB t_41
        (st [.int .i64 8] h_180 (p_15.add 4) fun h_181 =>
        k_53 () h_181)
        (joinW (fun _ (t_42 : Bool) h_182 =>
          ifB t_42
           (st [.int .i64 0] h_182 (p_15.add 4) fun h_183 =>
           k_53 () h_183)
           (st [.int .i64 2] h_182 (p_15.add 3) fun h_184 =>
           st [.int .i64 2] h_184 (p_15.add 4) fun h_185 =>
           k_53 () h_185)) fun k_56 =>
        ifB (op == 29)
         (k_56 (op == 29) h_180)
         (k_56 (op == 34) h_180))) fun k_55 =>
     ifB (op == 25)
      (k_55 (op == 25) h_177)
      (ifB (op == 31)
       (k_55 (op == 31) h_177)
       (k_55 (op == 32) h_177)))) fun k_54 =>
  ifB (op == 22)
   (k_54 (op == 22) h_174)
   (ifB (op == 23)
    (k_54 (op == 23) h_174)
    (ifB (op == 24)
     (k_54 (op == 24) h_174)
     (ifB (op == 26)
      (k_54 (op == 26) h_174)
      (ifB (op == 30)
       (k_54 (op == 30) h_174)
       (k_54 (op == 33) h_174))))))
                (bst [(0, 1), (1, 1), (2, 1), (3, 1), (4, 1)] #[.string ⟨#[]⟩, .bool false, .bool false, .int .i64 0, .int .i64 0] [(0, .string x_1), (1, .bool false), (2, .bool false)] fun c_15 =>
                  new 100 #[.string ⟨#[]⟩, .bool false, .bool false, .int .i64 0, .int .i64 0] h_2 fun p_16 h_186 =>
                  c_15.size = 5 ∧ st c_15.toList h_186 p_16 fun h_187 =>
                  joinW (fun _ (_ : Unit) h_188 =>
    ld (.agg 5) h_188 p_16 fun (x_30 : Array Value) =>
    x_30.size = 5 ∧ st x_30.toList h_188 p fun h_189 =>
    ld (.agg 5) h_189 p fun (x_31 : Array Value) => K (.tuple #[.agg x_31, .bool true]) h_189) fun k_57 =>
  joinW (fun _ (t_43 : Bool) h_190 =>
    ifB t_43
     (st [.int .i64 1] h_190 (p_16.add 3) fun h_191 =>
     st [.int .i64 1] h_191 (p_16.add 4) fun h_192 =>
     k_57 () h_192)
     (joinW (fun _ (t_44 : Bool) h_193 =>
       ifB t_44
        (st [.int .i64 8] h_193 (p_16.add 4) fun h_194 =>
        k_57 () h_194)
        (joinW (fun _ (t_45 : Bool) h_195 =>
          ifB t_45
           (st [.int .i64 0] h_195 (p_16.add 4) fun h_196 =>
           k_57 () h_196)
           (st [.int .i64 2] h_195 (p_16.add 3) fun h_197 =>
           st [.int .i64 2] h_197 (p_16.add 4) fun h_198 =>
           k_57 () h_198)) fun k_60 =>
        ifB (op == 29)
         (k_60 (op == 29) h_193)
         (k_60 (op == 34) h_193))) fun k_59 =>
     ifB (op == 25)
      (k_59 (op == 25) h_190)
      (ifB (op == 31)
       (k_59 (op == 31) h_190)
       (k_59 (op == 32) h_190)))) fun k_58 =>
  ifB (op == 22)
   (k_58 (op == 22) h_187)
   (ifB (op == 23)
    (k_58 (op == 23) h_187)
    (ifB (op == 24)
     (k_58 (op == 24) h_187)
     (ifB (op == 26)
      (k_58 (op == 26) h_187)
      (ifB (op == 30)
       (k_58 (op == 30) h_187)
       (k_58 (op == 33) h_187)))))))))))
   (ifB (op == 25)
         (bst [(0, 1), (1, 1), (2, 1), (3, 1), (4, 1)] #[.string ⟨#[]⟩, .bool false, .bool false, .int .i64 0, .int .i64 0] [(0, .string x_1), (1, .bool false), (2, .bool true)] fun c_16 =>
                new 100 #[.string ⟨#[]⟩, .bool false, .bool false, .int .i64 0, .int .i64 0] h_2 fun p_17 h_199 =>
                c_16.size = 5 ∧ st c_16.toList h_199 p_17 fun h_200 =>
                joinW (fun _ (_ : Unit) h_201 =>
    ld (.agg 5) h_201 p_17 fun (x_32 : Array Value) =>
    x_32.size = 5 ∧ st x_32.toList h_201 p fun h_202 =>
    ld (.agg 5) h_202 p fun (x_33 : Array Value) => K (.tuple #[.agg x_33, .bool true]) h_202) fun k_61 =>
  joinW (fun _ (t_46 : Bool) h_203 =>
    ifB t_46
     (st [.int .i64 1] h_203 (p_17.add 3) fun h_204 =>
     st [.int .i64 1] h_204 (p_17.add 4) fun h_205 =>
     k_61 () h_205)
     (joinW (fun _ (t_47 : Bool) h_206 =>
       ifB t_47
        (st [.int .i64 8] h_206 (p_17.add 4) fun h_207 =>
        k_61 () h_207)
        (joinW (fun _ (t_48 : Bool) h_208 =>
          ifB t_48
           (st [.int .i64 0] h_208 (p_17.add 4) fun h_209 =>
           k_61 () h_209)
           (st [.int .i64 2] h_208 (p_17.add 3) fun h_210 =>
           st [.int .i64 2] h_210 (p_17.add 4) fun h_211 =>
           k_61 () h_211)) fun k_64 =>
        ifB (op == 29)
         (k_64 (op == 29) h_206)
         (k_64 (op == 34) h_206))) fun k_63 =>
     ifB (op == 25)
      (k_63 (op == 25) h_203)
      (ifB (op == 31)
       (k_63 (op == 31) h_203)
       (k_63 (op == 32) h_203)))) fun k_62 =>
  ifB (op == 22)
   (k_62 (op == 22) h_200)
   (ifB (op == 23)
    (k_62 (op == 23) h_200)
    (ifB (op == 24)
     (k_62 (op == 24) h_200)
     (ifB (op == 26)
      (k_62 (op == 26) h_200)
      (ifB (op == 30)
       (k_62 (op == 30) h_200)
       (k_62 (op == 33) h_200))))))
         (ifB (op == 26)
           (bst [(0, 1), (1, 1), (2, 1), (3, 1), (4, 1)] #[.string ⟨#[]⟩, .bool false, .bool false, .int .i64 0, .int .i64 0] [(0, .string x_1), (1, .bool false), (2, .bool true)] fun c_17 =>
                new 100 #[.string ⟨#[]⟩, .bool false, .bool false, .int .i64 0, .int .i64 0] h_2 fun p_18 h_212 =>
                c_17.size = 5 ∧ st c_17.toList h_212 p_18 fun h_213 =>
                joinW (fun _ (_ : Unit) h_214 =>
    ld (.agg 5) h_214 p_18 fun (x_34 : Array Value) =>
    x_34.size = 5 ∧ st x_34.toList h_214 p fun h_215 =>
    ld (.agg 5) h_215 p fun (x_35 : Array Value) => K (.tuple #[.agg x_35, .bool true]) h_215) fun k_65 =>
  joinW (fun _ (t_49 : Bool) h_216 =>
    ifB t_49
     (st [.int .i64 1] h_216 (p_18.add 3) fun h_217 =>
     st [.int .i64 1] h_217 (p_18.add 4) fun h_218 =>
     k_65 () h_218)
     (joinW (fun _ (t_50 : Bool) h_219 =>
       ifB t_50
        (st [.int .i64 8] h_219 (p_18.add 4) fun h_220 =>
        k_65 () h_220)
        (joinW (fun _ (t_51 : Bool) h_221 =>
          ifB t_51
           (st [.int .i64 0] h_221 (p_18.add 4) fun h_222 =>
           k_65 () h_222)
           (st [.int .i64 2] h_221 (p_18.add 3) fun h_223 =>
           st [.int .i64 2] h_223 (p_18.add 4) fun h_224 =>
           k_65 () h_224)) fun k_68 =>
        ifB (op == 29)
         (k_68 (op == 29) h_219)
         (k_68 (op == 34) h_219))) fun k_67 =>
     ifB (op == 25)
      (k_67 (op == 25) h_216)
      (ifB (op == 31)
       (k_67 (op == 31) h_216)
       (k_67 (op == 32) h_216)))) fun k_66 =>
  ifB (op == 22)
   (k_66 (op == 22) h_213)
   (ifB (op == 23)
    (k_66 (op == 23) h_213)
    (ifB (op == 24)
     (k_66 (op == 24) h_213)
     (ifB (op == 26)
      (k_66 (op == 26) h_213)
      (ifB (op == 30)
       (k_66 (op == 30) h_213)
       (k_66 (op == 33) h_213))))))
           (ifB (op == 27)
             (bst [(0, 1), (1, 1), (2, 1), (3, 1), (4, 1)] #[.string ⟨#[]⟩, .bool false, .bool false, .int .i64 0, .int .i64 0] [(0, .string x_1), (1, .bool false), (2, .bool true)] fun c_18 =>
                new 100 #[.string ⟨#[]⟩, .bool false, .bool false, .int .i64 0, .int .i64 0] h_2 fun p_19 h_225 =>
                c_18.size = 5 ∧ st c_18.toList h_225 p_19 fun h_226 =>
                joinW (fun _ (_ : Unit) h_227 =>
    ld (.agg 5) h_227 p_19 fun (x_36 : Array Value) =>
    x_36.size = 5 ∧ st x_36.toList h_227 p fun h_228 =>
    ld (.agg 5) h_228 p fun (x_37 : Array Value) => K (.tuple #[.agg x_37, .bool true]) h_228) fun k_69 =>
  joinW (fun _ (t_52 : Bool) h_229 =>
    ifB t_52
     (st [.int .i64 1] h_229 (p_19.add 3) fun h_230 =>
     st [.int .i64 1] h_230 (p_19.add 4) fun h_231 =>
     k_69 () h_231)
     (joinW (fun _ (t_53 : Bool) h_232 =>
       ifB t_53
        (st [.int .i64 8] h_232 (p_19.add 4) fun h_233 =>
        k_69 () h_233)
        (joinW (fun _ (t_54 : Bool) h_234 =>
          ifB t_54
           (st [.int .i64 0] h_234 (p_19.add 4) fun h_235 =>
           k_69 () h_235)
           (st [.int .i64 2] h_234 (p_19.add 3) fun h_236 =>
           st [.int .i64 2] h_236 (p_19.add 4) fun h_237 =>
           k_69 () h_237)) fun k_72 =>
        ifB (op == 29)
         (k_72 (op == 29) h_232)
         (k_72 (op == 34) h_232))) fun k_71 =>
     ifB (op == 25)
      (k_71 (op == 25) h_229)
      (ifB (op == 31)
       (k_71 (op == 31) h_229)
       (k_71 (op == 32) h_229)))) fun k_70 =>
  ifB (op == 22)
   (k_70 (op == 22) h_226)
   (ifB (op == 23)
    (k_70 (op == 23) h_226)
    (ifB (op == 24)
     (k_70 (op == 24) h_226)
     (ifB (op == 26)
      (k_70 (op == 26) h_226)
      (ifB (op == 30)
       (k_70 (op == 30) h_226)
       (k_70 (op == 33) h_226))))))
             (ifB (decide (op ≥ 29))
                (bst [(0, 1), (1, 1), (2, 1), (3, 1), (4, 1)] #[.string ⟨#[]⟩, .bool false, .bool false, .int .i64 0, .int .i64 0] [(0, .string x_1), (1, .bool false), (2, .bool (decide (op ≤ 32)))] fun c_19 =>
                  new 100 #[.string ⟨#[]⟩, .bool false, .bool false, .int .i64 0, .int .i64 0] h_2 fun p_20 h_238 =>
                  c_19.size = 5 ∧ st c_19.toList h_238 p_20 fun h_239 =>
                  joinW (fun _ (_ : Unit) h_240 =>
    ld (.agg 5) h_240 p_20 fun (x_38 : Array Value) =>
    x_38.size = 5 ∧ st x_38.toList h_240 p fun h_241 =>
    ld (.agg 5) h_241 p fun (x_39 : Array Value) => K (.tuple #[.agg x_39, .bool true]) h_241) fun k_73 =>
  joinW (fun _ (t_55 : Bool) h_242 =>
    ifB t_55
     (st [.int .i64 1] h_242 (p_20.add 3) fun h_243 =>
     st [.int .i64 1] h_243 (p_20.add 4) fun h_244 =>
     k_73 () h_244)
     (joinW (fun _ (t_56 : Bool) h_245 =>
       ifB t_56
        (st [.int .i64 8] h_245 (p_20.add 4) fun h_246 =>
        k_73 () h_246)
        (joinW (fun _ (t_57 : Bool) h_247 =>
          ifB t_57
           (st [.int .i64 0] h_247 (p_20.add 4) fun h_248 =>
           k_73 () h_248)
           (st [.int .i64 2] h_247 (p_20.add 3) fun h_249 =>
           st [.int .i64 2] h_249 (p_20.add 4) fun h_250 =>
           k_73 () h_250)) fun k_76 =>
        ifB (op == 29)
         (k_76 (op == 29) h_245)
         (k_76 (op == 34) h_245))) fun k_75 =>
     ifB (op == 25)
      (k_75 (op == 25) h_242)
      (ifB (op == 31)
       (k_75 (op == 31) h_242)
       (k_75 (op == 32) h_242)))) fun k_74 =>
  ifB (op == 22)
   (k_74 (op == 22) h_239)
   (ifB (op == 23)
    (k_74 (op == 23) h_239)
    (ifB (op == 24)
     (k_74 (op == 24) h_239)
     (ifB (op == 26)
      (k_74 (op == 26) h_239)
      (ifB (op == 30)
       (k_74 (op == 30) h_239)
       (k_74 (op == 33) h_239))))))
                (bst [(0, 1), (1, 1), (2, 1), (3, 1), (4, 1)] #[.string ⟨#[]⟩, .bool false, .bool false, .int .i64 0, .int .i64 0] [(0, .string x_1), (1, .bool false), (2, .bool false)] fun c_20 =>
                  new 100 #[.string ⟨#[]⟩, .bool false, .bool false, .int .i64 0, .int .i64 0] h_2 fun p_21 h_251 =>
                  c_20.size = 5 ∧ st c_20.toList h_251 p_21 fun h_252 =>
                  joinW (fun _ (_ : Unit) h_253 =>
    ld (.agg 5) h_253 p_21 fun (x_40 : Array Value) =>
    x_40.size = 5 ∧ st x_40.toList h_253 p fun h_254 =>
    ld (.agg 5) h_254 p fun (x_41 : Array Value) => K (.tuple #[.agg x_41, .bool true]) h_254) fun k_77 =>
  joinW (fun _ (t_58 : Bool) h_255 =>
    ifB t_58
     (st [.int .i64 1] h_255 (p_21.add 3) fun h_256 =>
     st [.int .i64 1] h_256 (p_21.add 4) fun h_257 =>
     k_77 () h_257)
     (joinW (fun _ (t_59 : Bool) h_258 =>
       ifB t_59
        (st [.int .i64 8] h_258 (p_21.add 4) fun h_259 =>
        k_77 () h_259)
        (joinW (fun _ (t_60 : Bool) h_260 =>
          ifB t_60
           (st [.int .i64 0] h_260 (p_21.add 4) fun h_261 =>
           k_77 () h_261)
           (st [.int .i64 2] h_260 (p_21.add 3) fun h_262 =>
           st [.int .i64 2] h_262 (p_21.add 4) fun h_263 =>
           k_77 () h_263)) fun k_80 =>
        ifB (op == 29)
         (k_80 (op == 29) h_258)
         (k_80 (op == 34) h_258))) fun k_79 =>
     ifB (op == 25)
      (k_79 (op == 25) h_255)
      (ifB (op == 31)
       (k_79 (op == 31) h_255)
       (k_79 (op == 32) h_255)))) fun k_78 =>
  ifB (op == 22)
   (k_78 (op == 22) h_252)
   (ifB (op == 23)
    (k_78 (op == 23) h_252)
    (ifB (op == 24)
     (k_78 (op == 24) h_252)
     (ifB (op == 26)
      (k_78 (op == 26) h_252)
      (ifB (op == 30)
       (k_78 (op == 30) h_252)
       (k_78 (op == 33) h_252)))))))))))) fun k =>
  ifB (decide (op < 1))
   (k true h_1)
   (k (decide (op > 34)) h_1)
def lateenref05_Of_a : Ann := (.seq .leaf (.seq (.join [(10, .bool)] [0, 2] .leaf (.cond (.seq .leaf .leaf) .leaf)) (.seq .leaf (.join [] [2, 4] (.seq .leaf (.block (.join [(51, .bool)] [2, 4, 48] (.seq .leaf (.cond .leaf (.seq .leaf (.cond .leaf (.seq .leaf (.cond .leaf (.seq .leaf (.cond .leaf (.seq .leaf (.cond .leaf .leaf)))))))))) (.cond (.seq .leaf .leaf) (.join [(60, .bool)] [2, 4, 48] (.seq .leaf (.cond .leaf (.seq .leaf (.cond .leaf .leaf)))) (.cond .leaf (.join [(65, .bool)] [2, 4] (.seq .leaf (.cond .leaf .leaf)) (.cond .leaf (.seq .leaf .leaf))))))))) (.seq .leaf .leaf)))))
theorem lateenref05_Of_eq (op : Int) (h : Heap) (K : Value → Heap → Prop) : lateenref05_Of op h K = fnW Tryd.prog ty lateenref05_Of_a (bodyOf Tryd.f42) [.cell 2 100, .tmp 3] [.int .i64 op] h K := by kernel_rfl
theorem lateenref05_Of_of {op : Int} {h : Heap} {K : Value → Heap → Prop} (hw : lateenref05_Of op h K) : ACalls Tryd.prog F_lateenref05_Of [.int .i64 op] h K :=
  calls_sound ty_ok mixed lateenref05_Of_a (c := bodyOf Tryd.f42) Tryd.func42 (by kernel_rfl) (by kernel_rfl) (by kernel_rfl) (Nat.le_of_ble_eq_true rfl) (by rw [lateenref05_Of_eq] at hw; exact hw)

/-- lateen/lateenref06.args -/
def lateenref06_args (l : Sl) (a : Sl) (h : Heap) (K : Value → Heap → Prop) : Prop :=
  loopW (fun _ (q_l_1 : Sl × Int) h_1 next =>
    ifB (decide (q_l_1.2 < (a.len : Int)))
     (idx 3 a q_l_1.2 fun p =>
    ld (.agg 3) h_1 p fun (x : Array Value) =>
    ACalls Tryd.prog F_lateenref03_Put [.agg x] h_1 fun v h_2 => as1 .str v fun r =>
    bld si_Lstring 1 [(0, .string r)] h_2 fun s h_3 =>
    app si_Lstring q_l_1.1 s h_3 fun s_1 h_4 =>
    ar .i64 (q_l_1.2 + 1) fun n =>
    next (s_1, n) h_4)
     (K q_l_1.1.v h_1)) (l, 0) h
def lateenref06_args_a : Ann := (.seq .leaf (.seq (.seq .leaf (.block (.loop [(0, .sl), (5, .int .i64)] [1] (.seq (.seq .leaf (.cond .leaf .leaf)) (.seq (.block .leaf) .leaf))))) (.seq .leaf .leaf)))
theorem lateenref06_args_eq (l : Sl) (a : Sl) (h : Heap) (K : Value → Heap → Prop) : lateenref06_args l a h K = fnW Tryd.prog ty lateenref06_args_a (bodyOf Tryd.f43) [.tmp 4] [l.v, a.v] h K := by kernel_rfl
theorem lateenref06_args_of {l : Sl} {a : Sl} {h : Heap} {K : Value → Heap → Prop} (hw : lateenref06_args l a h K) : ACalls Tryd.prog F_lateenref06_args [l.v, a.v] h K :=
  calls_sound ty_ok mixed lateenref06_args_a (c := bodyOf Tryd.f43) Tryd.func43 (by kernel_rfl) (by kernel_rfl) (by kernel_rfl) (Nat.le_of_ble_eq_true rfl) (by rw [lateenref06_args_eq] at hw; exact hw)

/-- maps.Keys[lateen/live.set,string,bool] -/
def maps_Keys_1 (m : Option Nat) (h : Heap) (K : Value → Heap → Prop) : Prop :=
  new 73 #[.map m] h fun p h_1 =>
  K (.func (.func F_maps_Keys_live_set_string_bool__1) #[] #[.pointer (some p)]) h_1
def maps_Keys_1_a : Ann := (.seq .leaf (.seq .leaf .leaf))
theorem maps_Keys_1_eq (m : Option Nat) (h : Heap) (K : Value → Heap → Prop) : maps_Keys_1 m h K = fnW Tryd.prog ty maps_Keys_1_a (bodyOf Tryd.f44) [.tmp 2] [.map m] h K := by kernel_rfl
theorem maps_Keys_1_of {m : Option Nat} {h : Heap} {K : Value → Heap → Prop} (hw : maps_Keys_1 m h K) : ACalls Tryd.prog F_maps_Keys_1 [.map m] h K :=
  calls_sound ty_ok mixed maps_Keys_1_a (c := bodyOf Tryd.f44) Tryd.func44 (by kernel_rfl) (by kernel_rfl) (by kernel_rfl) (Nat.le_of_ble_eq_true rfl) (by rw [maps_Keys_1_eq] at hw; exact hw)

/-- lateen/flow.Of -/
def flow_Of (f : Array Value) (h : Heap) (K : Value → Heap → Prop) : Prop :=
  new 25 f h fun p h_1 =>
  ld .sl h_1 (p.add 4) fun (x : Sl) =>
  (x.len : Int) = (x.len : Int) ∧ mk si_LLint (x.len : Int) h_1 fun s h_2 =>
  ld .sl h_2 (p.add 4) fun (x_1 : Sl) =>
  loopW (fun _ (t : Int) h_3 next =>
    ifB (decide (t < (x_1.len : Int)))
     (idx 9 x_1 t fun p_1 =>
    ld (.agg 9) h_3 p_1 fun (x_2 : Array Value) =>
    new 50 #[.string ⟨#[]⟩, .slice none 0 0, .slice none 0 0, .int .i64 0, .int .i64 0, .string ⟨#[]⟩, .int .i64 0, .slice none 0 0, .int .i64 0] h_3 fun p_2 h_4 =>
    x_2.size = 9 ∧ st x_2.toList h_4 p_2 fun h_5 =>
    ld .sl h_5 ((p_2.add 3).add 4) fun (x_3 : Sl) =>
    loopW (fun _ (t_1 : Int) h_6 next_1 =>
      ifB (decide (t_1 < (x_3.len : Int)))
       (joinW (fun _ (_ : Unit) h_7 =>
        ar .i64 (t_1 + 1) fun n =>
        next_1 n h_7) fun k =>
      idx 1 x_3 t_1 fun p_3 =>
      ld .str h_6 p_3 fun (x_4 : ByteArray) =>
      ld (.agg 5) h_6 p fun (x_5 : Array Value) =>
      ACalls Tryd.prog F_shape_Place [.agg x_5, .string x_4] h_6 fun v h_8 => as2 (.int .i64) .bool v fun r r_1 =>
      ifB r_1
       (idx 1 s t fun p_4 =>
       ld .sl h_8 p_4 fun (x_6 : Sl) =>
       bld si_Lint 1 [(0, .int .i64 r)] h_8 fun s_1 h_9 =>
       app si_Lint x_6 s_1 h_9 fun s_2 h_10 =>
       idx 1 s t fun p_5 =>
       st [s_2.v] h_10 p_5 fun h_11 =>
       k () h_11)
       (k () h_8))
       (ar .i64 (t + 1) fun n_1 =>
    next n_1 h_6)) 0 h_5)
     (K s.v h_3)) 0 h_2
def flow_Of_a : Ann := (.seq .leaf (.seq .leaf (.seq (.seq .leaf (.block (.loop [(17, .int .i64)] [1, 3, 15, 16] (.seq .leaf (.seq (.cond .leaf .leaf) (.seq (.block (.seq .leaf (.seq .leaf (.block (.loop [(26, .int .i64)] [1, 3, 4, 15, 16, 17, 24, 25] (.seq .leaf (.seq (.cond .leaf .leaf) (.join [] [1, 3, 4, 15, 16, 17, 24, 25, 26] (.block (.seq .leaf (.seq .leaf (.seq .leaf (.cond .leaf .leaf))))) .leaf)))))))) .leaf)))))) (.seq .leaf .leaf))))
theorem flow_Of_eq (f : Array Value) (h : Heap) (K : Value → Heap → Prop) : flow_Of f h K = fnW Tryd.prog ty flow_Of_a (bodyOf Tryd.f45) [.tmp 2] [.agg f] h K := by kernel_rfl
theorem flow_Of_of {f : Array Value} {h : Heap} {K : Value → Heap → Prop} (hw : flow_Of f h K) : ACalls Tryd.prog F_flow_Of [.agg f] h K :=
  calls_sound ty_ok mixed flow_Of_a (c := bodyOf Tryd.f45) Tryd.func45 (by kernel_rfl) (by kernel_rfl) (by kernel_rfl) (Nat.le_of_ble_eq_true rfl) (by rw [flow_Of_eq] at hw; exact hw)

/-- lateen/flow.Preds -/
def flow_Preds (g : Sl) (h : Heap) (K : Value → Heap → Prop) : Prop :=
  (g.len : Int) = (g.len : Int) ∧ mk si_LLint (g.len : Int) h fun s h_1 =>
  loopW (fun _ (t : Int) h_2 next =>
    ifB (decide (t < (g.len : Int)))
     (idx 1 g t fun p =>
    ld .sl h_2 p fun (x : Sl) =>
    loopW (fun _ (t_1 : Int) h_3 next_1 =>
      ifB (decide (t_1 < (x.len : Int)))
       (joinW (fun _ (_ : Unit) h_4 =>
        ar .i64 (t_1 + 1) fun n =>
        next_1 n h_4) fun k =>
      idx 1 x t_1 fun p_1 =>
      ld (.int .i64) h_3 p_1 fun (x_1 : Int) =>
      joinW (fun _ (t_2 : Bool) h_5 =>
        ifB t_2
         (idx 1 s x_1 fun p_2 =>
         ld .sl h_5 p_2 fun (x_2 : Sl) =>
         bld si_Lint 1 [(0, .int .i64 t)] h_5 fun s_1 h_6 =>
         app si_Lint x_2 s_1 h_6 fun s_2 h_7 =>
         idx 1 s x_1 fun p_3 =>
         st [s_2.v] h_7 p_3 fun h_8 =>
         k () h_8)
         (k () h_5)) fun k_1 =>
      ifB (decide (x_1 ≥ 0))
       (ifB (decide (x_1 < (g.len : Int)))
           (idx 1 s x_1 fun p_4 =>
             ld .sl h_3 p_4 fun (x_3 : Sl) =>
              ACalls Tryd.prog F_slices_Contains_0 [x_3.v, .int .i64 t] h_3 fun v h_9 => as1 .bool v fun r =>
                k_1 (!r) h_9)
           (k_1 false h_3))
       (k_1 false h_3))
       (ar .i64 (t + 1) fun n_1 =>
    next n_1 h_3)) 0 h_2)
     (K s.v h_2)) 0 h_1
def flow_Preds_a : Ann := (.seq .leaf (.seq .leaf (.seq (.seq .leaf (.block (.loop [(13, .int .i64)] [0, 3, 11, 12] (.seq .leaf (.seq (.cond .leaf .leaf) (.seq (.block (.seq .leaf (.seq .leaf (.block (.loop [(20, .int .i64)] [0, 3, 4, 11, 12, 13, 18, 19] (.seq .leaf (.seq (.cond .leaf .leaf) (.join [] [0, 3, 4, 11, 12, 13, 18, 19, 20] (.block (.seq .leaf (.join [(40, .bool)] [0, 3, 4, 7, 11, 12, 13, 18, 19, 20] .leaf (.cond .leaf .leaf)))) .leaf)))))))) .leaf)))))) (.seq .leaf .leaf))))
theorem flow_Preds_eq (g : Sl) (h : Heap) (K : Value → Heap → Prop) : flow_Preds g h K = fnW Tryd.prog ty flow_Preds_a (bodyOf Tryd.f46) [.tmp 2] [g.v] h K := by kernel_rfl
theorem flow_Preds_of {g : Sl} {h : Heap} {K : Value → Heap → Prop} (hw : flow_Preds g h K) : ACalls Tryd.prog F_flow_Preds [g.v] h K :=
  calls_sound ty_ok mixed flow_Preds_a (c := bodyOf Tryd.f46) Tryd.func46 (by kernel_rfl) (by kernel_rfl) (by kernel_rfl) (Nat.le_of_ble_eq_true rfl) (by rw [flow_Preds_eq] at hw; exact hw)

/-- lateen/flow.Order -/
def flow_Order (g : Sl) (h : Heap) (K : Value → Heap → Prop) : Prop :=
  ACalls Tryd.prog F_flow_walk [g.v] h fun v h_1 => as2 .sl .sl v fun _ r_1 =>
  ACalls Tryd.prog F_slices_Reverse [r_1.v] h_1 fun v_1 h_2 => as0 v_1 (
  K r_1.v h_2)
def flow_Order_a : Ann := (.seq .leaf (.seq .leaf (.seq .leaf (.seq .leaf .leaf))))
theorem flow_Order_eq (g : Sl) (h : Heap) (K : Value → Heap → Prop) : flow_Order g h K = fnW Tryd.prog ty flow_Order_a (bodyOf Tryd.f47) [.tmp 2] [g.v] h K := by kernel_rfl
theorem flow_Order_of {g : Sl} {h : Heap} {K : Value → Heap → Prop} (hw : flow_Order g h K) : ACalls Tryd.prog F_flow_Order [g.v] h K :=
  calls_sound ty_ok mixed flow_Order_a (c := bodyOf Tryd.f47) Tryd.func47 (by kernel_rfl) (by kernel_rfl) (by kernel_rfl) (Nat.le_of_ble_eq_true rfl) (by rw [flow_Order_eq] at hw; exact hw)

/-- lateen/assign.params -/
def assign_params (f : Array Value) (h : Heap) (K : Value → Heap → Prop) : Prop :=
  new 25 f h fun p h_1 =>
  mkm h_1 fun m h_2 =>
  ld .sl h_2 (p.add 2) fun (x : Sl) =>
  loopW (fun _ (t : Int) h_3 next =>
    ifB (decide (t < (x.len : Int)))
     (idx 2 x t fun p_1 =>
    ld (.agg 2) h_3 p_1 fun (x_1 : Array Value) =>
    new 76 #[.string ⟨#[]⟩, .string ⟨#[]⟩] h_3 fun p_2 h_4 =>
    x_1.size = 2 ∧ st x_1.toList h_4 p_2 fun h_5 =>
    ld .str h_5 (p_2.add 0) fun (x_2 : ByteArray) =>
    mup .string m (.string x_2) (.bool true) h_5 fun h_6 =>
    ar .i64 (t + 1) fun n =>
    next n h_6)
     (K (.map m) h_3)) 0 h_2
def assign_params_a : Ann := (.seq .leaf (.seq .leaf (.seq (.seq .leaf (.block (.loop [(10, .int .i64)] [3, 8, 9] (.seq .leaf (.seq (.cond .leaf .leaf) (.seq (.block (.seq .leaf .leaf)) .leaf)))))) (.seq .leaf .leaf))))
theorem assign_params_eq (f : Array Value) (h : Heap) (K : Value → Heap → Prop) : assign_params f h K = fnW Tryd.prog ty assign_params_a (bodyOf Tryd.f48) [.tmp 2] [.agg f] h K := by kernel_rfl
theorem assign_params_of {f : Array Value} {h : Heap} {K : Value → Heap → Prop} (hw : assign_params f h K) : ACalls Tryd.prog F_assign_params [.agg f] h K :=
  calls_sound ty_ok mixed assign_params_a (c := bodyOf Tryd.f48) Tryd.func48 (by kernel_rfl) (by kernel_rfl) (by kernel_rfl) (Nat.le_of_ble_eq_true rfl) (by rw [assign_params_eq] at hw; exact hw)

/-- lateen/assign.meet -/
def assign_meet (a : Option Nat) (b : Option Nat) (h : Heap) (K : Value → Heap → Prop) : Prop :=
  ifB a.isNone
   (K (.map b) h)
   (mkm h fun m h_1 =>
  rng a h_1 fun r h_2 =>
  loopW (fun _ (_ : Unit) h_3 next =>
    nxt r h_3
     (K (.map m) h_3) fun _ _ h_4 =>
    ent r h_4 fun key_1 _ =>
    mlk .string b (key_1) h_4 fun r_1 => as1 .bool (r_1.getD (.bool false)) fun y =>
    ifB y
     (mup .string m (key_1) (.bool true) h_4 fun h_5 =>
     next () h_5)
     (next () h_4)) () h_2)
def assign_meet_a : Ann := (.seq .leaf (.seq (.seq .leaf (.cond (.seq .leaf .leaf) .leaf)) (.seq .leaf (.seq (.seq .leaf (.block (.loop [] [1, 5, 12] (.seq .leaf (.seq (.cond .leaf .leaf) (.block (.seq .leaf (.seq .leaf (.cond .leaf .leaf))))))))) (.seq .leaf .leaf)))))
theorem assign_meet_eq (a : Option Nat) (b : Option Nat) (h : Heap) (K : Value → Heap → Prop) : assign_meet a b h K = fnW Tryd.prog ty assign_meet_a (bodyOf Tryd.f49) [.tmp 4] [.map a, .map b] h K := by kernel_rfl
theorem assign_meet_of {a : Option Nat} {b : Option Nat} {h : Heap} {K : Value → Heap → Prop} (hw : assign_meet a b h K) : ACalls Tryd.prog F_assign_meet [.map a, .map b] h K :=
  calls_sound ty_ok mixed assign_meet_a (c := bodyOf Tryd.f49) Tryd.func49 (by kernel_rfl) (by kernel_rfl) (by kernel_rfl) (Nat.le_of_ble_eq_true rfl) (by rw [assign_meet_eq] at hw; exact hw)

/-- (lateen/assign.set).phis -/
def assign_set_phis (s : Option Nat) (b : Array Value) (h : Heap) (K : Value → Heap → Prop) : Prop :=
  new 50 b h fun p h_1 =>
  ACalls Tryd.prog F_maps_Clone [.map s] h_1 fun v h_2 => as1 .map v fun r =>
  ld .sl h_2 (p.add 1) fun (x : Sl) =>
  loopW (fun _ (t : Int) h_3 next =>
    ifB (decide (t < (x.len : Int)))
     (idx 2 x t fun p_1 =>
    ld (.agg 2) h_3 p_1 fun (x_1 : Array Value) =>
    new 64 #[.string ⟨#[]⟩, .slice none 0 0] h_3 fun p_2 h_4 =>
    x_1.size = 2 ∧ st x_1.toList h_4 p_2 fun h_5 =>
    ld .str h_5 (p_2.add 0) fun (x_2 : ByteArray) =>
    mup .string r (.string x_2) (.bool true) h_5 fun h_6 =>
    ar .i64 (t + 1) fun n =>
    next n h_6)
     (K (.map r) h_3)) 0 h_2
def assign_set_phis_a : Ann := (.seq .leaf (.seq .leaf (.seq (.seq .leaf (.block (.loop [(13, .int .i64)] [5, 11, 12] (.seq .leaf (.seq (.cond .leaf .leaf) (.seq (.block (.seq .leaf .leaf)) .leaf)))))) (.seq .leaf .leaf))))
theorem assign_set_phis_eq (s : Option Nat) (b : Array Value) (h : Heap) (K : Value → Heap → Prop) : assign_set_phis s b h K = fnW Tryd.prog ty assign_set_phis_a (bodyOf Tryd.f50) [.tmp 4] [.map s, .agg b] h K := by kernel_rfl
theorem assign_set_phis_of {s : Option Nat} {b : Array Value} {h : Heap} {K : Value → Heap → Prop} (hw : assign_set_phis s b h K) : ACalls Tryd.prog F_assign_set_phis [.map s, .agg b] h K :=
  calls_sound ty_ok mixed assign_set_phis_a (c := bodyOf Tryd.f50) Tryd.func50 (by kernel_rfl) (by kernel_rfl) (by kernel_rfl) (Nat.le_of_ble_eq_true rfl) (by rw [assign_set_phis_eq] at hw; exact hw)

/-- maps.Keys[lateen/assign.set,string,bool]$1 -/
def maps_Keys_assign_set_string_bool__1 (yield : Value) (p : Addr) (h : Heap) (K : Value → Heap → Prop) : Prop :=
  ld .map h p fun (x : Option Nat) =>
  rng x h fun r h_1 =>
  loopW (fun _ (_ : Unit) h_2 next =>
    nxt r h_2
     (K (.tuple #[]) h_2) fun _ _ h_3 =>
    ent r h_3 fun key_1 _ =>
    callV Tryd.prog yield [key_1] h_3 fun v h_4 => as1 .bool v fun r_1 =>
    ifB (!r_1)
     (K (.tuple #[]) h_4)
     (next () h_4)) () h_1
def maps_Keys_assign_set_string_bool__1_a : Ann := (.seq .leaf (.block (.loop [] [0, 5] (.seq .leaf (.seq (.cond .leaf .leaf) (.block (.seq .leaf (.seq .leaf (.cond .leaf .leaf)))))))))
theorem maps_Keys_assign_set_string_bool__1_eq (yield : Value) (p : Addr) (h : Heap) (K : Value → Heap → Prop) : maps_Keys_assign_set_string_bool__1 yield p h K = fnW Tryd.prog ty maps_Keys_assign_set_string_bool__1_a (bodyOf Tryd.f53) [] [yield, .pointer (some p)] h K := by kernel_rfl
theorem maps_Keys_assign_set_string_bool__1_of {yield : Value} {p : Addr} {h : Heap} {K : Value → Heap → Prop} (hw : maps_Keys_assign_set_string_bool__1 yield p h K) : ACalls Tryd.prog F_maps_Keys_assign_set_string_bool__1 [yield, .pointer (some p)] h K :=
  calls_sound ty_ok mixed maps_Keys_assign_set_string_bool__1_a (c := bodyOf Tryd.f53) Tryd.func53 (by kernel_rfl) (by kernel_rfl) (by kernel_rfl) (Nat.le_of_ble_eq_true rfl) (by rw [maps_Keys_assign_set_string_bool__1_eq] at hw; exact hw)

/-- maps.Clone[lateen/assign.set,string,bool] -/
def maps_Clone (m : Option Nat) (h : Heap) (K : Value → Heap → Prop) : Prop :=
  ifB m.isNone
   (K (.map none) h)
   (False)
def maps_Clone_a : Ann := (.seq .leaf (.seq (.seq .leaf (.cond (.seq .leaf .leaf) .leaf)) (.seq .leaf .leaf)))
theorem maps_Clone_eq (m : Option Nat) (h : Heap) (K : Value → Heap → Prop) : maps_Clone m h K = fnW Tryd.prog ty maps_Clone_a (bodyOf Tryd.f54) [.tmp 2] [.map m] h K := by kernel_rfl
theorem maps_Clone_of {m : Option Nat} {h : Heap} {K : Value → Heap → Prop} (hw : maps_Clone m h K) : ACalls Tryd.prog F_maps_Clone [.map m] h K :=
  calls_sound ty_ok mixed maps_Clone_a (c := bodyOf Tryd.f54) Tryd.func54 (by kernel_rfl) (by kernel_rfl) (by kernel_rfl) (Nat.le_of_ble_eq_true rfl) (by rw [maps_Clone_eq] at hw; exact hw)

/-- (lateen/assign.set).has -/
def assign_set_has (s : Option Nat) (l : Sl) (h : Heap) (K : Value → Heap → Prop) : Prop :=
  loopW (fun _ (t : Int) h_1 next =>
    ifB (decide (t < (l.len : Int)))
     (idx 1 l t fun p =>
    ld .str h_1 p fun (x : ByteArray) =>
    mlk .string s (.string x) h_1 fun r => as1 .bool (r.getD (.bool false)) fun y =>
    ifB (!y)
     (K (.bool false) h_1)
     (ar .i64 (t + 1) fun n =>
    next n h_1))
     (K (.bool true) h_1)) 0 h
def assign_set_has_a : Ann := (.seq .leaf (.seq (.seq .leaf (.block (.loop [(9, .int .i64)] [0, 7, 8] (.seq .leaf (.seq (.cond .leaf .leaf) (.seq (.block (.seq .leaf (.seq .leaf (.cond (.seq .leaf .leaf) .leaf)))) .leaf)))))) (.seq .leaf .leaf)))
theorem assign_set_has_eq (s : Option Nat) (l : Sl) (h : Heap) (K : Value → Heap → Prop) : assign_set_has s l h K = fnW Tryd.prog ty assign_set_has_a (bodyOf Tryd.f55) [.tmp 4] [.map s, l.v] h K := by kernel_rfl
theorem assign_set_has_of {s : Option Nat} {l : Sl} {h : Heap} {K : Value → Heap → Prop} (hw : assign_set_has s l h K) : ACalls Tryd.prog F_assign_set_has [.map s, l.v] h K :=
  calls_sound ty_ok mixed assign_set_has_a (c := bodyOf Tryd.f55) Tryd.func55 (by kernel_rfl) (by kernel_rfl) (by kernel_rfl) (Nat.le_of_ble_eq_true rfl) (by rw [assign_set_has_eq] at hw; exact hw)

/-- lateen/live.Uses -/
def live_Uses (i : Array Value) (h : Heap) (K : Value → Heap → Prop) : Prop :=
  new 43 i h fun p h_1 =>
  mkm h_1 fun m h_2 =>
  ld (.agg 6) h_2 p fun (x : Array Value) =>
  ACalls Tryd.prog F_live_set_instr [.map m, .agg x] h_2 fun v h_3 => as0 v (
  ACalls Tryd.prog F_live_set_names [.map m] h_3 fun v_1 h_4 => as1 .sl v_1 fun r =>
  K r.v h_4)
def live_Uses_a : Ann := (.seq .leaf (.seq .leaf (.seq .leaf (.seq .leaf .leaf))))
theorem live_Uses_eq (i : Array Value) (h : Heap) (K : Value → Heap → Prop) : live_Uses i h K = fnW Tryd.prog ty live_Uses_a (bodyOf Tryd.f56) [.tmp 2] [.agg i] h K := by kernel_rfl
theorem live_Uses_of {i : Array Value} {h : Heap} {K : Value → Heap → Prop} (hw : live_Uses i h K) : ACalls Tryd.prog F_live_Uses [.agg i] h K :=
  calls_sound ty_ok mixed live_Uses_a (c := bodyOf Tryd.f56) Tryd.func56 (by kernel_rfl) (by kernel_rfl) (by kernel_rfl) (Nat.le_of_ble_eq_true rfl) (by rw [live_Uses_eq] at hw; exact hw)

/-- (lateen/assign.set).arg -/
def assign_set_arg (s : Option Nat) (a : Array Value) (h : Heap) (K : Value → Heap → Prop) : Prop :=
  new 38 a h fun p h_1 =>
  joinW (fun _ (t : Bool) h_2 =>
    K (.bool t) h_2) fun k =>
  ld (.int .i64) h_1 (p.add 0) fun (x : Int) =>
  ifB (x != 1)
   (k true h_1)
   (ld .str h_1 (p.add 1) fun (x_1 : ByteArray) =>
     mlk .string s (.string x_1) h_1 fun r => as1 .bool (r.getD (.bool false)) fun y =>
      k y h_1)
def assign_set_arg_a : Ann := (.seq .leaf (.join [(4, .bool)] [] .leaf .leaf))
theorem assign_set_arg_eq (s : Option Nat) (a : Array Value) (h : Heap) (K : Value → Heap → Prop) : assign_set_arg s a h K = fnW Tryd.prog ty assign_set_arg_a (bodyOf Tryd.f57) [.tmp 4] [.map s, .agg a] h K := by kernel_rfl
theorem assign_set_arg_of {s : Option Nat} {a : Array Value} {h : Heap} {K : Value → Heap → Prop} (hw : assign_set_arg s a h K) : ACalls Tryd.prog F_assign_set_arg [.map s, .agg a] h K :=
  calls_sound ty_ok mixed assign_set_arg_a (c := bodyOf Tryd.f57) Tryd.func57 (by kernel_rfl) (by kernel_rfl) (by kernel_rfl) (Nat.le_of_ble_eq_true rfl) (by rw [assign_set_arg_eq] at hw; exact hw)

/-- lateen/assign.leads -/
def assign_leads (f : Array Value) (fromv : ByteArray) (tov : ByteArray) (h : Heap) (K : Value → Heap → Prop) : Prop :=
  new 25 f h fun p h_1 =>
  ld .sl h_1 (p.add 4) fun (x : Sl) =>
  loopW (fun _ (t : Int) h_2 next =>
    ifB (decide (t < (x.len : Int)))
     (idx 9 x t fun p_1 =>
    ld (.agg 9) h_2 p_1 fun (x_1 : Array Value) =>
    new 50 #[.string ⟨#[]⟩, .slice none 0 0, .slice none 0 0, .int .i64 0, .int .i64 0, .string ⟨#[]⟩, .int .i64 0, .slice none 0 0, .int .i64 0] h_2 fun p_2 h_3 =>
    x_1.size = 9 ∧ st x_1.toList h_3 p_2 fun h_4 =>
    ld .str h_4 (p_2.add 0) fun (x_2 : ByteArray) =>
    ifB (x_2.toList == fromv.toList)
     (ld .sl h_4 ((p_2.add 3).add 4) fun (x_3 : Sl) =>
     ACalls Tryd.prog F_slices_Contains_1 [x_3.v, .string tov] h_4 fun v h_5 => as1 .bool v fun r =>
     K (.bool r) h_5)
     (ar .i64 (t + 1) fun n =>
    next n h_4))
     (K (.bool false) h_2)) 0 h_1
def assign_leads_a : Ann := (.seq .leaf (.seq (.seq .leaf (.block (.loop [(12, .int .i64)] [1, 2, 10, 11] (.seq .leaf (.seq (.cond .leaf .leaf) (.seq (.block (.seq .leaf (.seq .leaf (.cond (.seq .leaf .leaf) .leaf)))) .leaf)))))) (.seq .leaf .leaf)))
theorem assign_leads_eq (f : Array Value) (fromv : ByteArray) (tov : ByteArray) (h : Heap) (K : Value → Heap → Prop) : assign_leads f fromv tov h K = fnW Tryd.prog ty assign_leads_a (bodyOf Tryd.f58) [.tmp 6] [.agg f, .string fromv, .string tov] h K := by kernel_rfl
theorem assign_leads_of {f : Array Value} {fromv : ByteArray} {tov : ByteArray} {h : Heap} {K : Value → Heap → Prop} (hw : assign_leads f fromv tov h K) : ACalls Tryd.prog F_assign_leads [.agg f, .string fromv, .string tov] h K :=
  calls_sound ty_ok mixed assign_leads_a (c := bodyOf Tryd.f58) Tryd.func58 (by kernel_rfl) (by kernel_rfl) (by kernel_rfl) (Nat.le_of_ble_eq_true rfl) (by rw [assign_leads_eq] at hw; exact hw)

/-- lateen/shape.Place -/
def shape_Place (f : Array Value) (name : ByteArray) (h : Heap) (K : Value → Heap → Prop) : Prop :=
  new 25 f h fun p h_1 =>
  ld .sl h_1 (p.add 4) fun (x : Sl) =>
  loopW (fun _ (t : Int) h_2 next =>
    ifB (decide (t < (x.len : Int)))
     (idx 9 x t fun p_1 =>
    ld (.agg 9) h_2 p_1 fun (x_1 : Array Value) =>
    new 50 #[.string ⟨#[]⟩, .slice none 0 0, .slice none 0 0, .int .i64 0, .int .i64 0, .string ⟨#[]⟩, .int .i64 0, .slice none 0 0, .int .i64 0] h_2 fun p_2 h_3 =>
    x_1.size = 9 ∧ st x_1.toList h_3 p_2 fun h_4 =>
    ld .str h_4 (p_2.add 0) fun (x_2 : ByteArray) =>
    ifB (x_2.toList == name.toList)
     (K (.tuple #[.int .i64 t, .bool true]) h_4)
     (ar .i64 (t + 1) fun n =>
    next n h_4))
     (K (.tuple #[.int .i64 0, .bool false]) h_2)) 0 h_1
def shape_Place_a : Ann := (.seq .leaf (.seq (.seq .leaf (.block (.loop [(11, .int .i64)] [1, 9, 10] (.seq .leaf (.seq (.cond .leaf .leaf) (.seq (.block (.seq .leaf (.seq .leaf (.cond (.seq .leaf .leaf) .leaf)))) .leaf)))))) (.seq .leaf .leaf)))
theorem shape_Place_eq (f : Array Value) (name : ByteArray) (h : Heap) (K : Value → Heap → Prop) : shape_Place f name h K = fnW Tryd.prog ty shape_Place_a (bodyOf Tryd.f59) [.tmp 4, .tmp 5] [.agg f, .string name] h K := by kernel_rfl
theorem shape_Place_of {f : Array Value} {name : ByteArray} {h : Heap} {K : Value → Heap → Prop} (hw : shape_Place f name h K) : ACalls Tryd.prog F_shape_Place [.agg f, .string name] h K :=
  calls_sound ty_ok mixed shape_Place_a (c := bodyOf Tryd.f59) Tryd.func59 (by kernel_rfl) (by kernel_rfl) (by kernel_rfl) (Nat.le_of_ble_eq_true rfl) (by rw [shape_Place_eq] at hw; exact hw)

/-- (lateen/live.set).into -/
def live_set_into (s : Option Nat) (b : Array Value) (inv : Option Nat) (fromv : ByteArray) (h : Heap) (K : Value → Heap → Prop) : Prop :=
  new 50 b h fun p h_1 =>
  mkm h_1 fun m h_2 =>
  ld .sl h_2 (p.add 1) fun (x : Sl) =>
  loopW (fun _ (t : Int) h_3 next =>
    ifB (decide (t < (x.len : Int)))
     (idx 2 x t fun p_1 =>
    ld (.agg 2) h_3 p_1 fun (x_1 : Array Value) =>
    new 64 #[.string ⟨#[]⟩, .slice none 0 0] h_3 fun p_2 h_4 =>
    x_1.size = 2 ∧ st x_1.toList h_4 p_2 fun h_5 =>
    ld .str h_5 (p_2.add 0) fun (x_2 : ByteArray) =>
    mup .string m (.string x_2) (.bool true) h_5 fun h_6 =>
    ld .sl h_6 (p_2.add 1) fun (x_3 : Sl) =>
    loopW (fun _ (t_1 : Int) h_7 next_1 =>
      ifB (decide (t_1 < (x_3.len : Int)))
       (joinW (fun _ (_ : Unit) h_8 =>
        ar .i64 (t_1 + 1) fun n =>
        next_1 n h_8) fun k =>
      idx 4 x_3 t_1 fun p_3 =>
      ld (.agg 4) h_7 p_3 fun (x_4 : Array Value) =>
      new 66 #[.string ⟨#[]⟩, .int .i64 0, .string ⟨#[]⟩, .int .i64 0] h_7 fun p_4 h_9 =>
      x_4.size = 4 ∧ st x_4.toList h_9 p_4 fun h_10 =>
      ld .str h_10 (p_4.add 0) fun (x_5 : ByteArray) =>
      ifB (x_5.toList == fromv.toList)
       (ld (.agg 3) h_10 (p_4.add 1) fun (x_6 : Array Value) =>
       ACalls Tryd.prog F_live_set_arg [.map s, .agg x_6] h_10 fun v h_11 => as0 v (
       k () h_11))
       (k () h_10))
       (ar .i64 (t + 1) fun n_1 =>
    next n_1 h_7)) 0 h_6)
     (rng inv h_3 fun r h_12 =>
  loopW (fun _ (_ : Unit) h_13 next_2 =>
    nxt r h_13
     (K (.tuple #[]) h_13) fun _ _ h_14 =>
    ent r h_14 fun key_1 _ =>
    mlk .string m (key_1) h_14 fun r_1 => as1 .bool (r_1.getD (.bool false)) fun y =>
    ifB (!y)
     (mup .string s (key_1) (.bool true) h_14 fun h_15 =>
     next_2 () h_15)
     (next_2 () h_14)) () h_12)) 0 h_2
def live_set_into_a : Ann := (.seq .leaf (.seq .leaf (.seq (.seq .leaf (.block (.loop [(18, .int .i64)] [0, 2, 3, 8, 16, 17] (.seq .leaf (.seq (.cond .leaf .leaf) (.seq (.block (.seq .leaf (.seq .leaf (.seq .leaf (.block (.loop [(28, .int .i64)] [0, 2, 3, 8, 16, 17, 18, 26, 27] (.seq .leaf (.seq (.cond .leaf .leaf) (.join [] [0, 2, 3, 8, 16, 17, 18, 26, 27, 28] (.block (.seq .leaf (.seq .leaf (.cond .leaf .leaf)))) .leaf))))))))) .leaf)))))) (.seq .leaf (.block (.loop [] [0, 8, 43] (.seq .leaf (.seq (.cond .leaf .leaf) (.block (.seq .leaf (.seq .leaf (.cond .leaf .leaf))))))))))))
theorem live_set_into_eq (s : Option Nat) (b : Array Value) (inv : Option Nat) (fromv : ByteArray) (h : Heap) (K : Value → Heap → Prop) : live_set_into s b inv fromv h K = fnW Tryd.prog ty live_set_into_a (bodyOf Tryd.f60) [] [.map s, .agg b, .map inv, .string fromv] h K := by kernel_rfl
theorem live_set_into_of {s : Option Nat} {b : Array Value} {inv : Option Nat} {fromv : ByteArray} {h : Heap} {K : Value → Heap → Prop} (hw : live_set_into s b inv fromv h K) : ACalls Tryd.prog F_live_set_into [.map s, .agg b, .map inv, .string fromv] h K :=
  calls_sound ty_ok mixed live_set_into_a (c := bodyOf Tryd.f60) Tryd.func60 (by kernel_rfl) (by kernel_rfl) (by kernel_rfl) (Nat.le_of_ble_eq_true rfl) (by rw [live_set_into_eq] at hw; exact hw)

/-- (lateen/live.set).arg -/
def live_set_arg (s : Option Nat) (a : Array Value) (h : Heap) (K : Value → Heap → Prop) : Prop :=
  new 38 a h fun p h_1 =>
  ld (.int .i64) h_1 (p.add 0) fun (x : Int) =>
  ifB (x == 1)
   (ld .str h_1 (p.add 1) fun (x_1 : ByteArray) =>
   mup .string s (.string x_1) (.bool true) h_1 fun h_2 =>
   K (.tuple #[]) h_2)
   (K (.tuple #[]) h_1)
def live_set_arg_a : Ann := (.seq .leaf (.seq .leaf (.cond .leaf .leaf)))
theorem live_set_arg_eq (s : Option Nat) (a : Array Value) (h : Heap) (K : Value → Heap → Prop) : live_set_arg s a h K = fnW Tryd.prog ty live_set_arg_a (bodyOf Tryd.f61) [] [.map s, .agg a] h K := by kernel_rfl
theorem live_set_arg_of {s : Option Nat} {a : Array Value} {h : Heap} {K : Value → Heap → Prop} (hw : live_set_arg s a h K) : ACalls Tryd.prog F_live_set_arg [.map s, .agg a] h K :=
  calls_sound ty_ok mixed live_set_arg_a (c := bodyOf Tryd.f61) Tryd.func61 (by kernel_rfl) (by kernel_rfl) (by kernel_rfl) (Nat.le_of_ble_eq_true rfl) (by rw [live_set_arg_eq] at hw; exact hw)

/-- (lateen/live.set).over -/
def live_set_over (s : Option Nat) (i : Array Value) (h : Heap) (K : Value → Heap → Prop) : Prop :=
  new 43 i h fun p h_1 =>
  joinW (fun _ (_ : Unit) h_2 =>
    ld (.agg 6) h_2 p fun (x : Array Value) =>
    ACalls Tryd.prog F_live_set_instr [.map s, .agg x] h_2 fun v h_3 => as0 v (
    K (.tuple #[]) h_3)) fun k =>
  ld .str h_1 (p.add 1) fun (x_1 : ByteArray) =>
  ifB (!(x_1.toList == (⟨#[]⟩ : ByteArray).toList))
   (ld .str h_1 (p.add 1) fun (x_2 : ByteArray) =>
   mdl .string s (.string x_2) h_1 fun h_4 =>
   k () h_4)
   (k () h_1)
def live_set_over_a : Ann := (.seq .leaf (.join [] [0, 3] (.seq .leaf (.cond .leaf .leaf)) .leaf))
theorem live_set_over_eq (s : Option Nat) (i : Array Value) (h : Heap) (K : Value → Heap → Prop) : live_set_over s i h K = fnW Tryd.prog ty live_set_over_a (bodyOf Tryd.f62) [] [.map s, .agg i] h K := by kernel_rfl
theorem live_set_over_of {s : Option Nat} {i : Array Value} {h : Heap} {K : Value → Heap → Prop} (hw : live_set_over s i h K) : ACalls Tryd.prog F_live_set_over [.map s, .agg i] h K :=
  calls_sound ty_ok mixed live_set_over_a (c := bodyOf Tryd.f62) Tryd.func62 (by kernel_rfl) (by kernel_rfl) (by kernel_rfl) (Nat.le_of_ble_eq_true rfl) (by rw [live_set_over_eq] at hw; exact hw)

/-- lateen/lateenref06.countInstr -/
def lateenref06_countInstr (x : Array Value) (most : Int) (h : Heap) (K : Value → Heap → Prop) : Prop :=
  new 43 x h fun p h_1 =>
  joinW (fun _ (t : Bool) h_2 =>
    ifB t
     (ar .i64 (most + 1) fun n =>
     K (.int .i64 n) h_2)
     (ld .str h_2 (p.add 1) fun (x_1 : ByteArray) =>
  ar .i64 (1 + (x_1.size : Int)) fun n_1 =>
  ld .sl h_2 (p.add 4) fun (x_2 : Sl) =>
  ar .i64 (n_1 + (x_2.len : Int)) fun n_2 =>
  ld .sl h_2 (p.add 5) fun (x_3 : Sl) =>
  ar .i64 (n_2 + (x_3.len : Int)) fun n_3 =>
  joinW (fun _ (n_4 : Int) h_3 =>
    joinW (fun _ (n_5 : Int) h_4 =>
      loopW (fun _ (q_n_6 : Int × Int) h_5 next =>
        joinW (fun _ (t_1 : Bool) h_6 =>
          ifB t_1
           (ld .sl h_6 (p.add 4) fun (x_4 : Sl) =>
        idx 4 x_4 q_n_6.2 fun p_1 =>
        ld .str h_6 (p_1.add 0) fun (x_5 : ByteArray) =>
        ar .i64 (q_n_6.1 + (x_5.size : Int)) fun n_7 =>
        joinW (fun _ (n_8 : Int) h_7 =>
          loopW (fun _ (q_n_9 : Int × Int) h_8 next_1 =>
            joinW (fun _ (t_2 : Bool) h_9 =>
              ifB t_2
               (joinW (fun _ (n_10 : Int) h_10 =>
              ar .i64 (q_n_9.2 + 1) fun n_11 =>
              next_1 (n_10, n_11) h_10) fun k_7 =>
            ar .i64 (q_n_9.1 + 1) fun n_12 =>
            ld .sl h_9 (p.add 4) fun (x_6 : Sl) =>
            idx 4 x_6 q_n_6.2 fun p_2 =>
            ld .sl h_9 (p_2.add 3) fun (x_7 : Sl) =>
            idx 4 x_7 q_n_9.2 fun p_3 =>
            ld .str h_9 (p_3.add 0) fun (x_8 : ByteArray) =>
            ar .i64 (n_12 + (x_8.size : Int)) fun n_13 =>
            ifB (decide (n_13 ≤ most))
             (ld .sl h_9 (p.add 4) fun (x_9 : Sl) =>
             idx 4 x_9 q_n_6.2 fun p_4 =>
             ld .sl h_9 (p_4.add 3) fun (x_10 : Sl) =>
             idx 4 x_10 q_n_9.2 fun p_5 =>
             ld .str h_9 ((p_5.add 1).add 1) fun (x_11 : ByteArray) =>
             ar .i64 (n_13 + (x_11.size : Int)) fun n_14 =>
             k_7 n_14 h_9)
             (k_7 n_13 h_9))
               (ar .i64 (q_n_6.2 + 1) fun n_15 =>
        next (q_n_9.1, n_15) h_9)) fun k_6 =>
            ld .sl h_8 (p.add 4) fun (x_12 : Sl) =>
            idx 4 x_12 q_n_6.2 fun p_6 =>
            ld .sl h_8 (p_6.add 3) fun (x_13 : Sl) =>
            ifB (decide (q_n_9.2 < (x_13.len : Int)))
             (k_6 (decide (q_n_9.1 ≤ most)) h_8)
             (k_6 false h_8)) (n_8, 0) h_7) fun k_4 =>
        ifB (decide (n_7 ≤ most))
         (ld .sl h_6 (p.add 4) fun (x_14 : Sl) =>
         idx 4 x_14 q_n_6.2 fun p_7 =>
         ld .str h_6 (p_7.add 1) fun (x_15 : ByteArray) =>
         ar .i64 (n_7 + (x_15.size : Int)) fun n_16 =>
         k_4 n_16 h_6)
         (k_4 n_7 h_6))
           (loopW (fun _ (q_n_17 : Int × Int) h_11 next_2 =>
        joinW (fun _ (t_3 : Bool) h_12 =>
          ifB t_3
           (joinW (fun _ (n_18 : Int) h_13 =>
          ar .i64 (q_n_17.2 + 1) fun n_19 =>
          next_2 (n_18, n_19) h_13) fun k_9 =>
        ld .sl h_12 (p.add 5) fun (x_16 : Sl) =>
        idx 2 x_16 q_n_17.2 fun p_8 =>
        ld .str h_12 (p_8.add 0) fun (x_17 : ByteArray) =>
        ar .i64 (q_n_17.1 + (x_17.size : Int)) fun n_20 =>
        ifB (decide (n_20 ≤ most))
         (ld .sl h_12 (p.add 5) fun (x_18 : Sl) =>
         idx 2 x_18 q_n_17.2 fun p_9 =>
         ld .sl h_12 (p_9.add 1) fun (x_19 : Sl) =>
         ACalls Tryd.prog F_lateenref06_countArgs [x_19.v, .int .i64 most] h_12 fun v h_14 => as1 (.int .i64) v fun r =>
         ar .i64 (n_20 + r) fun n_21 =>
         k_9 n_21 h_14)
         (k_9 n_20 h_12))
           (K (.int .i64 q_n_17.1) h_12)) fun k_8 =>
        ld .sl h_11 (p.add 5) fun (x_20 : Sl) =>
        ifB (decide (q_n_17.2 < (x_20.len : Int)))
         (k_8 (decide (q_n_17.1 ≤ most)) h_11)
         (k_8 false h_11)) (q_n_6.1, 0) h_6)) fun k_3 =>
        ld .sl h_5 (p.add 4) fun (x_21 : Sl) =>
        ifB (decide (q_n_6.2 < (x_21.len : Int)))
         (k_3 (decide (q_n_6.1 ≤ most)) h_5)
         (k_3 false h_5)) (n_5, 0) h_4) fun k_2 =>
    ifB (decide (n_4 ≤ most))
     (ld .sl h_3 (p.add 3) fun (x_22 : Sl) =>
     ACalls Tryd.prog F_lateenref06_countArgs [x_22.v, .int .i64 most] h_3 fun v_1 h_15 => as1 (.int .i64) v_1 fun r_1 =>
     ar .i64 (n_4 + r_1) fun n_22 =>
     k_2 n_22 h_15)
     (k_2 n_4 h_3)) fun k_1 =>
  ifB (decide (n_3 ≤ most))
   (ld .str h_2 (p.add 2) fun (x_23 : ByteArray) =>
   ar .i64 (n_3 + (x_23.size : Int)) fun n_23 =>
   k_1 n_23 h_2)
   (k_1 n_3 h_2))) fun k =>
  ld .sl h_1 (p.add 4) fun (x_24 : Sl) =>
  ifB (decide ((x_24.len : Int) > most))
   (k true h_1)
   (ld .sl h_1 (p.add 5) fun (x_25 : Sl) =>
    k (decide ((x_25.len : Int) > most)) h_1)
def lateenref06_countInstr_a : Ann := (.seq .leaf (.seq (.join [(20, .bool)] [1, 2] .leaf (.cond (.seq .leaf .leaf) .leaf)) (.seq .leaf (.join [(5, .int .i64)] [1, 2] (.seq .leaf (.cond .leaf .leaf)) (.join [(5, .int .i64)] [1, 2] (.seq .leaf (.cond .leaf .leaf)) (.seq (.seq .leaf (.block (.loop [(5, .int .i64), (6, .int .i64)] [1, 2] (.seq (.join [(61, .bool)] [1, 2, 5, 6] .leaf (.cond .leaf .leaf)) (.seq (.block (.seq .leaf (.join [(5, .int .i64)] [1, 2, 6] (.seq .leaf (.cond .leaf .leaf)) (.seq .leaf (.block (.loop [(5, .int .i64), (7, .int .i64)] [1, 2, 6] (.seq (.join [(98, .bool)] [1, 2, 5, 6, 7] .leaf (.cond .leaf .leaf)) (.join [(5, .int .i64)] [1, 2, 6, 7] (.block (.seq .leaf (.seq .leaf (.cond .leaf .leaf)))) .leaf)))))))) .leaf))))) (.seq (.seq .leaf (.block (.loop [(5, .int .i64), (8, .int .i64)] [1, 2] (.seq (.join [(141, .bool)] [1, 2, 5, 8] .leaf (.cond .leaf .leaf)) (.join [(5, .int .i64)] [1, 2, 8] (.block (.seq .leaf (.seq .leaf (.cond .leaf .leaf)))) .leaf))))) (.seq .leaf .leaf))))))))
theorem lateenref06_countInstr_eq (x : Array Value) (most : Int) (h : Heap) (K : Value → Heap → Prop) : lateenref06_countInstr x most h K = fnW Tryd.prog ty lateenref06_countInstr_a (bodyOf Tryd.f63) [.tmp 4] [.agg x, .int .i64 most] h K := by kernel_rfl
theorem lateenref06_countInstr_of {x : Array Value} {most : Int} {h : Heap} {K : Value → Heap → Prop} (hw : lateenref06_countInstr x most h K) : ACalls Tryd.prog F_lateenref06_countInstr [.agg x, .int .i64 most] h K :=
  calls_sound ty_ok mixed lateenref06_countInstr_a (c := bodyOf Tryd.f63) Tryd.func63 (by kernel_rfl) (by kernel_rfl) (by kernel_rfl) (Nat.le_of_ble_eq_true rfl) (by rw [lateenref06_countInstr_eq] at hw; exact hw)

/-- lateen/lateenref08.Leads -/
def lateenref08_Leads (f : Array Value) (fromv : Int) (tov : Int) (h : Heap) (K : Value → Heap → Prop) : Prop :=
  new 25 f h fun p h_1 =>
  loopW (fun _ (i : Int) h_2 next =>
    ld .sl h_2 (p.add 4) fun (x : Sl) =>
    idx 9 x fromv fun p_1 =>
    ld .sl h_2 ((p_1.add 3).add 4) fun (x_1 : Sl) =>
    ifB (decide (i < (x_1.len : Int)))
     (ld (.agg 5) h_2 p fun (x_2 : Array Value) =>
    ld .sl h_2 (p.add 4) fun (x_3 : Sl) =>
    idx 9 x_3 fromv fun p_2 =>
    ld .sl h_2 ((p_2.add 3).add 4) fun (x_4 : Sl) =>
    idx 1 x_4 i fun p_3 =>
    ld .str h_2 p_3 fun (x_5 : ByteArray) =>
    ACalls Tryd.prog F_lateenref08_Place [.agg x_2, .string x_5] h_2 fun v h_3 => as2 (.int .i64) .bool v fun r r_1 =>
    hExt h_2 h_3 ∧ joinW (fun _ (t : Bool) h_4 =>
      ifB t
       (K (.bool true) h_4)
       (ar .i64 (i + 1) fun n =>
    next n h_4)) fun k =>
    ifB r_1
     (k (r == tov) h_3)
     (k false h_3))
     (K (.bool false) h_2)) 0 h_1
def lateenref08_Leads_a : Ann := (.seq .leaf (.seq (.seq .leaf (.block (.loop [(7, .int .i64)] [1, 2, 3] (.seq (.seq .leaf (.cond .leaf .leaf)) (.seq (.block (.seq .based (.join [(42, .bool)] [1, 2, 3, 7] .leaf (.cond (.seq .leaf .leaf) .leaf)))) .leaf))))) (.seq .leaf .leaf)))
theorem lateenref08_Leads_eq (f : Array Value) (fromv : Int) (tov : Int) (h : Heap) (K : Value → Heap → Prop) : lateenref08_Leads f fromv tov h K = fnW Tryd.prog ty lateenref08_Leads_a (bodyOf Tryd.f64) [.tmp 6] [.agg f, .int .i64 fromv, .int .i64 tov] h K := by kernel_rfl
theorem lateenref08_Leads_of {f : Array Value} {fromv : Int} {tov : Int} {h : Heap} {K : Value → Heap → Prop} (hw : lateenref08_Leads f fromv tov h K) : ACalls Tryd.prog F_lateenref08_Leads [.agg f, .int .i64 fromv, .int .i64 tov] h K :=
  calls_sound ty_ok mixed lateenref08_Leads_a (c := bodyOf Tryd.f64) Tryd.func64 (by kernel_rfl) (by kernel_rfl) (by kernel_rfl) (Nat.le_of_ble_eq_true rfl) (by rw [lateenref08_Leads_eq] at hw; exact hw)

/-- lateen/lateenref03.Name -/
def lateenref03_Name (s : ByteArray) (h : Heap) (K : Value → Heap → Prop) : Prop :=
  loopW (fun _ (i : Int) h_1 next =>
    ifB (decide (i < (s.size : Int)))
     (idxS s i fun c =>
    joinW (fun _ (number : Bool) h_2 =>
      joinW (fun _ (t : Bool) h_3 =>
        ifB t
         (K (.bool false) h_3)
         (ar .i64 (i + 1) fun n =>
    next n h_3)) fun k_1 =>
      ifB number
       (ifB (!(decide (i > 0)))
         (ifB (c != 95)
           (ifB (decide (c < 65))
              (ifB (decide (c < 97))
                    (k_1 true h_2)
                    (k_1 (decide (c > 122)) h_2))
              (ifB (decide (c > 90))
                 (ifB (decide (c < 97))
                    (k_1 true h_2)
                    (k_1 (decide (c > 122)) h_2))
                 (k_1 false h_2)))
           (k_1 false h_2))
         (k_1 false h_2))
       (ifB (c != 95)
           (ifB (decide (c < 65))
              (ifB (decide (c < 97))
                    (k_1 true h_2)
                    (k_1 (decide (c > 122)) h_2))
              (ifB (decide (c > 90))
                 (ifB (decide (c < 97))
                    (k_1 true h_2)
                    (k_1 (decide (c > 122)) h_2))
                 (k_1 false h_2)))
           (k_1 false h_2))) fun k =>
    ifB (decide (c ≥ 48))
     (k (decide (c ≤ 57)) h_1)
     (k false h_1))
     (joinW (fun _ (t_1 : Bool) h_4 =>
    K (.bool t_1) h_4) fun k_2 =>
  ifB (decide ((s.size : Int) ≥ 1))
   (ifB (decide ((s.size : Int) ≤ 16))
      (ifB (!(s.toList == (⟨#[110, 117, 108, 108]⟩ : ByteArray).toList))
        (ifB (!(s.toList == (⟨#[105, 110, 116]⟩ : ByteArray).toList))
          (k_2 (!(s.toList == (⟨#[102, 108, 111, 97, 116]⟩ : ByteArray).toList)) h_1)
          (k_2 false h_1))
        (k_2 false h_1))
      (k_2 false h_1))
   (k_2 false h_1))) 0 h
def lateenref03_Name_a : Ann := (.seq .leaf (.seq (.seq .leaf (.block (.loop [(3, .int .i64)] [0] (.seq (.seq .leaf (.cond .leaf .leaf)) (.seq (.block (.seq .leaf (.join [(5, .bool)] [0, 3, 4] .leaf (.join [(46, .bool)] [0, 3] .leaf (.cond (.seq .leaf .leaf) .leaf))))) .leaf))))) (.join [(2, .bool)] [] .leaf .leaf)))
theorem lateenref03_Name_eq (s : ByteArray) (h : Heap) (K : Value → Heap → Prop) : lateenref03_Name s h K = fnW Tryd.prog ty lateenref03_Name_a (bodyOf Tryd.f65) [.tmp 2] [.string s] h K := by kernel_rfl
theorem lateenref03_Name_of {s : ByteArray} {h : Heap} {K : Value → Heap → Prop} (hw : lateenref03_Name s h K) : ACalls Tryd.prog F_lateenref03_Name [.string s] h K :=
  calls_sound ty_ok mixed lateenref03_Name_a (c := bodyOf Tryd.f65) Tryd.func65 (by kernel_rfl) (by kernel_rfl) (by kernel_rfl) (Nat.le_of_ble_eq_true rfl) (by rw [lateenref03_Name_eq] at hw; exact hw)

/-- lateen/lateenref02.Plain -/
def lateenref02_Plain (n : Int) (h : Heap) (K : Value → Heap → Prop) : Prop :=
  ACalls Tryd.prog F_lateenref02_IsNan [.int .i64 n] h fun v h_1 => as1 .bool v fun r =>
  ifB r
   (K (.int .i64 9221120237041090560) h_1)
   (K (.int .i64 n) h_1)
def lateenref02_Plain_a : Ann := (.seq .leaf (.seq (.seq .leaf (.cond (.seq .leaf .leaf) .leaf)) (.seq .leaf .leaf)))
theorem lateenref02_Plain_eq (n : Int) (h : Heap) (K : Value → Heap → Prop) : lateenref02_Plain n h K = fnW Tryd.prog ty lateenref02_Plain_a (bodyOf Tryd.f66) [.tmp 2] [.int .i64 n] h K := by kernel_rfl
theorem lateenref02_Plain_of {n : Int} {h : Heap} {K : Value → Heap → Prop} (hw : lateenref02_Plain n h K) : ACalls Tryd.prog F_lateenref02_Plain [.int .i64 n] h K :=
  calls_sound ty_ok mixed lateenref02_Plain_a (c := bodyOf Tryd.f66) Tryd.func66 (by kernel_rfl) (by kernel_rfl) (by kernel_rfl) (Nat.le_of_ble_eq_true rfl) (by rw [lateenref02_Plain_eq] at hw; exact hw)

/-- maps.Keys[lateen/live.set,string,bool]$1 -/
def maps_Keys_live_set_string_bool__1 (yield : Value) (p : Addr) (h : Heap) (K : Value → Heap → Prop) : Prop :=
  ld .map h p fun (x : Option Nat) =>
  rng x h fun r h_1 =>
  loopW (fun _ (_ : Unit) h_2 next =>
    nxt r h_2
     (K (.tuple #[]) h_2) fun _ _ h_3 =>
    ent r h_3 fun key_1 _ =>
    callV Tryd.prog yield [key_1] h_3 fun v h_4 => as1 .bool v fun r_1 =>
    ifB (!r_1)
     (K (.tuple #[]) h_4)
     (next () h_4)) () h_1
def maps_Keys_live_set_string_bool__1_a : Ann := (.seq .leaf (.block (.loop [] [0, 5] (.seq .leaf (.seq (.cond .leaf .leaf) (.block (.seq .leaf (.seq .leaf (.cond .leaf .leaf)))))))))
theorem maps_Keys_live_set_string_bool__1_eq (yield : Value) (p : Addr) (h : Heap) (K : Value → Heap → Prop) : maps_Keys_live_set_string_bool__1 yield p h K = fnW Tryd.prog ty maps_Keys_live_set_string_bool__1_a (bodyOf Tryd.f67) [] [yield, .pointer (some p)] h K := by kernel_rfl
theorem maps_Keys_live_set_string_bool__1_of {yield : Value} {p : Addr} {h : Heap} {K : Value → Heap → Prop} (hw : maps_Keys_live_set_string_bool__1 yield p h K) : ACalls Tryd.prog F_maps_Keys_live_set_string_bool__1 [yield, .pointer (some p)] h K :=
  calls_sound ty_ok mixed maps_Keys_live_set_string_bool__1_a (c := bodyOf Tryd.f67) Tryd.func67 (by kernel_rfl) (by kernel_rfl) (by kernel_rfl) (Nat.le_of_ble_eq_true rfl) (by rw [maps_Keys_live_set_string_bool__1_eq] at hw; exact hw)

/-- slices.Contains[[]int,int] -/
def slices_Contains_0 (s : Sl) (v : Int) (h : Heap) (K : Value → Heap → Prop) : Prop :=
  ACalls Tryd.prog F_slices_Index_0 [s.v, .int .i64 v] h fun v_1 h_1 => as1 (.int .i64) v_1 fun r =>
  K (.bool (decide (r ≥ 0))) h_1
def slices_Contains_0_a : Ann := (.seq .leaf (.seq .leaf .leaf))
theorem slices_Contains_0_eq (s : Sl) (v : Int) (h : Heap) (K : Value → Heap → Prop) : slices_Contains_0 s v h K = fnW Tryd.prog ty slices_Contains_0_a (bodyOf Tryd.f68) [.tmp 4] [s.v, .int .i64 v] h K := by kernel_rfl
theorem slices_Contains_0_of {s : Sl} {v : Int} {h : Heap} {K : Value → Heap → Prop} (hw : slices_Contains_0 s v h K) : ACalls Tryd.prog F_slices_Contains_0 [s.v, .int .i64 v] h K :=
  calls_sound ty_ok mixed slices_Contains_0_a (c := bodyOf Tryd.f68) Tryd.func68 (by kernel_rfl) (by kernel_rfl) (by kernel_rfl) (Nat.le_of_ble_eq_true rfl) (by rw [slices_Contains_0_eq] at hw; exact hw)

/-- lateen/flow.walk -/
def flow_walk (g : Sl) (h : Heap) (K : Value → Heap → Prop) : Prop :=
  (g.len : Int) = (g.len : Int) ∧ mk si_Lbool (g.len : Int) h fun s h_1 =>
  ifB ((g.len : Int) == 0)
   (K (.tuple #[s.v, (⟨none, 0, 0⟩ : Sl).v]) h_1)
   (idx 1 s 0 fun p =>
  st [.bool true] h_1 p fun h_2 =>
  bst [(0, 1), (1, 1)] #[.int .i64 0, .int .i64 0] [] fun c =>
  bld si_Lflow_step 1 [(0, .agg c)] h_2 fun s_1 h_3 =>
  loopW (fun _ (q_left : Sl × Sl) h_4 next =>
    ifB (decide ((q_left.2.len : Int) > 0))
     (ar .i64 ((q_left.2.len : Int) - 1) fun n =>
    idx 2 q_left.2 n fun p_1 =>
    ld (.int .i64) h_4 (p_1.add 1) fun (x : Int) =>
    ld (.int .i64) h_4 (p_1.add 0) fun (x_1 : Int) =>
    idx 1 g x_1 fun p_2 =>
    ld .sl h_4 p_2 fun (x_2 : Sl) =>
    ifB (x == (x_2.len : Int))
     (ld (.int .i64) h_4 (p_1.add 0) fun (x_3 : Int) =>
     bld si_Lint 1 [(0, .int .i64 x_3)] h_4 fun s_2 h_5 =>
     app si_Lint q_left.1 s_2 h_5 fun s_3 h_6 =>
     ar .i64 ((q_left.2.len : Int) - 1) fun n_1 =>
     slc 2 q_left.2 none (some n_1) fun s_4 =>
     next (s_3, s_4) h_6)
     (ld (.int .i64) h_4 (p_1.add 0) fun (x_4 : Int) =>
    idx 1 g x_4 fun p_3 =>
    ld .sl h_4 p_3 fun (x_5 : Sl) =>
    ld (.int .i64) h_4 (p_1.add 1) fun (x_6 : Int) =>
    idx 1 x_5 x_6 fun p_4 =>
    ld (.int .i64) h_4 p_4 fun (x_7 : Int) =>
    ld (.int .i64) h_4 (p_1.add 1) fun (x_8 : Int) =>
    ar .i64 (x_8 + 1) fun n_2 =>
    st [.int .i64 n_2] h_4 (p_1.add 1) fun h_7 =>
    joinW (fun _ (t : Bool) h_8 =>
      ifB t
       (idx 1 s x_7 fun p_5 =>
       st [.bool true] h_8 p_5 fun h_9 =>
       bst [(0, 1), (1, 1)] #[.int .i64 0, .int .i64 0] [(0, .int .i64 x_7)] fun c_1 =>
       bld si_Lflow_step 1 [(0, .agg c_1)] h_9 fun s_5 h_10 =>
       app si_Lflow_step q_left.2 s_5 h_10 fun s_6 h_11 =>
       next (q_left.1, s_6) h_11)
       (next (q_left.1, q_left.2) h_8)) fun k =>
    ifB (decide (x_7 ≥ 0))
     (ifB (decide (x_7 < (g.len : Int)))
         (idx 1 s x_7 fun p_6 =>
           ld .bool h_7 p_6 fun (x_9 : Bool) =>
            k (!x_9) h_7)
         (k false h_7))
     (k false h_7)))
     (K (.tuple #[s.v, q_left.1.v]) h_4)) ((⟨none, 0, 0⟩ : Sl), s_1) h_3)
def flow_walk_a : Ann := (.seq .leaf (.seq .leaf (.seq .leaf (.seq (.seq .leaf (.cond (.seq .leaf .leaf) .leaf)) (.seq .leaf (.seq .leaf (.seq (.block (.loop [(5, .sl), (6, .sl)] [0, 4] (.seq (.seq .leaf (.cond .leaf .leaf)) (.block (.seq .leaf (.seq (.seq .leaf (.cond (.seq .leaf (.seq .leaf .leaf)) .leaf)) (.seq .leaf (.seq .leaf (.join [(88, .bool)] [0, 4, 5, 6, 8] .leaf (.cond (.seq .leaf .leaf) .leaf)))))))))) (.seq .leaf .leaf))))))))
theorem flow_walk_eq (g : Sl) (h : Heap) (K : Value → Heap → Prop) : flow_walk g h K = fnW Tryd.prog ty flow_walk_a (bodyOf Tryd.f69) [.tmp 2, .tmp 3] [g.v] h K := by kernel_rfl
theorem flow_walk_of {g : Sl} {h : Heap} {K : Value → Heap → Prop} (hw : flow_walk g h K) : ACalls Tryd.prog F_flow_walk [g.v] h K :=
  calls_sound ty_ok mixed flow_walk_a (c := bodyOf Tryd.f69) Tryd.func69 (by kernel_rfl) (by kernel_rfl) (by kernel_rfl) (Nat.le_of_ble_eq_true rfl) (by rw [flow_walk_eq] at hw; exact hw)

/-- slices.Reverse[[]int,int] -/
def slices_Reverse (s : Sl) (h : Heap) (K : Value → Heap → Prop) : Prop :=
  ar .i64 ((s.len : Int) - 1) fun n =>
  loopW (fun _ (q_i : Int × Int) h_1 next =>
    ifB (decide (q_i.1 < q_i.2))
     (idx 1 s q_i.2 fun p =>
    ld (.int .i64) h_1 p fun (x : Int) =>
    idx 1 s q_i.1 fun p_1 =>
    ld (.int .i64) h_1 p_1 fun (x_1 : Int) =>
    idx 1 s q_i.1 fun p_2 =>
    st [.int .i64 x] h_1 p_2 fun h_2 =>
    idx 1 s q_i.2 fun p_3 =>
    st [.int .i64 x_1] h_2 p_3 fun h_3 =>
    ar .i64 (q_i.1 + 1) fun n_1 =>
    ar .i64 (q_i.2 - 1) fun n_2 =>
    next (n_1, n_2) h_3)
     (K (.tuple #[]) h_1)) (0, n) h
def slices_Reverse_a : Ann := (.seq .leaf (.block (.loop [(2, .int .i64), (3, .int .i64)] [0] (.seq (.seq .leaf (.cond .leaf .leaf)) (.seq (.block .leaf) .leaf)))))
theorem slices_Reverse_eq (s : Sl) (h : Heap) (K : Value → Heap → Prop) : slices_Reverse s h K = fnW Tryd.prog ty slices_Reverse_a (bodyOf Tryd.f70) [] [s.v] h K := by kernel_rfl
theorem slices_Reverse_of {s : Sl} {h : Heap} {K : Value → Heap → Prop} (hw : slices_Reverse s h K) : ACalls Tryd.prog F_slices_Reverse [s.v] h K :=
  calls_sound ty_ok mixed slices_Reverse_a (c := bodyOf Tryd.f70) Tryd.func70 (by kernel_rfl) (by kernel_rfl) (by kernel_rfl) (Nat.le_of_ble_eq_true rfl) (by rw [slices_Reverse_eq] at hw; exact hw)

/-- (lateen/live.set).instr -/
def live_set_instr (s : Option Nat) (i : Array Value) (h : Heap) (K : Value → Heap → Prop) : Prop :=
  new 43 i h fun p h_1 =>
  ld .sl h_1 (p.add 3) fun (x : Sl) =>
  loopW (fun _ (t : Int) h_2 next =>
    ifB (decide (t < (x.len : Int)))
     (idx 3 x t fun p_1 =>
    ld (.agg 3) h_2 p_1 fun (x_1 : Array Value) =>
    new 38 #[.int .i64 0, .string ⟨#[]⟩, .int .i64 0] h_2 fun p_2 h_3 =>
    x_1.size = 3 ∧ st x_1.toList h_3 p_2 fun h_4 =>
    ld (.agg 3) h_4 p_2 fun (x_2 : Array Value) =>
    ACalls Tryd.prog F_live_set_arg [.map s, .agg x_2] h_4 fun v h_5 => as0 v (
    ar .i64 (t + 1) fun n =>
    next n h_5))
     (ld .sl h_2 (p.add 4) fun (x_3 : Sl) =>
  loopW (fun _ (t_1 : Int) h_6 next_1 =>
    ifB (decide (t_1 < (x_3.len : Int)))
     (idx 4 x_3 t_1 fun p_3 =>
    ld (.agg 4) h_6 p_3 fun (x_4 : Array Value) =>
    new 106 #[.string ⟨#[]⟩, .string ⟨#[]⟩, .int .i64 0, .slice none 0 0] h_6 fun p_4 h_7 =>
    x_4.size = 4 ∧ st x_4.toList h_7 p_4 fun h_8 =>
    ld .sl h_8 (p_4.add 3) fun (x_5 : Sl) =>
    loopW (fun _ (t_2 : Int) h_9 next_2 =>
      ifB (decide (t_2 < (x_5.len : Int)))
       (idx 4 x_5 t_2 fun p_5 =>
      ld (.agg 4) h_9 p_5 fun (x_6 : Array Value) =>
      new 108 #[.string ⟨#[]⟩, .int .i64 0, .string ⟨#[]⟩, .int .i64 0] h_9 fun p_6 h_10 =>
      x_6.size = 4 ∧ st x_6.toList h_10 p_6 fun h_11 =>
      ld (.agg 3) h_11 (p_6.add 1) fun (x_7 : Array Value) =>
      ACalls Tryd.prog F_live_set_arg [.map s, .agg x_7] h_11 fun v_1 h_12 => as0 v_1 (
      ar .i64 (t_2 + 1) fun n_1 =>
      next_2 n_1 h_12))
       (ar .i64 (t_1 + 1) fun n_2 =>
    next_1 n_2 h_9)) 0 h_8)
     (ld .sl h_6 (p.add 5) fun (x_8 : Sl) =>
  loopW (fun _ (t_3 : Int) h_13 next_3 =>
    ifB (decide (t_3 < (x_8.len : Int)))
     (idx 2 x_8 t_3 fun p_7 =>
    ld (.agg 2) h_13 p_7 fun (x_9 : Array Value) =>
    new 110 #[.string ⟨#[]⟩, .slice none 0 0] h_13 fun p_8 h_14 =>
    x_9.size = 2 ∧ st x_9.toList h_14 p_8 fun h_15 =>
    ld .sl h_15 (p_8.add 1) fun (x_10 : Sl) =>
    loopW (fun _ (t_4 : Int) h_16 next_4 =>
      ifB (decide (t_4 < (x_10.len : Int)))
       (idx 3 x_10 t_4 fun p_9 =>
      ld (.agg 3) h_16 p_9 fun (x_11 : Array Value) =>
      new 38 #[.int .i64 0, .string ⟨#[]⟩, .int .i64 0] h_16 fun p_10 h_17 =>
      x_11.size = 3 ∧ st x_11.toList h_17 p_10 fun h_18 =>
      ld (.agg 3) h_18 p_10 fun (x_12 : Array Value) =>
      ACalls Tryd.prog F_live_set_arg [.map s, .agg x_12] h_18 fun v_2 h_19 => as0 v_2 (
      ar .i64 (t_4 + 1) fun n_3 =>
      next_4 n_3 h_19))
       (ar .i64 (t_3 + 1) fun n_4 =>
    next_3 n_4 h_16)) 0 h_15)
     (K (.tuple #[]) h_13)) 0 h_6)) 0 h_2)) 0 h_1
def live_set_instr_a : Ann := (.seq .leaf (.seq (.seq .leaf (.block (.loop [(17, .int .i64)] [0, 3, 15, 16] (.seq .leaf (.seq (.cond .leaf .leaf) (.seq (.block (.seq .leaf .leaf)) .leaf)))))) (.seq (.seq .leaf (.block (.loop [(28, .int .i64)] [0, 3, 26, 27] (.seq .leaf (.seq (.cond .leaf .leaf) (.seq (.block (.seq .leaf (.seq .leaf (.block (.loop [(35, .int .i64)] [0, 3, 26, 27, 28, 33, 34] (.seq .leaf (.seq (.cond .leaf .leaf) (.seq (.block (.seq .leaf .leaf)) .leaf)))))))) .leaf)))))) (.seq .leaf (.block (.loop [(48, .int .i64)] [0, 46, 47] (.seq .leaf (.seq (.cond .leaf .leaf) (.seq (.block (.seq .leaf (.seq .leaf (.block (.loop [(55, .int .i64)] [0, 46, 47, 48, 53, 54] (.seq .leaf (.seq (.cond .leaf .leaf) (.seq (.block (.seq .leaf .leaf)) .leaf)))))))) .leaf)))))))))
theorem live_set_instr_eq (s : Option Nat) (i : Array Value) (h : Heap) (K : Value → Heap → Prop) : live_set_instr s i h K = fnW Tryd.prog ty live_set_instr_a (bodyOf Tryd.f75) [] [.map s, .agg i] h K := by kernel_rfl
theorem live_set_instr_of {s : Option Nat} {i : Array Value} {h : Heap} {K : Value → Heap → Prop} (hw : live_set_instr s i h K) : ACalls Tryd.prog F_live_set_instr [.map s, .agg i] h K :=
  calls_sound ty_ok mixed live_set_instr_a (c := bodyOf Tryd.f75) Tryd.func75 (by kernel_rfl) (by kernel_rfl) (by kernel_rfl) (Nat.le_of_ble_eq_true rfl) (by rw [live_set_instr_eq] at hw; exact hw)

/-- slices.Contains[[]string,string] -/
def slices_Contains_1 (s : Sl) (v : ByteArray) (h : Heap) (K : Value → Heap → Prop) : Prop :=
  ACalls Tryd.prog F_slices_Index_1 [s.v, .string v] h fun v_1 h_1 => as1 (.int .i64) v_1 fun r =>
  K (.bool (decide (r ≥ 0))) h_1
def slices_Contains_1_a : Ann := (.seq .leaf (.seq .leaf .leaf))
theorem slices_Contains_1_eq (s : Sl) (v : ByteArray) (h : Heap) (K : Value → Heap → Prop) : slices_Contains_1 s v h K = fnW Tryd.prog ty slices_Contains_1_a (bodyOf Tryd.f76) [.tmp 4] [s.v, .string v] h K := by kernel_rfl
theorem slices_Contains_1_of {s : Sl} {v : ByteArray} {h : Heap} {K : Value → Heap → Prop} (hw : slices_Contains_1 s v h K) : ACalls Tryd.prog F_slices_Contains_1 [s.v, .string v] h K :=
  calls_sound ty_ok mixed slices_Contains_1_a (c := bodyOf Tryd.f76) Tryd.func76 (by kernel_rfl) (by kernel_rfl) (by kernel_rfl) (Nat.le_of_ble_eq_true rfl) (by rw [slices_Contains_1_eq] at hw; exact hw)

/-- lateen/lateenref06.countArgs -/
def lateenref06_countArgs (l : Sl) (most : Int) (h : Heap) (K : Value → Heap → Prop) : Prop :=
  ifB (decide ((l.len : Int) > most))
   (ar .i64 (most + 1) fun n =>
   K (.int .i64 n) h)
   (loopW (fun _ (q_n_1 : Int × Int) h_1 next =>
    joinW (fun _ (t : Bool) h_2 =>
      ifB t
       (idx 3 l q_n_1.2 fun p =>
    ld .str h_2 (p.add 1) fun (x : ByteArray) =>
    ar .i64 (q_n_1.1 + (x.size : Int)) fun n_2 =>
    ar .i64 (q_n_1.2 + 1) fun n_3 =>
    next (n_2, n_3) h_2)
       (K (.int .i64 q_n_1.1) h_2)) fun k =>
    ifB (decide (q_n_1.2 < (l.len : Int)))
     (k (decide (q_n_1.1 ≤ most)) h_1)
     (k false h_1)) ((l.len : Int), 0) h)
def lateenref06_countArgs_a : Ann := (.seq .leaf (.seq (.seq .leaf (.cond (.seq .leaf .leaf) .leaf)) (.seq .leaf (.seq (.seq .leaf (.block (.loop [(5, .int .i64), (6, .int .i64)] [0, 1] (.seq (.join [(23, .bool)] [0, 1, 5, 6] .leaf (.cond .leaf .leaf)) (.seq (.block .leaf) .leaf))))) (.seq .leaf .leaf)))))
theorem lateenref06_countArgs_eq (l : Sl) (most : Int) (h : Heap) (K : Value → Heap → Prop) : lateenref06_countArgs l most h K = fnW Tryd.prog ty lateenref06_countArgs_a (bodyOf Tryd.f77) [.tmp 4] [l.v, .int .i64 most] h K := by kernel_rfl
theorem lateenref06_countArgs_of {l : Sl} {most : Int} {h : Heap} {K : Value → Heap → Prop} (hw : lateenref06_countArgs l most h K) : ACalls Tryd.prog F_lateenref06_countArgs [l.v, .int .i64 most] h K :=
  calls_sound ty_ok mixed lateenref06_countArgs_a (c := bodyOf Tryd.f77) Tryd.func77 (by kernel_rfl) (by kernel_rfl) (by kernel_rfl) (Nat.le_of_ble_eq_true rfl) (by rw [lateenref06_countArgs_eq] at hw; exact hw)

/-- lateen/lateenref02.IsNan -/
def lateenref02_IsNan (n : Int) (h : Heap) (K : Value → Heap → Prop) : Prop :=
  (9223372036854775808 : Int) ≠ 0 ∧ (K (.bool (decide ((Int.tmod (IntKind.u64.wrap n) 9223372036854775808) > 9218868437227405312))) h)
def lateenref02_IsNan_a : Ann := (.seq .leaf (.seq .leaf (.seq .leaf .leaf)))
theorem lateenref02_IsNan_eq (n : Int) (h : Heap) (K : Value → Heap → Prop) : lateenref02_IsNan n h K = fnW Tryd.prog ty lateenref02_IsNan_a (bodyOf Tryd.f78) [.tmp 2] [.int .i64 n] h K := by kernel_rfl
theorem lateenref02_IsNan_of {n : Int} {h : Heap} {K : Value → Heap → Prop} (hw : lateenref02_IsNan n h K) : ACalls Tryd.prog F_lateenref02_IsNan [.int .i64 n] h K :=
  calls_sound ty_ok mixed lateenref02_IsNan_a (c := bodyOf Tryd.f78) Tryd.func78 (by kernel_rfl) (by kernel_rfl) (by kernel_rfl) (Nat.le_of_ble_eq_true rfl) (by rw [lateenref02_IsNan_eq] at hw; exact hw)

/-- slices.Index[[]int,int] -/
def slices_Index_0 (s : Sl) (v : Int) (h : Heap) (K : Value → Heap → Prop) : Prop :=
  loopW (fun _ (t : Int) h_1 next =>
    ifB (decide (t < (s.len : Int)))
     (idx 1 s t fun p =>
    ld (.int .i64) h_1 p fun (x : Int) =>
    ifB (v == x)
     (K (.int .i64 t) h_1)
     (ar .i64 (t + 1) fun n =>
    next n h_1))
     (K (.int .i64 (-1)) h_1)) 0 h
def slices_Index_0_a : Ann := (.seq .leaf (.seq (.seq .leaf (.block (.loop [(8, .int .i64)] [0, 1, 7] (.seq .leaf (.seq (.cond .leaf .leaf) (.seq (.block (.seq .leaf (.seq .leaf (.cond (.seq .leaf .leaf) .leaf)))) .leaf)))))) (.seq .leaf .leaf)))
theorem slices_Index_0_eq (s : Sl) (v : Int) (h : Heap) (K : Value → Heap → Prop) : slices_Index_0 s v h K = fnW Tryd.prog ty slices_Index_0_a (bodyOf Tryd.f79) [.tmp 4] [s.v, .int .i64 v] h K := by kernel_rfl
theorem slices_Index_0_of {s : Sl} {v : Int} {h : Heap} {K : Value → Heap → Prop} (hw : slices_Index_0 s v h K) : ACalls Tryd.prog F_slices_Index_0 [s.v, .int .i64 v] h K :=
  calls_sound ty_ok mixed slices_Index_0_a (c := bodyOf Tryd.f79) Tryd.func79 (by kernel_rfl) (by kernel_rfl) (by kernel_rfl) (Nat.le_of_ble_eq_true rfl) (by rw [slices_Index_0_eq] at hw; exact hw)

/-- slices.Index[[]string,string] -/
def slices_Index_1 (s : Sl) (v : ByteArray) (h : Heap) (K : Value → Heap → Prop) : Prop :=
  loopW (fun _ (t : Int) h_1 next =>
    ifB (decide (t < (s.len : Int)))
     (idx 1 s t fun p =>
    ld .str h_1 p fun (x : ByteArray) =>
    ifB (v.toList == x.toList)
     (K (.int .i64 t) h_1)
     (ar .i64 (t + 1) fun n =>
    next n h_1))
     (K (.int .i64 (-1)) h_1)) 0 h
def slices_Index_1_a : Ann := (.seq .leaf (.seq (.seq .leaf (.block (.loop [(8, .int .i64)] [0, 1, 7] (.seq .leaf (.seq (.cond .leaf .leaf) (.seq (.block (.seq .leaf (.seq .leaf (.cond (.seq .leaf .leaf) .leaf)))) .leaf)))))) (.seq .leaf .leaf)))
theorem slices_Index_1_eq (s : Sl) (v : ByteArray) (h : Heap) (K : Value → Heap → Prop) : slices_Index_1 s v h K = fnW Tryd.prog ty slices_Index_1_a (bodyOf Tryd.f91) [.tmp 4] [s.v, .string v] h K := by kernel_rfl
theorem slices_Index_1_of {s : Sl} {v : ByteArray} {h : Heap} {K : Value → Heap → Prop} (hw : slices_Index_1 s v h K) : ACalls Tryd.prog F_slices_Index_1 [s.v, .string v] h K :=
  calls_sound ty_ok mixed slices_Index_1_a (c := bodyOf Tryd.f91) Tryd.func91 (by kernel_rfl) (by kernel_rfl) (by kernel_rfl) (Nat.le_of_ble_eq_true rfl) (by rw [slices_Index_1_eq] at hw; exact hw)

end Go.Proofs.YtojdbliehgejbaaDoor
