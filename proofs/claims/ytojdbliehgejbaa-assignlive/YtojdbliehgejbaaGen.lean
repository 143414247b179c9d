/-
  Printed by genfw.py: the functions as Props over the layer, and what ties each to the model.
-/
import Derived.Test.YtojdbliehgejbaaFwSound
import Derived.Test.YtojdbliehgejbaaChecked
namespace Go.Proofs.Ytojdbliehgejbaa
open Go.Fw

def si_Lapi_Arg : SlI := ⟨47, 3, 32, .agg #[.int .i64 0, .string ⟨#[]⟩, .int .i64 0]⟩
def si_Lapi_Frame : SlI := ⟨30, 4, 64, .agg #[.string ⟨#[]⟩, .string ⟨#[]⟩, .int .i64 0, .slice none 0 0]⟩
def si_Lapi_Virt : SlI := ⟨32, 2, 40, .agg #[.string ⟨#[]⟩, .slice none 0 0]⟩
def si_Lapi_Bind : SlI := ⟨72, 4, 48, .agg #[.string ⟨#[]⟩, .int .i64 0, .string ⟨#[]⟩, .int .i64 0]⟩
def si_Lstring : SlI := ⟨9, 1, 16, .string ⟨#[]⟩⟩
def si_Lapi_Var : SlI := ⟨62, 2, 32, .agg #[.string ⟨#[]⟩, .string ⟨#[]⟩]⟩
def si_Lapi_Block : SlI := ⟨51, 9, 136, .agg #[.string ⟨#[]⟩, .slice none 0 0, .slice none 0 0, .int .i64 0, .int .i64 0, .string ⟨#[]⟩, .int .i64 0, .slice none 0 0, .int .i64 0]⟩
def si_LLstring : SlI := ⟨34, 1, 24, .slice none 0 0⟩
def si_Lapi_Phi : SlI := ⟨58, 2, 40, .agg #[.string ⟨#[]⟩, .slice none 0 0]⟩
def si_Lapi_Instr : SlI := ⟨26, 6, 112, .agg #[.int .i64 0, .string ⟨#[]⟩, .string ⟨#[]⟩, .slice none 0 0, .slice none 0 0, .slice none 0 0]⟩
def si_Lapi_In : SlI := ⟨108, 4, 48, .agg #[.string ⟨#[]⟩, .int .i64 0, .string ⟨#[]⟩, .int .i64 0]⟩
def si_Lbool : SlI := ⟨4, 1, 1, .bool false⟩
def si_Llive_set : SlI := ⟨67, 1, 8, .map none⟩
def si_Lassign_set : SlI := ⟨80, 1, 8, .map none⟩
def si_LLint : SlI := ⟨98, 1, 24, .slice none 0 0⟩
def si_Lint : SlI := ⟨3, 1, 8, .int .i64 0⟩
def si_Lflow_step : SlI := ⟨125, 2, 16, .agg #[.int .i64 0, .int .i64 0]⟩
abbrev F_lateenlaw12_LiveUses : FuncId := 3
abbrev F_lateenlaw12_LiveWays : FuncId := 4
abbrev F_lateenlaw13_AssignWays : FuncId := 5
abbrev F_lateenlaw13_AssignMore : FuncId := 6
abbrev F_lateenlaw13_AssignLive : FuncId := 7
abbrev F_lateenlaw12_awake : FuncId := 8
abbrev F_lateenref12_Same : FuncId := 9
abbrev F_live_Uses : FuncId := 10
abbrev F_lateenref12_Uses : FuncId := 11
abbrev F_lateenlaw12_few : FuncId := 12
abbrev F_live_Ins : FuncId := 13
abbrev F_live_At : FuncId := 14
abbrev F_lateenref12_Put : FuncId := 15
abbrev F_lateenref08_Place : FuncId := 16
abbrev F_lateenref12_In : FuncId := 17
abbrev F_lateenlaw13_awake : FuncId := 18
abbrev F_lateenlaw13_few : FuncId := 19
abbrev F_assign_Ins : FuncId := 20
abbrev F_assign_Right : FuncId := 21
abbrev F_lateenref13_Param : FuncId := 22
abbrev F_lateenlaw12_v : FuncId := 23
abbrev F_live_set_instr : FuncId := 24
abbrev F_live_set_names : FuncId := 25
abbrev F_lateenref12_add : FuncId := 26
abbrev F_lateenref06_FewFunc : FuncId := 27
abbrev F_lateenref08_Few : FuncId := 28
abbrev F_lateenref08_Right : FuncId := 29
abbrev F_live_all : FuncId := 30
abbrev F_live_end : FuncId := 31
abbrev F_live_set_back : FuncId := 32
abbrev F_assign_all : FuncId := 33
abbrev F_slices_Sorted : FuncId := 34
abbrev F_maps_Keys_0 : FuncId := 35
abbrev F_assign_set_block : FuncId := 36
abbrev F_assign_set_over : FuncId := 37
abbrev F_assign_phis : FuncId := 38
abbrev F_live_set_arg : FuncId := 39
abbrev F_maps_Keys_1 : FuncId := 40
abbrev F_lateenref06_countVars : FuncId := 41
abbrev F_lateenref06_countBlock : FuncId := 42
abbrev F_lateenref08_Come : FuncId := 43
abbrev F_shape_Place : FuncId := 44
abbrev F_live_set_into : FuncId := 45
abbrev F_live_set_over : FuncId := 46
abbrev F_flow_Of : FuncId := 47
abbrev F_flow_Preds : FuncId := 48
abbrev F_flow_Order : FuncId := 49
abbrev F_assign_params : FuncId := 50
abbrev F_assign_meet : FuncId := 51
abbrev F_assign_set_phis : FuncId := 52
abbrev F_maps_Keys_assign_set_string_bool__1 : FuncId := 55
abbrev F_maps_Clone : FuncId := 56
abbrev F_assign_set_has : FuncId := 57
abbrev F_assign_set_arg : FuncId := 58
abbrev F_assign_leads : FuncId := 59
abbrev F_maps_Keys_live_set_string_bool__1 : FuncId := 60
abbrev F_lateenref06_countInstr : FuncId := 61
abbrev F_lateenref08_Leads : FuncId := 62
abbrev F_slices_Contains_0 : FuncId := 63
abbrev F_flow_walk : FuncId := 64
abbrev F_slices_Reverse : FuncId := 65
abbrev F_slices_Contains_1 : FuncId := 70
abbrev F_lateenref06_countArgs : FuncId := 71
abbrev F_slices_Index_0 : FuncId := 72
abbrev F_slices_Index_1 : FuncId := 84
def ty : Tys :=
  { tk := [(3, .int .i64), (4, .bool), (9, .str), (22, .sl), (23, .sl), (24, .sl), (26, .agg 6), (28, .sl), (30, .agg 4), (32, .agg 2), (34, .sl), (37, .sl), (38, .sl), (40, .agg 5), (44, .sl), (45, .sl), (47, .agg 3), (51, .agg 9), (56, .sl), (58, .agg 2), (62, .agg 2), (67, .map), (72, .agg 4), (80, .map), (98, .sl), (108, .agg 4)]
    sl := [(22, si_Lapi_Arg), (23, si_Lapi_Frame), (24, si_Lapi_Virt), (28, si_Lapi_Bind), (34, si_Lstring), (37, si_Lapi_Var), (38, si_Lapi_Block), (42, si_LLstring), (44, si_Lapi_Phi), (45, si_Lapi_Instr), (56, si_Lapi_In), (60, si_Lbool), (74, si_Llive_set), (78, si_Lassign_set), (95, si_LLint), (98, si_Lint), (126, si_Lflow_step)]
    zs := [(26, .agg #[.int .i64 0, .string ⟨#[]⟩, .string ⟨#[]⟩, .slice none 0 0, .slice none 0 0, .slice none 0 0]), (30, .agg #[.string ⟨#[]⟩, .string ⟨#[]⟩, .int .i64 0, .slice none 0 0]), (32, .agg #[.string ⟨#[]⟩, .slice none 0 0]), (40, .agg #[.string ⟨#[]⟩, .string ⟨#[]⟩, .slice none 0 0, .slice none 0 0, .slice none 0 0]), (47, .agg #[.int .i64 0, .string ⟨#[]⟩, .int .i64 0]), (51, .agg #[.string ⟨#[]⟩, .slice none 0 0, .slice none 0 0, .int .i64 0, .int .i64 0, .string ⟨#[]⟩, .int .i64 0, .slice none 0 0, .int .i64 0]), (58, .agg #[.string ⟨#[]⟩, .slice none 0 0]), (62, .agg #[.string ⟨#[]⟩, .string ⟨#[]⟩]), (72, .agg #[.string ⟨#[]⟩, .int .i64 0, .string ⟨#[]⟩, .int .i64 0]), (108, .agg #[.string ⟨#[]⟩, .int .i64 0, .string ⟨#[]⟩, .int .i64 0])]
    off := [((26, 1), 1), ((26, 2), 2), ((26, 3), 3), ((26, 4), 4), ((26, 5), 5), ((30, 0), 0), ((30, 1), 1), ((30, 3), 3), ((32, 0), 0), ((32, 1), 1), ((40, 0), 0), ((40, 1), 1), ((40, 2), 2), ((40, 3), 3), ((40, 4), 4), ((47, 0), 0), ((47, 1), 1), ((49, 0), 0), ((49, 1), 1), ((49, 2), 4), ((51, 0), 0), ((51, 1), 1), ((51, 2), 2), ((51, 3), 3), ((58, 0), 0), ((58, 1), 1), ((62, 0), 0), ((62, 1), 1), ((72, 0), 0), ((72, 1), 1), ((108, 0), 0), ((108, 1), 1), ((125, 0), 0), ((125, 1), 1)]
    res := [(0, []), (3, [.int .i64]), (4, [.bool]), (22, [.sl]), (34, [.sl]), (42, [.sl]), (45, [.sl]), (47, [.agg 3]), (54, [.int .i64, .bool]), (60, [.sl]), (67, [.map]), (74, [.sl]), (78, [.sl]), (80, [.map]), (83, [.fn]), (95, [.sl]), (98, [.sl]), (114, [.sl, .sl])]
    fns := [8, 9, 10, 11, 12, 13, 14, 15, 16, 17, 18, 19, 20, 21, 22, 23, 24, 25, 26, 27, 28, 29, 30, 31, 32, 33, 34, 35, 36, 37, 38, 39, 40, 41, 42, 43, 44, 45, 46, 47, 48, 49, 50, 51, 52, 56, 57, 58, 59, 61, 62, 63, 64, 65, 70, 71, 72, 84]
    bs := [(26, ([(0, 1), (1, 1), (2, 1), (3, 1), (4, 1), (5, 1)], .agg #[.int .i64 0, .string ⟨#[]⟩, .string ⟨#[]⟩, .slice none 0 0, .slice none 0 0, .slice none 0 0])), (40, ([(0, 1), (1, 1), (2, 1), (3, 1), (4, 1)], .agg #[.string ⟨#[]⟩, .string ⟨#[]⟩, .slice none 0 0, .slice none 0 0, .slice none 0 0])), (47, ([(0, 1), (1, 1), (2, 1)], .agg #[.int .i64 0, .string ⟨#[]⟩, .int .i64 0])), (49, ([(0, 1), (1, 3), (4, 1), (5, 1)], .agg #[.int .i64 0, .int .i64 0, .string ⟨#[]⟩, .int .i64 0, .slice none 0 0, .int .i64 0])), (51, ([(0, 1), (1, 1), (2, 1), (3, 6)], .agg #[.string ⟨#[]⟩, .slice none 0 0, .slice none 0 0, .int .i64 0, .int .i64 0, .string ⟨#[]⟩, .int .i64 0, .slice none 0 0, .int .i64 0])), (62, ([(0, 1), (1, 1)], .agg #[.string ⟨#[]⟩, .string ⟨#[]⟩])), (125, ([(0, 1), (1, 1)], .agg #[.int .i64 0, .int .i64 0]))]
    mp := [(67, (.string, .bool false, .bool)), (80, (.string, .bool false, .bool)), (85, (.string, .map none, .map))]
    eqs := []
    fld := [] }
theorem ty_ok : TOk Try.prog ty where
  tk := (List.forall_mem_cons.2 ⟨⟨⟨_, Try.underlying3, rfl, rfl⟩, by kernel_rfl⟩, List.forall_mem_cons.2 ⟨⟨⟨_, Try.underlying4, rfl, rfl⟩, by kernel_rfl⟩, List.forall_mem_cons.2 ⟨⟨⟨_, Try.underlying9, rfl, rfl⟩, by kernel_rfl⟩, List.forall_mem_cons.2 ⟨⟨⟨_, Try.underlying22, rfl, ⟨_, rfl⟩⟩, by kernel_rfl⟩, List.forall_mem_cons.2 ⟨⟨⟨_, Try.underlying23, rfl, ⟨_, rfl⟩⟩, by kernel_rfl⟩, List.forall_mem_cons.2 ⟨⟨⟨_, Try.underlying24, rfl, ⟨_, rfl⟩⟩, by kernel_rfl⟩, List.forall_mem_cons.2 ⟨⟨⟨_, Try.underlying26, rfl, trivial⟩, by kernel_rfl⟩, List.forall_mem_cons.2 ⟨⟨⟨_, Try.underlying28, rfl, ⟨_, rfl⟩⟩, by kernel_rfl⟩, List.forall_mem_cons.2 ⟨⟨⟨_, Try.underlying30, rfl, trivial⟩, by kernel_rfl⟩, List.forall_mem_cons.2 ⟨⟨⟨_, Try.underlying32, rfl, trivial⟩, by kernel_rfl⟩, List.forall_mem_cons.2 ⟨⟨⟨_, Try.underlying34, rfl, ⟨_, rfl⟩⟩, by kernel_rfl⟩, List.forall_mem_cons.2 ⟨⟨⟨_, Try.underlying37, rfl, ⟨_, rfl⟩⟩, by kernel_rfl⟩, List.forall_mem_cons.2 ⟨⟨⟨_, Try.underlying38, rfl, ⟨_, rfl⟩⟩, by kernel_rfl⟩, List.forall_mem_cons.2 ⟨⟨⟨_, Try.underlying40, rfl, trivial⟩, by kernel_rfl⟩, List.forall_mem_cons.2 ⟨⟨⟨_, Try.underlying44, rfl, ⟨_, rfl⟩⟩, by kernel_rfl⟩, List.forall_mem_cons.2 ⟨⟨⟨_, Try.underlying45, rfl, ⟨_, rfl⟩⟩, by kernel_rfl⟩, List.forall_mem_cons.2 ⟨⟨⟨_, Try.underlying47, rfl, trivial⟩, by kernel_rfl⟩, List.forall_mem_cons.2 ⟨⟨⟨_, Try.underlying51, rfl, trivial⟩, by kernel_rfl⟩, List.forall_mem_cons.2 ⟨⟨⟨_, Try.underlying56, rfl, ⟨_, rfl⟩⟩, by kernel_rfl⟩, List.forall_mem_cons.2 ⟨⟨⟨_, Try.underlying58, rfl, trivial⟩, by kernel_rfl⟩, List.forall_mem_cons.2 ⟨⟨⟨_, Try.underlying62, rfl, trivial⟩, by kernel_rfl⟩, List.forall_mem_cons.2 ⟨⟨⟨_, Try.underlying67, rfl, ⟨_, _, rfl⟩⟩, by kernel_rfl⟩, List.forall_mem_cons.2 ⟨⟨⟨_, Try.underlying72, rfl, trivial⟩, by kernel_rfl⟩, List.forall_mem_cons.2 ⟨⟨⟨_, Try.underlying80, rfl, ⟨_, _, rfl⟩⟩, by kernel_rfl⟩, List.forall_mem_cons.2 ⟨⟨⟨_, Try.underlying98, rfl, ⟨_, rfl⟩⟩, by kernel_rfl⟩, List.forall_mem_cons.2 ⟨⟨⟨_, Try.underlying108, rfl, trivial⟩, by kernel_rfl⟩, List.forall_mem_nil _⟩⟩⟩⟩⟩⟩⟩⟩⟩⟩⟩⟩⟩⟩⟩⟩⟩⟩⟩⟩⟩⟩⟩⟩⟩⟩)
  sl := (List.forall_mem_cons.2 ⟨⟨Try.underlying22, by kernel_rfl, by kernel_rfl, by decide⟩, List.forall_mem_cons.2 ⟨⟨Try.underlying23, by kernel_rfl, by kernel_rfl, by decide⟩, List.forall_mem_cons.2 ⟨⟨Try.underlying24, by kernel_rfl, by kernel_rfl, by decide⟩, List.forall_mem_cons.2 ⟨⟨Try.underlying28, by kernel_rfl, by kernel_rfl, by decide⟩, List.forall_mem_cons.2 ⟨⟨Try.underlying34, by kernel_rfl, by kernel_rfl, by decide⟩, List.forall_mem_cons.2 ⟨⟨Try.underlying37, by kernel_rfl, by kernel_rfl, by decide⟩, List.forall_mem_cons.2 ⟨⟨Try.underlying38, by kernel_rfl, by kernel_rfl, by decide⟩, List.forall_mem_cons.2 ⟨⟨Try.underlying42, by kernel_rfl, by kernel_rfl, by decide⟩, List.forall_mem_cons.2 ⟨⟨Try.underlying44, by kernel_rfl, by kernel_rfl, by decide⟩, List.forall_mem_cons.2 ⟨⟨Try.underlying45, by kernel_rfl, by kernel_rfl, by decide⟩, List.forall_mem_cons.2 ⟨⟨Try.underlying56, by kernel_rfl, by kernel_rfl, by decide⟩, List.forall_mem_cons.2 ⟨⟨Try.underlying60, by kernel_rfl, by kernel_rfl, by decide⟩, List.forall_mem_cons.2 ⟨⟨Try.underlying74, by kernel_rfl, by kernel_rfl, by decide⟩, List.forall_mem_cons.2 ⟨⟨Try.underlying78, by kernel_rfl, by kernel_rfl, by decide⟩, List.forall_mem_cons.2 ⟨⟨Try.underlying95, by kernel_rfl, by kernel_rfl, by decide⟩, List.forall_mem_cons.2 ⟨⟨Try.underlying98, by kernel_rfl, by kernel_rfl, by decide⟩, List.forall_mem_cons.2 ⟨⟨Try.underlying126, by kernel_rfl, by kernel_rfl, by decide⟩, List.forall_mem_nil _⟩⟩⟩⟩⟩⟩⟩⟩⟩⟩⟩⟩⟩⟩⟩⟩⟩)
  zs := (List.forall_mem_cons.2 ⟨(show ZsOk _ _ by unfold ZsOk; kernel_rfl), List.forall_mem_cons.2 ⟨(show ZsOk _ _ by unfold ZsOk; kernel_rfl), List.forall_mem_cons.2 ⟨(show ZsOk _ _ by unfold ZsOk; kernel_rfl), List.forall_mem_cons.2 ⟨(show ZsOk _ _ by unfold ZsOk; kernel_rfl), List.forall_mem_cons.2 ⟨(show ZsOk _ _ by unfold ZsOk; kernel_rfl), List.forall_mem_cons.2 ⟨(show ZsOk _ _ by unfold ZsOk; kernel_rfl), List.forall_mem_cons.2 ⟨(show ZsOk _ _ by unfold ZsOk; kernel_rfl), List.forall_mem_cons.2 ⟨(show ZsOk _ _ by unfold ZsOk; kernel_rfl), List.forall_mem_cons.2 ⟨(show ZsOk _ _ by unfold ZsOk; kernel_rfl), List.forall_mem_cons.2 ⟨(show ZsOk _ _ by unfold ZsOk; kernel_rfl), List.forall_mem_nil _⟩⟩⟩⟩⟩⟩⟩⟩⟩⟩)
  off := (List.forall_mem_cons.2 ⟨⟨_, _, Try.underlying26, rfl, rfl, by kernel_rfl⟩, List.forall_mem_cons.2 ⟨⟨_, _, Try.underlying26, rfl, rfl, by kernel_rfl⟩, List.forall_mem_cons.2 ⟨⟨_, _, Try.underlying26, rfl, rfl, by kernel_rfl⟩, List.forall_mem_cons.2 ⟨⟨_, _, Try.underlying26, rfl, rfl, by kernel_rfl⟩, List.forall_mem_cons.2 ⟨⟨_, _, Try.underlying26, rfl, rfl, by kernel_rfl⟩, List.forall_mem_cons.2 ⟨⟨_, _, Try.underlying30, rfl, rfl, by kernel_rfl⟩, List.forall_mem_cons.2 ⟨⟨_, _, Try.underlying30, rfl, rfl, by kernel_rfl⟩, List.forall_mem_cons.2 ⟨⟨_, _, Try.underlying30, rfl, rfl, by kernel_rfl⟩, List.forall_mem_cons.2 ⟨⟨_, _, Try.underlying32, rfl, rfl, by kernel_rfl⟩, List.forall_mem_cons.2 ⟨⟨_, _, Try.underlying32, rfl, rfl, by kernel_rfl⟩, List.forall_mem_cons.2 ⟨⟨_, _, Try.underlying40, rfl, rfl, by kernel_rfl⟩, List.forall_mem_cons.2 ⟨⟨_, _, Try.underlying40, rfl, rfl, by kernel_rfl⟩, List.forall_mem_cons.2 ⟨⟨_, _, Try.underlying40, rfl, rfl, by kernel_rfl⟩, List.forall_mem_cons.2 ⟨⟨_, _, Try.underlying40, rfl, rfl, by kernel_rfl⟩, List.forall_mem_cons.2 ⟨⟨_, _, Try.underlying40, rfl, rfl, by kernel_rfl⟩, List.forall_mem_cons.2 ⟨⟨_, _, Try.underlying47, rfl, rfl, by kernel_rfl⟩, List.forall_mem_cons.2 ⟨⟨_, _, Try.underlying47, rfl, rfl, by kernel_rfl⟩, List.forall_mem_cons.2 ⟨⟨_, _, Try.underlying49, rfl, rfl, by kernel_rfl⟩, List.forall_mem_cons.2 ⟨⟨_, _, Try.underlying49, rfl, rfl, by kernel_rfl⟩, List.forall_mem_cons.2 ⟨⟨_, _, Try.underlying49, rfl, rfl, by kernel_rfl⟩, List.forall_mem_cons.2 ⟨⟨_, _, Try.underlying51, rfl, rfl, by kernel_rfl⟩, List.forall_mem_cons.2 ⟨⟨_, _, Try.underlying51, rfl, rfl, by kernel_rfl⟩, List.forall_mem_cons.2 ⟨⟨_, _, Try.underlying51, rfl, rfl, by kernel_rfl⟩, List.forall_mem_cons.2 ⟨⟨_, _, Try.underlying51, rfl, rfl, by kernel_rfl⟩, List.forall_mem_cons.2 ⟨⟨_, _, Try.underlying58, rfl, rfl, by kernel_rfl⟩, List.forall_mem_cons.2 ⟨⟨_, _, Try.underlying58, rfl, rfl, by kernel_rfl⟩, List.forall_mem_cons.2 ⟨⟨_, _, Try.underlying62, rfl, rfl, by kernel_rfl⟩, List.forall_mem_cons.2 ⟨⟨_, _, Try.underlying62, rfl, rfl, by kernel_rfl⟩, List.forall_mem_cons.2 ⟨⟨_, _, Try.underlying72, rfl, rfl, by kernel_rfl⟩, List.forall_mem_cons.2 ⟨⟨_, _, Try.underlying72, rfl, rfl, by kernel_rfl⟩, List.forall_mem_cons.2 ⟨⟨_, _, Try.underlying108, rfl, rfl, by kernel_rfl⟩, List.forall_mem_cons.2 ⟨⟨_, _, Try.underlying108, rfl, rfl, by kernel_rfl⟩, List.forall_mem_cons.2 ⟨⟨_, _, Try.underlying125, rfl, rfl, by kernel_rfl⟩, List.forall_mem_cons.2 ⟨⟨_, _, Try.underlying125, rfl, rfl, by kernel_rfl⟩, List.forall_mem_nil _⟩⟩⟩⟩⟩⟩⟩⟩⟩⟩⟩⟩⟩⟩⟩⟩⟩⟩⟩⟩⟩⟩⟩⟩⟩⟩⟩⟩⟩⟩⟩⟩⟩⟩)
  fns := (List.forall_mem_cons.2 ⟨(show FnOk _ _ by unfold FnOk; kernel_rfl), List.forall_mem_cons.2 ⟨(show FnOk _ _ by unfold FnOk; kernel_rfl), List.forall_mem_cons.2 ⟨(show FnOk _ _ by unfold FnOk; kernel_rfl), List.forall_mem_cons.2 ⟨(show FnOk _ _ by unfold FnOk; kernel_rfl), List.forall_mem_cons.2 ⟨(show FnOk _ _ by unfold FnOk; kernel_rfl), List.forall_mem_cons.2 ⟨(show FnOk _ _ by unfold FnOk; kernel_rfl), List.forall_mem_cons.2 ⟨(show FnOk _ _ by unfold FnOk; kernel_rfl), List.forall_mem_cons.2 ⟨(show FnOk _ _ by unfold FnOk; kernel_rfl), List.forall_mem_cons.2 ⟨(show FnOk _ _ by unfold FnOk; kernel_rfl), List.forall_mem_cons.2 ⟨(show FnOk _ _ by unfold FnOk; kernel_rfl), List.forall_mem_cons.2 ⟨(show FnOk _ _ by unfold FnOk; kernel_rfl), List.forall_mem_cons.2 ⟨(show FnOk _ _ by unfold FnOk; kernel_rfl), List.forall_mem_cons.2 ⟨(show FnOk _ _ by unfold FnOk; kernel_rfl), List.forall_mem_cons.2 ⟨(show FnOk _ _ by unfold FnOk; kernel_rfl), List.forall_mem_cons.2 ⟨(show FnOk _ _ by unfold FnOk; kernel_rfl), List.forall_mem_cons.2 ⟨(show FnOk _ _ by unfold FnOk; kernel_rfl), List.forall_mem_cons.2 ⟨(show FnOk _ _ by unfold FnOk; kernel_rfl), List.forall_mem_cons.2 ⟨(show FnOk _ _ by unfold FnOk; kernel_rfl), List.forall_mem_cons.2 ⟨(show FnOk _ _ by unfold FnOk; kernel_rfl), List.forall_mem_cons.2 ⟨(show FnOk _ _ by unfold FnOk; kernel_rfl), List.forall_mem_cons.2 ⟨(show FnOk _ _ by unfold FnOk; kernel_rfl), List.forall_mem_cons.2 ⟨(show FnOk _ _ by unfold FnOk; kernel_rfl), List.forall_mem_cons.2 ⟨(show FnOk _ _ by unfold FnOk; kernel_rfl), List.forall_mem_cons.2 ⟨(show FnOk _ _ by unfold FnOk; kernel_rfl), List.forall_mem_cons.2 ⟨(show FnOk _ _ by unfold FnOk; kernel_rfl), List.forall_mem_cons.2 ⟨(show FnOk _ _ by unfold FnOk; kernel_rfl), List.forall_mem_cons.2 ⟨(show FnOk _ _ by unfold FnOk; kernel_rfl), List.forall_mem_cons.2 ⟨(show FnOk _ _ by unfold FnOk; kernel_rfl), List.forall_mem_cons.2 ⟨(show FnOk _ _ by unfold FnOk; kernel_rfl), List.forall_mem_cons.2 ⟨(show FnOk _ _ by unfold FnOk; kernel_rfl), List.forall_mem_cons.2 ⟨(show FnOk _ _ by unfold FnOk; kernel_rfl), List.forall_mem_cons.2 ⟨(show FnOk _ _ by unfold FnOk; kernel_rfl), List.forall_mem_cons.2 ⟨(show FnOk _ _ by unfold FnOk; kernel_rfl), List.forall_mem_cons.2 ⟨(show FnOk _ _ by unfold FnOk; kernel_rfl), List.forall_mem_cons.2 ⟨(show FnOk _ _ by unfold FnOk; kernel_rfl), List.forall_mem_cons.2 ⟨(show FnOk _ _ by unfold FnOk; kernel_rfl), List.forall_mem_cons.2 ⟨(show FnOk _ _ by unfold FnOk; kernel_rfl), List.forall_mem_cons.2 ⟨(show FnOk _ _ by unfold FnOk; kernel_rfl), List.forall_mem_cons.2 ⟨(show FnOk _ _ by unfold FnOk; kernel_rfl), List.forall_mem_cons.2 ⟨(show FnOk _ _ by unfold FnOk; kernel_rfl), List.forall_mem_cons.2 ⟨(show FnOk _ _ by unfold FnOk; kernel_rfl), List.forall_mem_cons.2 ⟨(show FnOk _ _ by unfold FnOk; kernel_rfl), List.forall_mem_cons.2 ⟨(show FnOk _ _ by unfold FnOk; kernel_rfl), List.forall_mem_cons.2 ⟨(show FnOk _ _ by unfold FnOk; kernel_rfl), List.forall_mem_cons.2 ⟨(show FnOk _ _ by unfold FnOk; kernel_rfl), List.forall_mem_cons.2 ⟨(show FnOk _ _ by unfold FnOk; kernel_rfl), List.forall_mem_cons.2 ⟨(show FnOk _ _ by unfold FnOk; kernel_rfl), List.forall_mem_cons.2 ⟨(show FnOk _ _ by unfold FnOk; kernel_rfl), List.forall_mem_cons.2 ⟨(show FnOk _ _ by unfold FnOk; kernel_rfl), List.forall_mem_cons.2 ⟨(show FnOk _ _ by unfold FnOk; kernel_rfl), List.forall_mem_cons.2 ⟨(show FnOk _ _ by unfold FnOk; kernel_rfl), List.forall_mem_cons.2 ⟨(show FnOk _ _ by unfold FnOk; kernel_rfl), List.forall_mem_cons.2 ⟨(show FnOk _ _ by unfold FnOk; kernel_rfl), List.forall_mem_cons.2 ⟨(show FnOk _ _ by unfold FnOk; kernel_rfl), List.forall_mem_cons.2 ⟨(show FnOk _ _ by unfold FnOk; kernel_rfl), List.forall_mem_cons.2 ⟨(show FnOk _ _ by unfold FnOk; kernel_rfl), List.forall_mem_cons.2 ⟨(show FnOk _ _ by unfold FnOk; kernel_rfl), List.forall_mem_cons.2 ⟨(show FnOk _ _ by unfold FnOk; kernel_rfl), List.forall_mem_nil _⟩⟩⟩⟩⟩⟩⟩⟩⟩⟩⟩⟩⟩⟩⟩⟩⟩⟩⟩⟩⟩⟩⟩⟩⟩⟩⟩⟩⟩⟩⟩⟩⟩⟩⟩⟩⟩⟩⟩⟩⟩⟩⟩⟩⟩⟩⟩⟩⟩⟩⟩⟩⟩⟩⟩⟩⟩⟩)
  bs := (List.forall_mem_cons.2 ⟨⟨_, Try.underlying26, by kernel_rfl, by kernel_rfl⟩, List.forall_mem_cons.2 ⟨⟨_, Try.underlying40, by kernel_rfl, by kernel_rfl⟩, List.forall_mem_cons.2 ⟨⟨_, Try.underlying47, by kernel_rfl, by kernel_rfl⟩, List.forall_mem_cons.2 ⟨⟨_, Try.underlying49, by kernel_rfl, by kernel_rfl⟩, List.forall_mem_cons.2 ⟨⟨_, Try.underlying51, by kernel_rfl, by kernel_rfl⟩, List.forall_mem_cons.2 ⟨⟨_, Try.underlying62, by kernel_rfl, by kernel_rfl⟩, List.forall_mem_cons.2 ⟨⟨_, Try.underlying125, by kernel_rfl, by kernel_rfl⟩, List.forall_mem_nil _⟩⟩⟩⟩⟩⟩⟩)
  mp := (List.forall_mem_cons.2 ⟨⟨9, 4, Try.underlying67, by kernel_rfl, (show ZsOk _ _ by unfold ZsOk; kernel_rfl)⟩, List.forall_mem_cons.2 ⟨⟨9, 4, Try.underlying80, by kernel_rfl, (show ZsOk _ _ by unfold ZsOk; kernel_rfl)⟩, List.forall_mem_cons.2 ⟨⟨9, 80, Try.underlying85, by kernel_rfl, (show ZsOk _ _ by unfold ZsOk; kernel_rfl)⟩, List.forall_mem_nil _⟩⟩⟩)
  eqs := (List.forall_mem_nil _)
  fld := (List.forall_mem_nil _)
theorem mixed : Try.prog.follows .mixedOrders = true := by kernel_rfl

/-- lateen/lateenlaw12.LiveUses -/
def lateenlaw12_LiveUses (x : Array Value) (h : Heap) (K : Value → Heap → Prop) : Prop :=
  new 26 x h fun p h_1 =>
  joinW (fun _ (t : Bool) h_2 =>
    ifB t
     (ACalls Try.prog F_lateenlaw12_awake [] h_2 fun v h_3 => as1 .bool v fun r =>
     K (.bool r) h_3)
     (loopW (fun _ (q_n : Int × Int) h_4 next =>
    joinW (fun _ (t_1 : Bool) h_5 =>
      ifB t_1
       (ld .sl h_5 (p.add 4) fun (x_1 : Sl) =>
    idx 4 x_1 q_n.2 fun p_1 =>
    ld .sl h_5 (p_1.add 3) fun (x_2 : Sl) =>
    ifB (decide ((x_2.len : Int) > 500))
     (ACalls Try.prog F_lateenlaw12_awake [] h_5 fun v_1 h_6 => as1 .bool v_1 fun r_1 =>
     K (.bool r_1) h_6)
     (ld .sl h_5 (p.add 4) fun (x_3 : Sl) =>
    idx 4 x_3 q_n.2 fun p_2 =>
    ld .sl h_5 (p_2.add 3) fun (x_4 : Sl) =>
    ar .i64 (q_n.1 + (x_4.len : Int)) fun n_1 =>
    ar .i64 (q_n.2 + 1) fun n_2 =>
    next (n_1, n_2) h_5))
       (loopW (fun _ (q_n_3 : Int × Int) h_7 next_1 =>
    joinW (fun _ (t_2 : Bool) h_8 =>
      ifB t_2
       (ld .sl h_8 (p.add 5) fun (x_5 : Sl) =>
    idx 2 x_5 q_n_3.2 fun p_3 =>
    ld .sl h_8 (p_3.add 1) fun (x_6 : Sl) =>
    ifB (decide ((x_6.len : Int) > 500))
     (ACalls Try.prog F_lateenlaw12_awake [] h_8 fun v_2 h_9 => as1 .bool v_2 fun r_2 =>
     K (.bool r_2) h_9)
     (ld .sl h_8 (p.add 5) fun (x_7 : Sl) =>
    idx 2 x_7 q_n_3.2 fun p_4 =>
    ld .sl h_8 (p_4.add 1) fun (x_8 : Sl) =>
    ar .i64 (q_n_3.1 + (x_8.len : Int)) fun n_4 =>
    ar .i64 (q_n_3.2 + 1) fun n_5 =>
    next_1 (n_4, n_5) h_8))
       (joinW (fun _ (t_3 : Bool) h_10 =>
    K (.bool t_3) h_10) fun k_3 =>
  ∃ (R : Heap → Prop) (h_11 : Heap) (L : List As) (S : Specs), R h_8 ∧ Sep h_11 h_8 L ∧ (ifB (decide (q_n_3.1 > 500))
   (freeW R h_11 (S 3 [.bool true]) [] (fun h_12 Kv =>
       ACalls Try.prog F_lateenlaw12_awake [] h_12 fun v_3 h_13 => as1 .bool v_3 fun r_3 =>
       Kv (.bool r_3) h_13) fun v_4 => as1 .bool v_4 fun r_4 =>
   ifB r_4
    (endF R h_11 ((S 3 [.bool true]).A v_4 ++ (L ++ [])) fun h_14 =>
      k_3 true h_14)
    (freeW R h_11 (S 6 [.bool false]) [] (fun h_15 Kv_1 =>
        ACalls Try.prog F_lateenlaw12_awake [] h_15 fun v_5 h_16 => as1 .bool v_5 fun r_5 =>
        Kv_1 (.bool r_5) h_16) fun v_6 => as1 .bool v_6 fun r_6 =>
    ifB r_6
      (ldF (.agg 6) R p fun (x_9 : Array Value) =>
      freeW R h_11 (S 9 [.agg x_9, .bool true]) [] (fun h_17 Kv_2 =>
           ACalls Try.prog F_live_Uses [.agg x_9] h_17 fun v_7 h_18 => as1 .sl v_7 fun r_7 =>
           Kv_2 r_7.v h_18) fun v_8 => as1 .sl v_8 fun r_8 =>
       ldF (.agg 6) R p fun (x_10 : Array Value) =>
        freeW R h_11 (S 11 [.agg x_10, .bool true]) [] (fun h_19 Kv_3 =>
             ACalls Try.prog F_lateenref12_Uses [.agg x_10] h_19 fun v_9 h_20 => as1 .sl v_9 fun r_9 =>
             Kv_3 r_9.v h_20) fun v_10 => as1 .sl v_10 fun r_10 =>
         freeW R h_11 (S 12 [r_8.v, r_10.v, .bool true]) ((S 9 [.agg x_9, .bool true]).A v_8 ++ ((S 11 [.agg x_10, .bool true]).A v_10 ++ [])) (fun h_21 Kv_4 =>
              ACalls Try.prog F_lateenref12_Same [r_8.v, r_10.v] h_21 fun v_11 h_22 => as1 .bool v_11 fun r_11 =>
              Kv_4 (.bool r_11) h_22) fun v_12 => as1 .bool v_12 fun r_12 =>
          endF R h_11 ((S 3 [.bool true]).A v_4 ++ ((S 6 [.bool false]).A v_6 ++ ((S 12 [r_8.v, r_10.v, .bool true]).A v_12 ++ (L ++ [])))) fun h_23 =>
           k_3 r_12 h_23)
      (endF R h_11 ((S 3 [.bool true]).A v_4 ++ ((S 6 [.bool false]).A v_6 ++ (L ++ []))) fun h_24 =>
           k_3 false h_24)))
   (freeW R h_11 (S 6 [.bool false]) [] (fun h_25 Kv_5 =>
        ACalls Try.prog F_lateenlaw12_awake [] h_25 fun v_13 h_26 => as1 .bool v_13 fun r_13 =>
        Kv_5 (.bool r_13) h_26) fun v_14 => as1 .bool v_14 fun r_14 =>
    ifB r_14
      (ldF (.agg 6) R p fun (x_11 : Array Value) =>
      freeW R h_11 (S 9 [.agg x_11, .bool true]) [] (fun h_27 Kv_6 =>
           ACalls Try.prog F_live_Uses [.agg x_11] h_27 fun v_15 h_28 => as1 .sl v_15 fun r_15 =>
           Kv_6 r_15.v h_28) fun v_16 => as1 .sl v_16 fun r_16 =>
       ldF (.agg 6) R p fun (x_12 : Array Value) =>
        freeW R h_11 (S 11 [.agg x_12, .bool true]) [] (fun h_29 Kv_7 =>
             ACalls Try.prog F_lateenref12_Uses [.agg x_12] h_29 fun v_17 h_30 => as1 .sl v_17 fun r_17 =>
             Kv_7 r_17.v h_30) fun v_18 => as1 .sl v_18 fun r_18 =>
         freeW R h_11 (S 12 [r_16.v, r_18.v, .bool true]) ((S 9 [.agg x_11, .bool true]).A v_16 ++ ((S 11 [.agg x_12, .bool true]).A v_18 ++ [])) (fun h_31 Kv_8 =>
              ACalls Try.prog F_lateenref12_Same [r_16.v, r_18.v] h_31 fun v_19 h_32 => as1 .bool v_19 fun r_19 =>
              Kv_8 (.bool r_19) h_32) fun v_20 => as1 .bool v_20 fun r_20 =>
          endF R h_11 ((S 6 [.bool false]).A v_14 ++ ((S 12 [r_16.v, r_18.v, .bool true]).A v_20 ++ (L ++ []))) fun h_33 =>
           k_3 r_20 h_33)
      (endF R h_11 ((S 6 [.bool false]).A v_14 ++ (L ++ [])) fun h_34 =>
           k_3 false h_34))))) fun k_2 =>
    ld .sl h_7 (p.add 5) fun (x_13 : Sl) =>
    ifB (decide (q_n_3.2 < (x_13.len : Int)))
     (k_2 (decide (q_n_3.1 ≤ 500)) h_7)
     (k_2 false h_7)) (q_n.1, 0) h_5)) fun k_1 =>
    ld .sl h_4 (p.add 4) fun (x_14 : Sl) =>
    ifB (decide (q_n.2 < (x_14.len : Int)))
     (k_1 (decide (q_n.1 ≤ 500)) h_4)
     (k_1 false h_4)) (0, 0) h_2)) fun k =>
  ld .sl h_1 (p.add 3) fun (x_15 : Sl) =>
  ifB (decide ((x_15.len : Int) > 100))
   (k true h_1)
   (ld .sl h_1 (p.add 4) fun (x_16 : Sl) =>
    ifB (decide ((x_16.len : Int) > 50))
       (k true h_1)
       (ld .sl h_1 (p.add 5) fun (x_17 : Sl) =>
        k (decide ((x_17.len : Int) > 50)) h_1))
def lateenlaw12_LiveUses_a : Ann := (.seq .leaf (.seq (.join [(21, .bool)] [1] .leaf (.cond (.seq .leaf .leaf) .leaf)) (.seq .leaf (.seq (.seq .leaf (.block (.loop [(3, .int .i64), (4, .int .i64)] [1] (.seq (.join [(31, .bool)] [1, 3, 4] .leaf (.cond .leaf .leaf)) (.seq (.block (.seq (.seq .leaf (.cond (.seq .leaf .leaf) .leaf)) .leaf)) .leaf))))) (.seq (.seq .leaf (.block (.loop [(3, .int .i64), (5, .int .i64)] [1] (.seq (.join [(60, .bool)] [1, 3, 5] .leaf (.cond .leaf .leaf)) (.seq (.block (.seq (.seq .leaf (.cond (.seq .leaf .leaf) .leaf)) .leaf)) .leaf))))) (.join [(2, .bool)] [] (.free 15 [[], [], [], [], [], [], [], [], [], [], [], [], [9, 11], [], [], []] [3, 6, 9, 11, 12, 16]) .leaf))))))
theorem lateenlaw12_LiveUses_eq (x : Array Value) (h : Heap) (K : Value → Heap → Prop) : lateenlaw12_LiveUses x h K = fnW Try.prog ty lateenlaw12_LiveUses_a (bodyOf Try.f3) [.tmp 2] [.agg x] h K := by kernel_rfl
theorem lateenlaw12_LiveUses_of {x : Array Value} {h : Heap} {K : Value → Heap → Prop} (hw : lateenlaw12_LiveUses x h K) : ACalls Try.prog F_lateenlaw12_LiveUses [.agg x] h K :=
  calls_sound ty_ok mixed lateenlaw12_LiveUses_a (c := bodyOf Try.f3) Try.func3 (by kernel_rfl) (by kernel_rfl) (by kernel_rfl) (Nat.le_of_ble_eq_true rfl) (by rw [lateenlaw12_LiveUses_eq] at hw; exact hw)

/-- lateen/lateenlaw12.LiveWays -/
def lateenlaw12_LiveWays (f : Array Value) (h : Heap) (K : Value → Heap → Prop) : Prop :=
  new 40 f h fun p h_1 =>
  joinW (fun _ (t : Bool) h_2 =>
    ifB t
     (ACalls Try.prog F_lateenlaw12_awake [] h_2 fun v h_3 => as1 .bool v fun r =>
     K (.bool r) h_3)
     (ld (.agg 5) h_2 p fun (x : Array Value) =>
  ACalls Try.prog F_live_Ins [.agg x] h_2 fun v_1 h_4 => as1 .sl v_1 fun r_1 =>
  loopW (fun _ (i : Int) h_5 next =>
    ld .sl h_5 (p.add 4) fun (x_1 : Sl) =>
    ifB (decide (i < (x_1.len : Int)))
     (ld .sl h_5 (p.add 4) fun (x_2 : Sl) =>
    idx 9 x_2 i fun p_1 =>
    ld (.agg 9) h_5 p_1 fun (x_3 : Array Value) =>
    new 51 #[.string ⟨#[]⟩, .slice none 0 0, .slice none 0 0, .int .i64 0, .int .i64 0, .string ⟨#[]⟩, .int .i64 0, .slice none 0 0, .int .i64 0] h_5 fun p_2 h_6 =>
    x_3.size = 9 ∧ st x_3.toList h_6 p_2 fun h_7 =>
    idx 1 r_1 i fun p_3 =>
    ld .sl h_7 p_3 fun (x_4 : Sl) =>
    ld (.agg 5) h_7 p fun (x_5 : Array Value) =>
    ACalls Try.prog F_live_At [.agg x_5, .int .i64 i, .int .i64 0] h_7 fun v_2 h_8 => as1 .sl v_2 fun r_2 =>
    hExt h_7 h_8 ∧ ACalls Try.prog F_lateenref12_Same [x_4.v, r_2.v] h_8 fun v_3 h_9 => as1 .bool v_3 fun r_3 =>
    hExt h_8 h_9 ∧ ifB (!r_3)
     (K (.bool false) h_9)
     (loopW (fun _ (k_1 : Int) h_10 next_1 =>
      ld .sl h_10 (p_2.add 2) fun (x_6 : Sl) =>
      ifB (decide (k_1 < (x_6.len : Int)))
       (ld .sl h_10 (p_2.add 2) fun (x_7 : Sl) =>
      idx 6 x_7 k_1 fun p_4 =>
      ld (.agg 6) h_10 p_4 fun (x_8 : Array Value) =>
      ACalls Try.prog F_live_Uses [.agg x_8] h_10 fun v_4 h_11 => as1 .sl v_4 fun r_4 =>
      ld (.agg 5) h_11 p fun (x_9 : Array Value) =>
      ar .i64 (k_1 + 1) fun n =>
      ACalls Try.prog F_live_At [.agg x_9, .int .i64 i, .int .i64 n] h_11 fun v_5 h_12 => as1 .sl v_5 fun r_5 =>
      loopW (fun _ (q_want : Sl × Int) h_13 next_2 =>
        ifB (decide (q_want.2 < (r_5.len : Int)))
         (joinW (fun _ (want_1 : Sl) h_14 =>
          ar .i64 (q_want.2 + 1) fun n_1 =>
          next_2 (want_1, n_1) h_14) fun k_2 =>
        joinW (fun _ (t_1 : Bool) h_15 =>
          ifB t_1
           (idx 1 r_5 q_want.2 fun p_5 =>
           ld .str h_15 p_5 fun (x_10 : ByteArray) =>
           ACalls Try.prog F_lateenref12_Put [q_want.1.v, .string x_10] h_15 fun v_6 h_16 => as1 .sl v_6 fun r_6 =>
           k_2 r_6 h_16)
           (k_2 q_want.1 h_15)) fun k_3 =>
        idx 1 r_5 q_want.2 fun p_6 =>
        ld .str h_13 p_6 fun (x_11 : ByteArray) =>
        ifB (x_11.toList == (⟨#[]⟩ : ByteArray).toList)
         (k_3 true h_13)
         (idx 1 r_5 q_want.2 fun p_7 =>
           ld .str h_13 p_7 fun (x_12 : ByteArray) =>
            ld .sl h_13 (p_2.add 2) fun (x_13 : Sl) =>
              idx 6 x_13 k_1 fun p_8 =>
                ld .str h_13 (p_8.add 1) fun (x_14 : ByteArray) =>
                  k_3 (!(x_12.toList == x_14.toList)) h_13))
         (ld (.agg 5) h_13 p fun (x_15 : Array Value) =>
      ACalls Try.prog F_live_At [.agg x_15, .int .i64 i, .int .i64 k_1] h_13 fun v_7 h_17 => as1 .sl v_7 fun r_7 =>
      ACalls Try.prog F_lateenref12_Same [r_7.v, q_want.1.v] h_17 fun v_8 h_18 => as1 .bool v_8 fun r_8 =>
      ifB (!r_8)
       (K (.bool false) h_18)
       (ar .i64 (k_1 + 1) fun n_2 =>
      next_1 n_2 h_18))) (r_4, 0) h_12)
       (ld (.agg 5) h_10 p fun (x_16 : Array Value) =>
    ld .sl h_10 (p_2.add 2) fun (x_17 : Sl) =>
    ACalls Try.prog F_live_At [.agg x_16, .int .i64 i, .int .i64 (x_17.len : Int)] h_10 fun v_9 h_19 => as1 .sl v_9 fun r_9 =>
    loopW (fun _ (k_4 : Int) h_20 next_3 =>
      ld .sl h_20 ((p_2.add 3).add 4) fun (x_18 : Sl) =>
      ifB (decide (k_4 < (x_18.len : Int)))
       (ld (.agg 5) h_20 p fun (x_19 : Array Value) =>
      ld .sl h_20 ((p_2.add 3).add 4) fun (x_20 : Sl) =>
      idx 1 x_20 k_4 fun p_9 =>
      ld .str h_20 p_9 fun (x_21 : ByteArray) =>
      ACalls Try.prog F_lateenref08_Place [.agg x_19, .string x_21] h_20 fun v_10 h_21 => as2 (.int .i64) .bool v_10 fun r_10 _ =>
      hExt h_20 h_21 ∧ loopW (fun _ (j_1 : Int) h_22 next_4 =>
        idx 1 r_1 r_10 fun p_10 =>
        ld .sl h_22 p_10 fun (x_22 : Sl) =>
        ifB (decide (j_1 < (x_22.len : Int)))
         (loopW (fun _ (q_setv : Bool × Int) h_23 next_5 =>
          ld .sl h_23 (p.add 4) fun (x_23 : Sl) =>
          idx 9 x_23 r_10 fun p_11 =>
          ld .sl h_23 (p_11.add 1) fun (x_24 : Sl) =>
          ifB (decide (q_setv.2 < (x_24.len : Int)))
           (joinW (fun _ (setv_1 : Bool) h_24 =>
            ar .i64 (q_setv.2 + 1) fun n_4 =>
            next_5 (setv_1, n_4) h_24) fun k_5 =>
          ifB q_setv.1
           (k_5 true h_23)
           (ld .sl h_23 (p.add 4) fun (x_25 : Sl) =>
            idx 9 x_25 r_10 fun p_12 =>
              ld .sl h_23 (p_12.add 1) fun (x_26 : Sl) =>
                idx 2 x_26 q_setv.2 fun p_13 =>
                  ld .str h_23 (p_13.add 0) fun (x_27 : ByteArray) =>
                    idx 1 r_1 r_10 fun p_14 =>
                       ld .sl h_23 p_14 fun (x_28 : Sl) =>
                        idx 1 x_28 j_1 fun p_15 =>
                          ld .str h_23 p_15 fun (x_29 : ByteArray) =>
                           k_5 (x_27.toList == x_29.toList) h_23))
           (joinW (fun _ (t_2 : Bool) h_25 =>
          ifB t_2
           (K (.bool false) h_25)
           (ar .i64 (j_1 + 1) fun n_5 =>
        next_4 n_5 h_25)) fun k_6 =>
        ifB (!q_setv.1)
         (idx 1 r_1 r_10 fun p_16 =>
            ld .sl h_23 p_16 fun (x_30 : Sl) =>
             idx 1 x_30 j_1 fun p_17 =>
               ld .str h_23 p_17 fun (x_31 : ByteArray) =>
                ACalls Try.prog F_lateenref12_In [r_9.v, .string x_31] h_23 fun v_11 h_26 => as1 .bool v_11 fun r_12 =>
                 k_6 (!r_12) h_26)
         (k_6 false h_23))) (false, 0) h_22)
         (ar .i64 (k_4 + 1) fun n_6 =>
      next_3 n_6 h_22)) 0 h_21)
       (ar .i64 (i + 1) fun n_7 =>
    next n_7 h_20)) 0 h_19)) 0 h_9))
     (K (.bool true) h_5)) 0 h_4)) fun k =>
  ACalls Try.prog F_lateenlaw12_awake [] h_1 fun v_12 h_27 => as1 .bool v_12 fun r_13 =>
  ifB (!r_13)
   (k true h_27)
   (ld (.agg 5) h_27 p fun (x_32 : Array Value) =>
   ACalls Try.prog F_lateenlaw12_few [.agg x_32] h_27 fun v_13 h_28 => as1 .bool v_13 fun r_14 =>
    k (!r_14) h_28)
def lateenlaw12_LiveWays_a : Ann := (.seq .leaf (.seq (.join [(23, .bool)] [1] .leaf (.cond (.seq .leaf .leaf) .leaf)) (.seq .leaf (.seq (.seq .leaf (.block (.loop [(4, .int .i64)] [1, 3] (.seq (.seq .leaf (.cond .leaf .leaf)) (.seq (.block (.seq .leaf (.seq (.seq .based (.cond (.seq .leaf .leaf) .leaf)) (.seq (.seq .leaf (.block (.loop [(6, .int .i64)] [1, 3, 4, 5] (.seq (.seq .leaf (.cond .leaf .leaf)) (.seq (.block (.seq .leaf (.seq .leaf (.seq (.seq .leaf (.block (.loop [(7, .sl), (9, .int .i64)] [1, 3, 4, 5, 6, 8] (.seq (.seq .leaf (.cond .leaf .leaf)) (.join [(7, .sl)] [1, 3, 4, 5, 6, 8, 9] (.block (.join [(89, .bool)] [1, 3, 4, 5, 6, 7, 8, 9] .leaf (.cond .leaf .leaf))) .leaf))))) (.seq .leaf (.cond (.seq .leaf .leaf) .leaf)))))) .leaf))))) (.seq .leaf (.seq .leaf (.block (.loop [(11, .int .i64)] [1, 3, 4, 5, 10] (.seq (.seq .leaf (.cond .leaf .leaf)) (.seq (.block (.seq .based (.seq .leaf (.block (.loop [(14, .int .i64)] [1, 3, 4, 5, 10, 11, 12] (.seq (.seq .leaf (.cond .leaf .leaf)) (.seq (.block (.seq .leaf (.seq (.seq .leaf (.block (.loop [(15, .bool), (16, .int .i64)] [1, 3, 4, 5, 10, 11, 12, 14] (.seq (.seq .leaf (.cond .leaf .leaf)) (.join [(15, .bool)] [1, 3, 4, 5, 10, 11, 12, 14, 16] (.block .leaf) .leaf))))) (.join [(182, .bool)] [1, 3, 4, 5, 10, 11, 12, 14] .leaf (.cond (.seq .leaf .leaf) .leaf))))) .leaf))))))) .leaf)))))))))) .leaf))))) (.seq .leaf .leaf)))))
theorem lateenlaw12_LiveWays_eq (f : Array Value) (h : Heap) (K : Value → Heap → Prop) : lateenlaw12_LiveWays f h K = fnW Try.prog ty lateenlaw12_LiveWays_a (bodyOf Try.f4) [.tmp 2] [.agg f] h K := by kernel_rfl
theorem lateenlaw12_LiveWays_of {f : Array Value} {h : Heap} {K : Value → Heap → Prop} (hw : lateenlaw12_LiveWays f h K) : ACalls Try.prog F_lateenlaw12_LiveWays [.agg f] h K :=
  calls_sound ty_ok mixed lateenlaw12_LiveWays_a (c := bodyOf Try.f4) Try.func4 (by kernel_rfl) (by kernel_rfl) (by kernel_rfl) (Nat.le_of_ble_eq_true rfl) (by rw [lateenlaw12_LiveWays_eq] at hw; exact hw)

/-- lateen/lateenlaw13.AssignWays -/
def lateenlaw13_AssignWays (f : Array Value) (turns : Sl) (h : Heap) (K : Value → Heap → Prop) : Prop :=
  new 40 f h fun p h_1 =>
  joinW (fun _ (t : Bool) h_2 =>
    ifB t
     (ACalls Try.prog F_lateenlaw13_awake [] h_2 fun v h_3 => as1 .bool v fun r =>
     K (.bool r) h_3)
     (ld (.agg 5) h_2 p fun (x : Array Value) =>
  ACalls Try.prog F_assign_Ins [.agg x] h_2 fun v_1 h_4 => as1 .sl v_1 fun r_1 =>
  loopW (fun _ (q_setv : Sl × Int) h_5 next =>
    ld .sl h_5 (p.add 2) fun (x_1 : Sl) =>
    ifB (decide (q_setv.2 < (x_1.len : Int)))
     (ld .sl h_5 (p.add 2) fun (x_2 : Sl) =>
    idx 2 x_2 q_setv.2 fun p_1 =>
    ld .str h_5 (p_1.add 0) fun (x_3 : ByteArray) =>
    ACalls Try.prog F_lateenref12_Put [q_setv.1.v, .string x_3] h_5 fun v_2 h_6 => as1 .sl v_2 fun r_2 =>
    ar .i64 (q_setv.2 + 1) fun n =>
    next (r_2, n) h_6)
     (loopW (fun _ (q_setv_1 : Sl × Int × Int) h_7 next_1 =>
    ifB (decide (q_setv_1.2.2 ≤ (turns.len : Int)))
     (ld .sl h_7 (p.add 4) fun (x_4 : Sl) =>
    idx 9 x_4 q_setv_1.2.1 fun p_2 =>
    ld (.agg 9) h_7 p_2 fun (x_5 : Array Value) =>
    new 51 #[.string ⟨#[]⟩, .slice none 0 0, .slice none 0 0, .int .i64 0, .int .i64 0, .string ⟨#[]⟩, .int .i64 0, .slice none 0 0, .int .i64 0] h_7 fun p_3 h_8 =>
    x_5.size = 9 ∧ st x_5.toList h_8 p_3 fun h_9 =>
    loopW (fun _ (q_setv_2 : Sl × Int) h_10 next_2 =>
      ld .sl h_10 (p_3.add 1) fun (x_6 : Sl) =>
      ifB (decide (q_setv_2.2 < (x_6.len : Int)))
       (ld .sl h_10 (p_3.add 1) fun (x_7 : Sl) =>
      idx 2 x_7 q_setv_2.2 fun p_4 =>
      ld .str h_10 (p_4.add 0) fun (x_8 : ByteArray) =>
      ACalls Try.prog F_lateenref12_Put [q_setv_2.1.v, .string x_8] h_10 fun v_3 h_11 => as1 .sl v_3 fun r_3 =>
      ar .i64 (q_setv_2.2 + 1) fun n_2 =>
      next_2 (r_3, n_2) h_11)
       (loopW (fun _ (k_2 : Int) h_12 next_3 =>
      idx 1 r_1 q_setv_1.2.1 fun p_5 =>
      ld .sl h_12 p_5 fun (x_9 : Sl) =>
      ifB (decide (k_2 < (x_9.len : Int)))
       (idx 1 r_1 q_setv_1.2.1 fun p_6 =>
      ld .sl h_12 p_6 fun (x_10 : Sl) =>
      idx 1 x_10 k_2 fun p_7 =>
      ld .str h_12 p_7 fun (x_11 : ByteArray) =>
      ACalls Try.prog F_lateenref12_In [q_setv_2.1.v, .string x_11] h_12 fun v_4 h_13 => as1 .bool v_4 fun r_4 =>
      ifB (!r_4)
       (K (.bool false) h_13)
       (ar .i64 (k_2 + 1) fun n_3 =>
      next_3 n_3 h_13))
       (loopW (fun _ (q_setv_3 : Sl × Int) h_14 next_4 =>
      ld .sl h_14 (p_3.add 2) fun (x_12 : Sl) =>
      ifB (decide (q_setv_3.2 < (x_12.len : Int)))
       (joinW (fun _ (setv_4 : Sl) h_15 =>
        ar .i64 (q_setv_3.2 + 1) fun n_4 =>
        next_4 (setv_4, n_4) h_15) fun k_4 =>
      ld .sl h_14 (p_3.add 2) fun (x_13 : Sl) =>
      idx 6 x_13 q_setv_3.2 fun p_8 =>
      ld .str h_14 (p_8.add 1) fun (x_14 : ByteArray) =>
      ifB (!(x_14.toList == (⟨#[]⟩ : ByteArray).toList))
       (ld .sl h_14 (p_3.add 2) fun (x_15 : Sl) =>
       idx 6 x_15 q_setv_3.2 fun p_9 =>
       ld .str h_14 (p_9.add 1) fun (x_16 : ByteArray) =>
       ACalls Try.prog F_lateenref12_Put [q_setv_3.1.v, .string x_16] h_14 fun v_5 h_16 => as1 .sl v_5 fun r_5 =>
       k_4 r_5 h_16)
       (k_4 q_setv_3.1 h_14))
       (joinW (fun _ (t_1 : Bool) h_17 =>
      ifB t_1
       (K (.bool true) h_17)
       (joinW (fun _ (turn : Int) h_18 =>
      ld (.agg 5) h_18 p fun (x_17 : Array Value) =>
      ld .sl h_18 ((p_3.add 3).add 4) fun (x_18 : Sl) =>
      idx 1 x_18 turn fun p_10 =>
      ld .str h_18 p_10 fun (x_19 : ByteArray) =>
      ACalls Try.prog F_lateenref08_Place [.agg x_17, .string x_19] h_18 fun v_6 h_19 => as2 (.int .i64) .bool v_6 fun r_6 _ =>
      hExt h_18 h_19 ∧ ar .i64 (q_setv_1.2.2 + 1) fun n_5 =>
    next_1 (q_setv_3.1, r_6, n_5) h_19) fun k_6 =>
    idx 1 turns q_setv_1.2.2 fun p_11 =>
    ld .bool h_17 p_11 fun (x_20 : Bool) =>
    ifB x_20
     (ld .sl h_17 ((p_3.add 3).add 4) fun (x_21 : Sl) =>
     ar .i64 ((x_21.len : Int) - 1) fun n_6 =>
     k_6 n_6 h_17)
     (k_6 0 h_17))) fun k_5 =>
    ifB (q_setv_1.2.2 == (turns.len : Int))
     (k_5 true h_14)
     (ld .sl h_14 ((p_3.add 3).add 4) fun (x_22 : Sl) =>
       k_5 ((x_22.len : Int) == 0) h_14))) (q_setv_2.1, 0) h_12)) 0 h_10)) (q_setv_1.1, 0) h_9)
     (K (.bool true) h_7)) (q_setv.1, 0, 0) h_5)) ((⟨none, 0, 0⟩ : Sl), 0) h_4)) fun k =>
  ACalls Try.prog F_lateenlaw13_awake [] h_1 fun v_7 h_20 => as1 .bool v_7 fun r_8 =>
  ifB (!r_8)
   (k true h_20)
   (ld (.agg 5) h_20 p fun (x_23 : Array Value) =>
   ACalls Try.prog F_lateenlaw13_few [.agg x_23] h_20 fun v_8 h_21 => as1 .bool v_8 fun r_9 =>
    ifB (!r_9)
      (k true h_21)
      (k (decide ((turns.len : Int) > 200)) h_21))
def lateenlaw13_AssignWays_a : Ann := (.seq .leaf (.seq (.join [(26, .bool)] [1, 2] .leaf (.cond (.seq .leaf .leaf) .leaf)) (.seq .leaf (.seq .leaf (.seq (.seq .leaf (.block (.loop [(6, .sl), (7, .int .i64)] [1, 2, 5] (.seq (.seq .leaf (.cond .leaf .leaf)) (.seq (.block .leaf) .leaf))))) (.seq .leaf (.seq (.seq .leaf (.block (.loop [(6, .sl), (8, .int .i64), (9, .int .i64)] [1, 2, 5] (.seq (.seq .leaf (.cond .leaf .leaf)) (.seq (.block (.seq .leaf (.seq (.seq .leaf (.block (.loop [(6, .sl), (11, .int .i64)] [1, 2, 5, 8, 9, 10] (.seq (.seq .leaf (.cond .leaf .leaf)) (.seq (.block .leaf) .leaf))))) (.seq (.seq .leaf (.block (.loop [(12, .int .i64)] [1, 2, 5, 6, 8, 9, 10] (.seq (.seq .leaf (.cond .leaf .leaf)) (.seq (.block (.seq .leaf (.cond (.seq .leaf .leaf) .leaf))) .leaf))))) (.seq (.seq .leaf (.block (.loop [(6, .sl), (13, .int .i64)] [1, 2, 5, 9, 10] (.seq (.seq .leaf (.cond .leaf .leaf)) (.join [(6, .sl)] [1, 2, 5, 9, 10, 13] (.block (.seq .leaf (.cond .leaf .leaf))) .leaf))))) (.seq (.join [(122, .bool)] [1, 2, 5, 6, 9, 10] .leaf (.cond (.seq .leaf .leaf) .leaf)) (.seq .leaf (.join [(14, .int .i64)] [1, 2, 5, 6, 9, 10] (.seq .leaf (.cond .leaf .leaf)) .based)))))))) .leaf))))) (.seq .leaf .leaf))))))))
theorem lateenlaw13_AssignWays_eq (f : Array Value) (turns : Sl) (h : Heap) (K : Value → Heap → Prop) : lateenlaw13_AssignWays f turns h K = fnW Try.prog ty lateenlaw13_AssignWays_a (bodyOf Try.f5) [.tmp 4] [.agg f, turns.v] h K := by kernel_rfl
theorem lateenlaw13_AssignWays_of {f : Array Value} {turns : Sl} {h : Heap} {K : Value → Heap → Prop} (hw : lateenlaw13_AssignWays f turns h K) : ACalls Try.prog F_lateenlaw13_AssignWays [.agg f, turns.v] h K :=
  calls_sound ty_ok mixed lateenlaw13_AssignWays_a (c := bodyOf Try.f5) Try.func5 (by kernel_rfl) (by kernel_rfl) (by kernel_rfl) (Nat.le_of_ble_eq_true rfl) (by rw [lateenlaw13_AssignWays_eq] at hw; exact hw)

/-- lateen/lateenlaw13.AssignMore -/
def lateenlaw13_AssignMore (f : Array Value) (name : ByteArray) (h : Heap) (K : Value → Heap → Prop) : Prop :=
  new 40 f h fun p h_1 =>
  joinW (fun _ (t : Bool) h_2 =>
    ifB t
     (ACalls Try.prog F_lateenlaw13_awake [] h_2 fun v h_3 => as1 .bool v fun r =>
     K (.bool r) h_3)
     (ld (.agg 5) h_2 p fun (x : Array Value) =>
  new 40 #[.string ⟨#[]⟩, .string ⟨#[]⟩, .slice none 0 0, .slice none 0 0, .slice none 0 0] h_2 fun p_1 h_4 =>
  x.size = 5 ∧ st x.toList h_4 p_1 fun h_5 =>
  bld si_Lapi_Var 0 [] h_5 fun s h_6 =>
  ld .sl h_6 (p.add 2) fun (x_1 : Sl) =>
  app si_Lapi_Var s x_1 h_6 fun s_1 h_7 =>
  bst [(0, 1), (1, 1)] #[.string ⟨#[]⟩, .string ⟨#[]⟩] [(0, .string name), (1, .string ⟨#[105, 110, 116]⟩)] fun c =>
  bld si_Lapi_Var 1 [(0, .agg c)] h_7 fun s_2 h_8 =>
  app si_Lapi_Var s_1 s_2 h_8 fun s_3 h_9 =>
  st [s_3.v] h_9 (p_1.add 2) fun h_10 =>
  ld (.agg 5) h_10 p_1 fun (x_2 : Array Value) =>
  ACalls Try.prog F_assign_Right [.agg x_2] h_10 fun v_1 h_11 => as1 .bool v_1 fun r_1 =>
  K (.bool r_1) h_11)) fun k =>
  ACalls Try.prog F_lateenlaw13_awake [] h_1 fun v_2 h_12 => as1 .bool v_2 fun r_2 =>
  ifB (!r_2)
   (k true h_12)
   (ld (.agg 5) h_12 p fun (x_3 : Array Value) =>
   ACalls Try.prog F_lateenlaw13_few [.agg x_3] h_12 fun v_3 h_13 => as1 .bool v_3 fun r_3 =>
    ifB (!r_3)
      (k true h_13)
      (ld (.agg 5) h_13 p fun (x_4 : Array Value) =>
      ACalls Try.prog F_assign_Right [.agg x_4] h_13 fun v_4 h_14 => as1 .bool v_4 fun r_4 =>
       k (!r_4) h_14))
def lateenlaw13_AssignMore_a : Ann := (.seq .leaf (.seq (.join [(17, .bool)] [1, 2] .leaf (.cond (.seq .leaf .leaf) .leaf)) (.seq .leaf (.seq .leaf (.seq .leaf .leaf)))))
theorem lateenlaw13_AssignMore_eq (f : Array Value) (name : ByteArray) (h : Heap) (K : Value → Heap → Prop) : lateenlaw13_AssignMore f name h K = fnW Try.prog ty lateenlaw13_AssignMore_a (bodyOf Try.f6) [.tmp 4] [.agg f, .string name] h K := by kernel_rfl
theorem lateenlaw13_AssignMore_of {f : Array Value} {name : ByteArray} {h : Heap} {K : Value → Heap → Prop} (hw : lateenlaw13_AssignMore f name h K) : ACalls Try.prog F_lateenlaw13_AssignMore [.agg f, .string name] h K :=
  calls_sound ty_ok mixed lateenlaw13_AssignMore_a (c := bodyOf Try.f6) Try.func6 (by kernel_rfl) (by kernel_rfl) (by kernel_rfl) (Nat.le_of_ble_eq_true rfl) (by rw [lateenlaw13_AssignMore_eq] at hw; exact hw)

/-- lateen/lateenlaw13.AssignLive -/
def lateenlaw13_AssignLive (f : Array Value) (h : Heap) (K : Value → Heap → Prop) : Prop :=
  new 40 f h fun p h_1 =>
  joinW (fun _ (t : Bool) h_2 =>
    ifB t
     (ACalls Try.prog F_lateenlaw13_awake [] h_2 fun v h_3 => as1 .bool v fun r =>
     K (.bool r) h_3)
     (ld (.agg 5) h_2 p fun (x : Array Value) =>
  ACalls Try.prog F_live_At [.agg x, .int .i64 0, .int .i64 0] h_2 fun v_1 h_4 => as1 .sl v_1 fun r_1 =>
  loopW (fun _ (i : Int) h_5 next =>
    ifB (decide (i < (r_1.len : Int)))
     (ld (.agg 5) h_5 p fun (x_1 : Array Value) =>
    idx 1 r_1 i fun p_1 =>
    ld .str h_5 p_1 fun (x_2 : ByteArray) =>
    ACalls Try.prog F_lateenref13_Param [.agg x_1, .string x_2] h_5 fun v_2 h_6 => as1 .bool v_2 fun r_2 =>
    ifB (!r_2)
     (K (.bool false) h_6)
     (ar .i64 (i + 1) fun n =>
    next n h_6))
     (K (.bool true) h_5)) 0 h_4)) fun k =>
  ACalls Try.prog F_lateenlaw13_awake [] h_1 fun v_3 h_7 => as1 .bool v_3 fun r_3 =>
  ifB (!r_3)
   (k true h_7)
   (ld (.agg 5) h_7 p fun (x_3 : Array Value) =>
   ACalls Try.prog F_lateenlaw13_few [.agg x_3] h_7 fun v_4 h_8 => as1 .bool v_4 fun r_4 =>
    ifB (!r_4)
      (k true h_8)
      (ld (.agg 5) h_8 p fun (x_4 : Array Value) =>
      ACalls Try.prog F_assign_Right [.agg x_4] h_8 fun v_5 h_9 => as1 .bool v_5 fun r_5 =>
       ifB (!r_5)
         (k true h_9)
         (ld .sl h_9 (p.add 4) fun (x_5 : Sl) =>
          idx 9 x_5 0 fun p_2 =>
           ld .sl h_9 (p_2.add 1) fun (x_6 : Sl) =>
             k (decide ((x_6.len : Int) > 0)) h_9)))
def lateenlaw13_AssignLive_a : Ann := (.seq .leaf (.seq (.join [(25, .bool)] [1] .leaf (.cond (.seq .leaf .leaf) .leaf)) (.seq .leaf (.seq (.seq .leaf (.block (.loop [(4, .int .i64)] [1, 3] (.seq (.seq .leaf (.cond .leaf .leaf)) (.seq (.block (.seq .leaf (.cond (.seq .leaf .leaf) .leaf))) .leaf))))) (.seq .leaf .leaf)))))
theorem lateenlaw13_AssignLive_eq (f : Array Value) (h : Heap) (K : Value → Heap → Prop) : lateenlaw13_AssignLive f h K = fnW Try.prog ty lateenlaw13_AssignLive_a (bodyOf Try.f7) [.tmp 2] [.agg f] h K := by kernel_rfl
theorem lateenlaw13_AssignLive_of {f : Array Value} {h : Heap} {K : Value → Heap → Prop} (hw : lateenlaw13_AssignLive f h K) : ACalls Try.prog F_lateenlaw13_AssignLive [.agg f] h K :=
  calls_sound ty_ok mixed lateenlaw13_AssignLive_a (c := bodyOf Try.f7) Try.func7 (by kernel_rfl) (by kernel_rfl) (by kernel_rfl) (Nat.le_of_ble_eq_true rfl) (by rw [lateenlaw13_AssignLive_eq] at hw; exact hw)

/-- lateen/lateenlaw12.awake -/
def lateenlaw12_awake  (h : Heap) (K : Value → Heap → Prop) : Prop :=
  bst [(0, 1), (1, 1), (2, 1)] #[.int .i64 0, .string ⟨#[]⟩, .int .i64 0] [(0, .int .i64 2), (2, .int .i64 1)] fun c =>
  new 47 #[.int .i64 0, .string ⟨#[]⟩, .int .i64 0] h fun p h_1 =>
  c.size = 3 ∧ st c.toList h_1 p fun h_2 =>
  ∃ (R : Heap → Prop) (h_3 : Heap) (L : List As) (S : Specs), R h_2 ∧ Sep h_3 h_2 L ∧ (ldF (.agg 3) R p fun (x : Array Value) =>
  freeW R h_3 (S 1 [.agg x]) [] (fun h_4 Kv =>
      bld si_Lapi_Arg 1 [(0, .agg x)] h_4 fun s h_5 =>
      Kv s.v h_5) fun v => as1 .sl v fun r =>
  bst [(0, 1), (1, 1), (2, 1), (3, 1), (4, 1), (5, 1)] #[.int .i64 0, .string ⟨#[]⟩, .string ⟨#[]⟩, .slice none 0 0, .slice none 0 0, .slice none 0 0] [(0, .int .i64 24), (1, .string ⟨#[120]⟩), (3, r.v)] fun c_1 =>
  freeW R h_3 (S 3 []) [] (fun h_6 Kv_1 =>
      ACalls Try.prog F_lateenlaw12_v [.string ⟨#[120]⟩] h_6 fun v_1 h_7 => as1 (.agg 3) v_1 fun r_1 =>
      Kv_1 (.agg r_1) h_7) fun v_2 => as1 (.agg 3) v_2 fun r_2 =>
  freeW R h_3 (S 4 []) [] (fun h_8 Kv_2 =>
      ACalls Try.prog F_lateenlaw12_v [.string ⟨#[122]⟩] h_8 fun v_3 h_9 => as1 (.agg 3) v_3 fun r_3 =>
      Kv_2 (.agg r_3) h_9) fun v_4 => as1 (.agg 3) v_4 fun r_4 =>
  freeW R h_3 (S 5 [.agg r_2, .agg r_4]) ((S 3 []).A v_2 ++ ((S 4 []).A v_4 ++ [])) (fun h_10 Kv_3 =>
      bld si_Lapi_Arg 2 [(0, .agg r_2), (1, .agg r_4)] h_10 fun s_1 h_11 =>
      Kv_3 s_1.v h_11) fun v_5 => as1 .sl v_5 fun r_5 =>
  bst [(0, 1), (1, 1), (2, 1), (3, 1), (4, 1), (5, 1)] #[.int .i64 0, .string ⟨#[]⟩, .string ⟨#[]⟩, .slice none 0 0, .slice none 0 0, .slice none 0 0] [(0, .int .i64 1), (1, .string ⟨#[121]⟩), (3, r_5.v)] fun c_2 =>
  freeW R h_3 (S 7 [.agg c_1, .agg c_2]) [] (fun h_12 Kv_4 =>
      bld si_Lapi_Instr 2 [(0, .agg c_1), (1, .agg c_2)] h_12 fun s_2 h_13 =>
      Kv_4 s_2.v h_13) fun v_6 => as1 .sl v_6 fun r_6 =>
  freeW R h_3 (S 8 []) [] (fun h_14 Kv_5 =>
      ACalls Try.prog F_lateenlaw12_v [.string ⟨#[121]⟩] h_14 fun v_7 h_15 => as1 (.agg 3) v_7 fun r_7 =>
      Kv_5 (.agg r_7) h_15) fun v_8 => as1 (.agg 3) v_8 fun r_8 =>
  bst [(0, 1), (1, 3), (4, 1), (5, 1)] #[.int .i64 0, .int .i64 0, .string ⟨#[]⟩, .int .i64 0, .slice none 0 0, .int .i64 0] [(0, .int .i64 3), (1, .agg r_8)] fun c_3 =>
  bst [(0, 1), (1, 1), (2, 1), (3, 6)] #[.string ⟨#[]⟩, .slice none 0 0, .slice none 0 0, .int .i64 0, .int .i64 0, .string ⟨#[]⟩, .int .i64 0, .slice none 0 0, .int .i64 0] [(0, .string ⟨#[98]⟩), (2, r_6.v), (3, .agg c_3)] fun c_4 =>
  freeW R h_3 (S 11 []) [] (fun h_16 Kv_6 =>
      new 51 #[.string ⟨#[]⟩, .slice none 0 0, .slice none 0 0, .int .i64 0, .int .i64 0, .string ⟨#[]⟩, .int .i64 0, .slice none 0 0, .int .i64 0] h_16 fun p_1 h_17 =>
      Kv_6 (.pointer (some p_1)) h_17) fun v_9 => asP v_9 fun p_2 =>
  endF R h_3 ((S 1 [.agg x]).A v ++ ((S 5 [.agg r_2, .agg r_4]).A v_5 ++ ((S 7 [.agg c_1, .agg c_2]).A v_6 ++ ((S 8 []).A v_8 ++ ((S 11 []).A v_9 ++ (L ++ [])))))) fun h_18 =>
  c_4.size = 9 ∧ st c_4.toList h_18 p_2 fun h_19 =>
  ld (.agg 9) h_19 p_2 fun (x_1 : Array Value) =>
  bld si_Lapi_Block 1 [(0, .agg x_1)] h_19 fun s_3 h_20 =>
  bst [(0, 1), (1, 1), (2, 1), (3, 1), (4, 1)] #[.string ⟨#[]⟩, .string ⟨#[]⟩, .slice none 0 0, .slice none 0 0, .slice none 0 0] [(4, s_3.v)] fun c_5 =>
  new 40 #[.string ⟨#[]⟩, .string ⟨#[]⟩, .slice none 0 0, .slice none 0 0, .slice none 0 0] h_20 fun p_3 h_21 =>
  c_5.size = 5 ∧ st c_5.toList h_21 p_3 fun h_22 =>
  joinW (fun _ (t : Bool) h_23 =>
    K (.bool t) h_23) fun k =>
  ld (.agg 5) h_22 p_3 fun (x_2 : Array Value) =>
  ACalls Try.prog F_live_At [.agg x_2, .int .i64 0, .int .i64 0] h_22 fun v_10 h_24 => as1 .sl v_10 fun r_9 =>
  bld si_Lstring 1 [(0, .string ⟨#[122]⟩)] h_24 fun s_4 h_25 =>
  ACalls Try.prog F_lateenref12_Same [r_9.v, s_4.v] h_25 fun v_11 h_26 => as1 .bool v_11 fun r_10 =>
  ifB r_10
   (ld (.agg 5) h_26 p_3 fun (x_3 : Array Value) =>
   ACalls Try.prog F_live_At [.agg x_3, .int .i64 0, .int .i64 1] h_26 fun v_12 h_27 => as1 .sl v_12 fun r_11 =>
    bld si_Lstring 2 [(0, .string ⟨#[120]⟩), (1, .string ⟨#[122]⟩)] h_27 fun s_5 h_28 =>
     ACalls Try.prog F_lateenref12_Same [r_11.v, s_5.v] h_28 fun v_13 h_29 => as1 .bool v_13 fun r_12 =>
      ifB r_12
       (ld (.agg 5) h_29 p_3 fun (x_4 : Array Value) =>
       ACalls Try.prog F_live_At [.agg x_4, .int .i64 0, .int .i64 2] h_29 fun v_14 h_30 => as1 .sl v_14 fun r_13 =>
        bld si_Lstring 1 [(0, .string ⟨#[121]⟩)] h_30 fun s_6 h_31 =>
         ACalls Try.prog F_lateenref12_Same [r_13.v, s_6.v] h_31 fun v_15 h_32 => as1 .bool v_15 fun r_14 =>
          ifB r_14
           (ld (.agg 5) h_32 p_3 fun (x_5 : Array Value) =>
           ACalls Try.prog F_live_At [.agg x_5, .int .i64 0, .int .i64 3] h_32 fun v_16 h_33 => as1 .sl v_16 fun r_15 =>
            k ((r_15.len : Int) == 0) h_33)
           (k false h_32))
       (k false h_29))
   (k false h_26))
def lateenlaw12_awake_a : Ann := (.seq .leaf (.seq .leaf (.seq (.free 12 [[], [], [], [], [], [3, 4], [], [], [], [], [], [], []] [1, 3, 4, 5, 7, 8, 11, 13]) (.seq .leaf (.join [(0, .bool)] [] .leaf .leaf)))))
theorem lateenlaw12_awake_eq  (h : Heap) (K : Value → Heap → Prop) : lateenlaw12_awake  h K = fnW Try.prog ty lateenlaw12_awake_a (bodyOf Try.f8) [.tmp 0] [] h K := by kernel_rfl
theorem lateenlaw12_awake_of  {h : Heap} {K : Value → Heap → Prop} (hw : lateenlaw12_awake  h K) : ACalls Try.prog F_lateenlaw12_awake [] h K :=
  calls_sound ty_ok mixed lateenlaw12_awake_a (c := bodyOf Try.f8) Try.func8 (by kernel_rfl) (by kernel_rfl) (by kernel_rfl) (Nat.le_of_ble_eq_true rfl) (by rw [lateenlaw12_awake_eq] at hw; exact hw)

/-- lateen/lateenref12.Same -/
def lateenref12_Same (a : Sl) (b : Sl) (h : Heap) (K : Value → Heap → Prop) : Prop :=
  ifB ((a.len : Int) != (b.len : Int))
   (K (.bool false) h)
   (loopW (fun _ (i : Int) h_1 next =>
    ifB (decide (i < (a.len : Int)))
     (idx 1 a i fun p =>
    ld .str h_1 p fun (x : ByteArray) =>
    idx 1 b i fun p_1 =>
    ld .str h_1 p_1 fun (x_1 : ByteArray) =>
    ifB (!(x.toList == x_1.toList))
     (K (.bool false) h_1)
     (ar .i64 (i + 1) fun n =>
    next n h_1))
     (K (.bool true) h_1)) 0 h)
def lateenref12_Same_a : Ann := (.seq .leaf (.seq (.seq .leaf (.cond (.seq .leaf .leaf) .leaf)) (.seq (.seq .leaf (.block (.loop [(5, .int .i64)] [0, 1] (.seq (.seq .leaf (.cond .leaf .leaf)) (.seq (.block (.seq .leaf (.cond (.seq .leaf .leaf) .leaf))) .leaf))))) (.seq .leaf .leaf))))
theorem lateenref12_Same_eq (a : Sl) (b : Sl) (h : Heap) (K : Value → Heap → Prop) : lateenref12_Same a b h K = fnW Try.prog ty lateenref12_Same_a (bodyOf Try.f9) [.tmp 4] [a.v, b.v] h K := by kernel_rfl
theorem lateenref12_Same_of {a : Sl} {b : Sl} {h : Heap} {K : Value → Heap → Prop} (hw : lateenref12_Same a b h K) : ACalls Try.prog F_lateenref12_Same [a.v, b.v] h K :=
  calls_sound ty_ok mixed lateenref12_Same_a (c := bodyOf Try.f9) Try.func9 (by kernel_rfl) (by kernel_rfl) (by kernel_rfl) (Nat.le_of_ble_eq_true rfl) (by rw [lateenref12_Same_eq] at hw; exact hw)

/-- lateen/live.Uses -/
def live_Uses (i : Array Value) (h : Heap) (K : Value → Heap → Prop) : Prop :=
  new 26 i h fun p h_1 =>
  mkm h_1 fun m h_2 =>
  ld (.agg 6) h_2 p fun (x : Array Value) =>
  ACalls Try.prog F_live_set_instr [.map m, .agg x] h_2 fun v h_3 => as0 v (
  ACalls Try.prog F_live_set_names [.map m] h_3 fun v_1 h_4 => as1 .sl v_1 fun r =>
  K r.v h_4)
def live_Uses_a : Ann := (.seq .leaf (.seq .leaf (.seq .leaf (.seq .leaf .leaf))))
theorem live_Uses_eq (i : Array Value) (h : Heap) (K : Value → Heap → Prop) : live_Uses i h K = fnW Try.prog ty live_Uses_a (bodyOf Try.f10) [.tmp 2] [.agg i] h K := by kernel_rfl
theorem live_Uses_of {i : Array Value} {h : Heap} {K : Value → Heap → Prop} (hw : live_Uses i h K) : ACalls Try.prog F_live_Uses [.agg i] h K :=
  calls_sound ty_ok mixed live_Uses_a (c := bodyOf Try.f10) Try.func10 (by kernel_rfl) (by kernel_rfl) (by kernel_rfl) (Nat.le_of_ble_eq_true rfl) (by rw [live_Uses_eq] at hw; exact hw)

/-- lateen/lateenref12.Uses -/
def lateenref12_Uses (x : Array Value) (h : Heap) (K : Value → Heap → Prop) : Prop :=
  new 26 x h fun p h_1 =>
  loopW (fun _ (q_out : Sl × Int) h_2 next =>
    ld .sl h_2 (p.add 3) fun (x_1 : Sl) =>
    ifB (decide (q_out.2 < (x_1.len : Int)))
     (ld .sl h_2 (p.add 3) fun (x_2 : Sl) =>
    idx 3 x_2 q_out.2 fun p_1 =>
    ld (.agg 3) h_2 p_1 fun (x_3 : Array Value) =>
    ACalls Try.prog F_lateenref12_add [q_out.1.v, .agg x_3] h_2 fun v h_3 => as1 .sl v fun r =>
    ar .i64 (q_out.2 + 1) fun n =>
    next (r, n) h_3)
     (loopW (fun _ (q_out_1 : Sl × Int) h_4 next_1 =>
    ld .sl h_4 (p.add 4) fun (x_4 : Sl) =>
    ifB (decide (q_out_1.2 < (x_4.len : Int)))
     (loopW (fun _ (q_out_2 : Sl × Int) h_5 next_2 =>
      ld .sl h_5 (p.add 4) fun (x_5 : Sl) =>
      idx 4 x_5 q_out_1.2 fun p_2 =>
      ld .sl h_5 (p_2.add 3) fun (x_6 : Sl) =>
      ifB (decide (q_out_2.2 < (x_6.len : Int)))
       (ld .sl h_5 (p.add 4) fun (x_7 : Sl) =>
      idx 4 x_7 q_out_1.2 fun p_3 =>
      ld .sl h_5 (p_3.add 3) fun (x_8 : Sl) =>
      idx 4 x_8 q_out_2.2 fun p_4 =>
      ld (.agg 3) h_5 (p_4.add 1) fun (x_9 : Array Value) =>
      ACalls Try.prog F_lateenref12_add [q_out_2.1.v, .agg x_9] h_5 fun v_1 h_6 => as1 .sl v_1 fun r_1 =>
      ar .i64 (q_out_2.2 + 1) fun n_1 =>
      next_2 (r_1, n_1) h_6)
       (ar .i64 (q_out_1.2 + 1) fun n_2 =>
    next_1 (q_out_2.1, n_2) h_5)) (q_out_1.1, 0) h_4)
     (loopW (fun _ (q_out_3 : Sl × Int) h_7 next_3 =>
    ld .sl h_7 (p.add 5) fun (x_10 : Sl) =>
    ifB (decide (q_out_3.2 < (x_10.len : Int)))
     (loopW (fun _ (q_out_4 : Sl × Int) h_8 next_4 =>
      ld .sl h_8 (p.add 5) fun (x_11 : Sl) =>
      idx 2 x_11 q_out_3.2 fun p_5 =>
      ld .sl h_8 (p_5.add 1) fun (x_12 : Sl) =>
      ifB (decide (q_out_4.2 < (x_12.len : Int)))
       (ld .sl h_8 (p.add 5) fun (x_13 : Sl) =>
      idx 2 x_13 q_out_3.2 fun p_6 =>
      ld .sl h_8 (p_6.add 1) fun (x_14 : Sl) =>
      idx 3 x_14 q_out_4.2 fun p_7 =>
      ld (.agg 3) h_8 p_7 fun (x_15 : Array Value) =>
      ACalls Try.prog F_lateenref12_add [q_out_4.1.v, .agg x_15] h_8 fun v_2 h_9 => as1 .sl v_2 fun r_2 =>
      ar .i64 (q_out_4.2 + 1) fun n_3 =>
      next_4 (r_2, n_3) h_9)
       (ar .i64 (q_out_3.2 + 1) fun n_4 =>
    next_3 (q_out_4.1, n_4) h_8)) (q_out_3.1, 0) h_7)
     (K q_out_3.1.v h_7)) (q_out_1.1, 0) h_4)) (q_out.1, 0) h_2)) ((⟨none, 0, 0⟩ : Sl), 0) h_1
def lateenref12_Uses_a : Ann := (.seq .leaf (.seq .leaf (.seq (.seq .leaf (.block (.loop [(3, .sl), (4, .int .i64)] [1] (.seq (.seq .leaf (.cond .leaf .leaf)) (.seq (.block .leaf) .leaf))))) (.seq (.seq .leaf (.block (.loop [(3, .sl), (5, .int .i64)] [1] (.seq (.seq .leaf (.cond .leaf .leaf)) (.seq (.block (.seq .leaf (.block (.loop [(3, .sl), (6, .int .i64)] [1, 5] (.seq (.seq .leaf (.cond .leaf .leaf)) (.seq (.block .leaf) .leaf)))))) .leaf))))) (.seq (.seq .leaf (.block (.loop [(3, .sl), (7, .int .i64)] [1] (.seq (.seq .leaf (.cond .leaf .leaf)) (.seq (.block (.seq .leaf (.block (.loop [(3, .sl), (8, .int .i64)] [1, 7] (.seq (.seq .leaf (.cond .leaf .leaf)) (.seq (.block .leaf) .leaf)))))) .leaf))))) (.seq .leaf .leaf))))))
theorem lateenref12_Uses_eq (x : Array Value) (h : Heap) (K : Value → Heap → Prop) : lateenref12_Uses x h K = fnW Try.prog ty lateenref12_Uses_a (bodyOf Try.f11) [.tmp 2] [.agg x] h K := by kernel_rfl
theorem lateenref12_Uses_of {x : Array Value} {h : Heap} {K : Value → Heap → Prop} (hw : lateenref12_Uses x h K) : ACalls Try.prog F_lateenref12_Uses [.agg x] h K :=
  calls_sound ty_ok mixed lateenref12_Uses_a (c := bodyOf Try.f11) Try.func11 (by kernel_rfl) (by kernel_rfl) (by kernel_rfl) (Nat.le_of_ble_eq_true rfl) (by rw [lateenref12_Uses_eq] at hw; exact hw)

/-- lateen/lateenlaw12.few -/
def lateenlaw12_few (f : Array Value) (h : Heap) (K : Value → Heap → Prop) : Prop :=
  new 40 f h fun p h_1 =>
  joinW (fun _ (t : Bool) h_2 =>
    K (.bool t) h_2) fun k =>
  ld (.agg 5) h_1 p fun (x : Array Value) =>
  ACalls Try.prog F_lateenref06_FewFunc [.agg x, .int .i64 3000] h_1 fun v h_3 => as1 (.int .i64) v fun r =>
  ifB (decide (r ≤ 3000))
   (ld (.agg 5) h_3 p fun (x_1 : Array Value) =>
   ACalls Try.prog F_lateenref08_Few [.agg x_1] h_3 fun v_1 h_4 => as1 .bool v_1 fun r_1 =>
    ifB r_1
     (ld .sl h_4 (p.add 4) fun (x_2 : Sl) =>
      ifB (decide ((x_2.len : Int) ≤ 30))
         (ld (.agg 5) h_4 p fun (x_3 : Array Value) =>
         ACalls Try.prog F_lateenref08_Right [.agg x_3] h_4 fun v_2 h_5 => as1 .bool v_2 fun r_2 =>
          k r_2 h_5)
         (k false h_4))
     (k false h_4))
   (k false h_3)
def lateenlaw12_few_a : Ann := (.seq .leaf (.join [(2, .bool)] [] .leaf .leaf))
theorem lateenlaw12_few_eq (f : Array Value) (h : Heap) (K : Value → Heap → Prop) : lateenlaw12_few f h K = fnW Try.prog ty lateenlaw12_few_a (bodyOf Try.f12) [.tmp 2] [.agg f] h K := by kernel_rfl
theorem lateenlaw12_few_of {f : Array Value} {h : Heap} {K : Value → Heap → Prop} (hw : lateenlaw12_few f h K) : ACalls Try.prog F_lateenlaw12_few [.agg f] h K :=
  calls_sound ty_ok mixed lateenlaw12_few_a (c := bodyOf Try.f12) Try.func12 (by kernel_rfl) (by kernel_rfl) (by kernel_rfl) (Nat.le_of_ble_eq_true rfl) (by rw [lateenlaw12_few_eq] at hw; exact hw)

/-- lateen/live.Ins -/
def live_Ins (f : Array Value) (h : Heap) (K : Value → Heap → Prop) : Prop :=
  new 40 f h fun p h_1 =>
  ld (.agg 5) h_1 p fun (x : Array Value) =>
  ACalls Try.prog F_live_all [.agg x] h_1 fun v h_2 => as1 .sl v fun r =>
  loopW (fun _ (q_out : Sl × Int) h_3 next =>
    ifB (decide (q_out.2 < (r.len : Int)))
     (idx 1 r q_out.2 fun p_1 =>
    ld .map h_3 p_1 fun (x_1 : Option Nat) =>
    ACalls Try.prog F_live_set_names [.map x_1] h_3 fun v_1 h_4 => as1 .sl v_1 fun r_1 =>
    bld si_LLstring 1 [(0, r_1.v)] h_4 fun s h_5 =>
    app si_LLstring q_out.1 s h_5 fun s_1 h_6 =>
    ar .i64 (q_out.2 + 1) fun n =>
    next (s_1, n) h_6)
     (K q_out.1.v h_3)) ((⟨none, 0, 0⟩ : Sl), 0) h_2
def live_Ins_a : Ann := (.seq .leaf (.seq .leaf (.seq (.seq .leaf (.block (.loop [(3, .sl), (9, .int .i64)] [7, 8] (.seq .leaf (.seq (.cond .leaf .leaf) (.seq (.block (.seq .leaf .leaf)) .leaf)))))) (.seq .leaf .leaf))))
theorem live_Ins_eq (f : Array Value) (h : Heap) (K : Value → Heap → Prop) : live_Ins f h K = fnW Try.prog ty live_Ins_a (bodyOf Try.f13) [.tmp 2] [.agg f] h K := by kernel_rfl
theorem live_Ins_of {f : Array Value} {h : Heap} {K : Value → Heap → Prop} (hw : live_Ins f h K) : ACalls Try.prog F_live_Ins [.agg f] h K :=
  calls_sound ty_ok mixed live_Ins_a (c := bodyOf Try.f13) Try.func13 (by kernel_rfl) (by kernel_rfl) (by kernel_rfl) (Nat.le_of_ble_eq_true rfl) (by rw [live_Ins_eq] at hw; exact hw)

/-- lateen/live.At -/
def live_At (f : Array Value) (block : Int) (atv : Int) (h : Heap) (K : Value → Heap → Prop) : Prop :=
  new 40 f h fun p h_1 =>
  joinW (fun _ (t : Bool) h_2 =>
    ifB t
     (K ((⟨none, 0, 0⟩ : Sl).v) h_2)
     (ld (.agg 5) h_2 p fun (x : Array Value) =>
  ld (.agg 5) h_2 p fun (x_1 : Array Value) =>
  ACalls Try.prog F_live_all [.agg x_1] h_2 fun v h_3 => as1 .sl v fun r =>
  hExt h_2 h_3 ∧ ACalls Try.prog F_live_end [.agg x, r.v, .int .i64 block] h_3 fun v_1 h_4 => as1 .map v_1 fun r_1 =>
  hExt h_3 h_4 ∧ ld .sl h_4 (p.add 4) fun (x_2 : Sl) =>
  idx 9 x_2 block fun p_1 =>
  ld (.agg 9) h_4 p_1 fun (x_3 : Array Value) =>
  ACalls Try.prog F_live_set_back [.map r_1, .agg x_3, .int .i64 atv] h_4 fun v_2 h_5 => as0 v_2 (
  ACalls Try.prog F_live_set_names [.map r_1] h_5 fun v_3 h_6 => as1 .sl v_3 fun r_2 =>
  K r_2.v h_6))) fun k =>
  ifB (decide (block < 0))
   (k true h_1)
   (ld .sl h_1 (p.add 4) fun (x_4 : Sl) =>
     ifB (decide (block ≥ (x_4.len : Int)))
        (k true h_1)
        (ifB (decide (atv < 0))
          (k true h_1)
          (ld .sl h_1 (p.add 4) fun (x_5 : Sl) =>
            idx 9 x_5 block fun p_2 =>
              ld .sl h_1 (p_2.add 2) fun (x_6 : Sl) =>
                k (decide (atv > (x_6.len : Int))) h_1)))
def live_At_a : Ann := (.seq .leaf (.seq (.join [(31, .bool)] [1, 2, 3] .leaf (.cond (.seq .leaf .leaf) .leaf)) (.seq .based (.seq .leaf (.seq .leaf .leaf)))))
theorem live_At_eq (f : Array Value) (block : Int) (atv : Int) (h : Heap) (K : Value → Heap → Prop) : live_At f block atv h K = fnW Try.prog ty live_At_a (bodyOf Try.f14) [.tmp 6] [.agg f, .int .i64 block, .int .i64 atv] h K := by kernel_rfl
theorem live_At_of {f : Array Value} {block : Int} {atv : Int} {h : Heap} {K : Value → Heap → Prop} (hw : live_At f block atv h K) : ACalls Try.prog F_live_At [.agg f, .int .i64 block, .int .i64 atv] h K :=
  calls_sound ty_ok mixed live_At_a (c := bodyOf Try.f14) Try.func14 (by kernel_rfl) (by kernel_rfl) (by kernel_rfl) (Nat.le_of_ble_eq_true rfl) (by rw [live_At_eq] at hw; exact hw)

/-- lateen/lateenref12.Put -/
def lateenref12_Put (l : Sl) (s : ByteArray) (h : Heap) (K : Value → Heap → Prop) : Prop :=
  loopW (fun _ (q_out : Sl × Int) h_1 next =>
    ifB (decide (q_out.2 < (l.len : Int)))
     (joinW (fun _ (out_1 : Sl) h_2 =>
      ar .i64 (q_out.2 + 1) fun n =>
      next (out_1, n) h_2) fun k =>
    idx 1 l q_out.2 fun p =>
    ld .str h_1 p fun (x : ByteArray) =>
    ifB (Op.bytesLess x.toList s.toList)
     (idx 1 l q_out.2 fun p_1 =>
     ld .str h_1 p_1 fun (x_1 : ByteArray) =>
     bld si_Lstring 1 [(0, .string x_1)] h_1 fun s_1 h_3 =>
     app si_Lstring q_out.1 s_1 h_3 fun s_2 h_4 =>
     k s_2 h_4)
     (k q_out.1 h_1))
     (bld si_Lstring 1 [(0, .string s)] h_1 fun s_3 h_5 =>
  app si_Lstring q_out.1 s_3 h_5 fun s_4 h_6 =>
  loopW (fun _ (q_out_2 : Sl × Int) h_7 next_1 =>
    ifB (decide (q_out_2.2 < (l.len : Int)))
     (joinW (fun _ (out_3 : Sl) h_8 =>
      ar .i64 (q_out_2.2 + 1) fun n_1 =>
      next_1 (out_3, n_1) h_8) fun k_1 =>
    idx 1 l q_out_2.2 fun p_2 =>
    ld .str h_7 p_2 fun (x_2 : ByteArray) =>
    ifB (!(Op.bytesLess x_2.toList s.toList || x_2.toList == s.toList))
     (idx 1 l q_out_2.2 fun p_3 =>
     ld .str h_7 p_3 fun (x_3 : ByteArray) =>
     bld si_Lstring 1 [(0, .string x_3)] h_7 fun s_5 h_9 =>
     app si_Lstring q_out_2.1 s_5 h_9 fun s_6 h_10 =>
     k_1 s_6 h_10)
     (k_1 q_out_2.1 h_7))
     (K q_out_2.1.v h_7)) (s_4, 0) h_6)) ((⟨none, 0, 0⟩ : Sl), 0) h
def lateenref12_Put_a : Ann := (.seq .leaf (.seq .leaf (.seq (.seq .leaf (.block (.loop [(5, .sl), (6, .int .i64)] [0, 1] (.seq (.seq .leaf (.cond .leaf .leaf)) (.join [(5, .sl)] [0, 1, 6] (.block (.seq .leaf (.cond .leaf .leaf))) .leaf))))) (.seq .leaf (.seq (.seq .leaf (.block (.loop [(5, .sl), (7, .int .i64)] [0, 1] (.seq (.seq .leaf (.cond .leaf .leaf)) (.join [(5, .sl)] [0, 1, 7] (.block (.seq .leaf (.cond .leaf .leaf))) .leaf))))) (.seq .leaf .leaf))))))
theorem lateenref12_Put_eq (l : Sl) (s : ByteArray) (h : Heap) (K : Value → Heap → Prop) : lateenref12_Put l s h K = fnW Try.prog ty lateenref12_Put_a (bodyOf Try.f15) [.tmp 4] [l.v, .string s] h K := by kernel_rfl
theorem lateenref12_Put_of {l : Sl} {s : ByteArray} {h : Heap} {K : Value → Heap → Prop} (hw : lateenref12_Put l s h K) : ACalls Try.prog F_lateenref12_Put [l.v, .string s] h K :=
  calls_sound ty_ok mixed lateenref12_Put_a (c := bodyOf Try.f15) Try.func15 (by kernel_rfl) (by kernel_rfl) (by kernel_rfl) (Nat.le_of_ble_eq_true rfl) (by rw [lateenref12_Put_eq] at hw; exact hw)

/-- lateen/lateenref08.Place -/
def lateenref08_Place (f : Array Value) (name : ByteArray) (h : Heap) (K : Value → Heap → Prop) : Prop :=
  new 40 f h fun p h_1 =>
  loopW (fun _ (i : Int) h_2 next =>
    ld .sl h_2 (p.add 4) fun (x : Sl) =>
    ifB (decide (i < (x.len : Int)))
     (ld .sl h_2 (p.add 4) fun (x_1 : Sl) =>
    idx 9 x_1 i fun p_1 =>
    ld .str h_2 (p_1.add 0) fun (x_2 : ByteArray) =>
    ifB (x_2.toList == name.toList)
     (K (.tuple #[.int .i64 i, .bool true]) h_2)
     (ar .i64 (i + 1) fun n =>
    next n h_2))
     (K (.tuple #[.int .i64 0, .bool false]) h_2)) 0 h_1
def lateenref08_Place_a : Ann := (.seq .leaf (.seq (.seq .leaf (.block (.loop [(6, .int .i64)] [1, 2] (.seq (.seq .leaf (.cond .leaf .leaf)) (.seq (.block (.seq .leaf (.cond (.seq .leaf .leaf) .leaf))) .leaf))))) (.seq .leaf .leaf)))
theorem lateenref08_Place_eq (f : Array Value) (name : ByteArray) (h : Heap) (K : Value → Heap → Prop) : lateenref08_Place f name h K = fnW Try.prog ty lateenref08_Place_a (bodyOf Try.f16) [.tmp 4, .tmp 5] [.agg f, .string name] h K := by kernel_rfl
theorem lateenref08_Place_of {f : Array Value} {name : ByteArray} {h : Heap} {K : Value → Heap → Prop} (hw : lateenref08_Place f name h K) : ACalls Try.prog F_lateenref08_Place [.agg f, .string name] h K :=
  calls_sound ty_ok mixed lateenref08_Place_a (c := bodyOf Try.f16) Try.func16 (by kernel_rfl) (by kernel_rfl) (by kernel_rfl) (Nat.le_of_ble_eq_true rfl) (by rw [lateenref08_Place_eq] at hw; exact hw)

/-- lateen/lateenref12.In -/
def lateenref12_In (l : Sl) (s : ByteArray) (h : Heap) (K : Value → Heap → Prop) : Prop :=
  loopW (fun _ (i : Int) h_1 next =>
    ifB (decide (i < (l.len : Int)))
     (idx 1 l i fun p =>
    ld .str h_1 p fun (x : ByteArray) =>
    ifB (x.toList == s.toList)
     (K (.bool true) h_1)
     (ar .i64 (i + 1) fun n =>
    next n h_1))
     (K (.bool false) h_1)) 0 h
def lateenref12_In_a : Ann := (.seq .leaf (.seq (.seq .leaf (.block (.loop [(5, .int .i64)] [0, 1] (.seq (.seq .leaf (.cond .leaf .leaf)) (.seq (.block (.seq .leaf (.cond (.seq .leaf .leaf) .leaf))) .leaf))))) (.seq .leaf .leaf)))
theorem lateenref12_In_eq (l : Sl) (s : ByteArray) (h : Heap) (K : Value → Heap → Prop) : lateenref12_In l s h K = fnW Try.prog ty lateenref12_In_a (bodyOf Try.f17) [.tmp 4] [l.v, .string s] h K := by kernel_rfl
theorem lateenref12_In_of {l : Sl} {s : ByteArray} {h : Heap} {K : Value → Heap → Prop} (hw : lateenref12_In l s h K) : ACalls Try.prog F_lateenref12_In [l.v, .string s] h K :=
  calls_sound ty_ok mixed lateenref12_In_a (c := bodyOf Try.f17) Try.func17 (by kernel_rfl) (by kernel_rfl) (by kernel_rfl) (Nat.le_of_ble_eq_true rfl) (by rw [lateenref12_In_eq] at hw; exact hw)

/-- lateen/lateenlaw13.awake -/
def lateenlaw13_awake  (h : Heap) (K : Value → Heap → Prop) : Prop :=
  bst [(0, 1), (1, 1), (2, 1)] #[.int .i64 0, .string ⟨#[]⟩, .int .i64 0] [(0, .int .i64 1), (1, .string ⟨#[120]⟩)] fun c =>
  new 47 #[.int .i64 0, .string ⟨#[]⟩, .int .i64 0] h fun p h_1 =>
  c.size = 3 ∧ st c.toList h_1 p fun h_2 =>
  bst [(0, 1), (1, 1), (2, 1)] #[.int .i64 0, .string ⟨#[]⟩, .int .i64 0] [(0, .int .i64 2), (2, .int .i64 1)] fun c_1 =>
  bld si_Lapi_Arg 1 [(0, .agg c_1)] h_2 fun s h_3 =>
  bst [(0, 1), (1, 1), (2, 1), (3, 1), (4, 1), (5, 1)] #[.int .i64 0, .string ⟨#[]⟩, .string ⟨#[]⟩, .slice none 0 0, .slice none 0 0, .slice none 0 0] [(0, .int .i64 24), (1, .string ⟨#[120]⟩), (3, s.v)] fun c_2 =>
  new 26 #[.int .i64 0, .string ⟨#[]⟩, .string ⟨#[]⟩, .slice none 0 0, .slice none 0 0, .slice none 0 0] h_3 fun p_1 h_4 =>
  c_2.size = 6 ∧ st c_2.toList h_4 p_1 fun h_5 =>
  bst [(0, 1), (1, 1)] #[.string ⟨#[]⟩, .string ⟨#[]⟩] [(0, .string ⟨#[107]⟩), (1, .string ⟨#[105, 110, 116]⟩)] fun c_3 =>
  bld si_Lapi_Var 1 [(0, .agg c_3)] h_5 fun s_1 h_6 =>
  bst [(0, 1), (1, 1), (2, 1)] #[.int .i64 0, .string ⟨#[]⟩, .int .i64 0] [(0, .int .i64 1), (1, .string ⟨#[107]⟩)] fun c_4 =>
  bld si_Lstring 2 [(0, .string ⟨#[98, 49]⟩), (1, .string ⟨#[98, 50]⟩)] h_6 fun s_2 h_7 =>
  bst [(0, 1), (1, 3), (4, 1), (5, 1)] #[.int .i64 0, .int .i64 0, .string ⟨#[]⟩, .int .i64 0, .slice none 0 0, .int .i64 0] [(0, .int .i64 2), (1, .agg c_4), (2, s_2.v)] fun c_5 =>
  bst [(0, 1), (1, 1), (2, 1), (3, 6)] #[.string ⟨#[]⟩, .slice none 0 0, .slice none 0 0, .int .i64 0, .int .i64 0, .string ⟨#[]⟩, .int .i64 0, .slice none 0 0, .int .i64 0] [(0, .string ⟨#[98, 48]⟩), (3, .agg c_5)] fun c_6 =>
  ld (.agg 6) h_7 p_1 fun (x : Array Value) =>
  bld si_Lapi_Instr 1 [(0, .agg x)] h_7 fun s_3 h_8 =>
  bld si_Lstring 1 [(0, .string ⟨#[98, 50]⟩)] h_8 fun s_4 h_9 =>
  bst [(0, 1), (1, 3), (4, 1), (5, 1)] #[.int .i64 0, .int .i64 0, .string ⟨#[]⟩, .int .i64 0, .slice none 0 0, .int .i64 0] [(0, .int .i64 1), (2, s_4.v)] fun c_7 =>
  bst [(0, 1), (1, 1), (2, 1), (3, 6)] #[.string ⟨#[]⟩, .slice none 0 0, .slice none 0 0, .int .i64 0, .int .i64 0, .string ⟨#[]⟩, .int .i64 0, .slice none 0 0, .int .i64 0] [(0, .string ⟨#[98, 49]⟩), (2, s_3.v), (3, .agg c_7)] fun c_8 =>
  ld (.agg 3) h_9 p fun (x_1 : Array Value) =>
  bst [(0, 1), (1, 3), (4, 1), (5, 1)] #[.int .i64 0, .int .i64 0, .string ⟨#[]⟩, .int .i64 0, .slice none 0 0, .int .i64 0] [(0, .int .i64 3), (1, .agg x_1)] fun c_9 =>
  bst [(0, 1), (1, 1), (2, 1), (3, 6)] #[.string ⟨#[]⟩, .slice none 0 0, .slice none 0 0, .int .i64 0, .int .i64 0, .string ⟨#[]⟩, .int .i64 0, .slice none 0 0, .int .i64 0] [(0, .string ⟨#[98, 50]⟩), (3, .agg c_9)] fun c_10 =>
  bld si_Lapi_Block 3 [(0, .agg c_6), (1, .agg c_8), (2, .agg c_10)] h_9 fun s_5 h_10 =>
  bst [(0, 1), (1, 1), (2, 1), (3, 1), (4, 1)] #[.string ⟨#[]⟩, .string ⟨#[]⟩, .slice none 0 0, .slice none 0 0, .slice none 0 0] [(2, s_1.v), (4, s_5.v)] fun c_11 =>
  new 40 #[.string ⟨#[]⟩, .string ⟨#[]⟩, .slice none 0 0, .slice none 0 0, .slice none 0 0] h_10 fun p_2 h_11 =>
  c_11.size = 5 ∧ st c_11.toList h_11 p_2 fun h_12 =>
  ld (.agg 5) h_12 p_2 fun (x_2 : Array Value) =>
  ACalls Try.prog F_assign_Ins [.agg x_2] h_12 fun v h_13 => as1 .sl v fun r =>
  ld (.agg 5) h_13 p_2 fun (x_3 : Array Value) =>
  ACalls Try.prog F_assign_Right [.agg x_3] h_13 fun v_1 h_14 => as1 .bool v_1 fun r_1 =>
  ld .sl h_14 (p_2.add 4) fun (x_4 : Sl) =>
  ld (.agg 6) h_14 p_1 fun (x_5 : Array Value) =>
  bld si_Lapi_Instr 1 [(0, .agg x_5)] h_14 fun s_6 h_15 =>
  idx 9 x_4 2 fun p_3 =>
  st [s_6.v] h_15 (p_3.add 2) fun h_16 =>
  joinW (fun _ (t : Bool) h_17 =>
    K (.bool t) h_17) fun k =>
  ifB ((r.len : Int) == 3)
   (idx 1 r 2 fun p_4 =>
    ld .sl h_16 p_4 fun (x_6 : Sl) =>
     bld si_Lstring 1 [(0, .string ⟨#[107]⟩)] h_16 fun s_7 h_18 =>
      ACalls Try.prog F_lateenref12_Same [x_6.v, s_7.v] h_18 fun v_2 h_19 => as1 .bool v_2 fun r_2 =>
       ifB r_2
        (ifB (!r_1)
         (ld (.agg 5) h_19 p_2 fun (x_7 : Array Value) =>
         ACalls Try.prog F_assign_Right [.agg x_7] h_19 fun v_3 h_20 => as1 .bool v_3 fun r_3 =>
          k r_3 h_20)
         (k false h_19))
        (k false h_19))
   (k false h_16)
def lateenlaw13_awake_a : Ann := (.seq .leaf (.seq .leaf (.seq .leaf (.seq .leaf (.seq .leaf (.seq .leaf (.seq .leaf (.join [(0, .bool)] [] .leaf .leaf))))))))
theorem lateenlaw13_awake_eq  (h : Heap) (K : Value → Heap → Prop) : lateenlaw13_awake  h K = fnW Try.prog ty lateenlaw13_awake_a (bodyOf Try.f18) [.tmp 0] [] h K := by kernel_rfl
theorem lateenlaw13_awake_of  {h : Heap} {K : Value → Heap → Prop} (hw : lateenlaw13_awake  h K) : ACalls Try.prog F_lateenlaw13_awake [] h K :=
  calls_sound ty_ok mixed lateenlaw13_awake_a (c := bodyOf Try.f18) Try.func18 (by kernel_rfl) (by kernel_rfl) (by kernel_rfl) (Nat.le_of_ble_eq_true rfl) (by rw [lateenlaw13_awake_eq] at hw; exact hw)

/-- lateen/lateenlaw13.few -/
def lateenlaw13_few (f : Array Value) (h : Heap) (K : Value → Heap → Prop) : Prop :=
  new 40 f h fun p h_1 =>
  joinW (fun _ (t : Bool) h_2 =>
    K (.bool t) h_2) fun k =>
  ld (.agg 5) h_1 p fun (x : Array Value) =>
  ACalls Try.prog F_lateenref06_FewFunc [.agg x, .int .i64 3000] h_1 fun v h_3 => as1 (.int .i64) v fun r =>
  ifB (decide (r ≤ 3000))
   (ld (.agg 5) h_3 p fun (x_1 : Array Value) =>
   ACalls Try.prog F_lateenref08_Few [.agg x_1] h_3 fun v_1 h_4 => as1 .bool v_1 fun r_1 =>
    ifB r_1
     (ld .sl h_4 (p.add 4) fun (x_2 : Sl) =>
      ifB (decide ((x_2.len : Int) ≤ 30))
         (ld (.agg 5) h_4 p fun (x_3 : Array Value) =>
         ACalls Try.prog F_lateenref08_Right [.agg x_3] h_4 fun v_2 h_5 => as1 .bool v_2 fun r_2 =>
          k r_2 h_5)
         (k false h_4))
     (k false h_4))
   (k false h_3)
def lateenlaw13_few_a : Ann := (.seq .leaf (.join [(2, .bool)] [] .leaf .leaf))
theorem lateenlaw13_few_eq (f : Array Value) (h : Heap) (K : Value → Heap → Prop) : lateenlaw13_few f h K = fnW Try.prog ty lateenlaw13_few_a (bodyOf Try.f19) [.tmp 2] [.agg f] h K := by kernel_rfl
theorem lateenlaw13_few_of {f : Array Value} {h : Heap} {K : Value → Heap → Prop} (hw : lateenlaw13_few f h K) : ACalls Try.prog F_lateenlaw13_few [.agg f] h K :=
  calls_sound ty_ok mixed lateenlaw13_few_a (c := bodyOf Try.f19) Try.func19 (by kernel_rfl) (by kernel_rfl) (by kernel_rfl) (Nat.le_of_ble_eq_true rfl) (by rw [lateenlaw13_few_eq] at hw; exact hw)

/-- lateen/assign.Ins -/
def assign_Ins (f : Array Value) (h : Heap) (K : Value → Heap → Prop) : Prop :=
  new 40 f h fun p h_1 =>
  ld (.agg 5) h_1 p fun (x : Array Value) =>
  ACalls Try.prog F_assign_all [.agg x] h_1 fun v h_2 => as1 .sl v fun r =>
  loopW (fun _ (q_out : Sl × Int) h_3 next =>
    ifB (decide (q_out.2 < (r.len : Int)))
     (idx 1 r q_out.2 fun p_1 =>
    ld .map h_3 p_1 fun (x_1 : Option Nat) =>
    ACalls Try.prog F_maps_Keys_0 [.map x_1] h_3 fun v_1 h_4 => as1 .fn v_1 fun r_1 =>
    ACalls Try.prog F_slices_Sorted [r_1] h_4 fun v_2 h_5 => as1 .sl v_2 fun r_2 =>
    bld si_LLstring 1 [(0, r_2.v)] h_5 fun s h_6 =>
    app si_LLstring q_out.1 s h_6 fun s_1 h_7 =>
    ar .i64 (q_out.2 + 1) fun n =>
    next (s_1, n) h_7)
     (K q_out.1.v h_3)) ((⟨none, 0, 0⟩ : Sl), 0) h_2
def assign_Ins_a : Ann := (.seq .leaf (.seq .leaf (.seq (.seq .leaf (.block (.loop [(3, .sl), (9, .int .i64)] [7, 8] (.seq .leaf (.seq (.cond .leaf .leaf) (.seq (.block (.seq .leaf .leaf)) .leaf)))))) (.seq .leaf .leaf))))
theorem assign_Ins_eq (f : Array Value) (h : Heap) (K : Value → Heap → Prop) : assign_Ins f h K = fnW Try.prog ty assign_Ins_a (bodyOf Try.f20) [.tmp 2] [.agg f] h K := by kernel_rfl
theorem assign_Ins_of {f : Array Value} {h : Heap} {K : Value → Heap → Prop} (hw : assign_Ins f h K) : ACalls Try.prog F_assign_Ins [.agg f] h K :=
  calls_sound ty_ok mixed assign_Ins_a (c := bodyOf Try.f20) Try.func20 (by kernel_rfl) (by kernel_rfl) (by kernel_rfl) (Nat.le_of_ble_eq_true rfl) (by rw [assign_Ins_eq] at hw; exact hw)

/-- lateen/assign.Right -/
def assign_Right (f : Array Value) (h : Heap) (K : Value → Heap → Prop) : Prop :=
  new 40 f h fun p h_1 =>
  mkm h_1 fun m h_2 =>
  ld (.agg 5) h_2 p fun (x : Array Value) =>
  ACalls Try.prog F_assign_all [.agg x] h_2 fun v h_3 => as1 .sl v fun r =>
  loopW (fun _ (t : Int) h_4 next =>
    ifB (decide (t < (r.len : Int)))
     (idx 1 r t fun p_1 =>
    ld .map h_4 p_1 fun (x_1 : Option Nat) =>
    ld .sl h_4 (p.add 4) fun (x_2 : Sl) =>
    idx 9 x_2 t fun p_2 =>
    ld (.agg 9) h_4 p_2 fun (x_3 : Array Value) =>
    ACalls Try.prog F_assign_set_block [.map x_1, .agg x_3] h_4 fun v_1 h_5 => as1 .bool v_1 fun r_1 =>
    ifB (!r_1)
     (K (.bool false) h_5)
     (ld .sl h_5 (p.add 4) fun (x_4 : Sl) =>
    idx 9 x_4 t fun p_3 =>
    ld .str h_5 (p_3.add 0) fun (x_5 : ByteArray) =>
    ld .sl h_5 (p.add 4) fun (x_6 : Sl) =>
    idx 9 x_6 t fun p_4 =>
    ld (.agg 9) h_5 p_4 fun (x_7 : Array Value) =>
    ACalls Try.prog F_assign_set_over [.map x_1, .agg x_7] h_5 fun v_2 h_6 => as1 .map v_2 fun r_2 =>
    hExt h_5 h_6 ∧ mup .string m (.string x_5) (.map r_2) h_6 fun h_7 =>
    hExt h_6 h_7 ∧ ar .i64 (t + 1) fun n =>
    next n h_7))
     (ld (.agg 5) h_4 p fun (x_8 : Array Value) =>
  ACalls Try.prog F_assign_phis [.agg x_8, .map m] h_4 fun v_3 h_8 => as1 .bool v_3 fun r_3 =>
  K (.bool r_3) h_8)) 0 h_3
def assign_Right_a : Ann := (.seq .leaf (.seq .leaf (.seq (.seq .leaf (.block (.loop [(10, .int .i64)] [1, 3, 8, 9] (.seq .leaf (.seq (.cond .leaf .leaf) (.seq (.block (.seq .leaf (.seq (.seq .leaf (.cond (.seq .leaf .leaf) .leaf)) .based))) .leaf)))))) (.seq .leaf .leaf))))
theorem assign_Right_eq (f : Array Value) (h : Heap) (K : Value → Heap → Prop) : assign_Right f h K = fnW Try.prog ty assign_Right_a (bodyOf Try.f21) [.tmp 2] [.agg f] h K := by kernel_rfl
theorem assign_Right_of {f : Array Value} {h : Heap} {K : Value → Heap → Prop} (hw : assign_Right f h K) : ACalls Try.prog F_assign_Right [.agg f] h K :=
  calls_sound ty_ok mixed assign_Right_a (c := bodyOf Try.f21) Try.func21 (by kernel_rfl) (by kernel_rfl) (by kernel_rfl) (Nat.le_of_ble_eq_true rfl) (by rw [assign_Right_eq] at hw; exact hw)

/-- lateen/lateenref13.Param -/
def lateenref13_Param (f : Array Value) (v : ByteArray) (h : Heap) (K : Value → Heap → Prop) : Prop :=
  new 40 f h fun p h_1 =>
  loopW (fun _ (i : Int) h_2 next =>
    ld .sl h_2 (p.add 2) fun (x : Sl) =>
    ifB (decide (i < (x.len : Int)))
     (ld .sl h_2 (p.add 2) fun (x_1 : Sl) =>
    idx 2 x_1 i fun p_1 =>
    ld .str h_2 (p_1.add 0) fun (x_2 : ByteArray) =>
    ifB (x_2.toList == v.toList)
     (K (.bool true) h_2)
     (ar .i64 (i + 1) fun n =>
    next n h_2))
     (K (.bool false) h_2)) 0 h_1
def lateenref13_Param_a : Ann := (.seq .leaf (.seq (.seq .leaf (.block (.loop [(5, .int .i64)] [1, 2] (.seq (.seq .leaf (.cond .leaf .leaf)) (.seq (.block (.seq .leaf (.cond (.seq .leaf .leaf) .leaf))) .leaf))))) (.seq .leaf .leaf)))
theorem lateenref13_Param_eq (f : Array Value) (v : ByteArray) (h : Heap) (K : Value → Heap → Prop) : lateenref13_Param f v h K = fnW Try.prog ty lateenref13_Param_a (bodyOf Try.f22) [.tmp 4] [.agg f, .string v] h K := by kernel_rfl
theorem lateenref13_Param_of {f : Array Value} {v : ByteArray} {h : Heap} {K : Value → Heap → Prop} (hw : lateenref13_Param f v h K) : ACalls Try.prog F_lateenref13_Param [.agg f, .string v] h K :=
  calls_sound ty_ok mixed lateenref13_Param_a (c := bodyOf Try.f22) Try.func22 (by kernel_rfl) (by kernel_rfl) (by kernel_rfl) (Nat.le_of_ble_eq_true rfl) (by rw [lateenref13_Param_eq] at hw; exact hw)

/-- lateen/lateenlaw12.v -/
def lateenlaw12_v (s : ByteArray) (h : Heap) (K : Value → Heap → Prop) : Prop :=
  new 47 #[.int .i64 0, .string ⟨#[]⟩, .int .i64 0] h fun p h_1 =>
  bst [(0, 1), (1, 1), (2, 1)] #[.int .i64 0, .string ⟨#[]⟩, .int .i64 0] [(0, .int .i64 1), (1, .string s)] fun c =>
  c.size = 3 ∧ st c.toList h_1 p fun h_2 =>
  ld (.agg 3) h_2 p fun (x : Array Value) => K (.agg x) h_2
def lateenlaw12_v_a : Ann := (.seq .leaf (.seq .leaf .leaf))
theorem lateenlaw12_v_eq (s : ByteArray) (h : Heap) (K : Value → Heap → Prop) : lateenlaw12_v s h K = fnW Try.prog ty lateenlaw12_v_a (bodyOf Try.f23) [.cell 2 47] [.string s] h K := by kernel_rfl
theorem lateenlaw12_v_of {s : ByteArray} {h : Heap} {K : Value → Heap → Prop} (hw : lateenlaw12_v s h K) : ACalls Try.prog F_lateenlaw12_v [.string s] h K :=
  calls_sound ty_ok mixed lateenlaw12_v_a (c := bodyOf Try.f23) Try.func23 (by kernel_rfl) (by kernel_rfl) (by kernel_rfl) (Nat.le_of_ble_eq_true rfl) (by rw [lateenlaw12_v_eq] at hw; exact hw)

/-- (lateen/live.set).instr -/
def live_set_instr (s : Option Nat) (i : Array Value) (h : Heap) (K : Value → Heap → Prop) : Prop :=
  new 26 i h fun p h_1 =>
  ld .sl h_1 (p.add 3) fun (x : Sl) =>
  loopW (fun _ (t : Int) h_2 next =>
    ifB (decide (t < (x.len : Int)))
     (idx 3 x t fun p_1 =>
    ld (.agg 3) h_2 p_1 fun (x_1 : Array Value) =>
    new 47 #[.int .i64 0, .string ⟨#[]⟩, .int .i64 0] h_2 fun p_2 h_3 =>
    x_1.size = 3 ∧ st x_1.toList h_3 p_2 fun h_4 =>
    ld (.agg 3) h_4 p_2 fun (x_2 : Array Value) =>
    ACalls Try.prog F_live_set_arg [.map s, .agg x_2] h_4 fun v h_5 => as0 v (
    ar .i64 (t + 1) fun n =>
    next n h_5))
     (ld .sl h_2 (p.add 4) fun (x_3 : Sl) =>
  loopW (fun _ (t_1 : Int) h_6 next_1 =>
    ifB (decide (t_1 < (x_3.len : Int)))
     (idx 4 x_3 t_1 fun p_3 =>
    ld (.agg 4) h_6 p_3 fun (x_4 : Array Value) =>
    new 30 #[.string ⟨#[]⟩, .string ⟨#[]⟩, .int .i64 0, .slice none 0 0] h_6 fun p_4 h_7 =>
    x_4.size = 4 ∧ st x_4.toList h_7 p_4 fun h_8 =>
    ld .sl h_8 (p_4.add 3) fun (x_5 : Sl) =>
    loopW (fun _ (t_2 : Int) h_9 next_2 =>
      ifB (decide (t_2 < (x_5.len : Int)))
       (idx 4 x_5 t_2 fun p_5 =>
      ld (.agg 4) h_9 p_5 fun (x_6 : Array Value) =>
      new 72 #[.string ⟨#[]⟩, .int .i64 0, .string ⟨#[]⟩, .int .i64 0] h_9 fun p_6 h_10 =>
      x_6.size = 4 ∧ st x_6.toList h_10 p_6 fun h_11 =>
      ld (.agg 3) h_11 (p_6.add 1) fun (x_7 : Array Value) =>
      ACalls Try.prog F_live_set_arg [.map s, .agg x_7] h_11 fun v_1 h_12 => as0 v_1 (
      ar .i64 (t_2 + 1) fun n_1 =>
      next_2 n_1 h_12))
       (ar .i64 (t_1 + 1) fun n_2 =>
    next_1 n_2 h_9)) 0 h_8)
     (ld .sl h_6 (p.add 5) fun (x_8 : Sl) =>
  loopW (fun _ (t_3 : Int) h_13 next_3 =>
    ifB (decide (t_3 < (x_8.len : Int)))
     (idx 2 x_8 t_3 fun p_7 =>
    ld (.agg 2) h_13 p_7 fun (x_9 : Array Value) =>
    new 32 #[.string ⟨#[]⟩, .slice none 0 0] h_13 fun p_8 h_14 =>
    x_9.size = 2 ∧ st x_9.toList h_14 p_8 fun h_15 =>
    ld .sl h_15 (p_8.add 1) fun (x_10 : Sl) =>
    loopW (fun _ (t_4 : Int) h_16 next_4 =>
      ifB (decide (t_4 < (x_10.len : Int)))
       (idx 3 x_10 t_4 fun p_9 =>
      ld (.agg 3) h_16 p_9 fun (x_11 : Array Value) =>
      new 47 #[.int .i64 0, .string ⟨#[]⟩, .int .i64 0] h_16 fun p_10 h_17 =>
      x_11.size = 3 ∧ st x_11.toList h_17 p_10 fun h_18 =>
      ld (.agg 3) h_18 p_10 fun (x_12 : Array Value) =>
      ACalls Try.prog F_live_set_arg [.map s, .agg x_12] h_18 fun v_2 h_19 => as0 v_2 (
      ar .i64 (t_4 + 1) fun n_3 =>
      next_4 n_3 h_19))
       (ar .i64 (t_3 + 1) fun n_4 =>
    next_3 n_4 h_16)) 0 h_15)
     (K (.tuple #[]) h_13)) 0 h_6)) 0 h_2)) 0 h_1
def live_set_instr_a : Ann := (.seq .leaf (.seq (.seq .leaf (.block (.loop [(17, .int .i64)] [0, 3, 15, 16] (.seq .leaf (.seq (.cond .leaf .leaf) (.seq (.block (.seq .leaf .leaf)) .leaf)))))) (.seq (.seq .leaf (.block (.loop [(28, .int .i64)] [0, 3, 26, 27] (.seq .leaf (.seq (.cond .leaf .leaf) (.seq (.block (.seq .leaf (.seq .leaf (.block (.loop [(35, .int .i64)] [0, 3, 26, 27, 28, 33, 34] (.seq .leaf (.seq (.cond .leaf .leaf) (.seq (.block (.seq .leaf .leaf)) .leaf)))))))) .leaf)))))) (.seq .leaf (.block (.loop [(48, .int .i64)] [0, 46, 47] (.seq .leaf (.seq (.cond .leaf .leaf) (.seq (.block (.seq .leaf (.seq .leaf (.block (.loop [(55, .int .i64)] [0, 46, 47, 48, 53, 54] (.seq .leaf (.seq (.cond .leaf .leaf) (.seq (.block (.seq .leaf .leaf)) .leaf)))))))) .leaf)))))))))
theorem live_set_instr_eq (s : Option Nat) (i : Array Value) (h : Heap) (K : Value → Heap → Prop) : live_set_instr s i h K = fnW Try.prog ty live_set_instr_a (bodyOf Try.f24) [] [.map s, .agg i] h K := by kernel_rfl
theorem live_set_instr_of {s : Option Nat} {i : Array Value} {h : Heap} {K : Value → Heap → Prop} (hw : live_set_instr s i h K) : ACalls Try.prog F_live_set_instr [.map s, .agg i] h K :=
  calls_sound ty_ok mixed live_set_instr_a (c := bodyOf Try.f24) Try.func24 (by kernel_rfl) (by kernel_rfl) (by kernel_rfl) (Nat.le_of_ble_eq_true rfl) (by rw [live_set_instr_eq] at hw; exact hw)

/-- (lateen/live.set).names -/
def live_set_names (s : Option Nat) (h : Heap) (K : Value → Heap → Prop) : Prop :=
  ACalls Try.prog F_maps_Keys_1 [.map s] h fun v h_1 => as1 .fn v fun r =>
  ACalls Try.prog F_slices_Sorted [r] h_1 fun v_1 h_2 => as1 .sl v_1 fun r_1 =>
  K r_1.v h_2
def live_set_names_a : Ann := (.seq .leaf (.seq .leaf .leaf))
theorem live_set_names_eq (s : Option Nat) (h : Heap) (K : Value → Heap → Prop) : live_set_names s h K = fnW Try.prog ty live_set_names_a (bodyOf Try.f25) [.tmp 2] [.map s] h K := by kernel_rfl
theorem live_set_names_of {s : Option Nat} {h : Heap} {K : Value → Heap → Prop} (hw : live_set_names s h K) : ACalls Try.prog F_live_set_names [.map s] h K :=
  calls_sound ty_ok mixed live_set_names_a (c := bodyOf Try.f25) Try.func25 (by kernel_rfl) (by kernel_rfl) (by kernel_rfl) (Nat.le_of_ble_eq_true rfl) (by rw [live_set_names_eq] at hw; exact hw)

/-- lateen/lateenref12.add -/
def lateenref12_add (l : Sl) (a : Array Value) (h : Heap) (K : Value → Heap → Prop) : Prop :=
  new 47 a h fun p h_1 =>
  ld (.int .i64) h_1 (p.add 0) fun (x : Int) =>
  ifB (x == 1)
   (ld .str h_1 (p.add 1) fun (x_1 : ByteArray) =>
   ACalls Try.prog F_lateenref12_Put [l.v, .string x_1] h_1 fun v h_2 => as1 .sl v fun r =>
   K r.v h_2)
   (K l.v h_1)
def lateenref12_add_a : Ann := (.seq .leaf (.seq (.seq .leaf (.cond (.seq .leaf .leaf) .leaf)) (.seq .leaf .leaf)))
theorem lateenref12_add_eq (l : Sl) (a : Array Value) (h : Heap) (K : Value → Heap → Prop) : lateenref12_add l a h K = fnW Try.prog ty lateenref12_add_a (bodyOf Try.f26) [.tmp 4] [l.v, .agg a] h K := by kernel_rfl
theorem lateenref12_add_of {l : Sl} {a : Array Value} {h : Heap} {K : Value → Heap → Prop} (hw : lateenref12_add l a h K) : ACalls Try.prog F_lateenref12_add [l.v, .agg a] h K :=
  calls_sound ty_ok mixed lateenref12_add_a (c := bodyOf Try.f26) Try.func26 (by kernel_rfl) (by kernel_rfl) (by kernel_rfl) (Nat.le_of_ble_eq_true rfl) (by rw [lateenref12_add_eq] at hw; exact hw)

/-- lateen/lateenref06.FewFunc -/
def lateenref06_FewFunc (f : Array Value) (most : Int) (h : Heap) (K : Value → Heap → Prop) : Prop :=
  new 40 f h fun p h_1 =>
  ld .sl h_1 (p.add 4) fun (x : Sl) =>
  ifB (decide ((x.len : Int) > most))
   (ar .i64 (most + 1) fun n =>
   K (.int .i64 n) h_1)
   (ld .str h_1 (p.add 0) fun (x_1 : ByteArray) =>
  ar .i64 (1 + (x_1.size : Int)) fun n_1 =>
  joinW (fun _ (n_2 : Int) h_2 =>
    joinW (fun _ (n_3 : Int) h_3 =>
      joinW (fun _ (n_4 : Int) h_4 =>
        loopW (fun _ (q_n_5 : Int × Int) h_5 next =>
          joinW (fun _ (t : Bool) h_6 =>
            ifB t
             (ld .sl h_6 (p.add 4) fun (x_2 : Sl) =>
          idx 9 x_2 q_n_5.2 fun p_1 =>
          ld (.agg 9) h_6 p_1 fun (x_3 : Array Value) =>
          ACalls Try.prog F_lateenref06_countBlock [.agg x_3, .int .i64 most] h_6 fun v h_7 => as1 (.int .i64) v fun r =>
          ar .i64 (q_n_5.1 + r) fun n_6 =>
          ar .i64 (q_n_5.2 + 1) fun n_7 =>
          next (n_6, n_7) h_7)
             (K (.int .i64 q_n_5.1) h_6)) fun k_3 =>
          ld .sl h_5 (p.add 4) fun (x_4 : Sl) =>
          ifB (decide (q_n_5.2 < (x_4.len : Int)))
           (k_3 (decide (q_n_5.1 ≤ most)) h_5)
           (k_3 false h_5)) (n_4, 0) h_4) fun k_2 =>
      ifB (decide (n_3 ≤ most))
       (ld .sl h_3 (p.add 3) fun (x_5 : Sl) =>
       ACalls Try.prog F_lateenref06_countVars [x_5.v, .int .i64 most] h_3 fun v_1 h_8 => as1 (.int .i64) v_1 fun r_1 =>
       ar .i64 (n_3 + r_1) fun n_8 =>
       k_2 n_8 h_8)
       (k_2 n_3 h_3)) fun k_1 =>
    ifB (decide (n_2 ≤ most))
     (ld .sl h_2 (p.add 2) fun (x_6 : Sl) =>
     ACalls Try.prog F_lateenref06_countVars [x_6.v, .int .i64 most] h_2 fun v_2 h_9 => as1 (.int .i64) v_2 fun r_2 =>
     ar .i64 (n_2 + r_2) fun n_9 =>
     k_1 n_9 h_9)
     (k_1 n_2 h_2)) fun k =>
  ifB (decide (n_1 ≤ most))
   (ld .str h_1 (p.add 1) fun (x_7 : ByteArray) =>
   ar .i64 (n_1 + (x_7.size : Int)) fun n_10 =>
   k n_10 h_1)
   (k n_1 h_1))
def lateenref06_FewFunc_a : Ann := (.seq .leaf (.seq (.seq .leaf (.cond (.seq .leaf .leaf) .leaf)) (.seq .leaf (.join [(5, .int .i64)] [1, 2] (.seq .leaf (.cond .leaf .leaf)) (.join [(5, .int .i64)] [1, 2] (.seq .leaf (.cond .leaf .leaf)) (.join [(5, .int .i64)] [1, 2] (.seq .leaf (.cond .leaf .leaf)) (.seq (.seq .leaf (.block (.loop [(5, .int .i64), (6, .int .i64)] [1, 2] (.seq (.join [(53, .bool)] [1, 2, 5, 6] .leaf (.cond .leaf .leaf)) (.seq (.block .leaf) .leaf))))) (.seq .leaf .leaf))))))))
theorem lateenref06_FewFunc_eq (f : Array Value) (most : Int) (h : Heap) (K : Value → Heap → Prop) : lateenref06_FewFunc f most h K = fnW Try.prog ty lateenref06_FewFunc_a (bodyOf Try.f27) [.tmp 4] [.agg f, .int .i64 most] h K := by kernel_rfl
theorem lateenref06_FewFunc_of {f : Array Value} {most : Int} {h : Heap} {K : Value → Heap → Prop} (hw : lateenref06_FewFunc f most h K) : ACalls Try.prog F_lateenref06_FewFunc [.agg f, .int .i64 most] h K :=
  calls_sound ty_ok mixed lateenref06_FewFunc_a (c := bodyOf Try.f27) Try.func27 (by kernel_rfl) (by kernel_rfl) (by kernel_rfl) (Nat.le_of_ble_eq_true rfl) (by rw [lateenref06_FewFunc_eq] at hw; exact hw)

/-- lateen/lateenref08.Few -/
def lateenref08_Few (f : Array Value) (h : Heap) (K : Value → Heap → Prop) : Prop :=
  new 40 f h fun p h_1 =>
  ld .sl h_1 (p.add 4) fun (x : Sl) =>
  ifB (decide ((x.len : Int) > 60))
   (K (.bool false) h_1)
   (loopW (fun _ (i : Int) h_2 next =>
    ld .sl h_2 (p.add 4) fun (x_1 : Sl) =>
    ifB (decide (i < (x_1.len : Int)))
     (joinW (fun _ (t : Bool) h_3 =>
      ifB t
       (K (.bool false) h_3)
       (loopW (fun _ (k_1 : Int) h_4 next_1 =>
      ld .sl h_4 (p.add 4) fun (x_2 : Sl) =>
      idx 9 x_2 i fun p_1 =>
      ld .sl h_4 (p_1.add 1) fun (x_3 : Sl) =>
      ifB (decide (k_1 < (x_3.len : Int)))
       (ld .sl h_4 (p.add 4) fun (x_4 : Sl) =>
      idx 9 x_4 i fun p_2 =>
      ld .sl h_4 (p_2.add 1) fun (x_5 : Sl) =>
      idx 2 x_5 k_1 fun p_3 =>
      ld .sl h_4 (p_3.add 1) fun (x_6 : Sl) =>
      ifB (decide ((x_6.len : Int) > 60))
       (K (.bool false) h_4)
       (ar .i64 (k_1 + 1) fun n =>
      next_1 n h_4))
       (ar .i64 (i + 1) fun n_1 =>
    next n_1 h_4)) 0 h_3)) fun k =>
    ld .sl h_2 (p.add 4) fun (x_7 : Sl) =>
    idx 9 x_7 i fun p_4 =>
    ld .sl h_2 ((p_4.add 3).add 4) fun (x_8 : Sl) =>
    ifB (decide ((x_8.len : Int) > 8))
     (k true h_2)
     (ld .sl h_2 (p.add 4) fun (x_9 : Sl) =>
      idx 9 x_9 i fun p_5 =>
        ld .sl h_2 (p_5.add 1) fun (x_10 : Sl) =>
          k (decide ((x_10.len : Int) > 40)) h_2))
     (K (.bool true) h_2)) 0 h_1)
def lateenref08_Few_a : Ann := (.seq .leaf (.seq (.seq .leaf (.cond (.seq .leaf .leaf) .leaf)) (.seq (.seq .leaf (.block (.loop [(3, .int .i64)] [1] (.seq (.seq .leaf (.cond .leaf .leaf)) (.seq (.block (.seq (.join [(34, .bool)] [1, 3] .leaf (.cond (.seq .leaf .leaf) .leaf)) (.seq .leaf (.block (.loop [(4, .int .i64)] [1, 3] (.seq (.seq .leaf (.cond .leaf .leaf)) (.seq (.block (.seq .leaf (.cond (.seq .leaf .leaf) .leaf))) .leaf))))))) .leaf))))) (.seq .leaf .leaf))))
theorem lateenref08_Few_eq (f : Array Value) (h : Heap) (K : Value → Heap → Prop) : lateenref08_Few f h K = fnW Try.prog ty lateenref08_Few_a (bodyOf Try.f28) [.tmp 2] [.agg f] h K := by kernel_rfl
theorem lateenref08_Few_of {f : Array Value} {h : Heap} {K : Value → Heap → Prop} (hw : lateenref08_Few f h K) : ACalls Try.prog F_lateenref08_Few [.agg f] h K :=
  calls_sound ty_ok mixed lateenref08_Few_a (c := bodyOf Try.f28) Try.func28 (by kernel_rfl) (by kernel_rfl) (by kernel_rfl) (Nat.le_of_ble_eq_true rfl) (by rw [lateenref08_Few_eq] at hw; exact hw)

/-- lateen/lateenref08.Right -/
def lateenref08_Right (f : Array Value) (h : Heap) (K : Value → Heap → Prop) : Prop :=
  new 40 f h fun p h_1 =>
  loopW (fun _ (i : Int) h_2 next =>
    ld .sl h_2 (p.add 4) fun (x : Sl) =>
    ifB (decide (i < (x.len : Int)))
     (ld (.agg 5) h_2 p fun (x_1 : Array Value) =>
    ld .sl h_2 (p.add 4) fun (x_2 : Sl) =>
    idx 9 x_2 i fun p_1 =>
    ld .str h_2 (p_1.add 0) fun (x_3 : ByteArray) =>
    ACalls Try.prog F_lateenref08_Place [.agg x_1, .string x_3] h_2 fun v h_3 => as2 (.int .i64) .bool v fun r _ =>
    hExt h_2 h_3 ∧ ifB (r != i)
     (K (.bool false) h_3)
     (ld .sl h_3 (p.add 4) fun (x_4 : Sl) =>
    idx 9 x_4 i fun p_2 =>
    ld .sl h_3 ((p_2.add 3).add 4) fun (x_5 : Sl) =>
    loopW (fun _ (k : Int) h_4 next_1 =>
      ifB (decide (k < (x_5.len : Int)))
       (ld (.agg 5) h_4 p fun (x_6 : Array Value) =>
      idx 1 x_5 k fun p_3 =>
      ld .str h_4 p_3 fun (x_7 : ByteArray) =>
      ACalls Try.prog F_lateenref08_Place [.agg x_6, .string x_7] h_4 fun v_1 h_5 => as2 (.int .i64) .bool v_1 fun r_2 r_3 =>
      joinW (fun _ (t : Bool) h_6 =>
        ifB t
         (K (.bool false) h_6)
         (loopW (fun _ (j : Int) h_7 next_2 =>
        ifB (decide (j < k))
         (idx 1 x_5 j fun p_4 =>
        ld .str h_7 p_4 fun (x_8 : ByteArray) =>
        idx 1 x_5 k fun p_5 =>
        ld .str h_7 p_5 fun (x_9 : ByteArray) =>
        ifB (x_8.toList == x_9.toList)
         (K (.bool false) h_7)
         (ar .i64 (j + 1) fun n =>
        next_2 n h_7))
         (ar .i64 (k + 1) fun n_1 =>
      next_1 n_1 h_7)) 0 h_6)) fun k_1 =>
      ifB (!r_3)
       (k_1 true h_5)
       (k_1 (r_2 == 0) h_5))
       (ar .i64 (i + 1) fun n_2 =>
    next n_2 h_4)) 0 h_3))
     (ld (.agg 5) h_2 p fun (x_10 : Array Value) =>
  ACalls Try.prog F_lateenref08_Come [.agg x_10] h_2 fun v_2 h_8 => as1 .sl v_2 fun r_4 =>
  loopW (fun _ (i_1 : Int) h_9 next_3 =>
    ifB (decide (i_1 < (r_4.len : Int)))
     (idx 1 r_4 i_1 fun p_6 =>
    ld .bool h_9 p_6 fun (x_11 : Bool) =>
    ifB (!x_11)
     (K (.bool false) h_9)
     (ar .i64 (i_1 + 1) fun n_3 =>
    next_3 n_3 h_9))
     (K (.bool (decide ((r_4.len : Int) > 0))) h_9)) 0 h_8)) 0 h_1
def lateenref08_Right_a : Ann := (.seq .leaf (.seq (.seq .leaf (.block (.loop [(3, .int .i64)] [1] (.seq (.seq .leaf (.cond .leaf .leaf)) (.seq (.block (.seq .based (.seq (.seq .leaf (.cond (.seq .leaf .leaf) .leaf)) (.seq .leaf (.seq .leaf (.block (.loop [(7, .int .i64)] [1, 3, 6] (.seq (.seq .leaf (.cond .leaf .leaf)) (.seq (.block (.seq .leaf (.seq (.join [(61, .bool)] [1, 3, 6, 7] .leaf (.cond (.seq .leaf .leaf) .leaf)) (.seq .leaf (.block (.loop [(10, .int .i64)] [1, 3, 6, 7] (.seq (.seq .leaf (.cond .leaf .leaf)) (.seq (.block (.seq .leaf (.cond (.seq .leaf .leaf) .leaf))) .leaf)))))))) .leaf))))))))) .leaf))))) (.seq .leaf (.seq (.seq .leaf (.block (.loop [(12, .int .i64)] [11] (.seq (.seq .leaf (.cond .leaf .leaf)) (.seq (.block (.seq .leaf (.cond (.seq .leaf .leaf) .leaf))) .leaf))))) (.seq .leaf .leaf)))))
theorem lateenref08_Right_eq (f : Array Value) (h : Heap) (K : Value → Heap → Prop) : lateenref08_Right f h K = fnW Try.prog ty lateenref08_Right_a (bodyOf Try.f29) [.tmp 2] [.agg f] h K := by kernel_rfl
theorem lateenref08_Right_of {f : Array Value} {h : Heap} {K : Value → Heap → Prop} (hw : lateenref08_Right f h K) : ACalls Try.prog F_lateenref08_Right [.agg f] h K :=
  calls_sound ty_ok mixed lateenref08_Right_a (c := bodyOf Try.f29) Try.func29 (by kernel_rfl) (by kernel_rfl) (by kernel_rfl) (Nat.le_of_ble_eq_true rfl) (by rw [lateenref08_Right_eq] at hw; exact hw)

/-- lateen/live.all -/
def live_all (f : Array Value) (h : Heap) (K : Value → Heap → Prop) : Prop :=
  new 40 f h fun p h_1 =>
  ld .sl h_1 (p.add 4) fun (x : Sl) =>
  (x.len : Int) = (x.len : Int) ∧ mk si_Llive_set (x.len : Int) h_1 fun s h_2 =>
  loopW (fun _ (t : Int) h_3 next =>
    ifB (decide (t < (s.len : Int)))
     (mkm h_3 fun m h_4 =>
    idx 1 s t fun p_1 =>
    st [.map m] h_4 p_1 fun h_5 =>
    ar .i64 (t + 1) fun n =>
    next n h_5)
     (loopW (fun _ (grown : Bool) h_6 next_1 =>
    ifB grown
     (ld .sl h_6 (p.add 4) fun (x_1 : Sl) =>
    ar .i64 ((x_1.len : Int) - 1) fun n_1 =>
    loopW (fun _ (q_grown_1 : Bool × Int) h_7 next_2 =>
      ifB (decide (q_grown_1.2 ≥ 0))
       (ld (.agg 5) h_7 p fun (x_2 : Array Value) =>
      ACalls Try.prog F_live_end [.agg x_2, s.v, .int .i64 q_grown_1.2] h_7 fun v h_8 => as1 .map v fun r =>
      ld .sl h_8 (p.add 4) fun (x_3 : Sl) =>
      idx 9 x_3 q_grown_1.2 fun p_2 =>
      ld (.agg 9) h_8 p_2 fun (x_4 : Array Value) =>
      ACalls Try.prog F_live_set_back [.map r, .agg x_4, .int .i64 0] h_8 fun v_1 h_9 => as0 v_1 (
      joinW (fun _ (grown_2 : Bool) h_10 =>
        idx 1 s q_grown_1.2 fun p_3 =>
        st [.map r] h_10 p_3 fun h_11 =>
        ar .i64 (q_grown_1.2 - 1) fun n_2 =>
      next_2 (grown_2, n_2) h_11) fun k_1 =>
      mln r h_9 fun n_3 =>
      hExt h_9 h_9 ∧ idx 1 s q_grown_1.2 fun p_4 =>
      ld .map h_9 p_4 fun (x_5 : Option Nat) =>
      mln x_5 h_9 fun n_4 =>
      hExt h_9 h_9 ∧ ifB (decide (n_3 > n_4))
       (k_1 true h_9)
       (k_1 q_grown_1.1 h_9)))
       (next_1 q_grown_1.1 h_7)) (false, n_1) h_6)
     (K s.v h_6)) true h_3)) 0 h_2
def live_all_a : Ann := (.seq .leaf (.seq .leaf (.seq (.seq .leaf (.block (.loop [(14, .int .i64)] [1, 3, 13] (.seq .leaf (.seq (.cond .leaf .leaf) (.seq (.block (.seq .leaf .leaf)) .leaf)))))) (.seq (.seq .leaf (.block (.loop [(5, .bool)] [1, 3] (.seq (.seq .leaf (.cond .leaf .leaf)) (.block (.seq .leaf (.seq .leaf (.block (.loop [(5, .bool), (6, .int .i64)] [1, 3] (.seq (.seq .leaf (.cond .leaf .leaf)) (.seq (.block (.seq .leaf (.seq .leaf (.join [(5, .bool)] [1, 3, 6, 7] (.seq .based (.cond .leaf .leaf)) .leaf)))) .leaf))))))))))) (.seq .leaf .leaf)))))
theorem live_all_eq (f : Array Value) (h : Heap) (K : Value → Heap → Prop) : live_all f h K = fnW Try.prog ty live_all_a (bodyOf Try.f30) [.tmp 2] [.agg f] h K := by kernel_rfl
theorem live_all_of {f : Array Value} {h : Heap} {K : Value → Heap → Prop} (hw : live_all f h K) : ACalls Try.prog F_live_all [.agg f] h K :=
  calls_sound ty_ok mixed live_all_a (c := bodyOf Try.f30) Try.func30 (by kernel_rfl) (by kernel_rfl) (by kernel_rfl) (Nat.le_of_ble_eq_true rfl) (by rw [live_all_eq] at hw; exact hw)

/-- lateen/live.end -/
def live_end (f : Array Value) (ins : Sl) (block : Int) (h : Heap) (K : Value → Heap → Prop) : Prop :=
  new 40 f h fun p h_1 =>
  ld .sl h_1 (p.add 4) fun (x : Sl) =>
  idx 9 x block fun p_1 =>
  ld (.agg 9) h_1 p_1 fun (x_1 : Array Value) =>
  new 51 #[.string ⟨#[]⟩, .slice none 0 0, .slice none 0 0, .int .i64 0, .int .i64 0, .string ⟨#[]⟩, .int .i64 0, .slice none 0 0, .int .i64 0] h_1 fun p_2 h_2 =>
  x_1.size = 9 ∧ st x_1.toList h_2 p_2 fun h_3 =>
  mkm h_3 fun m h_4 =>
  ld .sl h_4 ((p_2.add 3).add 4) fun (x_2 : Sl) =>
  loopW (fun _ (t : Int) h_5 next =>
    ifB (decide (t < (x_2.len : Int)))
     (joinW (fun _ (_ : Unit) h_6 =>
      ar .i64 (t + 1) fun n =>
      next n h_6) fun k =>
    idx 1 x_2 t fun p_3 =>
    ld .str h_5 p_3 fun (x_3 : ByteArray) =>
    ld (.agg 5) h_5 p fun (x_4 : Array Value) =>
    ACalls Try.prog F_shape_Place [.agg x_4, .string x_3] h_5 fun v h_7 => as2 (.int .i64) .bool v fun r r_1 =>
    ifB (!r_1)
     (k () h_7)
     (ld .sl h_7 (p.add 4) fun (x_5 : Sl) =>
    idx 9 x_5 r fun p_4 =>
    ld (.agg 9) h_7 p_4 fun (x_6 : Array Value) =>
    idx 1 ins r fun p_5 =>
    ld .map h_7 p_5 fun (x_7 : Option Nat) =>
    ld .str h_7 (p_2.add 0) fun (x_8 : ByteArray) =>
    ACalls Try.prog F_live_set_into [.map m, .agg x_6, .map x_7, .string x_8] h_7 fun v_1 h_8 => as0 v_1 (
    hExt h_7 h_8 ∧ k () h_8)))
     (joinW (fun _ (_ : Unit) h_9 =>
    K (.map m) h_9) fun k_1 =>
  joinW (fun _ (t_1 : Bool) h_10 =>
    ifB t_1
     (ld (.agg 3) h_10 ((p_2.add 3).add 1) fun (x_9 : Array Value) =>
     ACalls Try.prog F_live_set_arg [.map m, .agg x_9] h_10 fun v_2 h_11 => as0 v_2 (
     k_1 () h_11))
     (k_1 () h_10)) fun k_2 =>
  ld (.int .i64) h_5 ((p_2.add 3).add 0) fun (x_10 : Int) =>
  ifB (x_10 == 2)
   (k_2 true h_5)
   (ld (.int .i64) h_5 ((p_2.add 3).add 0) fun (x_11 : Int) =>
     k_2 (x_11 == 3) h_5))) 0 h_4
def live_end_a : Ann := (.seq .leaf (.seq .leaf (.seq .leaf (.seq (.seq .leaf (.block (.loop [(23, .int .i64)] [1, 3, 7, 8, 21, 22] (.seq .leaf (.seq (.cond .leaf .leaf) (.join [] [1, 3, 7, 8, 21, 22, 23] (.block (.seq .leaf (.seq .leaf (.seq (.seq .leaf (.cond .leaf .leaf)) .based)))) .leaf)))))) (.join [] [8] (.join [(58, .bool)] [7, 8] .leaf (.cond .leaf .leaf)) (.seq .leaf .leaf))))))
theorem live_end_eq (f : Array Value) (ins : Sl) (block : Int) (h : Heap) (K : Value → Heap → Prop) : live_end f ins block h K = fnW Try.prog ty live_end_a (bodyOf Try.f31) [.tmp 6] [.agg f, ins.v, .int .i64 block] h K := by kernel_rfl
theorem live_end_of {f : Array Value} {ins : Sl} {block : Int} {h : Heap} {K : Value → Heap → Prop} (hw : live_end f ins block h K) : ACalls Try.prog F_live_end [.agg f, ins.v, .int .i64 block] h K :=
  calls_sound ty_ok mixed live_end_a (c := bodyOf Try.f31) Try.func31 (by kernel_rfl) (by kernel_rfl) (by kernel_rfl) (Nat.le_of_ble_eq_true rfl) (by rw [live_end_eq] at hw; exact hw)

/-- (lateen/live.set).back -/
def live_set_back (s : Option Nat) (b : Array Value) (atv : Int) (h : Heap) (K : Value → Heap → Prop) : Prop :=
  new 51 b h fun p h_1 =>
  ld .sl h_1 (p.add 2) fun (x : Sl) =>
  ar .i64 ((x.len : Int) - 1) fun n =>
  loopW (fun _ (i : Int) h_2 next =>
    ifB (decide (i ≥ atv))
     (ld .sl h_2 (p.add 2) fun (x_1 : Sl) =>
    idx 6 x_1 i fun p_1 =>
    ld (.agg 6) h_2 p_1 fun (x_2 : Array Value) =>
    ACalls Try.prog F_live_set_over [.map s, .agg x_2] h_2 fun v h_3 => as0 v (
    ar .i64 (i - 1) fun n_1 =>
    next n_1 h_3))
     (K (.tuple #[]) h_2)) n h_1
def live_set_back_a : Ann := (.seq .leaf (.seq .leaf (.block (.loop [(6, .int .i64)] [0, 2, 4] (.seq (.seq .leaf (.cond .leaf .leaf)) (.seq (.block .leaf) .leaf))))))
theorem live_set_back_eq (s : Option Nat) (b : Array Value) (atv : Int) (h : Heap) (K : Value → Heap → Prop) : live_set_back s b atv h K = fnW Try.prog ty live_set_back_a (bodyOf Try.f32) [] [.map s, .agg b, .int .i64 atv] h K := by kernel_rfl
theorem live_set_back_of {s : Option Nat} {b : Array Value} {atv : Int} {h : Heap} {K : Value → Heap → Prop} (hw : live_set_back s b atv h K) : ACalls Try.prog F_live_set_back [.map s, .agg b, .int .i64 atv] h K :=
  calls_sound ty_ok mixed live_set_back_a (c := bodyOf Try.f32) Try.func32 (by kernel_rfl) (by kernel_rfl) (by kernel_rfl) (Nat.le_of_ble_eq_true rfl) (by rw [live_set_back_eq] at hw; exact hw)

/-- lateen/assign.all -/
def assign_all (f : Array Value) (h : Heap) (K : Value → Heap → Prop) : Prop :=
  new 40 f h fun p h_1 =>
  ld (.agg 5) h_1 p fun (x : Array Value) =>
  ACalls Try.prog F_flow_Of [.agg x] h_1 fun v h_2 => as1 .sl v fun r =>
  ACalls Try.prog F_flow_Preds [r.v] h_2 fun v_1 h_3 => as1 .sl v_1 fun r_1 =>
  ACalls Try.prog F_flow_Order [r.v] h_3 fun v_2 h_4 => as1 .sl v_2 fun r_2 =>
  ld .sl h_4 (p.add 4) fun (x_1 : Sl) =>
  (x_1.len : Int) = (x_1.len : Int) ∧ mk si_Lassign_set (x_1.len : Int) h_4 fun s h_5 =>
  ld .sl h_5 (p.add 4) fun (x_2 : Sl) =>
  (x_2.len : Int) = (x_2.len : Int) ∧ mk si_Lassign_set (x_2.len : Int) h_5 fun s_1 h_6 =>
  loopW (fun _ (changed : Bool) h_7 next =>
    ifB changed
     (loopW (fun _ (q_changed_1 : Bool × Int) h_8 next_1 =>
      ifB (decide (q_changed_1.2 < (r_2.len : Int)))
       (idx 1 r_2 q_changed_1.2 fun p_1 =>
      ld (.int .i64) h_8 p_1 fun (x_3 : Int) =>
      joinW (fun _ (inv : Option Nat) h_9 =>
        idx 1 r_1 x_3 fun p_2 =>
        ld .sl h_9 p_2 fun (x_4 : Sl) =>
        loopW (fun _ (q_inv_1 : (Option Nat) × Int) h_10 next_2 =>
          ifB (decide (q_inv_1.2 < (x_4.len : Int)))
           (joinW (fun _ (inv_2 : Option Nat) h_11 =>
            ar .i64 (q_inv_1.2 + 1) fun n =>
            next_2 (inv_2, n) h_11) fun k_1 =>
          idx 1 x_4 q_inv_1.2 fun p_3 =>
          ld (.int .i64) h_10 p_3 fun (x_5 : Int) =>
          idx 1 s_1 x_5 fun p_4 =>
          ld .map h_10 p_4 fun (x_6 : Option Nat) =>
          ifB (!x_6.isNone)
           (idx 1 s_1 x_5 fun p_5 =>
           ld .map h_10 p_5 fun (x_7 : Option Nat) =>
           ACalls Try.prog F_assign_meet [.map q_inv_1.1, .map x_7] h_10 fun v_3 h_12 => as1 .map v_3 fun r_3 =>
           k_1 r_3 h_12)
           (k_1 q_inv_1.1 h_10))
           (joinW (fun _ (inv_3 : Option Nat) h_13 =>
          ld .sl h_13 (p.add 4) fun (x_8 : Sl) =>
          idx 9 x_8 x_3 fun p_6 =>
          ld (.agg 9) h_13 p_6 fun (x_9 : Array Value) =>
          ACalls Try.prog F_assign_set_phis [.map inv_3, .agg x_9] h_13 fun v_4 h_14 => as1 .map v_4 fun r_4 =>
          joinW (fun _ (changed_2 : Bool) h_15 =>
            ld .sl h_15 (p.add 4) fun (x_10 : Sl) =>
            idx 9 x_10 x_3 fun p_7 =>
            ld (.agg 9) h_15 p_7 fun (x_11 : Array Value) =>
            ACalls Try.prog F_assign_set_over [.map r_4, .agg x_11] h_15 fun v_5 h_16 => as1 .map v_5 fun r_5 =>
            idx 1 s x_3 fun p_8 =>
            st [.map r_4] h_16 p_8 fun h_17 =>
            idx 1 s_1 x_3 fun p_9 =>
            st [.map r_5] h_17 p_9 fun h_18 =>
            ar .i64 (q_changed_1.2 + 1) fun n_1 =>
      next_1 (changed_2, n_1) h_18) fun k_3 =>
          joinW (fun _ (t_2 : Bool) h_19 =>
            ifB t_2
             (k_3 true h_19)
             (k_3 q_changed_1.1 h_19)) fun k_4 =>
          idx 1 s x_3 fun p_10 =>
          ld .map h_14 p_10 fun (x_12 : Option Nat) =>
          ifB x_12.isNone
           (k_4 true h_14)
           (idx 1 s x_3 fun p_11 =>
             ld .map h_14 p_11 fun (x_13 : Option Nat) =>
              mln x_13 h_14 fun n_2 =>
               mln r_4 h_14 fun n_3 =>
                 k_4 (n_2 != n_3) h_14)) fun k_2 =>
        ifB q_inv_1.1.isNone
         (mkm h_10 fun m h_20 =>
         k_2 m h_20)
         (k_2 q_inv_1.1 h_10))) (inv, 0) h_9) fun k =>
      ifB (x_3 == 0)
       (ld (.agg 5) h_8 p fun (x_14 : Array Value) =>
       ACalls Try.prog F_assign_params [.agg x_14] h_8 fun v_6 h_21 => as1 .map v_6 fun r_6 =>
       k r_6 h_21)
       (k none h_8))
       (next q_changed_1.1 h_8)) (false, 0) h_7)
     (K s.v h_7)) true h_6
def assign_all_a : Ann := (.seq .leaf (.seq .leaf (.seq .leaf (.seq .leaf (.seq .leaf (.seq .leaf (.seq (.seq .leaf (.block (.loop [(8, .bool)] [1, 4, 5, 6, 7] (.seq (.seq .leaf (.cond .leaf .leaf)) (.block (.seq .leaf (.seq .leaf (.block (.loop [(8, .bool), (31, .int .i64)] [1, 4, 5, 6, 7, 29, 30] (.seq .leaf (.seq (.cond .leaf .leaf) (.seq (.block (.seq .leaf (.seq .leaf (.join [(11, .map)] [1, 4, 5, 6, 7, 8, 10, 29, 30, 31] (.seq .leaf (.cond .leaf .leaf)) (.seq (.seq .leaf (.block (.loop [(11, .map), (44, .int .i64)] [1, 4, 5, 6, 7, 8, 10, 29, 30, 31, 42, 43] (.seq .leaf (.seq (.cond .leaf .leaf) (.join [(11, .map)] [1, 4, 5, 6, 7, 8, 10, 29, 30, 31, 42, 43, 44] (.block (.seq .leaf (.seq .leaf (.cond .leaf .leaf)))) .leaf)))))) (.join [(11, .map)] [1, 4, 5, 6, 7, 8, 10, 29, 30, 31] (.seq .leaf (.cond .leaf .leaf)) (.seq .leaf (.join [(8, .bool)] [1, 4, 5, 6, 7, 10, 11, 29, 30, 31] (.join [(84, .bool)] [1, 4, 5, 6, 7, 8, 10, 11, 29, 30, 31] .leaf (.cond .leaf .leaf)) .leaf)))))))) .leaf)))))))))))) (.seq .leaf .leaf))))))))
theorem assign_all_eq (f : Array Value) (h : Heap) (K : Value → Heap → Prop) : assign_all f h K = fnW Try.prog ty assign_all_a (bodyOf Try.f33) [.tmp 2] [.agg f] h K := by kernel_rfl
theorem assign_all_of {f : Array Value} {h : Heap} {K : Value → Heap → Prop} (hw : assign_all f h K) : ACalls Try.prog F_assign_all [.agg f] h K :=
  calls_sound ty_ok mixed assign_all_a (c := bodyOf Try.f33) Try.func33 (by kernel_rfl) (by kernel_rfl) (by kernel_rfl) (Nat.le_of_ble_eq_true rfl) (by rw [assign_all_eq] at hw; exact hw)

/-- maps.Keys[lateen/assign.set,string,bool] -/
def maps_Keys_0 (m : Option Nat) (h : Heap) (K : Value → Heap → Prop) : Prop :=
  new 80 #[.map m] h fun p h_1 =>
  K (.func (.func F_maps_Keys_assign_set_string_bool__1) #[] #[.pointer (some p)]) h_1
def maps_Keys_0_a : Ann := (.seq .leaf (.seq .leaf .leaf))
theorem maps_Keys_0_eq (m : Option Nat) (h : Heap) (K : Value → Heap → Prop) : maps_Keys_0 m h K = fnW Try.prog ty maps_Keys_0_a (bodyOf Try.f35) [.tmp 2] [.map m] h K := by kernel_rfl
theorem maps_Keys_0_of {m : Option Nat} {h : Heap} {K : Value → Heap → Prop} (hw : maps_Keys_0 m h K) : ACalls Try.prog F_maps_Keys_0 [.map m] h K :=
  calls_sound ty_ok mixed maps_Keys_0_a (c := bodyOf Try.f35) Try.func35 (by kernel_rfl) (by kernel_rfl) (by kernel_rfl) (Nat.le_of_ble_eq_true rfl) (by rw [maps_Keys_0_eq] at hw; exact hw)

/-- (lateen/assign.set).block -/
def assign_set_block (s : Option Nat) (b : Array Value) (h : Heap) (K : Value → Heap → Prop) : Prop :=
  new 51 b h fun p h_1 =>
  ACalls Try.prog F_maps_Clone [.map s] h_1 fun v h_2 => as1 .map v fun r =>
  ld .sl h_2 (p.add 2) fun (x : Sl) =>
  loopW (fun _ (t : Int) h_3 next =>
    ifB (decide (t < (x.len : Int)))
     (joinW (fun _ (_ : Unit) h_4 =>
      ar .i64 (t + 1) fun n =>
      next n h_4) fun k =>
    idx 6 x t fun p_1 =>
    ld (.agg 6) h_3 p_1 fun (x_1 : Array Value) =>
    new 26 #[.int .i64 0, .string ⟨#[]⟩, .string ⟨#[]⟩, .slice none 0 0, .slice none 0 0, .slice none 0 0] h_3 fun p_2 h_5 =>
    x_1.size = 6 ∧ st x_1.toList h_5 p_2 fun h_6 =>
    ld (.agg 6) h_6 p_2 fun (x_2 : Array Value) =>
    ACalls Try.prog F_live_Uses [.agg x_2] h_6 fun v_1 h_7 => as1 .sl v_1 fun r_1 =>
    ACalls Try.prog F_assign_set_has [.map r, r_1.v] h_7 fun v_2 h_8 => as1 .bool v_2 fun r_2 =>
    ifB (!r_2)
     (K (.bool false) h_8)
     (ld .str h_8 (p_2.add 1) fun (x_3 : ByteArray) =>
    ifB (!(x_3.toList == (⟨#[]⟩ : ByteArray).toList))
     (ld .str h_8 (p_2.add 1) fun (x_4 : ByteArray) =>
     mup .string r (.string x_4) (.bool true) h_8 fun h_9 =>
     k () h_9)
     (k () h_8)))
     (joinW (fun _ (t_1 : Bool) h_10 =>
    K (.bool t_1) h_10) fun k_1 =>
  ld (.int .i64) h_3 ((p.add 3).add 0) fun (x_5 : Int) =>
  ifB (x_5 != 2)
   (ld (.int .i64) h_3 ((p.add 3).add 0) fun (x_6 : Int) =>
     ifB (x_6 != 3)
       (k_1 true h_3)
       (ld (.agg 3) h_3 ((p.add 3).add 1) fun (x_7 : Array Value) =>
          ACalls Try.prog F_assign_set_arg [.map r, .agg x_7] h_3 fun v_3 h_11 => as1 .bool v_3 fun r_3 =>
           k_1 r_3 h_11))
   (ld (.agg 3) h_3 ((p.add 3).add 1) fun (x_8 : Array Value) =>
          ACalls Try.prog F_assign_set_arg [.map r, .agg x_8] h_3 fun v_4 h_12 => as1 .bool v_4 fun r_4 =>
           k_1 r_4 h_12))) 0 h_2
def assign_set_block_a : Ann := (.seq .leaf (.seq .leaf (.seq (.seq .leaf (.block (.loop [(13, .int .i64)] [3, 5, 11, 12] (.seq .leaf (.seq (.cond .leaf .leaf) (.join [] [3, 5, 11, 12, 13] (.block (.seq .leaf (.seq (.seq .leaf (.cond (.seq .leaf .leaf) .leaf)) (.seq .leaf (.cond .leaf .leaf))))) .leaf)))))) (.join [(4, .bool)] [] .leaf .leaf))))
theorem assign_set_block_eq (s : Option Nat) (b : Array Value) (h : Heap) (K : Value → Heap → Prop) : assign_set_block s b h K = fnW Try.prog ty assign_set_block_a (bodyOf Try.f36) [.tmp 4] [.map s, .agg b] h K := by kernel_rfl
theorem assign_set_block_of {s : Option Nat} {b : Array Value} {h : Heap} {K : Value → Heap → Prop} (hw : assign_set_block s b h K) : ACalls Try.prog F_assign_set_block [.map s, .agg b] h K :=
  calls_sound ty_ok mixed assign_set_block_a (c := bodyOf Try.f36) Try.func36 (by kernel_rfl) (by kernel_rfl) (by kernel_rfl) (Nat.le_of_ble_eq_true rfl) (by rw [assign_set_block_eq] at hw; exact hw)

/-- (lateen/assign.set).over -/
def assign_set_over (s : Option Nat) (b : Array Value) (h : Heap) (K : Value → Heap → Prop) : Prop :=
  new 51 b h fun p h_1 =>
  ACalls Try.prog F_maps_Clone [.map s] h_1 fun v h_2 => as1 .map v fun r =>
  ld .sl h_2 (p.add 2) fun (x : Sl) =>
  loopW (fun _ (t : Int) h_3 next =>
    ifB (decide (t < (x.len : Int)))
     (joinW (fun _ (_ : Unit) h_4 =>
      ar .i64 (t + 1) fun n =>
      next n h_4) fun k =>
    idx 6 x t fun p_1 =>
    ld (.agg 6) h_3 p_1 fun (x_1 : Array Value) =>
    new 26 #[.int .i64 0, .string ⟨#[]⟩, .string ⟨#[]⟩, .slice none 0 0, .slice none 0 0, .slice none 0 0] h_3 fun p_2 h_5 =>
    x_1.size = 6 ∧ st x_1.toList h_5 p_2 fun h_6 =>
    ld .str h_6 (p_2.add 1) fun (x_2 : ByteArray) =>
    ifB (!(x_2.toList == (⟨#[]⟩ : ByteArray).toList))
     (ld .str h_6 (p_2.add 1) fun (x_3 : ByteArray) =>
     mup .string r (.string x_3) (.bool true) h_6 fun h_7 =>
     k () h_7)
     (k () h_6))
     (K (.map r) h_3)) 0 h_2
def assign_set_over_a : Ann := (.seq .leaf (.seq .leaf (.seq (.seq .leaf (.block (.loop [(13, .int .i64)] [5, 11, 12] (.seq .leaf (.seq (.cond .leaf .leaf) (.join [] [5, 11, 12, 13] (.block (.seq .leaf (.seq .leaf (.cond .leaf .leaf)))) .leaf)))))) (.seq .leaf .leaf))))
theorem assign_set_over_eq (s : Option Nat) (b : Array Value) (h : Heap) (K : Value → Heap → Prop) : assign_set_over s b h K = fnW Try.prog ty assign_set_over_a (bodyOf Try.f37) [.tmp 4] [.map s, .agg b] h K := by kernel_rfl
theorem assign_set_over_of {s : Option Nat} {b : Array Value} {h : Heap} {K : Value → Heap → Prop} (hw : assign_set_over s b h K) : ACalls Try.prog F_assign_set_over [.map s, .agg b] h K :=
  calls_sound ty_ok mixed assign_set_over_a (c := bodyOf Try.f37) Try.func37 (by kernel_rfl) (by kernel_rfl) (by kernel_rfl) (Nat.le_of_ble_eq_true rfl) (by rw [assign_set_over_eq] at hw; exact hw)

/-- lateen/assign.phis -/
def assign_phis (f : Array Value) (outs : Option Nat) (h : Heap) (K : Value → Heap → Prop) : Prop :=
  new 40 f h fun p h_1 =>
  ld .sl h_1 (p.add 4) fun (x : Sl) =>
  loopW (fun _ (t : Int) h_2 next =>
    ifB (decide (t < (x.len : Int)))
     (idx 9 x t fun p_1 =>
    ld (.agg 9) h_2 p_1 fun (x_1 : Array Value) =>
    new 51 #[.string ⟨#[]⟩, .slice none 0 0, .slice none 0 0, .int .i64 0, .int .i64 0, .string ⟨#[]⟩, .int .i64 0, .slice none 0 0, .int .i64 0] h_2 fun p_2 h_3 =>
    x_1.size = 9 ∧ st x_1.toList h_3 p_2 fun h_4 =>
    ld .sl h_4 (p_2.add 1) fun (x_2 : Sl) =>
    loopW (fun _ (t_1 : Int) h_5 next_1 =>
      ifB (decide (t_1 < (x_2.len : Int)))
       (idx 2 x_2 t_1 fun p_3 =>
      ld (.agg 2) h_5 p_3 fun (x_3 : Array Value) =>
      new 58 #[.string ⟨#[]⟩, .slice none 0 0] h_5 fun p_4 h_6 =>
      x_3.size = 2 ∧ st x_3.toList h_6 p_4 fun h_7 =>
      ld .sl h_7 (p_4.add 1) fun (x_4 : Sl) =>
      loopW (fun _ (t_2 : Int) h_8 next_2 =>
        ifB (decide (t_2 < (x_4.len : Int)))
         (idx 4 x_4 t_2 fun p_5 =>
        ld (.agg 4) h_8 p_5 fun (x_5 : Array Value) =>
        new 108 #[.string ⟨#[]⟩, .int .i64 0, .string ⟨#[]⟩, .int .i64 0] h_8 fun p_6 h_9 =>
        x_5.size = 4 ∧ st x_5.toList h_9 p_6 fun h_10 =>
        ld .str h_10 (p_6.add 0) fun (x_6 : ByteArray) =>
        mlk .string outs (.string x_6) h_10 fun r => as1 .map (r.getD (.map none)) fun y =>
        joinW (fun _ (t_3 : Bool) h_11 =>
          ifB t_3
           (K (.bool false) h_11)
           (ar .i64 (t_2 + 1) fun n =>
        next_2 n h_11)) fun k =>
        ifB r.isSome
         (ld (.agg 5) h_10 p fun (x_7 : Array Value) =>
         ld .str h_10 (p_6.add 0) fun (x_8 : ByteArray) =>
           ld .str h_10 (p_2.add 0) fun (x_9 : ByteArray) =>
             ACalls Try.prog F_assign_leads [.agg x_7, .string x_8, .string x_9] h_10 fun v h_12 => as1 .bool v fun r_1 =>
              ifB r_1
               (ld (.agg 3) h_12 (p_6.add 1) fun (x_10 : Array Value) =>
                 ACalls Try.prog F_assign_set_arg [.map y, .agg x_10] h_12 fun v_1 h_13 => as1 .bool v_1 fun r_2 =>
                  k (!r_2) h_13)
               (k false h_12))
         (k false h_10))
         (ar .i64 (t_1 + 1) fun n_1 =>
      next_1 n_1 h_8)) 0 h_7)
       (ar .i64 (t + 1) fun n_2 =>
    next n_2 h_5)) 0 h_4)
     (K (.bool true) h_2)) 0 h_1
def assign_phis_a : Ann := (.seq .leaf (.seq (.seq .leaf (.block (.loop [(16, .int .i64)] [1, 2, 14, 15] (.seq .leaf (.seq (.cond .leaf .leaf) (.seq (.block (.seq .leaf (.seq .leaf (.block (.loop [(23, .int .i64)] [1, 2, 6, 14, 15, 16, 21, 22] (.seq .leaf (.seq (.cond .leaf .leaf) (.seq (.block (.seq .leaf (.seq .leaf (.block (.loop [(30, .int .i64)] [1, 2, 6, 14, 15, 16, 21, 22, 23, 28, 29] (.seq .leaf (.seq (.cond .leaf .leaf) (.seq (.block (.seq .leaf (.seq .leaf (.join [(56, .bool)] [1, 2, 6, 14, 15, 16, 21, 22, 23, 28, 29, 30] .leaf (.cond (.seq .leaf .leaf) .leaf))))) .leaf)))))))) .leaf)))))))) .leaf)))))) (.seq .leaf .leaf)))
theorem assign_phis_eq (f : Array Value) (outs : Option Nat) (h : Heap) (K : Value → Heap → Prop) : assign_phis f outs h K = fnW Try.prog ty assign_phis_a (bodyOf Try.f38) [.tmp 4] [.agg f, .map outs] h K := by kernel_rfl
theorem assign_phis_of {f : Array Value} {outs : Option Nat} {h : Heap} {K : Value → Heap → Prop} (hw : assign_phis f outs h K) : ACalls Try.prog F_assign_phis [.agg f, .map outs] h K :=
  calls_sound ty_ok mixed assign_phis_a (c := bodyOf Try.f38) Try.func38 (by kernel_rfl) (by kernel_rfl) (by kernel_rfl) (Nat.le_of_ble_eq_true rfl) (by rw [assign_phis_eq] at hw; exact hw)

/-- (lateen/live.set).arg -/
def live_set_arg (s : Option Nat) (a : Array Value) (h : Heap) (K : Value → Heap → Prop) : Prop :=
  new 47 a h fun p h_1 =>
  ld (.int .i64) h_1 (p.add 0) fun (x : Int) =>
  ifB (x == 1)
   (ld .str h_1 (p.add 1) fun (x_1 : ByteArray) =>
   mup .string s (.string x_1) (.bool true) h_1 fun h_2 =>
   K (.tuple #[]) h_2)
   (K (.tuple #[]) h_1)
def live_set_arg_a : Ann := (.seq .leaf (.seq .leaf (.cond .leaf .leaf)))
theorem live_set_arg_eq (s : Option Nat) (a : Array Value) (h : Heap) (K : Value → Heap → Prop) : live_set_arg s a h K = fnW Try.prog ty live_set_arg_a (bodyOf Try.f39) [] [.map s, .agg a] h K := by kernel_rfl
theorem live_set_arg_of {s : Option Nat} {a : Array Value} {h : Heap} {K : Value → Heap → Prop} (hw : live_set_arg s a h K) : ACalls Try.prog F_live_set_arg [.map s, .agg a] h K :=
  calls_sound ty_ok mixed live_set_arg_a (c := bodyOf Try.f39) Try.func39 (by kernel_rfl) (by kernel_rfl) (by kernel_rfl) (Nat.le_of_ble_eq_true rfl) (by rw [live_set_arg_eq] at hw; exact hw)

/-- maps.Keys[lateen/live.set,string,bool] -/
def maps_Keys_1 (m : Option Nat) (h : Heap) (K : Value → Heap → Prop) : Prop :=
  new 67 #[.map m] h fun p h_1 =>
  K (.func (.func F_maps_Keys_live_set_string_bool__1) #[] #[.pointer (some p)]) h_1
def maps_Keys_1_a : Ann := (.seq .leaf (.seq .leaf .leaf))
theorem maps_Keys_1_eq (m : Option Nat) (h : Heap) (K : Value → Heap → Prop) : maps_Keys_1 m h K = fnW Try.prog ty maps_Keys_1_a (bodyOf Try.f40) [.tmp 2] [.map m] h K := by kernel_rfl
theorem maps_Keys_1_of {m : Option Nat} {h : Heap} {K : Value → Heap → Prop} (hw : maps_Keys_1 m h K) : ACalls Try.prog F_maps_Keys_1 [.map m] h K :=
  calls_sound ty_ok mixed maps_Keys_1_a (c := bodyOf Try.f40) Try.func40 (by kernel_rfl) (by kernel_rfl) (by kernel_rfl) (Nat.le_of_ble_eq_true rfl) (by rw [maps_Keys_1_eq] at hw; exact hw)

/-- lateen/lateenref06.countVars -/
def lateenref06_countVars (l : Sl) (most : Int) (h : Heap) (K : Value → Heap → Prop) : Prop :=
  ifB (decide ((l.len : Int) > most))
   (ar .i64 (most + 1) fun n =>
   K (.int .i64 n) h)
   (loopW (fun _ (q_n_1 : Int × Int) h_1 next =>
    joinW (fun _ (t : Bool) h_2 =>
      ifB t
       (joinW (fun _ (n_2 : Int) h_3 =>
      ar .i64 (q_n_1.2 + 1) fun n_3 =>
      next (n_2, n_3) h_3) fun k_1 =>
    idx 2 l q_n_1.2 fun p =>
    ld .str h_2 (p.add 0) fun (x : ByteArray) =>
    ar .i64 (q_n_1.1 + (x.size : Int)) fun n_4 =>
    ifB (decide (n_4 ≤ most))
     (idx 2 l q_n_1.2 fun p_1 =>
     ld .str h_2 (p_1.add 1) fun (x_1 : ByteArray) =>
     ar .i64 (n_4 + (x_1.size : Int)) fun n_5 =>
     k_1 n_5 h_2)
     (k_1 n_4 h_2))
       (K (.int .i64 q_n_1.1) h_2)) fun k =>
    ifB (decide (q_n_1.2 < (l.len : Int)))
     (k (decide (q_n_1.1 ≤ most)) h_1)
     (k false h_1)) ((l.len : Int), 0) h)
def lateenref06_countVars_a : Ann := (.seq .leaf (.seq (.seq .leaf (.cond (.seq .leaf .leaf) .leaf)) (.seq .leaf (.seq (.seq .leaf (.block (.loop [(5, .int .i64), (6, .int .i64)] [0, 1] (.seq (.join [(23, .bool)] [0, 1, 5, 6] .leaf (.cond .leaf .leaf)) (.join [(5, .int .i64)] [0, 1, 6] (.block (.seq .leaf (.seq .leaf (.cond .leaf .leaf)))) .leaf))))) (.seq .leaf .leaf)))))
theorem lateenref06_countVars_eq (l : Sl) (most : Int) (h : Heap) (K : Value → Heap → Prop) : lateenref06_countVars l most h K = fnW Try.prog ty lateenref06_countVars_a (bodyOf Try.f41) [.tmp 4] [l.v, .int .i64 most] h K := by kernel_rfl
theorem lateenref06_countVars_of {l : Sl} {most : Int} {h : Heap} {K : Value → Heap → Prop} (hw : lateenref06_countVars l most h K) : ACalls Try.prog F_lateenref06_countVars [l.v, .int .i64 most] h K :=
  calls_sound ty_ok mixed lateenref06_countVars_a (c := bodyOf Try.f41) Try.func41 (by kernel_rfl) (by kernel_rfl) (by kernel_rfl) (Nat.le_of_ble_eq_true rfl) (by rw [lateenref06_countVars_eq] at hw; exact hw)

/-- lateen/lateenref06.countBlock -/
def lateenref06_countBlock (b : Array Value) (most : Int) (h : Heap) (K : Value → Heap → Prop) : Prop :=
  new 51 b h fun p h_1 =>
  joinW (fun _ (t : Bool) h_2 =>
    ifB t
     (ar .i64 (most + 1) fun n =>
     K (.int .i64 n) h_2)
     (ld .str h_2 (p.add 0) fun (x : ByteArray) =>
  ar .i64 (1 + (x.size : Int)) fun n_1 =>
  joinW (fun _ (n_2 : Int) h_3 =>
    loopW (fun _ (q_n_3 : Int × Int) h_4 next =>
      joinW (fun _ (t_1 : Bool) h_5 =>
        ifB t_1
         (ar .i64 (q_n_3.1 + 1) fun n_4 =>
      ld .sl h_5 ((p.add 3).add 4) fun (x_1 : Sl) =>
      idx 1 x_1 q_n_3.2 fun p_1 =>
      ld .str h_5 p_1 fun (x_2 : ByteArray) =>
      ar .i64 (n_4 + (x_2.size : Int)) fun n_5 =>
      ar .i64 (q_n_3.2 + 1) fun n_6 =>
      next (n_5, n_6) h_5)
         (loopW (fun _ (q_n_7 : Int × Int) h_6 next_1 =>
      joinW (fun _ (t_2 : Bool) h_7 =>
        ifB t_2
         (ar .i64 (q_n_7.1 + 1) fun n_8 =>
      ld .sl h_7 (p.add 1) fun (x_3 : Sl) =>
      idx 2 x_3 q_n_7.2 fun p_2 =>
      ld .str h_7 (p_2.add 0) fun (x_4 : ByteArray) =>
      ar .i64 (n_8 + (x_4.size : Int)) fun n_9 =>
      loopW (fun _ (q_n_10 : Int × Int) h_8 next_2 =>
        joinW (fun _ (t_3 : Bool) h_9 =>
          ifB t_3
           (joinW (fun _ (n_11 : Int) h_10 =>
          ar .i64 (q_n_10.2 + 1) fun n_12 =>
          next_2 (n_11, n_12) h_10) fun k_6 =>
        ar .i64 (q_n_10.1 + 1) fun n_13 =>
        ld .sl h_9 (p.add 1) fun (x_5 : Sl) =>
        idx 2 x_5 q_n_7.2 fun p_3 =>
        ld .sl h_9 (p_3.add 1) fun (x_6 : Sl) =>
        idx 4 x_6 q_n_10.2 fun p_4 =>
        ld .str h_9 (p_4.add 0) fun (x_7 : ByteArray) =>
        ar .i64 (n_13 + (x_7.size : Int)) fun n_14 =>
        ifB (decide (n_14 ≤ most))
         (ld .sl h_9 (p.add 1) fun (x_8 : Sl) =>
         idx 2 x_8 q_n_7.2 fun p_5 =>
         ld .sl h_9 (p_5.add 1) fun (x_9 : Sl) =>
         idx 4 x_9 q_n_10.2 fun p_6 =>
         ld .str h_9 ((p_6.add 1).add 1) fun (x_10 : ByteArray) =>
         ar .i64 (n_14 + (x_10.size : Int)) fun n_15 =>
         k_6 n_15 h_9)
         (k_6 n_14 h_9))
           (ar .i64 (q_n_7.2 + 1) fun n_16 =>
      next_1 (q_n_10.1, n_16) h_9)) fun k_5 =>
        ld .sl h_8 (p.add 1) fun (x_11 : Sl) =>
        idx 2 x_11 q_n_7.2 fun p_7 =>
        ld .sl h_8 (p_7.add 1) fun (x_12 : Sl) =>
        ifB (decide (q_n_10.2 < (x_12.len : Int)))
         (k_5 (decide (q_n_10.1 ≤ most)) h_8)
         (k_5 false h_8)) (n_9, 0) h_7)
         (loopW (fun _ (q_n_17 : Int × Int) h_11 next_3 =>
      joinW (fun _ (t_4 : Bool) h_12 =>
        ifB t_4
         (ld .sl h_12 (p.add 2) fun (x_13 : Sl) =>
      idx 6 x_13 q_n_17.2 fun p_8 =>
      ld (.agg 6) h_12 p_8 fun (x_14 : Array Value) =>
      ACalls Try.prog F_lateenref06_countInstr [.agg x_14, .int .i64 most] h_12 fun v h_13 => as1 (.int .i64) v fun r =>
      ar .i64 (q_n_17.1 + r) fun n_18 =>
      ar .i64 (q_n_17.2 + 1) fun n_19 =>
      next_3 (n_18, n_19) h_13)
         (K (.int .i64 q_n_17.1) h_12)) fun k_7 =>
      ld .sl h_11 (p.add 2) fun (x_15 : Sl) =>
      ifB (decide (q_n_17.2 < (x_15.len : Int)))
       (k_7 (decide (q_n_17.1 ≤ most)) h_11)
       (k_7 false h_11)) (q_n_7.1, 0) h_7)) fun k_3 =>
      ld .sl h_6 (p.add 1) fun (x_16 : Sl) =>
      ifB (decide (q_n_7.2 < (x_16.len : Int)))
       (k_3 (decide (q_n_7.1 ≤ most)) h_6)
       (k_3 false h_6)) (q_n_3.1, 0) h_5)) fun k_2 =>
      ld .sl h_4 ((p.add 3).add 4) fun (x_17 : Sl) =>
      ifB (decide (q_n_3.2 < (x_17.len : Int)))
       (k_2 (decide (q_n_3.1 ≤ most)) h_4)
       (k_2 false h_4)) (n_2, 0) h_3) fun k_1 =>
  ifB (decide (n_1 ≤ most))
   (ld .str h_2 (((p.add 3).add 1).add 1) fun (x_18 : ByteArray) =>
   ar .i64 (n_1 + (x_18.size : Int)) fun n_20 =>
   k_1 n_20 h_2)
   (k_1 n_1 h_2))) fun k =>
  ld .sl h_1 (p.add 1) fun (x_19 : Sl) =>
  ifB (decide ((x_19.len : Int) > most))
   (k true h_1)
   (ld .sl h_1 (p.add 2) fun (x_20 : Sl) =>
    ifB (decide ((x_20.len : Int) > most))
        (k true h_1)
        (ld .sl h_1 ((p.add 3).add 4) fun (x_21 : Sl) =>
          k (decide ((x_21.len : Int) > most)) h_1))
def lateenref06_countBlock_a : Ann := (.seq .leaf (.seq (.join [(29, .bool)] [1, 2] .leaf (.cond (.seq .leaf .leaf) .leaf)) (.seq .leaf (.join [(5, .int .i64)] [1, 2] (.seq .leaf (.cond .leaf .leaf)) (.seq (.seq .leaf (.block (.loop [(5, .int .i64), (6, .int .i64)] [1, 2] (.seq (.join [(56, .bool)] [1, 2, 5, 6] .leaf (.cond .leaf .leaf)) (.seq (.block .leaf) .leaf))))) (.seq (.seq .leaf (.block (.loop [(5, .int .i64), (7, .int .i64)] [1, 2] (.seq (.join [(78, .bool)] [1, 2, 5, 7] .leaf (.cond .leaf .leaf)) (.seq (.block (.seq .leaf (.seq .leaf (.block (.loop [(5, .int .i64), (8, .int .i64)] [1, 2, 7] (.seq (.join [(104, .bool)] [1, 2, 5, 7, 8] .leaf (.cond .leaf .leaf)) (.join [(5, .int .i64)] [1, 2, 7, 8] (.block (.seq .leaf (.seq .leaf (.cond .leaf .leaf)))) .leaf))))))) .leaf))))) (.seq (.seq .leaf (.block (.loop [(5, .int .i64), (9, .int .i64)] [1, 2] (.seq (.join [(147, .bool)] [1, 2, 5, 9] .leaf (.cond .leaf .leaf)) (.seq (.block .leaf) .leaf))))) (.seq .leaf .leaf))))))))
theorem lateenref06_countBlock_eq (b : Array Value) (most : Int) (h : Heap) (K : Value → Heap → Prop) : lateenref06_countBlock b most h K = fnW Try.prog ty lateenref06_countBlock_a (bodyOf Try.f42) [.tmp 4] [.agg b, .int .i64 most] h K := by kernel_rfl
theorem lateenref06_countBlock_of {b : Array Value} {most : Int} {h : Heap} {K : Value → Heap → Prop} (hw : lateenref06_countBlock b most h K) : ACalls Try.prog F_lateenref06_countBlock [.agg b, .int .i64 most] h K :=
  calls_sound ty_ok mixed lateenref06_countBlock_a (c := bodyOf Try.f42) Try.func42 (by kernel_rfl) (by kernel_rfl) (by kernel_rfl) (Nat.le_of_ble_eq_true rfl) (by rw [lateenref06_countBlock_eq] at hw; exact hw)

/-- lateen/lateenref08.Come -/
def lateenref08_Come (f : Array Value) (h : Heap) (K : Value → Heap → Prop) : Prop :=
  new 40 f h fun p h_1 =>
  ld .sl h_1 (p.add 4) fun (x : Sl) =>
  (x.len : Int) = (x.len : Int) ∧ mk si_Lbool (x.len : Int) h_1 fun s h_2 =>
  loopW (fun _ (more : Bool) h_3 next =>
    ifB more
     (idx 1 s 0 fun p_1 =>
    st [.bool true] h_3 p_1 fun h_4 =>
    loopW (fun _ (q_more_1 : Bool × Int) h_5 next_1 =>
      ifB (decide (q_more_1.2 < (s.len : Int)))
       (loopW (fun _ (q_more_2 : Bool × Int) h_6 next_2 =>
        joinW (fun _ (t : Bool) h_7 =>
          ifB t
           (joinW (fun _ (more_3 : Bool) h_8 =>
          ar .i64 (q_more_2.2 + 1) fun n =>
          next_2 (more_3, n) h_8) fun k_2 =>
        joinW (fun _ (t_1 : Bool) h_9 =>
          ifB t_1
           (idx 1 s q_more_2.2 fun p_2 =>
           st [.bool true] h_9 p_2 fun h_10 =>
           k_2 true h_10)
           (k_2 q_more_2.1 h_9)) fun k_3 =>
        idx 1 s q_more_2.2 fun p_3 =>
        ld .bool h_7 p_3 fun (x_1 : Bool) =>
        ifB (!x_1)
         (ld (.agg 5) h_7 p fun (x_2 : Array Value) =>
         ACalls Try.prog F_lateenref08_Leads [.agg x_2, .int .i64 q_more_1.2, .int .i64 q_more_2.2] h_7 fun v h_11 => as1 .bool v fun r =>
            k_3 r h_11)
         (k_3 false h_7))
           (ar .i64 (q_more_1.2 + 1) fun n_1 =>
      next_1 (q_more_2.1, n_1) h_7)) fun k_1 =>
        ifB (decide (q_more_2.2 < (s.len : Int)))
         (idx 1 s q_more_1.2 fun p_4 =>
           ld .bool h_6 p_4 fun (x_3 : Bool) =>
            k_1 x_3 h_6)
         (k_1 false h_6)) (q_more_1.1, 0) h_5)
       (next q_more_1.1 h_5)) (false, 0) h_4)
     (K s.v h_3)) (decide ((s.len : Int) > 0)) h_2
def lateenref08_Come_a : Ann := (.seq .leaf (.seq .leaf (.seq .leaf (.seq (.block (.loop [(4, .bool)] [1, 3] (.seq (.seq .leaf (.cond .leaf .leaf)) (.block (.seq .leaf (.seq .leaf (.seq .leaf (.block (.loop [(4, .bool), (5, .int .i64)] [1, 3] (.seq (.seq .leaf (.cond .leaf .leaf)) (.seq (.block (.seq .leaf (.block (.loop [(4, .bool), (6, .int .i64)] [1, 3, 5] (.seq (.join [(32, .bool)] [1, 3, 4, 5, 6] .leaf (.cond .leaf .leaf)) (.join [(4, .bool)] [1, 3, 5, 6] (.block (.join [(45, .bool)] [1, 3, 4, 5, 6] .leaf (.cond (.seq .leaf .leaf) .leaf))) .leaf)))))) .leaf))))))))))) (.seq .leaf .leaf)))))
theorem lateenref08_Come_eq (f : Array Value) (h : Heap) (K : Value → Heap → Prop) : lateenref08_Come f h K = fnW Try.prog ty lateenref08_Come_a (bodyOf Try.f43) [.tmp 2] [.agg f] h K := by kernel_rfl
theorem lateenref08_Come_of {f : Array Value} {h : Heap} {K : Value → Heap → Prop} (hw : lateenref08_Come f h K) : ACalls Try.prog F_lateenref08_Come [.agg f] h K :=
  calls_sound ty_ok mixed lateenref08_Come_a (c := bodyOf Try.f43) Try.func43 (by kernel_rfl) (by kernel_rfl) (by kernel_rfl) (Nat.le_of_ble_eq_true rfl) (by rw [lateenref08_Come_eq] at hw; exact hw)

/-- lateen/shape.Place -/
def shape_Place (f : Array Value) (name : ByteArray) (h : Heap) (K : Value → Heap → Prop) : Prop :=
  new 40 f h fun p h_1 =>
  ld .sl h_1 (p.add 4) fun (x : Sl) =>
  loopW (fun _ (t : Int) h_2 next =>
    ifB (decide (t < (x.len : Int)))
     (idx 9 x t fun p_1 =>
    ld (.agg 9) h_2 p_1 fun (x_1 : Array Value) =>
    new 51 #[.string ⟨#[]⟩, .slice none 0 0, .slice none 0 0, .int .i64 0, .int .i64 0, .string ⟨#[]⟩, .int .i64 0, .slice none 0 0, .int .i64 0] h_2 fun p_2 h_3 =>
    x_1.size = 9 ∧ st x_1.toList h_3 p_2 fun h_4 =>
    ld .str h_4 (p_2.add 0) fun (x_2 : ByteArray) =>
    ifB (x_2.toList == name.toList)
     (K (.tuple #[.int .i64 t, .bool true]) h_4)
     (ar .i64 (t + 1) fun n =>
    next n h_4))
     (K (.tuple #[.int .i64 0, .bool false]) h_2)) 0 h_1
def shape_Place_a : Ann := (.seq .leaf (.seq (.seq .leaf (.block (.loop [(11, .int .i64)] [1, 9, 10] (.seq .leaf (.seq (.cond .leaf .leaf) (.seq (.block (.seq .leaf (.seq .leaf (.cond (.seq .leaf .leaf) .leaf)))) .leaf)))))) (.seq .leaf .leaf)))
theorem shape_Place_eq (f : Array Value) (name : ByteArray) (h : Heap) (K : Value → Heap → Prop) : shape_Place f name h K = fnW Try.prog ty shape_Place_a (bodyOf Try.f44) [.tmp 4, .tmp 5] [.agg f, .string name] h K := by kernel_rfl
theorem shape_Place_of {f : Array Value} {name : ByteArray} {h : Heap} {K : Value → Heap → Prop} (hw : shape_Place f name h K) : ACalls Try.prog F_shape_Place [.agg f, .string name] h K :=
  calls_sound ty_ok mixed shape_Place_a (c := bodyOf Try.f44) Try.func44 (by kernel_rfl) (by kernel_rfl) (by kernel_rfl) (Nat.le_of_ble_eq_true rfl) (by rw [shape_Place_eq] at hw; exact hw)

/-- (lateen/live.set).into -/
def live_set_into (s : Option Nat) (b : Array Value) (inv : Option Nat) (fromv : ByteArray) (h : Heap) (K : Value → Heap → Prop) : Prop :=
  new 51 b h fun p h_1 =>
  mkm h_1 fun m h_2 =>
  ld .sl h_2 (p.add 1) fun (x : Sl) =>
  loopW (fun _ (t : Int) h_3 next =>
    ifB (decide (t < (x.len : Int)))
     (idx 2 x t fun p_1 =>
    ld (.agg 2) h_3 p_1 fun (x_1 : Array Value) =>
    new 58 #[.string ⟨#[]⟩, .slice none 0 0] h_3 fun p_2 h_4 =>
    x_1.size = 2 ∧ st x_1.toList h_4 p_2 fun h_5 =>
    ld .str h_5 (p_2.add 0) fun (x_2 : ByteArray) =>
    mup .string m (.string x_2) (.bool true) h_5 fun h_6 =>
    ld .sl h_6 (p_2.add 1) fun (x_3 : Sl) =>
    loopW (fun _ (t_1 : Int) h_7 next_1 =>
      ifB (decide (t_1 < (x_3.len : Int)))
       (joinW (fun _ (_ : Unit) h_8 =>
        ar .i64 (t_1 + 1) fun n =>
        next_1 n h_8) fun k =>
      idx 4 x_3 t_1 fun p_3 =>
      ld (.agg 4) h_7 p_3 fun (x_4 : Array Value) =>
      new 108 #[.string ⟨#[]⟩, .int .i64 0, .string ⟨#[]⟩, .int .i64 0] h_7 fun p_4 h_9 =>
      x_4.size = 4 ∧ st x_4.toList h_9 p_4 fun h_10 =>
      ld .str h_10 (p_4.add 0) fun (x_5 : ByteArray) =>
      ifB (x_5.toList == fromv.toList)
       (ld (.agg 3) h_10 (p_4.add 1) fun (x_6 : Array Value) =>
       ACalls Try.prog F_live_set_arg [.map s, .agg x_6] h_10 fun v h_11 => as0 v (
       k () h_11))
       (k () h_10))
       (ar .i64 (t + 1) fun n_1 =>
    next n_1 h_7)) 0 h_6)
     (rng inv h_3 fun r h_12 =>
  loopW (fun _ (_ : Unit) h_13 next_2 =>
    nxt r h_13
     (K (.tuple #[]) h_13) fun _ _ h_14 =>
    ent r h_14 fun key_1 _ =>
    mlk .string m (key_1) h_14 fun r_1 => as1 .bool (r_1.getD (.bool false)) fun y =>
    ifB (!y)
     (mup .string s (key_1) (.bool true) h_14 fun h_15 =>
     next_2 () h_15)
     (next_2 () h_14)) () h_12)) 0 h_2
def live_set_into_a : Ann := (.seq .leaf (.seq .leaf (.seq (.seq .leaf (.block (.loop [(18, .int .i64)] [0, 2, 3, 8, 16, 17] (.seq .leaf (.seq (.cond .leaf .leaf) (.seq (.block (.seq .leaf (.seq .leaf (.seq .leaf (.block (.loop [(28, .int .i64)] [0, 2, 3, 8, 16, 17, 18, 26, 27] (.seq .leaf (.seq (.cond .leaf .leaf) (.join [] [0, 2, 3, 8, 16, 17, 18, 26, 27, 28] (.block (.seq .leaf (.seq .leaf (.cond .leaf .leaf)))) .leaf))))))))) .leaf)))))) (.seq .leaf (.block (.loop [] [0, 8, 43] (.seq .leaf (.seq (.cond .leaf .leaf) (.block (.seq .leaf (.seq .leaf (.cond .leaf .leaf))))))))))))
theorem live_set_into_eq (s : Option Nat) (b : Array Value) (inv : Option Nat) (fromv : ByteArray) (h : Heap) (K : Value → Heap → Prop) : live_set_into s b inv fromv h K = fnW Try.prog ty live_set_into_a (bodyOf Try.f45) [] [.map s, .agg b, .map inv, .string fromv] h K := by kernel_rfl
theorem live_set_into_of {s : Option Nat} {b : Array Value} {inv : Option Nat} {fromv : ByteArray} {h : Heap} {K : Value → Heap → Prop} (hw : live_set_into s b inv fromv h K) : ACalls Try.prog F_live_set_into [.map s, .agg b, .map inv, .string fromv] h K :=
  calls_sound ty_ok mixed live_set_into_a (c := bodyOf Try.f45) Try.func45 (by kernel_rfl) (by kernel_rfl) (by kernel_rfl) (Nat.le_of_ble_eq_true rfl) (by rw [live_set_into_eq] at hw; exact hw)

/-- (lateen/live.set).over -/
def live_set_over (s : Option Nat) (i : Array Value) (h : Heap) (K : Value → Heap → Prop) : Prop :=
  new 26 i h fun p h_1 =>
  joinW (fun _ (_ : Unit) h_2 =>
    ld (.agg 6) h_2 p fun (x : Array Value) =>
    ACalls Try.prog F_live_set_instr [.map s, .agg x] h_2 fun v h_3 => as0 v (
    K (.tuple #[]) h_3)) fun k =>
  ld .str h_1 (p.add 1) fun (x_1 : ByteArray) =>
  ifB (!(x_1.toList == (⟨#[]⟩ : ByteArray).toList))
   (ld .str h_1 (p.add 1) fun (x_2 : ByteArray) =>
   mdl .string s (.string x_2) h_1 fun h_4 =>
   k () h_4)
   (k () h_1)
def live_set_over_a : Ann := (.seq .leaf (.join [] [0, 3] (.seq .leaf (.cond .leaf .leaf)) .leaf))
theorem live_set_over_eq (s : Option Nat) (i : Array Value) (h : Heap) (K : Value → Heap → Prop) : live_set_over s i h K = fnW Try.prog ty live_set_over_a (bodyOf Try.f46) [] [.map s, .agg i] h K := by kernel_rfl
theorem live_set_over_of {s : Option Nat} {i : Array Value} {h : Heap} {K : Value → Heap → Prop} (hw : live_set_over s i h K) : ACalls Try.prog F_live_set_over [.map s, .agg i] h K :=
  calls_sound ty_ok mixed live_set_over_a (c := bodyOf Try.f46) Try.func46 (by kernel_rfl) (by kernel_rfl) (by kernel_rfl) (Nat.le_of_ble_eq_true rfl) (by rw [live_set_over_eq] at hw; exact hw)

/-- lateen/flow.Of -/
def flow_Of (f : Array Value) (h : Heap) (K : Value → Heap → Prop) : Prop :=
  new 40 f h fun p h_1 =>
  ld .sl h_1 (p.add 4) fun (x : Sl) =>
  (x.len : Int) = (x.len : Int) ∧ mk si_LLint (x.len : Int) h_1 fun s h_2 =>
  ld .sl h_2 (p.add 4) fun (x_1 : Sl) =>
  loopW (fun _ (t : Int) h_3 next =>
    ifB (decide (t < (x_1.len : Int)))
     (idx 9 x_1 t fun p_1 =>
    ld (.agg 9) h_3 p_1 fun (x_2 : Array Value) =>
    new 51 #[.string ⟨#[]⟩, .slice none 0 0, .slice none 0 0, .int .i64 0, .int .i64 0, .string ⟨#[]⟩, .int .i64 0, .slice none 0 0, .int .i64 0] h_3 fun p_2 h_4 =>
    x_2.size = 9 ∧ st x_2.toList h_4 p_2 fun h_5 =>
    ld .sl h_5 ((p_2.add 3).add 4) fun (x_3 : Sl) =>
    loopW (fun _ (t_1 : Int) h_6 next_1 =>
      ifB (decide (t_1 < (x_3.len : Int)))
       (joinW (fun _ (_ : Unit) h_7 =>
        ar .i64 (t_1 + 1) fun n =>
        next_1 n h_7) fun k =>
      idx 1 x_3 t_1 fun p_3 =>
      ld .str h_6 p_3 fun (x_4 : ByteArray) =>
      ld (.agg 5) h_6 p fun (x_5 : Array Value) =>
      ACalls Try.prog F_shape_Place [.agg x_5, .string x_4] h_6 fun v h_8 => as2 (.int .i64) .bool v fun r r_1 =>
      ifB r_1
       (idx 1 s t fun p_4 =>
       ld .sl h_8 p_4 fun (x_6 : Sl) =>
       bld si_Lint 1 [(0, .int .i64 r)] h_8 fun s_1 h_9 =>
       app si_Lint x_6 s_1 h_9 fun s_2 h_10 =>
       idx 1 s t fun p_5 =>
       st [s_2.v] h_10 p_5 fun h_11 =>
       k () h_11)
       (k () h_8))
       (ar .i64 (t + 1) fun n_1 =>
    next n_1 h_6)) 0 h_5)
     (K s.v h_3)) 0 h_2
def flow_Of_a : Ann := (.seq .leaf (.seq .leaf (.seq (.seq .leaf (.block (.loop [(17, .int .i64)] [1, 3, 15, 16] (.seq .leaf (.seq (.cond .leaf .leaf) (.seq (.block (.seq .leaf (.seq .leaf (.block (.loop [(26, .int .i64)] [1, 3, 4, 15, 16, 17, 24, 25] (.seq .leaf (.seq (.cond .leaf .leaf) (.join [] [1, 3, 4, 15, 16, 17, 24, 25, 26] (.block (.seq .leaf (.seq .leaf (.seq .leaf (.cond .leaf .leaf))))) .leaf)))))))) .leaf)))))) (.seq .leaf .leaf))))
theorem flow_Of_eq (f : Array Value) (h : Heap) (K : Value → Heap → Prop) : flow_Of f h K = fnW Try.prog ty flow_Of_a (bodyOf Try.f47) [.tmp 2] [.agg f] h K := by kernel_rfl
theorem flow_Of_of {f : Array Value} {h : Heap} {K : Value → Heap → Prop} (hw : flow_Of f h K) : ACalls Try.prog F_flow_Of [.agg f] h K :=
  calls_sound ty_ok mixed flow_Of_a (c := bodyOf Try.f47) Try.func47 (by kernel_rfl) (by kernel_rfl) (by kernel_rfl) (Nat.le_of_ble_eq_true rfl) (by rw [flow_Of_eq] at hw; exact hw)

/-- lateen/flow.Preds -/
def flow_Preds (g : Sl) (h : Heap) (K : Value → Heap → Prop) : Prop :=
  (g.len : Int) = (g.len : Int) ∧ mk si_LLint (g.len : Int) h fun s h_1 =>
  loopW (fun _ (t : Int) h_2 next =>
    ifB (decide (t < (g.len : Int)))
     (idx 1 g t fun p =>
    ld .sl h_2 p fun (x : Sl) =>
    loopW (fun _ (t_1 : Int) h_3 next_1 =>
      ifB (decide (t_1 < (x.len : Int)))
       (joinW (fun _ (_ : Unit) h_4 =>
        ar .i64 (t_1 + 1) fun n =>
        next_1 n h_4) fun k =>
      idx 1 x t_1 fun p_1 =>
      ld (.int .i64) h_3 p_1 fun (x_1 : Int) =>
      joinW (fun _ (t_2 : Bool) h_5 =>
        ifB t_2
         (idx 1 s x_1 fun p_2 =>
         ld .sl h_5 p_2 fun (x_2 : Sl) =>
         bld si_Lint 1 [(0, .int .i64 t)] h_5 fun s_1 h_6 =>
         app si_Lint x_2 s_1 h_6 fun s_2 h_7 =>
         idx 1 s x_1 fun p_3 =>
         st [s_2.v] h_7 p_3 fun h_8 =>
         k () h_8)
         (k () h_5)) fun k_1 =>
      ifB (decide (x_1 ≥ 0))
       (ifB (decide (x_1 < (g.len : Int)))
           (idx 1 s x_1 fun p_4 =>
             ld .sl h_3 p_4 fun (x_3 : Sl) =>
              ACalls Try.prog F_slices_Contains_0 [x_3.v, .int .i64 t] h_3 fun v h_9 => as1 .bool v fun r =>
                k_1 (!r) h_9)
           (k_1 false h_3))
       (k_1 false h_3))
       (ar .i64 (t + 1) fun n_1 =>
    next n_1 h_3)) 0 h_2)
     (K s.v h_2)) 0 h_1
def flow_Preds_a : Ann := (.seq .leaf (.seq .leaf (.seq (.seq .leaf (.block (.loop [(13, .int .i64)] [0, 3, 11, 12] (.seq .leaf (.seq (.cond .leaf .leaf) (.seq (.block (.seq .leaf (.seq .leaf (.block (.loop [(20, .int .i64)] [0, 3, 4, 11, 12, 13, 18, 19] (.seq .leaf (.seq (.cond .leaf .leaf) (.join [] [0, 3, 4, 11, 12, 13, 18, 19, 20] (.block (.seq .leaf (.join [(40, .bool)] [0, 3, 4, 7, 11, 12, 13, 18, 19, 20] .leaf (.cond .leaf .leaf)))) .leaf)))))))) .leaf)))))) (.seq .leaf .leaf))))
theorem flow_Preds_eq (g : Sl) (h : Heap) (K : Value → Heap → Prop) : flow_Preds g h K = fnW Try.prog ty flow_Preds_a (bodyOf Try.f48) [.tmp 2] [g.v] h K := by kernel_rfl
theorem flow_Preds_of {g : Sl} {h : Heap} {K : Value → Heap → Prop} (hw : flow_Preds g h K) : ACalls Try.prog F_flow_Preds [g.v] h K :=
  calls_sound ty_ok mixed flow_Preds_a (c := bodyOf Try.f48) Try.func48 (by kernel_rfl) (by kernel_rfl) (by kernel_rfl) (Nat.le_of_ble_eq_true rfl) (by rw [flow_Preds_eq] at hw; exact hw)

/-- lateen/flow.Order -/
def flow_Order (g : Sl) (h : Heap) (K : Value → Heap → Prop) : Prop :=
  ACalls Try.prog F_flow_walk [g.v] h fun v h_1 => as2 .sl .sl v fun _ r_1 =>
  ACalls Try.prog F_slices_Reverse [r_1.v] h_1 fun v_1 h_2 => as0 v_1 (
  K r_1.v h_2)
def flow_Order_a : Ann := (.seq .leaf (.seq .leaf (.seq .leaf (.seq .leaf .leaf))))
theorem flow_Order_eq (g : Sl) (h : Heap) (K : Value → Heap → Prop) : flow_Order g h K = fnW Try.prog ty flow_Order_a (bodyOf Try.f49) [.tmp 2] [g.v] h K := by kernel_rfl
theorem flow_Order_of {g : Sl} {h : Heap} {K : Value → Heap → Prop} (hw : flow_Order g h K) : ACalls Try.prog F_flow_Order [g.v] h K :=
  calls_sound ty_ok mixed flow_Order_a (c := bodyOf Try.f49) Try.func49 (by kernel_rfl) (by kernel_rfl) (by kernel_rfl) (Nat.le_of_ble_eq_true rfl) (by rw [flow_Order_eq] at hw; exact hw)

/-- lateen/assign.params -/
def assign_params (f : Array Value) (h : Heap) (K : Value → Heap → Prop) : Prop :=
  new 40 f h fun p h_1 =>
  mkm h_1 fun m h_2 =>
  ld .sl h_2 (p.add 2) fun (x : Sl) =>
  loopW (fun _ (t : Int) h_3 next =>
    ifB (decide (t < (x.len : Int)))
     (idx 2 x t fun p_1 =>
    ld (.agg 2) h_3 p_1 fun (x_1 : Array Value) =>
    new 62 #[.string ⟨#[]⟩, .string ⟨#[]⟩] h_3 fun p_2 h_4 =>
    x_1.size = 2 ∧ st x_1.toList h_4 p_2 fun h_5 =>
    ld .str h_5 (p_2.add 0) fun (x_2 : ByteArray) =>
    mup .string m (.string x_2) (.bool true) h_5 fun h_6 =>
    ar .i64 (t + 1) fun n =>
    next n h_6)
     (K (.map m) h_3)) 0 h_2
def assign_params_a : Ann := (.seq .leaf (.seq .leaf (.seq (.seq .leaf (.block (.loop [(10, .int .i64)] [3, 8, 9] (.seq .leaf (.seq (.cond .leaf .leaf) (.seq (.block (.seq .leaf .leaf)) .leaf)))))) (.seq .leaf .leaf))))
theorem assign_params_eq (f : Array Value) (h : Heap) (K : Value → Heap → Prop) : assign_params f h K = fnW Try.prog ty assign_params_a (bodyOf Try.f50) [.tmp 2] [.agg f] h K := by kernel_rfl
theorem assign_params_of {f : Array Value} {h : Heap} {K : Value → Heap → Prop} (hw : assign_params f h K) : ACalls Try.prog F_assign_params [.agg f] h K :=
  calls_sound ty_ok mixed assign_params_a (c := bodyOf Try.f50) Try.func50 (by kernel_rfl) (by kernel_rfl) (by kernel_rfl) (Nat.le_of_ble_eq_true rfl) (by rw [assign_params_eq] at hw; exact hw)

/-- lateen/assign.meet -/
def assign_meet (a : Option Nat) (b : Option Nat) (h : Heap) (K : Value → Heap → Prop) : Prop :=
  ifB a.isNone
   (K (.map b) h)
   (mkm h fun m h_1 =>
  rng a h_1 fun r h_2 =>
  loopW (fun _ (_ : Unit) h_3 next =>
    nxt r h_3
     (K (.map m) h_3) fun _ _ h_4 =>
    ent r h_4 fun key_1 _ =>
    mlk .string b (key_1) h_4 fun r_1 => as1 .bool (r_1.getD (.bool false)) fun y =>
    ifB y
     (mup .string m (key_1) (.bool true) h_4 fun h_5 =>
     next () h_5)
     (next () h_4)) () h_2)
def assign_meet_a : Ann := (.seq .leaf (.seq (.seq .leaf (.cond (.seq .leaf .leaf) .leaf)) (.seq .leaf (.seq (.seq .leaf (.block (.loop [] [1, 5, 12] (.seq .leaf (.seq (.cond .leaf .leaf) (.block (.seq .leaf (.seq .leaf (.cond .leaf .leaf))))))))) (.seq .leaf .leaf)))))
theorem assign_meet_eq (a : Option Nat) (b : Option Nat) (h : Heap) (K : Value → Heap → Prop) : assign_meet a b h K = fnW Try.prog ty assign_meet_a (bodyOf Try.f51) [.tmp 4] [.map a, .map b] h K := by kernel_rfl
theorem assign_meet_of {a : Option Nat} {b : Option Nat} {h : Heap} {K : Value → Heap → Prop} (hw : assign_meet a b h K) : ACalls Try.prog F_assign_meet [.map a, .map b] h K :=
  calls_sound ty_ok mixed assign_meet_a (c := bodyOf Try.f51) Try.func51 (by kernel_rfl) (by kernel_rfl) (by kernel_rfl) (Nat.le_of_ble_eq_true rfl) (by rw [assign_meet_eq] at hw; exact hw)

/-- (lateen/assign.set).phis -/
def assign_set_phis (s : Option Nat) (b : Array Value) (h : Heap) (K : Value → Heap → Prop) : Prop :=
  new 51 b h fun p h_1 =>
  ACalls Try.prog F_maps_Clone [.map s] h_1 fun v h_2 => as1 .map v fun r =>
  ld .sl h_2 (p.add 1) fun (x : Sl) =>
  loopW (fun _ (t : Int) h_3 next =>
    ifB (decide (t < (x.len : Int)))
     (idx 2 x t fun p_1 =>
    ld (.agg 2) h_3 p_1 fun (x_1 : Array Value) =>
    new 58 #[.string ⟨#[]⟩, .slice none 0 0] h_3 fun p_2 h_4 =>
    x_1.size = 2 ∧ st x_1.toList h_4 p_2 fun h_5 =>
    ld .str h_5 (p_2.add 0) fun (x_2 : ByteArray) =>
    mup .string r (.string x_2) (.bool true) h_5 fun h_6 =>
    ar .i64 (t + 1) fun n =>
    next n h_6)
     (K (.map r) h_3)) 0 h_2
def assign_set_phis_a : Ann := (.seq .leaf (.seq .leaf (.seq (.seq .leaf (.block (.loop [(13, .int .i64)] [5, 11, 12] (.seq .leaf (.seq (.cond .leaf .leaf) (.seq (.block (.seq .leaf .leaf)) .leaf)))))) (.seq .leaf .leaf))))
theorem assign_set_phis_eq (s : Option Nat) (b : Array Value) (h : Heap) (K : Value → Heap → Prop) : assign_set_phis s b h K = fnW Try.prog ty assign_set_phis_a (bodyOf Try.f52) [.tmp 4] [.map s, .agg b] h K := by kernel_rfl
theorem assign_set_phis_of {s : Option Nat} {b : Array Value} {h : Heap} {K : Value → Heap → Prop} (hw : assign_set_phis s b h K) : ACalls Try.prog F_assign_set_phis [.map s, .agg b] h K :=
  calls_sound ty_ok mixed assign_set_phis_a (c := bodyOf Try.f52) Try.func52 (by kernel_rfl) (by kernel_rfl) (by kernel_rfl) (Nat.le_of_ble_eq_true rfl) (by rw [assign_set_phis_eq] at hw; exact hw)

/-- maps.Keys[lateen/assign.set,string,bool]$1 -/
def maps_Keys_assign_set_string_bool__1 (yield : Value) (p : Addr) (h : Heap) (K : Value → Heap → Prop) : Prop :=
  ld .map h p fun (x : Option Nat) =>
  rng x h fun r h_1 =>
  loopW (fun _ (_ : Unit) h_2 next =>
    nxt r h_2
     (K (.tuple #[]) h_2) fun _ _ h_3 =>
    ent r h_3 fun key_1 _ =>
    callV Try.prog yield [key_1] h_3 fun v h_4 => as1 .bool v fun r_1 =>
    ifB (!r_1)
     (K (.tuple #[]) h_4)
     (next () h_4)) () h_1
def maps_Keys_assign_set_string_bool__1_a : Ann := (.seq .leaf (.block (.loop [] [0, 5] (.seq .leaf (.seq (.cond .leaf .leaf) (.block (.seq .leaf (.seq .leaf (.cond .leaf .leaf)))))))))
theorem maps_Keys_assign_set_string_bool__1_eq (yield : Value) (p : Addr) (h : Heap) (K : Value → Heap → Prop) : maps_Keys_assign_set_string_bool__1 yield p h K = fnW Try.prog ty maps_Keys_assign_set_string_bool__1_a (bodyOf Try.f55) [] [yield, .pointer (some p)] h K := by kernel_rfl
theorem maps_Keys_assign_set_string_bool__1_of {yield : Value} {p : Addr} {h : Heap} {K : Value → Heap → Prop} (hw : maps_Keys_assign_set_string_bool__1 yield p h K) : ACalls Try.prog F_maps_Keys_assign_set_string_bool__1 [yield, .pointer (some p)] h K :=
  calls_sound ty_ok mixed maps_Keys_assign_set_string_bool__1_a (c := bodyOf Try.f55) Try.func55 (by kernel_rfl) (by kernel_rfl) (by kernel_rfl) (Nat.le_of_ble_eq_true rfl) (by rw [maps_Keys_assign_set_string_bool__1_eq] at hw; exact hw)

/-- maps.Clone[lateen/assign.set,string,bool] -/
def maps_Clone (m : Option Nat) (h : Heap) (K : Value → Heap → Prop) : Prop :=
  ifB m.isNone
   (K (.map none) h)
   (False)
def maps_Clone_a : Ann := (.seq .leaf (.seq (.seq .leaf (.cond (.seq .leaf .leaf) .leaf)) (.seq .leaf .leaf)))
theorem maps_Clone_eq (m : Option Nat) (h : Heap) (K : Value → Heap → Prop) : maps_Clone m h K = fnW Try.prog ty maps_Clone_a (bodyOf Try.f56) [.tmp 2] [.map m] h K := by kernel_rfl
theorem maps_Clone_of {m : Option Nat} {h : Heap} {K : Value → Heap → Prop} (hw : maps_Clone m h K) : ACalls Try.prog F_maps_Clone [.map m] h K :=
  calls_sound ty_ok mixed maps_Clone_a (c := bodyOf Try.f56) Try.func56 (by kernel_rfl) (by kernel_rfl) (by kernel_rfl) (Nat.le_of_ble_eq_true rfl) (by rw [maps_Clone_eq] at hw; exact hw)

/-- (lateen/assign.set).has -/
def assign_set_has (s : Option Nat) (l : Sl) (h : Heap) (K : Value → Heap → Prop) : Prop :=
  loopW (fun _ (t : Int) h_1 next =>
    ifB (decide (t < (l.len : Int)))
     (idx 1 l t fun p =>
    ld .str h_1 p fun (x : ByteArray) =>
    mlk .string s (.string x) h_1 fun r => as1 .bool (r.getD (.bool false)) fun y =>
    ifB (!y)
     (K (.bool false) h_1)
     (ar .i64 (t + 1) fun n =>
    next n h_1))
     (K (.bool true) h_1)) 0 h
def assign_set_has_a : Ann := (.seq .leaf (.seq (.seq .leaf (.block (.loop [(9, .int .i64)] [0, 7, 8] (.seq .leaf (.seq (.cond .leaf .leaf) (.seq (.block (.seq .leaf (.seq .leaf (.cond (.seq .leaf .leaf) .leaf)))) .leaf)))))) (.seq .leaf .leaf)))
theorem assign_set_has_eq (s : Option Nat) (l : Sl) (h : Heap) (K : Value → Heap → Prop) : assign_set_has s l h K = fnW Try.prog ty assign_set_has_a (bodyOf Try.f57) [.tmp 4] [.map s, l.v] h K := by kernel_rfl
theorem assign_set_has_of {s : Option Nat} {l : Sl} {h : Heap} {K : Value → Heap → Prop} (hw : assign_set_has s l h K) : ACalls Try.prog F_assign_set_has [.map s, l.v] h K :=
  calls_sound ty_ok mixed assign_set_has_a (c := bodyOf Try.f57) Try.func57 (by kernel_rfl) (by kernel_rfl) (by kernel_rfl) (Nat.le_of_ble_eq_true rfl) (by rw [assign_set_has_eq] at hw; exact hw)

/-- (lateen/assign.set).arg -/
def assign_set_arg (s : Option Nat) (a : Array Value) (h : Heap) (K : Value → Heap → Prop) : Prop :=
  new 47 a h fun p h_1 =>
  joinW (fun _ (t : Bool) h_2 =>
    K (.bool t) h_2) fun k =>
  ld (.int .i64) h_1 (p.add 0) fun (x : Int) =>
  ifB (x != 1)
   (k true h_1)
   (ld .str h_1 (p.add 1) fun (x_1 : ByteArray) =>
     mlk .string s (.string x_1) h_1 fun r => as1 .bool (r.getD (.bool false)) fun y =>
      k y h_1)
def assign_set_arg_a : Ann := (.seq .leaf (.join [(4, .bool)] [] .leaf .leaf))
theorem assign_set_arg_eq (s : Option Nat) (a : Array Value) (h : Heap) (K : Value → Heap → Prop) : assign_set_arg s a h K = fnW Try.prog ty assign_set_arg_a (bodyOf Try.f58) [.tmp 4] [.map s, .agg a] h K := by kernel_rfl
theorem assign_set_arg_of {s : Option Nat} {a : Array Value} {h : Heap} {K : Value → Heap → Prop} (hw : assign_set_arg s a h K) : ACalls Try.prog F_assign_set_arg [.map s, .agg a] h K :=
  calls_sound ty_ok mixed assign_set_arg_a (c := bodyOf Try.f58) Try.func58 (by kernel_rfl) (by kernel_rfl) (by kernel_rfl) (Nat.le_of_ble_eq_true rfl) (by rw [assign_set_arg_eq] at hw; exact hw)

/-- lateen/assign.leads -/
def assign_leads (f : Array Value) (fromv : ByteArray) (tov : ByteArray) (h : Heap) (K : Value → Heap → Prop) : Prop :=
  new 40 f h fun p h_1 =>
  ld .sl h_1 (p.add 4) fun (x : Sl) =>
  loopW (fun _ (t : Int) h_2 next =>
    ifB (decide (t < (x.len : Int)))
     (idx 9 x t fun p_1 =>
    ld (.agg 9) h_2 p_1 fun (x_1 : Array Value) =>
    new 51 #[.string ⟨#[]⟩, .slice none 0 0, .slice none 0 0, .int .i64 0, .int .i64 0, .string ⟨#[]⟩, .int .i64 0, .slice none 0 0, .int .i64 0] h_2 fun p_2 h_3 =>
    x_1.size = 9 ∧ st x_1.toList h_3 p_2 fun h_4 =>
    ld .str h_4 (p_2.add 0) fun (x_2 : ByteArray) =>
    ifB (x_2.toList == fromv.toList)
     (ld .sl h_4 ((p_2.add 3).add 4) fun (x_3 : Sl) =>
     ACalls Try.prog F_slices_Contains_1 [x_3.v, .string tov] h_4 fun v h_5 => as1 .bool v fun r =>
     K (.bool r) h_5)
     (ar .i64 (t + 1) fun n =>
    next n h_4))
     (K (.bool false) h_2)) 0 h_1
def assign_leads_a : Ann := (.seq .leaf (.seq (.seq .leaf (.block (.loop [(12, .int .i64)] [1, 2, 10, 11] (.seq .leaf (.seq (.cond .leaf .leaf) (.seq (.block (.seq .leaf (.seq .leaf (.cond (.seq .leaf .leaf) .leaf)))) .leaf)))))) (.seq .leaf .leaf)))
theorem assign_leads_eq (f : Array Value) (fromv : ByteArray) (tov : ByteArray) (h : Heap) (K : Value → Heap → Prop) : assign_leads f fromv tov h K = fnW Try.prog ty assign_leads_a (bodyOf Try.f59) [.tmp 6] [.agg f, .string fromv, .string tov] h K := by kernel_rfl
theorem assign_leads_of {f : Array Value} {fromv : ByteArray} {tov : ByteArray} {h : Heap} {K : Value → Heap → Prop} (hw : assign_leads f fromv tov h K) : ACalls Try.prog F_assign_leads [.agg f, .string fromv, .string tov] h K :=
  calls_sound ty_ok mixed assign_leads_a (c := bodyOf Try.f59) Try.func59 (by kernel_rfl) (by kernel_rfl) (by kernel_rfl) (Nat.le_of_ble_eq_true rfl) (by rw [assign_leads_eq] at hw; exact hw)

/-- maps.Keys[lateen/live.set,string,bool]$1 -/
def maps_Keys_live_set_string_bool__1 (yield : Value) (p : Addr) (h : Heap) (K : Value → Heap → Prop) : Prop :=
  ld .map h p fun (x : Option Nat) =>
  rng x h fun r h_1 =>
  loopW (fun _ (_ : Unit) h_2 next =>
    nxt r h_2
     (K (.tuple #[]) h_2) fun _ _ h_3 =>
    ent r h_3 fun key_1 _ =>
    callV Try.prog yield [key_1] h_3 fun v h_4 => as1 .bool v fun r_1 =>
    ifB (!r_1)
     (K (.tuple #[]) h_4)
     (next () h_4)) () h_1
def maps_Keys_live_set_string_bool__1_a : Ann := (.seq .leaf (.block (.loop [] [0, 5] (.seq .leaf (.seq (.cond .leaf .leaf) (.block (.seq .leaf (.seq .leaf (.cond .leaf .leaf)))))))))
theorem maps_Keys_live_set_string_bool__1_eq (yield : Value) (p : Addr) (h : Heap) (K : Value → Heap → Prop) : maps_Keys_live_set_string_bool__1 yield p h K = fnW Try.prog ty maps_Keys_live_set_string_bool__1_a (bodyOf Try.f60) [] [yield, .pointer (some p)] h K := by kernel_rfl
theorem maps_Keys_live_set_string_bool__1_of {yield : Value} {p : Addr} {h : Heap} {K : Value → Heap → Prop} (hw : maps_Keys_live_set_string_bool__1 yield p h K) : ACalls Try.prog F_maps_Keys_live_set_string_bool__1 [yield, .pointer (some p)] h K :=
  calls_sound ty_ok mixed maps_Keys_live_set_string_bool__1_a (c := bodyOf Try.f60) Try.func60 (by kernel_rfl) (by kernel_rfl) (by kernel_rfl) (Nat.le_of_ble_eq_true rfl) (by rw [maps_Keys_live_set_string_bool__1_eq] at hw; exact hw)

/-- lateen/lateenref06.countInstr -/
def lateenref06_countInstr (x : Array Value) (most : Int) (h : Heap) (K : Value → Heap → Prop) : Prop :=
  new 26 x h fun p h_1 =>
  joinW (fun _ (t : Bool) h_2 =>
    ifB t
     (ar .i64 (most + 1) fun n =>
     K (.int .i64 n) h_2)
     (ld .str h_2 (p.add 1) fun (x_1 : ByteArray) =>
  ar .i64 (1 + (x_1.size : Int)) fun n_1 =>
  ld .sl h_2 (p.add 4) fun (x_2 : Sl) =>
  ar .i64 (n_1 + (x_2.len : Int)) fun n_2 =>
  ld .sl h_2 (p.add 5) fun (x_3 : Sl) =>
  ar .i64 (n_2 + (x_3.len : Int)) fun n_3 =>
  joinW (fun _ (n_4 : Int) h_3 =>
    joinW (fun _ (n_5 : Int) h_4 =>
      loopW (fun _ (q_n_6 : Int × Int) h_5 next =>
        joinW (fun _ (t_1 : Bool) h_6 =>
          ifB t_1
           (ld .sl h_6 (p.add 4) fun (x_4 : Sl) =>
        idx 4 x_4 q_n_6.2 fun p_1 =>
        ld .str h_6 (p_1.add 0) fun (x_5 : ByteArray) =>
        ar .i64 (q_n_6.1 + (x_5.size : Int)) fun n_7 =>
        joinW (fun _ (n_8 : Int) h_7 =>
          loopW (fun _ (q_n_9 : Int × Int) h_8 next_1 =>
            joinW (fun _ (t_2 : Bool) h_9 =>
              ifB t_2
               (joinW (fun _ (n_10 : Int) h_10 =>
              ar .i64 (q_n_9.2 + 1) fun n_11 =>
              next_1 (n_10, n_11) h_10) fun k_7 =>
            ar .i64 (q_n_9.1 + 1) fun n_12 =>
            ld .sl h_9 (p.add 4) fun (x_6 : Sl) =>
            idx 4 x_6 q_n_6.2 fun p_2 =>
            ld .sl h_9 (p_2.add 3) fun (x_7 : Sl) =>
            idx 4 x_7 q_n_9.2 fun p_3 =>
            ld .str h_9 (p_3.add 0) fun (x_8 : ByteArray) =>
            ar .i64 (n_12 + (x_8.size : Int)) fun n_13 =>
            ifB (decide (n_13 ≤ most))
             (ld .sl h_9 (p.add 4) fun (x_9 : Sl) =>
             idx 4 x_9 q_n_6.2 fun p_4 =>
             ld .sl h_9 (p_4.add 3) fun (x_10 : Sl) =>
             idx 4 x_10 q_n_9.2 fun p_5 =>
             ld .str h_9 ((p_5.add 1).add 1) fun (x_11 : ByteArray) =>
             ar .i64 (n_13 + (x_11.size : Int)) fun n_14 =>
             k_7 n_14 h_9)
             (k_7 n_13 h_9))
               (ar .i64 (q_n_6.2 + 1) fun n_15 =>
        next (q_n_9.1, n_15) h_9)) fun k_6 =>
            ld .sl h_8 (p.add 4) fun (x_12 : Sl) =>
            idx 4 x_12 q_n_6.2 fun p_6 =>
            ld .sl h_8 (p_6.add 3) fun (x_13 : Sl) =>
            ifB (decide (q_n_9.2 < (x_13.len : Int)))
             (k_6 (decide (q_n_9.1 ≤ most)) h_8)
             (k_6 false h_8)) (n_8, 0) h_7) fun k_4 =>
        ifB (decide (n_7 ≤ most))
         (ld .sl h_6 (p.add 4) fun (x_14 : Sl) =>
         idx 4 x_14 q_n_6.2 fun p_7 =>
         ld .str h_6 (p_7.add 1) fun (x_15 : ByteArray) =>
         ar .i64 (n_7 + (x_15.size : Int)) fun n_16 =>
         k_4 n_16 h_6)
         (k_4 n_7 h_6))
           (loopW (fun _ (q_n_17 : Int × Int) h_11 next_2 =>
        joinW (fun _ (t_3 : Bool) h_12 =>
          ifB t_3
           (joinW (fun _ (n_18 : Int) h_13 =>
          ar .i64 (q_n_17.2 + 1) fun n_19 =>
          next_2 (n_18, n_19) h_13) fun k_9 =>
        ld .sl h_12 (p.add 5) fun (x_16 : Sl) =>
        idx 2 x_16 q_n_17.2 fun p_8 =>
        ld .str h_12 (p_8.add 0) fun (x_17 : ByteArray) =>
        ar .i64 (q_n_17.1 + (x_17.size : Int)) fun n_20 =>
        ifB (decide (n_20 ≤ most))
         (ld .sl h_12 (p.add 5) fun (x_18 : Sl) =>
         idx 2 x_18 q_n_17.2 fun p_9 =>
         ld .sl h_12 (p_9.add 1) fun (x_19 : Sl) =>
         ACalls Try.prog F_lateenref06_countArgs [x_19.v, .int .i64 most] h_12 fun v h_14 => as1 (.int .i64) v fun r =>
         ar .i64 (n_20 + r) fun n_21 =>
         k_9 n_21 h_14)
         (k_9 n_20 h_12))
           (K (.int .i64 q_n_17.1) h_12)) fun k_8 =>
        ld .sl h_11 (p.add 5) fun (x_20 : Sl) =>
        ifB (decide (q_n_17.2 < (x_20.len : Int)))
         (k_8 (decide (q_n_17.1 ≤ most)) h_11)
         (k_8 false h_11)) (q_n_6.1, 0) h_6)) fun k_3 =>
        ld .sl h_5 (p.add 4) fun (x_21 : Sl) =>
        ifB (decide (q_n_6.2 < (x_21.len : Int)))
         (k_3 (decide (q_n_6.1 ≤ most)) h_5)
         (k_3 false h_5)) (n_5, 0) h_4) fun k_2 =>
    ifB (decide (n_4 ≤ most))
     (ld .sl h_3 (p.add 3) fun (x_22 : Sl) =>
     ACalls Try.prog F_lateenref06_countArgs [x_22.v, .int .i64 most] h_3 fun v_1 h_15 => as1 (.int .i64) v_1 fun r_1 =>
     ar .i64 (n_4 + r_1) fun n_22 =>
     k_2 n_22 h_15)
     (k_2 n_4 h_3)) fun k_1 =>
  ifB (decide (n_3 ≤ most))
   (ld .str h_2 (p.add 2) fun (x_23 : ByteArray) =>
   ar .i64 (n_3 + (x_23.size : Int)) fun n_23 =>
   k_1 n_23 h_2)
   (k_1 n_3 h_2))) fun k =>
  ld .sl h_1 (p.add 4) fun (x_24 : Sl) =>
  ifB (decide ((x_24.len : Int) > most))
   (k true h_1)
   (ld .sl h_1 (p.add 5) fun (x_25 : Sl) =>
    k (decide ((x_25.len : Int) > most)) h_1)
def lateenref06_countInstr_a : Ann := (.seq .leaf (.seq (.join [(20, .bool)] [1, 2] .leaf (.cond (.seq .leaf .leaf) .leaf)) (.seq .leaf (.join [(5, .int .i64)] [1, 2] (.seq .leaf (.cond .leaf .leaf)) (.join [(5, .int .i64)] [1, 2] (.seq .leaf (.cond .leaf .leaf)) (.seq (.seq .leaf (.block (.loop [(5, .int .i64), (6, .int .i64)] [1, 2] (.seq (.join [(61, .bool)] [1, 2, 5, 6] .leaf (.cond .leaf .leaf)) (.seq (.block (.seq .leaf (.join [(5, .int .i64)] [1, 2, 6] (.seq .leaf (.cond .leaf .leaf)) (.seq .leaf (.block (.loop [(5, .int .i64), (7, .int .i64)] [1, 2, 6] (.seq (.join [(98, .bool)] [1, 2, 5, 6, 7] .leaf (.cond .leaf .leaf)) (.join [(5, .int .i64)] [1, 2, 6, 7] (.block (.seq .leaf (.seq .leaf (.cond .leaf .leaf)))) .leaf)))))))) .leaf))))) (.seq (.seq .leaf (.block (.loop [(5, .int .i64), (8, .int .i64)] [1, 2] (.seq (.join [(141, .bool)] [1, 2, 5, 8] .leaf (.cond .leaf .leaf)) (.join [(5, .int .i64)] [1, 2, 8] (.block (.seq .leaf (.seq .leaf (.cond .leaf .leaf)))) .leaf))))) (.seq .leaf .leaf))))))))
theorem lateenref06_countInstr_eq (x : Array Value) (most : Int) (h : Heap) (K : Value → Heap → Prop) : lateenref06_countInstr x most h K = fnW Try.prog ty lateenref06_countInstr_a (bodyOf Try.f61) [.tmp 4] [.agg x, .int .i64 most] h K := by kernel_rfl
theorem lateenref06_countInstr_of {x : Array Value} {most : Int} {h : Heap} {K : Value → Heap → Prop} (hw : lateenref06_countInstr x most h K) : ACalls Try.prog F_lateenref06_countInstr [.agg x, .int .i64 most] h K :=
  calls_sound ty_ok mixed lateenref06_countInstr_a (c := bodyOf Try.f61) Try.func61 (by kernel_rfl) (by kernel_rfl) (by kernel_rfl) (Nat.le_of_ble_eq_true rfl) (by rw [lateenref06_countInstr_eq] at hw; exact hw)

/-- lateen/lateenref08.Leads -/
def lateenref08_Leads (f : Array Value) (fromv : Int) (tov : Int) (h : Heap) (K : Value → Heap → Prop) : Prop :=
  new 40 f h fun p h_1 =>
  loopW (fun _ (i : Int) h_2 next =>
    ld .sl h_2 (p.add 4) fun (x : Sl) =>
    idx 9 x fromv fun p_1 =>
    ld .sl h_2 ((p_1.add 3).add 4) fun (x_1 : Sl) =>
    ifB (decide (i < (x_1.len : Int)))
     (ld (.agg 5) h_2 p fun (x_2 : Array Value) =>
    ld .sl h_2 (p.add 4) fun (x_3 : Sl) =>
    idx 9 x_3 fromv fun p_2 =>
    ld .sl h_2 ((p_2.add 3).add 4) fun (x_4 : Sl) =>
    idx 1 x_4 i fun p_3 =>
    ld .str h_2 p_3 fun (x_5 : ByteArray) =>
    ACalls Try.prog F_lateenref08_Place [.agg x_2, .string x_5] h_2 fun v h_3 => as2 (.int .i64) .bool v fun r r_1 =>
    hExt h_2 h_3 ∧ joinW (fun _ (t : Bool) h_4 =>
      ifB t
       (K (.bool true) h_4)
       (ar .i64 (i + 1) fun n =>
    next n h_4)) fun k =>
    ifB r_1
     (k (r == tov) h_3)
     (k false h_3))
     (K (.bool false) h_2)) 0 h_1
def lateenref08_Leads_a : Ann := (.seq .leaf (.seq (.seq .leaf (.block (.loop [(7, .int .i64)] [1, 2, 3] (.seq (.seq .leaf (.cond .leaf .leaf)) (.seq (.block (.seq .based (.join [(42, .bool)] [1, 2, 3, 7] .leaf (.cond (.seq .leaf .leaf) .leaf)))) .leaf))))) (.seq .leaf .leaf)))
theorem lateenref08_Leads_eq (f : Array Value) (fromv : Int) (tov : Int) (h : Heap) (K : Value → Heap → Prop) : lateenref08_Leads f fromv tov h K = fnW Try.prog ty lateenref08_Leads_a (bodyOf Try.f62) [.tmp 6] [.agg f, .int .i64 fromv, .int .i64 tov] h K := by kernel_rfl
theorem lateenref08_Leads_of {f : Array Value} {fromv : Int} {tov : Int} {h : Heap} {K : Value → Heap → Prop} (hw : lateenref08_Leads f fromv tov h K) : ACalls Try.prog F_lateenref08_Leads [.agg f, .int .i64 fromv, .int .i64 tov] h K :=
  calls_sound ty_ok mixed lateenref08_Leads_a (c := bodyOf Try.f62) Try.func62 (by kernel_rfl) (by kernel_rfl) (by kernel_rfl) (Nat.le_of_ble_eq_true rfl) (by rw [lateenref08_Leads_eq] at hw; exact hw)

/-- slices.Contains[[]int,int] -/
def slices_Contains_0 (s : Sl) (v : Int) (h : Heap) (K : Value → Heap → Prop) : Prop :=
  ACalls Try.prog F_slices_Index_0 [s.v, .int .i64 v] h fun v_1 h_1 => as1 (.int .i64) v_1 fun r =>
  K (.bool (decide (r ≥ 0))) h_1
def slices_Contains_0_a : Ann := (.seq .leaf (.seq .leaf .leaf))
theorem slices_Contains_0_eq (s : Sl) (v : Int) (h : Heap) (K : Value → Heap → Prop) : slices_Contains_0 s v h K = fnW Try.prog ty slices_Contains_0_a (bodyOf Try.f63) [.tmp 4] [s.v, .int .i64 v] h K := by kernel_rfl
theorem slices_Contains_0_of {s : Sl} {v : Int} {h : Heap} {K : Value → Heap → Prop} (hw : slices_Contains_0 s v h K) : ACalls Try.prog F_slices_Contains_0 [s.v, .int .i64 v] h K :=
  calls_sound ty_ok mixed slices_Contains_0_a (c := bodyOf Try.f63) Try.func63 (by kernel_rfl) (by kernel_rfl) (by kernel_rfl) (Nat.le_of_ble_eq_true rfl) (by rw [slices_Contains_0_eq] at hw; exact hw)

/-- lateen/flow.walk -/
def flow_walk (g : Sl) (h : Heap) (K : Value → Heap → Prop) : Prop :=
  (g.len : Int) = (g.len : Int) ∧ mk si_Lbool (g.len : Int) h fun s h_1 =>
  ifB ((g.len : Int) == 0)
   (K (.tuple #[s.v, (⟨none, 0, 0⟩ : Sl).v]) h_1)
   (idx 1 s 0 fun p =>
  st [.bool true] h_1 p fun h_2 =>
  bst [(0, 1), (1, 1)] #[.int .i64 0, .int .i64 0] [] fun c =>
  bld si_Lflow_step 1 [(0, .agg c)] h_2 fun s_1 h_3 =>
  loopW (fun _ (q_left : Sl × Sl) h_4 next =>
    ifB (decide ((q_left.2.len : Int) > 0))
     (ar .i64 ((q_left.2.len : Int) - 1) fun n =>
    idx 2 q_left.2 n fun p_1 =>
    ld (.int .i64) h_4 (p_1.add 1) fun (x : Int) =>
    ld (.int .i64) h_4 (p_1.add 0) fun (x_1 : Int) =>
    idx 1 g x_1 fun p_2 =>
    ld .sl h_4 p_2 fun (x_2 : Sl) =>
    ifB (x == (x_2.len : Int))
     (ld (.int .i64) h_4 (p_1.add 0) fun (x_3 : Int) =>
     bld si_Lint 1 [(0, .int .i64 x_3)] h_4 fun s_2 h_5 =>
     app si_Lint q_left.1 s_2 h_5 fun s_3 h_6 =>
     ar .i64 ((q_left.2.len : Int) - 1) fun n_1 =>
     slc 2 q_left.2 none (some n_1) fun s_4 =>
     next (s_3, s_4) h_6)
     (ld (.int .i64) h_4 (p_1.add 0) fun (x_4 : Int) =>
    idx 1 g x_4 fun p_3 =>
    ld .sl h_4 p_3 fun (x_5 : Sl) =>
    ld (.int .i64) h_4 (p_1.add 1) fun (x_6 : Int) =>
    idx 1 x_5 x_6 fun p_4 =>
    ld (.int .i64) h_4 p_4 fun (x_7 : Int) =>
    ld (.int .i64) h_4 (p_1.add 1) fun (x_8 : Int) =>
    ar .i64 (x_8 + 1) fun n_2 =>
    st [.int .i64 n_2] h_4 (p_1.add 1) fun h_7 =>
    joinW (fun _ (t : Bool) h_8 =>
      ifB t
       (idx 1 s x_7 fun p_5 =>
       st [.bool true] h_8 p_5 fun h_9 =>
       bst [(0, 1), (1, 1)] #[.int .i64 0, .int .i64 0] [(0, .int .i64 x_7)] fun c_1 =>
       bld si_Lflow_step 1 [(0, .agg c_1)] h_9 fun s_5 h_10 =>
       app si_Lflow_step q_left.2 s_5 h_10 fun s_6 h_11 =>
       next (q_left.1, s_6) h_11)
       (next (q_left.1, q_left.2) h_8)) fun k =>
    ifB (decide (x_7 ≥ 0))
     (ifB (decide (x_7 < (g.len : Int)))
         (idx 1 s x_7 fun p_6 =>
           ld .bool h_7 p_6 fun (x_9 : Bool) =>
            k (!x_9) h_7)
         (k false h_7))
     (k false h_7)))
     (K (.tuple #[s.v, q_left.1.v]) h_4)) ((⟨none, 0, 0⟩ : Sl), s_1) h_3)
def flow_walk_a : Ann := (.seq .leaf (.seq .leaf (.seq .leaf (.seq (.seq .leaf (.cond (.seq .leaf .leaf) .leaf)) (.seq .leaf (.seq .leaf (.seq (.block (.loop [(5, .sl), (6, .sl)] [0, 4] (.seq (.seq .leaf (.cond .leaf .leaf)) (.block (.seq .leaf (.seq (.seq .leaf (.cond (.seq .leaf (.seq .leaf .leaf)) .leaf)) (.seq .leaf (.seq .leaf (.join [(88, .bool)] [0, 4, 5, 6, 8] .leaf (.cond (.seq .leaf .leaf) .leaf)))))))))) (.seq .leaf .leaf))))))))
theorem flow_walk_eq (g : Sl) (h : Heap) (K : Value → Heap → Prop) : flow_walk g h K = fnW Try.prog ty flow_walk_a (bodyOf Try.f64) [.tmp 2, .tmp 3] [g.v] h K := by kernel_rfl
theorem flow_walk_of {g : Sl} {h : Heap} {K : Value → Heap → Prop} (hw : flow_walk g h K) : ACalls Try.prog F_flow_walk [g.v] h K :=
  calls_sound ty_ok mixed flow_walk_a (c := bodyOf Try.f64) Try.func64 (by kernel_rfl) (by kernel_rfl) (by kernel_rfl) (Nat.le_of_ble_eq_true rfl) (by rw [flow_walk_eq] at hw; exact hw)

/-- slices.Reverse[[]int,int] -/
def slices_Reverse (s : Sl) (h : Heap) (K : Value → Heap → Prop) : Prop :=
  ar .i64 ((s.len : Int) - 1) fun n =>
  loopW (fun _ (q_i : Int × Int) h_1 next =>
    ifB (decide (q_i.1 < q_i.2))
     (idx 1 s q_i.2 fun p =>
    ld (.int .i64) h_1 p fun (x : Int) =>
    idx 1 s q_i.1 fun p_1 =>
    ld (.int .i64) h_1 p_1 fun (x_1 : Int) =>
    idx 1 s q_i.1 fun p_2 =>
    st [.int .i64 x] h_1 p_2 fun h_2 =>
    idx 1 s q_i.2 fun p_3 =>
    st [.int .i64 x_1] h_2 p_3 fun h_3 =>
    ar .i64 (q_i.1 + 1) fun n_1 =>
    ar .i64 (q_i.2 - 1) fun n_2 =>
    next (n_1, n_2) h_3)
     (K (.tuple #[]) h_1)) (0, n) h
def slices_Reverse_a : Ann := (.seq .leaf (.block (.loop [(2, .int .i64), (3, .int .i64)] [0] (.seq (.seq .leaf (.cond .leaf .leaf)) (.seq (.block .leaf) .leaf)))))
theorem slices_Reverse_eq (s : Sl) (h : Heap) (K : Value → Heap → Prop) : slices_Reverse s h K = fnW Try.prog ty slices_Reverse_a (bodyOf Try.f65) [] [s.v] h K := by kernel_rfl
theorem slices_Reverse_of {s : Sl} {h : Heap} {K : Value → Heap → Prop} (hw : slices_Reverse s h K) : ACalls Try.prog F_slices_Reverse [s.v] h K :=
  calls_sound ty_ok mixed slices_Reverse_a (c := bodyOf Try.f65) Try.func65 (by kernel_rfl) (by kernel_rfl) (by kernel_rfl) (Nat.le_of_ble_eq_true rfl) (by rw [slices_Reverse_eq] at hw; exact hw)

/-- slices.Contains[[]string,string] -/
def slices_Contains_1 (s : Sl) (v : ByteArray) (h : Heap) (K : Value → Heap → Prop) : Prop :=
  ACalls Try.prog F_slices_Index_1 [s.v, .string v] h fun v_1 h_1 => as1 (.int .i64) v_1 fun r =>
  K (.bool (decide (r ≥ 0))) h_1
def slices_Contains_1_a : Ann := (.seq .leaf (.seq .leaf .leaf))
theorem slices_Contains_1_eq (s : Sl) (v : ByteArray) (h : Heap) (K : Value → Heap → Prop) : slices_Contains_1 s v h K = fnW Try.prog ty slices_Contains_1_a (bodyOf Try.f70) [.tmp 4] [s.v, .string v] h K := by kernel_rfl
theorem slices_Contains_1_of {s : Sl} {v : ByteArray} {h : Heap} {K : Value → Heap → Prop} (hw : slices_Contains_1 s v h K) : ACalls Try.prog F_slices_Contains_1 [s.v, .string v] h K :=
  calls_sound ty_ok mixed slices_Contains_1_a (c := bodyOf Try.f70) Try.func70 (by kernel_rfl) (by kernel_rfl) (by kernel_rfl) (Nat.le_of_ble_eq_true rfl) (by rw [slices_Contains_1_eq] at hw; exact hw)

/-- lateen/lateenref06.countArgs -/
def lateenref06_countArgs (l : Sl) (most : Int) (h : Heap) (K : Value → Heap → Prop) : Prop :=
  ifB (decide ((l.len : Int) > most))
   (ar .i64 (most + 1) fun n =>
   K (.int .i64 n) h)
   (loopW (fun _ (q_n_1 : Int × Int) h_1 next =>
    joinW (fun _ (t : Bool) h_2 =>
      ifB t
       (idx 3 l q_n_1.2 fun p =>
    ld .str h_2 (p.add 1) fun (x : ByteArray) =>
    ar .i64 (q_n_1.1 + (x.size : Int)) fun n_2 =>
    ar .i64 (q_n_1.2 + 1) fun n_3 =>
    next (n_2, n_3) h_2)
       (K (.int .i64 q_n_1.1) h_2)) fun k =>
    ifB (decide (q_n_1.2 < (l.len : Int)))
     (k (decide (q_n_1.1 ≤ most)) h_1)
     (k false h_1)) ((l.len : Int), 0) h)
def lateenref06_countArgs_a : Ann := (.seq .leaf (.seq (.seq .leaf (.cond (.seq .leaf .leaf) .leaf)) (.seq .leaf (.seq (.seq .leaf (.block (.loop [(5, .int .i64), (6, .int .i64)] [0, 1] (.seq (.join [(23, .bool)] [0, 1, 5, 6] .leaf (.cond .leaf .leaf)) (.seq (.block .leaf) .leaf))))) (.seq .leaf .leaf)))))
theorem lateenref06_countArgs_eq (l : Sl) (most : Int) (h : Heap) (K : Value → Heap → Prop) : lateenref06_countArgs l most h K = fnW Try.prog ty lateenref06_countArgs_a (bodyOf Try.f71) [.tmp 4] [l.v, .int .i64 most] h K := by kernel_rfl
theorem lateenref06_countArgs_of {l : Sl} {most : Int} {h : Heap} {K : Value → Heap → Prop} (hw : lateenref06_countArgs l most h K) : ACalls Try.prog F_lateenref06_countArgs [l.v, .int .i64 most] h K :=
  calls_sound ty_ok mixed lateenref06_countArgs_a (c := bodyOf Try.f71) Try.func71 (by kernel_rfl) (by kernel_rfl) (by kernel_rfl) (Nat.le_of_ble_eq_true rfl) (by rw [lateenref06_countArgs_eq] at hw; exact hw)

/-- slices.Index[[]int,int] -/
def slices_Index_0 (s : Sl) (v : Int) (h : Heap) (K : Value → Heap → Prop) : Prop :=
  loopW (fun _ (t : Int) h_1 next =>
    ifB (decide (t < (s.len : Int)))
     (idx 1 s t fun p =>
    ld (.int .i64) h_1 p fun (x : Int) =>
    ifB (v == x)
     (K (.int .i64 t) h_1)
     (ar .i64 (t + 1) fun n =>
    next n h_1))
     (K (.int .i64 (-1)) h_1)) 0 h
def slices_Index_0_a : Ann := (.seq .leaf (.seq (.seq .leaf (.block (.loop [(8, .int .i64)] [0, 1, 7] (.seq .leaf (.seq (.cond .leaf .leaf) (.seq (.block (.seq .leaf (.seq .leaf (.cond (.seq .leaf .leaf) .leaf)))) .leaf)))))) (.seq .leaf .leaf)))
theorem slices_Index_0_eq (s : Sl) (v : Int) (h : Heap) (K : Value → Heap → Prop) : slices_Index_0 s v h K = fnW Try.prog ty slices_Index_0_a (bodyOf Try.f72) [.tmp 4] [s.v, .int .i64 v] h K := by kernel_rfl
theorem slices_Index_0_of {s : Sl} {v : Int} {h : Heap} {K : Value → Heap → Prop} (hw : slices_Index_0 s v h K) : ACalls Try.prog F_slices_Index_0 [s.v, .int .i64 v] h K :=
  calls_sound ty_ok mixed slices_Index_0_a (c := bodyOf Try.f72) Try.func72 (by kernel_rfl) (by kernel_rfl) (by kernel_rfl) (Nat.le_of_ble_eq_true rfl) (by rw [slices_Index_0_eq] at hw; exact hw)

/-- slices.Index[[]string,string] -/
def slices_Index_1 (s : Sl) (v : ByteArray) (h : Heap) (K : Value → Heap → Prop) : Prop :=
  loopW (fun _ (t : Int) h_1 next =>
    ifB (decide (t < (s.len : Int)))
     (idx 1 s t fun p =>
    ld .str h_1 p fun (x : ByteArray) =>
    ifB (v.toList == x.toList)
     (K (.int .i64 t) h_1)
     (ar .i64 (t + 1) fun n =>
    next n h_1))
     (K (.int .i64 (-1)) h_1)) 0 h
def slices_Index_1_a : Ann := (.seq .leaf (.seq (.seq .leaf (.block (.loop [(8, .int .i64)] [0, 1, 7] (.seq .leaf (.seq (.cond .leaf .leaf) (.seq (.block (.seq .leaf (.seq .leaf (.cond (.seq .leaf .leaf) .leaf)))) .leaf)))))) (.seq .leaf .leaf)))
theorem slices_Index_1_eq (s : Sl) (v : ByteArray) (h : Heap) (K : Value → Heap → Prop) : slices_Index_1 s v h K = fnW Try.prog ty slices_Index_1_a (bodyOf Try.f84) [.tmp 4] [s.v, .string v] h K := by kernel_rfl
theorem slices_Index_1_of {s : Sl} {v : ByteArray} {h : Heap} {K : Value → Heap → Prop} (hw : slices_Index_1 s v h K) : ACalls Try.prog F_slices_Index_1 [s.v, .string v] h K :=
  calls_sound ty_ok mixed slices_Index_1_a (c := bodyOf Try.f84) Try.func84 (by kernel_rfl) (by kernel_rfl) (by kernel_rfl) (Nat.le_of_ble_eq_true rfl) (by rw [slices_Index_1_eq] at hw; exact hw)

end Go.Proofs.Ytojdbliehgejbaa
