/-
  Printed by genfw.py: the functions as Props over the layer, and what ties each to the model.
-/
import Derived.Test.YtjpjnpbjalmhiaaFwSound
import Derived.Test.YtjpjnpbjalmhiaaChecked
namespace Go.Proofs.Ytjpjnpbjalmhiaa
open Go.Fw

def si_Lapi_Class : SlI := ⟨42, 2, 40, .agg #[.string ⟨#[]⟩, .slice none 0 0]⟩
def si_Lapi_Var : SlI := ⟨73, 2, 32, .agg #[.string ⟨#[]⟩, .string ⟨#[]⟩]⟩
def si_Lapi_Extern : SlI := ⟨44, 2, 24, .agg #[.string ⟨#[]⟩, .int .i64 0]⟩
def si_Lapi_Func : SlI := ⟨48, 5, 104, .agg #[.string ⟨#[]⟩, .string ⟨#[]⟩, .slice none 0 0, .slice none 0 0, .slice none 0 0]⟩
def si_LLint : SlI := ⟨34, 1, 24, .slice none 0 0⟩
def si_Lint : SlI := ⟨3, 1, 8, .int .i64 0⟩
def si_Lbool : SlI := ⟨4, 1, 1, .bool false⟩
def si_Lapi_Block : SlI := ⟨58, 9, 136, .agg #[.string ⟨#[]⟩, .slice none 0 0, .slice none 0 0, .int .i64 0, .int .i64 0, .string ⟨#[]⟩, .int .i64 0, .slice none 0 0, .int .i64 0]⟩
def si_Lapi_Phi : SlI := ⟨81, 2, 40, .agg #[.string ⟨#[]⟩, .slice none 0 0]⟩
def si_Lapi_Instr : SlI := ⟨63, 6, 112, .agg #[.int .i64 0, .string ⟨#[]⟩, .string ⟨#[]⟩, .slice none 0 0, .slice none 0 0, .slice none 0 0]⟩
def si_Lstring : SlI := ⟨9, 1, 16, .string ⟨#[]⟩⟩
def si_Lapi_Arg : SlI := ⟨53, 3, 32, .agg #[.int .i64 0, .string ⟨#[]⟩, .int .i64 0]⟩
def si_Lapi_Frame : SlI := ⟨106, 4, 64, .agg #[.string ⟨#[]⟩, .string ⟨#[]⟩, .int .i64 0, .slice none 0 0]⟩
def si_Lapi_Virt : SlI := ⟨110, 2, 40, .agg #[.string ⟨#[]⟩, .slice none 0 0]⟩
def si_Lapi_In : SlI := ⟨83, 4, 48, .agg #[.string ⟨#[]⟩, .int .i64 0, .string ⟨#[]⟩, .int .i64 0]⟩
def si_Lcalls_step : SlI := ⟨98, 2, 16, .agg #[.int .i64 0, .int .i64 0]⟩
def si_Lapi_Bind : SlI := ⟨108, 4, 48, .agg #[.string ⟨#[]⟩, .int .i64 0, .string ⟨#[]⟩, .int .i64 0]⟩
abbrev F_lateenlaw20_CallsGraphs : FuncId := 3
abbrev F_lateenlaw20_awake : FuncId := 4
abbrev F_lateenref06_Few : FuncId := 5
abbrev F_lateenref09_SameLists : FuncId := 6
abbrev F_calls_Graph : FuncId := 7
abbrev F_lateenref20_Graph : FuncId := 8
abbrev F_lateenref09_Same : FuncId := 9
abbrev F_calls_Parts : FuncId := 10
abbrev F_lateenref09_SameBools : FuncId := 11
abbrev F_calls_Round : FuncId := 12
abbrev F_calls_Order : FuncId := 13
abbrev F_lateenref06_countVars : FuncId := 14
abbrev F_lateenref06_FewFunc : FuncId := 15
abbrev F_slices_Sort : FuncId := 16
abbrev F_slices_Compact : FuncId := 17
abbrev F_lateenref20_calls : FuncId := 18
abbrev F_calls_walk : FuncId := 19
abbrev F_lateenref06_countBlock : FuncId := 20
abbrev F_calls_walker_down : FuncId := 23
abbrev F_lateenref06_countInstr : FuncId := 24
abbrev F_calls_walker_mark : FuncId := 36
abbrev F_calls_walker_leave : FuncId := 37
abbrev F_lateenref06_countArgs : FuncId := 38
abbrev F_slices_Index : FuncId := 45
abbrev F_slices_Min : FuncId := 46
def ty : Tys :=
  { tk := [(3, .int .i64), (4, .bool), (9, .str), (22, .sl), (23, .sl), (24, .sl), (25, .sl), (27, .agg 5), (31, .sl), (34, .sl), (38, .sl), (46, .sl), (48, .agg 5), (50, .sl), (51, .sl), (54, .sl), (58, .agg 9), (59, .sl), (60, .sl), (61, .sl), (63, .agg 6), (79, .sl), (98, .agg 2), (104, .sl)]
    sl := [(22, si_Lapi_Class), (23, si_Lapi_Var), (24, si_Lapi_Extern), (25, si_Lapi_Func), (31, si_LLint), (34, si_Lint), (38, si_Lbool), (46, si_Lapi_Block), (50, si_Lapi_Phi), (51, si_Lapi_Instr), (54, si_Lstring), (59, si_Lapi_Arg), (60, si_Lapi_Frame), (61, si_Lapi_Virt), (79, si_Lapi_In), (100, si_Lcalls_step), (104, si_Lapi_Bind)]
    zs := [(48, .agg #[.string ⟨#[]⟩, .string ⟨#[]⟩, .slice none 0 0, .slice none 0 0, .slice none 0 0]), (58, .agg #[.string ⟨#[]⟩, .slice none 0 0, .slice none 0 0, .int .i64 0, .int .i64 0, .string ⟨#[]⟩, .int .i64 0, .slice none 0 0, .int .i64 0]), (63, .agg #[.int .i64 0, .string ⟨#[]⟩, .string ⟨#[]⟩, .slice none 0 0, .slice none 0 0, .slice none 0 0]), (98, .agg #[.int .i64 0, .int .i64 0])]
    off := [((27, 1), 1), ((27, 2), 2), ((27, 3), 3), ((27, 4), 4), ((42, 0), 0), ((42, 1), 1), ((44, 0), 0), ((48, 0), 0), ((48, 1), 1), ((48, 2), 2), ((48, 3), 3), ((48, 4), 4), ((53, 1), 1), ((56, 1), 1), ((56, 2), 4), ((58, 0), 0), ((58, 1), 1), ((58, 2), 2), ((58, 3), 3), ((63, 0), 0), ((63, 1), 1), ((63, 2), 2), ((63, 3), 3), ((63, 4), 4), ((63, 5), 5), ((69, 0), 0), ((69, 1), 1), ((69, 2), 2), ((69, 3), 3), ((69, 4), 4), ((69, 5), 5), ((69, 6), 6), ((73, 0), 0), ((73, 1), 1), ((81, 0), 0), ((81, 1), 1), ((83, 0), 0), ((83, 1), 1), ((98, 0), 0), ((98, 1), 1), ((106, 0), 0), ((106, 1), 1), ((106, 3), 3), ((108, 0), 0), ((108, 1), 1), ((110, 0), 0), ((110, 1), 1)]
    res := [(0, []), (3, [.int .i64]), (4, [.bool]), (31, [.sl]), (34, [.sl]), (38, [.sl]), (70, [.ptr]), (98, [.agg 2])]
    fns := [4, 5, 6, 7, 8, 9, 10, 11, 12, 13, 14, 15, 16, 17, 18, 19, 20, 23, 24, 36, 37, 38, 45, 46]
    bs := [(69, ([(0, 1), (1, 1), (2, 1), (3, 1), (4, 1), (5, 1), (6, 1)], .agg #[.slice none 0 0, .slice none 0 0, .slice none 0 0, .slice none 0 0, .slice none 0 0, .slice none 0 0, .slice none 0 0])), (98, ([(0, 1), (1, 1)], .agg #[.int .i64 0, .int .i64 0]))]
    mp := [(49, (.string, .int .i64 0, .int .i64))] }
theorem ty_ok : TOk Try.prog ty where
  tk := (List.forall_mem_cons.2 ⟨⟨⟨_, Try.underlying3, rfl, rfl⟩, by kernel_rfl⟩, List.forall_mem_cons.2 ⟨⟨⟨_, Try.underlying4, rfl, rfl⟩, by kernel_rfl⟩, List.forall_mem_cons.2 ⟨⟨⟨_, Try.underlying9, rfl, rfl⟩, by kernel_rfl⟩, List.forall_mem_cons.2 ⟨⟨⟨_, Try.underlying22, rfl, ⟨_, rfl⟩⟩, by kernel_rfl⟩, List.forall_mem_cons.2 ⟨⟨⟨_, Try.underlying23, rfl, ⟨_, rfl⟩⟩, by kernel_rfl⟩, List.forall_mem_cons.2 ⟨⟨⟨_, Try.underlying24, rfl, ⟨_, rfl⟩⟩, by kernel_rfl⟩, List.forall_mem_cons.2 ⟨⟨⟨_, Try.underlying25, rfl, ⟨_, rfl⟩⟩, by kernel_rfl⟩, List.forall_mem_cons.2 ⟨⟨⟨_, Try.underlying27, rfl, trivial⟩, by kernel_rfl⟩, List.forall_mem_cons.2 ⟨⟨⟨_, Try.underlying31, rfl, ⟨_, rfl⟩⟩, by kernel_rfl⟩, List.forall_mem_cons.2 ⟨⟨⟨_, Try.underlying34, rfl, ⟨_, rfl⟩⟩, by kernel_rfl⟩, List.forall_mem_cons.2 ⟨⟨⟨_, Try.underlying38, rfl, ⟨_, rfl⟩⟩, by kernel_rfl⟩, List.forall_mem_cons.2 ⟨⟨⟨_, Try.underlying46, rfl, ⟨_, rfl⟩⟩, by kernel_rfl⟩, List.forall_mem_cons.2 ⟨⟨⟨_, Try.underlying48, rfl, trivial⟩, by kernel_rfl⟩, List.forall_mem_cons.2 ⟨⟨⟨_, Try.underlying50, rfl, ⟨_, rfl⟩⟩, by kernel_rfl⟩, List.forall_mem_cons.2 ⟨⟨⟨_, Try.underlying51, rfl, ⟨_, rfl⟩⟩, by kernel_rfl⟩, List.forall_mem_cons.2 ⟨⟨⟨_, Try.underlying54, rfl, ⟨_, rfl⟩⟩, by kernel_rfl⟩, List.forall_mem_cons.2 ⟨⟨⟨_, Try.underlying58, rfl, trivial⟩, by kernel_rfl⟩, List.forall_mem_cons.2 ⟨⟨⟨_, Try.underlying59, rfl, ⟨_, rfl⟩⟩, by kernel_rfl⟩, List.forall_mem_cons.2 ⟨⟨⟨_, Try.underlying60, rfl, ⟨_, rfl⟩⟩, by kernel_rfl⟩, List.forall_mem_cons.2 ⟨⟨⟨_, Try.underlying61, rfl, ⟨_, rfl⟩⟩, by kernel_rfl⟩, List.forall_mem_cons.2 ⟨⟨⟨_, Try.underlying63, rfl, trivial⟩, by kernel_rfl⟩, List.forall_mem_cons.2 ⟨⟨⟨_, Try.underlying79, rfl, ⟨_, rfl⟩⟩, by kernel_rfl⟩, List.forall_mem_cons.2 ⟨⟨⟨_, Try.underlying98, rfl, trivial⟩, by kernel_rfl⟩, List.forall_mem_cons.2 ⟨⟨⟨_, Try.underlying104, rfl, ⟨_, rfl⟩⟩, by kernel_rfl⟩, List.forall_mem_nil _⟩⟩⟩⟩⟩⟩⟩⟩⟩⟩⟩⟩⟩⟩⟩⟩⟩⟩⟩⟩⟩⟩⟩⟩)
  sl := (List.forall_mem_cons.2 ⟨⟨Try.underlying22, by kernel_rfl, by kernel_rfl, by decide⟩, List.forall_mem_cons.2 ⟨⟨Try.underlying23, by kernel_rfl, by kernel_rfl, by decide⟩, List.forall_mem_cons.2 ⟨⟨Try.underlying24, by kernel_rfl, by kernel_rfl, by decide⟩, List.forall_mem_cons.2 ⟨⟨Try.underlying25, by kernel_rfl, by kernel_rfl, by decide⟩, List.forall_mem_cons.2 ⟨⟨Try.underlying31, by kernel_rfl, by kernel_rfl, by decide⟩, List.forall_mem_cons.2 ⟨⟨Try.underlying34, by kernel_rfl, by kernel_rfl, by decide⟩, List.forall_mem_cons.2 ⟨⟨Try.underlying38, by kernel_rfl, by kernel_rfl, by decide⟩, List.forall_mem_cons.2 ⟨⟨Try.underlying46, by kernel_rfl, by kernel_rfl, by decide⟩, List.forall_mem_cons.2 ⟨⟨Try.underlying50, by kernel_rfl, by kernel_rfl, by decide⟩, List.forall_mem_cons.2 ⟨⟨Try.underlying51, by kernel_rfl, by kernel_rfl, by decide⟩, List.forall_mem_cons.2 ⟨⟨Try.underlying54, by kernel_rfl, by kernel_rfl, by decide⟩, List.forall_mem_cons.2 ⟨⟨Try.underlying59, by kernel_rfl, by kernel_rfl, by decide⟩, List.forall_mem_cons.2 ⟨⟨Try.underlying60, by kernel_rfl, by kernel_rfl, by decide⟩, List.forall_mem_cons.2 ⟨⟨Try.underlying61, by kernel_rfl, by kernel_rfl, by decide⟩, List.forall_mem_cons.2 ⟨⟨Try.underlying79, by kernel_rfl, by kernel_rfl, by decide⟩, List.forall_mem_cons.2 ⟨⟨Try.underlying100, by kernel_rfl, by kernel_rfl, by decide⟩, List.forall_mem_cons.2 ⟨⟨Try.underlying104, by kernel_rfl, by kernel_rfl, by decide⟩, List.forall_mem_nil _⟩⟩⟩⟩⟩⟩⟩⟩⟩⟩⟩⟩⟩⟩⟩⟩⟩)
  zs := (List.forall_mem_cons.2 ⟨(show ZsOk _ _ by unfold ZsOk; kernel_rfl), List.forall_mem_cons.2 ⟨(show ZsOk _ _ by unfold ZsOk; kernel_rfl), List.forall_mem_cons.2 ⟨(show ZsOk _ _ by unfold ZsOk; kernel_rfl), List.forall_mem_cons.2 ⟨(show ZsOk _ _ by unfold ZsOk; kernel_rfl), List.forall_mem_nil _⟩⟩⟩⟩)
  off := (List.forall_mem_cons.2 ⟨⟨_, _, Try.underlying27, rfl, rfl, by kernel_rfl⟩, List.forall_mem_cons.2 ⟨⟨_, _, Try.underlying27, rfl, rfl, by kernel_rfl⟩, List.forall_mem_cons.2 ⟨⟨_, _, Try.underlying27, rfl, rfl, by kernel_rfl⟩, List.forall_mem_cons.2 ⟨⟨_, _, Try.underlying27, rfl, rfl, by kernel_rfl⟩, List.forall_mem_cons.2 ⟨⟨_, _, Try.underlying42, rfl, rfl, by kernel_rfl⟩, List.forall_mem_cons.2 ⟨⟨_, _, Try.underlying42, rfl, rfl, by kernel_rfl⟩, List.forall_mem_cons.2 ⟨⟨_, _, Try.underlying44, rfl, rfl, by kernel_rfl⟩, List.forall_mem_cons.2 ⟨⟨_, _, Try.underlying48, rfl, rfl, by kernel_rfl⟩, List.forall_mem_cons.2 ⟨⟨_, _, Try.underlying48, rfl, rfl, by kernel_rfl⟩, List.forall_mem_cons.2 ⟨⟨_, _, Try.underlying48, rfl, rfl, by kernel_rfl⟩, List.forall_mem_cons.2 ⟨⟨_, _, Try.underlying48, rfl, rfl, by kernel_rfl⟩, List.forall_mem_cons.2 ⟨⟨_, _, Try.underlying48, rfl, rfl, by kernel_rfl⟩, List.forall_mem_cons.2 ⟨⟨_, _, Try.underlying53, rfl, rfl, by kernel_rfl⟩, List.forall_mem_cons.2 ⟨⟨_, _, Try.underlying56, rfl, rfl, by kernel_rfl⟩, List.forall_mem_cons.2 ⟨⟨_, _, Try.underlying56, rfl, rfl, by kernel_rfl⟩, List.forall_mem_cons.2 ⟨⟨_, _, Try.underlying58, rfl, rfl, by kernel_rfl⟩, List.forall_mem_cons.2 ⟨⟨_, _, Try.underlying58, rfl, rfl, by kernel_rfl⟩, List.forall_mem_cons.2 ⟨⟨_, _, Try.underlying58, rfl, rfl, by kernel_rfl⟩, List.forall_mem_cons.2 ⟨⟨_, _, Try.underlying58, rfl, rfl, by kernel_rfl⟩, List.forall_mem_cons.2 ⟨⟨_, _, Try.underlying63, rfl, rfl, by kernel_rfl⟩, List.forall_mem_cons.2 ⟨⟨_, _, Try.underlying63, rfl, rfl, by kernel_rfl⟩, List.forall_mem_cons.2 ⟨⟨_, _, Try.underlying63, rfl, rfl, by kernel_rfl⟩, List.forall_mem_cons.2 ⟨⟨_, _, Try.underlying63, rfl, rfl, by kernel_rfl⟩, List.forall_mem_cons.2 ⟨⟨_, _, Try.underlying63, rfl, rfl, by kernel_rfl⟩, List.forall_mem_cons.2 ⟨⟨_, _, Try.underlying63, rfl, rfl, by kernel_rfl⟩, List.forall_mem_cons.2 ⟨⟨_, _, Try.underlying69, rfl, rfl, by kernel_rfl⟩, List.forall_mem_cons.2 ⟨⟨_, _, Try.underlying69, rfl, rfl, by kernel_rfl⟩, List.forall_mem_cons.2 ⟨⟨_, _, Try.underlying69, rfl, rfl, by kernel_rfl⟩, List.forall_mem_cons.2 ⟨⟨_, _, Try.underlying69, rfl, rfl, by kernel_rfl⟩, List.forall_mem_cons.2 ⟨⟨_, _, Try.underlying69, rfl, rfl, by kernel_rfl⟩, List.forall_mem_cons.2 ⟨⟨_, _, Try.underlying69, rfl, rfl, by kernel_rfl⟩, List.forall_mem_cons.2 ⟨⟨_, _, Try.underlying69, rfl, rfl, by kernel_rfl⟩, List.forall_mem_cons.2 ⟨⟨_, _, Try.underlying73, rfl, rfl, by kernel_rfl⟩, List.forall_mem_cons.2 ⟨⟨_, _, Try.underlying73, rfl, rfl, by kernel_rfl⟩, List.forall_mem_cons.2 ⟨⟨_, _, Try.underlying81, rfl, rfl, by kernel_rfl⟩, List.forall_mem_cons.2 ⟨⟨_, _, Try.underlying81, rfl, rfl, by kernel_rfl⟩, List.forall_mem_cons.2 ⟨⟨_, _, Try.underlying83, rfl, rfl, by kernel_rfl⟩, List.forall_mem_cons.2 ⟨⟨_, _, Try.underlying83, rfl, rfl, by kernel_rfl⟩, List.forall_mem_cons.2 ⟨⟨_, _, Try.underlying98, rfl, rfl, by kernel_rfl⟩, List.forall_mem_cons.2 ⟨⟨_, _, Try.underlying98, rfl, rfl, by kernel_rfl⟩, List.forall_mem_cons.2 ⟨⟨_, _, Try.underlying106, rfl, rfl, by kernel_rfl⟩, List.forall_mem_cons.2 ⟨⟨_, _, Try.underlying106, rfl, rfl, by kernel_rfl⟩, List.forall_mem_cons.2 ⟨⟨_, _, Try.underlying106, rfl, rfl, by kernel_rfl⟩, List.forall_mem_cons.2 ⟨⟨_, _, Try.underlying108, rfl, rfl, by kernel_rfl⟩, List.forall_mem_cons.2 ⟨⟨_, _, Try.underlying108, rfl, rfl, by kernel_rfl⟩, List.forall_mem_cons.2 ⟨⟨_, _, Try.underlying110, rfl, rfl, by kernel_rfl⟩, List.forall_mem_cons.2 ⟨⟨_, _, Try.underlying110, rfl, rfl, by kernel_rfl⟩, List.forall_mem_nil _⟩⟩⟩⟩⟩⟩⟩⟩⟩⟩⟩⟩⟩⟩⟩⟩⟩⟩⟩⟩⟩⟩⟩⟩⟩⟩⟩⟩⟩⟩⟩⟩⟩⟩⟩⟩⟩⟩⟩⟩⟩⟩⟩⟩⟩⟩⟩)
  fns := (List.forall_mem_cons.2 ⟨(show FnOk _ _ by unfold FnOk; kernel_rfl), List.forall_mem_cons.2 ⟨(show FnOk _ _ by unfold FnOk; kernel_rfl), List.forall_mem_cons.2 ⟨(show FnOk _ _ by unfold FnOk; kernel_rfl), List.forall_mem_cons.2 ⟨(show FnOk _ _ by unfold FnOk; kernel_rfl), List.forall_mem_cons.2 ⟨(show FnOk _ _ by unfold FnOk; kernel_rfl), List.forall_mem_cons.2 ⟨(show FnOk _ _ by unfold FnOk; kernel_rfl), List.forall_mem_cons.2 ⟨(show FnOk _ _ by unfold FnOk; kernel_rfl), List.forall_mem_cons.2 ⟨(show FnOk _ _ by unfold FnOk; kernel_rfl), List.forall_mem_cons.2 ⟨(show FnOk _ _ by unfold FnOk; kernel_rfl), List.forall_mem_cons.2 ⟨(show FnOk _ _ by unfold FnOk; kernel_rfl), List.forall_mem_cons.2 ⟨(show FnOk _ _ by unfold FnOk; kernel_rfl), List.forall_mem_cons.2 ⟨(show FnOk _ _ by unfold FnOk; kernel_rfl), List.forall_mem_cons.2 ⟨(show FnOk _ _ by unfold FnOk; kernel_rfl), List.forall_mem_cons.2 ⟨(show FnOk _ _ by unfold FnOk; kernel_rfl), List.forall_mem_cons.2 ⟨(show FnOk _ _ by unfold FnOk; kernel_rfl), List.forall_mem_cons.2 ⟨(show FnOk _ _ by unfold FnOk; kernel_rfl), List.forall_mem_cons.2 ⟨(show FnOk _ _ by unfold FnOk; kernel_rfl), List.forall_mem_cons.2 ⟨(show FnOk _ _ by unfold FnOk; kernel_rfl), List.forall_mem_cons.2 ⟨(show FnOk _ _ by unfold FnOk; kernel_rfl), List.forall_mem_cons.2 ⟨(show FnOk _ _ by unfold FnOk; kernel_rfl), List.forall_mem_cons.2 ⟨(show FnOk _ _ by unfold FnOk; kernel_rfl), List.forall_mem_cons.2 ⟨(show FnOk _ _ by unfold FnOk; kernel_rfl), List.forall_mem_cons.2 ⟨(show FnOk _ _ by unfold FnOk; kernel_rfl), List.forall_mem_cons.2 ⟨(show FnOk _ _ by unfold FnOk; kernel_rfl), List.forall_mem_nil _⟩⟩⟩⟩⟩⟩⟩⟩⟩⟩⟩⟩⟩⟩⟩⟩⟩⟩⟩⟩⟩⟩⟩⟩)
  bs := (List.forall_mem_cons.2 ⟨⟨_, Try.underlying69, by kernel_rfl, by kernel_rfl⟩, List.forall_mem_cons.2 ⟨⟨_, Try.underlying98, by kernel_rfl, by kernel_rfl⟩, List.forall_mem_nil _⟩⟩)
  mp := (List.forall_mem_cons.2 ⟨⟨9, 3, Try.underlying49, by kernel_rfl, (show ZsOk _ _ by unfold ZsOk; kernel_rfl)⟩, List.forall_mem_nil _⟩)
theorem mixed : Try.prog.follows .mixedOrders = true := by kernel_rfl

/-- lateen/lateenlaw20.CallsGraphs -/
def lateenlaw20_CallsGraphs (p : Array Value) (h : Heap) (K : Value → Heap → Prop) : Prop :=
  new 27 p h fun p_1 h_1 =>
  joinW (fun _ (t : Bool) h_2 =>
    ifB t
     (ACalls Try.prog F_lateenlaw20_awake [] h_2 fun v h_3 => as1 .bool v fun r =>
     K (.bool r) h_3)
     (ld (.agg 5) h_2 p_1 fun (x : Array Value) =>
  ACalls Try.prog F_calls_Graph [.agg x] h_2 fun v_1 h_4 => as1 .sl v_1 fun r_1 =>
  hExt h_2 h_4 ∧ ld (.agg 5) h_2 p_1 fun (x_1 : Array Value) =>
  ACalls Try.prog F_lateenref20_Graph [.agg x_1] h_4 fun v_2 h_5 => as1 .sl v_2 fun r_2 =>
  hExt h_4 h_5 ∧ ACalls Try.prog F_lateenref09_SameLists [r_1.v, r_2.v] h_5 fun v_3 h_6 => as1 .bool v_3 fun r_3 =>
  hExt h_5 h_6 ∧ K (.bool r_3) h_6)) fun k =>
  ACalls Try.prog F_lateenlaw20_awake [] h_1 fun v_4 h_7 => as1 .bool v_4 fun r_4 =>
  ifB (!r_4)
   (k true h_7)
   (ld (.agg 5) h_7 p_1 fun (x_2 : Array Value) =>
   ACalls Try.prog F_lateenref06_Few [.agg x_2, .int .i64 6000] h_7 fun v_5 h_8 => as1 .bool v_5 fun r_5 =>
    k (!r_5) h_8)
def lateenlaw20_CallsGraphs_a : Ann := (.seq .leaf (.seq (.join [(9, .bool)] [1] .leaf (.cond (.seq .leaf .leaf) .leaf)) (.seq .based .leaf)))
theorem lateenlaw20_CallsGraphs_eq (p : Array Value) (h : Heap) (K : Value → Heap → Prop) : lateenlaw20_CallsGraphs p h K = fnW Try.prog ty lateenlaw20_CallsGraphs_a (bodyOf Try.f3) [.tmp 2] [.agg p] h K := by kernel_rfl
theorem lateenlaw20_CallsGraphs_of {p : Array Value} {h : Heap} {K : Value → Heap → Prop} (hw : lateenlaw20_CallsGraphs p h K) : ACalls Try.prog F_lateenlaw20_CallsGraphs [.agg p] h K :=
  calls_sound ty_ok mixed lateenlaw20_CallsGraphs_a (c := bodyOf Try.f3) Try.func3 (by kernel_rfl) (by kernel_rfl) (by kernel_rfl) (Nat.le_of_ble_eq_true rfl) (by rw [lateenlaw20_CallsGraphs_eq] at hw; exact hw)

/-- lateen/lateenlaw20.awake -/
def lateenlaw20_awake  (h : Heap) (K : Value → Heap → Prop) : Prop :=
  bld si_Lint 1 [(0, .int .i64 1)] h fun s h_1 =>
  bld si_Lint 1 [(0, .int .i64 2)] h_1 fun s_1 h_2 =>
  bld si_Lint 1 [(0, .int .i64 1)] h_2 fun s_2 h_3 =>
  bld si_LLint 3 [(0, s.v), (1, s_1.v), (2, s_2.v)] h_3 fun s_3 h_4 =>
  joinW (fun _ (t : Bool) h_5 =>
    K (.bool t) h_5) fun k =>
  ACalls Try.prog F_calls_Parts [s_3.v] h_4 fun v h_6 => as1 .sl v fun r =>
  bld si_Lint 3 [(0, .int .i64 0), (1, .int .i64 1), (2, .int .i64 1)] h_6 fun s_4 h_7 =>
  ACalls Try.prog F_lateenref09_Same [r.v, s_4.v] h_7 fun v_1 h_8 => as1 .bool v_1 fun r_1 =>
  ifB r_1
   (ACalls Try.prog F_calls_Round [s_3.v] h_8 fun v_2 h_9 => as1 .sl v_2 fun r_2 =>
    bld si_Lbool 3 [(0, .bool false), (1, .bool true), (2, .bool true)] h_9 fun s_5 h_10 =>
     ACalls Try.prog F_lateenref09_SameBools [r_2.v, s_5.v] h_10 fun v_3 h_11 => as1 .bool v_3 fun r_3 =>
      ifB r_3
       (ACalls Try.prog F_calls_Order [s_3.v] h_11 fun v_4 h_12 => as1 .sl v_4 fun r_4 =>
        bld si_Lint 3 [(0, .int .i64 2), (1, .int .i64 1), (2, .int .i64 0)] h_12 fun s_6 h_13 =>
         ACalls Try.prog F_lateenref09_Same [r_4.v, s_6.v] h_13 fun v_5 h_14 => as1 .bool v_5 fun r_5 =>
          k r_5 h_14)
       (k false h_11))
   (k false h_8)
def lateenlaw20_awake_a : Ann := (.seq .leaf (.seq .leaf (.join [(0, .bool)] [] .leaf .leaf)))
theorem lateenlaw20_awake_eq  (h : Heap) (K : Value → Heap → Prop) : lateenlaw20_awake  h K = fnW Try.prog ty lateenlaw20_awake_a (bodyOf Try.f4) [.tmp 0] [] h K := by kernel_rfl
theorem lateenlaw20_awake_of  {h : Heap} {K : Value → Heap → Prop} (hw : lateenlaw20_awake  h K) : ACalls Try.prog F_lateenlaw20_awake [] h K :=
  calls_sound ty_ok mixed lateenlaw20_awake_a (c := bodyOf Try.f4) Try.func4 (by kernel_rfl) (by kernel_rfl) (by kernel_rfl) (Nat.le_of_ble_eq_true rfl) (by rw [lateenlaw20_awake_eq] at hw; exact hw)

/-- lateen/lateenref06.Few -/
def lateenref06_Few (p : Array Value) (most : Int) (h : Heap) (K : Value → Heap → Prop) : Prop :=
  new 27 p h fun p_1 h_1 =>
  joinW (fun _ (t : Bool) h_2 =>
    ifB t
     (K (.bool false) h_2)
     (ld .sl h_2 (p_1.add 2) fun (x : Sl) =>
  ACalls Try.prog F_lateenref06_countVars [x.v, .int .i64 most] h_2 fun v h_3 => as1 (.int .i64) v fun r =>
  loopW (fun _ (q_n : Int × Int) h_4 next =>
    joinW (fun _ (t_1 : Bool) h_5 =>
      ifB t_1
       (joinW (fun _ (n_1 : Int) h_6 =>
      ar .i64 (q_n.2 + 1) fun n_2 =>
      next (n_1, n_2) h_6) fun k_2 =>
    ld .sl h_5 (p_1.add 1) fun (x_1 : Sl) =>
    idx 2 x_1 q_n.2 fun p_2 =>
    ld .str h_5 (p_2.add 0) fun (x_2 : ByteArray) =>
    ar .i64 (q_n.1 + (x_2.size : Int)) fun n_3 =>
    ifB (decide (n_3 ≤ most))
     (ld .sl h_5 (p_1.add 1) fun (x_3 : Sl) =>
     idx 2 x_3 q_n.2 fun p_3 =>
     ld .sl h_5 (p_3.add 1) fun (x_4 : Sl) =>
     ACalls Try.prog F_lateenref06_countVars [x_4.v, .int .i64 most] h_5 fun v_1 h_7 => as1 (.int .i64) v_1 fun r_1 =>
     ar .i64 (n_3 + r_1) fun n_4 =>
     k_2 n_4 h_7)
     (k_2 n_3 h_5))
       (loopW (fun _ (q_n_5 : Int × Int) h_8 next_1 =>
    joinW (fun _ (t_2 : Bool) h_9 =>
      ifB t_2
       (ar .i64 (q_n_5.1 + 1) fun n_6 =>
    ld .sl h_9 (p_1.add 3) fun (x_5 : Sl) =>
    idx 2 x_5 q_n_5.2 fun p_4 =>
    ld .str h_9 (p_4.add 0) fun (x_6 : ByteArray) =>
    ar .i64 (n_6 + (x_6.size : Int)) fun n_7 =>
    ar .i64 (q_n_5.2 + 1) fun n_8 =>
    next_1 (n_7, n_8) h_9)
       (loopW (fun _ (q_n_9 : Int × Int) h_10 next_2 =>
    joinW (fun _ (t_3 : Bool) h_11 =>
      ifB t_3
       (ld .sl h_11 (p_1.add 4) fun (x_7 : Sl) =>
    idx 5 x_7 q_n_9.2 fun p_5 =>
    ld (.agg 5) h_11 p_5 fun (x_8 : Array Value) =>
    ACalls Try.prog F_lateenref06_FewFunc [.agg x_8, .int .i64 most] h_11 fun v_2 h_12 => as1 (.int .i64) v_2 fun r_2 =>
    ar .i64 (q_n_9.1 + r_2) fun n_10 =>
    ar .i64 (q_n_9.2 + 1) fun n_11 =>
    next_2 (n_10, n_11) h_12)
       (K (.bool (decide (q_n_9.1 ≤ most))) h_11)) fun k_4 =>
    ld .sl h_10 (p_1.add 4) fun (x_9 : Sl) =>
    ifB (decide (q_n_9.2 < (x_9.len : Int)))
     (k_4 (decide (q_n_9.1 ≤ most)) h_10)
     (k_4 false h_10)) (q_n_5.1, 0) h_9)) fun k_3 =>
    ld .sl h_8 (p_1.add 3) fun (x_10 : Sl) =>
    ifB (decide (q_n_5.2 < (x_10.len : Int)))
     (k_3 (decide (q_n_5.1 ≤ most)) h_8)
     (k_3 false h_8)) (q_n.1, 0) h_5)) fun k_1 =>
    ld .sl h_4 (p_1.add 1) fun (x_11 : Sl) =>
    ifB (decide (q_n.2 < (x_11.len : Int)))
     (k_1 (decide (q_n.1 ≤ most)) h_4)
     (k_1 false h_4)) (r, 0) h_3)) fun k =>
  ld .sl h_1 (p_1.add 1) fun (x_12 : Sl) =>
  ifB (decide ((x_12.len : Int) > 50))
   (k true h_1)
   (ld .sl h_1 (p_1.add 3) fun (x_13 : Sl) =>
    ifB (decide ((x_13.len : Int) > 50))
       (k true h_1)
       (ld .sl h_1 (p_1.add 4) fun (x_14 : Sl) =>
        k (decide ((x_14.len : Int) > 50)) h_1))
def lateenref06_Few_a : Ann := (.seq .leaf (.seq (.join [(24, .bool)] [1, 2] .leaf (.cond (.seq .leaf .leaf) .leaf)) (.seq .leaf (.seq (.seq .leaf (.block (.loop [(5, .int .i64), (6, .int .i64)] [1, 2] (.seq (.join [(38, .bool)] [1, 2, 5, 6] .leaf (.cond .leaf .leaf)) (.join [(5, .int .i64)] [1, 2, 6] (.block (.seq .leaf (.seq .leaf (.cond .leaf .leaf)))) .leaf))))) (.seq (.seq .leaf (.block (.loop [(5, .int .i64), (7, .int .i64)] [1, 2] (.seq (.join [(72, .bool)] [1, 2, 5, 7] .leaf (.cond .leaf .leaf)) (.seq (.block .leaf) .leaf))))) (.seq (.seq .leaf (.block (.loop [(5, .int .i64), (8, .int .i64)] [1, 2] (.seq (.join [(94, .bool)] [1, 2, 5, 8] .leaf (.cond .leaf .leaf)) (.seq (.block .leaf) .leaf))))) (.seq .leaf .leaf)))))))
theorem lateenref06_Few_eq (p : Array Value) (most : Int) (h : Heap) (K : Value → Heap → Prop) : lateenref06_Few p most h K = fnW Try.prog ty lateenref06_Few_a (bodyOf Try.f5) [.tmp 4] [.agg p, .int .i64 most] h K := by kernel_rfl
theorem lateenref06_Few_of {p : Array Value} {most : Int} {h : Heap} {K : Value → Heap → Prop} (hw : lateenref06_Few p most h K) : ACalls Try.prog F_lateenref06_Few [.agg p, .int .i64 most] h K :=
  calls_sound ty_ok mixed lateenref06_Few_a (c := bodyOf Try.f5) Try.func5 (by kernel_rfl) (by kernel_rfl) (by kernel_rfl) (Nat.le_of_ble_eq_true rfl) (by rw [lateenref06_Few_eq] at hw; exact hw)

/-- lateen/lateenref09.SameLists -/
def lateenref09_SameLists (a : Sl) (b : Sl) (h : Heap) (K : Value → Heap → Prop) : Prop :=
  ifB ((a.len : Int) != (b.len : Int))
   (K (.bool false) h)
   (loopW (fun _ (i : Int) h_1 next =>
    ifB (decide (i < (a.len : Int)))
     (idx 1 a i fun p =>
    ld .sl h_1 p fun (x : Sl) =>
    idx 1 b i fun p_1 =>
    ld .sl h_1 p_1 fun (x_1 : Sl) =>
    ACalls Try.prog F_lateenref09_Same [x.v, x_1.v] h_1 fun v h_2 => as1 .bool v fun r =>
    ifB (!r)
     (K (.bool false) h_2)
     (ar .i64 (i + 1) fun n =>
    next n h_2))
     (K (.bool true) h_1)) 0 h)
def lateenref09_SameLists_a : Ann := (.seq .leaf (.seq (.seq .leaf (.cond (.seq .leaf .leaf) .leaf)) (.seq (.seq .leaf (.block (.loop [(5, .int .i64)] [0, 1] (.seq (.seq .leaf (.cond .leaf .leaf)) (.seq (.block (.seq .leaf (.cond (.seq .leaf .leaf) .leaf))) .leaf))))) (.seq .leaf .leaf))))
theorem lateenref09_SameLists_eq (a : Sl) (b : Sl) (h : Heap) (K : Value → Heap → Prop) : lateenref09_SameLists a b h K = fnW Try.prog ty lateenref09_SameLists_a (bodyOf Try.f6) [.tmp 4] [a.v, b.v] h K := by kernel_rfl
theorem lateenref09_SameLists_of {a : Sl} {b : Sl} {h : Heap} {K : Value → Heap → Prop} (hw : lateenref09_SameLists a b h K) : ACalls Try.prog F_lateenref09_SameLists [a.v, b.v] h K :=
  calls_sound ty_ok mixed lateenref09_SameLists_a (c := bodyOf Try.f6) Try.func6 (by kernel_rfl) (by kernel_rfl) (by kernel_rfl) (Nat.le_of_ble_eq_true rfl) (by rw [lateenref09_SameLists_eq] at hw; exact hw)

/-- lateen/calls.Graph -/
def calls_Graph (p : Array Value) (h : Heap) (K : Value → Heap → Prop) : Prop :=
  new 27 p h fun p_1 h_1 =>
  mkm h_1 fun m h_2 =>
  ld .sl h_2 (p_1.add 4) fun (x : Sl) =>
  ar .i64 ((x.len : Int) - 1) fun n =>
  loopW (fun _ (i : Int) h_3 next =>
    ifB (decide (i ≥ 0))
     (ld .sl h_3 (p_1.add 4) fun (x_1 : Sl) =>
    idx 5 x_1 i fun p_2 =>
    ld .str h_3 (p_2.add 0) fun (x_2 : ByteArray) =>
    mup .string m (.string x_2) (.int .i64 i) h_3 fun h_4 =>
    ar .i64 (i - 1) fun n_1 =>
    next n_1 h_4)
     (ld .sl h_3 (p_1.add 4) fun (x_3 : Sl) =>
  (x_3.len : Int) = (x_3.len : Int) ∧ mk si_LLint (x_3.len : Int) h_3 fun s h_5 =>
  ld .sl h_5 (p_1.add 4) fun (x_4 : Sl) =>
  loopW (fun _ (t : Int) h_6 next_1 =>
    ifB (decide (t < (x_4.len : Int)))
     (idx 5 x_4 t fun p_3 =>
    ld (.agg 5) h_6 p_3 fun (x_5 : Array Value) =>
    new 48 #[.string ⟨#[]⟩, .string ⟨#[]⟩, .slice none 0 0, .slice none 0 0, .slice none 0 0] h_6 fun p_4 h_7 =>
    x_5.size = 5 ∧ st x_5.toList h_7 p_4 fun h_8 =>
    ld .sl h_8 (p_4.add 4) fun (x_6 : Sl) =>
    loopW (fun _ (t_1 : Int) h_9 next_2 =>
      ifB (decide (t_1 < (x_6.len : Int)))
       (idx 9 x_6 t_1 fun p_5 =>
      ld (.agg 9) h_9 p_5 fun (x_7 : Array Value) =>
      new 58 #[.string ⟨#[]⟩, .slice none 0 0, .slice none 0 0, .int .i64 0, .int .i64 0, .string ⟨#[]⟩, .int .i64 0, .slice none 0 0, .int .i64 0] h_9 fun p_6 h_10 =>
      x_7.size = 9 ∧ st x_7.toList h_10 p_6 fun h_11 =>
      ld .sl h_11 (p_6.add 2) fun (x_8 : Sl) =>
      loopW (fun _ (t_2 : Int) h_12 next_3 =>
        ifB (decide (t_2 < (x_8.len : Int)))
         (joinW (fun _ (_ : Unit) h_13 =>
          ar .i64 (t_2 + 1) fun n_2 =>
          next_3 n_2 h_13) fun k =>
        idx 6 x_8 t_2 fun p_7 =>
        ld (.agg 6) h_12 p_7 fun (x_9 : Array Value) =>
        new 63 #[.int .i64 0, .string ⟨#[]⟩, .string ⟨#[]⟩, .slice none 0 0, .slice none 0 0, .slice none 0 0] h_12 fun p_8 h_14 =>
        x_9.size = 6 ∧ st x_9.toList h_14 p_8 fun h_15 =>
        ld .str h_15 (p_8.add 2) fun (x_10 : ByteArray) =>
        mlk .string m (.string x_10) h_15 fun r => as1 (.int .i64) (r.getD (.int .i64 0)) fun y =>
        joinW (fun _ (t_3 : Bool) h_16 =>
          ifB t_3
           (idx 1 s t fun p_9 =>
           ld .sl h_16 p_9 fun (x_11 : Sl) =>
           bld si_Lint 1 [(0, .int .i64 y)] h_16 fun s_1 h_17 =>
           app si_Lint x_11 s_1 h_17 fun s_2 h_18 =>
           idx 1 s t fun p_10 =>
           st [s_2.v] h_18 p_10 fun h_19 =>
           k () h_19)
           (k () h_16)) fun k_1 =>
        ifB r.isSome
         (ld (.int .i64) h_15 (p_8.add 0) fun (x_12 : Int) =>
          k_1 (x_12 == 31) h_15)
         (k_1 false h_15))
         (ar .i64 (t_1 + 1) fun n_3 =>
      next_2 n_3 h_12)) 0 h_11)
       (idx 1 s t fun p_11 =>
    ld .sl h_9 p_11 fun (x_13 : Sl) =>
    ACalls Try.prog F_slices_Sort [x_13.v] h_9 fun v h_20 => as0 v (
    idx 1 s t fun p_12 =>
    ld .sl h_20 p_12 fun (x_14 : Sl) =>
    ACalls Try.prog F_slices_Compact [x_14.v] h_20 fun v_1 h_21 => as1 .sl v_1 fun r_1 =>
    idx 1 s t fun p_13 =>
    st [r_1.v] h_21 p_13 fun h_22 =>
    ar .i64 (t + 1) fun n_4 =>
    next_1 n_4 h_22))) 0 h_8)
     (K s.v h_6)) 0 h_5)) n h_2
def calls_Graph_a : Ann := (.seq .leaf (.seq .leaf (.seq (.seq .leaf (.block (.loop [(4, .int .i64)] [1, 3] (.seq (.seq .leaf (.cond .leaf .leaf)) (.seq (.block .leaf) .leaf))))) (.seq .leaf (.seq (.seq .leaf (.block (.loop [(38, .int .i64)] [3, 5, 36, 37] (.seq .leaf (.seq (.cond .leaf .leaf) (.seq (.block (.seq .leaf (.seq (.seq .leaf (.block (.loop [(46, .int .i64)] [3, 5, 6, 36, 37, 38, 44, 45] (.seq .leaf (.seq (.cond .leaf .leaf) (.seq (.block (.seq .leaf (.seq .leaf (.block (.loop [(53, .int .i64)] [3, 5, 6, 36, 37, 38, 44, 45, 46, 51, 52] (.seq .leaf (.seq (.cond .leaf .leaf) (.join [] [3, 5, 6, 36, 37, 38, 44, 45, 46, 51, 52, 53] (.block (.seq .leaf (.seq .leaf (.join [(69, .bool)] [3, 5, 6, 12, 36, 37, 38, 44, 45, 46, 51, 52, 53] .leaf (.cond .leaf .leaf))))) .leaf)))))))) .leaf)))))) (.seq .leaf .leaf)))) .leaf)))))) (.seq .leaf .leaf))))))
theorem calls_Graph_eq (p : Array Value) (h : Heap) (K : Value → Heap → Prop) : calls_Graph p h K = fnW Try.prog ty calls_Graph_a (bodyOf Try.f7) [.tmp 2] [.agg p] h K := by kernel_rfl
theorem calls_Graph_of {p : Array Value} {h : Heap} {K : Value → Heap → Prop} (hw : calls_Graph p h K) : ACalls Try.prog F_calls_Graph [.agg p] h K :=
  calls_sound ty_ok mixed calls_Graph_a (c := bodyOf Try.f7) Try.func7 (by kernel_rfl) (by kernel_rfl) (by kernel_rfl) (Nat.le_of_ble_eq_true rfl) (by rw [calls_Graph_eq] at hw; exact hw)

/-- lateen/lateenref20.Graph -/
def lateenref20_Graph (p : Array Value) (h : Heap) (K : Value → Heap → Prop) : Prop :=
  new 27 p h fun p_1 h_1 =>
  loopW (fun _ (q_out : Sl × Int) h_2 next =>
    ld .sl h_2 (p_1.add 4) fun (x : Sl) =>
    ifB (decide (q_out.2 < (x.len : Int)))
     (loopW (fun _ (q_l : Sl × Int) h_3 next_1 =>
      ld .sl h_3 (p_1.add 4) fun (x_1 : Sl) =>
      ifB (decide (q_l.2 < (x_1.len : Int)))
       (joinW (fun _ (l_1 : Sl) h_4 =>
        ar .i64 (q_l.2 + 1) fun n =>
        next_1 (l_1, n) h_4) fun k_1 =>
      loopW (fun _ (q_first : Bool × Int) h_5 next_2 =>
        ifB (decide (q_first.2 < q_l.2))
         (joinW (fun _ (first_1 : Bool) h_6 =>
          ar .i64 (q_first.2 + 1) fun n_1 =>
          next_2 (first_1, n_1) h_6) fun k_2 =>
        ifB q_first.1
         (ld .sl h_5 (p_1.add 4) fun (x_2 : Sl) =>
          idx 5 x_2 q_first.2 fun p_2 =>
            ld .str h_5 (p_2.add 0) fun (x_3 : ByteArray) =>
              ld .sl h_5 (p_1.add 4) fun (x_4 : Sl) =>
                idx 5 x_4 q_l.2 fun p_3 =>
                  ld .str h_5 (p_3.add 0) fun (x_5 : ByteArray) =>
                    k_2 (!(x_3.toList == x_5.toList)) h_5)
         (k_2 false h_5))
         (joinW (fun _ (t : Bool) h_7 =>
        ifB t
         (bld si_Lint 1 [(0, .int .i64 q_l.2)] h_7 fun s h_8 =>
         app si_Lint q_l.1 s h_8 fun s_1 h_9 =>
         k_1 s_1 h_9)
         (k_1 q_l.1 h_7)) fun k_3 =>
      ifB q_first.1
       (ld .sl h_5 (p_1.add 4) fun (x_6 : Sl) =>
        idx 5 x_6 q_out.2 fun p_4 =>
          ld (.agg 5) h_5 p_4 fun (x_7 : Array Value) =>
           ld .sl h_5 (p_1.add 4) fun (x_8 : Sl) =>
             idx 5 x_8 q_l.2 fun p_5 =>
               ld .str h_5 (p_5.add 0) fun (x_9 : ByteArray) =>
                 ACalls Try.prog F_lateenref20_calls [.agg x_7, .string x_9] h_5 fun v h_10 => as1 .bool v fun r =>
                  hExt h_5 h_10 ∧ k_3 r h_10)
       (k_3 false h_5))) (true, 0) h_3)
       (bld si_LLint 1 [(0, q_l.1.v)] h_3 fun s_2 h_11 =>
    app si_LLint q_out.1 s_2 h_11 fun s_3 h_12 =>
    ar .i64 (q_out.2 + 1) fun n_2 =>
    next (s_3, n_2) h_12)) ((⟨none, 0, 0⟩ : Sl), 0) h_2)
     (K q_out.1.v h_2)) ((⟨none, 0, 0⟩ : Sl), 0) h_1
def lateenref20_Graph_a : Ann := (.seq .leaf (.seq .leaf (.seq (.seq .leaf (.block (.loop [(3, .sl), (4, .int .i64)] [1] (.seq (.seq .leaf (.cond .leaf .leaf)) (.seq (.block (.seq .leaf (.seq (.seq .leaf (.block (.loop [(5, .sl), (6, .int .i64)] [1, 3, 4] (.seq (.seq .leaf (.cond .leaf .leaf)) (.join [(5, .sl)] [1, 3, 4, 6] (.block (.seq .leaf (.seq (.seq .leaf (.block (.loop [(7, .bool), (8, .int .i64)] [1, 3, 4, 5, 6] (.seq (.seq .leaf (.cond .leaf .leaf)) (.join [(7, .bool)] [1, 3, 4, 5, 6, 8] (.block .leaf) .leaf))))) (.join [(58, .bool)] [1, 3, 4, 5, 6] .based (.cond .leaf .leaf))))) .leaf))))) .leaf))) .leaf))))) (.seq .leaf .leaf))))
theorem lateenref20_Graph_eq (p : Array Value) (h : Heap) (K : Value → Heap → Prop) : lateenref20_Graph p h K = fnW Try.prog ty lateenref20_Graph_a (bodyOf Try.f8) [.tmp 2] [.agg p] h K := by kernel_rfl
theorem lateenref20_Graph_of {p : Array Value} {h : Heap} {K : Value → Heap → Prop} (hw : lateenref20_Graph p h K) : ACalls Try.prog F_lateenref20_Graph [.agg p] h K :=
  calls_sound ty_ok mixed lateenref20_Graph_a (c := bodyOf Try.f8) Try.func8 (by kernel_rfl) (by kernel_rfl) (by kernel_rfl) (Nat.le_of_ble_eq_true rfl) (by rw [lateenref20_Graph_eq] at hw; exact hw)

/-- lateen/lateenref09.Same -/
def lateenref09_Same (a : Sl) (b : Sl) (h : Heap) (K : Value → Heap → Prop) : Prop :=
  ifB ((a.len : Int) != (b.len : Int))
   (K (.bool false) h)
   (loopW (fun _ (i : Int) h_1 next =>
    ifB (decide (i < (a.len : Int)))
     (idx 1 a i fun p =>
    ld (.int .i64) h_1 p fun (x : Int) =>
    idx 1 b i fun p_1 =>
    ld (.int .i64) h_1 p_1 fun (x_1 : Int) =>
    ifB (x != x_1)
     (K (.bool false) h_1)
     (ar .i64 (i + 1) fun n =>
    next n h_1))
     (K (.bool true) h_1)) 0 h)
def lateenref09_Same_a : Ann := (.seq .leaf (.seq (.seq .leaf (.cond (.seq .leaf .leaf) .leaf)) (.seq (.seq .leaf (.block (.loop [(5, .int .i64)] [0, 1] (.seq (.seq .leaf (.cond .leaf .leaf)) (.seq (.block (.seq .leaf (.cond (.seq .leaf .leaf) .leaf))) .leaf))))) (.seq .leaf .leaf))))
theorem lateenref09_Same_eq (a : Sl) (b : Sl) (h : Heap) (K : Value → Heap → Prop) : lateenref09_Same a b h K = fnW Try.prog ty lateenref09_Same_a (bodyOf Try.f9) [.tmp 4] [a.v, b.v] h K := by kernel_rfl
theorem lateenref09_Same_of {a : Sl} {b : Sl} {h : Heap} {K : Value → Heap → Prop} (hw : lateenref09_Same a b h K) : ACalls Try.prog F_lateenref09_Same [a.v, b.v] h K :=
  calls_sound ty_ok mixed lateenref09_Same_a (c := bodyOf Try.f9) Try.func9 (by kernel_rfl) (by kernel_rfl) (by kernel_rfl) (Nat.le_of_ble_eq_true rfl) (by rw [lateenref09_Same_eq] at hw; exact hw)

/-- lateen/calls.Parts -/
def calls_Parts (g : Sl) (h : Heap) (K : Value → Heap → Prop) : Prop :=
  ACalls Try.prog F_calls_walk [g.v] h fun v h_1 => as1 .ptr v fun r =>
  nilck r fun p =>
  ld .sl h_1 (p.add 3) fun (x : Sl) =>
  K x.v h_1
def calls_Parts_a : Ann := (.seq .leaf (.seq .leaf .leaf))
theorem calls_Parts_eq (g : Sl) (h : Heap) (K : Value → Heap → Prop) : calls_Parts g h K = fnW Try.prog ty calls_Parts_a (bodyOf Try.f10) [.tmp 2] [g.v] h K := by kernel_rfl
theorem calls_Parts_of {g : Sl} {h : Heap} {K : Value → Heap → Prop} (hw : calls_Parts g h K) : ACalls Try.prog F_calls_Parts [g.v] h K :=
  calls_sound ty_ok mixed calls_Parts_a (c := bodyOf Try.f10) Try.func10 (by kernel_rfl) (by kernel_rfl) (by kernel_rfl) (Nat.le_of_ble_eq_true rfl) (by rw [calls_Parts_eq] at hw; exact hw)

/-- lateen/lateenref09.SameBools -/
def lateenref09_SameBools (a : Sl) (b : Sl) (h : Heap) (K : Value → Heap → Prop) : Prop :=
  ifB ((a.len : Int) != (b.len : Int))
   (K (.bool false) h)
   (loopW (fun _ (i : Int) h_1 next =>
    ifB (decide (i < (a.len : Int)))
     (idx 1 a i fun p =>
    ld .bool h_1 p fun (x : Bool) =>
    idx 1 b i fun p_1 =>
    ld .bool h_1 p_1 fun (x_1 : Bool) =>
    ifB (!(x == x_1))
     (K (.bool false) h_1)
     (ar .i64 (i + 1) fun n =>
    next n h_1))
     (K (.bool true) h_1)) 0 h)
def lateenref09_SameBools_a : Ann := (.seq .leaf (.seq (.seq .leaf (.cond (.seq .leaf .leaf) .leaf)) (.seq (.seq .leaf (.block (.loop [(5, .int .i64)] [0, 1] (.seq (.seq .leaf (.cond .leaf .leaf)) (.seq (.block (.seq .leaf (.cond (.seq .leaf .leaf) .leaf))) .leaf))))) (.seq .leaf .leaf))))
theorem lateenref09_SameBools_eq (a : Sl) (b : Sl) (h : Heap) (K : Value → Heap → Prop) : lateenref09_SameBools a b h K = fnW Try.prog ty lateenref09_SameBools_a (bodyOf Try.f11) [.tmp 4] [a.v, b.v] h K := by kernel_rfl
theorem lateenref09_SameBools_of {a : Sl} {b : Sl} {h : Heap} {K : Value → Heap → Prop} (hw : lateenref09_SameBools a b h K) : ACalls Try.prog F_lateenref09_SameBools [a.v, b.v] h K :=
  calls_sound ty_ok mixed lateenref09_SameBools_a (c := bodyOf Try.f11) Try.func11 (by kernel_rfl) (by kernel_rfl) (by kernel_rfl) (Nat.le_of_ble_eq_true rfl) (by rw [lateenref09_SameBools_eq] at hw; exact hw)

/-- lateen/calls.Round -/
def calls_Round (g : Sl) (h : Heap) (K : Value → Heap → Prop) : Prop :=
  ACalls Try.prog F_calls_walk [g.v] h fun v h_1 => as1 .ptr v fun r =>
  nilck r fun p =>
  ld .sl h_1 (p.add 6) fun (x : Sl) =>
  K x.v h_1
def calls_Round_a : Ann := (.seq .leaf (.seq .leaf .leaf))
theorem calls_Round_eq (g : Sl) (h : Heap) (K : Value → Heap → Prop) : calls_Round g h K = fnW Try.prog ty calls_Round_a (bodyOf Try.f12) [.tmp 2] [g.v] h K := by kernel_rfl
theorem calls_Round_of {g : Sl} {h : Heap} {K : Value → Heap → Prop} (hw : calls_Round g h K) : ACalls Try.prog F_calls_Round [g.v] h K :=
  calls_sound ty_ok mixed calls_Round_a (c := bodyOf Try.f12) Try.func12 (by kernel_rfl) (by kernel_rfl) (by kernel_rfl) (Nat.le_of_ble_eq_true rfl) (by rw [calls_Round_eq] at hw; exact hw)

/-- lateen/calls.Order -/
def calls_Order (g : Sl) (h : Heap) (K : Value → Heap → Prop) : Prop :=
  ACalls Try.prog F_calls_walk [g.v] h fun v h_1 => as1 .ptr v fun r =>
  nilck r fun p =>
  ld .sl h_1 (p.add 5) fun (x : Sl) =>
  K x.v h_1
def calls_Order_a : Ann := (.seq .leaf (.seq .leaf .leaf))
theorem calls_Order_eq (g : Sl) (h : Heap) (K : Value → Heap → Prop) : calls_Order g h K = fnW Try.prog ty calls_Order_a (bodyOf Try.f13) [.tmp 2] [g.v] h K := by kernel_rfl
theorem calls_Order_of {g : Sl} {h : Heap} {K : Value → Heap → Prop} (hw : calls_Order g h K) : ACalls Try.prog F_calls_Order [g.v] h K :=
  calls_sound ty_ok mixed calls_Order_a (c := bodyOf Try.f13) Try.func13 (by kernel_rfl) (by kernel_rfl) (by kernel_rfl) (Nat.le_of_ble_eq_true rfl) (by rw [calls_Order_eq] at hw; exact hw)

/-- lateen/lateenref06.countVars -/
def lateenref06_countVars (l : Sl) (most : Int) (h : Heap) (K : Value → Heap → Prop) : Prop :=
  ifB (decide ((l.len : Int) > most))
   (ar .i64 (most + 1) fun n =>
   K (.int .i64 n) h)
   (loopW (fun _ (q_n_1 : Int × Int) h_1 next =>
    joinW (fun _ (t : Bool) h_2 =>
      ifB t
       (joinW (fun _ (n_2 : Int) h_3 =>
      ar .i64 (q_n_1.2 + 1) fun n_3 =>
      next (n_2, n_3) h_3) fun k_1 =>
    idx 2 l q_n_1.2 fun p =>
    ld .str h_2 (p.add 0) fun (x : ByteArray) =>
    ar .i64 (q_n_1.1 + (x.size : Int)) fun n_4 =>
    ifB (decide (n_4 ≤ most))
     (idx 2 l q_n_1.2 fun p_1 =>
     ld .str h_2 (p_1.add 1) fun (x_1 : ByteArray) =>
     ar .i64 (n_4 + (x_1.size : Int)) fun n_5 =>
     k_1 n_5 h_2)
     (k_1 n_4 h_2))
       (K (.int .i64 q_n_1.1) h_2)) fun k =>
    ifB (decide (q_n_1.2 < (l.len : Int)))
     (k (decide (q_n_1.1 ≤ most)) h_1)
     (k false h_1)) ((l.len : Int), 0) h)
def lateenref06_countVars_a : Ann := (.seq .leaf (.seq (.seq .leaf (.cond (.seq .leaf .leaf) .leaf)) (.seq .leaf (.seq (.seq .leaf (.block (.loop [(5, .int .i64), (6, .int .i64)] [0, 1] (.seq (.join [(23, .bool)] [0, 1, 5, 6] .leaf (.cond .leaf .leaf)) (.join [(5, .int .i64)] [0, 1, 6] (.block (.seq .leaf (.seq .leaf (.cond .leaf .leaf)))) .leaf))))) (.seq .leaf .leaf)))))
theorem lateenref06_countVars_eq (l : Sl) (most : Int) (h : Heap) (K : Value → Heap → Prop) : lateenref06_countVars l most h K = fnW Try.prog ty lateenref06_countVars_a (bodyOf Try.f14) [.tmp 4] [l.v, .int .i64 most] h K := by kernel_rfl
theorem lateenref06_countVars_of {l : Sl} {most : Int} {h : Heap} {K : Value → Heap → Prop} (hw : lateenref06_countVars l most h K) : ACalls Try.prog F_lateenref06_countVars [l.v, .int .i64 most] h K :=
  calls_sound ty_ok mixed lateenref06_countVars_a (c := bodyOf Try.f14) Try.func14 (by kernel_rfl) (by kernel_rfl) (by kernel_rfl) (Nat.le_of_ble_eq_true rfl) (by rw [lateenref06_countVars_eq] at hw; exact hw)

/-- lateen/lateenref06.FewFunc -/
def lateenref06_FewFunc (f : Array Value) (most : Int) (h : Heap) (K : Value → Heap → Prop) : Prop :=
  new 48 f h fun p h_1 =>
  ld .sl h_1 (p.add 4) fun (x : Sl) =>
  ifB (decide ((x.len : Int) > most))
   (ar .i64 (most + 1) fun n =>
   K (.int .i64 n) h_1)
   (ld .str h_1 (p.add 0) fun (x_1 : ByteArray) =>
  ar .i64 (1 + (x_1.size : Int)) fun n_1 =>
  joinW (fun _ (n_2 : Int) h_2 =>
    joinW (fun _ (n_3 : Int) h_3 =>
      joinW (fun _ (n_4 : Int) h_4 =>
        loopW (fun _ (q_n_5 : Int × Int) h_5 next =>
          joinW (fun _ (t : Bool) h_6 =>
            ifB t
             (ld .sl h_6 (p.add 4) fun (x_2 : Sl) =>
          idx 9 x_2 q_n_5.2 fun p_1 =>
          ld (.agg 9) h_6 p_1 fun (x_3 : Array Value) =>
          ACalls Try.prog F_lateenref06_countBlock [.agg x_3, .int .i64 most] h_6 fun v h_7 => as1 (.int .i64) v fun r =>
          ar .i64 (q_n_5.1 + r) fun n_6 =>
          ar .i64 (q_n_5.2 + 1) fun n_7 =>
          next (n_6, n_7) h_7)
             (K (.int .i64 q_n_5.1) h_6)) fun k_3 =>
          ld .sl h_5 (p.add 4) fun (x_4 : Sl) =>
          ifB (decide (q_n_5.2 < (x_4.len : Int)))
           (k_3 (decide (q_n_5.1 ≤ most)) h_5)
           (k_3 false h_5)) (n_4, 0) h_4) fun k_2 =>
      ifB (decide (n_3 ≤ most))
       (ld .sl h_3 (p.add 3) fun (x_5 : Sl) =>
       ACalls Try.prog F_lateenref06_countVars [x_5.v, .int .i64 most] h_3 fun v_1 h_8 => as1 (.int .i64) v_1 fun r_1 =>
       ar .i64 (n_3 + r_1) fun n_8 =>
       k_2 n_8 h_8)
       (k_2 n_3 h_3)) fun k_1 =>
    ifB (decide (n_2 ≤ most))
     (ld .sl h_2 (p.add 2) fun (x_6 : Sl) =>
     ACalls Try.prog F_lateenref06_countVars [x_6.v, .int .i64 most] h_2 fun v_2 h_9 => as1 (.int .i64) v_2 fun r_2 =>
     ar .i64 (n_2 + r_2) fun n_9 =>
     k_1 n_9 h_9)
     (k_1 n_2 h_2)) fun k =>
  ifB (decide (n_1 ≤ most))
   (ld .str h_1 (p.add 1) fun (x_7 : ByteArray) =>
   ar .i64 (n_1 + (x_7.size : Int)) fun n_10 =>
   k n_10 h_1)
   (k n_1 h_1))
def lateenref06_FewFunc_a : Ann := (.seq .leaf (.seq (.seq .leaf (.cond (.seq .leaf .leaf) .leaf)) (.seq .leaf (.join [(5, .int .i64)] [1, 2] (.seq .leaf (.cond .leaf .leaf)) (.join [(5, .int .i64)] [1, 2] (.seq .leaf (.cond .leaf .leaf)) (.join [(5, .int .i64)] [1, 2] (.seq .leaf (.cond .leaf .leaf)) (.seq (.seq .leaf (.block (.loop [(5, .int .i64), (6, .int .i64)] [1, 2] (.seq (.join [(53, .bool)] [1, 2, 5, 6] .leaf (.cond .leaf .leaf)) (.seq (.block .leaf) .leaf))))) (.seq .leaf .leaf))))))))
theorem lateenref06_FewFunc_eq (f : Array Value) (most : Int) (h : Heap) (K : Value → Heap → Prop) : lateenref06_FewFunc f most h K = fnW Try.prog ty lateenref06_FewFunc_a (bodyOf Try.f15) [.tmp 4] [.agg f, .int .i64 most] h K := by kernel_rfl
theorem lateenref06_FewFunc_of {f : Array Value} {most : Int} {h : Heap} {K : Value → Heap → Prop} (hw : lateenref06_FewFunc f most h K) : ACalls Try.prog F_lateenref06_FewFunc [.agg f, .int .i64 most] h K :=
  calls_sound ty_ok mixed lateenref06_FewFunc_a (c := bodyOf Try.f15) Try.func15 (by kernel_rfl) (by kernel_rfl) (by kernel_rfl) (Nat.le_of_ble_eq_true rfl) (by rw [lateenref06_FewFunc_eq] at hw; exact hw)

/-- lateen/lateenref20.calls -/
def lateenref20_calls (f : Array Value) (name : ByteArray) (h : Heap) (K : Value → Heap → Prop) : Prop :=
  new 48 f h fun p h_1 =>
  loopW (fun _ (i : Int) h_2 next =>
    ld .sl h_2 (p.add 4) fun (x : Sl) =>
    ifB (decide (i < (x.len : Int)))
     (loopW (fun _ (k : Int) h_3 next_1 =>
      ld .sl h_3 (p.add 4) fun (x_1 : Sl) =>
      idx 9 x_1 i fun p_1 =>
      ld .sl h_3 (p_1.add 2) fun (x_2 : Sl) =>
      ifB (decide (k < (x_2.len : Int)))
       (joinW (fun _ (t : Bool) h_4 =>
        ifB t
         (K (.bool true) h_4)
         (ar .i64 (k + 1) fun n =>
      next_1 n h_4)) fun k_1 =>
      ld .sl h_3 (p.add 4) fun (x_3 : Sl) =>
      idx 9 x_3 i fun p_2 =>
      ld .sl h_3 (p_2.add 2) fun (x_4 : Sl) =>
      idx 6 x_4 k fun p_3 =>
      ld (.int .i64) h_3 (p_3.add 0) fun (x_5 : Int) =>
      ifB (x_5 == 31)
       (ld .sl h_3 (p.add 4) fun (x_6 : Sl) =>
        idx 9 x_6 i fun p_4 =>
          ld .sl h_3 (p_4.add 2) fun (x_7 : Sl) =>
            idx 6 x_7 k fun p_5 =>
              ld .str h_3 (p_5.add 2) fun (x_8 : ByteArray) =>
                k_1 (x_8.toList == name.toList) h_3)
       (k_1 false h_3))
       (ar .i64 (i + 1) fun n_1 =>
    next n_1 h_3)) 0 h_2)
     (K (.bool false) h_2)) 0 h_1
def lateenref20_calls_a : Ann := (.seq .leaf (.seq (.seq .leaf (.block (.loop [(5, .int .i64)] [1, 2] (.seq (.seq .leaf (.cond .leaf .leaf)) (.seq (.block (.seq .leaf (.block (.loop [(6, .int .i64)] [1, 2, 5] (.seq (.seq .leaf (.cond .leaf .leaf)) (.seq (.block (.join [(49, .bool)] [1, 2, 5, 6] .leaf (.cond (.seq .leaf .leaf) .leaf))) .leaf)))))) .leaf))))) (.seq .leaf .leaf)))
theorem lateenref20_calls_eq (f : Array Value) (name : ByteArray) (h : Heap) (K : Value → Heap → Prop) : lateenref20_calls f name h K = fnW Try.prog ty lateenref20_calls_a (bodyOf Try.f18) [.tmp 4] [.agg f, .string name] h K := by kernel_rfl
theorem lateenref20_calls_of {f : Array Value} {name : ByteArray} {h : Heap} {K : Value → Heap → Prop} (hw : lateenref20_calls f name h K) : ACalls Try.prog F_lateenref20_calls [.agg f, .string name] h K :=
  calls_sound ty_ok mixed lateenref20_calls_a (c := bodyOf Try.f18) Try.func18 (by kernel_rfl) (by kernel_rfl) (by kernel_rfl) (Nat.le_of_ble_eq_true rfl) (by rw [lateenref20_calls_eq] at hw; exact hw)

/-- lateen/calls.walk -/
def calls_walk (g : Sl) (h : Heap) (K : Value → Heap → Prop) : Prop :=
  ∃ (R : Heap → Prop) (h_1 : Heap) (L : List As) (S : Specs), R h ∧ Sep h_1 h L ∧ (freeW R h_1 (S 2 [.int .i64 (g.len : Int), .int .i64 (g.len : Int)]) [] (fun h_2 Kv =>
      (g.len : Int) = (g.len : Int) ∧ mk si_Lint (g.len : Int) h_2 fun s h_3 =>
      Kv s.v h_3) fun v => as1 .sl v fun r =>
  freeW R h_1 (S 4 [.int .i64 (g.len : Int), .int .i64 (g.len : Int)]) [] (fun h_4 Kv_1 =>
      (g.len : Int) = (g.len : Int) ∧ mk si_Lint (g.len : Int) h_4 fun s_1 h_5 =>
      Kv_1 s_1.v h_5) fun v_1 => as1 .sl v_1 fun r_1 =>
  freeW R h_1 (S 6 [.int .i64 (g.len : Int), .int .i64 (g.len : Int)]) [] (fun h_6 Kv_2 =>
      (g.len : Int) = (g.len : Int) ∧ mk si_Lint (g.len : Int) h_6 fun s_2 h_7 =>
      Kv_2 s_2.v h_7) fun v_2 => as1 .sl v_2 fun r_2 =>
  freeW R h_1 (S 8 [.int .i64 (g.len : Int), .int .i64 (g.len : Int)]) [] (fun h_8 Kv_3 =>
      (g.len : Int) = (g.len : Int) ∧ mk si_Lbool (g.len : Int) h_8 fun s_3 h_9 =>
      Kv_3 s_3.v h_9) fun v_3 => as1 .sl v_3 fun r_3 =>
  bst [(0, 1), (1, 1), (2, 1), (3, 1), (4, 1), (5, 1), (6, 1)] #[.slice none 0 0, .slice none 0 0, .slice none 0 0, .slice none 0 0, .slice none 0 0, .slice none 0 0, .slice none 0 0] [(0, g.v), (1, r.v), (2, r_1.v), (3, r_2.v), (6, r_3.v)] fun c =>
  freeW R h_1 (S 10 [.agg c]) [] (fun h_10 Kv_4 =>
      new 69 c h_10 fun p h_11 =>
      Kv_4 (.pointer (some p)) h_11) fun v_4 => as1 .ptr v_4 fun r_4 =>
  endF R h_1 ((S 2 [.int .i64 (g.len : Int), .int .i64 (g.len : Int)]).A v ++ ((S 4 [.int .i64 (g.len : Int), .int .i64 (g.len : Int)]).A v_1 ++ ((S 6 [.int .i64 (g.len : Int), .int .i64 (g.len : Int)]).A v_2 ++ ((S 8 [.int .i64 (g.len : Int), .int .i64 (g.len : Int)]).A v_3 ++ ((S 10 [.agg c]).A v_4 ++ (L ++ [])))))) fun h_12 =>
  nilck r_4 fun p_1 =>
  ld .sl h_12 (p_1.add 3) fun (x : Sl) =>
  loopW (fun _ (t : Int) h_13 next =>
    ifB (decide (t < (x.len : Int)))
     (nilck r_4 fun p_2 =>
    ld .sl h_13 (p_2.add 3) fun (x_1 : Sl) =>
    idx 1 x_1 t fun p_3 =>
    st [.int .i64 (-1)] h_13 p_3 fun h_14 =>
    ar .i64 (t + 1) fun n =>
    next n h_14)
     (loopW (fun _ (q_marked : Int × Int) h_15 next_1 =>
    ifB (decide (q_marked.2 < (g.len : Int)))
     (joinW (fun _ (marked_1 : Int) h_16 =>
      ar .i64 (q_marked.2 + 1) fun n_1 =>
      next_1 (marked_1, n_1) h_16) fun k =>
    nilck r_4 fun p_4 =>
    ld .sl h_15 (p_4.add 1) fun (x_2 : Sl) =>
    idx 1 x_2 q_marked.2 fun p_5 =>
    ld (.int .i64) h_15 p_5 fun (x_3 : Int) =>
    ifB (x_3 == 0)
     (ACalls Try.prog F_calls_walker_down [.pointer r_4, .int .i64 q_marked.2, .int .i64 q_marked.1] h_15 fun v_5 h_17 => as1 (.int .i64) v_5 fun r_5 =>
     k r_5 h_17)
     (k q_marked.1 h_15))
     (K (.pointer r_4) h_15)) (0, 0) h_13)) 0 h_12)
def calls_walk_a : Ann := (.seq .leaf (.seq .leaf (.seq (.free 11 [[], [], [], [], [], [], [], [], [], [], [], []] [2, 4, 6, 8, 10, 12]) (.seq (.seq .leaf (.block (.loop [(26, .int .i64)] [0, 4, 25] (.seq .leaf (.seq (.cond .leaf .leaf) (.seq (.block (.seq .leaf .leaf)) .leaf)))))) (.seq .leaf (.seq (.seq .leaf (.block (.loop [(6, .int .i64), (38, .int .i64)] [4, 37] (.seq .leaf (.seq (.cond .leaf .leaf) (.join [(6, .int .i64)] [4, 37, 38] (.block (.seq .leaf (.seq .leaf (.cond .leaf .leaf)))) .leaf)))))) (.seq .leaf .leaf)))))))
theorem calls_walk_eq (g : Sl) (h : Heap) (K : Value → Heap → Prop) : calls_walk g h K = fnW Try.prog ty calls_walk_a (bodyOf Try.f19) [.tmp 2] [g.v] h K := by kernel_rfl
theorem calls_walk_of {g : Sl} {h : Heap} {K : Value → Heap → Prop} (hw : calls_walk g h K) : ACalls Try.prog F_calls_walk [g.v] h K :=
  calls_sound ty_ok mixed calls_walk_a (c := bodyOf Try.f19) Try.func19 (by kernel_rfl) (by kernel_rfl) (by kernel_rfl) (Nat.le_of_ble_eq_true rfl) (by rw [calls_walk_eq] at hw; exact hw)

/-- lateen/lateenref06.countBlock -/
def lateenref06_countBlock (b : Array Value) (most : Int) (h : Heap) (K : Value → Heap → Prop) : Prop :=
  new 58 b h fun p h_1 =>
  joinW (fun _ (t : Bool) h_2 =>
    ifB t
     (ar .i64 (most + 1) fun n =>
     K (.int .i64 n) h_2)
     (ld .str h_2 (p.add 0) fun (x : ByteArray) =>
  ar .i64 (1 + (x.size : Int)) fun n_1 =>
  joinW (fun _ (n_2 : Int) h_3 =>
    loopW (fun _ (q_n_3 : Int × Int) h_4 next =>
      joinW (fun _ (t_1 : Bool) h_5 =>
        ifB t_1
         (ar .i64 (q_n_3.1 + 1) fun n_4 =>
      ld .sl h_5 ((p.add 3).add 4) fun (x_1 : Sl) =>
      idx 1 x_1 q_n_3.2 fun p_1 =>
      ld .str h_5 p_1 fun (x_2 : ByteArray) =>
      ar .i64 (n_4 + (x_2.size : Int)) fun n_5 =>
      ar .i64 (q_n_3.2 + 1) fun n_6 =>
      next (n_5, n_6) h_5)
         (loopW (fun _ (q_n_7 : Int × Int) h_6 next_1 =>
      joinW (fun _ (t_2 : Bool) h_7 =>
        ifB t_2
         (ar .i64 (q_n_7.1 + 1) fun n_8 =>
      ld .sl h_7 (p.add 1) fun (x_3 : Sl) =>
      idx 2 x_3 q_n_7.2 fun p_2 =>
      ld .str h_7 (p_2.add 0) fun (x_4 : ByteArray) =>
      ar .i64 (n_8 + (x_4.size : Int)) fun n_9 =>
      loopW (fun _ (q_n_10 : Int × Int) h_8 next_2 =>
        joinW (fun _ (t_3 : Bool) h_9 =>
          ifB t_3
           (joinW (fun _ (n_11 : Int) h_10 =>
          ar .i64 (q_n_10.2 + 1) fun n_12 =>
          next_2 (n_11, n_12) h_10) fun k_6 =>
        ar .i64 (q_n_10.1 + 1) fun n_13 =>
        ld .sl h_9 (p.add 1) fun (x_5 : Sl) =>
        idx 2 x_5 q_n_7.2 fun p_3 =>
        ld .sl h_9 (p_3.add 1) fun (x_6 : Sl) =>
        idx 4 x_6 q_n_10.2 fun p_4 =>
        ld .str h_9 (p_4.add 0) fun (x_7 : ByteArray) =>
        ar .i64 (n_13 + (x_7.size : Int)) fun n_14 =>
        ifB (decide (n_14 ≤ most))
         (ld .sl h_9 (p.add 1) fun (x_8 : Sl) =>
         idx 2 x_8 q_n_7.2 fun p_5 =>
         ld .sl h_9 (p_5.add 1) fun (x_9 : Sl) =>
         idx 4 x_9 q_n_10.2 fun p_6 =>
         ld .str h_9 ((p_6.add 1).add 1) fun (x_10 : ByteArray) =>
         ar .i64 (n_14 + (x_10.size : Int)) fun n_15 =>
         k_6 n_15 h_9)
         (k_6 n_14 h_9))
           (ar .i64 (q_n_7.2 + 1) fun n_16 =>
      next_1 (q_n_10.1, n_16) h_9)) fun k_5 =>
        ld .sl h_8 (p.add 1) fun (x_11 : Sl) =>
        idx 2 x_11 q_n_7.2 fun p_7 =>
        ld .sl h_8 (p_7.add 1) fun (x_12 : Sl) =>
        ifB (decide (q_n_10.2 < (x_12.len : Int)))
         (k_5 (decide (q_n_10.1 ≤ most)) h_8)
         (k_5 false h_8)) (n_9, 0) h_7)
         (loopW (fun _ (q_n_17 : Int × Int) h_11 next_3 =>
      joinW (fun _ (t_4 : Bool) h_12 =>
        ifB t_4
         (ld .sl h_12 (p.add 2) fun (x_13 : Sl) =>
      idx 6 x_13 q_n_17.2 fun p_8 =>
      ld (.agg 6) h_12 p_8 fun (x_14 : Array Value) =>
      ACalls Try.prog F_lateenref06_countInstr [.agg x_14, .int .i64 most] h_12 fun v h_13 => as1 (.int .i64) v fun r =>
      ar .i64 (q_n_17.1 + r) fun n_18 =>
      ar .i64 (q_n_17.2 + 1) fun n_19 =>
      next_3 (n_18, n_19) h_13)
         (K (.int .i64 q_n_17.1) h_12)) fun k_7 =>
      ld .sl h_11 (p.add 2) fun (x_15 : Sl) =>
      ifB (decide (q_n_17.2 < (x_15.len : Int)))
       (k_7 (decide (q_n_17.1 ≤ most)) h_11)
       (k_7 false h_11)) (q_n_7.1, 0) h_7)) fun k_3 =>
      ld .sl h_6 (p.add 1) fun (x_16 : Sl) =>
      ifB (decide (q_n_7.2 < (x_16.len : Int)))
       (k_3 (decide (q_n_7.1 ≤ most)) h_6)
       (k_3 false h_6)) (q_n_3.1, 0) h_5)) fun k_2 =>
      ld .sl h_4 ((p.add 3).add 4) fun (x_17 : Sl) =>
      ifB (decide (q_n_3.2 < (x_17.len : Int)))
       (k_2 (decide (q_n_3.1 ≤ most)) h_4)
       (k_2 false h_4)) (n_2, 0) h_3) fun k_1 =>
  ifB (decide (n_1 ≤ most))
   (ld .str h_2 (((p.add 3).add 1).add 1) fun (x_18 : ByteArray) =>
   ar .i64 (n_1 + (x_18.size : Int)) fun n_20 =>
   k_1 n_20 h_2)
   (k_1 n_1 h_2))) fun k =>
  ld .sl h_1 (p.add 1) fun (x_19 : Sl) =>
  ifB (decide ((x_19.len : Int) > most))
   (k true h_1)
   (ld .sl h_1 (p.add 2) fun (x_20 : Sl) =>
    ifB (decide ((x_20.len : Int) > most))
        (k true h_1)
        (ld .sl h_1 ((p.add 3).add 4) fun (x_21 : Sl) =>
          k (decide ((x_21.len : Int) > most)) h_1))
def lateenref06_countBlock_a : Ann := (.seq .leaf (.seq (.join [(29, .bool)] [1, 2] .leaf (.cond (.seq .leaf .leaf) .leaf)) (.seq .leaf (.join [(5, .int .i64)] [1, 2] (.seq .leaf (.cond .leaf .leaf)) (.seq (.seq .leaf (.block (.loop [(5, .int .i64), (6, .int .i64)] [1, 2] (.seq (.join [(56, .bool)] [1, 2, 5, 6] .leaf (.cond .leaf .leaf)) (.seq (.block .leaf) .leaf))))) (.seq (.seq .leaf (.block (.loop [(5, .int .i64), (7, .int .i64)] [1, 2] (.seq (.join [(78, .bool)] [1, 2, 5, 7] .leaf (.cond .leaf .leaf)) (.seq (.block (.seq .leaf (.seq .leaf (.block (.loop [(5, .int .i64), (8, .int .i64)] [1, 2, 7] (.seq (.join [(104, .bool)] [1, 2, 5, 7, 8] .leaf (.cond .leaf .leaf)) (.join [(5, .int .i64)] [1, 2, 7, 8] (.block (.seq .leaf (.seq .leaf (.cond .leaf .leaf)))) .leaf))))))) .leaf))))) (.seq (.seq .leaf (.block (.loop [(5, .int .i64), (9, .int .i64)] [1, 2] (.seq (.join [(147, .bool)] [1, 2, 5, 9] .leaf (.cond .leaf .leaf)) (.seq (.block .leaf) .leaf))))) (.seq .leaf .leaf))))))))
theorem lateenref06_countBlock_eq (b : Array Value) (most : Int) (h : Heap) (K : Value → Heap → Prop) : lateenref06_countBlock b most h K = fnW Try.prog ty lateenref06_countBlock_a (bodyOf Try.f20) [.tmp 4] [.agg b, .int .i64 most] h K := by kernel_rfl
theorem lateenref06_countBlock_of {b : Array Value} {most : Int} {h : Heap} {K : Value → Heap → Prop} (hw : lateenref06_countBlock b most h K) : ACalls Try.prog F_lateenref06_countBlock [.agg b, .int .i64 most] h K :=
  calls_sound ty_ok mixed lateenref06_countBlock_a (c := bodyOf Try.f20) Try.func20 (by kernel_rfl) (by kernel_rfl) (by kernel_rfl) (Nat.le_of_ble_eq_true rfl) (by rw [lateenref06_countBlock_eq] at hw; exact hw)

/-- (*lateen/calls.walker).down -/
def calls_walker_down (w : Option Addr) (fromv : Int) (marked : Int) (h : Heap) (K : Value → Heap → Prop) : Prop :=
  ar .i64 (marked + 1) fun n =>
  ACalls Try.prog F_calls_walker_mark [.pointer w, .int .i64 fromv, .int .i64 n] h fun v h_1 => as1 (.agg 2) v fun r =>
  bld si_Lcalls_step 1 [(0, .agg r)] h_1 fun s h_2 =>
  loopW (fun _ (q_marked_1 : Int × Sl) h_3 next =>
    ifB (decide ((q_marked_1.2.len : Int) > 0))
     (ar .i64 ((q_marked_1.2.len : Int) - 1) fun n_1 =>
    idx 2 q_marked_1.2 n_1 fun p =>
    ld (.int .i64) h_3 (p.add 1) fun (x : Int) =>
    nilck w fun p_1 =>
    ld .sl h_3 (p_1.add 0) fun (x_1 : Sl) =>
    ld (.int .i64) h_3 (p.add 0) fun (x_2 : Int) =>
    idx 1 x_1 x_2 fun p_2 =>
    ld .sl h_3 p_2 fun (x_3 : Sl) =>
    ifB (x == (x_3.len : Int))
     (ld (.int .i64) h_3 (p.add 0) fun (x_4 : Int) =>
     ar .i64 ((q_marked_1.2.len : Int) - 1) fun n_2 =>
     slc 2 q_marked_1.2 none (some n_2) fun s_1 =>
     ACalls Try.prog F_calls_walker_leave [.pointer w, .int .i64 x_4] h_3 fun v_1 h_4 => as0 v_1 (
     joinW (fun _ (_ : Unit) h_5 =>
       next (q_marked_1.1, s_1) h_5) fun k =>
     ifB (decide ((s_1.len : Int) > 0))
      (ar .i64 ((s_1.len : Int) - 1) fun n_3 =>
      idx 2 s_1 n_3 fun p_3 =>
      ld (.int .i64) h_4 (p_3.add 0) fun (x_5 : Int) =>
      nilck w fun p_4 =>
      ld .sl h_4 (p_4.add 2) fun (x_6 : Sl) =>
      nilck w fun p_5 =>
      ld .sl h_4 (p_5.add 2) fun (x_7 : Sl) =>
      idx 1 x_7 x_5 fun p_6 =>
      ld (.int .i64) h_4 p_6 fun (x_8 : Int) =>
      nilck w fun p_7 =>
      ld .sl h_4 (p_7.add 2) fun (x_9 : Sl) =>
      idx 1 x_9 x_4 fun p_8 =>
      ld (.int .i64) h_4 p_8 fun (x_10 : Int) =>
      idx 1 x_6 x_5 fun p_9 =>
      st [.int .i64 (if x_10 < x_8 then x_10 else x_8)] h_4 p_9 fun h_6 =>
      k () h_6)
      (k () h_4)))
     (nilck w fun p_10 =>
    ld .sl h_3 (p_10.add 0) fun (x_11 : Sl) =>
    ld (.int .i64) h_3 (p.add 0) fun (x_12 : Int) =>
    idx 1 x_11 x_12 fun p_11 =>
    ld .sl h_3 p_11 fun (x_13 : Sl) =>
    ld (.int .i64) h_3 (p.add 1) fun (x_14 : Int) =>
    idx 1 x_13 x_14 fun p_12 =>
    ld (.int .i64) h_3 p_12 fun (x_15 : Int) =>
    ld (.int .i64) h_3 (p.add 1) fun (x_16 : Int) =>
    ar .i64 (x_16 + 1) fun n_4 =>
    st [.int .i64 n_4] h_3 (p.add 1) fun h_7 =>
    joinW (fun _ (t : Bool) h_8 =>
      ifB t
       (next (q_marked_1.1, q_marked_1.2) h_8)
       (nilck w fun p_13 =>
       ld .sl h_8 (p_13.add 1) fun (x_17 : Sl) =>
       idx 1 x_17 x_15 fun p_14 =>
       ld (.int .i64) h_8 p_14 fun (x_18 : Int) =>
       ifB (x_18 == 0)
        (ar .i64 (q_marked_1.1 + 1) fun n_5 =>
        ACalls Try.prog F_calls_walker_mark [.pointer w, .int .i64 x_15, .int .i64 n_5] h_8 fun v_2 h_9 => as1 (.agg 2) v_2 fun r_1 =>
        bld si_Lcalls_step 1 [(0, .agg r_1)] h_9 fun s_2 h_10 =>
        app si_Lcalls_step q_marked_1.2 s_2 h_10 fun s_3 h_11 =>
        next (n_5, s_3) h_11)
        (nilck w fun p_15 =>
        ld .sl h_8 (p_15.add 3) fun (x_19 : Sl) =>
        idx 1 x_19 x_15 fun p_16 =>
        ld (.int .i64) h_8 p_16 fun (x_20 : Int) =>
        ifB (decide (x_20 < 0))
         (nilck w fun p_17 =>
         ld .sl h_8 (p_17.add 2) fun (x_21 : Sl) =>
         ld (.int .i64) h_8 (p.add 0) fun (x_22 : Int) =>
         nilck w fun p_18 =>
         ld .sl h_8 (p_18.add 2) fun (x_23 : Sl) =>
         ld (.int .i64) h_8 (p.add 0) fun (x_24 : Int) =>
         idx 1 x_23 x_24 fun p_19 =>
         ld (.int .i64) h_8 p_19 fun (x_25 : Int) =>
         nilck w fun p_20 =>
         ld .sl h_8 (p_20.add 1) fun (x_26 : Sl) =>
         idx 1 x_26 x_15 fun p_21 =>
         ld (.int .i64) h_8 p_21 fun (x_27 : Int) =>
         idx 1 x_21 x_22 fun p_22 =>
         st [.int .i64 (if x_27 < x_25 then x_27 else x_25)] h_8 p_22 fun h_12 =>
         nilck w fun p_23 =>
         ld .sl h_12 (p_23.add 6) fun (x_28 : Sl) =>
         ld (.int .i64) h_12 (p.add 0) fun (x_29 : Int) =>
         nilck w fun p_24 =>
         ld .sl h_12 (p_24.add 6) fun (x_30 : Sl) =>
         ld (.int .i64) h_12 (p.add 0) fun (x_31 : Int) =>
         idx 1 x_30 x_31 fun p_25 =>
         ld .bool h_12 p_25 fun (x_32 : Bool) =>
         ifB x_32
          (idx 1 x_28 x_29 fun p_26 =>
               st [.bool true] h_12 p_26 fun h_13 =>
               next (q_marked_1.1, q_marked_1.2) h_13)
          (ld (.int .i64) h_12 (p.add 0) fun (x_33 : Int) =>
              idx 1 x_28 x_29 fun p_27 =>
               st [.bool (x_15 == x_33)] h_12 p_27 fun h_14 =>
               next (q_marked_1.1, q_marked_1.2) h_14))
         (next (q_marked_1.1, q_marked_1.2) h_8)))) fun k_1 =>
    ifB (decide (x_15 < 0))
     (k_1 true h_7)
     (nilck w fun p_28 =>
       ld .sl h_7 (p_28.add 0) fun (x_34 : Sl) =>
         k_1 (decide (x_15 ≥ (x_34.len : Int))) h_7)))
     (K (.int .i64 q_marked_1.1) h_3)) (n, s) h_2
def calls_walker_down_a : Ann := (.seq .leaf (.seq .leaf (.seq .leaf (.seq (.block (.loop [(2, .int .i64), (7, .sl)] [0] (.seq (.seq .leaf (.cond .leaf .leaf)) (.block (.seq .leaf (.seq (.seq .leaf (.cond (.seq .leaf (.seq .leaf (.seq .leaf (.join [] [0, 2, 7] (.seq .leaf (.cond (.seq .leaf .leaf) .leaf)) .leaf)))) .leaf)) (.seq .leaf (.seq .leaf (.block (.join [(109, .bool)] [0, 2, 7, 8, 11] .leaf (.cond .leaf (.seq .leaf (.cond (.seq .leaf .leaf) (.seq .leaf (.cond (.seq .leaf .leaf) .leaf))))))))))))))) (.seq .leaf .leaf)))))
theorem calls_walker_down_eq (w : Option Addr) (fromv : Int) (marked : Int) (h : Heap) (K : Value → Heap → Prop) : calls_walker_down w fromv marked h K = fnW Try.prog ty calls_walker_down_a (bodyOf Try.f23) [.tmp 6] [.pointer w, .int .i64 fromv, .int .i64 marked] h K := by kernel_rfl
theorem calls_walker_down_of {w : Option Addr} {fromv : Int} {marked : Int} {h : Heap} {K : Value → Heap → Prop} (hw : calls_walker_down w fromv marked h K) : ACalls Try.prog F_calls_walker_down [.pointer w, .int .i64 fromv, .int .i64 marked] h K :=
  calls_sound ty_ok mixed calls_walker_down_a (c := bodyOf Try.f23) Try.func23 (by kernel_rfl) (by kernel_rfl) (by kernel_rfl) (Nat.le_of_ble_eq_true rfl) (by rw [calls_walker_down_eq] at hw; exact hw)

/-- lateen/lateenref06.countInstr -/
def lateenref06_countInstr (x : Array Value) (most : Int) (h : Heap) (K : Value → Heap → Prop) : Prop :=
  new 63 x h fun p h_1 =>
  joinW (fun _ (t : Bool) h_2 =>
    ifB t
     (ar .i64 (most + 1) fun n =>
     K (.int .i64 n) h_2)
     (ld .str h_2 (p.add 1) fun (x_1 : ByteArray) =>
  ar .i64 (1 + (x_1.size : Int)) fun n_1 =>
  ld .sl h_2 (p.add 4) fun (x_2 : Sl) =>
  ar .i64 (n_1 + (x_2.len : Int)) fun n_2 =>
  ld .sl h_2 (p.add 5) fun (x_3 : Sl) =>
  ar .i64 (n_2 + (x_3.len : Int)) fun n_3 =>
  joinW (fun _ (n_4 : Int) h_3 =>
    joinW (fun _ (n_5 : Int) h_4 =>
      loopW (fun _ (q_n_6 : Int × Int) h_5 next =>
        joinW (fun _ (t_1 : Bool) h_6 =>
          ifB t_1
           (ld .sl h_6 (p.add 4) fun (x_4 : Sl) =>
        idx 4 x_4 q_n_6.2 fun p_1 =>
        ld .str h_6 (p_1.add 0) fun (x_5 : ByteArray) =>
        ar .i64 (q_n_6.1 + (x_5.size : Int)) fun n_7 =>
        joinW (fun _ (n_8 : Int) h_7 =>
          loopW (fun _ (q_n_9 : Int × Int) h_8 next_1 =>
            joinW (fun _ (t_2 : Bool) h_9 =>
              ifB t_2
               (joinW (fun _ (n_10 : Int) h_10 =>
              ar .i64 (q_n_9.2 + 1) fun n_11 =>
              next_1 (n_10, n_11) h_10) fun k_7 =>
            ar .i64 (q_n_9.1 + 1) fun n_12 =>
            ld .sl h_9 (p.add 4) fun (x_6 : Sl) =>
            idx 4 x_6 q_n_6.2 fun p_2 =>
            ld .sl h_9 (p_2.add 3) fun (x_7 : Sl) =>
            idx 4 x_7 q_n_9.2 fun p_3 =>
            ld .str h_9 (p_3.add 0) fun (x_8 : ByteArray) =>
            ar .i64 (n_12 + (x_8.size : Int)) fun n_13 =>
            ifB (decide (n_13 ≤ most))
             (ld .sl h_9 (p.add 4) fun (x_9 : Sl) =>
             idx 4 x_9 q_n_6.2 fun p_4 =>
             ld .sl h_9 (p_4.add 3) fun (x_10 : Sl) =>
             idx 4 x_10 q_n_9.2 fun p_5 =>
             ld .str h_9 ((p_5.add 1).add 1) fun (x_11 : ByteArray) =>
             ar .i64 (n_13 + (x_11.size : Int)) fun n_14 =>
             k_7 n_14 h_9)
             (k_7 n_13 h_9))
               (ar .i64 (q_n_6.2 + 1) fun n_15 =>
        next (q_n_9.1, n_15) h_9)) fun k_6 =>
            ld .sl h_8 (p.add 4) fun (x_12 : Sl) =>
            idx 4 x_12 q_n_6.2 fun p_6 =>
            ld .sl h_8 (p_6.add 3) fun (x_13 : Sl) =>
            ifB (decide (q_n_9.2 < (x_13.len : Int)))
             (k_6 (decide (q_n_9.1 ≤ most)) h_8)
             (k_6 false h_8)) (n_8, 0) h_7) fun k_4 =>
        ifB (decide (n_7 ≤ most))
         (ld .sl h_6 (p.add 4) fun (x_14 : Sl) =>
         idx 4 x_14 q_n_6.2 fun p_7 =>
         ld .str h_6 (p_7.add 1) fun (x_15 : ByteArray) =>
         ar .i64 (n_7 + (x_15.size : Int)) fun n_16 =>
         k_4 n_16 h_6)
         (k_4 n_7 h_6))
           (loopW (fun _ (q_n_17 : Int × Int) h_11 next_2 =>
        joinW (fun _ (t_3 : Bool) h_12 =>
          ifB t_3
           (joinW (fun _ (n_18 : Int) h_13 =>
          ar .i64 (q_n_17.2 + 1) fun n_19 =>
          next_2 (n_18, n_19) h_13) fun k_9 =>
        ld .sl h_12 (p.add 5) fun (x_16 : Sl) =>
        idx 2 x_16 q_n_17.2 fun p_8 =>
        ld .str h_12 (p_8.add 0) fun (x_17 : ByteArray) =>
        ar .i64 (q_n_17.1 + (x_17.size : Int)) fun n_20 =>
        ifB (decide (n_20 ≤ most))
         (ld .sl h_12 (p.add 5) fun (x_18 : Sl) =>
         idx 2 x_18 q_n_17.2 fun p_9 =>
         ld .sl h_12 (p_9.add 1) fun (x_19 : Sl) =>
         ACalls Try.prog F_lateenref06_countArgs [x_19.v, .int .i64 most] h_12 fun v h_14 => as1 (.int .i64) v fun r =>
         ar .i64 (n_20 + r) fun n_21 =>
         k_9 n_21 h_14)
         (k_9 n_20 h_12))
           (K (.int .i64 q_n_17.1) h_12)) fun k_8 =>
        ld .sl h_11 (p.add 5) fun (x_20 : Sl) =>
        ifB (decide (q_n_17.2 < (x_20.len : Int)))
         (k_8 (decide (q_n_17.1 ≤ most)) h_11)
         (k_8 false h_11)) (q_n_6.1, 0) h_6)) fun k_3 =>
        ld .sl h_5 (p.add 4) fun (x_21 : Sl) =>
        ifB (decide (q_n_6.2 < (x_21.len : Int)))
         (k_3 (decide (q_n_6.1 ≤ most)) h_5)
         (k_3 false h_5)) (n_5, 0) h_4) fun k_2 =>
    ifB (decide (n_4 ≤ most))
     (ld .sl h_3 (p.add 3) fun (x_22 : Sl) =>
     ACalls Try.prog F_lateenref06_countArgs [x_22.v, .int .i64 most] h_3 fun v_1 h_15 => as1 (.int .i64) v_1 fun r_1 =>
     ar .i64 (n_4 + r_1) fun n_22 =>
     k_2 n_22 h_15)
     (k_2 n_4 h_3)) fun k_1 =>
  ifB (decide (n_3 ≤ most))
   (ld .str h_2 (p.add 2) fun (x_23 : ByteArray) =>
   ar .i64 (n_3 + (x_23.size : Int)) fun n_23 =>
   k_1 n_23 h_2)
   (k_1 n_3 h_2))) fun k =>
  ld .sl h_1 (p.add 4) fun (x_24 : Sl) =>
  ifB (decide ((x_24.len : Int) > most))
   (k true h_1)
   (ld .sl h_1 (p.add 5) fun (x_25 : Sl) =>
    k (decide ((x_25.len : Int) > most)) h_1)
def lateenref06_countInstr_a : Ann := (.seq .leaf (.seq (.join [(20, .bool)] [1, 2] .leaf (.cond (.seq .leaf .leaf) .leaf)) (.seq .leaf (.join [(5, .int .i64)] [1, 2] (.seq .leaf (.cond .leaf .leaf)) (.join [(5, .int .i64)] [1, 2] (.seq .leaf (.cond .leaf .leaf)) (.seq (.seq .leaf (.block (.loop [(5, .int .i64), (6, .int .i64)] [1, 2] (.seq (.join [(61, .bool)] [1, 2, 5, 6] .leaf (.cond .leaf .leaf)) (.seq (.block (.seq .leaf (.join [(5, .int .i64)] [1, 2, 6] (.seq .leaf (.cond .leaf .leaf)) (.seq .leaf (.block (.loop [(5, .int .i64), (7, .int .i64)] [1, 2, 6] (.seq (.join [(98, .bool)] [1, 2, 5, 6, 7] .leaf (.cond .leaf .leaf)) (.join [(5, .int .i64)] [1, 2, 6, 7] (.block (.seq .leaf (.seq .leaf (.cond .leaf .leaf)))) .leaf)))))))) .leaf))))) (.seq (.seq .leaf (.block (.loop [(5, .int .i64), (8, .int .i64)] [1, 2] (.seq (.join [(141, .bool)] [1, 2, 5, 8] .leaf (.cond .leaf .leaf)) (.join [(5, .int .i64)] [1, 2, 8] (.block (.seq .leaf (.seq .leaf (.cond .leaf .leaf)))) .leaf))))) (.seq .leaf .leaf))))))))
theorem lateenref06_countInstr_eq (x : Array Value) (most : Int) (h : Heap) (K : Value → Heap → Prop) : lateenref06_countInstr x most h K = fnW Try.prog ty lateenref06_countInstr_a (bodyOf Try.f24) [.tmp 4] [.agg x, .int .i64 most] h K := by kernel_rfl
theorem lateenref06_countInstr_of {x : Array Value} {most : Int} {h : Heap} {K : Value → Heap → Prop} (hw : lateenref06_countInstr x most h K) : ACalls Try.prog F_lateenref06_countInstr [.agg x, .int .i64 most] h K :=
  calls_sound ty_ok mixed lateenref06_countInstr_a (c := bodyOf Try.f24) Try.func24 (by kernel_rfl) (by kernel_rfl) (by kernel_rfl) (Nat.le_of_ble_eq_true rfl) (by rw [lateenref06_countInstr_eq] at hw; exact hw)

/-- (*lateen/calls.walker).mark -/
def calls_walker_mark (w : Option Addr) (k : Int) (n : Int) (h : Heap) (K : Value → Heap → Prop) : Prop :=
  new 98 #[.int .i64 0, .int .i64 0] h fun p h_1 =>
  nilck w fun p_1 =>
  ld .sl h_1 (p_1.add 1) fun (x : Sl) =>
  nilck w fun p_2 =>
  ld .sl h_1 (p_2.add 2) fun (x_1 : Sl) =>
  idx 1 x k fun p_3 =>
  st [.int .i64 n] h_1 p_3 fun h_2 =>
  idx 1 x_1 k fun p_4 =>
  st [.int .i64 n] h_2 p_4 fun h_3 =>
  nilck w fun p_5 =>
  ld .sl h_3 (p_5.add 4) fun (x_2 : Sl) =>
  bld si_Lint 1 [(0, .int .i64 k)] h_3 fun s h_4 =>
  app si_Lint x_2 s h_4 fun s_1 h_5 =>
  nilck w fun p_6 =>
  st [s_1.v] h_5 (p_6.add 4) fun h_6 =>
  bst [(0, 1), (1, 1)] #[.int .i64 0, .int .i64 0] [(0, .int .i64 k)] fun c =>
  c.size = 2 ∧ st c.toList h_6 p fun h_7 =>
  ld (.agg 2) h_7 p fun (x_3 : Array Value) => K (.agg x_3) h_7
def calls_walker_mark_a : Ann := (.seq .leaf (.seq .leaf (.seq .leaf (.seq .leaf .leaf))))
theorem calls_walker_mark_eq (w : Option Addr) (k : Int) (n : Int) (h : Heap) (K : Value → Heap → Prop) : calls_walker_mark w k n h K = fnW Try.prog ty calls_walker_mark_a (bodyOf Try.f36) [.cell 6 98] [.pointer w, .int .i64 k, .int .i64 n] h K := by kernel_rfl
theorem calls_walker_mark_of {w : Option Addr} {k : Int} {n : Int} {h : Heap} {K : Value → Heap → Prop} (hw : calls_walker_mark w k n h K) : ACalls Try.prog F_calls_walker_mark [.pointer w, .int .i64 k, .int .i64 n] h K :=
  calls_sound ty_ok mixed calls_walker_mark_a (c := bodyOf Try.f36) Try.func36 (by kernel_rfl) (by kernel_rfl) (by kernel_rfl) (Nat.le_of_ble_eq_true rfl) (by rw [calls_walker_mark_eq] at hw; exact hw)

/-- (*lateen/calls.walker).leave -/
def calls_walker_leave (w : Option Addr) (k : Int) (h : Heap) (K : Value → Heap → Prop) : Prop :=
  nilck w fun p =>
  ld .sl h (p.add 5) fun (x : Sl) =>
  bld si_Lint 1 [(0, .int .i64 k)] h fun s h_1 =>
  app si_Lint x s h_1 fun s_1 h_2 =>
  nilck w fun p_1 =>
  st [s_1.v] h_2 (p_1.add 5) fun h_3 =>
  nilck w fun p_2 =>
  ld .sl h_3 (p_2.add 2) fun (x_1 : Sl) =>
  idx 1 x_1 k fun p_3 =>
  ld (.int .i64) h_3 p_3 fun (x_2 : Int) =>
  nilck w fun p_4 =>
  ld .sl h_3 (p_4.add 1) fun (x_3 : Sl) =>
  idx 1 x_3 k fun p_5 =>
  ld (.int .i64) h_3 p_5 fun (x_4 : Int) =>
  ifB (x_2 != x_4)
   (K (.tuple #[]) h_3)
   (nilck w fun p_6 =>
  ld .sl h_3 (p_6.add 4) fun (x_5 : Sl) =>
  ACalls Try.prog F_slices_Index [x_5.v, .int .i64 k] h_3 fun v h_4 => as1 (.int .i64) v fun r =>
  nilck w fun p_7 =>
  ld .sl h_4 (p_7.add 4) fun (x_6 : Sl) =>
  slc 1 x_6 (some r) none fun s_2 =>
  ACalls Try.prog F_slices_Min [s_2.v] h_4 fun v_1 h_5 => as1 (.int .i64) v_1 fun r_1 =>
  loopW (fun _ (t : Int) h_6 next =>
    ifB (decide (t < (s_2.len : Int)))
     (joinW (fun _ (_ : Unit) h_7 =>
      ar .i64 (t + 1) fun n =>
      next n h_7) fun k_1 =>
    idx 1 s_2 t fun p_8 =>
    ld (.int .i64) h_6 p_8 fun (x_7 : Int) =>
    nilck w fun p_9 =>
    ld .sl h_6 (p_9.add 3) fun (x_8 : Sl) =>
    idx 1 x_8 x_7 fun p_10 =>
    st [.int .i64 r_1] h_6 p_10 fun h_8 =>
    nilck w fun p_11 =>
    ld .sl h_8 (p_11.add 6) fun (x_9 : Sl) =>
    nilck w fun p_12 =>
    ld .sl h_8 (p_12.add 6) fun (x_10 : Sl) =>
    idx 1 x_10 x_7 fun p_13 =>
    ld .bool h_8 p_13 fun (x_11 : Bool) =>
    ifB x_11
     (idx 1 x_9 x_7 fun p_14 =>
       st [.bool true] h_8 p_14 fun h_9 =>
       k_1 () h_9)
     (idx 1 x_9 x_7 fun p_15 =>
       st [.bool (decide ((s_2.len : Int) > 1))] h_8 p_15 fun h_10 =>
       k_1 () h_10))
     (nilck w fun p_16 =>
  ld .sl h_6 (p_16.add 4) fun (x_12 : Sl) =>
  slc 1 x_12 none (some r) fun s_3 =>
  nilck w fun p_17 =>
  st [s_3.v] h_6 (p_17.add 4) fun h_11 =>
  K (.tuple #[]) h_11)) 0 h_5)
def calls_walker_leave_a : Ann := (.seq .leaf (.seq (.seq .leaf (.cond .leaf .leaf)) (.seq .leaf (.seq .leaf (.seq .leaf (.seq (.seq .leaf (.block (.loop [(50, .int .i64)] [0, 4, 5, 6, 48, 49] (.seq .leaf (.seq (.cond .leaf .leaf) (.join [] [0, 4, 5, 6, 48, 49, 50] (.block (.seq .leaf (.seq .leaf .leaf))) .leaf)))))) .leaf))))))
theorem calls_walker_leave_eq (w : Option Addr) (k : Int) (h : Heap) (K : Value → Heap → Prop) : calls_walker_leave w k h K = fnW Try.prog ty calls_walker_leave_a (bodyOf Try.f37) [] [.pointer w, .int .i64 k] h K := by kernel_rfl
theorem calls_walker_leave_of {w : Option Addr} {k : Int} {h : Heap} {K : Value → Heap → Prop} (hw : calls_walker_leave w k h K) : ACalls Try.prog F_calls_walker_leave [.pointer w, .int .i64 k] h K :=
  calls_sound ty_ok mixed calls_walker_leave_a (c := bodyOf Try.f37) Try.func37 (by kernel_rfl) (by kernel_rfl) (by kernel_rfl) (Nat.le_of_ble_eq_true rfl) (by rw [calls_walker_leave_eq] at hw; exact hw)

/-- lateen/lateenref06.countArgs -/
def lateenref06_countArgs (l : Sl) (most : Int) (h : Heap) (K : Value → Heap → Prop) : Prop :=
  ifB (decide ((l.len : Int) > most))
   (ar .i64 (most + 1) fun n =>
   K (.int .i64 n) h)
   (loopW (fun _ (q_n_1 : Int × Int) h_1 next =>
    joinW (fun _ (t : Bool) h_2 =>
      ifB t
       (idx 3 l q_n_1.2 fun p =>
    ld .str h_2 (p.add 1) fun (x : ByteArray) =>
    ar .i64 (q_n_1.1 + (x.size : Int)) fun n_2 =>
    ar .i64 (q_n_1.2 + 1) fun n_3 =>
    next (n_2, n_3) h_2)
       (K (.int .i64 q_n_1.1) h_2)) fun k =>
    ifB (decide (q_n_1.2 < (l.len : Int)))
     (k (decide (q_n_1.1 ≤ most)) h_1)
     (k false h_1)) ((l.len : Int), 0) h)
def lateenref06_countArgs_a : Ann := (.seq .leaf (.seq (.seq .leaf (.cond (.seq .leaf .leaf) .leaf)) (.seq .leaf (.seq (.seq .leaf (.block (.loop [(5, .int .i64), (6, .int .i64)] [0, 1] (.seq (.join [(23, .bool)] [0, 1, 5, 6] .leaf (.cond .leaf .leaf)) (.seq (.block .leaf) .leaf))))) (.seq .leaf .leaf)))))
theorem lateenref06_countArgs_eq (l : Sl) (most : Int) (h : Heap) (K : Value → Heap → Prop) : lateenref06_countArgs l most h K = fnW Try.prog ty lateenref06_countArgs_a (bodyOf Try.f38) [.tmp 4] [l.v, .int .i64 most] h K := by kernel_rfl
theorem lateenref06_countArgs_of {l : Sl} {most : Int} {h : Heap} {K : Value → Heap → Prop} (hw : lateenref06_countArgs l most h K) : ACalls Try.prog F_lateenref06_countArgs [l.v, .int .i64 most] h K :=
  calls_sound ty_ok mixed lateenref06_countArgs_a (c := bodyOf Try.f38) Try.func38 (by kernel_rfl) (by kernel_rfl) (by kernel_rfl) (Nat.le_of_ble_eq_true rfl) (by rw [lateenref06_countArgs_eq] at hw; exact hw)

/-- slices.Index[[]int,int] -/
def slices_Index (s : Sl) (v : Int) (h : Heap) (K : Value → Heap → Prop) : Prop :=
  loopW (fun _ (t : Int) h_1 next =>
    ifB (decide (t < (s.len : Int)))
     (idx 1 s t fun p =>
    ld (.int .i64) h_1 p fun (x : Int) =>
    ifB (v == x)
     (K (.int .i64 t) h_1)
     (ar .i64 (t + 1) fun n =>
    next n h_1))
     (K (.int .i64 (-1)) h_1)) 0 h
def slices_Index_a : Ann := (.seq .leaf (.seq (.seq .leaf (.block (.loop [(8, .int .i64)] [0, 1, 7] (.seq .leaf (.seq (.cond .leaf .leaf) (.seq (.block (.seq .leaf (.seq .leaf (.cond (.seq .leaf .leaf) .leaf)))) .leaf)))))) (.seq .leaf .leaf)))
theorem slices_Index_eq (s : Sl) (v : Int) (h : Heap) (K : Value → Heap → Prop) : slices_Index s v h K = fnW Try.prog ty slices_Index_a (bodyOf Try.f45) [.tmp 4] [s.v, .int .i64 v] h K := by kernel_rfl
theorem slices_Index_of {s : Sl} {v : Int} {h : Heap} {K : Value → Heap → Prop} (hw : slices_Index s v h K) : ACalls Try.prog F_slices_Index [s.v, .int .i64 v] h K :=
  calls_sound ty_ok mixed slices_Index_a (c := bodyOf Try.f45) Try.func45 (by kernel_rfl) (by kernel_rfl) (by kernel_rfl) (Nat.le_of_ble_eq_true rfl) (by rw [slices_Index_eq] at hw; exact hw)

/-- slices.Min[[]int,int] -/
def slices_Min (x : Sl) (h : Heap) (K : Value → Heap → Prop) : Prop :=
  ifB (decide ((x.len : Int) < 1))
   (False)
   (idx 1 x 0 fun p =>
  ld (.int .i64) h p fun (x_1 : Int) =>
  loopW (fun _ (q_m : Int × Int) h_1 next =>
    ifB (decide (q_m.2 < (x.len : Int)))
     (idx 1 x q_m.2 fun p_1 =>
    ld (.int .i64) h_1 p_1 fun (x_2 : Int) =>
    ar .i64 (q_m.2 + 1) fun n =>
    next ((if x_2 < q_m.1 then x_2 else q_m.1), n) h_1)
     (K (.int .i64 q_m.1) h_1)) (x_1, 1) h)
def slices_Min_a : Ann := (.seq .leaf (.seq (.seq .leaf (.cond .leaf .leaf)) (.seq .leaf (.seq (.seq .leaf (.block (.loop [(3, .int .i64), (4, .int .i64)] [0] (.seq (.seq .leaf (.cond .leaf .leaf)) (.seq (.block .leaf) .leaf))))) (.seq .leaf .leaf)))))
theorem slices_Min_eq (x : Sl) (h : Heap) (K : Value → Heap → Prop) : slices_Min x h K = fnW Try.prog ty slices_Min_a (bodyOf Try.f46) [.tmp 2] [x.v] h K := by kernel_rfl
theorem slices_Min_of {x : Sl} {h : Heap} {K : Value → Heap → Prop} (hw : slices_Min x h K) : ACalls Try.prog F_slices_Min [x.v] h K :=
  calls_sound ty_ok mixed slices_Min_a (c := bodyOf Try.f46) Try.func46 (by kernel_rfl) (by kernel_rfl) (by kernel_rfl) (Nat.le_of_ble_eq_true rfl) (by rw [slices_Min_eq] at hw; exact hw)

end Go.Proofs.Ytjpjnpbjalmhiaa
