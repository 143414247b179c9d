/-
  Printed by genfw.py: the functions as Props over the layer, and what ties each to the model.
-/
import Derived.Test.YthdidcnpiaeleaaFwSound
import Derived.Test.YthdidcnpiaeleaaChecked
namespace Go.Proofs.Ythdidcnpiaeleaa
open Go.Fw

def si_LLint : SlI := ⟨26, 1, 24, .slice none 0 0⟩
def si_Lint : SlI := ⟨3, 1, 8, .int .i64 0⟩
def si_Lbool : SlI := ⟨4, 1, 1, .bool false⟩
def si_Lapi_Block : SlI := ⟨59, 9, 136, .agg #[.string ⟨#[]⟩, .slice none 0 0, .slice none 0 0, .int .i64 0, .int .i64 0, .string ⟨#[]⟩, .int .i64 0, .slice none 0 0, .int .i64 0]⟩
def si_LLbool : SlI := ⟨34, 1, 24, .slice none 0 0⟩
def si_Lstring : SlI := ⟨9, 1, 16, .string ⟨#[]⟩⟩
def si_Lapi_Phi : SlI := ⟨62, 2, 40, .agg #[.string ⟨#[]⟩, .slice none 0 0]⟩
def si_Lapi_In : SlI := ⟨111, 4, 48, .agg #[.string ⟨#[]⟩, .int .i64 0, .string ⟨#[]⟩, .int .i64 0]⟩
def si_Lflow_step : SlI := ⟨74, 2, 16, .agg #[.int .i64 0, .int .i64 0]⟩
def si_Lcalls_step : SlI := ⟨81, 2, 16, .agg #[.int .i64 0, .int .i64 0]⟩
abbrev F_lateenlaw09_FlowPreds : FuncId := 3
abbrev F_lateenlaw09_FlowKeeps : FuncId := 4
abbrev F_lateenlaw09_FlowOrders : FuncId := 5
abbrev F_lateenlaw09_FlowOrder : FuncId := 6
abbrev F_lateenlaw09_FlowGraphs : FuncId := 7
abbrev F_lateenlaw20_CallsParts : FuncId := 8
abbrev F_lateenlaw20_CallsOrder : FuncId := 9
abbrev F_lateenlaw20_CallsEdges : FuncId := 10
abbrev F_lateenlaw20_CallsKeeps : FuncId := 11
abbrev F_lateenlaw10_DomFrontiers : FuncId := 12
abbrev F_lateenlaw10_DomMeans : FuncId := 13
abbrev F_lateenlaw10_DomTree : FuncId := 14
abbrev F_lateenlaw10_DomEdges : FuncId := 15
abbrev F_lateenlaw10_DomKeeps : FuncId := 16
abbrev F_lateenlaw10_DomNears : FuncId := 17
abbrev F_lateenlaw09_awake : FuncId := 18
abbrev F_lateenref09_Few : FuncId := 19
abbrev F_flow_Preds : FuncId := 20
abbrev F_lateenref09_Leads : FuncId := 21
abbrev F_flow_Order : FuncId := 22
abbrev F_lateenref09_SameLists : FuncId := 23
abbrev F_lateenref09_Preds : FuncId := 24
abbrev F_lateenref09_Same : FuncId := 25
abbrev F_lateenref09_Order : FuncId := 26
abbrev F_lateenref09_SameBools : FuncId := 27
abbrev F_flow_Come : FuncId := 28
abbrev F_lateenref09_Come : FuncId := 29
abbrev F_lateenref08_Few : FuncId := 30
abbrev F_lateenref08_Right : FuncId := 31
abbrev F_flow_Of : FuncId := 32
abbrev F_lateenref09_Of : FuncId := 33
abbrev F_lateenlaw20_awake : FuncId := 34
abbrev F_calls_Parts : FuncId := 35
abbrev F_lateenref20_Parts : FuncId := 36
abbrev F_calls_Round : FuncId := 37
abbrev F_lateenref20_Round : FuncId := 38
abbrev F_calls_Order : FuncId := 39
abbrev F_lateenref20_Order : FuncId := 40
abbrev F_lateenref20_Ways : FuncId := 41
abbrev F_lateenlaw10_awake : FuncId := 42
abbrev F_lateenlaw10_few : FuncId := 43
abbrev F_dom_Frontier : FuncId := 44
abbrev F_lateenref10_Frontier : FuncId := 45
abbrev F_dom_Dominates : FuncId := 46
abbrev F_dom_Nearest : FuncId := 47
abbrev F_lateenref10_Nearest : FuncId := 48
abbrev F_dom_Kids : FuncId := 49
abbrev F_lateenref10_Kids : FuncId := 50
abbrev F_slices_Contains : FuncId := 51
abbrev F_flow_walk : FuncId := 52
abbrev F_slices_Reverse : FuncId := 53
abbrev F_lateenref09_down : FuncId := 54
abbrev F_lateenref08_Place : FuncId := 55
abbrev F_lateenref08_Come : FuncId := 56
abbrev F_shape_Place : FuncId := 57
abbrev F_calls_walk : FuncId := 58
abbrev F_lateenref20_down : FuncId := 59
abbrev F_lateenref10_All : FuncId := 60
abbrev F_dom_ranks : FuncId := 61
abbrev F_dom_meet : FuncId := 62
abbrev F_slices_Index : FuncId := 63
abbrev F_lateenref08_Leads : FuncId := 64
abbrev F_calls_walker_down : FuncId := 65
abbrev F_lateenref10_Without : FuncId := 66
abbrev F_calls_walker_mark : FuncId := 67
abbrev F_calls_walker_leave : FuncId := 68
abbrev F_slices_Min : FuncId := 69
def ty : Tys :=
  { tk := [(3, .int .i64), (4, .bool), (5, .int .u8), (9, .str), (22, .sl), (26, .sl), (34, .sl), (37, .sl), (39, .agg 5), (53, .sl), (56, .sl), (59, .agg 9), (60, .sl), (81, .agg 2)]
    sl := [(22, si_LLint), (26, si_Lint), (34, si_Lbool), (37, si_Lapi_Block), (42, si_LLbool), (53, si_Lstring), (56, si_Lapi_Phi), (60, si_Lapi_In), (75, si_Lflow_step), (83, si_Lcalls_step)]
    zs := [(59, .agg #[.string ⟨#[]⟩, .slice none 0 0, .slice none 0 0, .int .i64 0, .int .i64 0, .string ⟨#[]⟩, .int .i64 0, .slice none 0 0, .int .i64 0]), (81, .agg #[.int .i64 0, .int .i64 0])]
    off := [((39, 4), 4), ((55, 2), 4), ((59, 0), 0), ((59, 1), 1), ((59, 3), 3), ((62, 1), 1), ((67, 0), 0), ((67, 1), 1), ((67, 2), 2), ((67, 3), 3), ((67, 4), 4), ((67, 5), 5), ((67, 6), 6), ((74, 0), 0), ((74, 1), 1), ((81, 0), 0), ((81, 1), 1)]
    res := [(0, []), (3, [.int .i64]), (4, [.bool]), (22, [.sl]), (26, [.sl]), (34, [.sl]), (42, [.sl]), (47, [.sl, .sl]), (63, [.int .i64, .bool]), (68, [.ptr]), (81, [.agg 2])]
    fns := [18, 19, 20, 21, 22, 23, 24, 25, 26, 27, 28, 29, 30, 31, 32, 33, 34, 35, 36, 37, 38, 39, 40, 41, 42, 43, 44, 45, 46, 47, 48, 49, 50, 51, 52, 53, 54, 55, 56, 57, 58, 59, 60, 61, 62, 63, 64, 65, 66, 67, 68, 69]
    bs := [(67, ([(0, 1), (1, 1), (2, 1), (3, 1), (4, 1), (5, 1), (6, 1)], .agg #[.slice none 0 0, .slice none 0 0, .slice none 0 0, .slice none 0 0, .slice none 0 0, .slice none 0 0, .slice none 0 0])), (74, ([(0, 1), (1, 1)], .agg #[.int .i64 0, .int .i64 0])), (81, ([(0, 1), (1, 1)], .agg #[.int .i64 0, .int .i64 0]))]
    mp := [] }
theorem ty_ok : TOk Try.prog ty where
  tk := (List.forall_mem_cons.2 ⟨⟨⟨_, Try.underlying3, rfl, rfl⟩, by kernel_rfl⟩, List.forall_mem_cons.2 ⟨⟨⟨_, Try.underlying4, rfl, rfl⟩, by kernel_rfl⟩, List.forall_mem_cons.2 ⟨⟨⟨_, Try.underlying5, rfl, rfl⟩, by kernel_rfl⟩, List.forall_mem_cons.2 ⟨⟨⟨_, Try.underlying9, rfl, rfl⟩, by kernel_rfl⟩, List.forall_mem_cons.2 ⟨⟨⟨_, Try.underlying22, rfl, trivial⟩, by kernel_rfl⟩, List.forall_mem_cons.2 ⟨⟨⟨_, Try.underlying26, rfl, trivial⟩, by kernel_rfl⟩, List.forall_mem_cons.2 ⟨⟨⟨_, Try.underlying34, rfl, trivial⟩, by kernel_rfl⟩, List.forall_mem_cons.2 ⟨⟨⟨_, Try.underlying37, rfl, trivial⟩, by kernel_rfl⟩, List.forall_mem_cons.2 ⟨⟨⟨_, Try.underlying39, rfl, trivial⟩, by kernel_rfl⟩, List.forall_mem_cons.2 ⟨⟨⟨_, Try.underlying53, rfl, trivial⟩, by kernel_rfl⟩, List.forall_mem_cons.2 ⟨⟨⟨_, Try.underlying56, rfl, trivial⟩, by kernel_rfl⟩, List.forall_mem_cons.2 ⟨⟨⟨_, Try.underlying59, rfl, trivial⟩, by kernel_rfl⟩, List.forall_mem_cons.2 ⟨⟨⟨_, Try.underlying60, rfl, trivial⟩, by kernel_rfl⟩, List.forall_mem_cons.2 ⟨⟨⟨_, Try.underlying81, rfl, trivial⟩, by kernel_rfl⟩, List.forall_mem_nil _⟩⟩⟩⟩⟩⟩⟩⟩⟩⟩⟩⟩⟩⟩)
  sl := (List.forall_mem_cons.2 ⟨⟨Try.underlying22, by kernel_rfl, by kernel_rfl, by decide⟩, List.forall_mem_cons.2 ⟨⟨Try.underlying26, by kernel_rfl, by kernel_rfl, by decide⟩, List.forall_mem_cons.2 ⟨⟨Try.underlying34, by kernel_rfl, by kernel_rfl, by decide⟩, List.forall_mem_cons.2 ⟨⟨Try.underlying37, by kernel_rfl, by kernel_rfl, by decide⟩, List.forall_mem_cons.2 ⟨⟨Try.underlying42, by kernel_rfl, by kernel_rfl, by decide⟩, List.forall_mem_cons.2 ⟨⟨Try.underlying53, by kernel_rfl, by kernel_rfl, by decide⟩, List.forall_mem_cons.2 ⟨⟨Try.underlying56, by kernel_rfl, by kernel_rfl, by decide⟩, List.forall_mem_cons.2 ⟨⟨Try.underlying60, by kernel_rfl, by kernel_rfl, by decide⟩, List.forall_mem_cons.2 ⟨⟨Try.underlying75, by kernel_rfl, by kernel_rfl, by decide⟩, List.forall_mem_cons.2 ⟨⟨Try.underlying83, by kernel_rfl, by kernel_rfl, by decide⟩, List.forall_mem_nil _⟩⟩⟩⟩⟩⟩⟩⟩⟩⟩)
  zs := (List.forall_mem_cons.2 ⟨(show ZsOk _ _ by unfold ZsOk; kernel_rfl), List.forall_mem_cons.2 ⟨(show ZsOk _ _ by unfold ZsOk; kernel_rfl), List.forall_mem_nil _⟩⟩)
  off := (List.forall_mem_cons.2 ⟨⟨_, _, Try.underlying39, rfl, rfl, by kernel_rfl⟩, List.forall_mem_cons.2 ⟨⟨_, _, Try.underlying55, rfl, rfl, by kernel_rfl⟩, List.forall_mem_cons.2 ⟨⟨_, _, Try.underlying59, rfl, rfl, by kernel_rfl⟩, List.forall_mem_cons.2 ⟨⟨_, _, Try.underlying59, rfl, rfl, by kernel_rfl⟩, List.forall_mem_cons.2 ⟨⟨_, _, Try.underlying59, rfl, rfl, by kernel_rfl⟩, List.forall_mem_cons.2 ⟨⟨_, _, Try.underlying62, rfl, rfl, by kernel_rfl⟩, List.forall_mem_cons.2 ⟨⟨_, _, Try.underlying67, rfl, rfl, by kernel_rfl⟩, List.forall_mem_cons.2 ⟨⟨_, _, Try.underlying67, rfl, rfl, by kernel_rfl⟩, List.forall_mem_cons.2 ⟨⟨_, _, Try.underlying67, rfl, rfl, by kernel_rfl⟩, List.forall_mem_cons.2 ⟨⟨_, _, Try.underlying67, rfl, rfl, by kernel_rfl⟩, List.forall_mem_cons.2 ⟨⟨_, _, Try.underlying67, rfl, rfl, by kernel_rfl⟩, List.forall_mem_cons.2 ⟨⟨_, _, Try.underlying67, rfl, rfl, by kernel_rfl⟩, List.forall_mem_cons.2 ⟨⟨_, _, Try.underlying67, rfl, rfl, by kernel_rfl⟩, List.forall_mem_cons.2 ⟨⟨_, _, Try.underlying74, rfl, rfl, by kernel_rfl⟩, List.forall_mem_cons.2 ⟨⟨_, _, Try.underlying74, rfl, rfl, by kernel_rfl⟩, List.forall_mem_cons.2 ⟨⟨_, _, Try.underlying81, rfl, rfl, by kernel_rfl⟩, List.forall_mem_cons.2 ⟨⟨_, _, Try.underlying81, rfl, rfl, by kernel_rfl⟩, List.forall_mem_nil _⟩⟩⟩⟩⟩⟩⟩⟩⟩⟩⟩⟩⟩⟩⟩⟩⟩)
  fns := (List.forall_mem_cons.2 ⟨(show FnOk _ _ by unfold FnOk; kernel_rfl), List.forall_mem_cons.2 ⟨(show FnOk _ _ by unfold FnOk; kernel_rfl), List.forall_mem_cons.2 ⟨(show FnOk _ _ by unfold FnOk; kernel_rfl), List.forall_mem_cons.2 ⟨(show FnOk _ _ by unfold FnOk; kernel_rfl), List.forall_mem_cons.2 ⟨(show FnOk _ _ by unfold FnOk; kernel_rfl), List.forall_mem_cons.2 ⟨(show FnOk _ _ by unfold FnOk; kernel_rfl), List.forall_mem_cons.2 ⟨(show FnOk _ _ by unfold FnOk; kernel_rfl), List.forall_mem_cons.2 ⟨(show FnOk _ _ by unfold FnOk; kernel_rfl), List.forall_mem_cons.2 ⟨(show FnOk _ _ by unfold FnOk; kernel_rfl), List.forall_mem_cons.2 ⟨(show FnOk _ _ by unfold FnOk; kernel_rfl), List.forall_mem_cons.2 ⟨(show FnOk _ _ by unfold FnOk; kernel_rfl), List.forall_mem_cons.2 ⟨(show FnOk _ _ by unfold FnOk; kernel_rfl), List.forall_mem_cons.2 ⟨(show FnOk _ _ by unfold FnOk; kernel_rfl), List.forall_mem_cons.2 ⟨(show FnOk _ _ by unfold FnOk; kernel_rfl), List.forall_mem_cons.2 ⟨(show FnOk _ _ by unfold FnOk; kernel_rfl), List.forall_mem_cons.2 ⟨(show FnOk _ _ by unfold FnOk; kernel_rfl), List.forall_mem_cons.2 ⟨(show FnOk _ _ by unfold FnOk; kernel_rfl), List.forall_mem_cons.2 ⟨(show FnOk _ _ by unfold FnOk; kernel_rfl), List.forall_mem_cons.2 ⟨(show FnOk _ _ by unfold FnOk; kernel_rfl), List.forall_mem_cons.2 ⟨(show FnOk _ _ by unfold FnOk; kernel_rfl), List.forall_mem_cons.2 ⟨(show FnOk _ _ by unfold FnOk; kernel_rfl), List.forall_mem_cons.2 ⟨(show FnOk _ _ by unfold FnOk; kernel_rfl), List.forall_mem_cons.2 ⟨(show FnOk _ _ by unfold FnOk; kernel_rfl), List.forall_mem_cons.2 ⟨(show FnOk _ _ by unfold FnOk; kernel_rfl), List.forall_mem_cons.2 ⟨(show FnOk _ _ by unfold FnOk; kernel_rfl), List.forall_mem_cons.2 ⟨(show FnOk _ _ by unfold FnOk; kernel_rfl), List.forall_mem_cons.2 ⟨(show FnOk _ _ by unfold FnOk; kernel_rfl), List.forall_mem_cons.2 ⟨(show FnOk _ _ by unfold FnOk; kernel_rfl), List.forall_mem_cons.2 ⟨(show FnOk _ _ by unfold FnOk; kernel_rfl), List.forall_mem_cons.2 ⟨(show FnOk _ _ by unfold FnOk; kernel_rfl), List.forall_mem_cons.2 ⟨(show FnOk _ _ by unfold FnOk; kernel_rfl), List.forall_mem_cons.2 ⟨(show FnOk _ _ by unfold FnOk; kernel_rfl), List.forall_mem_cons.2 ⟨(show FnOk _ _ by unfold FnOk; kernel_rfl), List.forall_mem_cons.2 ⟨(show FnOk _ _ by unfold FnOk; kernel_rfl), List.forall_mem_cons.2 ⟨(show FnOk _ _ by unfold FnOk; kernel_rfl), List.forall_mem_cons.2 ⟨(show FnOk _ _ by unfold FnOk; kernel_rfl), List.forall_mem_cons.2 ⟨(show FnOk _ _ by unfold FnOk; kernel_rfl), List.forall_mem_cons.2 ⟨(show FnOk _ _ by unfold FnOk; kernel_rfl), List.forall_mem_cons.2 ⟨(show FnOk _ _ by unfold FnOk; kernel_rfl), List.forall_mem_cons.2 ⟨(show FnOk _ _ by unfold FnOk; kernel_rfl), List.forall_mem_cons.2 ⟨(show FnOk _ _ by unfold FnOk; kernel_rfl), List.forall_mem_cons.2 ⟨(show FnOk _ _ by unfold FnOk; kernel_rfl), List.forall_mem_cons.2 ⟨(show FnOk _ _ by unfold FnOk; kernel_rfl), List.forall_mem_cons.2 ⟨(show FnOk _ _ by unfold FnOk; kernel_rfl), List.forall_mem_cons.2 ⟨(show FnOk _ _ by unfold FnOk; kernel_rfl), List.forall_mem_cons.2 ⟨(show FnOk _ _ by unfold FnOk; kernel_rfl), List.forall_mem_cons.2 ⟨(show FnOk _ _ by unfold FnOk; kernel_rfl), List.forall_mem_cons.2 ⟨(show FnOk _ _ by unfold FnOk; kernel_rfl), List.forall_mem_cons.2 ⟨(show FnOk _ _ by unfold FnOk; kernel_rfl), List.forall_mem_cons.2 ⟨(show FnOk _ _ by unfold FnOk; kernel_rfl), List.forall_mem_cons.2 ⟨(show FnOk _ _ by unfold FnOk; kernel_rfl), List.forall_mem_cons.2 ⟨(show FnOk _ _ by unfold FnOk; kernel_rfl), List.forall_mem_nil _⟩⟩⟩⟩⟩⟩⟩⟩⟩⟩⟩⟩⟩⟩⟩⟩⟩⟩⟩⟩⟩⟩⟩⟩⟩⟩⟩⟩⟩⟩⟩⟩⟩⟩⟩⟩⟩⟩⟩⟩⟩⟩⟩⟩⟩⟩⟩⟩⟩⟩⟩⟩)
  bs := (List.forall_mem_cons.2 ⟨⟨_, Try.underlying67, by kernel_rfl, by kernel_rfl⟩, List.forall_mem_cons.2 ⟨⟨_, Try.underlying74, by kernel_rfl, by kernel_rfl⟩, List.forall_mem_cons.2 ⟨⟨_, Try.underlying81, by kernel_rfl, by kernel_rfl⟩, List.forall_mem_nil _⟩⟩⟩)
  mp := (List.forall_mem_nil _)
theorem mixed : Try.prog.follows .mixedOrders = true := by kernel_rfl

/-- lateen/lateenlaw09.FlowPreds -/
def lateenlaw09_FlowPreds (g : Sl) (a : Int) (b : Int) (h : Heap) (K : Value → Heap → Prop) : Prop :=
  joinW (fun _ (t : Bool) h_1 =>
    ifB t
     (ACalls Try.prog F_lateenlaw09_awake [] h_1 fun v h_2 => as1 .bool v fun r =>
     K (.bool r) h_2)
     ((g.len : Int) ≠ 0 ∧ ((g.len : Int) ≠ 0 ∧ (ACalls Try.prog F_flow_Preds [g.v] h_1 fun v_1 h_3 => as1 .sl v_1 fun r_1 =>
  ifB ((r_1.len : Int) != (g.len : Int))
   (K (.bool false) h_3)
   (loopW (fun _ (q_n : Int × Int) h_4 next =>
    idx 1 r_1 (Int.tmod (IntKind.i64.wrap b) (g.len : Int)) fun p =>
    ld .sl h_4 p fun (x : Sl) =>
    ifB (decide (q_n.2 < (x.len : Int)))
     (joinW (fun _ (n_1 : Int) h_5 =>
      joinW (fun _ (t_1 : Bool) h_6 =>
        ifB t_1
         (K (.bool false) h_6)
         (ar .i64 (q_n.2 + 1) fun n_2 =>
    next (n_1, n_2) h_6)) fun k_2 =>
      ifB (decide (q_n.2 > 0))
       (idx 1 r_1 (Int.tmod (IntKind.i64.wrap b) (g.len : Int)) fun p_1 =>
         ld .sl h_5 p_1 fun (x_1 : Sl) =>
          ar .i64 (q_n.2 - 1) fun n_3 =>
            idx 1 x_1 n_3 fun p_2 =>
             ld (.int .i64) h_5 p_2 fun (x_2 : Int) =>
              idx 1 r_1 (Int.tmod (IntKind.i64.wrap b) (g.len : Int)) fun p_3 =>
                 ld .sl h_5 p_3 fun (x_3 : Sl) =>
                  idx 1 x_3 q_n.2 fun p_4 =>
                    ld (.int .i64) h_5 p_4 fun (x_4 : Int) =>
                     k_2 (decide (x_2 ≥ x_4)) h_5)
       (k_2 false h_5)) fun k_1 =>
    idx 1 r_1 (Int.tmod (IntKind.i64.wrap b) (g.len : Int)) fun p_5 =>
    ld .sl h_4 p_5 fun (x_5 : Sl) =>
    idx 1 x_5 q_n.2 fun p_6 =>
    ld (.int .i64) h_4 p_6 fun (x_6 : Int) =>
    ifB (x_6 == (Int.tmod (IntKind.i64.wrap a) (g.len : Int)))
     (ar .i64 (q_n.1 + 1) fun n_4 =>
     k_1 n_4 h_4)
     (k_1 q_n.1 h_4))
     (ACalls Try.prog F_lateenref09_Leads [g.v, .int .i64 (Int.tmod (IntKind.i64.wrap a) (g.len : Int)), .int .i64 (Int.tmod (IntKind.i64.wrap b) (g.len : Int))] h_4 fun v_2 h_7 => as1 .bool v_2 fun r_2 =>
  K (.bool ((q_n.1 == 1) == r_2)) h_7)) (0, 0) h_3))))) fun k =>
  ACalls Try.prog F_lateenlaw09_awake [] h fun v_3 h_8 => as1 .bool v_3 fun r_3 =>
  ifB (!r_3)
   (k true h_8)
   (ACalls Try.prog F_lateenref09_Few [g.v, .int .i64 200] h_8 fun v_4 h_9 => as1 .bool v_4 fun r_4 =>
    ifB (!r_4)
      (k true h_9)
      (k ((g.len : Int) == 0) h_9))
def lateenlaw09_FlowPreds_a : Ann := (.seq .leaf (.seq (.join [(23, .bool)] [0, 1, 2] .leaf (.cond (.seq .leaf .leaf) .leaf)) (.seq .leaf (.seq .leaf (.seq .leaf (.seq (.seq .leaf (.cond (.seq .leaf .leaf) .leaf)) (.seq .leaf (.seq (.seq .leaf (.block (.loop [(10, .int .i64), (11, .int .i64)] [0, 7, 8, 9] (.seq (.seq .leaf (.cond .leaf .leaf)) (.seq (.block (.join [(10, .int .i64)] [0, 7, 8, 9, 11] (.seq .leaf (.cond .leaf .leaf)) (.join [(81, .bool)] [0, 7, 8, 9, 10, 11] .leaf (.cond (.seq .leaf .leaf) .leaf)))) .leaf))))) (.seq .leaf .leaf)))))))))
theorem lateenlaw09_FlowPreds_eq (g : Sl) (a : Int) (b : Int) (h : Heap) (K : Value → Heap → Prop) : lateenlaw09_FlowPreds g a b h K = fnW Try.prog ty lateenlaw09_FlowPreds_a (bodyOf Try.f3) [.tmp 6] [g.v, .int .u8 a, .int .u8 b] h K := by kernel_rfl
theorem lateenlaw09_FlowPreds_of {g : Sl} {a : Int} {b : Int} {h : Heap} {K : Value → Heap → Prop} (hw : lateenlaw09_FlowPreds g a b h K) : ACalls Try.prog F_lateenlaw09_FlowPreds [g.v, .int .u8 a, .int .u8 b] h K :=
  calls_sound ty_ok mixed lateenlaw09_FlowPreds_a (c := bodyOf Try.f3) Try.func3 (by kernel_rfl) (by kernel_rfl) (by kernel_rfl) (Nat.le_of_ble_eq_true rfl) (by rw [lateenlaw09_FlowPreds_eq] at hw; exact hw)

/-- lateen/lateenlaw09.FlowKeeps -/
def lateenlaw09_FlowKeeps (g : Sl) (h : Heap) (K : Value → Heap → Prop) : Prop :=
  joinW (fun _ (t : Bool) h_1 =>
    ifB t
     (ACalls Try.prog F_lateenlaw09_awake [] h_1 fun v h_2 => as1 .bool v fun r =>
     K (.bool r) h_2)
     (loopW (fun _ (q_was : Sl × Int) h_3 next =>
    ifB (decide (q_was.2 < (g.len : Int)))
     (bld si_Lint 0 [] h_3 fun s h_4 =>
    idx 1 g q_was.2 fun p =>
    ld .sl h_4 p fun (x : Sl) =>
    app si_Lint s x h_4 fun s_1 h_5 =>
    bld si_LLint 1 [(0, s_1.v)] h_5 fun s_2 h_6 =>
    app si_LLint q_was.1 s_2 h_6 fun s_3 h_7 =>
    ar .i64 (q_was.2 + 1) fun n =>
    next (s_3, n) h_7)
     (ACalls Try.prog F_flow_Preds [g.v] h_3 fun v_1 h_8 => as1 .sl v_1 fun r_1 =>
  ACalls Try.prog F_flow_Order [g.v] h_8 fun v_2 h_9 => as1 .sl v_2 fun r_2 =>
  loopW (fun _ (i_1 : Int) h_10 next_1 =>
    ifB (decide (i_1 < (r_1.len : Int)))
     (loopW (fun _ (k_1 : Int) h_11 next_2 =>
      idx 1 r_1 i_1 fun p_1 =>
      ld .sl h_11 p_1 fun (x_1 : Sl) =>
      ifB (decide (k_1 < (x_1.len : Int)))
       (idx 1 r_1 i_1 fun p_2 =>
      ld .sl h_11 p_2 fun (x_2 : Sl) =>
      idx 1 x_2 k_1 fun p_3 =>
      st [.int .i64 (-7)] h_11 p_3 fun h_12 =>
      ar .i64 (k_1 + 1) fun n_1 =>
      next_2 n_1 h_12)
       (ar .i64 (i_1 + 1) fun n_2 =>
    next_1 n_2 h_11)) 0 h_10)
     (loopW (fun _ (i_2 : Int) h_13 next_3 =>
    ifB (decide (i_2 < (r_2.len : Int)))
     (idx 1 r_2 i_2 fun p_4 =>
    st [.int .i64 (-7)] h_13 p_4 fun h_14 =>
    ar .i64 (i_2 + 1) fun n_3 =>
    next_3 n_3 h_14)
     (joinW (fun _ (t_1 : Bool) h_15 =>
    K (.bool t_1) h_15) fun k_2 =>
  ACalls Try.prog F_lateenref09_SameLists [g.v, q_was.1.v] h_13 fun v_3 h_16 => as1 .bool v_3 fun r_3 =>
  ifB r_3
   (ACalls Try.prog F_flow_Preds [g.v] h_16 fun v_4 h_17 => as1 .sl v_4 fun r_4 =>
    ACalls Try.prog F_lateenref09_Preds [g.v] h_17 fun v_5 h_18 => as1 .sl v_5 fun r_5 =>
      ACalls Try.prog F_lateenref09_SameLists [r_4.v, r_5.v] h_18 fun v_6 h_19 => as1 .bool v_6 fun r_6 =>
       k_2 r_6 h_19)
   (k_2 false h_16))) 0 h_10)) 0 h_9)) ((⟨none, 0, 0⟩ : Sl), 0) h_1)) fun k =>
  ACalls Try.prog F_lateenlaw09_awake [] h fun v_7 h_20 => as1 .bool v_7 fun r_7 =>
  ifB (!r_7)
   (k true h_20)
   (ACalls Try.prog F_lateenref09_Few [g.v, .int .i64 100] h_20 fun v_8 h_21 => as1 .bool v_8 fun r_8 =>
    k (!r_8) h_21)
def lateenlaw09_FlowKeeps_a : Ann := (.seq .leaf (.seq (.join [(16, .bool)] [0] .leaf (.cond (.seq .leaf .leaf) .leaf)) (.seq .leaf (.seq (.seq .leaf (.block (.loop [(3, .sl), (4, .int .i64)] [0] (.seq (.seq .leaf (.cond .leaf .leaf)) (.seq (.block .leaf) .leaf))))) (.seq .leaf (.seq .leaf (.seq (.seq .leaf (.block (.loop [(7, .int .i64)] [0, 3, 5, 6] (.seq (.seq .leaf (.cond .leaf .leaf)) (.seq (.block (.seq .leaf (.block (.loop [(8, .int .i64)] [0, 3, 5, 6, 7] (.seq (.seq .leaf (.cond .leaf .leaf)) (.seq (.block .leaf) .leaf)))))) .leaf))))) (.seq (.seq .leaf (.block (.loop [(9, .int .i64)] [0, 3, 6] (.seq (.seq .leaf (.cond .leaf .leaf)) (.seq (.block .leaf) .leaf))))) (.join [(2, .bool)] [] .leaf .leaf)))))))))
theorem lateenlaw09_FlowKeeps_eq (g : Sl) (h : Heap) (K : Value → Heap → Prop) : lateenlaw09_FlowKeeps g h K = fnW Try.prog ty lateenlaw09_FlowKeeps_a (bodyOf Try.f4) [.tmp 2] [g.v] h K := by kernel_rfl
theorem lateenlaw09_FlowKeeps_of {g : Sl} {h : Heap} {K : Value → Heap → Prop} (hw : lateenlaw09_FlowKeeps g h K) : ACalls Try.prog F_lateenlaw09_FlowKeeps [g.v] h K :=
  calls_sound ty_ok mixed lateenlaw09_FlowKeeps_a (c := bodyOf Try.f4) Try.func4 (by kernel_rfl) (by kernel_rfl) (by kernel_rfl) (Nat.le_of_ble_eq_true rfl) (by rw [lateenlaw09_FlowKeeps_eq] at hw; exact hw)

/-- lateen/lateenlaw09.FlowOrders -/
def lateenlaw09_FlowOrders (g : Sl) (h : Heap) (K : Value → Heap → Prop) : Prop :=
  joinW (fun _ (t : Bool) h_1 =>
    ifB t
     (ACalls Try.prog F_lateenlaw09_awake [] h_1 fun v h_2 => as1 .bool v fun r =>
     K (.bool r) h_2)
     (joinW (fun _ (t_1 : Bool) h_3 =>
    K (.bool t_1) h_3) fun k_1 =>
  ACalls Try.prog F_flow_Order [g.v] h_1 fun v_1 h_4 => as1 .sl v_1 fun r_1 =>
  ACalls Try.prog F_lateenref09_Order [g.v] h_4 fun v_2 h_5 => as1 .sl v_2 fun r_2 =>
  ACalls Try.prog F_lateenref09_Same [r_1.v, r_2.v] h_5 fun v_3 h_6 => as1 .bool v_3 fun r_3 =>
  ifB r_3
   (ACalls Try.prog F_flow_Come [g.v] h_6 fun v_4 h_7 => as1 .sl v_4 fun r_4 =>
    ACalls Try.prog F_lateenref09_Come [g.v] h_7 fun v_5 h_8 => as1 .sl v_5 fun r_5 =>
      ACalls Try.prog F_lateenref09_SameBools [r_4.v, r_5.v] h_8 fun v_6 h_9 => as1 .bool v_6 fun r_6 =>
       ifB r_6
        (ACalls Try.prog F_flow_Preds [g.v] h_9 fun v_7 h_10 => as1 .sl v_7 fun r_7 =>
         ACalls Try.prog F_lateenref09_Preds [g.v] h_10 fun v_8 h_11 => as1 .sl v_8 fun r_8 =>
           ACalls Try.prog F_lateenref09_SameLists [r_7.v, r_8.v] h_11 fun v_9 h_12 => as1 .bool v_9 fun r_9 =>
            k_1 r_9 h_12)
        (k_1 false h_9))
   (k_1 false h_6))) fun k =>
  ACalls Try.prog F_lateenlaw09_awake [] h fun v_10 h_13 => as1 .bool v_10 fun r_10 =>
  ifB (!r_10)
   (k true h_13)
   (ACalls Try.prog F_lateenref09_Few [g.v, .int .i64 60] h_13 fun v_11 h_14 => as1 .bool v_11 fun r_11 =>
    k (!r_11) h_14)
def lateenlaw09_FlowOrders_a : Ann := (.seq .leaf (.seq (.join [(9, .bool)] [0] .leaf (.cond (.seq .leaf .leaf) .leaf)) (.join [(2, .bool)] [] .leaf .leaf)))
theorem lateenlaw09_FlowOrders_eq (g : Sl) (h : Heap) (K : Value → Heap → Prop) : lateenlaw09_FlowOrders g h K = fnW Try.prog ty lateenlaw09_FlowOrders_a (bodyOf Try.f5) [.tmp 2] [g.v] h K := by kernel_rfl
theorem lateenlaw09_FlowOrders_of {g : Sl} {h : Heap} {K : Value → Heap → Prop} (hw : lateenlaw09_FlowOrders g h K) : ACalls Try.prog F_lateenlaw09_FlowOrders [g.v] h K :=
  calls_sound ty_ok mixed lateenlaw09_FlowOrders_a (c := bodyOf Try.f5) Try.func5 (by kernel_rfl) (by kernel_rfl) (by kernel_rfl) (Nat.le_of_ble_eq_true rfl) (by rw [lateenlaw09_FlowOrders_eq] at hw; exact hw)

/-- lateen/lateenlaw09.FlowOrder -/
def lateenlaw09_FlowOrder (g : Sl) (h : Heap) (K : Value → Heap → Prop) : Prop :=
  joinW (fun _ (t : Bool) h_1 =>
    ifB t
     (ACalls Try.prog F_lateenlaw09_awake [] h_1 fun v h_2 => as1 .bool v fun r =>
     K (.bool r) h_2)
     (ACalls Try.prog F_flow_Order [g.v] h_1 fun v_1 h_3 => as1 .sl v_1 fun r_1 =>
  ACalls Try.prog F_flow_Come [g.v] h_3 fun v_2 h_4 => as1 .sl v_2 fun r_2 =>
  (g.len : Int) = (g.len : Int) ∧ mk si_Lbool (g.len : Int) h_4 fun s h_5 =>
  loopW (fun _ (i : Int) h_6 next =>
    ifB (decide (i < (r_1.len : Int)))
     (joinW (fun _ (t_1 : Bool) h_7 =>
      ifB t_1
       (K (.bool false) h_7)
       (joinW (fun _ (led : Bool) h_8 =>
      loopW (fun _ (q_led_1 : Bool × Int) h_9 next_1 =>
        ifB (decide (q_led_1.2 < i))
         (joinW (fun _ (led_2 : Bool) h_10 =>
          ar .i64 (q_led_1.2 + 1) fun n =>
          next_1 (led_2, n) h_10) fun k_4 =>
        ifB q_led_1.1
         (k_4 true h_9)
         (idx 1 r_1 q_led_1.2 fun p =>
            ld (.int .i64) h_9 p fun (x : Int) =>
             idx 1 r_1 i fun p_1 =>
                ld (.int .i64) h_9 p_1 fun (x_1 : Int) =>
                 ACalls Try.prog F_lateenref09_Leads [g.v, .int .i64 x, .int .i64 x_1] h_9 fun v_3 h_11 => as1 .bool v_3 fun r_3 =>
                  k_4 r_3 h_11))
         (ifB (!q_led_1.1)
       (K (.bool false) h_9)
       (idx 1 r_1 i fun p_2 =>
      ld (.int .i64) h_9 p_2 fun (x_2 : Int) =>
      idx 1 s x_2 fun p_3 =>
      st [.bool true] h_9 p_3 fun h_12 =>
      ar .i64 (i + 1) fun n_1 =>
    next n_1 h_12))) (led, 0) h_8) fun k_2 =>
    ifB (i == 0)
     (idx 1 r_1 i fun p_4 =>
       ld (.int .i64) h_7 p_4 fun (x_3 : Int) =>
        k_2 (x_3 == 0) h_7)
     (k_2 false h_7))) fun k_1 =>
    idx 1 r_1 i fun p_5 =>
    ld (.int .i64) h_6 p_5 fun (x_4 : Int) =>
    ifB (decide (x_4 < 0))
     (k_1 true h_6)
     (idx 1 r_1 i fun p_6 =>
       ld (.int .i64) h_6 p_6 fun (x_5 : Int) =>
        ifB (decide (x_5 ≥ (g.len : Int)))
            (k_1 true h_6)
            (idx 1 r_1 i fun p_7 =>
               ld (.int .i64) h_6 p_7 fun (x_6 : Int) =>
                idx 1 s x_6 fun p_8 =>
                 ld .bool h_6 p_8 fun (x_7 : Bool) =>
                  ifB x_7
                   (k_1 true h_6)
                   (idx 1 r_1 i fun p_9 =>
                      ld (.int .i64) h_6 p_9 fun (x_8 : Int) =>
                       idx 1 r_2 x_8 fun p_10 =>
                        ld .bool h_6 p_10 fun (x_9 : Bool) =>
                         k_1 (!x_9) h_6))))
     (loopW (fun _ (i_1 : Int) h_13 next_2 =>
    ifB (decide (i_1 < (g.len : Int)))
     (idx 1 r_2 i_1 fun p_11 =>
    ld .bool h_13 p_11 fun (x_10 : Bool) =>
    idx 1 s i_1 fun p_12 =>
    ld .bool h_13 p_12 fun (x_11 : Bool) =>
    ifB (!(x_10 == x_11))
     (K (.bool false) h_13)
     (loopW (fun _ (k_5 : Int) h_14 next_3 =>
      joinW (fun _ (t_2 : Bool) h_15 =>
        ifB t_2
         (joinW (fun _ (t_3 : Bool) h_16 =>
        ifB t_3
         (K (.bool false) h_16)
         (ar .i64 (k_5 + 1) fun n_2 =>
      next_3 n_2 h_16)) fun k_7 =>
      ACalls Try.prog F_lateenref09_Leads [g.v, .int .i64 i_1, .int .i64 k_5] h_15 fun v_4 h_17 => as1 .bool v_4 fun r_4 =>
      ifB r_4
       (idx 1 r_2 k_5 fun p_13 =>
         ld .bool h_17 p_13 fun (x_12 : Bool) =>
          k_7 (!x_12) h_17)
       (k_7 false h_17))
         (ar .i64 (i_1 + 1) fun n_3 =>
    next_2 n_3 h_15)) fun k_6 =>
      ifB (decide (k_5 < (g.len : Int)))
       (idx 1 r_2 i_1 fun p_14 =>
         ld .bool h_14 p_14 fun (x_13 : Bool) =>
          k_6 x_13 h_14)
       (k_6 false h_14)) 0 h_13))
     (K (.bool true) h_13)) 0 h_6)) 0 h_5)) fun k =>
  ACalls Try.prog F_lateenlaw09_awake [] h fun v_5 h_18 => as1 .bool v_5 fun r_5 =>
  ifB (!r_5)
   (k true h_18)
   (ACalls Try.prog F_lateenref09_Few [g.v, .int .i64 100] h_18 fun v_6 h_19 => as1 .bool v_6 fun r_6 =>
    ifB (!r_6)
      (k true h_19)
      (k ((g.len : Int) == 0) h_19))
def lateenlaw09_FlowOrder_a : Ann := (.seq .leaf (.seq (.join [(22, .bool)] [0] .leaf (.cond (.seq .leaf .leaf) .leaf)) (.seq .leaf (.seq .leaf (.seq .leaf (.seq (.seq .leaf (.block (.loop [(6, .int .i64)] [0, 3, 4, 5] (.seq (.seq .leaf (.cond .leaf .leaf)) (.seq (.block (.seq (.join [(69, .bool)] [0, 3, 4, 5, 6] .leaf (.cond (.seq .leaf .leaf) .leaf)) (.join [(7, .bool)] [0, 3, 4, 5, 6] .leaf (.seq (.seq .leaf (.block (.loop [(7, .bool), (8, .int .i64)] [0, 3, 4, 5, 6] (.seq (.seq .leaf (.cond .leaf .leaf)) (.join [(7, .bool)] [0, 3, 4, 5, 6, 8] (.block .leaf) .leaf))))) (.seq (.seq .leaf (.cond (.seq .leaf .leaf) .leaf)) .leaf))))) .leaf))))) (.seq (.seq .leaf (.block (.loop [(9, .int .i64)] [0, 4, 5] (.seq (.seq .leaf (.cond .leaf .leaf)) (.seq (.block (.seq (.seq .leaf (.cond (.seq .leaf .leaf) .leaf)) (.seq .leaf (.block (.loop [(10, .int .i64)] [0, 4, 5, 9] (.seq (.join [(129, .bool)] [0, 4, 5, 9, 10] .leaf (.cond .leaf .leaf)) (.seq (.block (.join [(142, .bool)] [0, 4, 5, 9, 10] .leaf (.cond (.seq .leaf .leaf) .leaf))) .leaf))))))) .leaf))))) (.seq .leaf .leaf))))))))
theorem lateenlaw09_FlowOrder_eq (g : Sl) (h : Heap) (K : Value → Heap → Prop) : lateenlaw09_FlowOrder g h K = fnW Try.prog ty lateenlaw09_FlowOrder_a (bodyOf Try.f6) [.tmp 2] [g.v] h K := by kernel_rfl
theorem lateenlaw09_FlowOrder_of {g : Sl} {h : Heap} {K : Value → Heap → Prop} (hw : lateenlaw09_FlowOrder g h K) : ACalls Try.prog F_lateenlaw09_FlowOrder [g.v] h K :=
  calls_sound ty_ok mixed lateenlaw09_FlowOrder_a (c := bodyOf Try.f6) Try.func6 (by kernel_rfl) (by kernel_rfl) (by kernel_rfl) (Nat.le_of_ble_eq_true rfl) (by rw [lateenlaw09_FlowOrder_eq] at hw; exact hw)

/-- lateen/lateenlaw09.FlowGraphs -/
def lateenlaw09_FlowGraphs (f : Array Value) (h : Heap) (K : Value → Heap → Prop) : Prop :=
  new 39 f h fun p h_1 =>
  joinW (fun _ (t : Bool) h_2 =>
    ifB t
     (ACalls Try.prog F_lateenlaw09_awake [] h_2 fun v h_3 => as1 .bool v fun r =>
     K (.bool r) h_3)
     (ld (.agg 5) h_2 p fun (x : Array Value) =>
  ACalls Try.prog F_flow_Of [.agg x] h_2 fun v_1 h_4 => as1 .sl v_1 fun r_1 =>
  hExt h_2 h_4 ∧ ld (.agg 5) h_2 p fun (x_1 : Array Value) =>
  ACalls Try.prog F_lateenref09_Of [.agg x_1] h_4 fun v_2 h_5 => as1 .sl v_2 fun r_2 =>
  hExt h_4 h_5 ∧ ACalls Try.prog F_lateenref09_SameLists [r_1.v, r_2.v] h_5 fun v_3 h_6 => as1 .bool v_3 fun r_3 =>
  hExt h_5 h_6 ∧ K (.bool r_3) h_6)) fun k =>
  ACalls Try.prog F_lateenlaw09_awake [] h_1 fun v_4 h_7 => as1 .bool v_4 fun r_4 =>
  ifB (!r_4)
   (k true h_7)
   (ld (.agg 5) h_7 p fun (x_2 : Array Value) =>
   ACalls Try.prog F_lateenref08_Few [.agg x_2] h_7 fun v_5 h_8 => as1 .bool v_5 fun r_5 =>
    ifB (!r_5)
      (k true h_8)
      (ld (.agg 5) h_8 p fun (x_3 : Array Value) =>
      ACalls Try.prog F_lateenref08_Right [.agg x_3] h_8 fun v_6 h_9 => as1 .bool v_6 fun r_6 =>
       k (!r_6) h_9))
def lateenlaw09_FlowGraphs_a : Ann := (.seq .leaf (.seq (.join [(14, .bool)] [1] .leaf (.cond (.seq .leaf .leaf) .leaf)) (.seq .based .leaf)))
theorem lateenlaw09_FlowGraphs_eq (f : Array Value) (h : Heap) (K : Value → Heap → Prop) : lateenlaw09_FlowGraphs f h K = fnW Try.prog ty lateenlaw09_FlowGraphs_a (bodyOf Try.f7) [.tmp 2] [.agg f] h K := by kernel_rfl
theorem lateenlaw09_FlowGraphs_of {f : Array Value} {h : Heap} {K : Value → Heap → Prop} (hw : lateenlaw09_FlowGraphs f h K) : ACalls Try.prog F_lateenlaw09_FlowGraphs [.agg f] h K :=
  calls_sound ty_ok mixed lateenlaw09_FlowGraphs_a (c := bodyOf Try.f7) Try.func7 (by kernel_rfl) (by kernel_rfl) (by kernel_rfl) (Nat.le_of_ble_eq_true rfl) (by rw [lateenlaw09_FlowGraphs_eq] at hw; exact hw)

/-- lateen/lateenlaw20.CallsParts -/
def lateenlaw20_CallsParts (g : Sl) (h : Heap) (K : Value → Heap → Prop) : Prop :=
  joinW (fun _ (t : Bool) h_1 =>
    ifB t
     (ACalls Try.prog F_lateenlaw20_awake [] h_1 fun v h_2 => as1 .bool v fun r =>
     K (.bool r) h_2)
     (joinW (fun _ (t_1 : Bool) h_3 =>
    K (.bool t_1) h_3) fun k_1 =>
  ACalls Try.prog F_calls_Parts [g.v] h_1 fun v_1 h_4 => as1 .sl v_1 fun r_1 =>
  ACalls Try.prog F_lateenref20_Parts [g.v] h_4 fun v_2 h_5 => as1 .sl v_2 fun r_2 =>
  ACalls Try.prog F_lateenref09_Same [r_1.v, r_2.v] h_5 fun v_3 h_6 => as1 .bool v_3 fun r_3 =>
  ifB r_3
   (ACalls Try.prog F_calls_Round [g.v] h_6 fun v_4 h_7 => as1 .sl v_4 fun r_4 =>
    ACalls Try.prog F_lateenref20_Round [g.v] h_7 fun v_5 h_8 => as1 .sl v_5 fun r_5 =>
      ACalls Try.prog F_lateenref09_SameBools [r_4.v, r_5.v] h_8 fun v_6 h_9 => as1 .bool v_6 fun r_6 =>
       ifB r_6
        (ACalls Try.prog F_calls_Order [g.v] h_9 fun v_7 h_10 => as1 .sl v_7 fun r_7 =>
         ACalls Try.prog F_lateenref20_Order [g.v] h_10 fun v_8 h_11 => as1 .sl v_8 fun r_8 =>
           ACalls Try.prog F_lateenref09_Same [r_7.v, r_8.v] h_11 fun v_9 h_12 => as1 .bool v_9 fun r_9 =>
            k_1 r_9 h_12)
        (k_1 false h_9))
   (k_1 false h_6))) fun k =>
  ACalls Try.prog F_lateenlaw20_awake [] h fun v_10 h_13 => as1 .bool v_10 fun r_10 =>
  ifB (!r_10)
   (k true h_13)
   (ACalls Try.prog F_lateenref09_Few [g.v, .int .i64 40] h_13 fun v_11 h_14 => as1 .bool v_11 fun r_11 =>
    k (!r_11) h_14)
def lateenlaw20_CallsParts_a : Ann := (.seq .leaf (.seq (.join [(9, .bool)] [0] .leaf (.cond (.seq .leaf .leaf) .leaf)) (.join [(2, .bool)] [] .leaf .leaf)))
theorem lateenlaw20_CallsParts_eq (g : Sl) (h : Heap) (K : Value → Heap → Prop) : lateenlaw20_CallsParts g h K = fnW Try.prog ty lateenlaw20_CallsParts_a (bodyOf Try.f8) [.tmp 2] [g.v] h K := by kernel_rfl
theorem lateenlaw20_CallsParts_of {g : Sl} {h : Heap} {K : Value → Heap → Prop} (hw : lateenlaw20_CallsParts g h K) : ACalls Try.prog F_lateenlaw20_CallsParts [g.v] h K :=
  calls_sound ty_ok mixed lateenlaw20_CallsParts_a (c := bodyOf Try.f8) Try.func8 (by kernel_rfl) (by kernel_rfl) (by kernel_rfl) (Nat.le_of_ble_eq_true rfl) (by rw [lateenlaw20_CallsParts_eq] at hw; exact hw)

/-- lateen/lateenlaw20.CallsOrder -/
def lateenlaw20_CallsOrder (g : Sl) (h : Heap) (K : Value → Heap → Prop) : Prop :=
  joinW (fun _ (t : Bool) h_1 =>
    ifB t
     (ACalls Try.prog F_lateenlaw20_awake [] h_1 fun v h_2 => as1 .bool v fun r =>
     K (.bool r) h_2)
     (ACalls Try.prog F_calls_Parts [g.v] h_1 fun v_1 h_3 => as1 .sl v_1 fun r_1 =>
  ACalls Try.prog F_calls_Order [g.v] h_3 fun v_2 h_4 => as1 .sl v_2 fun r_2 =>
  (g.len : Int) = (g.len : Int) ∧ mk si_Lbool (g.len : Int) h_4 fun s h_5 =>
  joinW (fun _ (t_1 : Bool) h_6 =>
    ifB t_1
     (K (.bool false) h_6)
     (loopW (fun _ (i : Int) h_7 next =>
    ifB (decide (i < (r_2.len : Int)))
     (joinW (fun _ (t_2 : Bool) h_8 =>
      ifB t_2
       (K (.bool false) h_8)
       (loopW (fun _ (k_3 : Int) h_9 next_1 =>
      ifB (decide (k_3 < (g.len : Int)))
       (joinW (fun _ (t_3 : Bool) h_10 =>
        ifB t_3
         (K (.bool false) h_10)
         (ar .i64 (k_3 + 1) fun n =>
      next_1 n h_10)) fun k_4 =>
      idx 1 r_2 i fun p =>
      ld (.int .i64) h_9 p fun (x : Int) =>
      ifB (k_3 != x)
       (idx 1 r_2 i fun p_1 =>
          ld (.int .i64) h_9 p_1 fun (x_1 : Int) =>
           ACalls Try.prog F_lateenref09_Leads [g.v, .int .i64 x_1, .int .i64 k_3] h_9 fun v_3 h_11 => as1 .bool v_3 fun r_3 =>
             hExt h_9 h_11 ∧ ifB r_3
              (idx 1 s k_3 fun p_2 =>
                ld .bool h_9 p_2 fun (x_2 : Bool) =>
                 ifB (!x_2)
                   (idx 1 r_1 k_3 fun p_3 =>
                     ld (.int .i64) h_9 p_3 fun (x_3 : Int) =>
                      idx 1 r_2 i fun p_4 =>
                          ld (.int .i64) h_9 p_4 fun (x_4 : Int) =>
                           idx 1 r_1 x_4 fun p_5 =>
                            ld (.int .i64) h_9 p_5 fun (x_5 : Int) =>
                             k_4 (x_3 != x_5) h_11)
                   (k_4 false h_11))
              (k_4 false h_11))
       (k_4 false h_9))
       (idx 1 r_2 i fun p_6 =>
    ld (.int .i64) h_9 p_6 fun (x_6 : Int) =>
    idx 1 s x_6 fun p_7 =>
    st [.bool true] h_9 p_7 fun h_12 =>
    ar .i64 (i + 1) fun n_1 =>
    next n_1 h_12)) 0 h_8)) fun k_2 =>
    idx 1 r_2 i fun p_8 =>
    ld (.int .i64) h_7 p_8 fun (x_7 : Int) =>
    ifB (decide (x_7 < 0))
     (k_2 true h_7)
     (idx 1 r_2 i fun p_9 =>
       ld (.int .i64) h_7 p_9 fun (x_8 : Int) =>
        ifB (decide (x_8 ≥ (g.len : Int)))
            (k_2 true h_7)
            (idx 1 r_2 i fun p_10 =>
               ld (.int .i64) h_7 p_10 fun (x_9 : Int) =>
                idx 1 s x_9 fun p_11 =>
                 ld .bool h_7 p_11 fun (x_10 : Bool) =>
                  k_2 x_10 h_7)))
     (K (.bool true) h_7)) 0 h_6)) fun k_1 =>
  ifB ((r_2.len : Int) != (g.len : Int))
   (k_1 true h_5)
   (k_1 ((r_1.len : Int) != (g.len : Int)) h_5))) fun k =>
  ACalls Try.prog F_lateenlaw20_awake [] h fun v_4 h_13 => as1 .bool v_4 fun r_4 =>
  ifB (!r_4)
   (k true h_13)
   (ACalls Try.prog F_lateenref09_Few [g.v, .int .i64 100] h_13 fun v_5 h_14 => as1 .bool v_5 fun r_5 =>
    k (!r_5) h_14)
def lateenlaw20_CallsOrder_a : Ann := (.seq .leaf (.seq (.join [(14, .bool)] [0] .leaf (.cond (.seq .leaf .leaf) .leaf)) (.seq .leaf (.seq .leaf (.seq .leaf (.seq (.join [(34, .bool)] [0, 3, 4, 5] .leaf (.cond (.seq .leaf .leaf) .leaf)) (.seq (.seq .leaf (.block (.loop [(6, .int .i64)] [0, 3, 4, 5] (.seq (.seq .leaf (.cond .leaf .leaf)) (.seq (.block (.seq (.join [(63, .bool)] [0, 3, 4, 5, 6] .leaf (.cond (.seq .leaf .leaf) .leaf)) (.seq (.seq .leaf (.block (.loop [(7, .int .i64)] [0, 3, 4, 5, 6] (.seq (.seq .leaf (.cond .leaf .leaf)) (.seq (.block (.join [(105, .bool)] [0, 3, 4, 5, 6, 7] .based (.cond (.seq .leaf .leaf) .leaf))) .leaf))))) .leaf))) .leaf))))) (.seq .leaf .leaf))))))))
theorem lateenlaw20_CallsOrder_eq (g : Sl) (h : Heap) (K : Value → Heap → Prop) : lateenlaw20_CallsOrder g h K = fnW Try.prog ty lateenlaw20_CallsOrder_a (bodyOf Try.f9) [.tmp 2] [g.v] h K := by kernel_rfl
theorem lateenlaw20_CallsOrder_of {g : Sl} {h : Heap} {K : Value → Heap → Prop} (hw : lateenlaw20_CallsOrder g h K) : ACalls Try.prog F_lateenlaw20_CallsOrder [g.v] h K :=
  calls_sound ty_ok mixed lateenlaw20_CallsOrder_a (c := bodyOf Try.f9) Try.func9 (by kernel_rfl) (by kernel_rfl) (by kernel_rfl) (Nat.le_of_ble_eq_true rfl) (by rw [lateenlaw20_CallsOrder_eq] at hw; exact hw)

/-- lateen/lateenlaw20.CallsEdges -/
def lateenlaw20_CallsEdges (g : Sl) (h : Heap) (K : Value → Heap → Prop) : Prop :=
  joinW (fun _ (t : Bool) h_1 =>
    ifB t
     (ACalls Try.prog F_lateenlaw20_awake [] h_1 fun v h_2 => as1 .bool v fun r =>
     K (.bool r) h_2)
     (ACalls Try.prog F_calls_Parts [g.v] h_1 fun v_1 h_3 => as1 .sl v_1 fun r_1 =>
  ACalls Try.prog F_calls_Round [g.v] h_3 fun v_2 h_4 => as1 .sl v_2 fun r_2 =>
  ACalls Try.prog F_lateenref20_Ways [g.v] h_4 fun v_3 h_5 => as1 .sl v_3 fun r_3 =>
  loopW (fun _ (i : Int) h_6 next =>
    ifB (decide (i < (g.len : Int)))
     (joinW (fun _ (t_1 : Bool) h_7 =>
      ifB t_1
       (K (.bool false) h_7)
       (loopW (fun _ (k_2 : Int) h_8 next_1 =>
      ifB (decide (k_2 < (g.len : Int)))
       (joinW (fun _ (t_2 : Bool) h_9 =>
        ifB t_2
         (K (.bool false) h_9)
         (ar .i64 (k_2 + 1) fun n =>
      next_1 n h_9)) fun k_3 =>
      ifB (i != k_2)
       (idx 1 r_1 i fun p =>
         ld (.int .i64) h_8 p fun (x : Int) =>
          idx 1 r_1 k_2 fun p_1 =>
             ld (.int .i64) h_8 p_1 fun (x_1 : Int) =>
              idx 1 r_3 i fun p_2 =>
                  ld .sl h_8 p_2 fun (x_2 : Sl) =>
                   idx 1 x_2 k_2 fun p_3 =>
                     ld .bool h_8 p_3 fun (x_3 : Bool) =>
                      ifB x_3
                        (idx 1 r_3 k_2 fun p_4 =>
                          ld .sl h_8 p_4 fun (x_4 : Sl) =>
                           idx 1 x_4 i fun p_5 =>
                             ld .bool h_8 p_5 fun (x_5 : Bool) =>
                              ifB (!((x == x_1) == x_5))
                                 (k_3 true h_8)
                                 (ifB (i != k_2)
                                     (idx 1 r_1 i fun p_6 =>
                                       ld (.int .i64) h_8 p_6 fun (x_6 : Int) =>
                                        idx 1 r_1 k_2 fun p_7 =>
                                           ld (.int .i64) h_8 p_7 fun (x_7 : Int) =>
                                            ifB (x_6 == x_7)
                                                (idx 1 r_2 i fun p_8 =>
                                                  ld .bool h_8 p_8 fun (x_8 : Bool) =>
                                                   k_3 (!x_8) h_8)
                                                (k_3 false h_8))
                                     (k_3 false h_8)))
                        (ifB (!((x == x_1) == false))
                                 (k_3 true h_8)
                                 (ifB (i != k_2)
                                     (idx 1 r_1 i fun p_9 =>
                                       ld (.int .i64) h_8 p_9 fun (x_9 : Int) =>
                                        idx 1 r_1 k_2 fun p_10 =>
                                           ld (.int .i64) h_8 p_10 fun (x_10 : Int) =>
                                            ifB (x_9 == x_10)
                                                (idx 1 r_2 i fun p_11 =>
                                                  ld .bool h_8 p_11 fun (x_11 : Bool) =>
                                                   k_3 (!x_11) h_8)
                                                (k_3 false h_8))
                                     (k_3 false h_8))))
       (ifB (i != k_2)
                              (idx 1 r_1 i fun p_12 =>
                                ld (.int .i64) h_8 p_12 fun (x_12 : Int) =>
                                 idx 1 r_1 k_2 fun p_13 =>
                                    ld (.int .i64) h_8 p_13 fun (x_13 : Int) =>
                                     ifB (x_12 == x_13)
                                         (idx 1 r_2 i fun p_14 =>
                                           ld .bool h_8 p_14 fun (x_14 : Bool) =>
                                            k_3 (!x_14) h_8)
                                         (k_3 false h_8))
                              (k_3 false h_8)))
       (ar .i64 (i + 1) fun n_1 =>
    next n_1 h_8)) 0 h_7)) fun k_1 =>
    ACalls Try.prog F_lateenref09_Leads [g.v, .int .i64 i, .int .i64 i] h_6 fun v_4 h_10 => as1 .bool v_4 fun r_4 =>
    ifB r_4
     (idx 1 r_2 i fun p_15 =>
       ld .bool h_10 p_15 fun (x_15 : Bool) =>
        ifB (!x_15)
          (k_1 true h_10)
          (idx 1 r_1 i fun p_16 =>
            ld (.int .i64) h_10 p_16 fun (x_16 : Int) =>
             k_1 (decide (x_16 > i)) h_10))
     (idx 1 r_1 i fun p_17 =>
            ld (.int .i64) h_10 p_17 fun (x_17 : Int) =>
             k_1 (decide (x_17 > i)) h_10))
     (K (.bool true) h_6)) 0 h_5)) fun k =>
  ACalls Try.prog F_lateenlaw20_awake [] h fun v_5 h_11 => as1 .bool v_5 fun r_5 =>
  ifB (!r_5)
   (k true h_11)
   (ACalls Try.prog F_lateenref09_Few [g.v, .int .i64 60] h_11 fun v_6 h_12 => as1 .bool v_6 fun r_6 =>
    k (!r_6) h_12)
def lateenlaw20_CallsEdges_a : Ann := (.seq .leaf (.seq (.join [(14, .bool)] [0] .leaf (.cond (.seq .leaf .leaf) .leaf)) (.seq .leaf (.seq .leaf (.seq .leaf (.seq (.seq .leaf (.block (.loop [(6, .int .i64)] [0, 3, 4, 5] (.seq (.seq .leaf (.cond .leaf .leaf)) (.seq (.block (.seq (.join [(46, .bool)] [0, 3, 4, 5, 6] .leaf (.cond (.seq .leaf .leaf) .leaf)) (.seq .leaf (.block (.loop [(7, .int .i64)] [0, 3, 4, 5, 6] (.seq (.seq .leaf (.cond .leaf .leaf)) (.seq (.block (.join [(106, .bool)] [0, 3, 4, 5, 6, 7] .leaf (.cond (.seq .leaf .leaf) .leaf))) .leaf))))))) .leaf))))) (.seq .leaf .leaf)))))))
theorem lateenlaw20_CallsEdges_eq (g : Sl) (h : Heap) (K : Value → Heap → Prop) : lateenlaw20_CallsEdges g h K = fnW Try.prog ty lateenlaw20_CallsEdges_a (bodyOf Try.f10) [.tmp 2] [g.v] h K := by kernel_rfl
theorem lateenlaw20_CallsEdges_of {g : Sl} {h : Heap} {K : Value → Heap → Prop} (hw : lateenlaw20_CallsEdges g h K) : ACalls Try.prog F_lateenlaw20_CallsEdges [g.v] h K :=
  calls_sound ty_ok mixed lateenlaw20_CallsEdges_a (c := bodyOf Try.f10) Try.func10 (by kernel_rfl) (by kernel_rfl) (by kernel_rfl) (Nat.le_of_ble_eq_true rfl) (by rw [lateenlaw20_CallsEdges_eq] at hw; exact hw)

/-- lateen/lateenlaw20.CallsKeeps -/
def lateenlaw20_CallsKeeps (g : Sl) (h : Heap) (K : Value → Heap → Prop) : Prop :=
  joinW (fun _ (t : Bool) h_1 =>
    ifB t
     (ACalls Try.prog F_lateenlaw20_awake [] h_1 fun v h_2 => as1 .bool v fun r =>
     K (.bool r) h_2)
     (loopW (fun _ (q_was : Sl × Int) h_3 next =>
    ifB (decide (q_was.2 < (g.len : Int)))
     (bld si_Lint 0 [] h_3 fun s h_4 =>
    idx 1 g q_was.2 fun p =>
    ld .sl h_4 p fun (x : Sl) =>
    app si_Lint s x h_4 fun s_1 h_5 =>
    bld si_LLint 1 [(0, s_1.v)] h_5 fun s_2 h_6 =>
    app si_LLint q_was.1 s_2 h_6 fun s_3 h_7 =>
    ar .i64 (q_was.2 + 1) fun n =>
    next (s_3, n) h_7)
     (ACalls Try.prog F_calls_Parts [g.v] h_3 fun v_1 h_8 => as1 .sl v_1 fun r_1 =>
  ACalls Try.prog F_calls_Order [g.v] h_8 fun v_2 h_9 => as1 .sl v_2 fun r_2 =>
  loopW (fun _ (i_1 : Int) h_10 next_1 =>
    ifB (decide (i_1 < (r_1.len : Int)))
     (idx 1 r_1 i_1 fun p_1 =>
    st [.int .i64 (-7)] h_10 p_1 fun h_11 =>
    idx 1 r_2 i_1 fun p_2 =>
    st [.int .i64 (-7)] h_11 p_2 fun h_12 =>
    ar .i64 (i_1 + 1) fun n_1 =>
    next_1 n_1 h_12)
     (joinW (fun _ (t_1 : Bool) h_13 =>
    K (.bool t_1) h_13) fun k_1 =>
  ACalls Try.prog F_lateenref09_SameLists [g.v, q_was.1.v] h_10 fun v_3 h_14 => as1 .bool v_3 fun r_3 =>
  ifB r_3
   (ACalls Try.prog F_calls_Parts [g.v] h_14 fun v_4 h_15 => as1 .sl v_4 fun r_4 =>
    ACalls Try.prog F_lateenref20_Parts [g.v] h_15 fun v_5 h_16 => as1 .sl v_5 fun r_5 =>
      ACalls Try.prog F_lateenref09_Same [r_4.v, r_5.v] h_16 fun v_6 h_17 => as1 .bool v_6 fun r_6 =>
       k_1 r_6 h_17)
   (k_1 false h_14))) 0 h_9)) ((⟨none, 0, 0⟩ : Sl), 0) h_1)) fun k =>
  ACalls Try.prog F_lateenlaw20_awake [] h fun v_7 h_18 => as1 .bool v_7 fun r_7 =>
  ifB (!r_7)
   (k true h_18)
   (ACalls Try.prog F_lateenref09_Few [g.v, .int .i64 60] h_18 fun v_8 h_19 => as1 .bool v_8 fun r_8 =>
    k (!r_8) h_19)
def lateenlaw20_CallsKeeps_a : Ann := (.seq .leaf (.seq (.join [(14, .bool)] [0] .leaf (.cond (.seq .leaf .leaf) .leaf)) (.seq .leaf (.seq (.seq .leaf (.block (.loop [(3, .sl), (4, .int .i64)] [0] (.seq (.seq .leaf (.cond .leaf .leaf)) (.seq (.block .leaf) .leaf))))) (.seq .leaf (.seq .leaf (.seq (.seq .leaf (.block (.loop [(7, .int .i64)] [0, 3, 5, 6] (.seq (.seq .leaf (.cond .leaf .leaf)) (.seq (.block (.seq .leaf .leaf)) .leaf))))) (.join [(2, .bool)] [] .leaf .leaf))))))))
theorem lateenlaw20_CallsKeeps_eq (g : Sl) (h : Heap) (K : Value → Heap → Prop) : lateenlaw20_CallsKeeps g h K = fnW Try.prog ty lateenlaw20_CallsKeeps_a (bodyOf Try.f11) [.tmp 2] [g.v] h K := by kernel_rfl
theorem lateenlaw20_CallsKeeps_of {g : Sl} {h : Heap} {K : Value → Heap → Prop} (hw : lateenlaw20_CallsKeeps g h K) : ACalls Try.prog F_lateenlaw20_CallsKeeps [g.v] h K :=
  calls_sound ty_ok mixed lateenlaw20_CallsKeeps_a (c := bodyOf Try.f11) Try.func11 (by kernel_rfl) (by kernel_rfl) (by kernel_rfl) (Nat.le_of_ble_eq_true rfl) (by rw [lateenlaw20_CallsKeeps_eq] at hw; exact hw)

/-- lateen/lateenlaw10.DomFrontiers -/
def lateenlaw10_DomFrontiers (g : Sl) (h : Heap) (K : Value → Heap → Prop) : Prop :=
  joinW (fun _ (t : Bool) h_1 =>
    ifB t
     (ACalls Try.prog F_lateenlaw10_awake [] h_1 fun v h_2 => as1 .bool v fun r =>
     K (.bool r) h_2)
     (ACalls Try.prog F_dom_Frontier [g.v] h_1 fun v_1 h_3 => as1 .sl v_1 fun r_1 =>
  ACalls Try.prog F_lateenref10_Frontier [g.v] h_3 fun v_2 h_4 => as1 .sl v_2 fun r_2 =>
  ACalls Try.prog F_lateenref09_SameLists [r_1.v, r_2.v] h_4 fun v_3 h_5 => as1 .bool v_3 fun r_3 =>
  K (.bool r_3) h_5)) fun k =>
  ACalls Try.prog F_lateenlaw10_awake [] h fun v_4 h_6 => as1 .bool v_4 fun r_4 =>
  ifB (!r_4)
   (k true h_6)
   (ACalls Try.prog F_lateenlaw10_few [g.v] h_6 fun v_5 h_7 => as1 .bool v_5 fun r_5 =>
    k (!r_5) h_7)
def lateenlaw10_DomFrontiers_a : Ann := (.seq .leaf (.seq (.join [(9, .bool)] [0] .leaf (.cond (.seq .leaf .leaf) .leaf)) (.seq .leaf .leaf)))
theorem lateenlaw10_DomFrontiers_eq (g : Sl) (h : Heap) (K : Value → Heap → Prop) : lateenlaw10_DomFrontiers g h K = fnW Try.prog ty lateenlaw10_DomFrontiers_a (bodyOf Try.f12) [.tmp 2] [g.v] h K := by kernel_rfl
theorem lateenlaw10_DomFrontiers_of {g : Sl} {h : Heap} {K : Value → Heap → Prop} (hw : lateenlaw10_DomFrontiers g h K) : ACalls Try.prog F_lateenlaw10_DomFrontiers [g.v] h K :=
  calls_sound ty_ok mixed lateenlaw10_DomFrontiers_a (c := bodyOf Try.f12) Try.func12 (by kernel_rfl) (by kernel_rfl) (by kernel_rfl) (Nat.le_of_ble_eq_true rfl) (by rw [lateenlaw10_DomFrontiers_eq] at hw; exact hw)

/-- lateen/lateenlaw10.DomMeans -/
def lateenlaw10_DomMeans (g : Sl) (a : Int) (b : Int) (h : Heap) (K : Value → Heap → Prop) : Prop :=
  joinW (fun _ (t : Bool) h_1 =>
    ifB t
     (ACalls Try.prog F_lateenlaw10_awake [] h_1 fun v h_2 => as1 .bool v fun r =>
     K (.bool r) h_2)
     ((g.len : Int) ≠ 0 ∧ ((g.len : Int) ≠ 0 ∧ (ACalls Try.prog F_flow_Come [g.v] h_1 fun v_1 h_3 => as1 .sl v_1 fun r_1 =>
  idx 1 r_1 (Int.tmod (IntKind.i64.wrap b) (g.len : Int)) fun p =>
  ld .bool h_3 p fun (x : Bool) =>
  ifB (!x)
   (K (.bool true) h_3)
   (loopW (fun _ (q_h_4 : Sl × Int) h_5 next =>
    ifB (decide (q_h_4.2 < (g.len : Int)))
     (loopW (fun _ (q_l : Sl × Int) h_6 next_1 =>
      joinW (fun _ (t_1 : Bool) h_7 =>
        ifB t_1
         (joinW (fun _ (l_1 : Sl) h_8 =>
        ar .i64 (q_l.2 + 1) fun n =>
        next_1 (l_1, n) h_8) fun k_3 =>
      idx 1 g q_h_4.2 fun p_1 =>
      ld .sl h_7 p_1 fun (x_1 : Sl) =>
      idx 1 x_1 q_l.2 fun p_2 =>
      ld (.int .i64) h_7 p_2 fun (x_2 : Int) =>
      ifB (x_2 != (Int.tmod (IntKind.i64.wrap a) (g.len : Int)))
       (idx 1 g q_h_4.2 fun p_3 =>
       ld .sl h_7 p_3 fun (x_3 : Sl) =>
       idx 1 x_3 q_l.2 fun p_4 =>
       ld (.int .i64) h_7 p_4 fun (x_4 : Int) =>
       bld si_Lint 1 [(0, .int .i64 x_4)] h_7 fun s h_9 =>
       app si_Lint q_l.1 s h_9 fun s_1 h_10 =>
       k_3 s_1 h_10)
       (k_3 q_l.1 h_7))
         (bld si_LLint 1 [(0, q_l.1.v)] h_7 fun s_2 h_11 =>
    app si_LLint q_h_4.1 s_2 h_11 fun s_3 h_12 =>
    ar .i64 (q_h_4.2 + 1) fun n_1 =>
    next (s_3, n_1) h_12)) fun k_2 =>
      idx 1 g q_h_4.2 fun p_5 =>
      ld .sl h_6 p_5 fun (x_5 : Sl) =>
      ifB (decide (q_l.2 < (x_5.len : Int)))
       (k_2 (q_h_4.2 != (Int.tmod (IntKind.i64.wrap a) (g.len : Int))) h_6)
       (k_2 false h_6)) ((⟨none, 0, 0⟩ : Sl), 0) h_5)
     (joinW (fun _ (without : Bool) h_13 =>
    ACalls Try.prog F_dom_Nearest [g.v] h_13 fun v_2 h_14 => as1 .sl v_2 fun r_2 =>
    ACalls Try.prog F_dom_Dominates [r_2.v, .int .i64 (Int.tmod (IntKind.i64.wrap a) (g.len : Int)), .int .i64 (Int.tmod (IntKind.i64.wrap b) (g.len : Int))] h_14 fun v_3 h_15 => as1 .bool v_3 fun r_3 =>
    K (.bool (r_3 == (!without))) h_15) fun k_4 =>
  ifB ((Int.tmod (IntKind.i64.wrap a) (g.len : Int)) != 0)
   (ifB ((Int.tmod (IntKind.i64.wrap a) (g.len : Int)) != (Int.tmod (IntKind.i64.wrap b) (g.len : Int)))
      (ACalls Try.prog F_flow_Come [q_h_4.1.v] h_5 fun v_4 h_16 => as1 .sl v_4 fun r_4 =>
       idx 1 r_4 (Int.tmod (IntKind.i64.wrap b) (g.len : Int)) fun p_6 =>
         ld .bool h_16 p_6 fun (x_6 : Bool) =>
          k_4 x_6 h_16)
      (k_4 false h_5))
   (k_4 false h_5))) ((⟨none, 0, 0⟩ : Sl), 0) h_3))))) fun k =>
  ACalls Try.prog F_lateenlaw10_awake [] h fun v_5 h_17 => as1 .bool v_5 fun r_5 =>
  ifB (!r_5)
   (k true h_17)
   (ACalls Try.prog F_lateenref09_Few [g.v, .int .i64 60] h_17 fun v_6 h_18 => as1 .bool v_6 fun r_6 =>
    ifB (!r_6)
      (k true h_18)
      (k ((g.len : Int) == 0) h_18))
def lateenlaw10_DomMeans_a : Ann := (.seq .leaf (.seq (.join [(26, .bool)] [0, 1, 2] .leaf (.cond (.seq .leaf .leaf) .leaf)) (.seq .leaf (.seq .leaf (.seq .leaf (.seq (.seq .leaf (.cond (.seq .leaf .leaf) .leaf)) (.seq .leaf (.seq (.seq .leaf (.block (.loop [(10, .sl), (11, .int .i64)] [0, 7, 8] (.seq (.seq .leaf (.cond .leaf .leaf)) (.seq (.block (.seq .leaf (.seq (.seq .leaf (.block (.loop [(12, .sl), (13, .int .i64)] [0, 7, 8, 10, 11] (.seq (.join [(62, .bool)] [0, 7, 8, 10, 11, 12, 13] .leaf (.cond .leaf .leaf)) (.join [(12, .sl)] [0, 7, 8, 10, 11, 13] (.block (.seq .leaf (.cond .leaf .leaf))) .leaf))))) .leaf))) .leaf))))) (.join [(14, .bool)] [0, 7, 8] .leaf (.seq .leaf .leaf))))))))))
theorem lateenlaw10_DomMeans_eq (g : Sl) (a : Int) (b : Int) (h : Heap) (K : Value → Heap → Prop) : lateenlaw10_DomMeans g a b h K = fnW Try.prog ty lateenlaw10_DomMeans_a (bodyOf Try.f13) [.tmp 6] [g.v, .int .u8 a, .int .u8 b] h K := by kernel_rfl
theorem lateenlaw10_DomMeans_of {g : Sl} {a : Int} {b : Int} {h : Heap} {K : Value → Heap → Prop} (hw : lateenlaw10_DomMeans g a b h K) : ACalls Try.prog F_lateenlaw10_DomMeans [g.v, .int .u8 a, .int .u8 b] h K :=
  calls_sound ty_ok mixed lateenlaw10_DomMeans_a (c := bodyOf Try.f13) Try.func13 (by kernel_rfl) (by kernel_rfl) (by kernel_rfl) (Nat.le_of_ble_eq_true rfl) (by rw [lateenlaw10_DomMeans_eq] at hw; exact hw)

/-- lateen/lateenlaw10.DomTree -/
def lateenlaw10_DomTree (g : Sl) (h : Heap) (K : Value → Heap → Prop) : Prop :=
  joinW (fun _ (t : Bool) h_1 =>
    ifB t
     (ACalls Try.prog F_lateenlaw10_awake [] h_1 fun v h_2 => as1 .bool v fun r =>
     K (.bool r) h_2)
     (ACalls Try.prog F_dom_Nearest [g.v] h_1 fun v_1 h_3 => as1 .sl v_1 fun r_1 =>
  (g.len : Int) = (g.len : Int) ∧ mk si_Lbool (g.len : Int) h_3 fun s h_4 =>
  ACalls Try.prog F_flow_Order [g.v] h_4 fun v_2 h_5 => as1 .sl v_2 fun r_2 =>
  ifB ((r_1.len : Int) != (g.len : Int))
   (K (.bool false) h_5)
   (loopW (fun _ (i : Int) h_6 next =>
    ifB (decide (i < (r_2.len : Int)))
     (idx 1 r_2 i fun p =>
    ld (.int .i64) h_6 p fun (x : Int) =>
    joinW (fun _ (t_1 : Bool) h_7 =>
      ifB t_1
       (K (.bool false) h_7)
       (idx 1 s x fun p_1 =>
    st [.bool true] h_7 p_1 fun h_8 =>
    ar .i64 (i + 1) fun n =>
    next n h_8)) fun k_1 =>
    ifB (i == 0)
     (idx 1 r_1 x fun p_2 =>
       ld (.int .i64) h_6 p_2 fun (x_1 : Int) =>
        ifB (x_1 != (-1))
          (k_1 true h_6)
          (ifB (decide (i > 0))
             (idx 1 r_1 x fun p_3 =>
               ld (.int .i64) h_6 p_3 fun (x_2 : Int) =>
                ifB (decide (x_2 < 0))
                   (k_1 true h_6)
                   (idx 1 r_1 x fun p_4 =>
                     ld (.int .i64) h_6 p_4 fun (x_3 : Int) =>
                      ifB (decide (x_3 ≥ (g.len : Int)))
                            (k_1 true h_6)
                            (idx 1 r_1 x fun p_5 =>
                               ld (.int .i64) h_6 p_5 fun (x_4 : Int) =>
                                idx 1 s x_4 fun p_6 =>
                                 ld .bool h_6 p_6 fun (x_5 : Bool) =>
                                  k_1 (!x_5) h_6)))
             (k_1 false h_6)))
     (ifB (decide (i > 0))
             (idx 1 r_1 x fun p_7 =>
               ld (.int .i64) h_6 p_7 fun (x_6 : Int) =>
                ifB (decide (x_6 < 0))
                   (k_1 true h_6)
                   (idx 1 r_1 x fun p_8 =>
                     ld (.int .i64) h_6 p_8 fun (x_7 : Int) =>
                      ifB (decide (x_7 ≥ (g.len : Int)))
                            (k_1 true h_6)
                            (idx 1 r_1 x fun p_9 =>
                               ld (.int .i64) h_6 p_9 fun (x_8 : Int) =>
                                idx 1 s x_8 fun p_10 =>
                                 ld .bool h_6 p_10 fun (x_9 : Bool) =>
                                  k_1 (!x_9) h_6)))
             (k_1 false h_6)))
     (loopW (fun _ (i_1 : Int) h_9 next_1 =>
    ifB (decide (i_1 < (g.len : Int)))
     (joinW (fun _ (t_2 : Bool) h_10 =>
      ifB t_2
       (K (.bool false) h_10)
       (ar .i64 (i_1 + 1) fun n_1 =>
    next_1 n_1 h_10)) fun k_2 =>
    idx 1 s i_1 fun p_11 =>
    ld .bool h_9 p_11 fun (x_10 : Bool) =>
    ifB (!x_10)
     (idx 1 r_1 i_1 fun p_12 =>
       ld (.int .i64) h_9 p_12 fun (x_11 : Int) =>
        k_2 (x_11 != (-1)) h_9)
     (k_2 false h_9))
     (K (.bool true) h_9)) 0 h_6)) 0 h_5))) fun k =>
  ACalls Try.prog F_lateenlaw10_awake [] h fun v_3 h_11 => as1 .bool v_3 fun r_3 =>
  ifB (!r_3)
   (k true h_11)
   (ACalls Try.prog F_lateenref09_Few [g.v, .int .i64 100] h_11 fun v_4 h_12 => as1 .bool v_4 fun r_4 =>
    k (!r_4) h_12)
def lateenlaw10_DomTree_a : Ann := (.seq .leaf (.seq (.join [(15, .bool)] [0] .leaf (.cond (.seq .leaf .leaf) .leaf)) (.seq .leaf (.seq .leaf (.seq .leaf (.seq (.seq .leaf (.cond (.seq .leaf .leaf) .leaf)) (.seq (.seq .leaf (.block (.loop [(6, .int .i64)] [0, 3, 4, 5] (.seq (.seq .leaf (.cond .leaf .leaf)) (.seq (.block (.seq .leaf (.seq (.join [(77, .bool)] [0, 3, 4, 5, 6, 7] .leaf (.cond (.seq .leaf .leaf) .leaf)) .leaf))) .leaf))))) (.seq (.seq .leaf (.block (.loop [(8, .int .i64)] [0, 3, 4] (.seq (.seq .leaf (.cond .leaf .leaf)) (.seq (.block (.join [(98, .bool)] [0, 3, 4, 8] .leaf (.cond (.seq .leaf .leaf) .leaf))) .leaf))))) (.seq .leaf .leaf)))))))))
theorem lateenlaw10_DomTree_eq (g : Sl) (h : Heap) (K : Value → Heap → Prop) : lateenlaw10_DomTree g h K = fnW Try.prog ty lateenlaw10_DomTree_a (bodyOf Try.f14) [.tmp 2] [g.v] h K := by kernel_rfl
theorem lateenlaw10_DomTree_of {g : Sl} {h : Heap} {K : Value → Heap → Prop} (hw : lateenlaw10_DomTree g h K) : ACalls Try.prog F_lateenlaw10_DomTree [g.v] h K :=
  calls_sound ty_ok mixed lateenlaw10_DomTree_a (c := bodyOf Try.f14) Try.func14 (by kernel_rfl) (by kernel_rfl) (by kernel_rfl) (Nat.le_of_ble_eq_true rfl) (by rw [lateenlaw10_DomTree_eq] at hw; exact hw)

/-- lateen/lateenlaw10.DomEdges -/
def lateenlaw10_DomEdges (g : Sl) (h : Heap) (K : Value → Heap → Prop) : Prop :=
  joinW (fun _ (t : Bool) h_1 =>
    ifB t
     (ACalls Try.prog F_lateenlaw10_awake [] h_1 fun v h_2 => as1 .bool v fun r =>
     K (.bool r) h_2)
     (ACalls Try.prog F_dom_Nearest [g.v] h_1 fun v_1 h_3 => as1 .sl v_1 fun r_1 =>
  ACalls Try.prog F_flow_Come [g.v] h_3 fun v_2 h_4 => as1 .sl v_2 fun r_2 =>
  ACalls Try.prog F_dom_Frontier [g.v] h_4 fun v_3 h_5 => as1 .sl v_3 fun r_3 =>
  loopW (fun _ (i : Int) h_6 next =>
    ifB (decide (i < (g.len : Int)))
     (loopW (fun _ (k_1 : Int) h_7 next_1 =>
      ifB (decide (k_1 < (g.len : Int)))
       (joinW (fun _ (_ : Unit) h_8 =>
        ar .i64 (k_1 + 1) fun n =>
        next_1 n h_8) fun k_2 =>
      joinW (fun _ (t_1 : Bool) h_9 =>
        ifB t_1
         (k_2 () h_9)
         (joinW (fun _ (t_2 : Bool) h_10 =>
        ifB t_2
         (K (.bool false) h_10)
         (loopW (fun _ (q_inv : Bool × Int) h_11 next_2 =>
        idx 1 r_3 i fun p =>
        ld .sl h_11 p fun (x : Sl) =>
        ifB (decide (q_inv.2 < (x.len : Int)))
         (joinW (fun _ (inv_1 : Bool) h_12 =>
          ar .i64 (q_inv.2 + 1) fun n_1 =>
          next_2 (inv_1, n_1) h_12) fun k_5 =>
        ifB q_inv.1
         (k_5 true h_11)
         (idx 1 r_3 i fun p_1 =>
           ld .sl h_11 p_1 fun (x_1 : Sl) =>
            idx 1 x_1 q_inv.2 fun p_2 =>
              ld (.int .i64) h_11 p_2 fun (x_2 : Int) =>
               k_5 (x_2 == k_1) h_11))
         (joinW (fun _ (t_3 : Bool) h_13 =>
        ifB t_3
         (K (.bool false) h_13)
         (k_2 () h_13)) fun k_6 =>
      ifB (i == k_1)
       (k_6 (!(q_inv.1 == true)) h_11)
       (ACalls Try.prog F_dom_Dominates [r_1.v, .int .i64 i, .int .i64 k_1] h_11 fun v_4 h_14 => as1 .bool v_4 fun r_4 =>
          k_6 (!(q_inv.1 == (!r_4))) h_14))) (false, 0) h_10)) fun k_4 =>
      ifB (k_1 != 0)
       (idx 1 r_1 k_1 fun p_3 =>
          ld (.int .i64) h_9 p_3 fun (x_3 : Int) =>
           ACalls Try.prog F_dom_Dominates [r_1.v, .int .i64 x_3, .int .i64 i] h_9 fun v_5 h_15 => as1 .bool v_5 fun r_5 =>
             k_4 (!r_5) h_15)
       (k_4 false h_9))) fun k_3 =>
      idx 1 r_2 i fun p_4 =>
      ld .bool h_7 p_4 fun (x_4 : Bool) =>
      ifB (!x_4)
       (k_3 true h_7)
       (ACalls Try.prog F_lateenref09_Leads [g.v, .int .i64 i, .int .i64 k_1] h_7 fun v_6 h_16 => as1 .bool v_6 fun r_6 =>
          k_3 (!r_6) h_16))
       (ar .i64 (i + 1) fun n_2 =>
    next n_2 h_7)) 0 h_6)
     (K (.bool true) h_6)) 0 h_5)) fun k =>
  ACalls Try.prog F_lateenlaw10_awake [] h fun v_7 h_17 => as1 .bool v_7 fun r_7 =>
  ifB (!r_7)
   (k true h_17)
   (ACalls Try.prog F_lateenref09_Few [g.v, .int .i64 60] h_17 fun v_8 h_18 => as1 .bool v_8 fun r_8 =>
    k (!r_8) h_18)
def lateenlaw10_DomEdges_a : Ann := (.seq .leaf (.seq (.join [(16, .bool)] [0] .leaf (.cond (.seq .leaf .leaf) .leaf)) (.seq .leaf (.seq .leaf (.seq .leaf (.seq (.seq .leaf (.block (.loop [(6, .int .i64)] [0, 3, 4, 5] (.seq (.seq .leaf (.cond .leaf .leaf)) (.seq (.block (.seq .leaf (.block (.loop [(7, .int .i64)] [0, 3, 4, 5, 6] (.seq (.seq .leaf (.cond .leaf .leaf)) (.join [] [0, 3, 4, 5, 6, 7] (.block (.seq (.join [(47, .bool)] [0, 3, 4, 5, 6, 7] .leaf (.cond .leaf .leaf)) (.seq (.join [(59, .bool)] [0, 3, 4, 5, 6, 7] .leaf (.cond (.seq .leaf .leaf) .leaf)) (.seq .leaf (.seq (.seq .leaf (.block (.loop [(8, .bool), (9, .int .i64)] [0, 3, 4, 5, 6, 7] (.seq (.seq .leaf (.cond .leaf .leaf)) (.join [(8, .bool)] [0, 3, 4, 5, 6, 7, 9] (.block .leaf) .leaf))))) (.join [(92, .bool)] [0, 3, 4, 5, 6, 7] .leaf (.cond (.seq .leaf .leaf) .leaf))))))) .leaf)))))) .leaf))))) (.seq .leaf .leaf)))))))
theorem lateenlaw10_DomEdges_eq (g : Sl) (h : Heap) (K : Value → Heap → Prop) : lateenlaw10_DomEdges g h K = fnW Try.prog ty lateenlaw10_DomEdges_a (bodyOf Try.f15) [.tmp 2] [g.v] h K := by kernel_rfl
theorem lateenlaw10_DomEdges_of {g : Sl} {h : Heap} {K : Value → Heap → Prop} (hw : lateenlaw10_DomEdges g h K) : ACalls Try.prog F_lateenlaw10_DomEdges [g.v] h K :=
  calls_sound ty_ok mixed lateenlaw10_DomEdges_a (c := bodyOf Try.f15) Try.func15 (by kernel_rfl) (by kernel_rfl) (by kernel_rfl) (Nat.le_of_ble_eq_true rfl) (by rw [lateenlaw10_DomEdges_eq] at hw; exact hw)

/-- lateen/lateenlaw10.DomKeeps -/
def lateenlaw10_DomKeeps (g : Sl) (h : Heap) (K : Value → Heap → Prop) : Prop :=
  joinW (fun _ (t : Bool) h_1 =>
    ifB t
     (ACalls Try.prog F_lateenlaw10_awake [] h_1 fun v h_2 => as1 .bool v fun r =>
     K (.bool r) h_2)
     (loopW (fun _ (q_was : Sl × Int) h_3 next =>
    ifB (decide (q_was.2 < (g.len : Int)))
     (bld si_Lint 0 [] h_3 fun s h_4 =>
    idx 1 g q_was.2 fun p =>
    ld .sl h_4 p fun (x : Sl) =>
    app si_Lint s x h_4 fun s_1 h_5 =>
    bld si_LLint 1 [(0, s_1.v)] h_5 fun s_2 h_6 =>
    app si_LLint q_was.1 s_2 h_6 fun s_3 h_7 =>
    ar .i64 (q_was.2 + 1) fun n =>
    next (s_3, n) h_7)
     (ACalls Try.prog F_dom_Nearest [g.v] h_3 fun v_1 h_8 => as1 .sl v_1 fun r_1 =>
  ACalls Try.prog F_dom_Frontier [g.v] h_8 fun v_2 h_9 => as1 .sl v_2 fun r_2 =>
  loopW (fun _ (i_1 : Int) h_10 next_1 =>
    ifB (decide (i_1 < (r_2.len : Int)))
     (idx 1 r_1 i_1 fun p_1 =>
    st [.int .i64 7] h_10 p_1 fun h_11 =>
    loopW (fun _ (k_1 : Int) h_12 next_2 =>
      idx 1 r_2 i_1 fun p_2 =>
      ld .sl h_12 p_2 fun (x_1 : Sl) =>
      ifB (decide (k_1 < (x_1.len : Int)))
       (idx 1 r_2 i_1 fun p_3 =>
      ld .sl h_12 p_3 fun (x_2 : Sl) =>
      idx 1 x_2 k_1 fun p_4 =>
      st [.int .i64 (-7)] h_12 p_4 fun h_13 =>
      ar .i64 (k_1 + 1) fun n_1 =>
      next_2 n_1 h_13)
       (ar .i64 (i_1 + 1) fun n_2 =>
    next_1 n_2 h_12)) 0 h_11)
     (joinW (fun _ (t_1 : Bool) h_14 =>
    K (.bool t_1) h_14) fun k_2 =>
  ACalls Try.prog F_lateenref09_SameLists [g.v, q_was.1.v] h_10 fun v_3 h_15 => as1 .bool v_3 fun r_3 =>
  ifB r_3
   (ACalls Try.prog F_dom_Nearest [g.v] h_15 fun v_4 h_16 => as1 .sl v_4 fun r_4 =>
    ACalls Try.prog F_lateenref10_Nearest [g.v] h_16 fun v_5 h_17 => as1 .sl v_5 fun r_5 =>
      ACalls Try.prog F_lateenref09_Same [r_4.v, r_5.v] h_17 fun v_6 h_18 => as1 .bool v_6 fun r_6 =>
       k_2 r_6 h_18)
   (k_2 false h_15))) 0 h_9)) ((⟨none, 0, 0⟩ : Sl), 0) h_1)) fun k =>
  ACalls Try.prog F_lateenlaw10_awake [] h fun v_7 h_19 => as1 .bool v_7 fun r_7 =>
  ifB (!r_7)
   (k true h_19)
   (ACalls Try.prog F_lateenlaw10_few [g.v] h_19 fun v_8 h_20 => as1 .bool v_8 fun r_8 =>
    k (!r_8) h_20)
def lateenlaw10_DomKeeps_a : Ann := (.seq .leaf (.seq (.join [(15, .bool)] [0] .leaf (.cond (.seq .leaf .leaf) .leaf)) (.seq .leaf (.seq (.seq .leaf (.block (.loop [(3, .sl), (4, .int .i64)] [0] (.seq (.seq .leaf (.cond .leaf .leaf)) (.seq (.block .leaf) .leaf))))) (.seq .leaf (.seq .leaf (.seq (.seq .leaf (.block (.loop [(7, .int .i64)] [0, 3, 5, 6] (.seq (.seq .leaf (.cond .leaf .leaf)) (.seq (.block (.seq .leaf (.seq .leaf (.block (.loop [(8, .int .i64)] [0, 3, 5, 6, 7] (.seq (.seq .leaf (.cond .leaf .leaf)) (.seq (.block .leaf) .leaf))))))) .leaf))))) (.join [(2, .bool)] [] .leaf .leaf))))))))
theorem lateenlaw10_DomKeeps_eq (g : Sl) (h : Heap) (K : Value → Heap → Prop) : lateenlaw10_DomKeeps g h K = fnW Try.prog ty lateenlaw10_DomKeeps_a (bodyOf Try.f16) [.tmp 2] [g.v] h K := by kernel_rfl
theorem lateenlaw10_DomKeeps_of {g : Sl} {h : Heap} {K : Value → Heap → Prop} (hw : lateenlaw10_DomKeeps g h K) : ACalls Try.prog F_lateenlaw10_DomKeeps [g.v] h K :=
  calls_sound ty_ok mixed lateenlaw10_DomKeeps_a (c := bodyOf Try.f16) Try.func16 (by kernel_rfl) (by kernel_rfl) (by kernel_rfl) (Nat.le_of_ble_eq_true rfl) (by rw [lateenlaw10_DomKeeps_eq] at hw; exact hw)

/-- lateen/lateenlaw10.DomNears -/
def lateenlaw10_DomNears (g : Sl) (h : Heap) (K : Value → Heap → Prop) : Prop :=
  joinW (fun _ (t : Bool) h_1 =>
    ifB t
     (ACalls Try.prog F_lateenlaw10_awake [] h_1 fun v h_2 => as1 .bool v fun r =>
     K (.bool r) h_2)
     (ACalls Try.prog F_dom_Nearest [g.v] h_1 fun v_1 h_3 => as1 .sl v_1 fun r_1 =>
  joinW (fun _ (t_1 : Bool) h_4 =>
    K (.bool t_1) h_4) fun k_1 =>
  ACalls Try.prog F_lateenref10_Nearest [g.v] h_3 fun v_2 h_5 => as1 .sl v_2 fun r_2 =>
  ACalls Try.prog F_lateenref09_Same [r_1.v, r_2.v] h_5 fun v_3 h_6 => as1 .bool v_3 fun r_3 =>
  ifB r_3
   (ACalls Try.prog F_dom_Kids [r_1.v] h_6 fun v_4 h_7 => as1 .sl v_4 fun r_4 =>
    ACalls Try.prog F_lateenref10_Kids [r_1.v] h_7 fun v_5 h_8 => as1 .sl v_5 fun r_5 =>
      ACalls Try.prog F_lateenref09_SameLists [r_4.v, r_5.v] h_8 fun v_6 h_9 => as1 .bool v_6 fun r_6 =>
       k_1 r_6 h_9)
   (k_1 false h_6))) fun k =>
  ACalls Try.prog F_lateenlaw10_awake [] h fun v_7 h_10 => as1 .bool v_7 fun r_7 =>
  ifB (!r_7)
   (k true h_10)
   (ACalls Try.prog F_lateenlaw10_few [g.v] h_10 fun v_8 h_11 => as1 .bool v_8 fun r_8 =>
    k (!r_8) h_11)
def lateenlaw10_DomNears_a : Ann := (.seq .leaf (.seq (.join [(10, .bool)] [0] .leaf (.cond (.seq .leaf .leaf) .leaf)) (.seq .leaf (.join [(2, .bool)] [] .leaf .leaf))))
theorem lateenlaw10_DomNears_eq (g : Sl) (h : Heap) (K : Value → Heap → Prop) : lateenlaw10_DomNears g h K = fnW Try.prog ty lateenlaw10_DomNears_a (bodyOf Try.f17) [.tmp 2] [g.v] h K := by kernel_rfl
theorem lateenlaw10_DomNears_of {g : Sl} {h : Heap} {K : Value → Heap → Prop} (hw : lateenlaw10_DomNears g h K) : ACalls Try.prog F_lateenlaw10_DomNears [g.v] h K :=
  calls_sound ty_ok mixed lateenlaw10_DomNears_a (c := bodyOf Try.f17) Try.func17 (by kernel_rfl) (by kernel_rfl) (by kernel_rfl) (Nat.le_of_ble_eq_true rfl) (by rw [lateenlaw10_DomNears_eq] at hw; exact hw)

/-- lateen/lateenlaw09.awake -/
def lateenlaw09_awake  (h : Heap) (K : Value → Heap → Prop) : Prop :=
  bld si_Lint 2 [(0, .int .i64 1), (1, .int .i64 2)] h fun s h_1 =>
  bld si_Lint 1 [(0, .int .i64 3)] h_1 fun s_1 h_2 =>
  bld si_Lint 1 [(0, .int .i64 3)] h_2 fun s_2 h_3 =>
  bld si_LLint 4 [(0, s.v), (1, s_1.v), (2, s_2.v), (3, (⟨none, 0, 0⟩ : Sl).v)] h_3 fun s_3 h_4 =>
  joinW (fun _ (t : Bool) h_5 =>
    K (.bool t) h_5) fun k =>
  ACalls Try.prog F_flow_Order [s_3.v] h_4 fun v h_6 => as1 .sl v fun r =>
  bld si_Lint 4 [(0, .int .i64 0), (1, .int .i64 2), (2, .int .i64 1), (3, .int .i64 3)] h_6 fun s_4 h_7 =>
  ACalls Try.prog F_lateenref09_Same [r.v, s_4.v] h_7 fun v_1 h_8 => as1 .bool v_1 fun r_1 =>
  ifB r_1
   (ACalls Try.prog F_flow_Preds [s_3.v] h_8 fun v_2 h_9 => as1 .sl v_2 fun r_2 =>
    bld si_Lint 1 [(0, .int .i64 0)] h_9 fun s_5 h_10 =>
     bld si_Lint 1 [(0, .int .i64 0)] h_10 fun s_6 h_11 =>
      bld si_Lint 2 [(0, .int .i64 1), (1, .int .i64 2)] h_11 fun s_7 h_12 =>
       bld si_LLint 4 [(0, (⟨none, 0, 0⟩ : Sl).v), (1, s_5.v), (2, s_6.v), (3, s_7.v)] h_12 fun s_8 h_13 =>
        ACalls Try.prog F_lateenref09_SameLists [r_2.v, s_8.v] h_13 fun v_3 h_14 => as1 .bool v_3 fun r_3 =>
         ifB r_3
          (ACalls Try.prog F_flow_Order [(⟨none, 0, 0⟩ : Sl).v] h_14 fun v_4 h_15 => as1 .sl v_4 fun r_4 =>
          k ((r_4.len : Int) == 0) h_15)
          (k false h_14))
   (k false h_8)
def lateenlaw09_awake_a : Ann := (.seq .leaf (.seq .leaf (.join [(0, .bool)] [] .leaf .leaf)))
theorem lateenlaw09_awake_eq  (h : Heap) (K : Value → Heap → Prop) : lateenlaw09_awake  h K = fnW Try.prog ty lateenlaw09_awake_a (bodyOf Try.f18) [.tmp 0] [] h K := by kernel_rfl
theorem lateenlaw09_awake_of  {h : Heap} {K : Value → Heap → Prop} (hw : lateenlaw09_awake  h K) : ACalls Try.prog F_lateenlaw09_awake [] h K :=
  calls_sound ty_ok mixed lateenlaw09_awake_a (c := bodyOf Try.f18) Try.func18 (by kernel_rfl) (by kernel_rfl) (by kernel_rfl) (Nat.le_of_ble_eq_true rfl) (by rw [lateenlaw09_awake_eq] at hw; exact hw)

/-- lateen/lateenref09.Few -/
def lateenref09_Few (g : Sl) (most : Int) (h : Heap) (K : Value → Heap → Prop) : Prop :=
  ifB (decide ((g.len : Int) > most))
   (K (.bool false) h)
   (loopW (fun _ (i : Int) h_1 next =>
    ifB (decide (i < (g.len : Int)))
     (idx 1 g i fun p =>
    ld .sl h_1 p fun (x : Sl) =>
    ifB (decide ((x.len : Int) > 20))
     (K (.bool false) h_1)
     (ar .i64 (i + 1) fun n =>
    next n h_1))
     (K (.bool true) h_1)) 0 h)
def lateenref09_Few_a : Ann := (.seq .leaf (.seq (.seq .leaf (.cond (.seq .leaf .leaf) .leaf)) (.seq (.seq .leaf (.block (.loop [(5, .int .i64)] [0] (.seq (.seq .leaf (.cond .leaf .leaf)) (.seq (.block (.seq .leaf (.cond (.seq .leaf .leaf) .leaf))) .leaf))))) (.seq .leaf .leaf))))
theorem lateenref09_Few_eq (g : Sl) (most : Int) (h : Heap) (K : Value → Heap → Prop) : lateenref09_Few g most h K = fnW Try.prog ty lateenref09_Few_a (bodyOf Try.f19) [.tmp 4] [g.v, .int .i64 most] h K := by kernel_rfl
theorem lateenref09_Few_of {g : Sl} {most : Int} {h : Heap} {K : Value → Heap → Prop} (hw : lateenref09_Few g most h K) : ACalls Try.prog F_lateenref09_Few [g.v, .int .i64 most] h K :=
  calls_sound ty_ok mixed lateenref09_Few_a (c := bodyOf Try.f19) Try.func19 (by kernel_rfl) (by kernel_rfl) (by kernel_rfl) (Nat.le_of_ble_eq_true rfl) (by rw [lateenref09_Few_eq] at hw; exact hw)

/-- lateen/flow.Preds -/
def flow_Preds (g : Sl) (h : Heap) (K : Value → Heap → Prop) : Prop :=
  (g.len : Int) = (g.len : Int) ∧ mk si_LLint (g.len : Int) h fun s h_1 =>
  loopW (fun _ (t : Int) h_2 next =>
    ifB (decide (t < (g.len : Int)))
     (idx 1 g t fun p =>
    ld .sl h_2 p fun (x : Sl) =>
    loopW (fun _ (t_1 : Int) h_3 next_1 =>
      ifB (decide (t_1 < (x.len : Int)))
       (joinW (fun _ (_ : Unit) h_4 =>
        ar .i64 (t_1 + 1) fun n =>
        next_1 n h_4) fun k =>
      idx 1 x t_1 fun p_1 =>
      ld (.int .i64) h_3 p_1 fun (x_1 : Int) =>
      joinW (fun _ (t_2 : Bool) h_5 =>
        ifB t_2
         (idx 1 s x_1 fun p_2 =>
         ld .sl h_5 p_2 fun (x_2 : Sl) =>
         bld si_Lint 1 [(0, .int .i64 t)] h_5 fun s_1 h_6 =>
         app si_Lint x_2 s_1 h_6 fun s_2 h_7 =>
         idx 1 s x_1 fun p_3 =>
         st [s_2.v] h_7 p_3 fun h_8 =>
         k () h_8)
         (k () h_5)) fun k_1 =>
      ifB (decide (x_1 ≥ 0))
       (ifB (decide (x_1 < (g.len : Int)))
           (idx 1 s x_1 fun p_4 =>
             ld .sl h_3 p_4 fun (x_3 : Sl) =>
              ACalls Try.prog F_slices_Contains [x_3.v, .int .i64 t] h_3 fun v h_9 => as1 .bool v fun r =>
                k_1 (!r) h_9)
           (k_1 false h_3))
       (k_1 false h_3))
       (ar .i64 (t + 1) fun n_1 =>
    next n_1 h_3)) 0 h_2)
     (K s.v h_2)) 0 h_1
def flow_Preds_a : Ann := (.seq .leaf (.seq .leaf (.seq (.seq .leaf (.block (.loop [(13, .int .i64)] [0, 3, 11, 12] (.seq .leaf (.seq (.cond .leaf .leaf) (.seq (.block (.seq .leaf (.seq .leaf (.block (.loop [(20, .int .i64)] [0, 3, 4, 11, 12, 13, 18, 19] (.seq .leaf (.seq (.cond .leaf .leaf) (.join [] [0, 3, 4, 11, 12, 13, 18, 19, 20] (.block (.seq .leaf (.join [(40, .bool)] [0, 3, 4, 7, 11, 12, 13, 18, 19, 20] .leaf (.cond .leaf .leaf)))) .leaf)))))))) .leaf)))))) (.seq .leaf .leaf))))
theorem flow_Preds_eq (g : Sl) (h : Heap) (K : Value → Heap → Prop) : flow_Preds g h K = fnW Try.prog ty flow_Preds_a (bodyOf Try.f20) [.tmp 2] [g.v] h K := by kernel_rfl
theorem flow_Preds_of {g : Sl} {h : Heap} {K : Value → Heap → Prop} (hw : flow_Preds g h K) : ACalls Try.prog F_flow_Preds [g.v] h K :=
  calls_sound ty_ok mixed flow_Preds_a (c := bodyOf Try.f20) Try.func20 (by kernel_rfl) (by kernel_rfl) (by kernel_rfl) (Nat.le_of_ble_eq_true rfl) (by rw [flow_Preds_eq] at hw; exact hw)

/-- lateen/lateenref09.Leads -/
def lateenref09_Leads (g : Sl) (a : Int) (b : Int) (h : Heap) (K : Value → Heap → Prop) : Prop :=
  loopW (fun _ (i : Int) h_1 next =>
    idx 1 g a fun p =>
    ld .sl h_1 p fun (x : Sl) =>
    ifB (decide (i < (x.len : Int)))
     (idx 1 g a fun p_1 =>
    ld .sl h_1 p_1 fun (x_1 : Sl) =>
    idx 1 x_1 i fun p_2 =>
    ld (.int .i64) h_1 p_2 fun (x_2 : Int) =>
    ifB (x_2 == b)
     (K (.bool true) h_1)
     (ar .i64 (i + 1) fun n =>
    next n h_1))
     (K (.bool false) h_1)) 0 h
def lateenref09_Leads_a : Ann := (.seq .leaf (.seq (.seq .leaf (.block (.loop [(7, .int .i64)] [0, 1, 2] (.seq (.seq .leaf (.cond .leaf .leaf)) (.seq (.block (.seq .leaf (.cond (.seq .leaf .leaf) .leaf))) .leaf))))) (.seq .leaf .leaf)))
theorem lateenref09_Leads_eq (g : Sl) (a : Int) (b : Int) (h : Heap) (K : Value → Heap → Prop) : lateenref09_Leads g a b h K = fnW Try.prog ty lateenref09_Leads_a (bodyOf Try.f21) [.tmp 6] [g.v, .int .i64 a, .int .i64 b] h K := by kernel_rfl
theorem lateenref09_Leads_of {g : Sl} {a : Int} {b : Int} {h : Heap} {K : Value → Heap → Prop} (hw : lateenref09_Leads g a b h K) : ACalls Try.prog F_lateenref09_Leads [g.v, .int .i64 a, .int .i64 b] h K :=
  calls_sound ty_ok mixed lateenref09_Leads_a (c := bodyOf Try.f21) Try.func21 (by kernel_rfl) (by kernel_rfl) (by kernel_rfl) (Nat.le_of_ble_eq_true rfl) (by rw [lateenref09_Leads_eq] at hw; exact hw)

/-- lateen/flow.Order -/
def flow_Order (g : Sl) (h : Heap) (K : Value → Heap → Prop) : Prop :=
  ACalls Try.prog F_flow_walk [g.v] h fun v h_1 => as2 .sl .sl v fun r r_1 =>
  ACalls Try.prog F_slices_Reverse [r_1.v] h_1 fun v_1 h_2 => as0 v_1 (
  K r_1.v h_2)
def flow_Order_a : Ann := (.seq .leaf (.seq .leaf (.seq .leaf (.seq .leaf .leaf))))
theorem flow_Order_eq (g : Sl) (h : Heap) (K : Value → Heap → Prop) : flow_Order g h K = fnW Try.prog ty flow_Order_a (bodyOf Try.f22) [.tmp 2] [g.v] h K := by kernel_rfl
theorem flow_Order_of {g : Sl} {h : Heap} {K : Value → Heap → Prop} (hw : flow_Order g h K) : ACalls Try.prog F_flow_Order [g.v] h K :=
  calls_sound ty_ok mixed flow_Order_a (c := bodyOf Try.f22) Try.func22 (by kernel_rfl) (by kernel_rfl) (by kernel_rfl) (Nat.le_of_ble_eq_true rfl) (by rw [flow_Order_eq] at hw; exact hw)

/-- lateen/lateenref09.SameLists -/
def lateenref09_SameLists (a : Sl) (b : Sl) (h : Heap) (K : Value → Heap → Prop) : Prop :=
  ifB ((a.len : Int) != (b.len : Int))
   (K (.bool false) h)
   (loopW (fun _ (i : Int) h_1 next =>
    ifB (decide (i < (a.len : Int)))
     (idx 1 a i fun p =>
    ld .sl h_1 p fun (x : Sl) =>
    idx 1 b i fun p_1 =>
    ld .sl h_1 p_1 fun (x_1 : Sl) =>
    ACalls Try.prog F_lateenref09_Same [x.v, x_1.v] h_1 fun v h_2 => as1 .bool v fun r =>
    ifB (!r)
     (K (.bool false) h_2)
     (ar .i64 (i + 1) fun n =>
    next n h_2))
     (K (.bool true) h_1)) 0 h)
def lateenref09_SameLists_a : Ann := (.seq .leaf (.seq (.seq .leaf (.cond (.seq .leaf .leaf) .leaf)) (.seq (.seq .leaf (.block (.loop [(5, .int .i64)] [0, 1] (.seq (.seq .leaf (.cond .leaf .leaf)) (.seq (.block (.seq .leaf (.cond (.seq .leaf .leaf) .leaf))) .leaf))))) (.seq .leaf .leaf))))
theorem lateenref09_SameLists_eq (a : Sl) (b : Sl) (h : Heap) (K : Value → Heap → Prop) : lateenref09_SameLists a b h K = fnW Try.prog ty lateenref09_SameLists_a (bodyOf Try.f23) [.tmp 4] [a.v, b.v] h K := by kernel_rfl
theorem lateenref09_SameLists_of {a : Sl} {b : Sl} {h : Heap} {K : Value → Heap → Prop} (hw : lateenref09_SameLists a b h K) : ACalls Try.prog F_lateenref09_SameLists [a.v, b.v] h K :=
  calls_sound ty_ok mixed lateenref09_SameLists_a (c := bodyOf Try.f23) Try.func23 (by kernel_rfl) (by kernel_rfl) (by kernel_rfl) (Nat.le_of_ble_eq_true rfl) (by rw [lateenref09_SameLists_eq] at hw; exact hw)

/-- lateen/lateenref09.Preds -/
def lateenref09_Preds (g : Sl) (h : Heap) (K : Value → Heap → Prop) : Prop :=
  loopW (fun _ (q_out : Sl × Int) h_1 next =>
    ifB (decide (q_out.2 < (g.len : Int)))
     (loopW (fun _ (q_l : Sl × Int) h_2 next_1 =>
      ifB (decide (q_l.2 < (g.len : Int)))
       (joinW (fun _ (l_1 : Sl) h_3 =>
        ar .i64 (q_l.2 + 1) fun n =>
        next_1 (l_1, n) h_3) fun k_1 =>
      ACalls Try.prog F_lateenref09_Leads [g.v, .int .i64 q_l.2, .int .i64 q_out.2] h_2 fun v h_4 => as1 .bool v fun r =>
      ifB r
       (bld si_Lint 1 [(0, .int .i64 q_l.2)] h_4 fun s h_5 =>
       app si_Lint q_l.1 s h_5 fun s_1 h_6 =>
       k_1 s_1 h_6)
       (k_1 q_l.1 h_4))
       (bld si_LLint 1 [(0, q_l.1.v)] h_2 fun s_2 h_7 =>
    app si_LLint q_out.1 s_2 h_7 fun s_3 h_8 =>
    ar .i64 (q_out.2 + 1) fun n_1 =>
    next (s_3, n_1) h_8)) ((⟨none, 0, 0⟩ : Sl), 0) h_1)
     (K q_out.1.v h_1)) ((⟨none, 0, 0⟩ : Sl), 0) h
def lateenref09_Preds_a : Ann := (.seq .leaf (.seq .leaf (.seq (.seq .leaf (.block (.loop [(3, .sl), (4, .int .i64)] [0] (.seq (.seq .leaf (.cond .leaf .leaf)) (.seq (.block (.seq .leaf (.seq (.seq .leaf (.block (.loop [(5, .sl), (6, .int .i64)] [0, 3, 4] (.seq (.seq .leaf (.cond .leaf .leaf)) (.join [(5, .sl)] [0, 3, 4, 6] (.block (.seq .leaf (.cond .leaf .leaf))) .leaf))))) .leaf))) .leaf))))) (.seq .leaf .leaf))))
theorem lateenref09_Preds_eq (g : Sl) (h : Heap) (K : Value → Heap → Prop) : lateenref09_Preds g h K = fnW Try.prog ty lateenref09_Preds_a (bodyOf Try.f24) [.tmp 2] [g.v] h K := by kernel_rfl
theorem lateenref09_Preds_of {g : Sl} {h : Heap} {K : Value → Heap → Prop} (hw : lateenref09_Preds g h K) : ACalls Try.prog F_lateenref09_Preds [g.v] h K :=
  calls_sound ty_ok mixed lateenref09_Preds_a (c := bodyOf Try.f24) Try.func24 (by kernel_rfl) (by kernel_rfl) (by kernel_rfl) (Nat.le_of_ble_eq_true rfl) (by rw [lateenref09_Preds_eq] at hw; exact hw)

/-- lateen/lateenref09.Same -/
def lateenref09_Same (a : Sl) (b : Sl) (h : Heap) (K : Value → Heap → Prop) : Prop :=
  ifB ((a.len : Int) != (b.len : Int))
   (K (.bool false) h)
   (loopW (fun _ (i : Int) h_1 next =>
    ifB (decide (i < (a.len : Int)))
     (idx 1 a i fun p =>
    ld (.int .i64) h_1 p fun (x : Int) =>
    idx 1 b i fun p_1 =>
    ld (.int .i64) h_1 p_1 fun (x_1 : Int) =>
    ifB (x != x_1)
     (K (.bool false) h_1)
     (ar .i64 (i + 1) fun n =>
    next n h_1))
     (K (.bool true) h_1)) 0 h)
def lateenref09_Same_a : Ann := (.seq .leaf (.seq (.seq .leaf (.cond (.seq .leaf .leaf) .leaf)) (.seq (.seq .leaf (.block (.loop [(5, .int .i64)] [0, 1] (.seq (.seq .leaf (.cond .leaf .leaf)) (.seq (.block (.seq .leaf (.cond (.seq .leaf .leaf) .leaf))) .leaf))))) (.seq .leaf .leaf))))
theorem lateenref09_Same_eq (a : Sl) (b : Sl) (h : Heap) (K : Value → Heap → Prop) : lateenref09_Same a b h K = fnW Try.prog ty lateenref09_Same_a (bodyOf Try.f25) [.tmp 4] [a.v, b.v] h K := by kernel_rfl
theorem lateenref09_Same_of {a : Sl} {b : Sl} {h : Heap} {K : Value → Heap → Prop} (hw : lateenref09_Same a b h K) : ACalls Try.prog F_lateenref09_Same [a.v, b.v] h K :=
  calls_sound ty_ok mixed lateenref09_Same_a (c := bodyOf Try.f25) Try.func25 (by kernel_rfl) (by kernel_rfl) (by kernel_rfl) (Nat.le_of_ble_eq_true rfl) (by rw [lateenref09_Same_eq] at hw; exact hw)

/-- lateen/lateenref09.Order -/
def lateenref09_Order (g : Sl) (h : Heap) (K : Value → Heap → Prop) : Prop :=
  joinW (fun _ (left : Sl) h_1 =>
    ar .i64 ((left.len : Int) - 1) fun n =>
    loopW (fun _ (q_out : Sl × Int) h_2 next =>
      ifB (decide (q_out.2 ≥ 0))
       (idx 1 left q_out.2 fun p =>
      ld (.int .i64) h_2 p fun (x : Int) =>
      bld si_Lint 1 [(0, .int .i64 x)] h_2 fun s h_3 =>
      app si_Lint q_out.1 s h_3 fun s_1 h_4 =>
      ar .i64 (q_out.2 - 1) fun n_1 =>
      next (s_1, n_1) h_4)
       (K q_out.1.v h_2)) ((⟨none, 0, 0⟩ : Sl), n) h_1) fun k =>
  ifB (decide ((g.len : Int) > 0))
   ((g.len : Int) = (g.len : Int) ∧ mk si_Lbool (g.len : Int) h fun s_2 h_5 =>
   ACalls Try.prog F_lateenref09_down [g.v, .int .i64 0, s_2.v, (⟨none, 0, 0⟩ : Sl).v] h_5 fun v h_6 => as2 .sl .sl v fun r r_1 =>
   k r_1 h_6)
   (k (⟨none, 0, 0⟩ : Sl) h)
def lateenref09_Order_a : Ann := (.seq .leaf (.seq .leaf (.join [(3, .sl)] [] (.seq .leaf (.cond .leaf .leaf)) (.seq .leaf (.seq (.seq .leaf (.block (.loop [(4, .sl), (5, .int .i64)] [3] (.seq (.seq .leaf (.cond .leaf .leaf)) (.seq (.block .leaf) .leaf))))) (.seq .leaf .leaf))))))
theorem lateenref09_Order_eq (g : Sl) (h : Heap) (K : Value → Heap → Prop) : lateenref09_Order g h K = fnW Try.prog ty lateenref09_Order_a (bodyOf Try.f26) [.tmp 2] [g.v] h K := by kernel_rfl
theorem lateenref09_Order_of {g : Sl} {h : Heap} {K : Value → Heap → Prop} (hw : lateenref09_Order g h K) : ACalls Try.prog F_lateenref09_Order [g.v] h K :=
  calls_sound ty_ok mixed lateenref09_Order_a (c := bodyOf Try.f26) Try.func26 (by kernel_rfl) (by kernel_rfl) (by kernel_rfl) (Nat.le_of_ble_eq_true rfl) (by rw [lateenref09_Order_eq] at hw; exact hw)

/-- lateen/lateenref09.SameBools -/
def lateenref09_SameBools (a : Sl) (b : Sl) (h : Heap) (K : Value → Heap → Prop) : Prop :=
  ifB ((a.len : Int) != (b.len : Int))
   (K (.bool false) h)
   (loopW (fun _ (i : Int) h_1 next =>
    ifB (decide (i < (a.len : Int)))
     (idx 1 a i fun p =>
    ld .bool h_1 p fun (x : Bool) =>
    idx 1 b i fun p_1 =>
    ld .bool h_1 p_1 fun (x_1 : Bool) =>
    ifB (!(x == x_1))
     (K (.bool false) h_1)
     (ar .i64 (i + 1) fun n =>
    next n h_1))
     (K (.bool true) h_1)) 0 h)
def lateenref09_SameBools_a : Ann := (.seq .leaf (.seq (.seq .leaf (.cond (.seq .leaf .leaf) .leaf)) (.seq (.seq .leaf (.block (.loop [(5, .int .i64)] [0, 1] (.seq (.seq .leaf (.cond .leaf .leaf)) (.seq (.block (.seq .leaf (.cond (.seq .leaf .leaf) .leaf))) .leaf))))) (.seq .leaf .leaf))))
theorem lateenref09_SameBools_eq (a : Sl) (b : Sl) (h : Heap) (K : Value → Heap → Prop) : lateenref09_SameBools a b h K = fnW Try.prog ty lateenref09_SameBools_a (bodyOf Try.f27) [.tmp 4] [a.v, b.v] h K := by kernel_rfl
theorem lateenref09_SameBools_of {a : Sl} {b : Sl} {h : Heap} {K : Value → Heap → Prop} (hw : lateenref09_SameBools a b h K) : ACalls Try.prog F_lateenref09_SameBools [a.v, b.v] h K :=
  calls_sound ty_ok mixed lateenref09_SameBools_a (c := bodyOf Try.f27) Try.func27 (by kernel_rfl) (by kernel_rfl) (by kernel_rfl) (Nat.le_of_ble_eq_true rfl) (by rw [lateenref09_SameBools_eq] at hw; exact hw)

/-- lateen/flow.Come -/
def flow_Come (g : Sl) (h : Heap) (K : Value → Heap → Prop) : Prop :=
  ACalls Try.prog F_flow_walk [g.v] h fun v h_1 => as2 .sl .sl v fun r r_1 =>
  K r.v h_1
def flow_Come_a : Ann := (.seq .leaf (.seq .leaf (.seq .leaf .leaf)))
theorem flow_Come_eq (g : Sl) (h : Heap) (K : Value → Heap → Prop) : flow_Come g h K = fnW Try.prog ty flow_Come_a (bodyOf Try.f28) [.tmp 2] [g.v] h K := by kernel_rfl
theorem flow_Come_of {g : Sl} {h : Heap} {K : Value → Heap → Prop} (hw : flow_Come g h K) : ACalls Try.prog F_flow_Come [g.v] h K :=
  calls_sound ty_ok mixed flow_Come_a (c := bodyOf Try.f28) Try.func28 (by kernel_rfl) (by kernel_rfl) (by kernel_rfl) (Nat.le_of_ble_eq_true rfl) (by rw [flow_Come_eq] at hw; exact hw)

/-- lateen/lateenref09.Come -/
def lateenref09_Come (g : Sl) (h : Heap) (K : Value → Heap → Prop) : Prop :=
  (g.len : Int) = (g.len : Int) ∧ mk si_Lbool (g.len : Int) h fun s h_1 =>
  joinW (fun _ (marked : Sl) h_2 =>
    K marked.v h_2) fun k =>
  ifB (decide ((g.len : Int) > 0))
   (ACalls Try.prog F_lateenref09_down [g.v, .int .i64 0, s.v, (⟨none, 0, 0⟩ : Sl).v] h_1 fun v h_3 => as2 .sl .sl v fun r r_1 =>
   k r h_3)
   (k s h_1)
def lateenref09_Come_a : Ann := (.seq .leaf (.seq .leaf (.join [(3, .sl)] [] (.seq .leaf (.cond .leaf .leaf)) (.seq .leaf .leaf))))
theorem lateenref09_Come_eq (g : Sl) (h : Heap) (K : Value → Heap → Prop) : lateenref09_Come g h K = fnW Try.prog ty lateenref09_Come_a (bodyOf Try.f29) [.tmp 2] [g.v] h K := by kernel_rfl
theorem lateenref09_Come_of {g : Sl} {h : Heap} {K : Value → Heap → Prop} (hw : lateenref09_Come g h K) : ACalls Try.prog F_lateenref09_Come [g.v] h K :=
  calls_sound ty_ok mixed lateenref09_Come_a (c := bodyOf Try.f29) Try.func29 (by kernel_rfl) (by kernel_rfl) (by kernel_rfl) (Nat.le_of_ble_eq_true rfl) (by rw [lateenref09_Come_eq] at hw; exact hw)

/-- lateen/lateenref08.Few -/
def lateenref08_Few (f : Array Value) (h : Heap) (K : Value → Heap → Prop) : Prop :=
  new 39 f h fun p h_1 =>
  ld .sl h_1 (p.add 4) fun (x : Sl) =>
  ifB (decide ((x.len : Int) > 60))
   (K (.bool false) h_1)
   (loopW (fun _ (i : Int) h_2 next =>
    ld .sl h_2 (p.add 4) fun (x_1 : Sl) =>
    ifB (decide (i < (x_1.len : Int)))
     (joinW (fun _ (t : Bool) h_3 =>
      ifB t
       (K (.bool false) h_3)
       (loopW (fun _ (k_1 : Int) h_4 next_1 =>
      ld .sl h_4 (p.add 4) fun (x_2 : Sl) =>
      idx 9 x_2 i fun p_1 =>
      ld .sl h_4 (p_1.add 1) fun (x_3 : Sl) =>
      ifB (decide (k_1 < (x_3.len : Int)))
       (ld .sl h_4 (p.add 4) fun (x_4 : Sl) =>
      idx 9 x_4 i fun p_2 =>
      ld .sl h_4 (p_2.add 1) fun (x_5 : Sl) =>
      idx 2 x_5 k_1 fun p_3 =>
      ld .sl h_4 (p_3.add 1) fun (x_6 : Sl) =>
      ifB (decide ((x_6.len : Int) > 60))
       (K (.bool false) h_4)
       (ar .i64 (k_1 + 1) fun n =>
      next_1 n h_4))
       (ar .i64 (i + 1) fun n_1 =>
    next n_1 h_4)) 0 h_3)) fun k =>
    ld .sl h_2 (p.add 4) fun (x_7 : Sl) =>
    idx 9 x_7 i fun p_4 =>
    ld .sl h_2 ((p_4.add 3).add 4) fun (x_8 : Sl) =>
    ifB (decide ((x_8.len : Int) > 8))
     (k true h_2)
     (ld .sl h_2 (p.add 4) fun (x_9 : Sl) =>
      idx 9 x_9 i fun p_5 =>
        ld .sl h_2 (p_5.add 1) fun (x_10 : Sl) =>
          k (decide ((x_10.len : Int) > 40)) h_2))
     (K (.bool true) h_2)) 0 h_1)
def lateenref08_Few_a : Ann := (.seq .leaf (.seq (.seq .leaf (.cond (.seq .leaf .leaf) .leaf)) (.seq (.seq .leaf (.block (.loop [(3, .int .i64)] [1] (.seq (.seq .leaf (.cond .leaf .leaf)) (.seq (.block (.seq (.join [(34, .bool)] [1, 3] .leaf (.cond (.seq .leaf .leaf) .leaf)) (.seq .leaf (.block (.loop [(4, .int .i64)] [1, 3] (.seq (.seq .leaf (.cond .leaf .leaf)) (.seq (.block (.seq .leaf (.cond (.seq .leaf .leaf) .leaf))) .leaf))))))) .leaf))))) (.seq .leaf .leaf))))
theorem lateenref08_Few_eq (f : Array Value) (h : Heap) (K : Value → Heap → Prop) : lateenref08_Few f h K = fnW Try.prog ty lateenref08_Few_a (bodyOf Try.f30) [.tmp 2] [.agg f] h K := by kernel_rfl
theorem lateenref08_Few_of {f : Array Value} {h : Heap} {K : Value → Heap → Prop} (hw : lateenref08_Few f h K) : ACalls Try.prog F_lateenref08_Few [.agg f] h K :=
  calls_sound ty_ok mixed lateenref08_Few_a (c := bodyOf Try.f30) Try.func30 (by kernel_rfl) (by kernel_rfl) (by kernel_rfl) (Nat.le_of_ble_eq_true rfl) (by rw [lateenref08_Few_eq] at hw; exact hw)

/-- lateen/lateenref08.Right -/
def lateenref08_Right (f : Array Value) (h : Heap) (K : Value → Heap → Prop) : Prop :=
  new 39 f h fun p h_1 =>
  loopW (fun _ (i : Int) h_2 next =>
    ld .sl h_2 (p.add 4) fun (x : Sl) =>
    ifB (decide (i < (x.len : Int)))
     (ld (.agg 5) h_2 p fun (x_1 : Array Value) =>
    ld .sl h_2 (p.add 4) fun (x_2 : Sl) =>
    idx 9 x_2 i fun p_1 =>
    ld .str h_2 (p_1.add 0) fun (x_3 : ByteArray) =>
    ACalls Try.prog F_lateenref08_Place [.agg x_1, .string x_3] h_2 fun v h_3 => as2 (.int .i64) .bool v fun r r_1 =>
    hExt h_2 h_3 ∧ ifB (r != i)
     (K (.bool false) h_3)
     (ld .sl h_3 (p.add 4) fun (x_4 : Sl) =>
    idx 9 x_4 i fun p_2 =>
    ld .sl h_3 ((p_2.add 3).add 4) fun (x_5 : Sl) =>
    loopW (fun _ (k : Int) h_4 next_1 =>
      ifB (decide (k < (x_5.len : Int)))
       (ld (.agg 5) h_4 p fun (x_6 : Array Value) =>
      idx 1 x_5 k fun p_3 =>
      ld .str h_4 p_3 fun (x_7 : ByteArray) =>
      ACalls Try.prog F_lateenref08_Place [.agg x_6, .string x_7] h_4 fun v_1 h_5 => as2 (.int .i64) .bool v_1 fun r_2 r_3 =>
      joinW (fun _ (t : Bool) h_6 =>
        ifB t
         (K (.bool false) h_6)
         (loopW (fun _ (j : Int) h_7 next_2 =>
        ifB (decide (j < k))
         (idx 1 x_5 j fun p_4 =>
        ld .str h_7 p_4 fun (x_8 : ByteArray) =>
        idx 1 x_5 k fun p_5 =>
        ld .str h_7 p_5 fun (x_9 : ByteArray) =>
        ifB (x_8.toList == x_9.toList)
         (K (.bool false) h_7)
         (ar .i64 (j + 1) fun n =>
        next_2 n h_7))
         (ar .i64 (k + 1) fun n_1 =>
      next_1 n_1 h_7)) 0 h_6)) fun k_1 =>
      ifB (!r_3)
       (k_1 true h_5)
       (k_1 (r_2 == 0) h_5))
       (ar .i64 (i + 1) fun n_2 =>
    next n_2 h_4)) 0 h_3))
     (ld (.agg 5) h_2 p fun (x_10 : Array Value) =>
  ACalls Try.prog F_lateenref08_Come [.agg x_10] h_2 fun v_2 h_8 => as1 .sl v_2 fun r_4 =>
  loopW (fun _ (i_1 : Int) h_9 next_3 =>
    ifB (decide (i_1 < (r_4.len : Int)))
     (idx 1 r_4 i_1 fun p_6 =>
    ld .bool h_9 p_6 fun (x_11 : Bool) =>
    ifB (!x_11)
     (K (.bool false) h_9)
     (ar .i64 (i_1 + 1) fun n_3 =>
    next_3 n_3 h_9))
     (K (.bool (decide ((r_4.len : Int) > 0))) h_9)) 0 h_8)) 0 h_1
def lateenref08_Right_a : Ann := (.seq .leaf (.seq (.seq .leaf (.block (.loop [(3, .int .i64)] [1] (.seq (.seq .leaf (.cond .leaf .leaf)) (.seq (.block (.seq .based (.seq (.seq .leaf (.cond (.seq .leaf .leaf) .leaf)) (.seq .leaf (.seq .leaf (.block (.loop [(7, .int .i64)] [1, 3, 6] (.seq (.seq .leaf (.cond .leaf .leaf)) (.seq (.block (.seq .leaf (.seq (.join [(61, .bool)] [1, 3, 6, 7] .leaf (.cond (.seq .leaf .leaf) .leaf)) (.seq .leaf (.block (.loop [(10, .int .i64)] [1, 3, 6, 7] (.seq (.seq .leaf (.cond .leaf .leaf)) (.seq (.block (.seq .leaf (.cond (.seq .leaf .leaf) .leaf))) .leaf)))))))) .leaf))))))))) .leaf))))) (.seq .leaf (.seq (.seq .leaf (.block (.loop [(12, .int .i64)] [11] (.seq (.seq .leaf (.cond .leaf .leaf)) (.seq (.block (.seq .leaf (.cond (.seq .leaf .leaf) .leaf))) .leaf))))) (.seq .leaf .leaf)))))
theorem lateenref08_Right_eq (f : Array Value) (h : Heap) (K : Value → Heap → Prop) : lateenref08_Right f h K = fnW Try.prog ty lateenref08_Right_a (bodyOf Try.f31) [.tmp 2] [.agg f] h K := by kernel_rfl
theorem lateenref08_Right_of {f : Array Value} {h : Heap} {K : Value → Heap → Prop} (hw : lateenref08_Right f h K) : ACalls Try.prog F_lateenref08_Right [.agg f] h K :=
  calls_sound ty_ok mixed lateenref08_Right_a (c := bodyOf Try.f31) Try.func31 (by kernel_rfl) (by kernel_rfl) (by kernel_rfl) (Nat.le_of_ble_eq_true rfl) (by rw [lateenref08_Right_eq] at hw; exact hw)

/-- lateen/flow.Of -/
def flow_Of (f : Array Value) (h : Heap) (K : Value → Heap → Prop) : Prop :=
  new 39 f h fun p h_1 =>
  ld .sl h_1 (p.add 4) fun (x : Sl) =>
  (x.len : Int) = (x.len : Int) ∧ mk si_LLint (x.len : Int) h_1 fun s h_2 =>
  ld .sl h_2 (p.add 4) fun (x_1 : Sl) =>
  loopW (fun _ (t : Int) h_3 next =>
    ifB (decide (t < (x_1.len : Int)))
     (idx 9 x_1 t fun p_1 =>
    ld (.agg 9) h_3 p_1 fun (x_2 : Array Value) =>
    new 59 #[.string ⟨#[]⟩, .slice none 0 0, .slice none 0 0, .int .i64 0, .int .i64 0, .string ⟨#[]⟩, .int .i64 0, .slice none 0 0, .int .i64 0] h_3 fun p_2 h_4 =>
    x_2.size = 9 ∧ st x_2.toList h_4 p_2 fun h_5 =>
    ld .sl h_5 ((p_2.add 3).add 4) fun (x_3 : Sl) =>
    loopW (fun _ (t_1 : Int) h_6 next_1 =>
      ifB (decide (t_1 < (x_3.len : Int)))
       (joinW (fun _ (_ : Unit) h_7 =>
        ar .i64 (t_1 + 1) fun n =>
        next_1 n h_7) fun k =>
      idx 1 x_3 t_1 fun p_3 =>
      ld .str h_6 p_3 fun (x_4 : ByteArray) =>
      ld (.agg 5) h_6 p fun (x_5 : Array Value) =>
      ACalls Try.prog F_shape_Place [.agg x_5, .string x_4] h_6 fun v h_8 => as2 (.int .i64) .bool v fun r r_1 =>
      ifB r_1
       (idx 1 s t fun p_4 =>
       ld .sl h_8 p_4 fun (x_6 : Sl) =>
       bld si_Lint 1 [(0, .int .i64 r)] h_8 fun s_1 h_9 =>
       app si_Lint x_6 s_1 h_9 fun s_2 h_10 =>
       idx 1 s t fun p_5 =>
       st [s_2.v] h_10 p_5 fun h_11 =>
       k () h_11)
       (k () h_8))
       (ar .i64 (t + 1) fun n_1 =>
    next n_1 h_6)) 0 h_5)
     (K s.v h_3)) 0 h_2
def flow_Of_a : Ann := (.seq .leaf (.seq .leaf (.seq (.seq .leaf (.block (.loop [(17, .int .i64)] [1, 3, 15, 16] (.seq .leaf (.seq (.cond .leaf .leaf) (.seq (.block (.seq .leaf (.seq .leaf (.block (.loop [(26, .int .i64)] [1, 3, 4, 15, 16, 17, 24, 25] (.seq .leaf (.seq (.cond .leaf .leaf) (.join [] [1, 3, 4, 15, 16, 17, 24, 25, 26] (.block (.seq .leaf (.seq .leaf (.seq .leaf (.cond .leaf .leaf))))) .leaf)))))))) .leaf)))))) (.seq .leaf .leaf))))
theorem flow_Of_eq (f : Array Value) (h : Heap) (K : Value → Heap → Prop) : flow_Of f h K = fnW Try.prog ty flow_Of_a (bodyOf Try.f32) [.tmp 2] [.agg f] h K := by kernel_rfl
theorem flow_Of_of {f : Array Value} {h : Heap} {K : Value → Heap → Prop} (hw : flow_Of f h K) : ACalls Try.prog F_flow_Of [.agg f] h K :=
  calls_sound ty_ok mixed flow_Of_a (c := bodyOf Try.f32) Try.func32 (by kernel_rfl) (by kernel_rfl) (by kernel_rfl) (Nat.le_of_ble_eq_true rfl) (by rw [flow_Of_eq] at hw; exact hw)

/-- lateen/lateenref09.Of -/
def lateenref09_Of (f : Array Value) (h : Heap) (K : Value → Heap → Prop) : Prop :=
  new 39 f h fun p h_1 =>
  loopW (fun _ (q_out : Sl × Int) h_2 next =>
    ld .sl h_2 (p.add 4) fun (x : Sl) =>
    ifB (decide (q_out.2 < (x.len : Int)))
     (loopW (fun _ (q_l : Sl × Int) h_3 next_1 =>
      ld .sl h_3 (p.add 4) fun (x_1 : Sl) =>
      idx 9 x_1 q_out.2 fun p_1 =>
      ld .sl h_3 ((p_1.add 3).add 4) fun (x_2 : Sl) =>
      ifB (decide (q_l.2 < (x_2.len : Int)))
       (ld (.agg 5) h_3 p fun (x_3 : Array Value) =>
      ld .sl h_3 (p.add 4) fun (x_4 : Sl) =>
      idx 9 x_4 q_out.2 fun p_2 =>
      ld .sl h_3 ((p_2.add 3).add 4) fun (x_5 : Sl) =>
      idx 1 x_5 q_l.2 fun p_3 =>
      ld .str h_3 p_3 fun (x_6 : ByteArray) =>
      ACalls Try.prog F_lateenref08_Place [.agg x_3, .string x_6] h_3 fun v h_4 => as2 (.int .i64) .bool v fun r r_1 =>
      hExt h_3 h_4 ∧ bld si_Lint 1 [(0, .int .i64 r)] h_4 fun s h_5 =>
      app si_Lint q_l.1 s h_5 fun s_1 h_6 =>
      ar .i64 (q_l.2 + 1) fun n =>
      next_1 (s_1, n) h_6)
       (bld si_LLint 1 [(0, q_l.1.v)] h_3 fun s_2 h_7 =>
    app si_LLint q_out.1 s_2 h_7 fun s_3 h_8 =>
    ar .i64 (q_out.2 + 1) fun n_1 =>
    next (s_3, n_1) h_8)) ((⟨none, 0, 0⟩ : Sl), 0) h_2)
     (K q_out.1.v h_2)) ((⟨none, 0, 0⟩ : Sl), 0) h_1
def lateenref09_Of_a : Ann := (.seq .leaf (.seq .leaf (.seq (.seq .leaf (.block (.loop [(3, .sl), (4, .int .i64)] [1] (.seq (.seq .leaf (.cond .leaf .leaf)) (.seq (.block (.seq .leaf (.seq (.seq .leaf (.block (.loop [(5, .sl), (6, .int .i64)] [1, 3, 4] (.seq (.seq .leaf (.cond .leaf .leaf)) (.seq (.block (.seq .based .leaf)) .leaf))))) .leaf))) .leaf))))) (.seq .leaf .leaf))))
theorem lateenref09_Of_eq (f : Array Value) (h : Heap) (K : Value → Heap → Prop) : lateenref09_Of f h K = fnW Try.prog ty lateenref09_Of_a (bodyOf Try.f33) [.tmp 2] [.agg f] h K := by kernel_rfl
theorem lateenref09_Of_of {f : Array Value} {h : Heap} {K : Value → Heap → Prop} (hw : lateenref09_Of f h K) : ACalls Try.prog F_lateenref09_Of [.agg f] h K :=
  calls_sound ty_ok mixed lateenref09_Of_a (c := bodyOf Try.f33) Try.func33 (by kernel_rfl) (by kernel_rfl) (by kernel_rfl) (Nat.le_of_ble_eq_true rfl) (by rw [lateenref09_Of_eq] at hw; exact hw)

/-- lateen/lateenlaw20.awake -/
def lateenlaw20_awake  (h : Heap) (K : Value → Heap → Prop) : Prop :=
  bld si_Lint 1 [(0, .int .i64 1)] h fun s h_1 =>
  bld si_Lint 1 [(0, .int .i64 2)] h_1 fun s_1 h_2 =>
  bld si_Lint 1 [(0, .int .i64 1)] h_2 fun s_2 h_3 =>
  bld si_LLint 3 [(0, s.v), (1, s_1.v), (2, s_2.v)] h_3 fun s_3 h_4 =>
  joinW (fun _ (t : Bool) h_5 =>
    K (.bool t) h_5) fun k =>
  ACalls Try.prog F_calls_Parts [s_3.v] h_4 fun v h_6 => as1 .sl v fun r =>
  bld si_Lint 3 [(0, .int .i64 0), (1, .int .i64 1), (2, .int .i64 1)] h_6 fun s_4 h_7 =>
  ACalls Try.prog F_lateenref09_Same [r.v, s_4.v] h_7 fun v_1 h_8 => as1 .bool v_1 fun r_1 =>
  ifB r_1
   (ACalls Try.prog F_calls_Round [s_3.v] h_8 fun v_2 h_9 => as1 .sl v_2 fun r_2 =>
    bld si_Lbool 3 [(0, .bool false), (1, .bool true), (2, .bool true)] h_9 fun s_5 h_10 =>
     ACalls Try.prog F_lateenref09_SameBools [r_2.v, s_5.v] h_10 fun v_3 h_11 => as1 .bool v_3 fun r_3 =>
      ifB r_3
       (ACalls Try.prog F_calls_Order [s_3.v] h_11 fun v_4 h_12 => as1 .sl v_4 fun r_4 =>
        bld si_Lint 3 [(0, .int .i64 2), (1, .int .i64 1), (2, .int .i64 0)] h_12 fun s_6 h_13 =>
         ACalls Try.prog F_lateenref09_Same [r_4.v, s_6.v] h_13 fun v_5 h_14 => as1 .bool v_5 fun r_5 =>
          k r_5 h_14)
       (k false h_11))
   (k false h_8)
def lateenlaw20_awake_a : Ann := (.seq .leaf (.seq .leaf (.join [(0, .bool)] [] .leaf .leaf)))
theorem lateenlaw20_awake_eq  (h : Heap) (K : Value → Heap → Prop) : lateenlaw20_awake  h K = fnW Try.prog ty lateenlaw20_awake_a (bodyOf Try.f34) [.tmp 0] [] h K := by kernel_rfl
theorem lateenlaw20_awake_of  {h : Heap} {K : Value → Heap → Prop} (hw : lateenlaw20_awake  h K) : ACalls Try.prog F_lateenlaw20_awake [] h K :=
  calls_sound ty_ok mixed lateenlaw20_awake_a (c := bodyOf Try.f34) Try.func34 (by kernel_rfl) (by kernel_rfl) (by kernel_rfl) (Nat.le_of_ble_eq_true rfl) (by rw [lateenlaw20_awake_eq] at hw; exact hw)

/-- lateen/calls.Parts -/
def calls_Parts (g : Sl) (h : Heap) (K : Value → Heap → Prop) : Prop :=
  ACalls Try.prog F_calls_walk [g.v] h fun v h_1 => as1 .ptr v fun r =>
  nilck r fun p =>
  ld .sl h_1 (p.add 3) fun (x : Sl) =>
  K x.v h_1
def calls_Parts_a : Ann := (.seq .leaf (.seq .leaf .leaf))
theorem calls_Parts_eq (g : Sl) (h : Heap) (K : Value → Heap → Prop) : calls_Parts g h K = fnW Try.prog ty calls_Parts_a (bodyOf Try.f35) [.tmp 2] [g.v] h K := by kernel_rfl
theorem calls_Parts_of {g : Sl} {h : Heap} {K : Value → Heap → Prop} (hw : calls_Parts g h K) : ACalls Try.prog F_calls_Parts [g.v] h K :=
  calls_sound ty_ok mixed calls_Parts_a (c := bodyOf Try.f35) Try.func35 (by kernel_rfl) (by kernel_rfl) (by kernel_rfl) (Nat.le_of_ble_eq_true rfl) (by rw [calls_Parts_eq] at hw; exact hw)

/-- lateen/lateenref20.Parts -/
def lateenref20_Parts (g : Sl) (h : Heap) (K : Value → Heap → Prop) : Prop :=
  ACalls Try.prog F_lateenref20_Ways [g.v] h fun v h_1 => as1 .sl v fun r =>
  loopW (fun _ (q_out : Sl × Int) h_2 next =>
    ifB (decide (q_out.2 < (g.len : Int)))
     (ar .i64 (q_out.2 - 1) fun n =>
    loopW (fun _ (q_n_1 : Int × Int) h_3 next_1 =>
      ifB (decide (q_n_1.2 ≥ 0))
       (joinW (fun _ (n_2 : Int) h_4 =>
        ar .i64 (q_n_1.2 - 1) fun n_3 =>
        next_1 (n_2, n_3) h_4) fun k_1 =>
      joinW (fun _ (t : Bool) h_5 =>
        ifB t
         (k_1 q_n_1.2 h_5)
         (k_1 q_n_1.1 h_5)) fun k_2 =>
      idx 1 r q_out.2 fun p =>
      ld .sl h_3 p fun (x : Sl) =>
      idx 1 x q_n_1.2 fun p_1 =>
      ld .bool h_3 p_1 fun (x_1 : Bool) =>
      ifB x_1
       (idx 1 r q_n_1.2 fun p_2 =>
         ld .sl h_3 p_2 fun (x_2 : Sl) =>
          idx 1 x_2 q_out.2 fun p_3 =>
            ld .bool h_3 p_3 fun (x_3 : Bool) =>
             k_2 x_3 h_3)
       (k_2 false h_3))
       (bld si_Lint 1 [(0, .int .i64 q_n_1.1)] h_3 fun s h_6 =>
    app si_Lint q_out.1 s h_6 fun s_1 h_7 =>
    ar .i64 (q_out.2 + 1) fun n_4 =>
    next (s_1, n_4) h_7)) (q_out.2, n) h_2)
     (K q_out.1.v h_2)) ((⟨none, 0, 0⟩ : Sl), 0) h_1
def lateenref20_Parts_a : Ann := (.seq .leaf (.seq .leaf (.seq .leaf (.seq (.seq .leaf (.block (.loop [(4, .sl), (5, .int .i64)] [0, 3] (.seq (.seq .leaf (.cond .leaf .leaf)) (.seq (.block (.seq .leaf (.seq (.seq .leaf (.block (.loop [(6, .int .i64), (7, .int .i64)] [0, 3, 4, 5] (.seq (.seq .leaf (.cond .leaf .leaf)) (.join [(6, .int .i64)] [0, 3, 4, 5, 7] (.block (.join [(38, .bool)] [0, 3, 4, 5, 6, 7] .leaf (.cond .leaf .leaf))) .leaf))))) .leaf))) .leaf))))) (.seq .leaf .leaf)))))
theorem lateenref20_Parts_eq (g : Sl) (h : Heap) (K : Value → Heap → Prop) : lateenref20_Parts g h K = fnW Try.prog ty lateenref20_Parts_a (bodyOf Try.f36) [.tmp 2] [g.v] h K := by kernel_rfl
theorem lateenref20_Parts_of {g : Sl} {h : Heap} {K : Value → Heap → Prop} (hw : lateenref20_Parts g h K) : ACalls Try.prog F_lateenref20_Parts [g.v] h K :=
  calls_sound ty_ok mixed lateenref20_Parts_a (c := bodyOf Try.f36) Try.func36 (by kernel_rfl) (by kernel_rfl) (by kernel_rfl) (Nat.le_of_ble_eq_true rfl) (by rw [lateenref20_Parts_eq] at hw; exact hw)

/-- lateen/calls.Round -/
def calls_Round (g : Sl) (h : Heap) (K : Value → Heap → Prop) : Prop :=
  ACalls Try.prog F_calls_walk [g.v] h fun v h_1 => as1 .ptr v fun r =>
  nilck r fun p =>
  ld .sl h_1 (p.add 6) fun (x : Sl) =>
  K x.v h_1
def calls_Round_a : Ann := (.seq .leaf (.seq .leaf .leaf))
theorem calls_Round_eq (g : Sl) (h : Heap) (K : Value → Heap → Prop) : calls_Round g h K = fnW Try.prog ty calls_Round_a (bodyOf Try.f37) [.tmp 2] [g.v] h K := by kernel_rfl
theorem calls_Round_of {g : Sl} {h : Heap} {K : Value → Heap → Prop} (hw : calls_Round g h K) : ACalls Try.prog F_calls_Round [g.v] h K :=
  calls_sound ty_ok mixed calls_Round_a (c := bodyOf Try.f37) Try.func37 (by kernel_rfl) (by kernel_rfl) (by kernel_rfl) (Nat.le_of_ble_eq_true rfl) (by rw [calls_Round_eq] at hw; exact hw)

/-- lateen/lateenref20.Round -/
def lateenref20_Round (g : Sl) (h : Heap) (K : Value → Heap → Prop) : Prop :=
  ACalls Try.prog F_lateenref20_Ways [g.v] h fun v h_1 => as1 .sl v fun r =>
  loopW (fun _ (q_out : Sl × Int) h_2 next =>
    ifB (decide (q_out.2 < (g.len : Int)))
     (idx 1 r q_out.2 fun p =>
    ld .sl h_2 p fun (x : Sl) =>
    idx 1 x q_out.2 fun p_1 =>
    ld .bool h_2 p_1 fun (x_1 : Bool) =>
    bld si_Lbool 1 [(0, .bool x_1)] h_2 fun s h_3 =>
    app si_Lbool q_out.1 s h_3 fun s_1 h_4 =>
    ar .i64 (q_out.2 + 1) fun n =>
    next (s_1, n) h_4)
     (K q_out.1.v h_2)) ((⟨none, 0, 0⟩ : Sl), 0) h_1
def lateenref20_Round_a : Ann := (.seq .leaf (.seq .leaf (.seq .leaf (.seq (.seq .leaf (.block (.loop [(4, .sl), (5, .int .i64)] [0, 3] (.seq (.seq .leaf (.cond .leaf .leaf)) (.seq (.block .leaf) .leaf))))) (.seq .leaf .leaf)))))
theorem lateenref20_Round_eq (g : Sl) (h : Heap) (K : Value → Heap → Prop) : lateenref20_Round g h K = fnW Try.prog ty lateenref20_Round_a (bodyOf Try.f38) [.tmp 2] [g.v] h K := by kernel_rfl
theorem lateenref20_Round_of {g : Sl} {h : Heap} {K : Value → Heap → Prop} (hw : lateenref20_Round g h K) : ACalls Try.prog F_lateenref20_Round [g.v] h K :=
  calls_sound ty_ok mixed lateenref20_Round_a (c := bodyOf Try.f38) Try.func38 (by kernel_rfl) (by kernel_rfl) (by kernel_rfl) (Nat.le_of_ble_eq_true rfl) (by rw [lateenref20_Round_eq] at hw; exact hw)

/-- lateen/calls.Order -/
def calls_Order (g : Sl) (h : Heap) (K : Value → Heap → Prop) : Prop :=
  ACalls Try.prog F_calls_walk [g.v] h fun v h_1 => as1 .ptr v fun r =>
  nilck r fun p =>
  ld .sl h_1 (p.add 5) fun (x : Sl) =>
  K x.v h_1
def calls_Order_a : Ann := (.seq .leaf (.seq .leaf .leaf))
theorem calls_Order_eq (g : Sl) (h : Heap) (K : Value → Heap → Prop) : calls_Order g h K = fnW Try.prog ty calls_Order_a (bodyOf Try.f39) [.tmp 2] [g.v] h K := by kernel_rfl
theorem calls_Order_of {g : Sl} {h : Heap} {K : Value → Heap → Prop} (hw : calls_Order g h K) : ACalls Try.prog F_calls_Order [g.v] h K :=
  calls_sound ty_ok mixed calls_Order_a (c := bodyOf Try.f39) Try.func39 (by kernel_rfl) (by kernel_rfl) (by kernel_rfl) (Nat.le_of_ble_eq_true rfl) (by rw [calls_Order_eq] at hw; exact hw)

/-- lateen/lateenref20.Order -/
def lateenref20_Order (g : Sl) (h : Heap) (K : Value → Heap → Prop) : Prop :=
  (g.len : Int) = (g.len : Int) ∧ mk si_Lbool (g.len : Int) h fun s h_1 =>
  loopW (fun _ (q_marked : Sl × Sl × Int) h_2 next =>
    ifB (decide (q_marked.2.2 < (g.len : Int)))
     (joinW (fun _ (q_marked_1 : Sl × Sl) h_3 =>
      ar .i64 (q_marked.2.2 + 1) fun n =>
      next (q_marked_1.1, q_marked_1.2, n) h_3) fun k =>
    idx 1 q_marked.1 q_marked.2.2 fun p =>
    ld .bool h_2 p fun (x : Bool) =>
    ifB (!x)
     (ACalls Try.prog F_lateenref20_down [g.v, .int .i64 q_marked.2.2, q_marked.1.v, q_marked.2.1.v] h_2 fun v h_4 => as2 .sl .sl v fun r r_1 =>
     k (r, r_1) h_4)
     (k (q_marked.1, q_marked.2.1) h_2))
     (K q_marked.2.1.v h_2)) (s, (⟨none, 0, 0⟩ : Sl), 0) h_1
def lateenref20_Order_a : Ann := (.seq .leaf (.seq .leaf (.seq .leaf (.seq (.seq .leaf (.block (.loop [(3, .sl), (4, .sl), (5, .int .i64)] [0] (.seq (.seq .leaf (.cond .leaf .leaf)) (.join [(3, .sl), (4, .sl)] [0, 5] (.block (.seq .leaf (.cond .leaf .leaf))) .leaf))))) (.seq .leaf .leaf)))))
theorem lateenref20_Order_eq (g : Sl) (h : Heap) (K : Value → Heap → Prop) : lateenref20_Order g h K = fnW Try.prog ty lateenref20_Order_a (bodyOf Try.f40) [.tmp 2] [g.v] h K := by kernel_rfl
theorem lateenref20_Order_of {g : Sl} {h : Heap} {K : Value → Heap → Prop} (hw : lateenref20_Order g h K) : ACalls Try.prog F_lateenref20_Order [g.v] h K :=
  calls_sound ty_ok mixed lateenref20_Order_a (c := bodyOf Try.f40) Try.func40 (by kernel_rfl) (by kernel_rfl) (by kernel_rfl) (Nat.le_of_ble_eq_true rfl) (by rw [lateenref20_Order_eq] at hw; exact hw)

/-- lateen/lateenref20.Ways -/
def lateenref20_Ways (g : Sl) (h : Heap) (K : Value → Heap → Prop) : Prop :=
  loopW (fun _ (q_out : Sl × Int) h_1 next =>
    ifB (decide (q_out.2 < (g.len : Int)))
     ((g.len : Int) = (g.len : Int) ∧ mk si_Lbool (g.len : Int) h_1 fun s h_2 =>
    loopW (fun _ (k : Int) h_3 next_1 =>
      ifB (decide (k < (g.len : Int)))
       (ACalls Try.prog F_lateenref09_Leads [g.v, .int .i64 q_out.2, .int .i64 k] h_3 fun v h_4 => as1 .bool v fun r =>
      idx 1 s k fun p =>
      st [.bool r] h_4 p fun h_5 =>
      ar .i64 (k + 1) fun n =>
      next_1 n h_5)
       (bld si_LLbool 1 [(0, s.v)] h_3 fun s_1 h_6 =>
    app si_LLbool q_out.1 s_1 h_6 fun s_2 h_7 =>
    ar .i64 (q_out.2 + 1) fun n_1 =>
    next (s_2, n_1) h_7)) 0 h_2)
     (loopW (fun _ (m : Int) h_8 next_2 =>
    ifB (decide (m < (g.len : Int)))
     (loopW (fun _ (i_1 : Int) h_9 next_3 =>
      ifB (decide (i_1 < (g.len : Int)))
       (loopW (fun _ (k_1 : Int) h_10 next_4 =>
        ifB (decide (k_1 < (g.len : Int)))
         (joinW (fun _ (_ : Unit) h_11 =>
          ar .i64 (k_1 + 1) fun n_2 =>
          next_4 n_2 h_11) fun k_2 =>
        idx 1 q_out.1 i_1 fun p_1 =>
        ld .sl h_10 p_1 fun (x : Sl) =>
        idx 1 q_out.1 i_1 fun p_2 =>
        ld .sl h_10 p_2 fun (x_1 : Sl) =>
        idx 1 x_1 k_1 fun p_3 =>
        ld .bool h_10 p_3 fun (x_2 : Bool) =>
        ifB x_2
         (idx 1 x k_1 fun p_4 =>
                 st [.bool true] h_10 p_4 fun h_12 =>
                 k_2 () h_12)
         (idx 1 q_out.1 i_1 fun p_5 =>
           ld .sl h_10 p_5 fun (x_3 : Sl) =>
            idx 1 x_3 m fun p_6 =>
              ld .bool h_10 p_6 fun (x_4 : Bool) =>
               ifB x_4
                 (idx 1 q_out.1 m fun p_7 =>
                   ld .sl h_10 p_7 fun (x_5 : Sl) =>
                    idx 1 x_5 k_1 fun p_8 =>
                      ld .bool h_10 p_8 fun (x_6 : Bool) =>
                       idx 1 x k_1 fun p_9 =>
                        st [.bool x_6] h_10 p_9 fun h_13 =>
                        k_2 () h_13)
                 (idx 1 x k_1 fun p_10 =>
                        st [.bool false] h_10 p_10 fun h_14 =>
                        k_2 () h_14)))
         (ar .i64 (i_1 + 1) fun n_3 =>
      next_3 n_3 h_10)) 0 h_9)
       (ar .i64 (m + 1) fun n_4 =>
    next_2 n_4 h_9)) 0 h_8)
     (K q_out.1.v h_8)) 0 h_1)) ((⟨none, 0, 0⟩ : Sl), 0) h
def lateenref20_Ways_a : Ann := (.seq .leaf (.seq .leaf (.seq (.seq .leaf (.block (.loop [(3, .sl), (4, .int .i64)] [0] (.seq (.seq .leaf (.cond .leaf .leaf)) (.seq (.block (.seq .leaf (.seq (.seq .leaf (.block (.loop [(6, .int .i64)] [0, 3, 4, 5] (.seq (.seq .leaf (.cond .leaf .leaf)) (.seq (.block .leaf) .leaf))))) .leaf))) .leaf))))) (.seq (.seq .leaf (.block (.loop [(7, .int .i64)] [0, 3] (.seq (.seq .leaf (.cond .leaf .leaf)) (.seq (.block (.seq .leaf (.block (.loop [(8, .int .i64)] [0, 3, 7] (.seq (.seq .leaf (.cond .leaf .leaf)) (.seq (.block (.seq .leaf (.block (.loop [(9, .int .i64)] [0, 3, 7, 8] (.seq (.seq .leaf (.cond .leaf .leaf)) (.join [] [0, 3, 7, 8, 9] (.block .leaf) .leaf)))))) .leaf)))))) .leaf))))) (.seq .leaf .leaf)))))
theorem lateenref20_Ways_eq (g : Sl) (h : Heap) (K : Value → Heap → Prop) : lateenref20_Ways g h K = fnW Try.prog ty lateenref20_Ways_a (bodyOf Try.f41) [.tmp 2] [g.v] h K := by kernel_rfl
theorem lateenref20_Ways_of {g : Sl} {h : Heap} {K : Value → Heap → Prop} (hw : lateenref20_Ways g h K) : ACalls Try.prog F_lateenref20_Ways [g.v] h K :=
  calls_sound ty_ok mixed lateenref20_Ways_a (c := bodyOf Try.f41) Try.func41 (by kernel_rfl) (by kernel_rfl) (by kernel_rfl) (Nat.le_of_ble_eq_true rfl) (by rw [lateenref20_Ways_eq] at hw; exact hw)

/-- lateen/lateenlaw10.awake -/
def lateenlaw10_awake  (h : Heap) (K : Value → Heap → Prop) : Prop :=
  bld si_Lint 2 [(0, .int .i64 1), (1, .int .i64 2)] h fun s h_1 =>
  bld si_Lint 1 [(0, .int .i64 3)] h_1 fun s_1 h_2 =>
  bld si_Lint 1 [(0, .int .i64 3)] h_2 fun s_2 h_3 =>
  bld si_LLint 4 [(0, s.v), (1, s_1.v), (2, s_2.v), (3, (⟨none, 0, 0⟩ : Sl).v)] h_3 fun s_3 h_4 =>
  bld si_Lint 1 [(0, .int .i64 1)] h_4 fun s_4 h_5 =>
  bld si_Lint 1 [(0, .int .i64 1)] h_5 fun s_5 h_6 =>
  bld si_LLint 2 [(0, s_4.v), (1, s_5.v)] h_6 fun s_6 h_7 =>
  joinW (fun _ (t : Bool) h_8 =>
    K (.bool t) h_8) fun k =>
  ACalls Try.prog F_dom_Nearest [s_3.v] h_7 fun v h_9 => as1 .sl v fun r =>
  bld si_Lint 4 [(0, .int .i64 (-1)), (1, .int .i64 0), (2, .int .i64 0), (3, .int .i64 0)] h_9 fun s_7 h_10 =>
  ACalls Try.prog F_lateenref09_Same [r.v, s_7.v] h_10 fun v_1 h_11 => as1 .bool v_1 fun r_1 =>
  ifB r_1
   (ACalls Try.prog F_dom_Frontier [s_3.v] h_11 fun v_2 h_12 => as1 .sl v_2 fun r_2 =>
    bld si_Lint 1 [(0, .int .i64 3)] h_12 fun s_8 h_13 =>
     bld si_Lint 1 [(0, .int .i64 3)] h_13 fun s_9 h_14 =>
      bld si_LLint 4 [(0, (⟨none, 0, 0⟩ : Sl).v), (1, s_8.v), (2, s_9.v), (3, (⟨none, 0, 0⟩ : Sl).v)] h_14 fun s_10 h_15 =>
       ACalls Try.prog F_lateenref09_SameLists [r_2.v, s_10.v] h_15 fun v_3 h_16 => as1 .bool v_3 fun r_3 =>
        ifB r_3
         (ACalls Try.prog F_dom_Frontier [s_6.v] h_16 fun v_4 h_17 => as1 .sl v_4 fun r_4 =>
          bld si_Lint 1 [(0, .int .i64 1)] h_17 fun s_11 h_18 =>
           bld si_LLint 2 [(0, (⟨none, 0, 0⟩ : Sl).v), (1, s_11.v)] h_18 fun s_12 h_19 =>
            ACalls Try.prog F_lateenref09_SameLists [r_4.v, s_12.v] h_19 fun v_5 h_20 => as1 .bool v_5 fun r_5 =>
             ifB r_5
              (ACalls Try.prog F_dom_Nearest [s_3.v] h_20 fun v_6 h_21 => as1 .sl v_6 fun r_6 =>
               ACalls Try.prog F_dom_Dominates [r_6.v, .int .i64 0, .int .i64 3] h_21 fun v_7 h_22 => as1 .bool v_7 fun r_7 =>
                ifB r_7
                 (ACalls Try.prog F_dom_Nearest [s_3.v] h_22 fun v_8 h_23 => as1 .sl v_8 fun r_8 =>
                  ACalls Try.prog F_dom_Dominates [r_8.v, .int .i64 1, .int .i64 3] h_23 fun v_9 h_24 => as1 .bool v_9 fun r_9 =>
                   k (!r_9) h_24)
                 (k false h_22))
              (k false h_20))
         (k false h_16))
   (k false h_11)
def lateenlaw10_awake_a : Ann := (.seq .leaf (.seq .leaf (.seq .leaf (.join [(0, .bool)] [] .leaf .leaf))))
theorem lateenlaw10_awake_eq  (h : Heap) (K : Value → Heap → Prop) : lateenlaw10_awake  h K = fnW Try.prog ty lateenlaw10_awake_a (bodyOf Try.f42) [.tmp 0] [] h K := by kernel_rfl
theorem lateenlaw10_awake_of  {h : Heap} {K : Value → Heap → Prop} (hw : lateenlaw10_awake  h K) : ACalls Try.prog F_lateenlaw10_awake [] h K :=
  calls_sound ty_ok mixed lateenlaw10_awake_a (c := bodyOf Try.f42) Try.func42 (by kernel_rfl) (by kernel_rfl) (by kernel_rfl) (Nat.le_of_ble_eq_true rfl) (by rw [lateenlaw10_awake_eq] at hw; exact hw)

/-- lateen/lateenlaw10.few -/
def lateenlaw10_few (g : Sl) (h : Heap) (K : Value → Heap → Prop) : Prop :=
  ACalls Try.prog F_lateenref09_Few [g.v, .int .i64 24] h fun v h_1 => as1 .bool v fun r =>
  K (.bool r) h_1
def lateenlaw10_few_a : Ann := (.seq .leaf (.seq .leaf .leaf))
theorem lateenlaw10_few_eq (g : Sl) (h : Heap) (K : Value → Heap → Prop) : lateenlaw10_few g h K = fnW Try.prog ty lateenlaw10_few_a (bodyOf Try.f43) [.tmp 2] [g.v] h K := by kernel_rfl
theorem lateenlaw10_few_of {g : Sl} {h : Heap} {K : Value → Heap → Prop} (hw : lateenlaw10_few g h K) : ACalls Try.prog F_lateenlaw10_few [g.v] h K :=
  calls_sound ty_ok mixed lateenlaw10_few_a (c := bodyOf Try.f43) Try.func43 (by kernel_rfl) (by kernel_rfl) (by kernel_rfl) (Nat.le_of_ble_eq_true rfl) (by rw [lateenlaw10_few_eq] at hw; exact hw)

/-- lateen/dom.Frontier -/
def dom_Frontier (g : Sl) (h : Heap) (K : Value → Heap → Prop) : Prop :=
  ACalls Try.prog F_dom_Nearest [g.v] h fun v h_1 => as1 .sl v fun r =>
  ACalls Try.prog F_flow_Come [g.v] h_1 fun v_1 h_2 => as1 .sl v_1 fun r_1 =>
  (g.len : Int) = (g.len : Int) ∧ mk si_LLint (g.len : Int) h_2 fun s h_3 =>
  ACalls Try.prog F_flow_Preds [g.v] h_3 fun v_2 h_4 => as1 .sl v_2 fun r_2 =>
  loopW (fun _ (t : Int) h_5 next =>
    ifB (decide (t < (r_2.len : Int)))
     (joinW (fun _ (_ : Unit) h_6 =>
      ar .i64 (t + 1) fun n =>
      next n h_6) fun k =>
    idx 1 r_2 t fun p =>
    ld .sl h_5 p fun (x : Sl) =>
    idx 1 r_1 t fun p_1 =>
    ld .bool h_5 p_1 fun (x_1 : Bool) =>
    ifB (!x_1)
     (k () h_5)
     (loopW (fun _ (t_1 : Int) h_7 next_1 =>
      ifB (decide (t_1 < (x.len : Int)))
       (idx 1 x t_1 fun p_2 =>
      ld (.int .i64) h_7 p_2 fun (x_2 : Int) =>
      loopW (fun _ (up : Int) h_8 next_2 =>
        joinW (fun _ (t_2 : Bool) h_9 =>
          ifB t_2
           (joinW (fun _ (_ : Unit) h_10 =>
          idx 1 r up fun p_3 =>
          ld (.int .i64) h_10 p_3 fun (x_3 : Int) =>
          next_2 x_3 h_10) fun k_2 =>
        idx 1 s up fun p_4 =>
        ld .sl h_9 p_4 fun (x_4 : Sl) =>
        ACalls Try.prog F_slices_Contains [x_4.v, .int .i64 t] h_9 fun v_3 h_11 => as1 .bool v_3 fun r_3 =>
        ifB (!r_3)
         (idx 1 s up fun p_5 =>
         ld .sl h_11 p_5 fun (x_5 : Sl) =>
         bld si_Lint 1 [(0, .int .i64 t)] h_11 fun s_1 h_12 =>
         app si_Lint x_5 s_1 h_12 fun s_2 h_13 =>
         idx 1 s up fun p_6 =>
         st [s_2.v] h_13 p_6 fun h_14 =>
         k_2 () h_14)
         (k_2 () h_11))
           (ar .i64 (t_1 + 1) fun n_1 =>
      next_1 n_1 h_9)) fun k_1 =>
        idx 1 r_1 x_2 fun p_7 =>
        ld .bool h_8 p_7 fun (x_6 : Bool) =>
        ifB x_6
         (idx 1 r t fun p_8 =>
            ld (.int .i64) h_8 p_8 fun (x_7 : Int) =>
             ifB (up != x_7)
               (k_1 (decide (up ≥ 0)) h_8)
               (k_1 false h_8))
         (k_1 false h_8)) x_2 h_7)
       (k () h_7)) 0 h_5))
     (K s.v h_5)) 0 h_4
def dom_Frontier_a : Ann := (.seq .leaf (.seq .leaf (.seq .leaf (.seq .leaf (.seq (.seq .leaf (.block (.loop [(21, .int .i64)] [3, 4, 5, 19, 20] (.seq .leaf (.seq (.cond .leaf .leaf) (.join [] [3, 4, 5, 19, 20, 21] (.block (.seq .leaf (.seq (.seq .leaf (.cond .leaf .leaf)) (.seq .leaf (.block (.loop [(33, .int .i64)] [3, 4, 5, 6, 19, 20, 21, 31, 32] (.seq .leaf (.seq (.cond .leaf .leaf) (.seq (.block (.seq .leaf (.seq .leaf (.block (.loop [(10, .int .i64)] [3, 4, 5, 6, 9, 19, 20, 21, 31, 32, 33] (.seq (.join [(53, .bool)] [3, 4, 5, 6, 9, 10, 19, 20, 21, 31, 32, 33] .leaf (.cond .leaf .leaf)) (.join [] [3, 4, 5, 6, 9, 10, 19, 20, 21, 31, 32, 33] (.block (.seq .leaf (.cond .leaf .leaf))) .leaf))))))) .leaf))))))))) .leaf)))))) (.seq .leaf .leaf))))))
theorem dom_Frontier_eq (g : Sl) (h : Heap) (K : Value → Heap → Prop) : dom_Frontier g h K = fnW Try.prog ty dom_Frontier_a (bodyOf Try.f44) [.tmp 2] [g.v] h K := by kernel_rfl
theorem dom_Frontier_of {g : Sl} {h : Heap} {K : Value → Heap → Prop} (hw : dom_Frontier g h K) : ACalls Try.prog F_dom_Frontier [g.v] h K :=
  calls_sound ty_ok mixed dom_Frontier_a (c := bodyOf Try.f44) Try.func44 (by kernel_rfl) (by kernel_rfl) (by kernel_rfl) (Nat.le_of_ble_eq_true rfl) (by rw [dom_Frontier_eq] at hw; exact hw)

/-- lateen/lateenref10.Frontier -/
def lateenref10_Frontier (g : Sl) (h : Heap) (K : Value → Heap → Prop) : Prop :=
  ACalls Try.prog F_lateenref10_All [g.v] h fun v h_1 => as1 .sl v fun r =>
  ACalls Try.prog F_lateenref09_Come [g.v] h_1 fun v_1 h_2 => as1 .sl v_1 fun r_1 =>
  loopW (fun _ (q_out : Sl × Int) h_3 next =>
    ifB (decide (q_out.2 < (g.len : Int)))
     (loopW (fun _ (q_l : Sl × Int) h_4 next_1 =>
      ifB (decide (q_l.2 < (g.len : Int)))
       (joinW (fun _ (l_1 : Sl) h_5 =>
        ar .i64 (q_l.2 + 1) fun n =>
        next_1 (l_1, n) h_5) fun k_1 =>
      loopW (fun _ (q_led : Bool × Int) h_6 next_2 =>
        ifB (decide (q_led.2 < (g.len : Int)))
         (joinW (fun _ (led_1 : Bool) h_7 =>
          ar .i64 (q_led.2 + 1) fun n_1 =>
          next_2 (led_1, n_1) h_7) fun k_2 =>
        ifB q_led.1
         (k_2 true h_6)
         (idx 1 r q_out.2 fun p_1 =>
           ld .sl h_6 p_1 fun (x : Sl) =>
            idx 1 x q_led.2 fun p_2 =>
              ld .bool h_6 p_2 fun (x_1 : Bool) =>
               ifB x_1
                 (ACalls Try.prog F_lateenref09_Leads [g.v, .int .i64 q_led.2, .int .i64 q_l.2] h_6 fun v_2 h_8 => as1 .bool v_2 fun r_2 =>
                    k_2 r_2 h_8)
                 (k_2 false h_6)))
         (joinW (fun _ (t : Bool) h_9 =>
        ifB t
         (bld si_Lint 1 [(0, .int .i64 q_l.2)] h_9 fun s h_10 =>
         app si_Lint q_l.1 s h_10 fun s_1 h_11 =>
         k_1 s_1 h_11)
         (k_1 q_l.1 h_9)) fun k_3 =>
      idx 1 r_1 q_l.2 fun p_3 =>
      ld .bool h_6 p_3 fun (x_2 : Bool) =>
      ifB x_2
       (ifB q_led.1
        (ifB (q_out.2 == q_l.2)
            (k_3 true h_6)
            (idx 1 r q_out.2 fun p_4 =>
              ld .sl h_6 p_4 fun (x_3 : Sl) =>
               idx 1 x_3 q_l.2 fun p_5 =>
                 ld .bool h_6 p_5 fun (x_4 : Bool) =>
                  k_3 (!x_4) h_6))
        (k_3 false h_6))
       (k_3 false h_6))) (false, 0) h_4)
       (bld si_LLint 1 [(0, q_l.1.v)] h_4 fun s_2 h_12 =>
    app si_LLint q_out.1 s_2 h_12 fun s_3 h_13 =>
    ar .i64 (q_out.2 + 1) fun n_2 =>
    next (s_3, n_2) h_13)) ((⟨none, 0, 0⟩ : Sl), 0) h_3)
     (K q_out.1.v h_3)) ((⟨none, 0, 0⟩ : Sl), 0) h_2
def lateenref10_Frontier_a : Ann := (.seq .leaf (.seq .leaf (.seq .leaf (.seq .leaf (.seq (.seq .leaf (.block (.loop [(5, .sl), (6, .int .i64)] [0, 3, 4] (.seq (.seq .leaf (.cond .leaf .leaf)) (.seq (.block (.seq .leaf (.seq (.seq .leaf (.block (.loop [(7, .sl), (8, .int .i64)] [0, 3, 4, 5, 6] (.seq (.seq .leaf (.cond .leaf .leaf)) (.join [(7, .sl)] [0, 3, 4, 5, 6, 8] (.block (.seq .leaf (.seq (.seq .leaf (.block (.loop [(9, .bool), (10, .int .i64)] [0, 3, 4, 5, 6, 7, 8] (.seq (.seq .leaf (.cond .leaf .leaf)) (.join [(9, .bool)] [0, 3, 4, 5, 6, 7, 8, 10] (.block .leaf) .leaf))))) (.join [(70, .bool)] [0, 3, 4, 5, 6, 7, 8] .leaf (.cond .leaf .leaf))))) .leaf))))) .leaf))) .leaf))))) (.seq .leaf .leaf))))))
theorem lateenref10_Frontier_eq (g : Sl) (h : Heap) (K : Value → Heap → Prop) : lateenref10_Frontier g h K = fnW Try.prog ty lateenref10_Frontier_a (bodyOf Try.f45) [.tmp 2] [g.v] h K := by kernel_rfl
theorem lateenref10_Frontier_of {g : Sl} {h : Heap} {K : Value → Heap → Prop} (hw : lateenref10_Frontier g h K) : ACalls Try.prog F_lateenref10_Frontier [g.v] h K :=
  calls_sound ty_ok mixed lateenref10_Frontier_a (c := bodyOf Try.f45) Try.func45 (by kernel_rfl) (by kernel_rfl) (by kernel_rfl) (Nat.le_of_ble_eq_true rfl) (by rw [lateenref10_Frontier_eq] at hw; exact hw)

/-- lateen/dom.Dominates -/
def dom_Dominates (near : Sl) (a : Int) (b : Int) (h : Heap) (K : Value → Heap → Prop) : Prop :=
  joinW (fun _ (t : Bool) h_1 =>
    ifB t
     (K (.bool false) h_1)
     (loopW (fun _ (q_b_1 : Int × Int) h_2 next =>
    joinW (fun _ (t_1 : Bool) h_3 =>
      ifB t_1
       (ifB (a == q_b_1.1)
     (K (.bool true) h_3)
     (idx 1 near q_b_1.1 fun p =>
    ld (.int .i64) h_3 p fun (x : Int) =>
    ar .i64 (q_b_1.2 + 1) fun n_1 =>
    next (x, n_1) h_3))
       (K (.bool false) h_3)) fun k_1 =>
    ifB (decide (q_b_1.2 ≤ (near.len : Int)))
     (ifB (decide (q_b_1.1 ≥ 0))
       (k_1 (decide (q_b_1.1 < (near.len : Int))) h_2)
       (k_1 false h_2))
     (k_1 false h_2)) (b, 0) h_1)) fun k =>
  ifB (decide (a < 0))
   (k true h)
   (ifB (decide (a ≥ (near.len : Int)))
       (k true h)
       (ifB (decide (b < 0))
         (k true h)
         (k (decide (b ≥ (near.len : Int))) h)))
def dom_Dominates_a : Ann := (.seq .leaf (.seq (.join [(25, .bool)] [0, 1, 2] .leaf (.cond (.seq .leaf .leaf) .leaf)) (.seq (.seq .leaf (.block (.loop [(2, .int .i64), (7, .int .i64)] [0, 1] (.seq (.join [(39, .bool)] [0, 1, 2, 7] .leaf (.cond .leaf .leaf)) (.seq (.block (.seq (.seq .leaf (.cond (.seq .leaf .leaf) .leaf)) .leaf)) .leaf))))) (.seq .leaf .leaf))))
theorem dom_Dominates_eq (near : Sl) (a : Int) (b : Int) (h : Heap) (K : Value → Heap → Prop) : dom_Dominates near a b h K = fnW Try.prog ty dom_Dominates_a (bodyOf Try.f46) [.tmp 6] [near.v, .int .i64 a, .int .i64 b] h K := by kernel_rfl
theorem dom_Dominates_of {near : Sl} {a : Int} {b : Int} {h : Heap} {K : Value → Heap → Prop} (hw : dom_Dominates near a b h K) : ACalls Try.prog F_dom_Dominates [near.v, .int .i64 a, .int .i64 b] h K :=
  calls_sound ty_ok mixed dom_Dominates_a (c := bodyOf Try.f46) Try.func46 (by kernel_rfl) (by kernel_rfl) (by kernel_rfl) (Nat.le_of_ble_eq_true rfl) (by rw [dom_Dominates_eq] at hw; exact hw)

/-- lateen/dom.Nearest -/
def dom_Nearest (g : Sl) (h : Heap) (K : Value → Heap → Prop) : Prop :=
  ACalls Try.prog F_flow_Order [g.v] h fun v h_1 => as1 .sl v fun r =>
  ACalls Try.prog F_dom_ranks [.int .i64 (g.len : Int), r.v] h_1 fun v_1 h_2 => as1 .sl v_1 fun r_1 =>
  ACalls Try.prog F_flow_Preds [g.v] h_2 fun v_2 h_3 => as1 .sl v_2 fun r_2 =>
  (g.len : Int) = (g.len : Int) ∧ mk si_Lint (g.len : Int) h_3 fun s h_4 =>
  loopW (fun _ (t : Int) h_5 next =>
    ifB (decide (t < (s.len : Int)))
     (idx 1 s t fun p =>
    st [.int .i64 (-1)] h_5 p fun h_6 =>
    ar .i64 (t + 1) fun n =>
    next n h_6)
     (ifB ((r.len : Int) == 0)
   (K s.v h_5)
   (idx 1 s 0 fun p_1 =>
  st [.int .i64 0] h_5 p_1 fun h_7 =>
  loopW (fun _ (changed : Bool) h_8 next_1 =>
    ifB changed
     (slc 1 r (some 1) none fun s_1 =>
    loopW (fun _ (q_changed_1 : Bool × Int) h_9 next_2 =>
      ifB (decide (q_changed_1.2 < (s_1.len : Int)))
       (joinW (fun _ (changed_2 : Bool) h_10 =>
        ar .i64 (q_changed_1.2 + 1) fun n_1 =>
        next_2 (changed_2, n_1) h_10) fun k =>
      idx 1 s_1 q_changed_1.2 fun p_2 =>
      ld (.int .i64) h_9 p_2 fun (x : Int) =>
      idx 1 r_2 x fun p_3 =>
      ld .sl h_9 p_3 fun (x_1 : Sl) =>
      loopW (fun _ (q_best : Int × Int) h_11 next_3 =>
        ifB (decide (q_best.2 < (x_1.len : Int)))
         (joinW (fun _ (best_1 : Int) h_12 =>
          ar .i64 (q_best.2 + 1) fun n_2 =>
          next_3 (best_1, n_2) h_12) fun k_1 =>
        idx 1 x_1 q_best.2 fun p_4 =>
        ld (.int .i64) h_11 p_4 fun (x_2 : Int) =>
        joinW (fun _ (t_3 : Bool) h_13 =>
          ifB t_3
           (k_1 q_best.1 h_13)
           (ifB (decide (q_best.1 < 0))
            (k_1 x_2 h_13)
            (ACalls Try.prog F_dom_meet [s.v, r_1.v, .int .i64 x_2, .int .i64 q_best.1] h_13 fun v_3 h_14 => as1 (.int .i64) v_3 fun r_3 =>
            k_1 r_3 h_14))) fun k_2 =>
        idx 1 r_1 x_2 fun p_5 =>
        ld (.int .i64) h_11 p_5 fun (x_3 : Int) =>
        ifB (decide (x_3 < 0))
         (k_2 true h_11)
         (idx 1 s x_2 fun p_6 =>
           ld (.int .i64) h_11 p_6 fun (x_4 : Int) =>
            k_2 (decide (x_4 < 0)) h_11))
         (idx 1 s x fun p_7 =>
      ld (.int .i64) h_11 p_7 fun (x_5 : Int) =>
      ifB (q_best.1 != x_5)
       (idx 1 s x fun p_8 =>
       st [.int .i64 q_best.1] h_11 p_8 fun h_15 =>
       k true h_15)
       (k q_changed_1.1 h_11))) ((-1), 0) h_9)
       (next_1 q_changed_1.1 h_9)) (false, 0) h_8)
     (idx 1 s 0 fun p_9 =>
  st [.int .i64 (-1)] h_8 p_9 fun h_16 =>
  K s.v h_16)) true h_7))) 0 h_4
def dom_Nearest_a : Ann := (.seq .leaf (.seq .leaf (.seq .leaf (.seq .leaf (.seq .leaf (.seq (.seq .leaf (.block (.loop [(27, .int .i64)] [3, 4, 5, 6, 26] (.seq .leaf (.seq (.cond .leaf .leaf) (.seq (.block (.seq .leaf .leaf)) .leaf)))))) (.seq (.seq .leaf (.cond (.seq .leaf .leaf) .leaf)) (.seq .leaf (.seq (.seq .leaf (.block (.loop [(8, .bool)] [3, 4, 5, 6] (.seq (.seq .leaf (.cond .leaf .leaf)) (.block (.seq .leaf (.seq .leaf (.block (.loop [(8, .bool), (44, .int .i64)] [3, 4, 5, 6, 42, 43] (.seq .leaf (.seq (.cond .leaf .leaf) (.join [(8, .bool)] [3, 4, 5, 6, 42, 43, 44] (.block (.seq .leaf (.seq .leaf (.seq (.seq .leaf (.block (.loop [(11, .int .i64), (53, .int .i64)] [3, 4, 5, 6, 8, 10, 42, 43, 44, 51, 52] (.seq .leaf (.seq (.cond .leaf .leaf) (.join [(11, .int .i64)] [3, 4, 5, 6, 8, 10, 42, 43, 44, 51, 52, 53] (.block (.seq .leaf (.block (.join [(62, .bool)] [3, 4, 5, 6, 8, 10, 11, 13, 42, 43, 44, 51, 52, 53] .leaf (.cond .leaf (.seq .leaf (.cond .leaf .leaf))))))) .leaf)))))) (.seq .leaf (.cond (.seq .leaf .leaf) .leaf)))))) .leaf)))))))))))) (.seq .leaf (.seq .leaf .leaf)))))))))))
theorem dom_Nearest_eq (g : Sl) (h : Heap) (K : Value → Heap → Prop) : dom_Nearest g h K = fnW Try.prog ty dom_Nearest_a (bodyOf Try.f47) [.tmp 2] [g.v] h K := by kernel_rfl
theorem dom_Nearest_of {g : Sl} {h : Heap} {K : Value → Heap → Prop} (hw : dom_Nearest g h K) : ACalls Try.prog F_dom_Nearest [g.v] h K :=
  calls_sound ty_ok mixed dom_Nearest_a (c := bodyOf Try.f47) Try.func47 (by kernel_rfl) (by kernel_rfl) (by kernel_rfl) (Nat.le_of_ble_eq_true rfl) (by rw [dom_Nearest_eq] at hw; exact hw)

/-- lateen/lateenref10.Nearest -/
def lateenref10_Nearest (g : Sl) (h : Heap) (K : Value → Heap → Prop) : Prop :=
  ACalls Try.prog F_lateenref10_All [g.v] h fun v h_1 => as1 .sl v fun r =>
  loopW (fun _ (q_out : Sl × Int) h_2 next =>
    ifB (decide (q_out.2 < (g.len : Int)))
     (loopW (fun _ (q_best : Int × Int) h_3 next_1 =>
      ifB (decide (q_best.2 < (g.len : Int)))
       (joinW (fun _ (best_1 : Int) h_4 =>
        ar .i64 (q_best.2 + 1) fun n =>
        next_1 (best_1, n) h_4) fun k_1 =>
      joinW (fun _ (t : Bool) h_5 =>
        ifB t
         (k_1 q_best.2 h_5)
         (k_1 q_best.1 h_5)) fun k_2 =>
      ifB (q_best.2 != q_out.2)
       (idx 1 r q_best.2 fun p =>
         ld .sl h_3 p fun (x : Sl) =>
          idx 1 x q_out.2 fun p_1 =>
            ld .bool h_3 p_1 fun (x_1 : Bool) =>
             ifB x_1
              (ifB (decide (q_best.1 < 0))
                 (k_2 true h_3)
                 (idx 1 r q_best.1 fun p_2 =>
                   ld .sl h_3 p_2 fun (x_2 : Sl) =>
                    idx 1 x_2 q_best.2 fun p_3 =>
                      ld .bool h_3 p_3 fun (x_3 : Bool) =>
                       k_2 x_3 h_3))
              (k_2 false h_3))
       (k_2 false h_3))
       (bld si_Lint 1 [(0, .int .i64 q_best.1)] h_3 fun s h_6 =>
    app si_Lint q_out.1 s h_6 fun s_1 h_7 =>
    ar .i64 (q_out.2 + 1) fun n_1 =>
    next (s_1, n_1) h_7)) ((-1), 0) h_2)
     (K q_out.1.v h_2)) ((⟨none, 0, 0⟩ : Sl), 0) h_1
def lateenref10_Nearest_a : Ann := (.seq .leaf (.seq .leaf (.seq .leaf (.seq (.seq .leaf (.block (.loop [(4, .sl), (5, .int .i64)] [0, 3] (.seq (.seq .leaf (.cond .leaf .leaf)) (.seq (.block (.seq .leaf (.seq (.seq .leaf (.block (.loop [(6, .int .i64), (7, .int .i64)] [0, 3, 4, 5] (.seq (.seq .leaf (.cond .leaf .leaf)) (.join [(6, .int .i64)] [0, 3, 4, 5, 7] (.block (.join [(46, .bool)] [0, 3, 4, 5, 6, 7] .leaf (.cond .leaf .leaf))) .leaf))))) .leaf))) .leaf))))) (.seq .leaf .leaf)))))
theorem lateenref10_Nearest_eq (g : Sl) (h : Heap) (K : Value → Heap → Prop) : lateenref10_Nearest g h K = fnW Try.prog ty lateenref10_Nearest_a (bodyOf Try.f48) [.tmp 2] [g.v] h K := by kernel_rfl
theorem lateenref10_Nearest_of {g : Sl} {h : Heap} {K : Value → Heap → Prop} (hw : lateenref10_Nearest g h K) : ACalls Try.prog F_lateenref10_Nearest [g.v] h K :=
  calls_sound ty_ok mixed lateenref10_Nearest_a (c := bodyOf Try.f48) Try.func48 (by kernel_rfl) (by kernel_rfl) (by kernel_rfl) (Nat.le_of_ble_eq_true rfl) (by rw [lateenref10_Nearest_eq] at hw; exact hw)

/-- lateen/dom.Kids -/
def dom_Kids (near : Sl) (h : Heap) (K : Value → Heap → Prop) : Prop :=
  (near.len : Int) = (near.len : Int) ∧ mk si_LLint (near.len : Int) h fun s h_1 =>
  loopW (fun _ (t : Int) h_2 next =>
    ifB (decide (t < (near.len : Int)))
     (joinW (fun _ (_ : Unit) h_3 =>
      ar .i64 (t + 1) fun n =>
      next n h_3) fun k =>
    idx 1 near t fun p =>
    ld (.int .i64) h_2 p fun (x : Int) =>
    joinW (fun _ (t_1 : Bool) h_4 =>
      ifB t_1
       (idx 1 s x fun p_1 =>
       ld .sl h_4 p_1 fun (x_1 : Sl) =>
       bld si_Lint 1 [(0, .int .i64 t)] h_4 fun s_1 h_5 =>
       app si_Lint x_1 s_1 h_5 fun s_2 h_6 =>
       idx 1 s x fun p_2 =>
       st [s_2.v] h_6 p_2 fun h_7 =>
       k () h_7)
       (k () h_4)) fun k_1 =>
    ifB (decide (x ≥ 0))
     (k_1 (decide (x < (near.len : Int))) h_2)
     (k_1 false h_2))
     (K s.v h_2)) 0 h_1
def dom_Kids_a : Ann := (.seq .leaf (.seq .leaf (.seq (.seq .leaf (.block (.loop [(11, .int .i64)] [0, 3, 9, 10] (.seq .leaf (.seq (.cond .leaf .leaf) (.join [] [0, 3, 9, 10, 11] (.block (.seq .leaf (.join [(23, .bool)] [0, 3, 4, 5, 9, 10, 11] .leaf (.cond .leaf .leaf)))) .leaf)))))) (.seq .leaf .leaf))))
theorem dom_Kids_eq (near : Sl) (h : Heap) (K : Value → Heap → Prop) : dom_Kids near h K = fnW Try.prog ty dom_Kids_a (bodyOf Try.f49) [.tmp 2] [near.v] h K := by kernel_rfl
theorem dom_Kids_of {near : Sl} {h : Heap} {K : Value → Heap → Prop} (hw : dom_Kids near h K) : ACalls Try.prog F_dom_Kids [near.v] h K :=
  calls_sound ty_ok mixed dom_Kids_a (c := bodyOf Try.f49) Try.func49 (by kernel_rfl) (by kernel_rfl) (by kernel_rfl) (Nat.le_of_ble_eq_true rfl) (by rw [dom_Kids_eq] at hw; exact hw)

/-- lateen/lateenref10.Kids -/
def lateenref10_Kids (near : Sl) (h : Heap) (K : Value → Heap → Prop) : Prop :=
  loopW (fun _ (q_out : Sl × Int) h_1 next =>
    ifB (decide (q_out.2 < (near.len : Int)))
     (loopW (fun _ (q_l : Sl × Int) h_2 next_1 =>
      ifB (decide (q_l.2 < (near.len : Int)))
       (joinW (fun _ (l_1 : Sl) h_3 =>
        ar .i64 (q_l.2 + 1) fun n =>
        next_1 (l_1, n) h_3) fun k_1 =>
      idx 1 near q_l.2 fun p =>
      ld (.int .i64) h_2 p fun (x : Int) =>
      ifB (x == q_out.2)
       (bld si_Lint 1 [(0, .int .i64 q_l.2)] h_2 fun s h_4 =>
       app si_Lint q_l.1 s h_4 fun s_1 h_5 =>
       k_1 s_1 h_5)
       (k_1 q_l.1 h_2))
       (bld si_LLint 1 [(0, q_l.1.v)] h_2 fun s_2 h_6 =>
    app si_LLint q_out.1 s_2 h_6 fun s_3 h_7 =>
    ar .i64 (q_out.2 + 1) fun n_1 =>
    next (s_3, n_1) h_7)) ((⟨none, 0, 0⟩ : Sl), 0) h_1)
     (K q_out.1.v h_1)) ((⟨none, 0, 0⟩ : Sl), 0) h
def lateenref10_Kids_a : Ann := (.seq .leaf (.seq .leaf (.seq (.seq .leaf (.block (.loop [(3, .sl), (4, .int .i64)] [0] (.seq (.seq .leaf (.cond .leaf .leaf)) (.seq (.block (.seq .leaf (.seq (.seq .leaf (.block (.loop [(5, .sl), (6, .int .i64)] [0, 3, 4] (.seq (.seq .leaf (.cond .leaf .leaf)) (.join [(5, .sl)] [0, 3, 4, 6] (.block (.seq .leaf (.cond .leaf .leaf))) .leaf))))) .leaf))) .leaf))))) (.seq .leaf .leaf))))
theorem lateenref10_Kids_eq (near : Sl) (h : Heap) (K : Value → Heap → Prop) : lateenref10_Kids near h K = fnW Try.prog ty lateenref10_Kids_a (bodyOf Try.f50) [.tmp 2] [near.v] h K := by kernel_rfl
theorem lateenref10_Kids_of {near : Sl} {h : Heap} {K : Value → Heap → Prop} (hw : lateenref10_Kids near h K) : ACalls Try.prog F_lateenref10_Kids [near.v] h K :=
  calls_sound ty_ok mixed lateenref10_Kids_a (c := bodyOf Try.f50) Try.func50 (by kernel_rfl) (by kernel_rfl) (by kernel_rfl) (Nat.le_of_ble_eq_true rfl) (by rw [lateenref10_Kids_eq] at hw; exact hw)

/-- slices.Contains[[]int,int] -/
def slices_Contains (s : Sl) (v : Int) (h : Heap) (K : Value → Heap → Prop) : Prop :=
  ACalls Try.prog F_slices_Index [s.v, .int .i64 v] h fun v_1 h_1 => as1 (.int .i64) v_1 fun r =>
  K (.bool (decide (r ≥ 0))) h_1
def slices_Contains_a : Ann := (.seq .leaf (.seq .leaf .leaf))
theorem slices_Contains_eq (s : Sl) (v : Int) (h : Heap) (K : Value → Heap → Prop) : slices_Contains s v h K = fnW Try.prog ty slices_Contains_a (bodyOf Try.f51) [.tmp 4] [s.v, .int .i64 v] h K := by kernel_rfl
theorem slices_Contains_of {s : Sl} {v : Int} {h : Heap} {K : Value → Heap → Prop} (hw : slices_Contains s v h K) : ACalls Try.prog F_slices_Contains [s.v, .int .i64 v] h K :=
  calls_sound ty_ok mixed slices_Contains_a (c := bodyOf Try.f51) Try.func51 (by kernel_rfl) (by kernel_rfl) (by kernel_rfl) (Nat.le_of_ble_eq_true rfl) (by rw [slices_Contains_eq] at hw; exact hw)

/-- lateen/flow.walk -/
def flow_walk (g : Sl) (h : Heap) (K : Value → Heap → Prop) : Prop :=
  (g.len : Int) = (g.len : Int) ∧ mk si_Lbool (g.len : Int) h fun s h_1 =>
  ifB ((g.len : Int) == 0)
   (K (.tuple #[s.v, (⟨none, 0, 0⟩ : Sl).v]) h_1)
   (idx 1 s 0 fun p =>
  st [.bool true] h_1 p fun h_2 =>
  bst [(0, 1), (1, 1)] #[.int .i64 0, .int .i64 0] [] fun c =>
  bld si_Lflow_step 1 [(0, .agg c)] h_2 fun s_1 h_3 =>
  loopW (fun _ (q_left : Sl × Sl) h_4 next =>
    ifB (decide ((q_left.2.len : Int) > 0))
     (ar .i64 ((q_left.2.len : Int) - 1) fun n =>
    idx 2 q_left.2 n fun p_1 =>
    ld (.int .i64) h_4 (p_1.add 1) fun (x : Int) =>
    ld (.int .i64) h_4 (p_1.add 0) fun (x_1 : Int) =>
    idx 1 g x_1 fun p_2 =>
    ld .sl h_4 p_2 fun (x_2 : Sl) =>
    ifB (x == (x_2.len : Int))
     (ld (.int .i64) h_4 (p_1.add 0) fun (x_3 : Int) =>
     bld si_Lint 1 [(0, .int .i64 x_3)] h_4 fun s_2 h_5 =>
     app si_Lint q_left.1 s_2 h_5 fun s_3 h_6 =>
     ar .i64 ((q_left.2.len : Int) - 1) fun n_1 =>
     slc 2 q_left.2 none (some n_1) fun s_4 =>
     next (s_3, s_4) h_6)
     (ld (.int .i64) h_4 (p_1.add 0) fun (x_4 : Int) =>
    idx 1 g x_4 fun p_3 =>
    ld .sl h_4 p_3 fun (x_5 : Sl) =>
    ld (.int .i64) h_4 (p_1.add 1) fun (x_6 : Int) =>
    idx 1 x_5 x_6 fun p_4 =>
    ld (.int .i64) h_4 p_4 fun (x_7 : Int) =>
    ld (.int .i64) h_4 (p_1.add 1) fun (x_8 : Int) =>
    ar .i64 (x_8 + 1) fun n_2 =>
    st [.int .i64 n_2] h_4 (p_1.add 1) fun h_7 =>
    joinW (fun _ (t : Bool) h_8 =>
      ifB t
       (idx 1 s x_7 fun p_5 =>
       st [.bool true] h_8 p_5 fun h_9 =>
       bst [(0, 1), (1, 1)] #[.int .i64 0, .int .i64 0] [(0, .int .i64 x_7)] fun c_1 =>
       bld si_Lflow_step 1 [(0, .agg c_1)] h_9 fun s_5 h_10 =>
       app si_Lflow_step q_left.2 s_5 h_10 fun s_6 h_11 =>
       next (q_left.1, s_6) h_11)
       (next (q_left.1, q_left.2) h_8)) fun k =>
    ifB (decide (x_7 ≥ 0))
     (ifB (decide (x_7 < (g.len : Int)))
         (idx 1 s x_7 fun p_6 =>
           ld .bool h_7 p_6 fun (x_9 : Bool) =>
            k (!x_9) h_7)
         (k false h_7))
     (k false h_7)))
     (K (.tuple #[s.v, q_left.1.v]) h_4)) ((⟨none, 0, 0⟩ : Sl), s_1) h_3)
def flow_walk_a : Ann := (.seq .leaf (.seq .leaf (.seq .leaf (.seq (.seq .leaf (.cond (.seq .leaf .leaf) .leaf)) (.seq .leaf (.seq .leaf (.seq (.block (.loop [(5, .sl), (6, .sl)] [0, 4] (.seq (.seq .leaf (.cond .leaf .leaf)) (.block (.seq .leaf (.seq (.seq .leaf (.cond (.seq .leaf (.seq .leaf .leaf)) .leaf)) (.seq .leaf (.seq .leaf (.join [(88, .bool)] [0, 4, 5, 6, 8] .leaf (.cond (.seq .leaf .leaf) .leaf)))))))))) (.seq .leaf .leaf))))))))
theorem flow_walk_eq (g : Sl) (h : Heap) (K : Value → Heap → Prop) : flow_walk g h K = fnW Try.prog ty flow_walk_a (bodyOf Try.f52) [.tmp 2, .tmp 3] [g.v] h K := by kernel_rfl
theorem flow_walk_of {g : Sl} {h : Heap} {K : Value → Heap → Prop} (hw : flow_walk g h K) : ACalls Try.prog F_flow_walk [g.v] h K :=
  calls_sound ty_ok mixed flow_walk_a (c := bodyOf Try.f52) Try.func52 (by kernel_rfl) (by kernel_rfl) (by kernel_rfl) (Nat.le_of_ble_eq_true rfl) (by rw [flow_walk_eq] at hw; exact hw)

/-- slices.Reverse[[]int,int] -/
def slices_Reverse (s : Sl) (h : Heap) (K : Value → Heap → Prop) : Prop :=
  ar .i64 ((s.len : Int) - 1) fun n =>
  loopW (fun _ (q_i : Int × Int) h_1 next =>
    ifB (decide (q_i.1 < q_i.2))
     (idx 1 s q_i.2 fun p =>
    ld (.int .i64) h_1 p fun (x : Int) =>
    idx 1 s q_i.1 fun p_1 =>
    ld (.int .i64) h_1 p_1 fun (x_1 : Int) =>
    idx 1 s q_i.1 fun p_2 =>
    st [.int .i64 x] h_1 p_2 fun h_2 =>
    idx 1 s q_i.2 fun p_3 =>
    st [.int .i64 x_1] h_2 p_3 fun h_3 =>
    ar .i64 (q_i.1 + 1) fun n_1 =>
    ar .i64 (q_i.2 - 1) fun n_2 =>
    next (n_1, n_2) h_3)
     (K (.tuple #[]) h_1)) (0, n) h
def slices_Reverse_a : Ann := (.seq .leaf (.block (.loop [(2, .int .i64), (3, .int .i64)] [0] (.seq (.seq .leaf (.cond .leaf .leaf)) (.seq (.block .leaf) .leaf)))))
theorem slices_Reverse_eq (s : Sl) (h : Heap) (K : Value → Heap → Prop) : slices_Reverse s h K = fnW Try.prog ty slices_Reverse_a (bodyOf Try.f53) [] [s.v] h K := by kernel_rfl
theorem slices_Reverse_of {s : Sl} {h : Heap} {K : Value → Heap → Prop} (hw : slices_Reverse s h K) : ACalls Try.prog F_slices_Reverse [s.v] h K :=
  calls_sound ty_ok mixed slices_Reverse_a (c := bodyOf Try.f53) Try.func53 (by kernel_rfl) (by kernel_rfl) (by kernel_rfl) (Nat.le_of_ble_eq_true rfl) (by rw [slices_Reverse_eq] at hw; exact hw)

/-- lateen/lateenref09.down -/
def lateenref09_down (g : Sl) (atv : Int) (marked : Sl) (left : Sl) (h : Heap) (K : Value → Heap → Prop) : Prop :=
  app si_Lbool (⟨none, 0, 0⟩ : Sl) marked h fun s h_1 =>
  idx 1 s atv fun p =>
  st [.bool true] h_1 p fun h_2 =>
  loopW (fun _ (q_left_1 : Sl × Sl × Int) h_3 next =>
    idx 1 g atv fun p_1 =>
    ld .sl h_3 p_1 fun (x : Sl) =>
    ifB (decide (q_left_1.2.2 < (x.len : Int)))
     (joinW (fun _ (q_left_2 : Sl × Sl) h_4 =>
      ar .i64 (q_left_1.2.2 + 1) fun n =>
      next (q_left_2.1, q_left_2.2, n) h_4) fun k =>
    idx 1 g atv fun p_2 =>
    ld .sl h_3 p_2 fun (x_1 : Sl) =>
    idx 1 x_1 q_left_1.2.2 fun p_3 =>
    ld (.int .i64) h_3 p_3 fun (x_2 : Int) =>
    joinW (fun _ (t : Bool) h_5 =>
      ifB t
       (ACalls Try.prog F_lateenref09_down [g.v, .int .i64 x_2, q_left_1.2.1.v, q_left_1.1.v] h_5 fun v h_6 => as2 .sl .sl v fun r r_1 =>
       k (r_1, r) h_6)
       (k (q_left_1.1, q_left_1.2.1) h_5)) fun k_1 =>
    ifB (decide (x_2 ≥ 0))
     (ifB (decide (x_2 < (g.len : Int)))
         (idx 1 q_left_1.2.1 x_2 fun p_4 =>
           ld .bool h_3 p_4 fun (x_3 : Bool) =>
            k_1 (!x_3) h_3)
         (k_1 false h_3))
     (k_1 false h_3))
     (bld si_Lint 1 [(0, .int .i64 atv)] h_3 fun s_1 h_7 =>
  app si_Lint q_left_1.1 s_1 h_7 fun s_2 h_8 =>
  K (.tuple #[q_left_1.2.1.v, s_2.v]) h_8)) (left, s, 0) h_2
def lateenref09_down_a : Ann := (.seq .leaf (.seq .leaf (.seq .leaf (.seq .leaf (.seq (.seq .leaf (.block (.loop [(3, .sl), (10, .sl), (11, .int .i64)] [0, 1] (.seq (.seq .leaf (.cond .leaf .leaf)) (.join [(3, .sl), (10, .sl)] [0, 1, 11] (.block (.seq .leaf (.join [(49, .bool)] [0, 1, 3, 10, 11, 12] .leaf (.cond .leaf .leaf)))) .leaf))))) (.seq .leaf .leaf))))))
theorem lateenref09_down_eq (g : Sl) (atv : Int) (marked : Sl) (left : Sl) (h : Heap) (K : Value → Heap → Prop) : lateenref09_down g atv marked left h K = fnW Try.prog ty lateenref09_down_a (bodyOf Try.f54) [.tmp 8, .tmp 9] [g.v, .int .i64 atv, marked.v, left.v] h K := by kernel_rfl
theorem lateenref09_down_of {g : Sl} {atv : Int} {marked : Sl} {left : Sl} {h : Heap} {K : Value → Heap → Prop} (hw : lateenref09_down g atv marked left h K) : ACalls Try.prog F_lateenref09_down [g.v, .int .i64 atv, marked.v, left.v] h K :=
  calls_sound ty_ok mixed lateenref09_down_a (c := bodyOf Try.f54) Try.func54 (by kernel_rfl) (by kernel_rfl) (by kernel_rfl) (Nat.le_of_ble_eq_true rfl) (by rw [lateenref09_down_eq] at hw; exact hw)

/-- lateen/lateenref08.Place -/
def lateenref08_Place (f : Array Value) (name : ByteArray) (h : Heap) (K : Value → Heap → Prop) : Prop :=
  new 39 f h fun p h_1 =>
  loopW (fun _ (i : Int) h_2 next =>
    ld .sl h_2 (p.add 4) fun (x : Sl) =>
    ifB (decide (i < (x.len : Int)))
     (ld .sl h_2 (p.add 4) fun (x_1 : Sl) =>
    idx 9 x_1 i fun p_1 =>
    ld .str h_2 (p_1.add 0) fun (x_2 : ByteArray) =>
    ifB (x_2.toList == name.toList)
     (K (.tuple #[.int .i64 i, .bool true]) h_2)
     (ar .i64 (i + 1) fun n =>
    next n h_2))
     (K (.tuple #[.int .i64 0, .bool false]) h_2)) 0 h_1
def lateenref08_Place_a : Ann := (.seq .leaf (.seq (.seq .leaf (.block (.loop [(6, .int .i64)] [1, 2] (.seq (.seq .leaf (.cond .leaf .leaf)) (.seq (.block (.seq .leaf (.cond (.seq .leaf .leaf) .leaf))) .leaf))))) (.seq .leaf .leaf)))
theorem lateenref08_Place_eq (f : Array Value) (name : ByteArray) (h : Heap) (K : Value → Heap → Prop) : lateenref08_Place f name h K = fnW Try.prog ty lateenref08_Place_a (bodyOf Try.f55) [.tmp 4, .tmp 5] [.agg f, .string name] h K := by kernel_rfl
theorem lateenref08_Place_of {f : Array Value} {name : ByteArray} {h : Heap} {K : Value → Heap → Prop} (hw : lateenref08_Place f name h K) : ACalls Try.prog F_lateenref08_Place [.agg f, .string name] h K :=
  calls_sound ty_ok mixed lateenref08_Place_a (c := bodyOf Try.f55) Try.func55 (by kernel_rfl) (by kernel_rfl) (by kernel_rfl) (Nat.le_of_ble_eq_true rfl) (by rw [lateenref08_Place_eq] at hw; exact hw)

/-- lateen/lateenref08.Come -/
def lateenref08_Come (f : Array Value) (h : Heap) (K : Value → Heap → Prop) : Prop :=
  new 39 f h fun p h_1 =>
  ld .sl h_1 (p.add 4) fun (x : Sl) =>
  (x.len : Int) = (x.len : Int) ∧ mk si_Lbool (x.len : Int) h_1 fun s h_2 =>
  loopW (fun _ (more : Bool) h_3 next =>
    ifB more
     (idx 1 s 0 fun p_1 =>
    st [.bool true] h_3 p_1 fun h_4 =>
    loopW (fun _ (q_more_1 : Bool × Int) h_5 next_1 =>
      ifB (decide (q_more_1.2 < (s.len : Int)))
       (loopW (fun _ (q_more_2 : Bool × Int) h_6 next_2 =>
        joinW (fun _ (t : Bool) h_7 =>
          ifB t
           (joinW (fun _ (more_3 : Bool) h_8 =>
          ar .i64 (q_more_2.2 + 1) fun n =>
          next_2 (more_3, n) h_8) fun k_2 =>
        joinW (fun _ (t_1 : Bool) h_9 =>
          ifB t_1
           (idx 1 s q_more_2.2 fun p_2 =>
           st [.bool true] h_9 p_2 fun h_10 =>
           k_2 true h_10)
           (k_2 q_more_2.1 h_9)) fun k_3 =>
        idx 1 s q_more_2.2 fun p_3 =>
        ld .bool h_7 p_3 fun (x_1 : Bool) =>
        ifB (!x_1)
         (ld (.agg 5) h_7 p fun (x_2 : Array Value) =>
         ACalls Try.prog F_lateenref08_Leads [.agg x_2, .int .i64 q_more_1.2, .int .i64 q_more_2.2] h_7 fun v h_11 => as1 .bool v fun r =>
            k_3 r h_11)
         (k_3 false h_7))
           (ar .i64 (q_more_1.2 + 1) fun n_1 =>
      next_1 (q_more_2.1, n_1) h_7)) fun k_1 =>
        ifB (decide (q_more_2.2 < (s.len : Int)))
         (idx 1 s q_more_1.2 fun p_4 =>
           ld .bool h_6 p_4 fun (x_3 : Bool) =>
            k_1 x_3 h_6)
         (k_1 false h_6)) (q_more_1.1, 0) h_5)
       (next q_more_1.1 h_5)) (false, 0) h_4)
     (K s.v h_3)) (decide ((s.len : Int) > 0)) h_2
def lateenref08_Come_a : Ann := (.seq .leaf (.seq .leaf (.seq .leaf (.seq (.block (.loop [(4, .bool)] [1, 3] (.seq (.seq .leaf (.cond .leaf .leaf)) (.block (.seq .leaf (.seq .leaf (.seq .leaf (.block (.loop [(4, .bool), (5, .int .i64)] [1, 3] (.seq (.seq .leaf (.cond .leaf .leaf)) (.seq (.block (.seq .leaf (.block (.loop [(4, .bool), (6, .int .i64)] [1, 3, 5] (.seq (.join [(32, .bool)] [1, 3, 4, 5, 6] .leaf (.cond .leaf .leaf)) (.join [(4, .bool)] [1, 3, 5, 6] (.block (.join [(45, .bool)] [1, 3, 4, 5, 6] .leaf (.cond (.seq .leaf .leaf) .leaf))) .leaf)))))) .leaf))))))))))) (.seq .leaf .leaf)))))
theorem lateenref08_Come_eq (f : Array Value) (h : Heap) (K : Value → Heap → Prop) : lateenref08_Come f h K = fnW Try.prog ty lateenref08_Come_a (bodyOf Try.f56) [.tmp 2] [.agg f] h K := by kernel_rfl
theorem lateenref08_Come_of {f : Array Value} {h : Heap} {K : Value → Heap → Prop} (hw : lateenref08_Come f h K) : ACalls Try.prog F_lateenref08_Come [.agg f] h K :=
  calls_sound ty_ok mixed lateenref08_Come_a (c := bodyOf Try.f56) Try.func56 (by kernel_rfl) (by kernel_rfl) (by kernel_rfl) (Nat.le_of_ble_eq_true rfl) (by rw [lateenref08_Come_eq] at hw; exact hw)

/-- lateen/shape.Place -/
def shape_Place (f : Array Value) (name : ByteArray) (h : Heap) (K : Value → Heap → Prop) : Prop :=
  new 39 f h fun p h_1 =>
  ld .sl h_1 (p.add 4) fun (x : Sl) =>
  loopW (fun _ (t : Int) h_2 next =>
    ifB (decide (t < (x.len : Int)))
     (idx 9 x t fun p_1 =>
    ld (.agg 9) h_2 p_1 fun (x_1 : Array Value) =>
    new 59 #[.string ⟨#[]⟩, .slice none 0 0, .slice none 0 0, .int .i64 0, .int .i64 0, .string ⟨#[]⟩, .int .i64 0, .slice none 0 0, .int .i64 0] h_2 fun p_2 h_3 =>
    x_1.size = 9 ∧ st x_1.toList h_3 p_2 fun h_4 =>
    ld .str h_4 (p_2.add 0) fun (x_2 : ByteArray) =>
    ifB (x_2.toList == name.toList)
     (K (.tuple #[.int .i64 t, .bool true]) h_4)
     (ar .i64 (t + 1) fun n =>
    next n h_4))
     (K (.tuple #[.int .i64 0, .bool false]) h_2)) 0 h_1
def shape_Place_a : Ann := (.seq .leaf (.seq (.seq .leaf (.block (.loop [(11, .int .i64)] [1, 9, 10] (.seq .leaf (.seq (.cond .leaf .leaf) (.seq (.block (.seq .leaf (.seq .leaf (.cond (.seq .leaf .leaf) .leaf)))) .leaf)))))) (.seq .leaf .leaf)))
theorem shape_Place_eq (f : Array Value) (name : ByteArray) (h : Heap) (K : Value → Heap → Prop) : shape_Place f name h K = fnW Try.prog ty shape_Place_a (bodyOf Try.f57) [.tmp 4, .tmp 5] [.agg f, .string name] h K := by kernel_rfl
theorem shape_Place_of {f : Array Value} {name : ByteArray} {h : Heap} {K : Value → Heap → Prop} (hw : shape_Place f name h K) : ACalls Try.prog F_shape_Place [.agg f, .string name] h K :=
  calls_sound ty_ok mixed shape_Place_a (c := bodyOf Try.f57) Try.func57 (by kernel_rfl) (by kernel_rfl) (by kernel_rfl) (Nat.le_of_ble_eq_true rfl) (by rw [shape_Place_eq] at hw; exact hw)

/-- lateen/calls.walk -/
def calls_walk (g : Sl) (h : Heap) (K : Value → Heap → Prop) : Prop :=
  ∃ (R : Heap → Prop) (h_1 : Heap) (L : List As) (S : Specs), R h ∧ Sep h_1 h L ∧ (freeW R h_1 (S 2 [.int .i64 (g.len : Int), .int .i64 (g.len : Int)]) [] (fun h_2 Kv =>
      (g.len : Int) = (g.len : Int) ∧ mk si_Lint (g.len : Int) h_2 fun s h_3 =>
      Kv s.v h_3) fun v => as1 .sl v fun r =>
  freeW R h_1 (S 4 [.int .i64 (g.len : Int), .int .i64 (g.len : Int)]) [] (fun h_4 Kv_1 =>
      (g.len : Int) = (g.len : Int) ∧ mk si_Lint (g.len : Int) h_4 fun s_1 h_5 =>
      Kv_1 s_1.v h_5) fun v_1 => as1 .sl v_1 fun r_1 =>
  freeW R h_1 (S 6 [.int .i64 (g.len : Int), .int .i64 (g.len : Int)]) [] (fun h_6 Kv_2 =>
      (g.len : Int) = (g.len : Int) ∧ mk si_Lint (g.len : Int) h_6 fun s_2 h_7 =>
      Kv_2 s_2.v h_7) fun v_2 => as1 .sl v_2 fun r_2 =>
  freeW R h_1 (S 8 [.int .i64 (g.len : Int), .int .i64 (g.len : Int)]) [] (fun h_8 Kv_3 =>
      (g.len : Int) = (g.len : Int) ∧ mk si_Lbool (g.len : Int) h_8 fun s_3 h_9 =>
      Kv_3 s_3.v h_9) fun v_3 => as1 .sl v_3 fun r_3 =>
  bst [(0, 1), (1, 1), (2, 1), (3, 1), (4, 1), (5, 1), (6, 1)] #[.slice none 0 0, .slice none 0 0, .slice none 0 0, .slice none 0 0, .slice none 0 0, .slice none 0 0, .slice none 0 0] [(0, g.v), (1, r.v), (2, r_1.v), (3, r_2.v), (6, r_3.v)] fun c =>
  freeW R h_1 (S 10 [.agg c]) [] (fun h_10 Kv_4 =>
      new 67 c h_10 fun p h_11 =>
      Kv_4 (.pointer (some p)) h_11) fun v_4 => as1 .ptr v_4 fun r_4 =>
  endF R h_1 ((S 2 [.int .i64 (g.len : Int), .int .i64 (g.len : Int)]).A v ++ ((S 4 [.int .i64 (g.len : Int), .int .i64 (g.len : Int)]).A v_1 ++ ((S 6 [.int .i64 (g.len : Int), .int .i64 (g.len : Int)]).A v_2 ++ ((S 8 [.int .i64 (g.len : Int), .int .i64 (g.len : Int)]).A v_3 ++ ((S 10 [.agg c]).A v_4 ++ (L ++ [])))))) fun h_12 =>
  nilck r_4 fun p_1 =>
  ld .sl h_12 (p_1.add 3) fun (x : Sl) =>
  loopW (fun _ (t : Int) h_13 next =>
    ifB (decide (t < (x.len : Int)))
     (nilck r_4 fun p_2 =>
    ld .sl h_13 (p_2.add 3) fun (x_1 : Sl) =>
    idx 1 x_1 t fun p_3 =>
    st [.int .i64 (-1)] h_13 p_3 fun h_14 =>
    ar .i64 (t + 1) fun n =>
    next n h_14)
     (loopW (fun _ (q_marked : Int × Int) h_15 next_1 =>
    ifB (decide (q_marked.2 < (g.len : Int)))
     (joinW (fun _ (marked_1 : Int) h_16 =>
      ar .i64 (q_marked.2 + 1) fun n_1 =>
      next_1 (marked_1, n_1) h_16) fun k =>
    nilck r_4 fun p_4 =>
    ld .sl h_15 (p_4.add 1) fun (x_2 : Sl) =>
    idx 1 x_2 q_marked.2 fun p_5 =>
    ld (.int .i64) h_15 p_5 fun (x_3 : Int) =>
    ifB (x_3 == 0)
     (ACalls Try.prog F_calls_walker_down [.pointer r_4, .int .i64 q_marked.2, .int .i64 q_marked.1] h_15 fun v_5 h_17 => as1 (.int .i64) v_5 fun r_5 =>
     k r_5 h_17)
     (k q_marked.1 h_15))
     (K (.pointer r_4) h_15)) (0, 0) h_13)) 0 h_12)
def calls_walk_a : Ann := (.seq .leaf (.seq .leaf (.seq (.free 11 [[], [], [], [], [], [], [], [], [], [], [], []] [2, 4, 6, 8, 10, 12]) (.seq (.seq .leaf (.block (.loop [(26, .int .i64)] [0, 4, 25] (.seq .leaf (.seq (.cond .leaf .leaf) (.seq (.block (.seq .leaf .leaf)) .leaf)))))) (.seq .leaf (.seq (.seq .leaf (.block (.loop [(6, .int .i64), (38, .int .i64)] [4, 37] (.seq .leaf (.seq (.cond .leaf .leaf) (.join [(6, .int .i64)] [4, 37, 38] (.block (.seq .leaf (.seq .leaf (.cond .leaf .leaf)))) .leaf)))))) (.seq .leaf .leaf)))))))
theorem calls_walk_eq (g : Sl) (h : Heap) (K : Value → Heap → Prop) : calls_walk g h K = fnW Try.prog ty calls_walk_a (bodyOf Try.f58) [.tmp 2] [g.v] h K := by kernel_rfl
theorem calls_walk_of {g : Sl} {h : Heap} {K : Value → Heap → Prop} (hw : calls_walk g h K) : ACalls Try.prog F_calls_walk [g.v] h K :=
  calls_sound ty_ok mixed calls_walk_a (c := bodyOf Try.f58) Try.func58 (by kernel_rfl) (by kernel_rfl) (by kernel_rfl) (Nat.le_of_ble_eq_true rfl) (by rw [calls_walk_eq] at hw; exact hw)

/-- lateen/lateenref20.down -/
def lateenref20_down (g : Sl) (atv : Int) (marked : Sl) (left : Sl) (h : Heap) (K : Value → Heap → Prop) : Prop :=
  app si_Lbool (⟨none, 0, 0⟩ : Sl) marked h fun s h_1 =>
  idx 1 s atv fun p =>
  st [.bool true] h_1 p fun h_2 =>
  loopW (fun _ (q_left_1 : Sl × Sl × Int) h_3 next =>
    idx 1 g atv fun p_1 =>
    ld .sl h_3 p_1 fun (x : Sl) =>
    ifB (decide (q_left_1.2.2 < (x.len : Int)))
     (joinW (fun _ (q_left_2 : Sl × Sl) h_4 =>
      ar .i64 (q_left_1.2.2 + 1) fun n =>
      next (q_left_2.1, q_left_2.2, n) h_4) fun k =>
    idx 1 g atv fun p_2 =>
    ld .sl h_3 p_2 fun (x_1 : Sl) =>
    idx 1 x_1 q_left_1.2.2 fun p_3 =>
    ld (.int .i64) h_3 p_3 fun (x_2 : Int) =>
    joinW (fun _ (t : Bool) h_5 =>
      ifB t
       (ACalls Try.prog F_lateenref20_down [g.v, .int .i64 x_2, q_left_1.2.1.v, q_left_1.1.v] h_5 fun v h_6 => as2 .sl .sl v fun r r_1 =>
       k (r_1, r) h_6)
       (k (q_left_1.1, q_left_1.2.1) h_5)) fun k_1 =>
    ifB (decide (x_2 ≥ 0))
     (ifB (decide (x_2 < (g.len : Int)))
         (idx 1 q_left_1.2.1 x_2 fun p_4 =>
           ld .bool h_3 p_4 fun (x_3 : Bool) =>
            k_1 (!x_3) h_3)
         (k_1 false h_3))
     (k_1 false h_3))
     (bld si_Lint 1 [(0, .int .i64 atv)] h_3 fun s_1 h_7 =>
  app si_Lint q_left_1.1 s_1 h_7 fun s_2 h_8 =>
  K (.tuple #[q_left_1.2.1.v, s_2.v]) h_8)) (left, s, 0) h_2
def lateenref20_down_a : Ann := (.seq .leaf (.seq .leaf (.seq .leaf (.seq .leaf (.seq (.seq .leaf (.block (.loop [(3, .sl), (10, .sl), (11, .int .i64)] [0, 1] (.seq (.seq .leaf (.cond .leaf .leaf)) (.join [(3, .sl), (10, .sl)] [0, 1, 11] (.block (.seq .leaf (.join [(49, .bool)] [0, 1, 3, 10, 11, 12] .leaf (.cond .leaf .leaf)))) .leaf))))) (.seq .leaf .leaf))))))
theorem lateenref20_down_eq (g : Sl) (atv : Int) (marked : Sl) (left : Sl) (h : Heap) (K : Value → Heap → Prop) : lateenref20_down g atv marked left h K = fnW Try.prog ty lateenref20_down_a (bodyOf Try.f59) [.tmp 8, .tmp 9] [g.v, .int .i64 atv, marked.v, left.v] h K := by kernel_rfl
theorem lateenref20_down_of {g : Sl} {atv : Int} {marked : Sl} {left : Sl} {h : Heap} {K : Value → Heap → Prop} (hw : lateenref20_down g atv marked left h K) : ACalls Try.prog F_lateenref20_down [g.v, .int .i64 atv, marked.v, left.v] h K :=
  calls_sound ty_ok mixed lateenref20_down_a (c := bodyOf Try.f59) Try.func59 (by kernel_rfl) (by kernel_rfl) (by kernel_rfl) (Nat.le_of_ble_eq_true rfl) (by rw [lateenref20_down_eq] at hw; exact hw)

/-- lateen/lateenref10.All -/
def lateenref10_All (g : Sl) (h : Heap) (K : Value → Heap → Prop) : Prop :=
  ACalls Try.prog F_lateenref09_Come [g.v] h fun v h_1 => as1 .sl v fun r =>
  loopW (fun _ (q_out : Sl × Int) h_2 next =>
    ifB (decide (q_out.2 < (g.len : Int)))
     (ACalls Try.prog F_lateenref10_Without [g.v, .int .i64 q_out.2] h_2 fun v_1 h_3 => as1 .sl v_1 fun r_1 =>
    (g.len : Int) = (g.len : Int) ∧ mk si_Lbool (g.len : Int) h_3 fun s h_4 =>
    loopW (fun _ (k : Int) h_5 next_1 =>
      ifB (decide (k < (g.len : Int)))
       (joinW (fun _ (_ : Unit) h_6 =>
        ar .i64 (k + 1) fun n =>
        next_1 n h_6) fun k_1 =>
      idx 1 r q_out.2 fun p =>
      ld .bool h_5 p fun (x : Bool) =>
      ifB x
       (idx 1 r k fun p_1 =>
         ld .bool h_5 p_1 fun (x_1 : Bool) =>
          ifB x_1
           (ifB (q_out.2 == k)
               (idx 1 s k fun p_2 =>
                    st [.bool true] h_5 p_2 fun h_7 =>
                    k_1 () h_7)
               (idx 1 r_1 k fun p_3 =>
                 ld .bool h_5 p_3 fun (x_2 : Bool) =>
                  idx 1 s k fun p_4 =>
                    st [.bool (!x_2)] h_5 p_4 fun h_8 =>
                    k_1 () h_8))
           (idx 1 s k fun p_5 =>
               st [.bool false] h_5 p_5 fun h_9 =>
               k_1 () h_9))
       (idx 1 s k fun p_6 =>
               st [.bool false] h_5 p_6 fun h_10 =>
               k_1 () h_10))
       (bld si_LLbool 1 [(0, s.v)] h_5 fun s_1 h_11 =>
    app si_LLbool q_out.1 s_1 h_11 fun s_2 h_12 =>
    ar .i64 (q_out.2 + 1) fun n_1 =>
    next (s_2, n_1) h_12)) 0 h_4)
     (K q_out.1.v h_2)) ((⟨none, 0, 0⟩ : Sl), 0) h_1
def lateenref10_All_a : Ann := (.seq .leaf (.seq .leaf (.seq .leaf (.seq (.seq .leaf (.block (.loop [(4, .sl), (5, .int .i64)] [0, 3] (.seq (.seq .leaf (.cond .leaf .leaf)) (.seq (.block (.seq .leaf (.seq .leaf (.seq (.seq .leaf (.block (.loop [(8, .int .i64)] [0, 3, 4, 5, 6, 7] (.seq (.seq .leaf (.cond .leaf .leaf)) (.join [] [0, 3, 4, 5, 6, 7, 8] (.block .leaf) .leaf))))) .leaf)))) .leaf))))) (.seq .leaf .leaf)))))
theorem lateenref10_All_eq (g : Sl) (h : Heap) (K : Value → Heap → Prop) : lateenref10_All g h K = fnW Try.prog ty lateenref10_All_a (bodyOf Try.f60) [.tmp 2] [g.v] h K := by kernel_rfl
theorem lateenref10_All_of {g : Sl} {h : Heap} {K : Value → Heap → Prop} (hw : lateenref10_All g h K) : ACalls Try.prog F_lateenref10_All [g.v] h K :=
  calls_sound ty_ok mixed lateenref10_All_a (c := bodyOf Try.f60) Try.func60 (by kernel_rfl) (by kernel_rfl) (by kernel_rfl) (Nat.le_of_ble_eq_true rfl) (by rw [lateenref10_All_eq] at hw; exact hw)

/-- lateen/dom.ranks -/
def dom_ranks (n : Int) (order : Sl) (h : Heap) (K : Value → Heap → Prop) : Prop :=
  n = n ∧ mk si_Lint n h fun s h_1 =>
  loopW (fun _ (t : Int) h_2 next =>
    ifB (decide (t < (s.len : Int)))
     (idx 1 s t fun p =>
    st [.int .i64 (-1)] h_2 p fun h_3 =>
    ar .i64 (t + 1) fun n_1 =>
    next n_1 h_3)
     (loopW (fun _ (t_1 : Int) h_4 next_1 =>
    ifB (decide (t_1 < (order.len : Int)))
     (idx 1 order t_1 fun p_1 =>
    ld (.int .i64) h_4 p_1 fun (x : Int) =>
    idx 1 s x fun p_2 =>
    st [.int .i64 t_1] h_4 p_2 fun h_5 =>
    ar .i64 (t_1 + 1) fun n_2 =>
    next_1 n_2 h_5)
     (K s.v h_4)) 0 h_2)) 0 h_1
def dom_ranks_a : Ann := (.seq .leaf (.seq .leaf (.seq (.seq .leaf (.block (.loop [(13, .int .i64)] [1, 5, 12] (.seq .leaf (.seq (.cond .leaf .leaf) (.seq (.block (.seq .leaf .leaf)) .leaf)))))) (.seq (.seq .leaf (.block (.loop [(22, .int .i64)] [5, 20, 21] (.seq .leaf (.seq (.cond .leaf .leaf) (.seq (.block (.seq .leaf .leaf)) .leaf)))))) (.seq .leaf .leaf)))))
theorem dom_ranks_eq (n : Int) (order : Sl) (h : Heap) (K : Value → Heap → Prop) : dom_ranks n order h K = fnW Try.prog ty dom_ranks_a (bodyOf Try.f61) [.tmp 4] [.int .i64 n, order.v] h K := by kernel_rfl
theorem dom_ranks_of {n : Int} {order : Sl} {h : Heap} {K : Value → Heap → Prop} (hw : dom_ranks n order h K) : ACalls Try.prog F_dom_ranks [.int .i64 n, order.v] h K :=
  calls_sound ty_ok mixed dom_ranks_a (c := bodyOf Try.f61) Try.func61 (by kernel_rfl) (by kernel_rfl) (by kernel_rfl) (Nat.le_of_ble_eq_true rfl) (by rw [dom_ranks_eq] at hw; exact hw)

/-- lateen/dom.meet -/
def dom_meet (near : Sl) (rank : Sl) (a : Int) (b : Int) (h : Heap) (K : Value → Heap → Prop) : Prop :=
  loopW (fun _ (q_a_1 : Int × Int) h_1 next =>
    ifB (q_a_1.1 != q_a_1.2)
     (loopW (fun _ (a_2 : Int) h_2 next_1 =>
      idx 1 rank a_2 fun p =>
      ld (.int .i64) h_2 p fun (x : Int) =>
      idx 1 rank q_a_1.2 fun p_1 =>
      ld (.int .i64) h_2 p_1 fun (x_1 : Int) =>
      ifB (decide (x > x_1))
       (idx 1 near a_2 fun p_2 =>
      ld (.int .i64) h_2 p_2 fun (x_2 : Int) =>
      next_1 x_2 h_2)
       (loopW (fun _ (b_2 : Int) h_3 next_2 =>
      idx 1 rank b_2 fun p_3 =>
      ld (.int .i64) h_3 p_3 fun (x_3 : Int) =>
      idx 1 rank a_2 fun p_4 =>
      ld (.int .i64) h_3 p_4 fun (x_4 : Int) =>
      ifB (decide (x_3 > x_4))
       (idx 1 near b_2 fun p_5 =>
      ld (.int .i64) h_3 p_5 fun (x_5 : Int) =>
      next_2 x_5 h_3)
       (next (a_2, b_2) h_3)) q_a_1.2 h_2)) q_a_1.1 h_1)
     (K (.int .i64 q_a_1.1) h_1)) (a, b) h
def dom_meet_a : Ann := (.seq .leaf (.seq (.block (.loop [(2, .int .i64), (3, .int .i64)] [0, 1] (.seq (.seq .leaf (.cond .leaf .leaf)) (.block (.seq (.block (.loop [(2, .int .i64)] [0, 1, 3] (.seq (.seq .leaf (.cond .leaf .leaf)) (.block .leaf)))) (.block (.loop [(3, .int .i64)] [0, 1, 2] (.seq (.seq .leaf (.cond .leaf .leaf)) (.block .leaf))))))))) (.seq .leaf .leaf)))
theorem dom_meet_eq (near : Sl) (rank : Sl) (a : Int) (b : Int) (h : Heap) (K : Value → Heap → Prop) : dom_meet near rank a b h K = fnW Try.prog ty dom_meet_a (bodyOf Try.f62) [.tmp 8] [near.v, rank.v, .int .i64 a, .int .i64 b] h K := by kernel_rfl
theorem dom_meet_of {near : Sl} {rank : Sl} {a : Int} {b : Int} {h : Heap} {K : Value → Heap → Prop} (hw : dom_meet near rank a b h K) : ACalls Try.prog F_dom_meet [near.v, rank.v, .int .i64 a, .int .i64 b] h K :=
  calls_sound ty_ok mixed dom_meet_a (c := bodyOf Try.f62) Try.func62 (by kernel_rfl) (by kernel_rfl) (by kernel_rfl) (Nat.le_of_ble_eq_true rfl) (by rw [dom_meet_eq] at hw; exact hw)

/-- slices.Index[[]int,int] -/
def slices_Index (s : Sl) (v : Int) (h : Heap) (K : Value → Heap → Prop) : Prop :=
  loopW (fun _ (t : Int) h_1 next =>
    ifB (decide (t < (s.len : Int)))
     (idx 1 s t fun p =>
    ld (.int .i64) h_1 p fun (x : Int) =>
    ifB (v == x)
     (K (.int .i64 t) h_1)
     (ar .i64 (t + 1) fun n =>
    next n h_1))
     (K (.int .i64 (-1)) h_1)) 0 h
def slices_Index_a : Ann := (.seq .leaf (.seq (.seq .leaf (.block (.loop [(8, .int .i64)] [0, 1, 7] (.seq .leaf (.seq (.cond .leaf .leaf) (.seq (.block (.seq .leaf (.seq .leaf (.cond (.seq .leaf .leaf) .leaf)))) .leaf)))))) (.seq .leaf .leaf)))
theorem slices_Index_eq (s : Sl) (v : Int) (h : Heap) (K : Value → Heap → Prop) : slices_Index s v h K = fnW Try.prog ty slices_Index_a (bodyOf Try.f63) [.tmp 4] [s.v, .int .i64 v] h K := by kernel_rfl
theorem slices_Index_of {s : Sl} {v : Int} {h : Heap} {K : Value → Heap → Prop} (hw : slices_Index s v h K) : ACalls Try.prog F_slices_Index [s.v, .int .i64 v] h K :=
  calls_sound ty_ok mixed slices_Index_a (c := bodyOf Try.f63) Try.func63 (by kernel_rfl) (by kernel_rfl) (by kernel_rfl) (Nat.le_of_ble_eq_true rfl) (by rw [slices_Index_eq] at hw; exact hw)

/-- lateen/lateenref08.Leads -/
def lateenref08_Leads (f : Array Value) (fromv : Int) (tov : Int) (h : Heap) (K : Value → Heap → Prop) : Prop :=
  new 39 f h fun p h_1 =>
  loopW (fun _ (i : Int) h_2 next =>
    ld .sl h_2 (p.add 4) fun (x : Sl) =>
    idx 9 x fromv fun p_1 =>
    ld .sl h_2 ((p_1.add 3).add 4) fun (x_1 : Sl) =>
    ifB (decide (i < (x_1.len : Int)))
     (ld (.agg 5) h_2 p fun (x_2 : Array Value) =>
    ld .sl h_2 (p.add 4) fun (x_3 : Sl) =>
    idx 9 x_3 fromv fun p_2 =>
    ld .sl h_2 ((p_2.add 3).add 4) fun (x_4 : Sl) =>
    idx 1 x_4 i fun p_3 =>
    ld .str h_2 p_3 fun (x_5 : ByteArray) =>
    ACalls Try.prog F_lateenref08_Place [.agg x_2, .string x_5] h_2 fun v h_3 => as2 (.int .i64) .bool v fun r r_1 =>
    hExt h_2 h_3 ∧ joinW (fun _ (t : Bool) h_4 =>
      ifB t
       (K (.bool true) h_4)
       (ar .i64 (i + 1) fun n =>
    next n h_4)) fun k =>
    ifB r_1
     (k (r == tov) h_3)
     (k false h_3))
     (K (.bool false) h_2)) 0 h_1
def lateenref08_Leads_a : Ann := (.seq .leaf (.seq (.seq .leaf (.block (.loop [(7, .int .i64)] [1, 2, 3] (.seq (.seq .leaf (.cond .leaf .leaf)) (.seq (.block (.seq .based (.join [(42, .bool)] [1, 2, 3, 7] .leaf (.cond (.seq .leaf .leaf) .leaf)))) .leaf))))) (.seq .leaf .leaf)))
theorem lateenref08_Leads_eq (f : Array Value) (fromv : Int) (tov : Int) (h : Heap) (K : Value → Heap → Prop) : lateenref08_Leads f fromv tov h K = fnW Try.prog ty lateenref08_Leads_a (bodyOf Try.f64) [.tmp 6] [.agg f, .int .i64 fromv, .int .i64 tov] h K := by kernel_rfl
theorem lateenref08_Leads_of {f : Array Value} {fromv : Int} {tov : Int} {h : Heap} {K : Value → Heap → Prop} (hw : lateenref08_Leads f fromv tov h K) : ACalls Try.prog F_lateenref08_Leads [.agg f, .int .i64 fromv, .int .i64 tov] h K :=
  calls_sound ty_ok mixed lateenref08_Leads_a (c := bodyOf Try.f64) Try.func64 (by kernel_rfl) (by kernel_rfl) (by kernel_rfl) (Nat.le_of_ble_eq_true rfl) (by rw [lateenref08_Leads_eq] at hw; exact hw)

/-- (*lateen/calls.walker).down -/
def calls_walker_down (w : Option Addr) (fromv : Int) (marked : Int) (h : Heap) (K : Value → Heap → Prop) : Prop :=
  ar .i64 (marked + 1) fun n =>
  ACalls Try.prog F_calls_walker_mark [.pointer w, .int .i64 fromv, .int .i64 n] h fun v h_1 => as1 (.agg 2) v fun r =>
  bld si_Lcalls_step 1 [(0, .agg r)] h_1 fun s h_2 =>
  loopW (fun _ (q_marked_1 : Int × Sl) h_3 next =>
    ifB (decide ((q_marked_1.2.len : Int) > 0))
     (ar .i64 ((q_marked_1.2.len : Int) - 1) fun n_1 =>
    idx 2 q_marked_1.2 n_1 fun p =>
    ld (.int .i64) h_3 (p.add 1) fun (x : Int) =>
    nilck w fun p_1 =>
    ld .sl h_3 (p_1.add 0) fun (x_1 : Sl) =>
    ld (.int .i64) h_3 (p.add 0) fun (x_2 : Int) =>
    idx 1 x_1 x_2 fun p_2 =>
    ld .sl h_3 p_2 fun (x_3 : Sl) =>
    ifB (x == (x_3.len : Int))
     (ld (.int .i64) h_3 (p.add 0) fun (x_4 : Int) =>
     ar .i64 ((q_marked_1.2.len : Int) - 1) fun n_2 =>
     slc 2 q_marked_1.2 none (some n_2) fun s_1 =>
     ACalls Try.prog F_calls_walker_leave [.pointer w, .int .i64 x_4] h_3 fun v_1 h_4 => as0 v_1 (
     joinW (fun _ (_ : Unit) h_5 =>
       next (q_marked_1.1, s_1) h_5) fun k =>
     ifB (decide ((s_1.len : Int) > 0))
      (ar .i64 ((s_1.len : Int) - 1) fun n_3 =>
      idx 2 s_1 n_3 fun p_3 =>
      ld (.int .i64) h_4 (p_3.add 0) fun (x_5 : Int) =>
      nilck w fun p_4 =>
      ld .sl h_4 (p_4.add 2) fun (x_6 : Sl) =>
      nilck w fun p_5 =>
      ld .sl h_4 (p_5.add 2) fun (x_7 : Sl) =>
      idx 1 x_7 x_5 fun p_6 =>
      ld (.int .i64) h_4 p_6 fun (x_8 : Int) =>
      nilck w fun p_7 =>
      ld .sl h_4 (p_7.add 2) fun (x_9 : Sl) =>
      idx 1 x_9 x_4 fun p_8 =>
      ld (.int .i64) h_4 p_8 fun (x_10 : Int) =>
      idx 1 x_6 x_5 fun p_9 =>
      st [.int .i64 (if x_10 < x_8 then x_10 else x_8)] h_4 p_9 fun h_6 =>
      k () h_6)
      (k () h_4)))
     (nilck w fun p_10 =>
    ld .sl h_3 (p_10.add 0) fun (x_11 : Sl) =>
    ld (.int .i64) h_3 (p.add 0) fun (x_12 : Int) =>
    idx 1 x_11 x_12 fun p_11 =>
    ld .sl h_3 p_11 fun (x_13 : Sl) =>
    ld (.int .i64) h_3 (p.add 1) fun (x_14 : Int) =>
    idx 1 x_13 x_14 fun p_12 =>
    ld (.int .i64) h_3 p_12 fun (x_15 : Int) =>
    ld (.int .i64) h_3 (p.add 1) fun (x_16 : Int) =>
    ar .i64 (x_16 + 1) fun n_4 =>
    st [.int .i64 n_4] h_3 (p.add 1) fun h_7 =>
    joinW (fun _ (t : Bool) h_8 =>
      ifB t
       (next (q_marked_1.1, q_marked_1.2) h_8)
       (nilck w fun p_13 =>
       ld .sl h_8 (p_13.add 1) fun (x_17 : Sl) =>
       idx 1 x_17 x_15 fun p_14 =>
       ld (.int .i64) h_8 p_14 fun (x_18 : Int) =>
       ifB (x_18 == 0)
        (ar .i64 (q_marked_1.1 + 1) fun n_5 =>
        ACalls Try.prog F_calls_walker_mark [.pointer w, .int .i64 x_15, .int .i64 n_5] h_8 fun v_2 h_9 => as1 (.agg 2) v_2 fun r_1 =>
        bld si_Lcalls_step 1 [(0, .agg r_1)] h_9 fun s_2 h_10 =>
        app si_Lcalls_step q_marked_1.2 s_2 h_10 fun s_3 h_11 =>
        next (n_5, s_3) h_11)
        (nilck w fun p_15 =>
        ld .sl h_8 (p_15.add 3) fun (x_19 : Sl) =>
        idx 1 x_19 x_15 fun p_16 =>
        ld (.int .i64) h_8 p_16 fun (x_20 : Int) =>
        ifB (decide (x_20 < 0))
         (nilck w fun p_17 =>
         ld .sl h_8 (p_17.add 2) fun (x_21 : Sl) =>
         ld (.int .i64) h_8 (p.add 0) fun (x_22 : Int) =>
         nilck w fun p_18 =>
         ld .sl h_8 (p_18.add 2) fun (x_23 : Sl) =>
         ld (.int .i64) h_8 (p.add 0) fun (x_24 : Int) =>
         idx 1 x_23 x_24 fun p_19 =>
         ld (.int .i64) h_8 p_19 fun (x_25 : Int) =>
         nilck w fun p_20 =>
         ld .sl h_8 (p_20.add 1) fun (x_26 : Sl) =>
         idx 1 x_26 x_15 fun p_21 =>
         ld (.int .i64) h_8 p_21 fun (x_27 : Int) =>
         idx 1 x_21 x_22 fun p_22 =>
         st [.int .i64 (if x_27 < x_25 then x_27 else x_25)] h_8 p_22 fun h_12 =>
         nilck w fun p_23 =>
         ld .sl h_12 (p_23.add 6) fun (x_28 : Sl) =>
         ld (.int .i64) h_12 (p.add 0) fun (x_29 : Int) =>
         nilck w fun p_24 =>
         ld .sl h_12 (p_24.add 6) fun (x_30 : Sl) =>
         ld (.int .i64) h_12 (p.add 0) fun (x_31 : Int) =>
         idx 1 x_30 x_31 fun p_25 =>
         ld .bool h_12 p_25 fun (x_32 : Bool) =>
         ifB x_32
          (idx 1 x_28 x_29 fun p_26 =>
               st [.bool true] h_12 p_26 fun h_13 =>
               next (q_marked_1.1, q_marked_1.2) h_13)
          (ld (.int .i64) h_12 (p.add 0) fun (x_33 : Int) =>
              idx 1 x_28 x_29 fun p_27 =>
               st [.bool (x_15 == x_33)] h_12 p_27 fun h_14 =>
               next (q_marked_1.1, q_marked_1.2) h_14))
         (next (q_marked_1.1, q_marked_1.2) h_8)))) fun k_1 =>
    ifB (decide (x_15 < 0))
     (k_1 true h_7)
     (nilck w fun p_28 =>
       ld .sl h_7 (p_28.add 0) fun (x_34 : Sl) =>
         k_1 (decide (x_15 ≥ (x_34.len : Int))) h_7)))
     (K (.int .i64 q_marked_1.1) h_3)) (n, s) h_2
def calls_walker_down_a : Ann := (.seq .leaf (.seq .leaf (.seq .leaf (.seq (.block (.loop [(2, .int .i64), (7, .sl)] [0] (.seq (.seq .leaf (.cond .leaf .leaf)) (.block (.seq .leaf (.seq (.seq .leaf (.cond (.seq .leaf (.seq .leaf (.seq .leaf (.join [] [0, 2, 7] (.seq .leaf (.cond (.seq .leaf .leaf) .leaf)) .leaf)))) .leaf)) (.seq .leaf (.seq .leaf (.block (.join [(109, .bool)] [0, 2, 7, 8, 11] .leaf (.cond .leaf (.seq .leaf (.cond (.seq .leaf .leaf) (.seq .leaf (.cond (.seq .leaf .leaf) .leaf))))))))))))))) (.seq .leaf .leaf)))))
theorem calls_walker_down_eq (w : Option Addr) (fromv : Int) (marked : Int) (h : Heap) (K : Value → Heap → Prop) : calls_walker_down w fromv marked h K = fnW Try.prog ty calls_walker_down_a (bodyOf Try.f65) [.tmp 6] [.pointer w, .int .i64 fromv, .int .i64 marked] h K := by kernel_rfl
theorem calls_walker_down_of {w : Option Addr} {fromv : Int} {marked : Int} {h : Heap} {K : Value → Heap → Prop} (hw : calls_walker_down w fromv marked h K) : ACalls Try.prog F_calls_walker_down [.pointer w, .int .i64 fromv, .int .i64 marked] h K :=
  calls_sound ty_ok mixed calls_walker_down_a (c := bodyOf Try.f65) Try.func65 (by kernel_rfl) (by kernel_rfl) (by kernel_rfl) (Nat.le_of_ble_eq_true rfl) (by rw [calls_walker_down_eq] at hw; exact hw)

/-- lateen/lateenref10.Without -/
def lateenref10_Without (g : Sl) (atv : Int) (h : Heap) (K : Value → Heap → Prop) : Prop :=
  loopW (fun _ (q_h_1 : Sl × Int) h_2 next =>
    ifB (decide (q_h_1.2 < (g.len : Int)))
     (loopW (fun _ (q_l : Sl × Int) h_3 next_1 =>
      idx 1 g q_h_1.2 fun p =>
      ld .sl h_3 p fun (x : Sl) =>
      ifB (decide (q_l.2 < (x.len : Int)))
       (joinW (fun _ (l_1 : Sl) h_4 =>
        ar .i64 (q_l.2 + 1) fun n =>
        next_1 (l_1, n) h_4) fun k_1 =>
      joinW (fun _ (t : Bool) h_5 =>
        ifB t
         (idx 1 g q_h_1.2 fun p_1 =>
         ld .sl h_5 p_1 fun (x_1 : Sl) =>
         idx 1 x_1 q_l.2 fun p_2 =>
         ld (.int .i64) h_5 p_2 fun (x_2 : Int) =>
         bld si_Lint 1 [(0, .int .i64 x_2)] h_5 fun s h_6 =>
         app si_Lint q_l.1 s h_6 fun s_1 h_7 =>
         k_1 s_1 h_7)
         (k_1 q_l.1 h_5)) fun k_2 =>
      ifB (q_h_1.2 != atv)
       (idx 1 g q_h_1.2 fun p_3 =>
         ld .sl h_3 p_3 fun (x_3 : Sl) =>
          idx 1 x_3 q_l.2 fun p_4 =>
            ld (.int .i64) h_3 p_4 fun (x_4 : Int) =>
             k_2 (x_4 != atv) h_3)
       (k_2 false h_3))
       (bld si_LLint 1 [(0, q_l.1.v)] h_3 fun s_2 h_8 =>
    app si_LLint q_h_1.1 s_2 h_8 fun s_3 h_9 =>
    ar .i64 (q_h_1.2 + 1) fun n_1 =>
    next (s_3, n_1) h_9)) ((⟨none, 0, 0⟩ : Sl), 0) h_2)
     (ACalls Try.prog F_lateenref09_Come [q_h_1.1.v] h_2 fun v h_10 => as1 .sl v fun r =>
  ifB (atv == 0)
   ((g.len : Int) = (g.len : Int) ∧ mk si_Lbool (g.len : Int) h_10 fun s_4 h_11 =>
   K s_4.v h_11)
   (K r.v h_10))) ((⟨none, 0, 0⟩ : Sl), 0) h
def lateenref10_Without_a : Ann := (.seq .leaf (.seq .leaf (.seq (.seq .leaf (.block (.loop [(5, .sl), (6, .int .i64)] [0, 1] (.seq (.seq .leaf (.cond .leaf .leaf)) (.seq (.block (.seq .leaf (.seq (.seq .leaf (.block (.loop [(7, .sl), (8, .int .i64)] [0, 1, 5, 6] (.seq (.seq .leaf (.cond .leaf .leaf)) (.join [(7, .sl)] [0, 1, 5, 6, 8] (.block (.join [(38, .bool)] [0, 1, 5, 6, 7, 8] .leaf (.cond .leaf .leaf))) .leaf))))) .leaf))) .leaf))))) (.seq .leaf (.seq (.seq .leaf (.cond (.seq .leaf .leaf) .leaf)) (.seq .leaf .leaf))))))
theorem lateenref10_Without_eq (g : Sl) (atv : Int) (h : Heap) (K : Value → Heap → Prop) : lateenref10_Without g atv h K = fnW Try.prog ty lateenref10_Without_a (bodyOf Try.f66) [.tmp 4] [g.v, .int .i64 atv] h K := by kernel_rfl
theorem lateenref10_Without_of {g : Sl} {atv : Int} {h : Heap} {K : Value → Heap → Prop} (hw : lateenref10_Without g atv h K) : ACalls Try.prog F_lateenref10_Without [g.v, .int .i64 atv] h K :=
  calls_sound ty_ok mixed lateenref10_Without_a (c := bodyOf Try.f66) Try.func66 (by kernel_rfl) (by kernel_rfl) (by kernel_rfl) (Nat.le_of_ble_eq_true rfl) (by rw [lateenref10_Without_eq] at hw; exact hw)

/-- (*lateen/calls.walker).mark -/
def calls_walker_mark (w : Option Addr) (k : Int) (n : Int) (h : Heap) (K : Value → Heap → Prop) : Prop :=
  new 81 #[.int .i64 0, .int .i64 0] h fun p h_1 =>
  nilck w fun p_1 =>
  ld .sl h_1 (p_1.add 1) fun (x : Sl) =>
  nilck w fun p_2 =>
  ld .sl h_1 (p_2.add 2) fun (x_1 : Sl) =>
  idx 1 x k fun p_3 =>
  st [.int .i64 n] h_1 p_3 fun h_2 =>
  idx 1 x_1 k fun p_4 =>
  st [.int .i64 n] h_2 p_4 fun h_3 =>
  nilck w fun p_5 =>
  ld .sl h_3 (p_5.add 4) fun (x_2 : Sl) =>
  bld si_Lint 1 [(0, .int .i64 k)] h_3 fun s h_4 =>
  app si_Lint x_2 s h_4 fun s_1 h_5 =>
  nilck w fun p_6 =>
  st [s_1.v] h_5 (p_6.add 4) fun h_6 =>
  bst [(0, 1), (1, 1)] #[.int .i64 0, .int .i64 0] [(0, .int .i64 k)] fun c =>
  c.size = 2 ∧ st c.toList h_6 p fun h_7 =>
  ld (.agg 2) h_7 p fun (x_3 : Array Value) => K (.agg x_3) h_7
def calls_walker_mark_a : Ann := (.seq .leaf (.seq .leaf (.seq .leaf (.seq .leaf .leaf))))
theorem calls_walker_mark_eq (w : Option Addr) (k : Int) (n : Int) (h : Heap) (K : Value → Heap → Prop) : calls_walker_mark w k n h K = fnW Try.prog ty calls_walker_mark_a (bodyOf Try.f67) [.cell 6 81] [.pointer w, .int .i64 k, .int .i64 n] h K := by kernel_rfl
theorem calls_walker_mark_of {w : Option Addr} {k : Int} {n : Int} {h : Heap} {K : Value → Heap → Prop} (hw : calls_walker_mark w k n h K) : ACalls Try.prog F_calls_walker_mark [.pointer w, .int .i64 k, .int .i64 n] h K :=
  calls_sound ty_ok mixed calls_walker_mark_a (c := bodyOf Try.f67) Try.func67 (by kernel_rfl) (by kernel_rfl) (by kernel_rfl) (Nat.le_of_ble_eq_true rfl) (by rw [calls_walker_mark_eq] at hw; exact hw)

/-- (*lateen/calls.walker).leave -/
def calls_walker_leave (w : Option Addr) (k : Int) (h : Heap) (K : Value → Heap → Prop) : Prop :=
  nilck w fun p =>
  ld .sl h (p.add 5) fun (x : Sl) =>
  bld si_Lint 1 [(0, .int .i64 k)] h fun s h_1 =>
  app si_Lint x s h_1 fun s_1 h_2 =>
  nilck w fun p_1 =>
  st [s_1.v] h_2 (p_1.add 5) fun h_3 =>
  nilck w fun p_2 =>
  ld .sl h_3 (p_2.add 2) fun (x_1 : Sl) =>
  idx 1 x_1 k fun p_3 =>
  ld (.int .i64) h_3 p_3 fun (x_2 : Int) =>
  nilck w fun p_4 =>
  ld .sl h_3 (p_4.add 1) fun (x_3 : Sl) =>
  idx 1 x_3 k fun p_5 =>
  ld (.int .i64) h_3 p_5 fun (x_4 : Int) =>
  ifB (x_2 != x_4)
   (K (.tuple #[]) h_3)
   (nilck w fun p_6 =>
  ld .sl h_3 (p_6.add 4) fun (x_5 : Sl) =>
  ACalls Try.prog F_slices_Index [x_5.v, .int .i64 k] h_3 fun v h_4 => as1 (.int .i64) v fun r =>
  nilck w fun p_7 =>
  ld .sl h_4 (p_7.add 4) fun (x_6 : Sl) =>
  slc 1 x_6 (some r) none fun s_2 =>
  ACalls Try.prog F_slices_Min [s_2.v] h_4 fun v_1 h_5 => as1 (.int .i64) v_1 fun r_1 =>
  loopW (fun _ (t : Int) h_6 next =>
    ifB (decide (t < (s_2.len : Int)))
     (joinW (fun _ (_ : Unit) h_7 =>
      ar .i64 (t + 1) fun n =>
      next n h_7) fun k_1 =>
    idx 1 s_2 t fun p_8 =>
    ld (.int .i64) h_6 p_8 fun (x_7 : Int) =>
    nilck w fun p_9 =>
    ld .sl h_6 (p_9.add 3) fun (x_8 : Sl) =>
    idx 1 x_8 x_7 fun p_10 =>
    st [.int .i64 r_1] h_6 p_10 fun h_8 =>
    nilck w fun p_11 =>
    ld .sl h_8 (p_11.add 6) fun (x_9 : Sl) =>
    nilck w fun p_12 =>
    ld .sl h_8 (p_12.add 6) fun (x_10 : Sl) =>
    idx 1 x_10 x_7 fun p_13 =>
    ld .bool h_8 p_13 fun (x_11 : Bool) =>
    ifB x_11
     (idx 1 x_9 x_7 fun p_14 =>
       st [.bool true] h_8 p_14 fun h_9 =>
       k_1 () h_9)
     (idx 1 x_9 x_7 fun p_15 =>
       st [.bool (decide ((s_2.len : Int) > 1))] h_8 p_15 fun h_10 =>
       k_1 () h_10))
     (nilck w fun p_16 =>
  ld .sl h_6 (p_16.add 4) fun (x_12 : Sl) =>
  slc 1 x_12 none (some r) fun s_3 =>
  nilck w fun p_17 =>
  st [s_3.v] h_6 (p_17.add 4) fun h_11 =>
  K (.tuple #[]) h_11)) 0 h_5)
def calls_walker_leave_a : Ann := (.seq .leaf (.seq (.seq .leaf (.cond .leaf .leaf)) (.seq .leaf (.seq .leaf (.seq .leaf (.seq (.seq .leaf (.block (.loop [(50, .int .i64)] [0, 4, 5, 6, 48, 49] (.seq .leaf (.seq (.cond .leaf .leaf) (.join [] [0, 4, 5, 6, 48, 49, 50] (.block (.seq .leaf (.seq .leaf .leaf))) .leaf)))))) .leaf))))))
theorem calls_walker_leave_eq (w : Option Addr) (k : Int) (h : Heap) (K : Value → Heap → Prop) : calls_walker_leave w k h K = fnW Try.prog ty calls_walker_leave_a (bodyOf Try.f68) [] [.pointer w, .int .i64 k] h K := by kernel_rfl
theorem calls_walker_leave_of {w : Option Addr} {k : Int} {h : Heap} {K : Value → Heap → Prop} (hw : calls_walker_leave w k h K) : ACalls Try.prog F_calls_walker_leave [.pointer w, .int .i64 k] h K :=
  calls_sound ty_ok mixed calls_walker_leave_a (c := bodyOf Try.f68) Try.func68 (by kernel_rfl) (by kernel_rfl) (by kernel_rfl) (Nat.le_of_ble_eq_true rfl) (by rw [calls_walker_leave_eq] at hw; exact hw)

/-- slices.Min[[]int,int] -/
def slices_Min (x : Sl) (h : Heap) (K : Value → Heap → Prop) : Prop :=
  ifB (decide ((x.len : Int) < 1))
   (False)
   (idx 1 x 0 fun p =>
  ld (.int .i64) h p fun (x_1 : Int) =>
  loopW (fun _ (q_m : Int × Int) h_1 next =>
    ifB (decide (q_m.2 < (x.len : Int)))
     (idx 1 x q_m.2 fun p_1 =>
    ld (.int .i64) h_1 p_1 fun (x_2 : Int) =>
    ar .i64 (q_m.2 + 1) fun n =>
    next ((if x_2 < q_m.1 then x_2 else q_m.1), n) h_1)
     (K (.int .i64 q_m.1) h_1)) (x_1, 1) h)
def slices_Min_a : Ann := (.seq .leaf (.seq (.seq .leaf (.cond .leaf .leaf)) (.seq .leaf (.seq (.seq .leaf (.block (.loop [(3, .int .i64), (4, .int .i64)] [0] (.seq (.seq .leaf (.cond .leaf .leaf)) (.seq (.block .leaf) .leaf))))) (.seq .leaf .leaf)))))
theorem slices_Min_eq (x : Sl) (h : Heap) (K : Value → Heap → Prop) : slices_Min x h K = fnW Try.prog ty slices_Min_a (bodyOf Try.f69) [.tmp 2] [x.v] h K := by kernel_rfl
theorem slices_Min_of {x : Sl} {h : Heap} {K : Value → Heap → Prop} (hw : slices_Min x h K) : ACalls Try.prog F_slices_Min [x.v] h K :=
  calls_sound ty_ok mixed slices_Min_a (c := bodyOf Try.f69) Try.func69 (by kernel_rfl) (by kernel_rfl) (by kernel_rfl) (Nat.le_of_ble_eq_true rfl) (by rw [slices_Min_eq] at hw; exact hw)

end Go.Proofs.Ythdidcnpiaeleaa
