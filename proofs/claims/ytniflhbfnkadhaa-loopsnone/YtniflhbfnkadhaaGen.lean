/-
  Printed by genfw.py: the functions as Props over the layer, and what ties each to the model.
-/
import Derived.Test.YtniflhbfnkadhaaFwSound
import Derived.Test.YtniflhbfnkadhaaChecked
namespace Go.Proofs.Ytniflhbfnkadhaa
open Go.Fw

def si_LLint : SlI := ⟨32, 1, 24, .slice none 0 0⟩
def si_Llateenref11_Loop : SlI := ⟨40, 3, 56, .agg #[.int .i64 0, .slice none 0 0, .slice none 0 0]⟩
def si_Lloops_Loop : SlI := ⟨35, 3, 56, .agg #[.int .i64 0, .slice none 0 0, .slice none 0 0]⟩
def si_Lint : SlI := ⟨3, 1, 8, .int .i64 0⟩
def si_Lbool : SlI := ⟨4, 1, 1, .bool false⟩
def si_LLbool : SlI := ⟨43, 1, 24, .slice none 0 0⟩
def si_Lflow_step : SlI := ⟨60, 2, 16, .agg #[.int .i64 0, .int .i64 0]⟩
abbrev F_lateenlaw11_LoopsAlls : FuncId := 3
abbrev F_lateenlaw11_LoopsRound : FuncId := 4
abbrev F_lateenlaw11_LoopsNest : FuncId := 5
abbrev F_lateenlaw11_LoopsNone : FuncId := 6
abbrev F_lateenlaw11_LoopsKeeps : FuncId := 7
abbrev F_lateenlaw11_awake : FuncId := 8
abbrev F_lateenlaw11_few : FuncId := 9
abbrev F_lateenref11_Same : FuncId := 10
abbrev F_lateenlaw11_back : FuncId := 11
abbrev F_loops_All : FuncId := 12
abbrev F_lateenref11_All : FuncId := 13
abbrev F_loops_Crossed : FuncId := 14
abbrev F_lateenref11_Crossed : FuncId := 15
abbrev F_lateenref09_Few : FuncId := 16
abbrev F_dom_Nearest : FuncId := 17
abbrev F_flow_Order : FuncId := 18
abbrev F_dom_Dominates : FuncId := 19
abbrev F_lateenref09_Leads : FuncId := 20
abbrev F_lateenlaw11_has : FuncId := 21
abbrev F_lateenref09_SameLists : FuncId := 22
abbrev F_lateenref09_Same : FuncId := 23
abbrev F_flow_Preds : FuncId := 24
abbrev F_flow_Come : FuncId := 25
abbrev F_loops_backs : FuncId := 26
abbrev F_loops_body : FuncId := 27
abbrev F_lateenref10_All : FuncId := 28
abbrev F_lateenref11_steps : FuncId := 29
abbrev F_lateenref11_ways : FuncId := 30
abbrev F_slices_Contains : FuncId := 31
abbrev F_dom_ranks : FuncId := 32
abbrev F_dom_meet : FuncId := 33
abbrev F_flow_walk : FuncId := 34
abbrev F_slices_Reverse : FuncId := 35
abbrev F_slices_Clone : FuncId := 36
abbrev F_lateenref09_Come : FuncId := 37
abbrev F_lateenref10_Without : FuncId := 38
abbrev F_slices_Index : FuncId := 39
abbrev F_lateenref09_down : FuncId := 40
def ty : Tys :=
  { tk := [(3, .int .i64), (4, .bool), (32, .sl), (40, .agg 3), (43, .sl)]
    sl := [(22, si_LLint), (26, si_Llateenref11_Loop), (28, si_Lloops_Loop), (32, si_Lint), (43, si_Lbool), (46, si_LLbool), (61, si_Lflow_step)]
    zs := [(40, .agg #[.int .i64 0, .slice none 0 0, .slice none 0 0])]
    off := [((35, 0), 0), ((35, 1), 1), ((35, 2), 2), ((40, 0), 0), ((40, 1), 1), ((40, 2), 2), ((60, 0), 0), ((60, 1), 1)]
    res := [(0, []), (3, [.int .i64]), (4, [.bool]), (22, [.sl]), (26, [.sl]), (28, [.sl]), (32, [.sl]), (43, [.sl]), (46, [.sl]), (52, [.sl, .sl])]
    fns := [8, 9, 10, 11, 12, 13, 14, 15, 16, 17, 18, 19, 20, 21, 22, 23, 24, 25, 26, 27, 28, 29, 30, 31, 32, 33, 34, 35, 36, 37, 38, 39, 40]
    bs := [(35, ([(0, 1), (1, 1), (2, 1)], .agg #[.int .i64 0, .slice none 0 0, .slice none 0 0])), (40, ([(0, 1), (1, 1), (2, 1)], .agg #[.int .i64 0, .slice none 0 0, .slice none 0 0])), (60, ([(0, 1), (1, 1)], .agg #[.int .i64 0, .int .i64 0]))]
    mp := [(55, ((.int .i64), .bool false, .bool))] }
theorem ty_ok : TOk Try.prog ty where
  tk := (List.forall_mem_cons.2 ⟨⟨⟨_, Try.underlying3, rfl, rfl⟩, by kernel_rfl⟩, List.forall_mem_cons.2 ⟨⟨⟨_, Try.underlying4, rfl, rfl⟩, by kernel_rfl⟩, List.forall_mem_cons.2 ⟨⟨⟨_, Try.underlying32, rfl, ⟨_, rfl⟩⟩, by kernel_rfl⟩, List.forall_mem_cons.2 ⟨⟨⟨_, Try.underlying40, rfl, trivial⟩, by kernel_rfl⟩, List.forall_mem_cons.2 ⟨⟨⟨_, Try.underlying43, rfl, ⟨_, rfl⟩⟩, by kernel_rfl⟩, List.forall_mem_nil _⟩⟩⟩⟩⟩)
  sl := (List.forall_mem_cons.2 ⟨⟨Try.underlying22, by kernel_rfl, by kernel_rfl, by decide⟩, List.forall_mem_cons.2 ⟨⟨Try.underlying26, by kernel_rfl, by kernel_rfl, by decide⟩, List.forall_mem_cons.2 ⟨⟨Try.underlying28, by kernel_rfl, by kernel_rfl, by decide⟩, List.forall_mem_cons.2 ⟨⟨Try.underlying32, by kernel_rfl, by kernel_rfl, by decide⟩, List.forall_mem_cons.2 ⟨⟨Try.underlying43, by kernel_rfl, by kernel_rfl, by decide⟩, List.forall_mem_cons.2 ⟨⟨Try.underlying46, by kernel_rfl, by kernel_rfl, by decide⟩, List.forall_mem_cons.2 ⟨⟨Try.underlying61, by kernel_rfl, by kernel_rfl, by decide⟩, List.forall_mem_nil _⟩⟩⟩⟩⟩⟩⟩)
  zs := (List.forall_mem_cons.2 ⟨(show ZsOk _ _ by unfold ZsOk; kernel_rfl), List.forall_mem_nil _⟩)
  off := (List.forall_mem_cons.2 ⟨⟨_, _, Try.underlying35, rfl, rfl, by kernel_rfl⟩, List.forall_mem_cons.2 ⟨⟨_, _, Try.underlying35, rfl, rfl, by kernel_rfl⟩, List.forall_mem_cons.2 ⟨⟨_, _, Try.underlying35, rfl, rfl, by kernel_rfl⟩, List.forall_mem_cons.2 ⟨⟨_, _, Try.underlying40, rfl, rfl, by kernel_rfl⟩, List.forall_mem_cons.2 ⟨⟨_, _, Try.underlying40, rfl, rfl, by kernel_rfl⟩, List.forall_mem_cons.2 ⟨⟨_, _, Try.underlying40, rfl, rfl, by kernel_rfl⟩, List.forall_mem_cons.2 ⟨⟨_, _, Try.underlying60, rfl, rfl, by kernel_rfl⟩, List.forall_mem_cons.2 ⟨⟨_, _, Try.underlying60, rfl, rfl, by kernel_rfl⟩, List.forall_mem_nil _⟩⟩⟩⟩⟩⟩⟩⟩)
  fns := (List.forall_mem_cons.2 ⟨(show FnOk _ _ by unfold FnOk; kernel_rfl), List.forall_mem_cons.2 ⟨(show FnOk _ _ by unfold FnOk; kernel_rfl), List.forall_mem_cons.2 ⟨(show FnOk _ _ by unfold FnOk; kernel_rfl), List.forall_mem_cons.2 ⟨(show FnOk _ _ by unfold FnOk; kernel_rfl), List.forall_mem_cons.2 ⟨(show FnOk _ _ by unfold FnOk; kernel_rfl), List.forall_mem_cons.2 ⟨(show FnOk _ _ by unfold FnOk; kernel_rfl), List.forall_mem_cons.2 ⟨(show FnOk _ _ by unfold FnOk; kernel_rfl), List.forall_mem_cons.2 ⟨(show FnOk _ _ by unfold FnOk; kernel_rfl), List.forall_mem_cons.2 ⟨(show FnOk _ _ by unfold FnOk; kernel_rfl), List.forall_mem_cons.2 ⟨(show FnOk _ _ by unfold FnOk; kernel_rfl), List.forall_mem_cons.2 ⟨(show FnOk _ _ by unfold FnOk; kernel_rfl), List.forall_mem_cons.2 ⟨(show FnOk _ _ by unfold FnOk; kernel_rfl), List.forall_mem_cons.2 ⟨(show FnOk _ _ by unfold FnOk; kernel_rfl), List.forall_mem_cons.2 ⟨(show FnOk _ _ by unfold FnOk; kernel_rfl), List.forall_mem_cons.2 ⟨(show FnOk _ _ by unfold FnOk; kernel_rfl), List.forall_mem_cons.2 ⟨(show FnOk _ _ by unfold FnOk; kernel_rfl), List.forall_mem_cons.2 ⟨(show FnOk _ _ by unfold FnOk; kernel_rfl), List.forall_mem_cons.2 ⟨(show FnOk _ _ by unfold FnOk; kernel_rfl), List.forall_mem_cons.2 ⟨(show FnOk _ _ by unfold FnOk; kernel_rfl), List.forall_mem_cons.2 ⟨(show FnOk _ _ by unfold FnOk; kernel_rfl), List.forall_mem_cons.2 ⟨(show FnOk _ _ by unfold FnOk; kernel_rfl), List.forall_mem_cons.2 ⟨(show FnOk _ _ by unfold FnOk; kernel_rfl), List.forall_mem_cons.2 ⟨(show FnOk _ _ by unfold FnOk; kernel_rfl), List.forall_mem_cons.2 ⟨(show FnOk _ _ by unfold FnOk; kernel_rfl), List.forall_mem_cons.2 ⟨(show FnOk _ _ by unfold FnOk; kernel_rfl), List.forall_mem_cons.2 ⟨(show FnOk _ _ by unfold FnOk; kernel_rfl), List.forall_mem_cons.2 ⟨(show FnOk _ _ by unfold FnOk; kernel_rfl), List.forall_mem_cons.2 ⟨(show FnOk _ _ by unfold FnOk; kernel_rfl), List.forall_mem_cons.2 ⟨(show FnOk _ _ by unfold FnOk; kernel_rfl), List.forall_mem_cons.2 ⟨(show FnOk _ _ by unfold FnOk; kernel_rfl), List.forall_mem_cons.2 ⟨(show FnOk _ _ by unfold FnOk; kernel_rfl), List.forall_mem_cons.2 ⟨(show FnOk _ _ by unfold FnOk; kernel_rfl), List.forall_mem_cons.2 ⟨(show FnOk _ _ by unfold FnOk; kernel_rfl), List.forall_mem_nil _⟩⟩⟩⟩⟩⟩⟩⟩⟩⟩⟩⟩⟩⟩⟩⟩⟩⟩⟩⟩⟩⟩⟩⟩⟩⟩⟩⟩⟩⟩⟩⟩⟩)
  bs := (List.forall_mem_cons.2 ⟨⟨_, Try.underlying35, by kernel_rfl, by kernel_rfl⟩, List.forall_mem_cons.2 ⟨⟨_, Try.underlying40, by kernel_rfl, by kernel_rfl⟩, List.forall_mem_cons.2 ⟨⟨_, Try.underlying60, by kernel_rfl, by kernel_rfl⟩, List.forall_mem_nil _⟩⟩⟩)
  mp := (List.forall_mem_cons.2 ⟨⟨3, 4, Try.underlying55, by kernel_rfl, (show ZsOk _ _ by unfold ZsOk; kernel_rfl)⟩, List.forall_mem_nil _⟩)
theorem mixed : Try.prog.follows .mixedOrders = true := by kernel_rfl

/-- lateen/lateenlaw11.LoopsAlls -/
def lateenlaw11_LoopsAlls (g : Sl) (h : Heap) (K : Value → Heap → Prop) : Prop :=
  joinW (fun _ (t : Bool) h_1 =>
    ifB t
     (ACalls Try.prog F_lateenlaw11_awake [] h_1 fun v h_2 => as1 .bool v fun r =>
     K (.bool r) h_2)
     (joinW (fun _ (t_1 : Bool) h_3 =>
    K (.bool t_1) h_3) fun k_1 =>
  ACalls Try.prog F_loops_All [g.v] h_1 fun v_1 h_4 => as1 .sl v_1 fun r_1 =>
  ACalls Try.prog F_lateenlaw11_back [r_1.v] h_4 fun v_2 h_5 => as1 .sl v_2 fun r_2 =>
  ACalls Try.prog F_lateenref11_All [g.v] h_5 fun v_3 h_6 => as1 .sl v_3 fun r_3 =>
  ACalls Try.prog F_lateenref11_Same [r_2.v, r_3.v] h_6 fun v_4 h_7 => as1 .bool v_4 fun r_4 =>
  ifB r_4
   (ACalls Try.prog F_loops_Crossed [g.v] h_7 fun v_5 h_8 => as1 .bool v_5 fun r_5 =>
    ACalls Try.prog F_lateenref11_Crossed [g.v] h_8 fun v_6 h_9 => as1 .bool v_6 fun r_6 =>
      k_1 (r_5 == r_6) h_9)
   (k_1 false h_7))) fun k =>
  ACalls Try.prog F_lateenlaw11_awake [] h fun v_7 h_10 => as1 .bool v_7 fun r_7 =>
  ifB (!r_7)
   (k true h_10)
   (ACalls Try.prog F_lateenlaw11_few [g.v] h_10 fun v_8 h_11 => as1 .bool v_8 fun r_8 =>
    k (!r_8) h_11)
def lateenlaw11_LoopsAlls_a : Ann := (.seq .leaf (.seq (.join [(9, .bool)] [0] .leaf (.cond (.seq .leaf .leaf) .leaf)) (.join [(2, .bool)] [] .leaf .leaf)))
theorem lateenlaw11_LoopsAlls_eq (g : Sl) (h : Heap) (K : Value → Heap → Prop) : lateenlaw11_LoopsAlls g h K = fnW Try.prog ty lateenlaw11_LoopsAlls_a (bodyOf Try.f3) [.tmp 2] [g.v] h K := by kernel_rfl
theorem lateenlaw11_LoopsAlls_of {g : Sl} {h : Heap} {K : Value → Heap → Prop} (hw : lateenlaw11_LoopsAlls g h K) : ACalls Try.prog F_lateenlaw11_LoopsAlls [g.v] h K :=
  calls_sound ty_ok mixed lateenlaw11_LoopsAlls_a (c := bodyOf Try.f3) Try.func3 (by kernel_rfl) (by kernel_rfl) (by kernel_rfl) (Nat.le_of_ble_eq_true rfl) (by rw [lateenlaw11_LoopsAlls_eq] at hw; exact hw)

/-- lateen/lateenlaw11.LoopsRound -/
def lateenlaw11_LoopsRound (g : Sl) (h : Heap) (K : Value → Heap → Prop) : Prop :=
  joinW (fun _ (t : Bool) h_1 =>
    ifB t
     (ACalls Try.prog F_lateenlaw11_awake [] h_1 fun v h_2 => as1 .bool v fun r =>
     K (.bool r) h_2)
     (ACalls Try.prog F_dom_Nearest [g.v] h_1 fun v_1 h_3 => as1 .sl v_1 fun r_1 =>
  ACalls Try.prog F_loops_All [g.v] h_3 fun v_2 h_4 => as1 .sl v_2 fun r_2 =>
  ACalls Try.prog F_flow_Order [g.v] h_4 fun v_3 h_5 => as1 .sl v_3 fun r_3 =>
  loopW (fun _ (i : Int) h_6 next =>
    ifB (decide (i < (r_2.len : Int)))
     (loopW (fun _ (k_1 : Int) h_7 next_1 =>
      idx 3 r_2 i fun p =>
      ld .sl h_7 (p.add 1) fun (x : Sl) =>
      ifB (decide (k_1 < (x.len : Int)))
       (idx 3 r_2 i fun p_1 =>
      ld .sl h_7 (p_1.add 1) fun (x_1 : Sl) =>
      idx 1 x_1 k_1 fun p_2 =>
      ld (.int .i64) h_7 p_2 fun (x_2 : Int) =>
      idx 3 r_2 i fun p_3 =>
      ld (.int .i64) h_7 (p_3.add 0) fun (x_3 : Int) =>
      ACalls Try.prog F_dom_Dominates [r_1.v, .int .i64 x_3, .int .i64 x_2] h_7 fun v_4 h_8 => as1 .bool v_4 fun r_4 =>
      ifB (!r_4)
       (K (.bool false) h_8)
       (loopW (fun _ (j : Int) h_9 next_2 =>
        ifB (decide (j < (r_3.len : Int)))
         (joinW (fun _ (t_1 : Bool) h_10 =>
          ifB t_1
           (K (.bool false) h_10)
           (ar .i64 (j + 1) fun n =>
        next_2 n h_10)) fun k_2 =>
        idx 3 r_2 i fun p_4 =>
        ld (.int .i64) h_9 (p_4.add 0) fun (x_4 : Int) =>
        ifB (x_2 != x_4)
         (idx 1 r_3 j fun p_5 =>
            ld (.int .i64) h_9 p_5 fun (x_5 : Int) =>
             callQ Try.prog F_lateenref09_Leads [g.v, .int .i64 x_5, .int .i64 x_2] h_9 fun v_5 => as1 .bool v_5 fun r_5 =>
               ifB r_5
                (idx 3 r_2 i fun p_6 =>
                  ld .sl h_9 (p_6.add 1) fun (x_6 : Sl) =>
                    idx 1 r_3 j fun p_7 =>
                       ld (.int .i64) h_9 p_7 fun (x_7 : Int) =>
                        callQ Try.prog F_lateenlaw11_has [x_6.v, .int .i64 x_7] h_9 fun v_6 => as1 .bool v_6 fun r_6 =>
                         k_2 (!r_6) h_9)
                (k_2 false h_9))
         (k_2 false h_9))
         (ar .i64 (k_1 + 1) fun n_1 =>
      next_1 n_1 h_9)) 0 h_8))
       (ar .i64 (i + 1) fun n_2 =>
    next n_2 h_7)) 0 h_6)
     (ACalls Try.prog F_loops_Crossed [g.v] h_6 fun v_7 h_11 => as1 .bool v_7 fun r_7 =>
  ifB r_7
   (K (.bool true) h_11)
   (loopW (fun _ (i_1 : Int) h_12 next_3 =>
    ifB (decide (i_1 < (r_3.len : Int)))
     (loopW (fun _ (k_3 : Int) h_13 next_4 =>
      ifB (decide (k_3 ≤ i_1))
       (joinW (fun _ (_ : Unit) h_14 =>
        ar .i64 (k_3 + 1) fun n_3 =>
        next_4 n_3 h_14) fun k_4 =>
      idx 1 r_3 i_1 fun p_8 =>
      ld (.int .i64) h_13 p_8 fun (x_8 : Int) =>
      idx 1 r_3 k_3 fun p_9 =>
      ld (.int .i64) h_13 p_9 fun (x_9 : Int) =>
      ACalls Try.prog F_lateenref09_Leads [g.v, .int .i64 x_8, .int .i64 x_9] h_13 fun v_8 h_15 => as1 .bool v_8 fun r_8 =>
      ifB (!r_8)
       (k_4 () h_15)
       (loopW (fun _ (q_inv : Bool × Int) h_16 next_5 =>
        ifB (decide (q_inv.2 < (r_2.len : Int)))
         (joinW (fun _ (inv_1 : Bool) h_17 =>
          ar .i64 (q_inv.2 + 1) fun n_4 =>
          next_5 (inv_1, n_4) h_17) fun k_5 =>
        ifB q_inv.1
         (k_5 true h_16)
         (idx 3 r_2 q_inv.2 fun p_10 =>
           ld (.int .i64) h_16 (p_10.add 0) fun (x_10 : Int) =>
             idx 1 r_3 k_3 fun p_11 =>
                ld (.int .i64) h_16 p_11 fun (x_11 : Int) =>
                 ifB (x_10 == x_11)
                    (idx 3 r_2 q_inv.2 fun p_12 =>
                      ld .sl h_16 (p_12.add 2) fun (x_12 : Sl) =>
                        idx 1 r_3 i_1 fun p_13 =>
                           ld (.int .i64) h_16 p_13 fun (x_13 : Int) =>
                            callQ Try.prog F_lateenlaw11_has [x_12.v, .int .i64 x_13] h_16 fun v_9 => as1 .bool v_9 fun r_9 =>
                             ifB r_9
                                (idx 3 r_2 q_inv.2 fun p_14 =>
                                  ld .sl h_16 (p_14.add 1) fun (x_14 : Sl) =>
                                    idx 1 r_3 i_1 fun p_15 =>
                                       ld (.int .i64) h_16 p_15 fun (x_15 : Int) =>
                                        callQ Try.prog F_lateenlaw11_has [x_14.v, .int .i64 x_15] h_16 fun v_10 => as1 .bool v_10 fun r_10 =>
                                         k_5 r_10 h_16)
                                (k_5 false h_16))
                    (k_5 false h_16)))
         (ifB (!q_inv.1)
       (K (.bool false) h_16)
       (k_4 () h_16))) (false, 0) h_15))
       (ar .i64 (i_1 + 1) fun n_5 =>
    next_3 n_5 h_13)) 0 h_12)
     (K (.bool true) h_12)) 0 h_11))) 0 h_5)) fun k =>
  ACalls Try.prog F_lateenlaw11_awake [] h fun v_11 h_18 => as1 .bool v_11 fun r_11 =>
  ifB (!r_11)
   (k true h_18)
   (ACalls Try.prog F_lateenref09_Few [g.v, .int .i64 60] h_18 fun v_12 h_19 => as1 .bool v_12 fun r_12 =>
    k (!r_12) h_19)
def lateenlaw11_LoopsRound_a : Ann := (.seq .leaf (.seq (.join [(20, .bool)] [0] .leaf (.cond (.seq .leaf .leaf) .leaf)) (.seq .leaf (.seq .leaf (.seq .leaf (.seq (.seq .leaf (.block (.loop [(6, .int .i64)] [0, 3, 4, 5] (.seq (.seq .leaf (.cond .leaf .leaf)) (.seq (.block (.seq .leaf (.block (.loop [(7, .int .i64)] [0, 3, 4, 5, 6] (.seq (.seq .leaf (.cond .leaf .leaf)) (.seq (.block (.seq .leaf (.seq (.seq .leaf (.cond (.seq .leaf .leaf) .leaf)) (.seq .leaf (.block (.loop [(9, .int .i64)] [0, 3, 4, 5, 6, 7, 8] (.seq (.seq .leaf (.cond .leaf .leaf)) (.seq (.block (.join [(95, .bool)] [0, 3, 4, 5, 6, 7, 8, 9] .quiet (.cond (.seq .leaf .leaf) .leaf))) .leaf)))))))) .leaf)))))) .leaf))))) (.seq (.seq .leaf (.cond (.seq .leaf .leaf) .leaf)) (.seq (.seq .leaf (.block (.loop [(10, .int .i64)] [0, 4, 5] (.seq (.seq .leaf (.cond .leaf .leaf)) (.seq (.block (.seq .leaf (.block (.loop [(11, .int .i64)] [0, 4, 5, 10] (.seq (.seq .leaf (.cond .leaf .leaf)) (.join [] [0, 4, 5, 10, 11] (.block (.seq (.seq .leaf (.cond .leaf .leaf)) (.seq .leaf (.seq (.seq .leaf (.block (.loop [(12, .bool), (13, .int .i64)] [0, 4, 5, 10, 11] (.seq (.seq .leaf (.cond .leaf .leaf)) (.join [(12, .bool)] [0, 4, 5, 10, 11, 13] (.block .quiet) .leaf))))) (.seq .leaf (.cond (.seq .leaf .leaf) .leaf)))))) .leaf)))))) .leaf))))) (.seq .leaf .leaf)))))))))
theorem lateenlaw11_LoopsRound_eq (g : Sl) (h : Heap) (K : Value → Heap → Prop) : lateenlaw11_LoopsRound g h K = fnW Try.prog ty lateenlaw11_LoopsRound_a (bodyOf Try.f4) [.tmp 2] [g.v] h K := by kernel_rfl
theorem lateenlaw11_LoopsRound_of {g : Sl} {h : Heap} {K : Value → Heap → Prop} (hw : lateenlaw11_LoopsRound g h K) : ACalls Try.prog F_lateenlaw11_LoopsRound [g.v] h K :=
  calls_sound ty_ok mixed lateenlaw11_LoopsRound_a (c := bodyOf Try.f4) Try.func4 (by kernel_rfl) (by kernel_rfl) (by kernel_rfl) (Nat.le_of_ble_eq_true rfl) (by rw [lateenlaw11_LoopsRound_eq] at hw; exact hw)

/-- lateen/lateenlaw11.LoopsNest -/
def lateenlaw11_LoopsNest (g : Sl) (h : Heap) (K : Value → Heap → Prop) : Prop :=
  joinW (fun _ (t : Bool) h_1 =>
    ifB t
     (ACalls Try.prog F_lateenlaw11_awake [] h_1 fun v h_2 => as1 .bool v fun r =>
     K (.bool r) h_2)
     (ACalls Try.prog F_loops_All [g.v] h_1 fun v_1 h_3 => as1 .sl v_1 fun r_1 =>
  loopW (fun _ (i : Int) h_4 next =>
    ifB (decide (i < (r_1.len : Int)))
     (loopW (fun _ (k_1 : Int) h_5 next_1 =>
      ifB (decide (k_1 < i))
       (loopW (fun _ (q_n : Int × Int) h_6 next_2 =>
        idx 3 r_1 i fun p =>
        ld .sl h_6 (p.add 1) fun (x : Sl) =>
        ifB (decide (q_n.2 < (x.len : Int)))
         (joinW (fun _ (n_1 : Int) h_7 =>
          ar .i64 (q_n.2 + 1) fun n_2 =>
          next_2 (n_1, n_2) h_7) fun k_2 =>
        idx 3 r_1 k_1 fun p_1 =>
        ld .sl h_6 (p_1.add 1) fun (x_1 : Sl) =>
        idx 3 r_1 i fun p_2 =>
        ld .sl h_6 (p_2.add 1) fun (x_2 : Sl) =>
        idx 1 x_2 q_n.2 fun p_3 =>
        ld (.int .i64) h_6 p_3 fun (x_3 : Int) =>
        ACalls Try.prog F_lateenlaw11_has [x_1.v, .int .i64 x_3] h_6 fun v_2 h_8 => as1 .bool v_2 fun r_2 =>
        hExt h_6 h_8 ∧ ifB r_2
         (ar .i64 (q_n.1 + 1) fun n_3 =>
         k_2 n_3 h_8)
         (k_2 q_n.1 h_8))
         (joinW (fun _ (t_1 : Bool) h_9 =>
        ifB t_1
         (K (.bool false) h_9)
         (ar .i64 (k_1 + 1) fun n_4 =>
      next_1 n_4 h_9)) fun k_3 =>
      ifB (q_n.1 != 0)
       (idx 3 r_1 i fun p_4 =>
          ld .sl h_6 (p_4.add 1) fun (x_4 : Sl) =>
            ifB (q_n.1 != (x_4.len : Int))
               (idx 3 r_1 k_1 fun p_5 =>
                  ld .sl h_6 (p_5.add 1) fun (x_5 : Sl) =>
                    k_3 (q_n.1 != (x_5.len : Int)) h_6)
               (k_3 false h_6))
       (k_3 false h_6))) (0, 0) h_5)
       (ar .i64 (i + 1) fun n_5 =>
    next n_5 h_5)) 0 h_4)
     (K (.bool true) h_4)) 0 h_3)) fun k =>
  ACalls Try.prog F_lateenlaw11_awake [] h fun v_3 h_10 => as1 .bool v_3 fun r_3 =>
  ifB (!r_3)
   (k true h_10)
   (ACalls Try.prog F_lateenref09_Few [g.v, .int .i64 60] h_10 fun v_4 h_11 => as1 .bool v_4 fun r_4 =>
    k (!r_4) h_11)
def lateenlaw11_LoopsNest_a : Ann := (.seq .leaf (.seq (.join [(14, .bool)] [0] .leaf (.cond (.seq .leaf .leaf) .leaf)) (.seq .leaf (.seq (.seq .leaf (.block (.loop [(4, .int .i64)] [3] (.seq (.seq .leaf (.cond .leaf .leaf)) (.seq (.block (.seq .leaf (.block (.loop [(5, .int .i64)] [3, 4] (.seq (.seq .leaf (.cond .leaf .leaf)) (.seq (.block (.seq .leaf (.seq (.seq .leaf (.block (.loop [(6, .int .i64), (7, .int .i64)] [3, 4, 5] (.seq (.seq .leaf (.cond .leaf .leaf)) (.join [(6, .int .i64)] [3, 4, 5, 7] (.block (.seq .based (.cond .leaf .leaf))) .leaf))))) (.join [(76, .bool)] [3, 4, 5] .leaf (.cond (.seq .leaf .leaf) .leaf))))) .leaf)))))) .leaf))))) (.seq .leaf .leaf)))))
theorem lateenlaw11_LoopsNest_eq (g : Sl) (h : Heap) (K : Value → Heap → Prop) : lateenlaw11_LoopsNest g h K = fnW Try.prog ty lateenlaw11_LoopsNest_a (bodyOf Try.f5) [.tmp 2] [g.v] h K := by kernel_rfl
theorem lateenlaw11_LoopsNest_of {g : Sl} {h : Heap} {K : Value → Heap → Prop} (hw : lateenlaw11_LoopsNest g h K) : ACalls Try.prog F_lateenlaw11_LoopsNest [g.v] h K :=
  calls_sound ty_ok mixed lateenlaw11_LoopsNest_a (c := bodyOf Try.f5) Try.func5 (by kernel_rfl) (by kernel_rfl) (by kernel_rfl) (Nat.le_of_ble_eq_true rfl) (by rw [lateenlaw11_LoopsNest_eq] at hw; exact hw)

/-- lateen/lateenlaw11.LoopsNone -/
def lateenlaw11_LoopsNone (g : Sl) (h : Heap) (K : Value → Heap → Prop) : Prop :=
  joinW (fun _ (t : Bool) h_1 =>
    ifB t
     (ACalls Try.prog F_lateenlaw11_awake [] h_1 fun v h_2 => as1 .bool v fun r =>
     K (.bool r) h_2)
     (loopW (fun _ (q_h_3 : Sl × Int) h_4 next =>
    ifB (decide (q_h_3.2 < (g.len : Int)))
     (loopW (fun _ (q_l : Sl × Int) h_5 next_1 =>
      idx 1 g q_h_3.2 fun p =>
      ld .sl h_5 p fun (x : Sl) =>
      ifB (decide (q_l.2 < (x.len : Int)))
       (joinW (fun _ (l_1 : Sl) h_6 =>
        ar .i64 (q_l.2 + 1) fun n =>
        next_1 (l_1, n) h_6) fun k_2 =>
      idx 1 g q_h_3.2 fun p_1 =>
      ld .sl h_5 p_1 fun (x_1 : Sl) =>
      idx 1 x_1 q_l.2 fun p_2 =>
      ld (.int .i64) h_5 p_2 fun (x_2 : Int) =>
      ifB (decide (x_2 > q_h_3.2))
       (idx 1 g q_h_3.2 fun p_3 =>
       ld .sl h_5 p_3 fun (x_3 : Sl) =>
       idx 1 x_3 q_l.2 fun p_4 =>
       ld (.int .i64) h_5 p_4 fun (x_4 : Int) =>
       bld si_Lint 1 [(0, .int .i64 x_4)] h_5 fun s h_7 =>
       app si_Lint q_l.1 s h_7 fun s_1 h_8 =>
       k_2 s_1 h_8)
       (k_2 q_l.1 h_5))
       (bld si_LLint 1 [(0, q_l.1.v)] h_5 fun s_2 h_9 =>
    app si_LLint q_h_3.1 s_2 h_9 fun s_3 h_10 =>
    ar .i64 (q_h_3.2 + 1) fun n_1 =>
    next (s_3, n_1) h_10)) ((⟨none, 0, 0⟩ : Sl), 0) h_4)
     (joinW (fun _ (t_1 : Bool) h_11 =>
    K (.bool t_1) h_11) fun k_3 =>
  ACalls Try.prog F_loops_All [q_h_3.1.v] h_4 fun v_1 h_12 => as1 .sl v_1 fun r_1 =>
  ifB ((r_1.len : Int) == 0)
   (ACalls Try.prog F_loops_Crossed [q_h_3.1.v] h_12 fun v_2 h_13 => as1 .bool v_2 fun r_2 =>
    k_3 (!r_2) h_13)
   (k_3 false h_12))) ((⟨none, 0, 0⟩ : Sl), 0) h_1)) fun k =>
  ACalls Try.prog F_lateenlaw11_awake [] h fun v_3 h_14 => as1 .bool v_3 fun r_3 =>
  ifB (!r_3)
   (k true h_14)
   (ACalls Try.prog F_lateenref09_Few [g.v, .int .i64 60] h_14 fun v_4 h_15 => as1 .bool v_4 fun r_4 =>
    k (!r_4) h_15)
def lateenlaw11_LoopsNone_a : Ann := (.seq .leaf (.seq (.join [(13, .bool)] [0] .leaf (.cond (.seq .leaf .leaf) .leaf)) (.seq .leaf (.seq (.seq .leaf (.block (.loop [(3, .sl), (4, .int .i64)] [0] (.seq (.seq .leaf (.cond .leaf .leaf)) (.seq (.block (.seq .leaf (.seq (.seq .leaf (.block (.loop [(5, .sl), (6, .int .i64)] [0, 3, 4] (.seq (.seq .leaf (.cond .leaf .leaf)) (.join [(5, .sl)] [0, 3, 4, 6] (.block (.seq .leaf (.cond .leaf .leaf))) .leaf))))) .leaf))) .leaf))))) (.join [(2, .bool)] [] .leaf .leaf)))))
theorem lateenlaw11_LoopsNone_eq (g : Sl) (h : Heap) (K : Value → Heap → Prop) : lateenlaw11_LoopsNone g h K = fnW Try.prog ty lateenlaw11_LoopsNone_a (bodyOf Try.f6) [.tmp 2] [g.v] h K := by kernel_rfl
theorem lateenlaw11_LoopsNone_of {g : Sl} {h : Heap} {K : Value → Heap → Prop} (hw : lateenlaw11_LoopsNone g h K) : ACalls Try.prog F_lateenlaw11_LoopsNone [g.v] h K :=
  calls_sound ty_ok mixed lateenlaw11_LoopsNone_a (c := bodyOf Try.f6) Try.func6 (by kernel_rfl) (by kernel_rfl) (by kernel_rfl) (Nat.le_of_ble_eq_true rfl) (by rw [lateenlaw11_LoopsNone_eq] at hw; exact hw)

/-- lateen/lateenlaw11.LoopsKeeps -/
def lateenlaw11_LoopsKeeps (g : Sl) (h : Heap) (K : Value → Heap → Prop) : Prop :=
  joinW (fun _ (t : Bool) h_1 =>
    ifB t
     (ACalls Try.prog F_lateenlaw11_awake [] h_1 fun v h_2 => as1 .bool v fun r =>
     K (.bool r) h_2)
     (loopW (fun _ (q_was : Sl × Int) h_3 next =>
    ifB (decide (q_was.2 < (g.len : Int)))
     (bld si_Lint 0 [] h_3 fun s h_4 =>
    idx 1 g q_was.2 fun p =>
    ld .sl h_4 p fun (x : Sl) =>
    app si_Lint s x h_4 fun s_1 h_5 =>
    bld si_LLint 1 [(0, s_1.v)] h_5 fun s_2 h_6 =>
    app si_LLint q_was.1 s_2 h_6 fun s_3 h_7 =>
    ar .i64 (q_was.2 + 1) fun n =>
    next (s_3, n) h_7)
     (ACalls Try.prog F_loops_All [g.v] h_3 fun v_1 h_8 => as1 .sl v_1 fun r_1 =>
  loopW (fun _ (i_1 : Int) h_9 next_1 =>
    ifB (decide (i_1 < (r_1.len : Int)))
     (loopW (fun _ (k_1 : Int) h_10 next_2 =>
      idx 3 r_1 i_1 fun p_1 =>
      ld .sl h_10 (p_1.add 1) fun (x_1 : Sl) =>
      ifB (decide (k_1 < (x_1.len : Int)))
       (idx 3 r_1 i_1 fun p_2 =>
      ld .sl h_10 (p_2.add 1) fun (x_2 : Sl) =>
      idx 1 x_2 k_1 fun p_3 =>
      st [.int .i64 (-7)] h_10 p_3 fun h_11 =>
      ar .i64 (k_1 + 1) fun n_1 =>
      next_2 n_1 h_11)
       (loopW (fun _ (k_2 : Int) h_12 next_3 =>
      idx 3 r_1 i_1 fun p_4 =>
      ld .sl h_12 (p_4.add 2) fun (x_3 : Sl) =>
      ifB (decide (k_2 < (x_3.len : Int)))
       (idx 3 r_1 i_1 fun p_5 =>
      ld .sl h_12 (p_5.add 2) fun (x_4 : Sl) =>
      idx 1 x_4 k_2 fun p_6 =>
      st [.int .i64 (-7)] h_12 p_6 fun h_13 =>
      ar .i64 (k_2 + 1) fun n_2 =>
      next_3 n_2 h_13)
       (ar .i64 (i_1 + 1) fun n_3 =>
    next_1 n_3 h_12)) 0 h_10)) 0 h_9)
     (joinW (fun _ (t_1 : Bool) h_14 =>
    K (.bool t_1) h_14) fun k_3 =>
  ACalls Try.prog F_lateenref09_SameLists [g.v, q_was.1.v] h_9 fun v_2 h_15 => as1 .bool v_2 fun r_2 =>
  ifB r_2
   (ACalls Try.prog F_loops_All [g.v] h_15 fun v_3 h_16 => as1 .sl v_3 fun r_3 =>
    ACalls Try.prog F_lateenlaw11_back [r_3.v] h_16 fun v_4 h_17 => as1 .sl v_4 fun r_4 =>
     ACalls Try.prog F_lateenref11_All [g.v] h_17 fun v_5 h_18 => as1 .sl v_5 fun r_5 =>
       ACalls Try.prog F_lateenref11_Same [r_4.v, r_5.v] h_18 fun v_6 h_19 => as1 .bool v_6 fun r_6 =>
        k_3 r_6 h_19)
   (k_3 false h_15))) 0 h_8)) ((⟨none, 0, 0⟩ : Sl), 0) h_1)) fun k =>
  ACalls Try.prog F_lateenlaw11_awake [] h fun v_7 h_20 => as1 .bool v_7 fun r_7 =>
  ifB (!r_7)
   (k true h_20)
   (ACalls Try.prog F_lateenlaw11_few [g.v] h_20 fun v_8 h_21 => as1 .bool v_8 fun r_8 =>
    k (!r_8) h_21)
def lateenlaw11_LoopsKeeps_a : Ann := (.seq .leaf (.seq (.join [(15, .bool)] [0] .leaf (.cond (.seq .leaf .leaf) .leaf)) (.seq .leaf (.seq (.seq .leaf (.block (.loop [(3, .sl), (4, .int .i64)] [0] (.seq (.seq .leaf (.cond .leaf .leaf)) (.seq (.block .leaf) .leaf))))) (.seq .leaf (.seq (.seq .leaf (.block (.loop [(6, .int .i64)] [0, 3, 5] (.seq (.seq .leaf (.cond .leaf .leaf)) (.seq (.block (.seq (.seq .leaf (.block (.loop [(7, .int .i64)] [0, 3, 5, 6] (.seq (.seq .leaf (.cond .leaf .leaf)) (.seq (.block .leaf) .leaf))))) (.seq .leaf (.block (.loop [(8, .int .i64)] [0, 3, 5, 6] (.seq (.seq .leaf (.cond .leaf .leaf)) (.seq (.block .leaf) .leaf))))))) .leaf))))) (.join [(2, .bool)] [] .leaf .leaf)))))))
theorem lateenlaw11_LoopsKeeps_eq (g : Sl) (h : Heap) (K : Value → Heap → Prop) : lateenlaw11_LoopsKeeps g h K = fnW Try.prog ty lateenlaw11_LoopsKeeps_a (bodyOf Try.f7) [.tmp 2] [g.v] h K := by kernel_rfl
theorem lateenlaw11_LoopsKeeps_of {g : Sl} {h : Heap} {K : Value → Heap → Prop} (hw : lateenlaw11_LoopsKeeps g h K) : ACalls Try.prog F_lateenlaw11_LoopsKeeps [g.v] h K :=
  calls_sound ty_ok mixed lateenlaw11_LoopsKeeps_a (c := bodyOf Try.f7) Try.func7 (by kernel_rfl) (by kernel_rfl) (by kernel_rfl) (Nat.le_of_ble_eq_true rfl) (by rw [lateenlaw11_LoopsKeeps_eq] at hw; exact hw)

/-- lateen/lateenlaw11.awake -/
def lateenlaw11_awake  (h : Heap) (K : Value → Heap → Prop) : Prop :=
  bld si_Lint 1 [(0, .int .i64 1)] h fun s h_1 =>
  bld si_Lint 2 [(0, .int .i64 2), (1, .int .i64 3)] h_1 fun s_1 h_2 =>
  bld si_Lint 1 [(0, .int .i64 1)] h_2 fun s_2 h_3 =>
  bld si_LLint 4 [(0, s.v), (1, s_1.v), (2, s_2.v), (3, (⟨none, 0, 0⟩ : Sl).v)] h_3 fun s_3 h_4 =>
  ACalls Try.prog F_loops_All [s_3.v] h_4 fun v h_5 => as1 .sl v fun r =>
  bld si_Lint 2 [(0, .int .i64 1), (1, .int .i64 2)] h_5 fun s_4 h_6 =>
  bld si_Lint 1 [(0, .int .i64 2)] h_6 fun s_5 h_7 =>
  bld si_Lint 1 [(0, .int .i64 1)] h_7 fun s_6 h_8 =>
  bld si_LLint 3 [(0, s_4.v), (1, s_5.v), (2, s_6.v)] h_8 fun s_7 h_9 =>
  joinW (fun _ (t : Bool) h_10 =>
    K (.bool t) h_10) fun k =>
  ACalls Try.prog F_lateenlaw11_back [r.v] h_9 fun v_1 h_11 => as1 .sl v_1 fun r_1 =>
  bld si_Lint 2 [(0, .int .i64 1), (1, .int .i64 2)] h_11 fun s_8 h_12 =>
  bld si_Lint 1 [(0, .int .i64 2)] h_12 fun s_9 h_13 =>
  bst [(0, 1), (1, 1), (2, 1)] #[.int .i64 0, .slice none 0 0, .slice none 0 0] [(0, .int .i64 1), (1, s_8.v), (2, s_9.v)] fun c =>
  bld si_Llateenref11_Loop 1 [(0, .agg c)] h_13 fun s_10 h_14 =>
  ACalls Try.prog F_lateenref11_Same [r_1.v, s_10.v] h_14 fun v_2 h_15 => as1 .bool v_2 fun r_2 =>
  ifB r_2
   (ACalls Try.prog F_loops_Crossed [s_7.v] h_15 fun v_3 h_16 => as1 .bool v_3 fun r_3 =>
    ifB r_3
     (ACalls Try.prog F_loops_All [s_7.v] h_16 fun v_4 h_17 => as1 .sl v_4 fun r_4 =>
      k ((r_4.len : Int) == 0) h_17)
     (k false h_16))
   (k false h_15)
def lateenlaw11_awake_a : Ann := (.seq .leaf (.seq .leaf (.seq .leaf (.join [(0, .bool)] [] .leaf .leaf))))
theorem lateenlaw11_awake_eq  (h : Heap) (K : Value → Heap → Prop) : lateenlaw11_awake  h K = fnW Try.prog ty lateenlaw11_awake_a (bodyOf Try.f8) [.tmp 0] [] h K := by kernel_rfl
theorem lateenlaw11_awake_of  {h : Heap} {K : Value → Heap → Prop} (hw : lateenlaw11_awake  h K) : ACalls Try.prog F_lateenlaw11_awake [] h K :=
  calls_sound ty_ok mixed lateenlaw11_awake_a (c := bodyOf Try.f8) Try.func8 (by kernel_rfl) (by kernel_rfl) (by kernel_rfl) (Nat.le_of_ble_eq_true rfl) (by rw [lateenlaw11_awake_eq] at hw; exact hw)

/-- lateen/lateenlaw11.few -/
def lateenlaw11_few (g : Sl) (h : Heap) (K : Value → Heap → Prop) : Prop :=
  ACalls Try.prog F_lateenref09_Few [g.v, .int .i64 18] h fun v h_1 => as1 .bool v fun r =>
  K (.bool r) h_1
def lateenlaw11_few_a : Ann := (.seq .leaf (.seq .leaf .leaf))
theorem lateenlaw11_few_eq (g : Sl) (h : Heap) (K : Value → Heap → Prop) : lateenlaw11_few g h K = fnW Try.prog ty lateenlaw11_few_a (bodyOf Try.f9) [.tmp 2] [g.v] h K := by kernel_rfl
theorem lateenlaw11_few_of {g : Sl} {h : Heap} {K : Value → Heap → Prop} (hw : lateenlaw11_few g h K) : ACalls Try.prog F_lateenlaw11_few [g.v] h K :=
  calls_sound ty_ok mixed lateenlaw11_few_a (c := bodyOf Try.f9) Try.func9 (by kernel_rfl) (by kernel_rfl) (by kernel_rfl) (Nat.le_of_ble_eq_true rfl) (by rw [lateenlaw11_few_eq] at hw; exact hw)

/-- lateen/lateenref11.Same -/
def lateenref11_Same (a : Sl) (b : Sl) (h : Heap) (K : Value → Heap → Prop) : Prop :=
  ifB ((a.len : Int) != (b.len : Int))
   (K (.bool false) h)
   (loopW (fun _ (i : Int) h_1 next =>
    ifB (decide (i < (a.len : Int)))
     (joinW (fun _ (t : Bool) h_2 =>
      ifB t
       (K (.bool false) h_2)
       (ar .i64 (i + 1) fun n =>
    next n h_2)) fun k =>
    idx 3 a i fun p =>
    ld (.int .i64) h_1 (p.add 0) fun (x : Int) =>
    idx 3 b i fun p_1 =>
    ld (.int .i64) h_1 (p_1.add 0) fun (x_1 : Int) =>
    ifB (x != x_1)
     (k true h_1)
     (idx 3 a i fun p_2 =>
       ld .sl h_1 (p_2.add 1) fun (x_2 : Sl) =>
         idx 3 b i fun p_3 =>
            ld .sl h_1 (p_3.add 1) fun (x_3 : Sl) =>
              callQ Try.prog F_lateenref09_Same [x_2.v, x_3.v] h_1 fun v => as1 .bool v fun r =>
               ifB (!r)
                 (k true h_1)
                 (idx 3 a i fun p_4 =>
                   ld .sl h_1 (p_4.add 2) fun (x_4 : Sl) =>
                     idx 3 b i fun p_5 =>
                        ld .sl h_1 (p_5.add 2) fun (x_5 : Sl) =>
                          callQ Try.prog F_lateenref09_Same [x_4.v, x_5.v] h_1 fun v_1 => as1 .bool v_1 fun r_1 =>
                           k (!r_1) h_1)))
     (K (.bool true) h_1)) 0 h)
def lateenref11_Same_a : Ann := (.seq .leaf (.seq (.seq .leaf (.cond (.seq .leaf .leaf) .leaf)) (.seq (.seq .leaf (.block (.loop [(5, .int .i64)] [0, 1] (.seq (.seq .leaf (.cond .leaf .leaf)) (.seq (.block (.join [(55, .bool)] [0, 1, 5] .quiet (.cond (.seq .leaf .leaf) .leaf))) .leaf))))) (.seq .leaf .leaf))))
theorem lateenref11_Same_eq (a : Sl) (b : Sl) (h : Heap) (K : Value → Heap → Prop) : lateenref11_Same a b h K = fnW Try.prog ty lateenref11_Same_a (bodyOf Try.f10) [.tmp 4] [a.v, b.v] h K := by kernel_rfl
theorem lateenref11_Same_of {a : Sl} {b : Sl} {h : Heap} {K : Value → Heap → Prop} (hw : lateenref11_Same a b h K) : ACalls Try.prog F_lateenref11_Same [a.v, b.v] h K :=
  calls_sound ty_ok mixed lateenref11_Same_a (c := bodyOf Try.f10) Try.func10 (by kernel_rfl) (by kernel_rfl) (by kernel_rfl) (Nat.le_of_ble_eq_true rfl) (by rw [lateenref11_Same_eq] at hw; exact hw)

/-- lateen/lateenlaw11.back -/
def lateenlaw11_back (l : Sl) (h : Heap) (K : Value → Heap → Prop) : Prop :=
  loopW (fun _ (q_out : Sl × Int) h_1 next =>
    ifB (decide (q_out.2 < (l.len : Int)))
     (idx 3 l q_out.2 fun p =>
    ld (.int .i64) h_1 (p.add 0) fun (x : Int) =>
    idx 3 l q_out.2 fun p_1 =>
    ld .sl h_1 (p_1.add 1) fun (x_1 : Sl) =>
    idx 3 l q_out.2 fun p_2 =>
    ld .sl h_1 (p_2.add 2) fun (x_2 : Sl) =>
    bst [(0, 1), (1, 1), (2, 1)] #[.int .i64 0, .slice none 0 0, .slice none 0 0] [(0, .int .i64 x), (1, x_1.v), (2, x_2.v)] fun c =>
    bld si_Llateenref11_Loop 1 [(0, .agg c)] h_1 fun s h_2 =>
    app si_Llateenref11_Loop q_out.1 s h_2 fun s_1 h_3 =>
    ar .i64 (q_out.2 + 1) fun n =>
    next (s_1, n) h_3)
     (K q_out.1.v h_1)) ((⟨none, 0, 0⟩ : Sl), 0) h
def lateenlaw11_back_a : Ann := (.seq .leaf (.seq .leaf (.seq (.seq .leaf (.block (.loop [(3, .sl), (4, .int .i64)] [0] (.seq (.seq .leaf (.cond .leaf .leaf)) (.seq (.block .leaf) .leaf))))) (.seq .leaf .leaf))))
theorem lateenlaw11_back_eq (l : Sl) (h : Heap) (K : Value → Heap → Prop) : lateenlaw11_back l h K = fnW Try.prog ty lateenlaw11_back_a (bodyOf Try.f11) [.tmp 2] [l.v] h K := by kernel_rfl
theorem lateenlaw11_back_of {l : Sl} {h : Heap} {K : Value → Heap → Prop} (hw : lateenlaw11_back l h K) : ACalls Try.prog F_lateenlaw11_back [l.v] h K :=
  calls_sound ty_ok mixed lateenlaw11_back_a (c := bodyOf Try.f11) Try.func11 (by kernel_rfl) (by kernel_rfl) (by kernel_rfl) (Nat.le_of_ble_eq_true rfl) (by rw [lateenlaw11_back_eq] at hw; exact hw)

/-- lateen/loops.All -/
def loops_All (g : Sl) (h : Heap) (K : Value → Heap → Prop) : Prop :=
  ACalls Try.prog F_flow_Preds [g.v] h fun v h_1 => as1 .sl v fun r =>
  ACalls Try.prog F_flow_Come [g.v] h_1 fun v_1 h_2 => as1 .sl v_1 fun r_1 =>
  ACalls Try.prog F_loops_backs [g.v] h_2 fun v_2 h_3 => as1 .sl v_2 fun r_2 =>
  loopW (fun _ (q_out : Sl × Int) h_4 next =>
    ifB (decide (q_out.2 < (r_2.len : Int)))
     (joinW (fun _ (out_1 : Sl) h_5 =>
      ar .i64 (q_out.2 + 1) fun n =>
      next (out_1, n) h_5) fun k =>
    idx 1 r_2 q_out.2 fun p =>
    ld .sl h_4 p fun (x : Sl) =>
    ifB (decide ((x.len : Int) > 0))
     (ACalls Try.prog F_loops_body [r.v, r_1.v, .int .i64 q_out.2, x.v] h_4 fun v_3 h_6 => as1 .sl v_3 fun r_3 =>
     bst [(0, 1), (1, 1), (2, 1)] #[.int .i64 0, .slice none 0 0, .slice none 0 0] [(0, .int .i64 q_out.2), (1, r_3.v), (2, x.v)] fun c =>
     bld si_Lloops_Loop 1 [(0, .agg c)] h_6 fun s h_7 =>
     app si_Lloops_Loop q_out.1 s h_7 fun s_1 h_8 =>
     k s_1 h_8)
     (k q_out.1 h_4))
     (K q_out.1.v h_4)) ((⟨none, 0, 0⟩ : Sl), 0) h_3
def loops_All_a : Ann := (.seq .leaf (.seq .leaf (.seq .leaf (.seq .leaf (.seq (.seq .leaf (.block (.loop [(5, .sl), (15, .int .i64)] [3, 4, 13, 14] (.seq .leaf (.seq (.cond .leaf .leaf) (.join [(5, .sl)] [3, 4, 13, 14, 15] (.block (.seq .leaf (.seq .leaf (.cond .leaf .leaf)))) .leaf)))))) (.seq .leaf .leaf))))))
theorem loops_All_eq (g : Sl) (h : Heap) (K : Value → Heap → Prop) : loops_All g h K = fnW Try.prog ty loops_All_a (bodyOf Try.f12) [.tmp 2] [g.v] h K := by kernel_rfl
theorem loops_All_of {g : Sl} {h : Heap} {K : Value → Heap → Prop} (hw : loops_All g h K) : ACalls Try.prog F_loops_All [g.v] h K :=
  calls_sound ty_ok mixed loops_All_a (c := bodyOf Try.f12) Try.func12 (by kernel_rfl) (by kernel_rfl) (by kernel_rfl) (Nat.le_of_ble_eq_true rfl) (by rw [loops_All_eq] at hw; exact hw)

/-- lateen/lateenref11.All -/
def lateenref11_All (g : Sl) (h : Heap) (K : Value → Heap → Prop) : Prop :=
  ACalls Try.prog F_lateenref10_All [g.v] h fun v h_1 => as1 .sl v fun r =>
  ACalls Try.prog F_lateenref11_steps [g.v, .int .i64 (-1)] h_1 fun v_1 h_2 => as1 .sl v_1 fun r_1 =>
  loopW (fun _ (q_out : Sl × Int) h_4 next =>
    ifB (decide (q_out.2 < (g.len : Int)))
     (joinW (fun _ (out_1 : Sl) h_5 =>
      ar .i64 (q_out.2 + 1) fun n =>
      next (out_1, n) h_5) fun k =>
    bst [(0, 1), (1, 1), (2, 1)] #[.int .i64 0, .slice none 0 0, .slice none 0 0] [(0, .int .i64 q_out.2)] fun c =>
    new 40 #[.int .i64 0, .slice none 0 0, .slice none 0 0] h_4 fun p h_6 =>
    c.size = 3 ∧ st c.toList h_6 p fun h_7 =>
    loopW (fun _ (i : Int) h_8 next_1 =>
      ifB (decide (i < (g.len : Int)))
       (joinW (fun _ (_ : Unit) h_9 =>
        ar .i64 (i + 1) fun n_1 =>
        next_1 n_1 h_9) fun k_1 =>
      joinW (fun _ (t : Bool) h_10 =>
        ifB t
         (ld .sl h_10 (p.add 2) fun (x : Sl) =>
         bld si_Lint 1 [(0, .int .i64 i)] h_10 fun s h_11 =>
         app si_Lint x s h_11 fun s_1 h_12 =>
         st [s_1.v] h_12 (p.add 2) fun h_13 =>
         k_1 () h_13)
         (k_1 () h_10)) fun k_2 =>
      idx 1 r_1 i fun p_1 =>
      ld .sl h_8 p_1 fun (x_1 : Sl) =>
      idx 1 x_1 q_out.2 fun p_2 =>
      ld .bool h_8 p_2 fun (x_2 : Bool) =>
      ifB x_2
       (idx 1 r q_out.2 fun p_3 =>
         ld .sl h_8 p_3 fun (x_3 : Sl) =>
          idx 1 x_3 i fun p_4 =>
            ld .bool h_8 p_4 fun (x_4 : Bool) =>
             k_2 x_4 h_8)
       (k_2 false h_8))
       (ld .sl h_8 (p.add 2) fun (x_5 : Sl) =>
    ifB ((x_5.len : Int) == 0)
     (k q_out.1 h_8)
     (ACalls Try.prog F_lateenref11_steps [g.v, .int .i64 q_out.2] h_8 fun v_2 h_14 => as1 .sl v_2 fun r_2 =>
    ACalls Try.prog F_lateenref11_ways [r_2.v] h_14 fun v_3 h_15 => as1 .sl v_3 fun r_3 =>
    loopW (fun _ (i_1 : Int) h_16 next_2 =>
      ifB (decide (i_1 < (g.len : Int)))
       (joinW (fun _ (_ : Unit) h_17 =>
        ar .i64 (i_1 + 1) fun n_2 =>
        next_2 n_2 h_17) fun k_3 =>
      loopW (fun _ (q_inv : Bool × Int) h_18 next_3 =>
        ld .sl h_18 (p.add 2) fun (x_6 : Sl) =>
        ifB (decide (q_inv.2 < (x_6.len : Int)))
         (joinW (fun _ (inv_1 : Bool) h_19 =>
          ar .i64 (q_inv.2 + 1) fun n_3 =>
          next_3 (inv_1, n_3) h_19) fun k_5 =>
        ld .sl h_18 (p.add 2) fun (x_7 : Sl) =>
        idx 1 x_7 q_inv.2 fun p_5 =>
        ld (.int .i64) h_18 p_5 fun (x_8 : Int) =>
        ifB q_inv.1
         (k_5 true h_18)
         (ifB (x_8 == i_1)
             (ifB (x_8 != q_out.2)
                 (k_5 true h_18)
                 (ifB (i_1 != q_out.2)
                     (idx 1 r_3 i_1 fun p_6 =>
                       ld .sl h_18 p_6 fun (x_9 : Sl) =>
                        idx 1 x_9 x_8 fun p_7 =>
                          ld .bool h_18 p_7 fun (x_10 : Bool) =>
                           k_5 x_10 h_18)
                     (k_5 false h_18)))
             (ifB (i_1 != q_out.2)
                     (idx 1 r_3 i_1 fun p_8 =>
                       ld .sl h_18 p_8 fun (x_11 : Sl) =>
                        idx 1 x_11 x_8 fun p_9 =>
                          ld .bool h_18 p_9 fun (x_12 : Bool) =>
                           k_5 x_12 h_18)
                     (k_5 false h_18))))
         (ifB q_inv.1
       (ld .sl h_18 (p.add 1) fun (x_13 : Sl) =>
       bld si_Lint 1 [(0, .int .i64 i_1)] h_18 fun s_2 h_20 =>
       app si_Lint x_13 s_2 h_20 fun s_3 h_21 =>
       st [s_3.v] h_21 (p.add 1) fun h_22 =>
       k_3 () h_22)
       (k_3 () h_18))) (i_1 == q_out.2, 0) h_16)
       (ld (.agg 3) h_16 p fun (x_14 : Array Value) =>
    bld si_Llateenref11_Loop 1 [(0, .agg x_14)] h_16 fun s_4 h_23 =>
    app si_Llateenref11_Loop q_out.1 s_4 h_23 fun s_5 h_24 =>
    k s_5 h_24)) 0 h_15))) 0 h_7)
     (K q_out.1.v h_4)) ((⟨none, 0, 0⟩ : Sl), 0) h_2
def lateenref11_All_a : Ann := (.seq .leaf (.seq .leaf (.seq .leaf (.seq .leaf (.seq (.seq .leaf (.block (.loop [(5, .sl), (6, .int .i64)] [0, 3, 4] (.seq (.seq .leaf (.cond .leaf .leaf)) (.join [(5, .sl)] [0, 3, 4, 6] (.block (.seq .leaf (.seq (.seq .leaf (.block (.loop [(8, .int .i64)] [0, 3, 4, 5, 6, 7] (.seq (.seq .leaf (.cond .leaf .leaf)) (.join [] [0, 3, 4, 5, 6, 7, 8] (.block (.join [(47, .bool)] [0, 3, 4, 5, 6, 7, 8] .leaf (.cond .leaf .leaf))) .leaf))))) (.seq (.seq .leaf (.cond .leaf .leaf)) (.seq .leaf (.seq (.seq .leaf (.block (.loop [(10, .int .i64)] [0, 3, 4, 5, 6, 7, 9] (.seq (.seq .leaf (.cond .leaf .leaf)) (.join [] [0, 3, 4, 5, 6, 7, 9, 10] (.block (.seq .leaf (.seq (.seq .leaf (.block (.loop [(11, .bool), (12, .int .i64)] [0, 3, 4, 5, 6, 7, 9, 10] (.seq (.seq .leaf (.cond .leaf .leaf)) (.join [(11, .bool)] [0, 3, 4, 5, 6, 7, 9, 10, 12] (.block (.seq .leaf .leaf)) .leaf))))) (.seq .leaf (.cond .leaf .leaf))))) .leaf))))) .leaf)))))) .leaf))))) (.seq .leaf .leaf))))))
theorem lateenref11_All_eq (g : Sl) (h : Heap) (K : Value → Heap → Prop) : lateenref11_All g h K = fnW Try.prog ty lateenref11_All_a (bodyOf Try.f13) [.tmp 2] [g.v] h K := by kernel_rfl
theorem lateenref11_All_of {g : Sl} {h : Heap} {K : Value → Heap → Prop} (hw : lateenref11_All g h K) : ACalls Try.prog F_lateenref11_All [g.v] h K :=
  calls_sound ty_ok mixed lateenref11_All_a (c := bodyOf Try.f13) Try.func13 (by kernel_rfl) (by kernel_rfl) (by kernel_rfl) (Nat.le_of_ble_eq_true rfl) (by rw [lateenref11_All_eq] at hw; exact hw)

/-- lateen/loops.Crossed -/
def loops_Crossed (g : Sl) (h : Heap) (K : Value → Heap → Prop) : Prop :=
  ACalls Try.prog F_loops_backs [g.v] h fun v h_1 => as1 .sl v fun r =>
  (g.len : Int) = (g.len : Int) ∧ mk si_LLint (g.len : Int) h_1 fun s h_2 =>
  loopW (fun _ (t : Int) h_3 next =>
    ifB (decide (t < (g.len : Int)))
     (idx 1 g t fun p =>
    ld .sl h_3 p fun (x : Sl) =>
    loopW (fun _ (t_1 : Int) h_4 next_1 =>
      ifB (decide (t_1 < (x.len : Int)))
       (joinW (fun _ (_ : Unit) h_5 =>
        ar .i64 (t_1 + 1) fun n =>
        next_1 n h_5) fun k =>
      idx 1 x t_1 fun p_1 =>
      ld (.int .i64) h_4 p_1 fun (x_1 : Int) =>
      joinW (fun _ (t_2 : Bool) h_6 =>
        ifB t_2
         (idx 1 s t fun p_2 =>
         ld .sl h_6 p_2 fun (x_2 : Sl) =>
         bld si_Lint 1 [(0, .int .i64 x_1)] h_6 fun s_1 h_7 =>
         app si_Lint x_2 s_1 h_7 fun s_2 h_8 =>
         idx 1 s t fun p_3 =>
         st [s_2.v] h_8 p_3 fun h_9 =>
         k () h_9)
         (k () h_6)) fun k_1 =>
      ifB (decide (x_1 ≥ 0))
       (ifB (decide (x_1 < (g.len : Int)))
           (idx 1 r x_1 fun p_4 =>
             ld .sl h_4 p_4 fun (x_3 : Sl) =>
              ACalls Try.prog F_slices_Contains [x_3.v, .int .i64 t] h_4 fun v_1 h_10 => as1 .bool v_1 fun r_1 =>
                k_1 (!r_1) h_10)
           (k_1 false h_4))
       (k_1 false h_4))
       (ar .i64 (t + 1) fun n_1 =>
    next n_1 h_4)) 0 h_3)
     ((g.len : Int) = (g.len : Int) ∧ mk si_Lint (g.len : Int) h_3 fun s_3 h_11 =>
  ACalls Try.prog F_flow_Order [s.v] h_11 fun v_2 h_12 => as1 .sl v_2 fun r_2 =>
  loopW (fun _ (t_3 : Int) h_13 next_2 =>
    ifB (decide (t_3 < (r_2.len : Int)))
     (idx 1 r_2 t_3 fun p_5 =>
    ld (.int .i64) h_13 p_5 fun (x_4 : Int) =>
    idx 1 s_3 x_4 fun p_6 =>
    st [.int .i64 t_3] h_13 p_6 fun h_14 =>
    ar .i64 (t_3 + 1) fun n_2 =>
    next_2 n_2 h_14)
     (loopW (fun _ (t_4 : Int) h_15 next_3 =>
    ifB (decide (t_4 < (r_2.len : Int)))
     (idx 1 r_2 t_4 fun p_7 =>
    ld (.int .i64) h_15 p_7 fun (x_5 : Int) =>
    idx 1 s x_5 fun p_8 =>
    ld .sl h_15 p_8 fun (x_6 : Sl) =>
    loopW (fun _ (t_5 : Int) h_16 next_4 =>
      ifB (decide (t_5 < (x_6.len : Int)))
       (idx 1 x_6 t_5 fun p_9 =>
      ld (.int .i64) h_16 p_9 fun (x_7 : Int) =>
      idx 1 s_3 x_7 fun p_10 =>
      ld (.int .i64) h_16 p_10 fun (x_8 : Int) =>
      idx 1 s_3 x_5 fun p_11 =>
      ld (.int .i64) h_16 p_11 fun (x_9 : Int) =>
      ifB (decide (x_8 ≤ x_9))
       (K (.bool true) h_16)
       (ar .i64 (t_5 + 1) fun n_3 =>
      next_4 n_3 h_16))
       (ar .i64 (t_4 + 1) fun n_4 =>
    next_3 n_4 h_16)) 0 h_15)
     (K (.bool false) h_15)) 0 h_13)) 0 h_12)) 0 h_2
def loops_Crossed_a : Ann := (.seq .leaf (.seq .leaf (.seq .leaf (.seq (.seq .leaf (.block (.loop [(24, .int .i64)] [0, 3, 4, 22, 23] (.seq .leaf (.seq (.cond .leaf .leaf) (.seq (.block (.seq .leaf (.seq .leaf (.block (.loop [(31, .int .i64)] [0, 3, 4, 5, 22, 23, 24, 29, 30] (.seq .leaf (.seq (.cond .leaf .leaf) (.join [] [0, 3, 4, 5, 22, 23, 24, 29, 30, 31] (.block (.seq .leaf (.join [(51, .bool)] [0, 3, 4, 5, 8, 22, 23, 24, 29, 30, 31] .leaf (.cond .leaf .leaf)))) .leaf)))))))) .leaf)))))) (.seq .leaf (.seq .leaf (.seq (.seq .leaf (.block (.loop [(71, .int .i64)] [4, 9, 10, 69, 70] (.seq .leaf (.seq (.cond .leaf .leaf) (.seq (.block (.seq .leaf .leaf)) .leaf)))))) (.seq (.seq .leaf (.block (.loop [(83, .int .i64)] [4, 9, 81, 82] (.seq .leaf (.seq (.cond .leaf .leaf) (.seq (.block (.seq .leaf (.seq .leaf (.block (.loop [(92, .int .i64)] [4, 9, 14, 81, 82, 83, 90, 91] (.seq .leaf (.seq (.cond .leaf .leaf) (.seq (.block (.seq .leaf (.seq .leaf (.cond (.seq .leaf .leaf) .leaf)))) .leaf)))))))) .leaf)))))) (.seq .leaf .leaf)))))))))
theorem loops_Crossed_eq (g : Sl) (h : Heap) (K : Value → Heap → Prop) : loops_Crossed g h K = fnW Try.prog ty loops_Crossed_a (bodyOf Try.f14) [.tmp 2] [g.v] h K := by kernel_rfl
theorem loops_Crossed_of {g : Sl} {h : Heap} {K : Value → Heap → Prop} (hw : loops_Crossed g h K) : ACalls Try.prog F_loops_Crossed [g.v] h K :=
  calls_sound ty_ok mixed loops_Crossed_a (c := bodyOf Try.f14) Try.func14 (by kernel_rfl) (by kernel_rfl) (by kernel_rfl) (Nat.le_of_ble_eq_true rfl) (by rw [loops_Crossed_eq] at hw; exact hw)

/-- lateen/lateenref11.Crossed -/
def lateenref11_Crossed (g : Sl) (h : Heap) (K : Value → Heap → Prop) : Prop :=
  ACalls Try.prog F_lateenref10_All [g.v] h fun v h_1 => as1 .sl v fun r =>
  ACalls Try.prog F_lateenref11_steps [g.v, .int .i64 (-1)] h_1 fun v_1 h_2 => as1 .sl v_1 fun r_1 =>
  loopW (fun _ (i : Int) h_3 next =>
    ifB (decide (i < (g.len : Int)))
     (loopW (fun _ (k : Int) h_4 next_1 =>
      ifB (decide (k < (g.len : Int)))
       (joinW (fun _ (_ : Unit) h_5 =>
        ar .i64 (k + 1) fun n =>
        next_1 n h_5) fun k_1 =>
      idx 1 r_1 i fun p =>
      ld .sl h_4 p fun (x : Sl) =>
      idx 1 r_1 i fun p_1 =>
      ld .sl h_4 p_1 fun (x_1 : Sl) =>
      idx 1 x_1 k fun p_2 =>
      ld .bool h_4 p_2 fun (x_2 : Bool) =>
      ifB x_2
       (idx 1 r k fun p_3 =>
         ld .sl h_4 p_3 fun (x_3 : Sl) =>
          idx 1 x_3 i fun p_4 =>
            ld .bool h_4 p_4 fun (x_4 : Bool) =>
             idx 1 x k fun p_5 =>
              st [.bool (!x_4)] h_4 p_5 fun h_6 =>
              k_1 () h_6)
       (idx 1 x k fun p_6 =>
              st [.bool false] h_4 p_6 fun h_7 =>
              k_1 () h_7))
       (ar .i64 (i + 1) fun n_1 =>
    next n_1 h_4)) 0 h_3)
     (ACalls Try.prog F_lateenref11_ways [r_1.v] h_3 fun v_2 h_8 => as1 .sl v_2 fun r_2 =>
  loopW (fun _ (i_1 : Int) h_9 next_2 =>
    ifB (decide (i_1 < (g.len : Int)))
     (idx 1 r_2 i_1 fun p_7 =>
    ld .sl h_9 p_7 fun (x_5 : Sl) =>
    idx 1 x_5 i_1 fun p_8 =>
    ld .bool h_9 p_8 fun (x_6 : Bool) =>
    ifB x_6
     (K (.bool true) h_9)
     (ar .i64 (i_1 + 1) fun n_2 =>
    next_2 n_2 h_9))
     (K (.bool false) h_9)) 0 h_8)) 0 h_2
def lateenref11_Crossed_a : Ann := (.seq .leaf (.seq .leaf (.seq .leaf (.seq (.seq .leaf (.block (.loop [(5, .int .i64)] [0, 3, 4] (.seq (.seq .leaf (.cond .leaf .leaf)) (.seq (.block (.seq .leaf (.block (.loop [(6, .int .i64)] [0, 3, 4, 5] (.seq (.seq .leaf (.cond .leaf .leaf)) (.join [] [0, 3, 4, 5, 6] (.block .leaf) .leaf)))))) .leaf))))) (.seq .leaf (.seq (.seq .leaf (.block (.loop [(8, .int .i64)] [0, 7] (.seq (.seq .leaf (.cond .leaf .leaf)) (.seq (.block (.seq .leaf (.cond (.seq .leaf .leaf) .leaf))) .leaf))))) (.seq .leaf .leaf)))))))
theorem lateenref11_Crossed_eq (g : Sl) (h : Heap) (K : Value → Heap → Prop) : lateenref11_Crossed g h K = fnW Try.prog ty lateenref11_Crossed_a (bodyOf Try.f15) [.tmp 2] [g.v] h K := by kernel_rfl
theorem lateenref11_Crossed_of {g : Sl} {h : Heap} {K : Value → Heap → Prop} (hw : lateenref11_Crossed g h K) : ACalls Try.prog F_lateenref11_Crossed [g.v] h K :=
  calls_sound ty_ok mixed lateenref11_Crossed_a (c := bodyOf Try.f15) Try.func15 (by kernel_rfl) (by kernel_rfl) (by kernel_rfl) (Nat.le_of_ble_eq_true rfl) (by rw [lateenref11_Crossed_eq] at hw; exact hw)

/-- lateen/lateenref09.Few -/
def lateenref09_Few (g : Sl) (most : Int) (h : Heap) (K : Value → Heap → Prop) : Prop :=
  ifB (decide ((g.len : Int) > most))
   (K (.bool false) h)
   (loopW (fun _ (i : Int) h_1 next =>
    ifB (decide (i < (g.len : Int)))
     (idx 1 g i fun p =>
    ld .sl h_1 p fun (x : Sl) =>
    ifB (decide ((x.len : Int) > 20))
     (K (.bool false) h_1)
     (ar .i64 (i + 1) fun n =>
    next n h_1))
     (K (.bool true) h_1)) 0 h)
def lateenref09_Few_a : Ann := (.seq .leaf (.seq (.seq .leaf (.cond (.seq .leaf .leaf) .leaf)) (.seq (.seq .leaf (.block (.loop [(5, .int .i64)] [0] (.seq (.seq .leaf (.cond .leaf .leaf)) (.seq (.block (.seq .leaf (.cond (.seq .leaf .leaf) .leaf))) .leaf))))) (.seq .leaf .leaf))))
theorem lateenref09_Few_eq (g : Sl) (most : Int) (h : Heap) (K : Value → Heap → Prop) : lateenref09_Few g most h K = fnW Try.prog ty lateenref09_Few_a (bodyOf Try.f16) [.tmp 4] [g.v, .int .i64 most] h K := by kernel_rfl
theorem lateenref09_Few_of {g : Sl} {most : Int} {h : Heap} {K : Value → Heap → Prop} (hw : lateenref09_Few g most h K) : ACalls Try.prog F_lateenref09_Few [g.v, .int .i64 most] h K :=
  calls_sound ty_ok mixed lateenref09_Few_a (c := bodyOf Try.f16) Try.func16 (by kernel_rfl) (by kernel_rfl) (by kernel_rfl) (Nat.le_of_ble_eq_true rfl) (by rw [lateenref09_Few_eq] at hw; exact hw)

/-- lateen/dom.Nearest -/
def dom_Nearest (g : Sl) (h : Heap) (K : Value → Heap → Prop) : Prop :=
  ACalls Try.prog F_flow_Order [g.v] h fun v h_1 => as1 .sl v fun r =>
  ACalls Try.prog F_dom_ranks [.int .i64 (g.len : Int), r.v] h_1 fun v_1 h_2 => as1 .sl v_1 fun r_1 =>
  ACalls Try.prog F_flow_Preds [g.v] h_2 fun v_2 h_3 => as1 .sl v_2 fun r_2 =>
  (g.len : Int) = (g.len : Int) ∧ mk si_Lint (g.len : Int) h_3 fun s h_4 =>
  loopW (fun _ (t : Int) h_5 next =>
    ifB (decide (t < (s.len : Int)))
     (idx 1 s t fun p =>
    st [.int .i64 (-1)] h_5 p fun h_6 =>
    ar .i64 (t + 1) fun n =>
    next n h_6)
     (ifB ((r.len : Int) == 0)
   (K s.v h_5)
   (idx 1 s 0 fun p_1 =>
  st [.int .i64 0] h_5 p_1 fun h_7 =>
  loopW (fun _ (changed : Bool) h_8 next_1 =>
    ifB changed
     (slc 1 r (some 1) none fun s_1 =>
    loopW (fun _ (q_changed_1 : Bool × Int) h_9 next_2 =>
      ifB (decide (q_changed_1.2 < (s_1.len : Int)))
       (joinW (fun _ (changed_2 : Bool) h_10 =>
        ar .i64 (q_changed_1.2 + 1) fun n_1 =>
        next_2 (changed_2, n_1) h_10) fun k =>
      idx 1 s_1 q_changed_1.2 fun p_2 =>
      ld (.int .i64) h_9 p_2 fun (x : Int) =>
      idx 1 r_2 x fun p_3 =>
      ld .sl h_9 p_3 fun (x_1 : Sl) =>
      loopW (fun _ (q_best : Int × Int) h_11 next_3 =>
        ifB (decide (q_best.2 < (x_1.len : Int)))
         (joinW (fun _ (best_1 : Int) h_12 =>
          ar .i64 (q_best.2 + 1) fun n_2 =>
          next_3 (best_1, n_2) h_12) fun k_1 =>
        idx 1 x_1 q_best.2 fun p_4 =>
        ld (.int .i64) h_11 p_4 fun (x_2 : Int) =>
        joinW (fun _ (t_3 : Bool) h_13 =>
          ifB t_3
           (k_1 q_best.1 h_13)
           (ifB (decide (q_best.1 < 0))
            (k_1 x_2 h_13)
            (ACalls Try.prog F_dom_meet [s.v, r_1.v, .int .i64 x_2, .int .i64 q_best.1] h_13 fun v_3 h_14 => as1 (.int .i64) v_3 fun r_3 =>
            k_1 r_3 h_14))) fun k_2 =>
        idx 1 r_1 x_2 fun p_5 =>
        ld (.int .i64) h_11 p_5 fun (x_3 : Int) =>
        ifB (decide (x_3 < 0))
         (k_2 true h_11)
         (idx 1 s x_2 fun p_6 =>
           ld (.int .i64) h_11 p_6 fun (x_4 : Int) =>
            k_2 (decide (x_4 < 0)) h_11))
         (idx 1 s x fun p_7 =>
      ld (.int .i64) h_11 p_7 fun (x_5 : Int) =>
      ifB (q_best.1 != x_5)
       (idx 1 s x fun p_8 =>
       st [.int .i64 q_best.1] h_11 p_8 fun h_15 =>
       k true h_15)
       (k q_changed_1.1 h_11))) ((-1), 0) h_9)
       (next_1 q_changed_1.1 h_9)) (false, 0) h_8)
     (idx 1 s 0 fun p_9 =>
  st [.int .i64 (-1)] h_8 p_9 fun h_16 =>
  K s.v h_16)) true h_7))) 0 h_4
def dom_Nearest_a : Ann := (.seq .leaf (.seq .leaf (.seq .leaf (.seq .leaf (.seq .leaf (.seq (.seq .leaf (.block (.loop [(27, .int .i64)] [3, 4, 5, 6, 26] (.seq .leaf (.seq (.cond .leaf .leaf) (.seq (.block (.seq .leaf .leaf)) .leaf)))))) (.seq (.seq .leaf (.cond (.seq .leaf .leaf) .leaf)) (.seq .leaf (.seq (.seq .leaf (.block (.loop [(8, .bool)] [3, 4, 5, 6] (.seq (.seq .leaf (.cond .leaf .leaf)) (.block (.seq .leaf (.seq .leaf (.block (.loop [(8, .bool), (44, .int .i64)] [3, 4, 5, 6, 42, 43] (.seq .leaf (.seq (.cond .leaf .leaf) (.join [(8, .bool)] [3, 4, 5, 6, 42, 43, 44] (.block (.seq .leaf (.seq .leaf (.seq (.seq .leaf (.block (.loop [(11, .int .i64), (53, .int .i64)] [3, 4, 5, 6, 8, 10, 42, 43, 44, 51, 52] (.seq .leaf (.seq (.cond .leaf .leaf) (.join [(11, .int .i64)] [3, 4, 5, 6, 8, 10, 42, 43, 44, 51, 52, 53] (.block (.seq .leaf (.block (.join [(62, .bool)] [3, 4, 5, 6, 8, 10, 11, 13, 42, 43, 44, 51, 52, 53] .leaf (.cond .leaf (.seq .leaf (.cond .leaf .leaf))))))) .leaf)))))) (.seq .leaf (.cond (.seq .leaf .leaf) .leaf)))))) .leaf)))))))))))) (.seq .leaf (.seq .leaf .leaf)))))))))))
theorem dom_Nearest_eq (g : Sl) (h : Heap) (K : Value → Heap → Prop) : dom_Nearest g h K = fnW Try.prog ty dom_Nearest_a (bodyOf Try.f17) [.tmp 2] [g.v] h K := by kernel_rfl
theorem dom_Nearest_of {g : Sl} {h : Heap} {K : Value → Heap → Prop} (hw : dom_Nearest g h K) : ACalls Try.prog F_dom_Nearest [g.v] h K :=
  calls_sound ty_ok mixed dom_Nearest_a (c := bodyOf Try.f17) Try.func17 (by kernel_rfl) (by kernel_rfl) (by kernel_rfl) (Nat.le_of_ble_eq_true rfl) (by rw [dom_Nearest_eq] at hw; exact hw)

/-- lateen/flow.Order -/
def flow_Order (g : Sl) (h : Heap) (K : Value → Heap → Prop) : Prop :=
  ACalls Try.prog F_flow_walk [g.v] h fun v h_1 => as2 .sl .sl v fun r r_1 =>
  ACalls Try.prog F_slices_Reverse [r_1.v] h_1 fun v_1 h_2 => as0 v_1 (
  K r_1.v h_2)
def flow_Order_a : Ann := (.seq .leaf (.seq .leaf (.seq .leaf (.seq .leaf .leaf))))
theorem flow_Order_eq (g : Sl) (h : Heap) (K : Value → Heap → Prop) : flow_Order g h K = fnW Try.prog ty flow_Order_a (bodyOf Try.f18) [.tmp 2] [g.v] h K := by kernel_rfl
theorem flow_Order_of {g : Sl} {h : Heap} {K : Value → Heap → Prop} (hw : flow_Order g h K) : ACalls Try.prog F_flow_Order [g.v] h K :=
  calls_sound ty_ok mixed flow_Order_a (c := bodyOf Try.f18) Try.func18 (by kernel_rfl) (by kernel_rfl) (by kernel_rfl) (Nat.le_of_ble_eq_true rfl) (by rw [flow_Order_eq] at hw; exact hw)

/-- lateen/dom.Dominates -/
def dom_Dominates (near : Sl) (a : Int) (b : Int) (h : Heap) (K : Value → Heap → Prop) : Prop :=
  joinW (fun _ (t : Bool) h_1 =>
    ifB t
     (K (.bool false) h_1)
     (loopW (fun _ (q_b_1 : Int × Int) h_2 next =>
    joinW (fun _ (t_1 : Bool) h_3 =>
      ifB t_1
       (ifB (a == q_b_1.1)
     (K (.bool true) h_3)
     (idx 1 near q_b_1.1 fun p =>
    ld (.int .i64) h_3 p fun (x : Int) =>
    ar .i64 (q_b_1.2 + 1) fun n_1 =>
    next (x, n_1) h_3))
       (K (.bool false) h_3)) fun k_1 =>
    ifB (decide (q_b_1.2 ≤ (near.len : Int)))
     (ifB (decide (q_b_1.1 ≥ 0))
       (k_1 (decide (q_b_1.1 < (near.len : Int))) h_2)
       (k_1 false h_2))
     (k_1 false h_2)) (b, 0) h_1)) fun k =>
  ifB (decide (a < 0))
   (k true h)
   (ifB (decide (a ≥ (near.len : Int)))
       (k true h)
       (ifB (decide (b < 0))
         (k true h)
         (k (decide (b ≥ (near.len : Int))) h)))
def dom_Dominates_a : Ann := (.seq .leaf (.seq (.join [(25, .bool)] [0, 1, 2] .leaf (.cond (.seq .leaf .leaf) .leaf)) (.seq (.seq .leaf (.block (.loop [(2, .int .i64), (7, .int .i64)] [0, 1] (.seq (.join [(39, .bool)] [0, 1, 2, 7] .leaf (.cond .leaf .leaf)) (.seq (.block (.seq (.seq .leaf (.cond (.seq .leaf .leaf) .leaf)) .leaf)) .leaf))))) (.seq .leaf .leaf))))
theorem dom_Dominates_eq (near : Sl) (a : Int) (b : Int) (h : Heap) (K : Value → Heap → Prop) : dom_Dominates near a b h K = fnW Try.prog ty dom_Dominates_a (bodyOf Try.f19) [.tmp 6] [near.v, .int .i64 a, .int .i64 b] h K := by kernel_rfl
theorem dom_Dominates_of {near : Sl} {a : Int} {b : Int} {h : Heap} {K : Value → Heap → Prop} (hw : dom_Dominates near a b h K) : ACalls Try.prog F_dom_Dominates [near.v, .int .i64 a, .int .i64 b] h K :=
  calls_sound ty_ok mixed dom_Dominates_a (c := bodyOf Try.f19) Try.func19 (by kernel_rfl) (by kernel_rfl) (by kernel_rfl) (Nat.le_of_ble_eq_true rfl) (by rw [dom_Dominates_eq] at hw; exact hw)

/-- lateen/lateenref09.Leads -/
def lateenref09_Leads (g : Sl) (a : Int) (b : Int) (h : Heap) (K : Value → Heap → Prop) : Prop :=
  loopW (fun _ (i : Int) h_1 next =>
    idx 1 g a fun p =>
    ld .sl h_1 p fun (x : Sl) =>
    ifB (decide (i < (x.len : Int)))
     (idx 1 g a fun p_1 =>
    ld .sl h_1 p_1 fun (x_1 : Sl) =>
    idx 1 x_1 i fun p_2 =>
    ld (.int .i64) h_1 p_2 fun (x_2 : Int) =>
    ifB (x_2 == b)
     (K (.bool true) h_1)
     (ar .i64 (i + 1) fun n =>
    next n h_1))
     (K (.bool false) h_1)) 0 h
def lateenref09_Leads_a : Ann := (.seq .leaf (.seq (.seq .leaf (.block (.loop [(7, .int .i64)] [0, 1, 2] (.seq (.seq .leaf (.cond .leaf .leaf)) (.seq (.block (.seq .leaf (.cond (.seq .leaf .leaf) .leaf))) .leaf))))) (.seq .leaf .leaf)))
theorem lateenref09_Leads_eq (g : Sl) (a : Int) (b : Int) (h : Heap) (K : Value → Heap → Prop) : lateenref09_Leads g a b h K = fnW Try.prog ty lateenref09_Leads_a (bodyOf Try.f20) [.tmp 6] [g.v, .int .i64 a, .int .i64 b] h K := by kernel_rfl
theorem lateenref09_Leads_of {g : Sl} {a : Int} {b : Int} {h : Heap} {K : Value → Heap → Prop} (hw : lateenref09_Leads g a b h K) : ACalls Try.prog F_lateenref09_Leads [g.v, .int .i64 a, .int .i64 b] h K :=
  calls_sound ty_ok mixed lateenref09_Leads_a (c := bodyOf Try.f20) Try.func20 (by kernel_rfl) (by kernel_rfl) (by kernel_rfl) (Nat.le_of_ble_eq_true rfl) (by rw [lateenref09_Leads_eq] at hw; exact hw)

/-- lateen/lateenlaw11.has -/
def lateenlaw11_has (l : Sl) (n : Int) (h : Heap) (K : Value → Heap → Prop) : Prop :=
  loopW (fun _ (i : Int) h_1 next =>
    ifB (decide (i < (l.len : Int)))
     (idx 1 l i fun p =>
    ld (.int .i64) h_1 p fun (x : Int) =>
    ifB (x == n)
     (K (.bool true) h_1)
     (ar .i64 (i + 1) fun n_1 =>
    next n_1 h_1))
     (K (.bool false) h_1)) 0 h
def lateenlaw11_has_a : Ann := (.seq .leaf (.seq (.seq .leaf (.block (.loop [(5, .int .i64)] [0, 1] (.seq (.seq .leaf (.cond .leaf .leaf)) (.seq (.block (.seq .leaf (.cond (.seq .leaf .leaf) .leaf))) .leaf))))) (.seq .leaf .leaf)))
theorem lateenlaw11_has_eq (l : Sl) (n : Int) (h : Heap) (K : Value → Heap → Prop) : lateenlaw11_has l n h K = fnW Try.prog ty lateenlaw11_has_a (bodyOf Try.f21) [.tmp 4] [l.v, .int .i64 n] h K := by kernel_rfl
theorem lateenlaw11_has_of {l : Sl} {n : Int} {h : Heap} {K : Value → Heap → Prop} (hw : lateenlaw11_has l n h K) : ACalls Try.prog F_lateenlaw11_has [l.v, .int .i64 n] h K :=
  calls_sound ty_ok mixed lateenlaw11_has_a (c := bodyOf Try.f21) Try.func21 (by kernel_rfl) (by kernel_rfl) (by kernel_rfl) (Nat.le_of_ble_eq_true rfl) (by rw [lateenlaw11_has_eq] at hw; exact hw)

/-- lateen/lateenref09.SameLists -/
def lateenref09_SameLists (a : Sl) (b : Sl) (h : Heap) (K : Value → Heap → Prop) : Prop :=
  ifB ((a.len : Int) != (b.len : Int))
   (K (.bool false) h)
   (loopW (fun _ (i : Int) h_1 next =>
    ifB (decide (i < (a.len : Int)))
     (idx 1 a i fun p =>
    ld .sl h_1 p fun (x : Sl) =>
    idx 1 b i fun p_1 =>
    ld .sl h_1 p_1 fun (x_1 : Sl) =>
    ACalls Try.prog F_lateenref09_Same [x.v, x_1.v] h_1 fun v h_2 => as1 .bool v fun r =>
    ifB (!r)
     (K (.bool false) h_2)
     (ar .i64 (i + 1) fun n =>
    next n h_2))
     (K (.bool true) h_1)) 0 h)
def lateenref09_SameLists_a : Ann := (.seq .leaf (.seq (.seq .leaf (.cond (.seq .leaf .leaf) .leaf)) (.seq (.seq .leaf (.block (.loop [(5, .int .i64)] [0, 1] (.seq (.seq .leaf (.cond .leaf .leaf)) (.seq (.block (.seq .leaf (.cond (.seq .leaf .leaf) .leaf))) .leaf))))) (.seq .leaf .leaf))))
theorem lateenref09_SameLists_eq (a : Sl) (b : Sl) (h : Heap) (K : Value → Heap → Prop) : lateenref09_SameLists a b h K = fnW Try.prog ty lateenref09_SameLists_a (bodyOf Try.f22) [.tmp 4] [a.v, b.v] h K := by kernel_rfl
theorem lateenref09_SameLists_of {a : Sl} {b : Sl} {h : Heap} {K : Value → Heap → Prop} (hw : lateenref09_SameLists a b h K) : ACalls Try.prog F_lateenref09_SameLists [a.v, b.v] h K :=
  calls_sound ty_ok mixed lateenref09_SameLists_a (c := bodyOf Try.f22) Try.func22 (by kernel_rfl) (by kernel_rfl) (by kernel_rfl) (Nat.le_of_ble_eq_true rfl) (by rw [lateenref09_SameLists_eq] at hw; exact hw)

/-- lateen/lateenref09.Same -/
def lateenref09_Same (a : Sl) (b : Sl) (h : Heap) (K : Value → Heap → Prop) : Prop :=
  ifB ((a.len : Int) != (b.len : Int))
   (K (.bool false) h)
   (loopW (fun _ (i : Int) h_1 next =>
    ifB (decide (i < (a.len : Int)))
     (idx 1 a i fun p =>
    ld (.int .i64) h_1 p fun (x : Int) =>
    idx 1 b i fun p_1 =>
    ld (.int .i64) h_1 p_1 fun (x_1 : Int) =>
    ifB (x != x_1)
     (K (.bool false) h_1)
     (ar .i64 (i + 1) fun n =>
    next n h_1))
     (K (.bool true) h_1)) 0 h)
def lateenref09_Same_a : Ann := (.seq .leaf (.seq (.seq .leaf (.cond (.seq .leaf .leaf) .leaf)) (.seq (.seq .leaf (.block (.loop [(5, .int .i64)] [0, 1] (.seq (.seq .leaf (.cond .leaf .leaf)) (.seq (.block (.seq .leaf (.cond (.seq .leaf .leaf) .leaf))) .leaf))))) (.seq .leaf .leaf))))
theorem lateenref09_Same_eq (a : Sl) (b : Sl) (h : Heap) (K : Value → Heap → Prop) : lateenref09_Same a b h K = fnW Try.prog ty lateenref09_Same_a (bodyOf Try.f23) [.tmp 4] [a.v, b.v] h K := by kernel_rfl
theorem lateenref09_Same_of {a : Sl} {b : Sl} {h : Heap} {K : Value → Heap → Prop} (hw : lateenref09_Same a b h K) : ACalls Try.prog F_lateenref09_Same [a.v, b.v] h K :=
  calls_sound ty_ok mixed lateenref09_Same_a (c := bodyOf Try.f23) Try.func23 (by kernel_rfl) (by kernel_rfl) (by kernel_rfl) (Nat.le_of_ble_eq_true rfl) (by rw [lateenref09_Same_eq] at hw; exact hw)

/-- lateen/flow.Preds -/
def flow_Preds (g : Sl) (h : Heap) (K : Value → Heap → Prop) : Prop :=
  (g.len : Int) = (g.len : Int) ∧ mk si_LLint (g.len : Int) h fun s h_1 =>
  loopW (fun _ (t : Int) h_2 next =>
    ifB (decide (t < (g.len : Int)))
     (idx 1 g t fun p =>
    ld .sl h_2 p fun (x : Sl) =>
    loopW (fun _ (t_1 : Int) h_3 next_1 =>
      ifB (decide (t_1 < (x.len : Int)))
       (joinW (fun _ (_ : Unit) h_4 =>
        ar .i64 (t_1 + 1) fun n =>
        next_1 n h_4) fun k =>
      idx 1 x t_1 fun p_1 =>
      ld (.int .i64) h_3 p_1 fun (x_1 : Int) =>
      joinW (fun _ (t_2 : Bool) h_5 =>
        ifB t_2
         (idx 1 s x_1 fun p_2 =>
         ld .sl h_5 p_2 fun (x_2 : Sl) =>
         bld si_Lint 1 [(0, .int .i64 t)] h_5 fun s_1 h_6 =>
         app si_Lint x_2 s_1 h_6 fun s_2 h_7 =>
         idx 1 s x_1 fun p_3 =>
         st [s_2.v] h_7 p_3 fun h_8 =>
         k () h_8)
         (k () h_5)) fun k_1 =>
      ifB (decide (x_1 ≥ 0))
       (ifB (decide (x_1 < (g.len : Int)))
           (idx 1 s x_1 fun p_4 =>
             ld .sl h_3 p_4 fun (x_3 : Sl) =>
              ACalls Try.prog F_slices_Contains [x_3.v, .int .i64 t] h_3 fun v h_9 => as1 .bool v fun r =>
                k_1 (!r) h_9)
           (k_1 false h_3))
       (k_1 false h_3))
       (ar .i64 (t + 1) fun n_1 =>
    next n_1 h_3)) 0 h_2)
     (K s.v h_2)) 0 h_1
def flow_Preds_a : Ann := (.seq .leaf (.seq .leaf (.seq (.seq .leaf (.block (.loop [(13, .int .i64)] [0, 3, 11, 12] (.seq .leaf (.seq (.cond .leaf .leaf) (.seq (.block (.seq .leaf (.seq .leaf (.block (.loop [(20, .int .i64)] [0, 3, 4, 11, 12, 13, 18, 19] (.seq .leaf (.seq (.cond .leaf .leaf) (.join [] [0, 3, 4, 11, 12, 13, 18, 19, 20] (.block (.seq .leaf (.join [(40, .bool)] [0, 3, 4, 7, 11, 12, 13, 18, 19, 20] .leaf (.cond .leaf .leaf)))) .leaf)))))))) .leaf)))))) (.seq .leaf .leaf))))
theorem flow_Preds_eq (g : Sl) (h : Heap) (K : Value → Heap → Prop) : flow_Preds g h K = fnW Try.prog ty flow_Preds_a (bodyOf Try.f24) [.tmp 2] [g.v] h K := by kernel_rfl
theorem flow_Preds_of {g : Sl} {h : Heap} {K : Value → Heap → Prop} (hw : flow_Preds g h K) : ACalls Try.prog F_flow_Preds [g.v] h K :=
  calls_sound ty_ok mixed flow_Preds_a (c := bodyOf Try.f24) Try.func24 (by kernel_rfl) (by kernel_rfl) (by kernel_rfl) (Nat.le_of_ble_eq_true rfl) (by rw [flow_Preds_eq] at hw; exact hw)

/-- lateen/flow.Come -/
def flow_Come (g : Sl) (h : Heap) (K : Value → Heap → Prop) : Prop :=
  ACalls Try.prog F_flow_walk [g.v] h fun v h_1 => as2 .sl .sl v fun r r_1 =>
  K r.v h_1
def flow_Come_a : Ann := (.seq .leaf (.seq .leaf (.seq .leaf .leaf)))
theorem flow_Come_eq (g : Sl) (h : Heap) (K : Value → Heap → Prop) : flow_Come g h K = fnW Try.prog ty flow_Come_a (bodyOf Try.f25) [.tmp 2] [g.v] h K := by kernel_rfl
theorem flow_Come_of {g : Sl} {h : Heap} {K : Value → Heap → Prop} (hw : flow_Come g h K) : ACalls Try.prog F_flow_Come [g.v] h K :=
  calls_sound ty_ok mixed flow_Come_a (c := bodyOf Try.f25) Try.func25 (by kernel_rfl) (by kernel_rfl) (by kernel_rfl) (Nat.le_of_ble_eq_true rfl) (by rw [flow_Come_eq] at hw; exact hw)

/-- lateen/loops.backs -/
def loops_backs (g : Sl) (h : Heap) (K : Value → Heap → Prop) : Prop :=
  ACalls Try.prog F_dom_Nearest [g.v] h fun v h_1 => as1 .sl v fun r =>
  ACalls Try.prog F_flow_Come [g.v] h_1 fun v_1 h_2 => as1 .sl v_1 fun r_1 =>
  (g.len : Int) = (g.len : Int) ∧ mk si_LLint (g.len : Int) h_2 fun s h_3 =>
  ACalls Try.prog F_flow_Preds [g.v] h_3 fun v_2 h_4 => as1 .sl v_2 fun r_2 =>
  loopW (fun _ (t : Int) h_5 next =>
    ifB (decide (t < (r_2.len : Int)))
     (idx 1 r_2 t fun p =>
    ld .sl h_5 p fun (x : Sl) =>
    loopW (fun _ (t_1 : Int) h_6 next_1 =>
      ifB (decide (t_1 < (x.len : Int)))
       (joinW (fun _ (_ : Unit) h_7 =>
        ar .i64 (t_1 + 1) fun n =>
        next_1 n h_7) fun k =>
      idx 1 x t_1 fun p_1 =>
      ld (.int .i64) h_6 p_1 fun (x_1 : Int) =>
      joinW (fun _ (t_2 : Bool) h_8 =>
        ifB t_2
         (idx 1 s t fun p_2 =>
         ld .sl h_8 p_2 fun (x_2 : Sl) =>
         bld si_Lint 1 [(0, .int .i64 x_1)] h_8 fun s_1 h_9 =>
         app si_Lint x_2 s_1 h_9 fun s_2 h_10 =>
         idx 1 s t fun p_3 =>
         st [s_2.v] h_10 p_3 fun h_11 =>
         k () h_11)
         (k () h_8)) fun k_1 =>
      idx 1 r_1 x_1 fun p_4 =>
      ld .bool h_6 p_4 fun (x_3 : Bool) =>
      ifB x_3
       (ACalls Try.prog F_dom_Dominates [r.v, .int .i64 t, .int .i64 x_1] h_6 fun v_3 h_12 => as1 .bool v_3 fun r_3 =>
          k_1 r_3 h_12)
       (k_1 false h_6))
       (ar .i64 (t + 1) fun n_1 =>
    next n_1 h_6)) 0 h_5)
     (K s.v h_5)) 0 h_4
def loops_backs_a : Ann := (.seq .leaf (.seq .leaf (.seq .leaf (.seq .leaf (.seq (.seq .leaf (.block (.loop [(20, .int .i64)] [3, 4, 5, 18, 19] (.seq .leaf (.seq (.cond .leaf .leaf) (.seq (.block (.seq .leaf (.seq .leaf (.block (.loop [(27, .int .i64)] [3, 4, 5, 6, 18, 19, 20, 25, 26] (.seq .leaf (.seq (.cond .leaf .leaf) (.join [] [3, 4, 5, 6, 18, 19, 20, 25, 26, 27] (.block (.seq .leaf (.join [(40, .bool)] [3, 4, 5, 6, 9, 18, 19, 20, 25, 26, 27] .leaf (.cond .leaf .leaf)))) .leaf)))))))) .leaf)))))) (.seq .leaf .leaf))))))
theorem loops_backs_eq (g : Sl) (h : Heap) (K : Value → Heap → Prop) : loops_backs g h K = fnW Try.prog ty loops_backs_a (bodyOf Try.f26) [.tmp 2] [g.v] h K := by kernel_rfl
theorem loops_backs_of {g : Sl} {h : Heap} {K : Value → Heap → Prop} (hw : loops_backs g h K) : ACalls Try.prog F_loops_backs [g.v] h K :=
  calls_sound ty_ok mixed loops_backs_a (c := bodyOf Try.f26) Try.func26 (by kernel_rfl) (by kernel_rfl) (by kernel_rfl) (Nat.le_of_ble_eq_true rfl) (by rw [loops_backs_eq] at hw; exact hw)

/-- lateen/loops.body -/
def loops_body (preds : Sl) (come : Sl) (head : Int) (back : Sl) (h : Heap) (K : Value → Heap → Prop) : Prop :=
  mkm h fun m h_1 =>
  mup (.int .i64) m (.int .i64 head) (.bool true) h_1 fun h_2 =>
  ACalls Try.prog F_slices_Clone [back.v] h_2 fun v h_3 => as1 .sl v fun r =>
  loopW (fun _ (todo : Sl) h_4 next =>
    ifB (decide ((todo.len : Int) > 0))
     (ar .i64 ((todo.len : Int) - 1) fun n =>
    idx 1 todo n fun p =>
    ld (.int .i64) h_4 p fun (x : Int) =>
    ar .i64 ((todo.len : Int) - 1) fun n_1 =>
    slc 1 todo none (some n_1) fun s =>
    joinW (fun _ (t : Bool) h_5 =>
      ifB t
       (next s h_5)
       (mup (.int .i64) m (.int .i64 x) (.bool true) h_5 fun h_6 =>
    idx 1 preds x fun p_1 =>
    ld .sl h_6 p_1 fun (x_1 : Sl) =>
    app si_Lint s x_1 h_6 fun s_1 h_7 =>
    next s_1 h_7)) fun k =>
    mlk (.int .i64) m (.int .i64 x) h_4 fun r_1 => as1 .bool (r_1.getD (.bool false)) fun y =>
    ifB y
     (k true h_4)
     (idx 1 come x fun p_2 =>
       ld .bool h_4 p_2 fun (x_2 : Bool) =>
        k (!x_2) h_4))
     (loopW (fun _ (q_out : Sl × Int) h_8 next_1 =>
    ifB (decide (q_out.2 < (come.len : Int)))
     (joinW (fun _ (out_1 : Sl) h_9 =>
      ar .i64 (q_out.2 + 1) fun n_2 =>
      next_1 (out_1, n_2) h_9) fun k_1 =>
    mlk (.int .i64) m (.int .i64 q_out.2) h_8 fun r_2 => as1 .bool (r_2.getD (.bool false)) fun y_1 =>
    ifB y_1
     (bld si_Lint 1 [(0, .int .i64 q_out.2)] h_8 fun s_2 h_10 =>
     app si_Lint q_out.1 s_2 h_10 fun s_3 h_11 =>
     k_1 s_3 h_11)
     (k_1 q_out.1 h_8))
     (K q_out.1.v h_8)) ((⟨none, 0, 0⟩ : Sl), 0) h_4)) r h_3
def loops_body_a : Ann := (.seq .leaf (.seq .leaf (.seq .leaf (.seq (.block (.loop [(10, .sl)] [0, 1, 9] (.seq (.seq .leaf (.cond .leaf .leaf)) (.block (.seq .leaf (.seq .leaf (.seq (.join [(42, .bool)] [0, 1, 9, 10, 11] .leaf (.cond .leaf .leaf)) (.seq .leaf .leaf)))))))) (.seq .leaf (.seq (.seq .leaf (.block (.loop [(12, .sl), (53, .int .i64)] [9, 52] (.seq .leaf (.seq (.cond .leaf .leaf) (.join [(12, .sl)] [9, 52, 53] (.block (.seq .leaf (.seq .leaf (.cond .leaf .leaf)))) .leaf)))))) (.seq .leaf .leaf)))))))
theorem loops_body_eq (preds : Sl) (come : Sl) (head : Int) (back : Sl) (h : Heap) (K : Value → Heap → Prop) : loops_body preds come head back h K = fnW Try.prog ty loops_body_a (bodyOf Try.f27) [.tmp 8] [preds.v, come.v, .int .i64 head, back.v] h K := by kernel_rfl
theorem loops_body_of {preds : Sl} {come : Sl} {head : Int} {back : Sl} {h : Heap} {K : Value → Heap → Prop} (hw : loops_body preds come head back h K) : ACalls Try.prog F_loops_body [preds.v, come.v, .int .i64 head, back.v] h K :=
  calls_sound ty_ok mixed loops_body_a (c := bodyOf Try.f27) Try.func27 (by kernel_rfl) (by kernel_rfl) (by kernel_rfl) (Nat.le_of_ble_eq_true rfl) (by rw [loops_body_eq] at hw; exact hw)

/-- lateen/lateenref10.All -/
def lateenref10_All (g : Sl) (h : Heap) (K : Value → Heap → Prop) : Prop :=
  ACalls Try.prog F_lateenref09_Come [g.v] h fun v h_1 => as1 .sl v fun r =>
  loopW (fun _ (q_out : Sl × Int) h_2 next =>
    ifB (decide (q_out.2 < (g.len : Int)))
     (ACalls Try.prog F_lateenref10_Without [g.v, .int .i64 q_out.2] h_2 fun v_1 h_3 => as1 .sl v_1 fun r_1 =>
    (g.len : Int) = (g.len : Int) ∧ mk si_Lbool (g.len : Int) h_3 fun s h_4 =>
    loopW (fun _ (k : Int) h_5 next_1 =>
      ifB (decide (k < (g.len : Int)))
       (joinW (fun _ (_ : Unit) h_6 =>
        ar .i64 (k + 1) fun n =>
        next_1 n h_6) fun k_1 =>
      idx 1 r q_out.2 fun p =>
      ld .bool h_5 p fun (x : Bool) =>
      ifB x
       (idx 1 r k fun p_1 =>
         ld .bool h_5 p_1 fun (x_1 : Bool) =>
          ifB x_1
           (ifB (q_out.2 == k)
               (idx 1 s k fun p_2 =>
                    st [.bool true] h_5 p_2 fun h_7 =>
                    k_1 () h_7)
               (idx 1 r_1 k fun p_3 =>
                 ld .bool h_5 p_3 fun (x_2 : Bool) =>
                  idx 1 s k fun p_4 =>
                    st [.bool (!x_2)] h_5 p_4 fun h_8 =>
                    k_1 () h_8))
           (idx 1 s k fun p_5 =>
               st [.bool false] h_5 p_5 fun h_9 =>
               k_1 () h_9))
       (idx 1 s k fun p_6 =>
               st [.bool false] h_5 p_6 fun h_10 =>
               k_1 () h_10))
       (bld si_LLbool 1 [(0, s.v)] h_5 fun s_1 h_11 =>
    app si_LLbool q_out.1 s_1 h_11 fun s_2 h_12 =>
    ar .i64 (q_out.2 + 1) fun n_1 =>
    next (s_2, n_1) h_12)) 0 h_4)
     (K q_out.1.v h_2)) ((⟨none, 0, 0⟩ : Sl), 0) h_1
def lateenref10_All_a : Ann := (.seq .leaf (.seq .leaf (.seq .leaf (.seq (.seq .leaf (.block (.loop [(4, .sl), (5, .int .i64)] [0, 3] (.seq (.seq .leaf (.cond .leaf .leaf)) (.seq (.block (.seq .leaf (.seq .leaf (.seq (.seq .leaf (.block (.loop [(8, .int .i64)] [0, 3, 4, 5, 6, 7] (.seq (.seq .leaf (.cond .leaf .leaf)) (.join [] [0, 3, 4, 5, 6, 7, 8] (.block .leaf) .leaf))))) .leaf)))) .leaf))))) (.seq .leaf .leaf)))))
theorem lateenref10_All_eq (g : Sl) (h : Heap) (K : Value → Heap → Prop) : lateenref10_All g h K = fnW Try.prog ty lateenref10_All_a (bodyOf Try.f28) [.tmp 2] [g.v] h K := by kernel_rfl
theorem lateenref10_All_of {g : Sl} {h : Heap} {K : Value → Heap → Prop} (hw : lateenref10_All g h K) : ACalls Try.prog F_lateenref10_All [g.v] h K :=
  calls_sound ty_ok mixed lateenref10_All_a (c := bodyOf Try.f28) Try.func28 (by kernel_rfl) (by kernel_rfl) (by kernel_rfl) (Nat.le_of_ble_eq_true rfl) (by rw [lateenref10_All_eq] at hw; exact hw)

/-- lateen/lateenref11.steps -/
def lateenref11_steps (g : Sl) (less : Int) (h : Heap) (K : Value → Heap → Prop) : Prop :=
  ACalls Try.prog F_lateenref09_Come [g.v] h fun v h_1 => as1 .sl v fun r =>
  loopW (fun _ (q_out : Sl × Int) h_2 next =>
    ifB (decide (q_out.2 < (g.len : Int)))
     ((g.len : Int) = (g.len : Int) ∧ mk si_Lbool (g.len : Int) h_2 fun s h_3 =>
    loopW (fun _ (k : Int) h_4 next_1 =>
      ifB (decide (k < (g.len : Int)))
       (joinW (fun _ (_ : Unit) h_5 =>
        ar .i64 (k + 1) fun n =>
        next_1 n h_5) fun k_1 =>
      idx 1 r q_out.2 fun p =>
      ld .bool h_4 p fun (x : Bool) =>
      ifB x
       (idx 1 r k fun p_1 =>
         ld .bool h_4 p_1 fun (x_1 : Bool) =>
          ifB x_1
           (ifB (q_out.2 != less)
              (ifB (k != less)
                 (ACalls Try.prog F_lateenref09_Leads [g.v, .int .i64 q_out.2, .int .i64 k] h_4 fun v_1 h_6 => as1 .bool v_1 fun r_1 =>
                    idx 1 s k fun p_2 =>
                    st [.bool r_1] h_6 p_2 fun h_7 =>
                    k_1 () h_7)
                 (idx 1 s k fun p_3 =>
                    st [.bool false] h_4 p_3 fun h_8 =>
                    k_1 () h_8))
              (idx 1 s k fun p_4 =>
                    st [.bool false] h_4 p_4 fun h_9 =>
                    k_1 () h_9))
           (idx 1 s k fun p_5 =>
                    st [.bool false] h_4 p_5 fun h_10 =>
                    k_1 () h_10))
       (idx 1 s k fun p_6 =>
                    st [.bool false] h_4 p_6 fun h_11 =>
                    k_1 () h_11))
       (bld si_LLbool 1 [(0, s.v)] h_4 fun s_1 h_12 =>
    app si_LLbool q_out.1 s_1 h_12 fun s_2 h_13 =>
    ar .i64 (q_out.2 + 1) fun n_1 =>
    next (s_2, n_1) h_13)) 0 h_3)
     (K q_out.1.v h_2)) ((⟨none, 0, 0⟩ : Sl), 0) h_1
def lateenref11_steps_a : Ann := (.seq .leaf (.seq .leaf (.seq .leaf (.seq (.seq .leaf (.block (.loop [(6, .sl), (7, .int .i64)] [0, 1, 5] (.seq (.seq .leaf (.cond .leaf .leaf)) (.seq (.block (.seq .leaf (.seq (.seq .leaf (.block (.loop [(9, .int .i64)] [0, 1, 5, 6, 7, 8] (.seq (.seq .leaf (.cond .leaf .leaf)) (.join [] [0, 1, 5, 6, 7, 8, 9] (.block .leaf) .leaf))))) .leaf))) .leaf))))) (.seq .leaf .leaf)))))
theorem lateenref11_steps_eq (g : Sl) (less : Int) (h : Heap) (K : Value → Heap → Prop) : lateenref11_steps g less h K = fnW Try.prog ty lateenref11_steps_a (bodyOf Try.f29) [.tmp 4] [g.v, .int .i64 less] h K := by kernel_rfl
theorem lateenref11_steps_of {g : Sl} {less : Int} {h : Heap} {K : Value → Heap → Prop} (hw : lateenref11_steps g less h K) : ACalls Try.prog F_lateenref11_steps [g.v, .int .i64 less] h K :=
  calls_sound ty_ok mixed lateenref11_steps_a (c := bodyOf Try.f29) Try.func29 (by kernel_rfl) (by kernel_rfl) (by kernel_rfl) (Nat.le_of_ble_eq_true rfl) (by rw [lateenref11_steps_eq] at hw; exact hw)

/-- lateen/lateenref11.ways -/
def lateenref11_ways (steps : Sl) (h : Heap) (K : Value → Heap → Prop) : Prop :=
  loopW (fun _ (q_out : Sl × Int) h_1 next =>
    ifB (decide (q_out.2 < (steps.len : Int)))
     (bld si_Lbool 0 [] h_1 fun s h_2 =>
    idx 1 steps q_out.2 fun p =>
    ld .sl h_2 p fun (x : Sl) =>
    app si_Lbool s x h_2 fun s_1 h_3 =>
    bld si_LLbool 1 [(0, s_1.v)] h_3 fun s_2 h_4 =>
    app si_LLbool q_out.1 s_2 h_4 fun s_3 h_5 =>
    ar .i64 (q_out.2 + 1) fun n =>
    next (s_3, n) h_5)
     (loopW (fun _ (m : Int) h_6 next_1 =>
    ifB (decide (m < (q_out.1.len : Int)))
     (loopW (fun _ (i_1 : Int) h_7 next_2 =>
      ifB (decide (i_1 < (q_out.1.len : Int)))
       (loopW (fun _ (k : Int) h_8 next_3 =>
        ifB (decide (k < (q_out.1.len : Int)))
         (joinW (fun _ (_ : Unit) h_9 =>
          ar .i64 (k + 1) fun n_1 =>
          next_3 n_1 h_9) fun k_1 =>
        idx 1 q_out.1 i_1 fun p_1 =>
        ld .sl h_8 p_1 fun (x_1 : Sl) =>
        idx 1 q_out.1 i_1 fun p_2 =>
        ld .sl h_8 p_2 fun (x_2 : Sl) =>
        idx 1 x_2 k fun p_3 =>
        ld .bool h_8 p_3 fun (x_3 : Bool) =>
        ifB x_3
         (idx 1 x_1 k fun p_4 =>
                 st [.bool true] h_8 p_4 fun h_10 =>
                 k_1 () h_10)
         (idx 1 q_out.1 i_1 fun p_5 =>
           ld .sl h_8 p_5 fun (x_4 : Sl) =>
            idx 1 x_4 m fun p_6 =>
              ld .bool h_8 p_6 fun (x_5 : Bool) =>
               ifB x_5
                 (idx 1 q_out.1 m fun p_7 =>
                   ld .sl h_8 p_7 fun (x_6 : Sl) =>
                    idx 1 x_6 k fun p_8 =>
                      ld .bool h_8 p_8 fun (x_7 : Bool) =>
                       idx 1 x_1 k fun p_9 =>
                        st [.bool x_7] h_8 p_9 fun h_11 =>
                        k_1 () h_11)
                 (idx 1 x_1 k fun p_10 =>
                        st [.bool false] h_8 p_10 fun h_12 =>
                        k_1 () h_12)))
         (ar .i64 (i_1 + 1) fun n_2 =>
      next_2 n_2 h_8)) 0 h_7)
       (ar .i64 (m + 1) fun n_3 =>
    next_1 n_3 h_7)) 0 h_6)
     (K q_out.1.v h_6)) 0 h_1)) ((⟨none, 0, 0⟩ : Sl), 0) h
def lateenref11_ways_a : Ann := (.seq .leaf (.seq .leaf (.seq (.seq .leaf (.block (.loop [(3, .sl), (4, .int .i64)] [0] (.seq (.seq .leaf (.cond .leaf .leaf)) (.seq (.block .leaf) .leaf))))) (.seq (.seq .leaf (.block (.loop [(5, .int .i64)] [3] (.seq (.seq .leaf (.cond .leaf .leaf)) (.seq (.block (.seq .leaf (.block (.loop [(6, .int .i64)] [3, 5] (.seq (.seq .leaf (.cond .leaf .leaf)) (.seq (.block (.seq .leaf (.block (.loop [(7, .int .i64)] [3, 5, 6] (.seq (.seq .leaf (.cond .leaf .leaf)) (.join [] [3, 5, 6, 7] (.block .leaf) .leaf)))))) .leaf)))))) .leaf))))) (.seq .leaf .leaf)))))
theorem lateenref11_ways_eq (steps : Sl) (h : Heap) (K : Value → Heap → Prop) : lateenref11_ways steps h K = fnW Try.prog ty lateenref11_ways_a (bodyOf Try.f30) [.tmp 2] [steps.v] h K := by kernel_rfl
theorem lateenref11_ways_of {steps : Sl} {h : Heap} {K : Value → Heap → Prop} (hw : lateenref11_ways steps h K) : ACalls Try.prog F_lateenref11_ways [steps.v] h K :=
  calls_sound ty_ok mixed lateenref11_ways_a (c := bodyOf Try.f30) Try.func30 (by kernel_rfl) (by kernel_rfl) (by kernel_rfl) (Nat.le_of_ble_eq_true rfl) (by rw [lateenref11_ways_eq] at hw; exact hw)

/-- slices.Contains[[]int,int] -/
def slices_Contains (s : Sl) (v : Int) (h : Heap) (K : Value → Heap → Prop) : Prop :=
  ACalls Try.prog F_slices_Index [s.v, .int .i64 v] h fun v_1 h_1 => as1 (.int .i64) v_1 fun r =>
  K (.bool (decide (r ≥ 0))) h_1
def slices_Contains_a : Ann := (.seq .leaf (.seq .leaf .leaf))
theorem slices_Contains_eq (s : Sl) (v : Int) (h : Heap) (K : Value → Heap → Prop) : slices_Contains s v h K = fnW Try.prog ty slices_Contains_a (bodyOf Try.f31) [.tmp 4] [s.v, .int .i64 v] h K := by kernel_rfl
theorem slices_Contains_of {s : Sl} {v : Int} {h : Heap} {K : Value → Heap → Prop} (hw : slices_Contains s v h K) : ACalls Try.prog F_slices_Contains [s.v, .int .i64 v] h K :=
  calls_sound ty_ok mixed slices_Contains_a (c := bodyOf Try.f31) Try.func31 (by kernel_rfl) (by kernel_rfl) (by kernel_rfl) (Nat.le_of_ble_eq_true rfl) (by rw [slices_Contains_eq] at hw; exact hw)

/-- lateen/dom.ranks -/
def dom_ranks (n : Int) (order : Sl) (h : Heap) (K : Value → Heap → Prop) : Prop :=
  n = n ∧ mk si_Lint n h fun s h_1 =>
  loopW (fun _ (t : Int) h_2 next =>
    ifB (decide (t < (s.len : Int)))
     (idx 1 s t fun p =>
    st [.int .i64 (-1)] h_2 p fun h_3 =>
    ar .i64 (t + 1) fun n_1 =>
    next n_1 h_3)
     (loopW (fun _ (t_1 : Int) h_4 next_1 =>
    ifB (decide (t_1 < (order.len : Int)))
     (idx 1 order t_1 fun p_1 =>
    ld (.int .i64) h_4 p_1 fun (x : Int) =>
    idx 1 s x fun p_2 =>
    st [.int .i64 t_1] h_4 p_2 fun h_5 =>
    ar .i64 (t_1 + 1) fun n_2 =>
    next_1 n_2 h_5)
     (K s.v h_4)) 0 h_2)) 0 h_1
def dom_ranks_a : Ann := (.seq .leaf (.seq .leaf (.seq (.seq .leaf (.block (.loop [(13, .int .i64)] [1, 5, 12] (.seq .leaf (.seq (.cond .leaf .leaf) (.seq (.block (.seq .leaf .leaf)) .leaf)))))) (.seq (.seq .leaf (.block (.loop [(22, .int .i64)] [5, 20, 21] (.seq .leaf (.seq (.cond .leaf .leaf) (.seq (.block (.seq .leaf .leaf)) .leaf)))))) (.seq .leaf .leaf)))))
theorem dom_ranks_eq (n : Int) (order : Sl) (h : Heap) (K : Value → Heap → Prop) : dom_ranks n order h K = fnW Try.prog ty dom_ranks_a (bodyOf Try.f32) [.tmp 4] [.int .i64 n, order.v] h K := by kernel_rfl
theorem dom_ranks_of {n : Int} {order : Sl} {h : Heap} {K : Value → Heap → Prop} (hw : dom_ranks n order h K) : ACalls Try.prog F_dom_ranks [.int .i64 n, order.v] h K :=
  calls_sound ty_ok mixed dom_ranks_a (c := bodyOf Try.f32) Try.func32 (by kernel_rfl) (by kernel_rfl) (by kernel_rfl) (Nat.le_of_ble_eq_true rfl) (by rw [dom_ranks_eq] at hw; exact hw)

/-- lateen/dom.meet -/
def dom_meet (near : Sl) (rank : Sl) (a : Int) (b : Int) (h : Heap) (K : Value → Heap → Prop) : Prop :=
  loopW (fun _ (q_a_1 : Int × Int) h_1 next =>
    ifB (q_a_1.1 != q_a_1.2)
     (loopW (fun _ (a_2 : Int) h_2 next_1 =>
      idx 1 rank a_2 fun p =>
      ld (.int .i64) h_2 p fun (x : Int) =>
      idx 1 rank q_a_1.2 fun p_1 =>
      ld (.int .i64) h_2 p_1 fun (x_1 : Int) =>
      ifB (decide (x > x_1))
       (idx 1 near a_2 fun p_2 =>
      ld (.int .i64) h_2 p_2 fun (x_2 : Int) =>
      next_1 x_2 h_2)
       (loopW (fun _ (b_2 : Int) h_3 next_2 =>
      idx 1 rank b_2 fun p_3 =>
      ld (.int .i64) h_3 p_3 fun (x_3 : Int) =>
      idx 1 rank a_2 fun p_4 =>
      ld (.int .i64) h_3 p_4 fun (x_4 : Int) =>
      ifB (decide (x_3 > x_4))
       (idx 1 near b_2 fun p_5 =>
      ld (.int .i64) h_3 p_5 fun (x_5 : Int) =>
      next_2 x_5 h_3)
       (next (a_2, b_2) h_3)) q_a_1.2 h_2)) q_a_1.1 h_1)
     (K (.int .i64 q_a_1.1) h_1)) (a, b) h
def dom_meet_a : Ann := (.seq .leaf (.seq (.block (.loop [(2, .int .i64), (3, .int .i64)] [0, 1] (.seq (.seq .leaf (.cond .leaf .leaf)) (.block (.seq (.block (.loop [(2, .int .i64)] [0, 1, 3] (.seq (.seq .leaf (.cond .leaf .leaf)) (.block .leaf)))) (.block (.loop [(3, .int .i64)] [0, 1, 2] (.seq (.seq .leaf (.cond .leaf .leaf)) (.block .leaf))))))))) (.seq .leaf .leaf)))
theorem dom_meet_eq (near : Sl) (rank : Sl) (a : Int) (b : Int) (h : Heap) (K : Value → Heap → Prop) : dom_meet near rank a b h K = fnW Try.prog ty dom_meet_a (bodyOf Try.f33) [.tmp 8] [near.v, rank.v, .int .i64 a, .int .i64 b] h K := by kernel_rfl
theorem dom_meet_of {near : Sl} {rank : Sl} {a : Int} {b : Int} {h : Heap} {K : Value → Heap → Prop} (hw : dom_meet near rank a b h K) : ACalls Try.prog F_dom_meet [near.v, rank.v, .int .i64 a, .int .i64 b] h K :=
  calls_sound ty_ok mixed dom_meet_a (c := bodyOf Try.f33) Try.func33 (by kernel_rfl) (by kernel_rfl) (by kernel_rfl) (Nat.le_of_ble_eq_true rfl) (by rw [dom_meet_eq] at hw; exact hw)

/-- lateen/flow.walk -/
def flow_walk (g : Sl) (h : Heap) (K : Value → Heap → Prop) : Prop :=
  (g.len : Int) = (g.len : Int) ∧ mk si_Lbool (g.len : Int) h fun s h_1 =>
  ifB ((g.len : Int) == 0)
   (K (.tuple #[s.v, (⟨none, 0, 0⟩ : Sl).v]) h_1)
   (idx 1 s 0 fun p =>
  st [.bool true] h_1 p fun h_2 =>
  bst [(0, 1), (1, 1)] #[.int .i64 0, .int .i64 0] [] fun c =>
  bld si_Lflow_step 1 [(0, .agg c)] h_2 fun s_1 h_3 =>
  loopW (fun _ (q_left : Sl × Sl) h_4 next =>
    ifB (decide ((q_left.2.len : Int) > 0))
     (ar .i64 ((q_left.2.len : Int) - 1) fun n =>
    idx 2 q_left.2 n fun p_1 =>
    ld (.int .i64) h_4 (p_1.add 1) fun (x : Int) =>
    ld (.int .i64) h_4 (p_1.add 0) fun (x_1 : Int) =>
    idx 1 g x_1 fun p_2 =>
    ld .sl h_4 p_2 fun (x_2 : Sl) =>
    ifB (x == (x_2.len : Int))
     (ld (.int .i64) h_4 (p_1.add 0) fun (x_3 : Int) =>
     bld si_Lint 1 [(0, .int .i64 x_3)] h_4 fun s_2 h_5 =>
     app si_Lint q_left.1 s_2 h_5 fun s_3 h_6 =>
     ar .i64 ((q_left.2.len : Int) - 1) fun n_1 =>
     slc 2 q_left.2 none (some n_1) fun s_4 =>
     next (s_3, s_4) h_6)
     (ld (.int .i64) h_4 (p_1.add 0) fun (x_4 : Int) =>
    idx 1 g x_4 fun p_3 =>
    ld .sl h_4 p_3 fun (x_5 : Sl) =>
    ld (.int .i64) h_4 (p_1.add 1) fun (x_6 : Int) =>
    idx 1 x_5 x_6 fun p_4 =>
    ld (.int .i64) h_4 p_4 fun (x_7 : Int) =>
    ld (.int .i64) h_4 (p_1.add 1) fun (x_8 : Int) =>
    ar .i64 (x_8 + 1) fun n_2 =>
    st [.int .i64 n_2] h_4 (p_1.add 1) fun h_7 =>
    joinW (fun _ (t : Bool) h_8 =>
      ifB t
       (idx 1 s x_7 fun p_5 =>
       st [.bool true] h_8 p_5 fun h_9 =>
       bst [(0, 1), (1, 1)] #[.int .i64 0, .int .i64 0] [(0, .int .i64 x_7)] fun c_1 =>
       bld si_Lflow_step 1 [(0, .agg c_1)] h_9 fun s_5 h_10 =>
       app si_Lflow_step q_left.2 s_5 h_10 fun s_6 h_11 =>
       next (q_left.1, s_6) h_11)
       (next (q_left.1, q_left.2) h_8)) fun k =>
    ifB (decide (x_7 ≥ 0))
     (ifB (decide (x_7 < (g.len : Int)))
         (idx 1 s x_7 fun p_6 =>
           ld .bool h_7 p_6 fun (x_9 : Bool) =>
            k (!x_9) h_7)
         (k false h_7))
     (k false h_7)))
     (K (.tuple #[s.v, q_left.1.v]) h_4)) ((⟨none, 0, 0⟩ : Sl), s_1) h_3)
def flow_walk_a : Ann := (.seq .leaf (.seq .leaf (.seq .leaf (.seq (.seq .leaf (.cond (.seq .leaf .leaf) .leaf)) (.seq .leaf (.seq .leaf (.seq (.block (.loop [(5, .sl), (6, .sl)] [0, 4] (.seq (.seq .leaf (.cond .leaf .leaf)) (.block (.seq .leaf (.seq (.seq .leaf (.cond (.seq .leaf (.seq .leaf .leaf)) .leaf)) (.seq .leaf (.seq .leaf (.join [(88, .bool)] [0, 4, 5, 6, 8] .leaf (.cond (.seq .leaf .leaf) .leaf)))))))))) (.seq .leaf .leaf))))))))
theorem flow_walk_eq (g : Sl) (h : Heap) (K : Value → Heap → Prop) : flow_walk g h K = fnW Try.prog ty flow_walk_a (bodyOf Try.f34) [.tmp 2, .tmp 3] [g.v] h K := by kernel_rfl
theorem flow_walk_of {g : Sl} {h : Heap} {K : Value → Heap → Prop} (hw : flow_walk g h K) : ACalls Try.prog F_flow_walk [g.v] h K :=
  calls_sound ty_ok mixed flow_walk_a (c := bodyOf Try.f34) Try.func34 (by kernel_rfl) (by kernel_rfl) (by kernel_rfl) (Nat.le_of_ble_eq_true rfl) (by rw [flow_walk_eq] at hw; exact hw)

/-- slices.Reverse[[]int,int] -/
def slices_Reverse (s : Sl) (h : Heap) (K : Value → Heap → Prop) : Prop :=
  ar .i64 ((s.len : Int) - 1) fun n =>
  loopW (fun _ (q_i : Int × Int) h_1 next =>
    ifB (decide (q_i.1 < q_i.2))
     (idx 1 s q_i.2 fun p =>
    ld (.int .i64) h_1 p fun (x : Int) =>
    idx 1 s q_i.1 fun p_1 =>
    ld (.int .i64) h_1 p_1 fun (x_1 : Int) =>
    idx 1 s q_i.1 fun p_2 =>
    st [.int .i64 x] h_1 p_2 fun h_2 =>
    idx 1 s q_i.2 fun p_3 =>
    st [.int .i64 x_1] h_2 p_3 fun h_3 =>
    ar .i64 (q_i.1 + 1) fun n_1 =>
    ar .i64 (q_i.2 - 1) fun n_2 =>
    next (n_1, n_2) h_3)
     (K (.tuple #[]) h_1)) (0, n) h
def slices_Reverse_a : Ann := (.seq .leaf (.block (.loop [(2, .int .i64), (3, .int .i64)] [0] (.seq (.seq .leaf (.cond .leaf .leaf)) (.seq (.block .leaf) .leaf)))))
theorem slices_Reverse_eq (s : Sl) (h : Heap) (K : Value → Heap → Prop) : slices_Reverse s h K = fnW Try.prog ty slices_Reverse_a (bodyOf Try.f35) [] [s.v] h K := by kernel_rfl
theorem slices_Reverse_of {s : Sl} {h : Heap} {K : Value → Heap → Prop} (hw : slices_Reverse s h K) : ACalls Try.prog F_slices_Reverse [s.v] h K :=
  calls_sound ty_ok mixed slices_Reverse_a (c := bodyOf Try.f35) Try.func35 (by kernel_rfl) (by kernel_rfl) (by kernel_rfl) (Nat.le_of_ble_eq_true rfl) (by rw [slices_Reverse_eq] at hw; exact hw)

/-- slices.Clone[[]int,int] -/
def slices_Clone (s : Sl) (h : Heap) (K : Value → Heap → Prop) : Prop :=
  ifB s.a.isNone
   (K ((⟨none, 0, 0⟩ : Sl).v) h)
   (bld si_Lint 0 [] h fun s_1 h_1 =>
  app si_Lint s_1 s h_1 fun s_2 h_2 =>
  K s_2.v h_2)
def slices_Clone_a : Ann := (.seq .leaf (.seq (.seq .leaf (.cond (.seq .leaf .leaf) .leaf)) (.seq .leaf .leaf)))
theorem slices_Clone_eq (s : Sl) (h : Heap) (K : Value → Heap → Prop) : slices_Clone s h K = fnW Try.prog ty slices_Clone_a (bodyOf Try.f36) [.tmp 2] [s.v] h K := by kernel_rfl
theorem slices_Clone_of {s : Sl} {h : Heap} {K : Value → Heap → Prop} (hw : slices_Clone s h K) : ACalls Try.prog F_slices_Clone [s.v] h K :=
  calls_sound ty_ok mixed slices_Clone_a (c := bodyOf Try.f36) Try.func36 (by kernel_rfl) (by kernel_rfl) (by kernel_rfl) (Nat.le_of_ble_eq_true rfl) (by rw [slices_Clone_eq] at hw; exact hw)

/-- lateen/lateenref09.Come -/
def lateenref09_Come (g : Sl) (h : Heap) (K : Value → Heap → Prop) : Prop :=
  (g.len : Int) = (g.len : Int) ∧ mk si_Lbool (g.len : Int) h fun s h_1 =>
  joinW (fun _ (marked : Sl) h_2 =>
    K marked.v h_2) fun k =>
  ifB (decide ((g.len : Int) > 0))
   (ACalls Try.prog F_lateenref09_down [g.v, .int .i64 0, s.v, (⟨none, 0, 0⟩ : Sl).v] h_1 fun v h_3 => as2 .sl .sl v fun r r_1 =>
   k r h_3)
   (k s h_1)
def lateenref09_Come_a : Ann := (.seq .leaf (.seq .leaf (.join [(3, .sl)] [] (.seq .leaf (.cond .leaf .leaf)) (.seq .leaf .leaf))))
theorem lateenref09_Come_eq (g : Sl) (h : Heap) (K : Value → Heap → Prop) : lateenref09_Come g h K = fnW Try.prog ty lateenref09_Come_a (bodyOf Try.f37) [.tmp 2] [g.v] h K := by kernel_rfl
theorem lateenref09_Come_of {g : Sl} {h : Heap} {K : Value → Heap → Prop} (hw : lateenref09_Come g h K) : ACalls Try.prog F_lateenref09_Come [g.v] h K :=
  calls_sound ty_ok mixed lateenref09_Come_a (c := bodyOf Try.f37) Try.func37 (by kernel_rfl) (by kernel_rfl) (by kernel_rfl) (Nat.le_of_ble_eq_true rfl) (by rw [lateenref09_Come_eq] at hw; exact hw)

/-- lateen/lateenref10.Without -/
def lateenref10_Without (g : Sl) (atv : Int) (h : Heap) (K : Value → Heap → Prop) : Prop :=
  loopW (fun _ (q_h_1 : Sl × Int) h_2 next =>
    ifB (decide (q_h_1.2 < (g.len : Int)))
     (loopW (fun _ (q_l : Sl × Int) h_3 next_1 =>
      idx 1 g q_h_1.2 fun p =>
      ld .sl h_3 p fun (x : Sl) =>
      ifB (decide (q_l.2 < (x.len : Int)))
       (joinW (fun _ (l_1 : Sl) h_4 =>
        ar .i64 (q_l.2 + 1) fun n =>
        next_1 (l_1, n) h_4) fun k_1 =>
      joinW (fun _ (t : Bool) h_5 =>
        ifB t
         (idx 1 g q_h_1.2 fun p_1 =>
         ld .sl h_5 p_1 fun (x_1 : Sl) =>
         idx 1 x_1 q_l.2 fun p_2 =>
         ld (.int .i64) h_5 p_2 fun (x_2 : Int) =>
         bld si_Lint 1 [(0, .int .i64 x_2)] h_5 fun s h_6 =>
         app si_Lint q_l.1 s h_6 fun s_1 h_7 =>
         k_1 s_1 h_7)
         (k_1 q_l.1 h_5)) fun k_2 =>
      ifB (q_h_1.2 != atv)
       (idx 1 g q_h_1.2 fun p_3 =>
         ld .sl h_3 p_3 fun (x_3 : Sl) =>
          idx 1 x_3 q_l.2 fun p_4 =>
            ld (.int .i64) h_3 p_4 fun (x_4 : Int) =>
             k_2 (x_4 != atv) h_3)
       (k_2 false h_3))
       (bld si_LLint 1 [(0, q_l.1.v)] h_3 fun s_2 h_8 =>
    app si_LLint q_h_1.1 s_2 h_8 fun s_3 h_9 =>
    ar .i64 (q_h_1.2 + 1) fun n_1 =>
    next (s_3, n_1) h_9)) ((⟨none, 0, 0⟩ : Sl), 0) h_2)
     (ACalls Try.prog F_lateenref09_Come [q_h_1.1.v] h_2 fun v h_10 => as1 .sl v fun r =>
  ifB (atv == 0)
   ((g.len : Int) = (g.len : Int) ∧ mk si_Lbool (g.len : Int) h_10 fun s_4 h_11 =>
   K s_4.v h_11)
   (K r.v h_10))) ((⟨none, 0, 0⟩ : Sl), 0) h
def lateenref10_Without_a : Ann := (.seq .leaf (.seq .leaf (.seq (.seq .leaf (.block (.loop [(5, .sl), (6, .int .i64)] [0, 1] (.seq (.seq .leaf (.cond .leaf .leaf)) (.seq (.block (.seq .leaf (.seq (.seq .leaf (.block (.loop [(7, .sl), (8, .int .i64)] [0, 1, 5, 6] (.seq (.seq .leaf (.cond .leaf .leaf)) (.join [(7, .sl)] [0, 1, 5, 6, 8] (.block (.join [(38, .bool)] [0, 1, 5, 6, 7, 8] .leaf (.cond .leaf .leaf))) .leaf))))) .leaf))) .leaf))))) (.seq .leaf (.seq (.seq .leaf (.cond (.seq .leaf .leaf) .leaf)) (.seq .leaf .leaf))))))
theorem lateenref10_Without_eq (g : Sl) (atv : Int) (h : Heap) (K : Value → Heap → Prop) : lateenref10_Without g atv h K = fnW Try.prog ty lateenref10_Without_a (bodyOf Try.f38) [.tmp 4] [g.v, .int .i64 atv] h K := by kernel_rfl
theorem lateenref10_Without_of {g : Sl} {atv : Int} {h : Heap} {K : Value → Heap → Prop} (hw : lateenref10_Without g atv h K) : ACalls Try.prog F_lateenref10_Without [g.v, .int .i64 atv] h K :=
  calls_sound ty_ok mixed lateenref10_Without_a (c := bodyOf Try.f38) Try.func38 (by kernel_rfl) (by kernel_rfl) (by kernel_rfl) (Nat.le_of_ble_eq_true rfl) (by rw [lateenref10_Without_eq] at hw; exact hw)

/-- slices.Index[[]int,int] -/
def slices_Index (s : Sl) (v : Int) (h : Heap) (K : Value → Heap → Prop) : Prop :=
  loopW (fun _ (t : Int) h_1 next =>
    ifB (decide (t < (s.len : Int)))
     (idx 1 s t fun p =>
    ld (.int .i64) h_1 p fun (x : Int) =>
    ifB (v == x)
     (K (.int .i64 t) h_1)
     (ar .i64 (t + 1) fun n =>
    next n h_1))
     (K (.int .i64 (-1)) h_1)) 0 h
def slices_Index_a : Ann := (.seq .leaf (.seq (.seq .leaf (.block (.loop [(8, .int .i64)] [0, 1, 7] (.seq .leaf (.seq (.cond .leaf .leaf) (.seq (.block (.seq .leaf (.seq .leaf (.cond (.seq .leaf .leaf) .leaf)))) .leaf)))))) (.seq .leaf .leaf)))
theorem slices_Index_eq (s : Sl) (v : Int) (h : Heap) (K : Value → Heap → Prop) : slices_Index s v h K = fnW Try.prog ty slices_Index_a (bodyOf Try.f39) [.tmp 4] [s.v, .int .i64 v] h K := by kernel_rfl
theorem slices_Index_of {s : Sl} {v : Int} {h : Heap} {K : Value → Heap → Prop} (hw : slices_Index s v h K) : ACalls Try.prog F_slices_Index [s.v, .int .i64 v] h K :=
  calls_sound ty_ok mixed slices_Index_a (c := bodyOf Try.f39) Try.func39 (by kernel_rfl) (by kernel_rfl) (by kernel_rfl) (Nat.le_of_ble_eq_true rfl) (by rw [slices_Index_eq] at hw; exact hw)

/-- lateen/lateenref09.down -/
def lateenref09_down (g : Sl) (atv : Int) (marked : Sl) (left : Sl) (h : Heap) (K : Value → Heap → Prop) : Prop :=
  app si_Lbool (⟨none, 0, 0⟩ : Sl) marked h fun s h_1 =>
  idx 1 s atv fun p =>
  st [.bool true] h_1 p fun h_2 =>
  loopW (fun _ (q_left_1 : Sl × Sl × Int) h_3 next =>
    idx 1 g atv fun p_1 =>
    ld .sl h_3 p_1 fun (x : Sl) =>
    ifB (decide (q_left_1.2.2 < (x.len : Int)))
     (joinW (fun _ (q_left_2 : Sl × Sl) h_4 =>
      ar .i64 (q_left_1.2.2 + 1) fun n =>
      next (q_left_2.1, q_left_2.2, n) h_4) fun k =>
    idx 1 g atv fun p_2 =>
    ld .sl h_3 p_2 fun (x_1 : Sl) =>
    idx 1 x_1 q_left_1.2.2 fun p_3 =>
    ld (.int .i64) h_3 p_3 fun (x_2 : Int) =>
    joinW (fun _ (t : Bool) h_5 =>
      ifB t
       (ACalls Try.prog F_lateenref09_down [g.v, .int .i64 x_2, q_left_1.2.1.v, q_left_1.1.v] h_5 fun v h_6 => as2 .sl .sl v fun r r_1 =>
       k (r_1, r) h_6)
       (k (q_left_1.1, q_left_1.2.1) h_5)) fun k_1 =>
    ifB (decide (x_2 ≥ 0))
     (ifB (decide (x_2 < (g.len : Int)))
         (idx 1 q_left_1.2.1 x_2 fun p_4 =>
           ld .bool h_3 p_4 fun (x_3 : Bool) =>
            k_1 (!x_3) h_3)
         (k_1 false h_3))
     (k_1 false h_3))
     (bld si_Lint 1 [(0, .int .i64 atv)] h_3 fun s_1 h_7 =>
  app si_Lint q_left_1.1 s_1 h_7 fun s_2 h_8 =>
  K (.tuple #[q_left_1.2.1.v, s_2.v]) h_8)) (left, s, 0) h_2
def lateenref09_down_a : Ann := (.seq .leaf (.seq .leaf (.seq .leaf (.seq .leaf (.seq (.seq .leaf (.block (.loop [(3, .sl), (10, .sl), (11, .int .i64)] [0, 1] (.seq (.seq .leaf (.cond .leaf .leaf)) (.join [(3, .sl), (10, .sl)] [0, 1, 11] (.block (.seq .leaf (.join [(49, .bool)] [0, 1, 3, 10, 11, 12] .leaf (.cond .leaf .leaf)))) .leaf))))) (.seq .leaf .leaf))))))
theorem lateenref09_down_eq (g : Sl) (atv : Int) (marked : Sl) (left : Sl) (h : Heap) (K : Value → Heap → Prop) : lateenref09_down g atv marked left h K = fnW Try.prog ty lateenref09_down_a (bodyOf Try.f40) [.tmp 8, .tmp 9] [g.v, .int .i64 atv, marked.v, left.v] h K := by kernel_rfl
theorem lateenref09_down_of {g : Sl} {atv : Int} {marked : Sl} {left : Sl} {h : Heap} {K : Value → Heap → Prop} (hw : lateenref09_down g atv marked left h K) : ACalls Try.prog F_lateenref09_down [g.v, .int .i64 atv, marked.v, left.v] h K :=
  calls_sound ty_ok mixed lateenref09_down_a (c := bodyOf Try.f40) Try.func40 (by kernel_rfl) (by kernel_rfl) (by kernel_rfl) (Nat.le_of_ble_eq_true rfl) (by rw [lateenref09_down_eq] at hw; exact hw)

end Go.Proofs.Ytniflhbfnkadhaa
