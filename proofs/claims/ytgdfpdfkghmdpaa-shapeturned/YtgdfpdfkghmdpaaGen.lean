/-
  Printed by genfw.py: the functions as Props over the layer, and what ties each to the model.
-/
import Derived.Test.YtgdfpdfkghmdpaaFwSound
import Derived.Test.YtgdfpdfkghmdpaaChecked
namespace Go.Proofs.Ytgdfpdfkghmdpaa
open Go.Fw

def si_Lapi_Block : SlI := ⟨40, 9, 136, .agg #[.string ⟨#[]⟩, .slice none 0 0, .slice none 0 0, .int .i64 0, .int .i64 0, .string ⟨#[]⟩, .int .i64 0, .slice none 0 0, .int .i64 0]⟩
def si_Lbool : SlI := ⟨4, 1, 1, .bool false⟩
def si_Lstring : SlI := ⟨9, 1, 16, .string ⟨#[]⟩⟩
def si_Lapi_Phi : SlI := ⟨51, 2, 40, .agg #[.string ⟨#[]⟩, .slice none 0 0]⟩
def si_Lint : SlI := ⟨3, 1, 8, .int .i64 0⟩
def si_Lapi_In : SlI := ⟨48, 4, 48, .agg #[.string ⟨#[]⟩, .int .i64 0, .string ⟨#[]⟩, .int .i64 0]⟩
abbrev F_lateenlaw08_ShapeRights : FuncId := 3
abbrev F_lateenlaw08_ShapePhis : FuncId := 4
abbrev F_lateenlaw08_ShapeCome : FuncId := 5
abbrev F_lateenlaw08_ShapeTurned : FuncId := 6
abbrev F_lateenlaw08_ShapeLess : FuncId := 7
abbrev F_lateenlaw08_awake : FuncId := 8
abbrev F_lateenref08_Few : FuncId := 9
abbrev F_shape_Place : FuncId := 10
abbrev F_lateenref08_Place : FuncId := 11
abbrev F_shape_Right : FuncId := 12
abbrev F_lateenref08_Right : FuncId := 13
abbrev F_shape_Phis : FuncId := 14
abbrev F_lateenref08_Phis : FuncId := 15
abbrev F_lateenlaw08_jump : FuncId := 16
abbrev F_lateenref08_Leads : FuncId := 17
abbrev F_shape_places : FuncId := 18
abbrev F_shape_ends : FuncId := 19
abbrev F_shape_come : FuncId := 20
abbrev F_lateenref08_Come : FuncId := 21
abbrev F_shape_from : FuncId := 22
abbrev F_shape_phi : FuncId := 23
def ty : Tys :=
  { tk := [(3, .int .i64), (4, .bool), (5, .int .u8), (9, .str), (23, .sl), (25, .agg 5), (34, .sl), (37, .sl), (40, .agg 9), (42, .int .u64), (48, .agg 4), (49, .sl), (51, .agg 2)]
    sl := [(23, si_Lapi_Block), (31, si_Lbool), (34, si_Lstring), (37, si_Lapi_Phi), (41, si_Lint), (49, si_Lapi_In)]
    zs := [(25, .agg #[.string ⟨#[]⟩, .string ⟨#[]⟩, .slice none 0 0, .slice none 0 0, .slice none 0 0]), (40, .agg #[.string ⟨#[]⟩, .slice none 0 0, .slice none 0 0, .int .i64 0, .int .i64 0, .string ⟨#[]⟩, .int .i64 0, .slice none 0 0, .int .i64 0]), (48, .agg #[.string ⟨#[]⟩, .int .i64 0, .string ⟨#[]⟩, .int .i64 0]), (51, .agg #[.string ⟨#[]⟩, .slice none 0 0])]
    off := [((25, 4), 4), ((36, 2), 4), ((40, 0), 0), ((40, 1), 1), ((40, 3), 3), ((48, 0), 0), ((51, 1), 1)]
    res := [(4, [.bool]), (23, [.sl]), (28, [.int .i64, .bool]), (31, [.sl]), (40, [.agg 9]), (53, [.map, .bool]), (58, [.map])]
    fns := [8, 9, 10, 11, 12, 13, 14, 15, 16, 17, 18, 19, 20, 21, 22, 23]
    bs := [(25, ([(0, 1), (1, 1), (2, 1), (3, 1), (4, 1)], .agg #[.string ⟨#[]⟩, .string ⟨#[]⟩, .slice none 0 0, .slice none 0 0, .slice none 0 0])), (36, ([(0, 1), (1, 3), (4, 1), (5, 1)], .agg #[.int .i64 0, .int .i64 0, .string ⟨#[]⟩, .int .i64 0, .slice none 0 0, .int .i64 0])), (40, ([(0, 1), (1, 1), (2, 1), (3, 6)], .agg #[.string ⟨#[]⟩, .slice none 0 0, .slice none 0 0, .int .i64 0, .int .i64 0, .string ⟨#[]⟩, .int .i64 0, .slice none 0 0, .int .i64 0])), (48, ([(0, 1), (1, 3)], .agg #[.string ⟨#[]⟩, .int .i64 0, .string ⟨#[]⟩, .int .i64 0])), (51, ([(0, 1), (1, 1)], .agg #[.string ⟨#[]⟩, .slice none 0 0]))]
    mp := [(52, (.string, .int .i64 0, .int .i64)), (58, (.string, .slice none 0 0, .sl)), (61, (.string, .bool false, .bool))] }
theorem ty_ok : TOk Try.prog ty where
  tk := (List.forall_mem_cons.2 ⟨⟨⟨_, Try.underlying3, rfl, rfl⟩, by kernel_rfl⟩, List.forall_mem_cons.2 ⟨⟨⟨_, Try.underlying4, rfl, rfl⟩, by kernel_rfl⟩, List.forall_mem_cons.2 ⟨⟨⟨_, Try.underlying5, rfl, rfl⟩, by kernel_rfl⟩, List.forall_mem_cons.2 ⟨⟨⟨_, Try.underlying9, rfl, rfl⟩, by kernel_rfl⟩, List.forall_mem_cons.2 ⟨⟨⟨_, Try.underlying23, rfl, ⟨_, rfl⟩⟩, by kernel_rfl⟩, List.forall_mem_cons.2 ⟨⟨⟨_, Try.underlying25, rfl, trivial⟩, by kernel_rfl⟩, List.forall_mem_cons.2 ⟨⟨⟨_, Try.underlying34, rfl, ⟨_, rfl⟩⟩, by kernel_rfl⟩, List.forall_mem_cons.2 ⟨⟨⟨_, Try.underlying37, rfl, ⟨_, rfl⟩⟩, by kernel_rfl⟩, List.forall_mem_cons.2 ⟨⟨⟨_, Try.underlying40, rfl, trivial⟩, by kernel_rfl⟩, List.forall_mem_cons.2 ⟨⟨⟨_, Try.underlying42, rfl, rfl⟩, by kernel_rfl⟩, List.forall_mem_cons.2 ⟨⟨⟨_, Try.underlying48, rfl, trivial⟩, by kernel_rfl⟩, List.forall_mem_cons.2 ⟨⟨⟨_, Try.underlying49, rfl, ⟨_, rfl⟩⟩, by kernel_rfl⟩, List.forall_mem_cons.2 ⟨⟨⟨_, Try.underlying51, rfl, trivial⟩, by kernel_rfl⟩, List.forall_mem_nil _⟩⟩⟩⟩⟩⟩⟩⟩⟩⟩⟩⟩⟩)
  sl := (List.forall_mem_cons.2 ⟨⟨Try.underlying23, by kernel_rfl, by kernel_rfl, by decide⟩, List.forall_mem_cons.2 ⟨⟨Try.underlying31, by kernel_rfl, by kernel_rfl, by decide⟩, List.forall_mem_cons.2 ⟨⟨Try.underlying34, by kernel_rfl, by kernel_rfl, by decide⟩, List.forall_mem_cons.2 ⟨⟨Try.underlying37, by kernel_rfl, by kernel_rfl, by decide⟩, List.forall_mem_cons.2 ⟨⟨Try.underlying41, by kernel_rfl, by kernel_rfl, by decide⟩, List.forall_mem_cons.2 ⟨⟨Try.underlying49, by kernel_rfl, by kernel_rfl, by decide⟩, List.forall_mem_nil _⟩⟩⟩⟩⟩⟩)
  zs := (List.forall_mem_cons.2 ⟨(show ZsOk _ _ by unfold ZsOk; kernel_rfl), List.forall_mem_cons.2 ⟨(show ZsOk _ _ by unfold ZsOk; kernel_rfl), List.forall_mem_cons.2 ⟨(show ZsOk _ _ by unfold ZsOk; kernel_rfl), List.forall_mem_cons.2 ⟨(show ZsOk _ _ by unfold ZsOk; kernel_rfl), List.forall_mem_nil _⟩⟩⟩⟩)
  off := (List.forall_mem_cons.2 ⟨⟨_, _, Try.underlying25, rfl, rfl, by kernel_rfl⟩, List.forall_mem_cons.2 ⟨⟨_, _, Try.underlying36, rfl, rfl, by kernel_rfl⟩, List.forall_mem_cons.2 ⟨⟨_, _, Try.underlying40, rfl, rfl, by kernel_rfl⟩, List.forall_mem_cons.2 ⟨⟨_, _, Try.underlying40, rfl, rfl, by kernel_rfl⟩, List.forall_mem_cons.2 ⟨⟨_, _, Try.underlying40, rfl, rfl, by kernel_rfl⟩, List.forall_mem_cons.2 ⟨⟨_, _, Try.underlying48, rfl, rfl, by kernel_rfl⟩, List.forall_mem_cons.2 ⟨⟨_, _, Try.underlying51, rfl, rfl, by kernel_rfl⟩, List.forall_mem_nil _⟩⟩⟩⟩⟩⟩⟩)
  fns := (List.forall_mem_cons.2 ⟨(show FnOk _ _ by unfold FnOk; kernel_rfl), List.forall_mem_cons.2 ⟨(show FnOk _ _ by unfold FnOk; kernel_rfl), List.forall_mem_cons.2 ⟨(show FnOk _ _ by unfold FnOk; kernel_rfl), List.forall_mem_cons.2 ⟨(show FnOk _ _ by unfold FnOk; kernel_rfl), List.forall_mem_cons.2 ⟨(show FnOk _ _ by unfold FnOk; kernel_rfl), List.forall_mem_cons.2 ⟨(show FnOk _ _ by unfold FnOk; kernel_rfl), List.forall_mem_cons.2 ⟨(show FnOk _ _ by unfold FnOk; kernel_rfl), List.forall_mem_cons.2 ⟨(show FnOk _ _ by unfold FnOk; kernel_rfl), List.forall_mem_cons.2 ⟨(show FnOk _ _ by unfold FnOk; kernel_rfl), List.forall_mem_cons.2 ⟨(show FnOk _ _ by unfold FnOk; kernel_rfl), List.forall_mem_cons.2 ⟨(show FnOk _ _ by unfold FnOk; kernel_rfl), List.forall_mem_cons.2 ⟨(show FnOk _ _ by unfold FnOk; kernel_rfl), List.forall_mem_cons.2 ⟨(show FnOk _ _ by unfold FnOk; kernel_rfl), List.forall_mem_cons.2 ⟨(show FnOk _ _ by unfold FnOk; kernel_rfl), List.forall_mem_cons.2 ⟨(show FnOk _ _ by unfold FnOk; kernel_rfl), List.forall_mem_cons.2 ⟨(show FnOk _ _ by unfold FnOk; kernel_rfl), List.forall_mem_nil _⟩⟩⟩⟩⟩⟩⟩⟩⟩⟩⟩⟩⟩⟩⟩⟩)
  bs := (List.forall_mem_cons.2 ⟨⟨_, Try.underlying25, by kernel_rfl, by kernel_rfl⟩, List.forall_mem_cons.2 ⟨⟨_, Try.underlying36, by kernel_rfl, by kernel_rfl⟩, List.forall_mem_cons.2 ⟨⟨_, Try.underlying40, by kernel_rfl, by kernel_rfl⟩, List.forall_mem_cons.2 ⟨⟨_, Try.underlying48, by kernel_rfl, by kernel_rfl⟩, List.forall_mem_cons.2 ⟨⟨_, Try.underlying51, by kernel_rfl, by kernel_rfl⟩, List.forall_mem_nil _⟩⟩⟩⟩⟩)
  mp := (List.forall_mem_cons.2 ⟨⟨9, 3, Try.underlying52, by kernel_rfl, (show ZsOk _ _ by unfold ZsOk; kernel_rfl)⟩, List.forall_mem_cons.2 ⟨⟨9, 34, Try.underlying58, by kernel_rfl, (show ZsOk _ _ by unfold ZsOk; kernel_rfl)⟩, List.forall_mem_cons.2 ⟨⟨9, 4, Try.underlying61, by kernel_rfl, (show ZsOk _ _ by unfold ZsOk; kernel_rfl)⟩, List.forall_mem_nil _⟩⟩⟩)
theorem mixed : Try.prog.follows .mixedOrders = true := by kernel_rfl

/-- lateen/lateenlaw08.ShapeRights -/
def lateenlaw08_ShapeRights (f : Array Value) (name : ByteArray) (h : Heap) (K : Value → Heap → Prop) : Prop :=
  new 25 f h fun p h_1 =>
  joinW (fun _ (t : Bool) h_2 =>
    ifB t
     (ACalls Try.prog F_lateenlaw08_awake [] h_2 fun v h_3 => as1 .bool v fun r =>
     K (.bool r) h_3)
     (ld (.agg 5) h_2 p fun (x : Array Value) =>
  ACalls Try.prog F_shape_Place [.agg x, .string name] h_2 fun v_1 h_4 => as2 (.int .i64) .bool v_1 fun r_1 r_2 =>
  ld (.agg 5) h_4 p fun (x_1 : Array Value) =>
  ACalls Try.prog F_lateenref08_Place [.agg x_1, .string name] h_4 fun v_2 h_5 => as2 (.int .i64) .bool v_2 fun r_3 r_4 =>
  joinW (fun _ (t_1 : Bool) h_6 =>
    K (.bool t_1) h_6) fun k_1 =>
  ld (.agg 5) h_5 p fun (x_2 : Array Value) =>
  ACalls Try.prog F_shape_Right [.agg x_2] h_5 fun v_3 h_7 => as1 .bool v_3 fun r_5 =>
  hExt h_5 h_7 ∧ ld (.agg 5) h_5 p fun (x_3 : Array Value) =>
  ACalls Try.prog F_lateenref08_Right [.agg x_3] h_7 fun v_4 h_8 => as1 .bool v_4 fun r_6 =>
  hExt h_7 h_8 ∧ ifB (r_5 == r_6)
   (ifB (r_1 == r_3)
      (k_1 (r_2 == r_4) h_8)
      (k_1 false h_8))
   (k_1 false h_8))) fun k =>
  ACalls Try.prog F_lateenlaw08_awake [] h_1 fun v_5 h_9 => as1 .bool v_5 fun r_7 =>
  ifB (!r_7)
   (k true h_9)
   (ld (.agg 5) h_9 p fun (x_4 : Array Value) =>
   ACalls Try.prog F_lateenref08_Few [.agg x_4] h_9 fun v_6 h_10 => as1 .bool v_6 fun r_8 =>
    k (!r_8) h_10)
def lateenlaw08_ShapeRights_a : Ann := (.seq .leaf (.seq (.join [(15, .bool)] [1, 2] .leaf (.cond (.seq .leaf .leaf) .leaf)) (.seq .leaf (.seq .leaf (.join [(4, .bool)] [] .based .leaf)))))
theorem lateenlaw08_ShapeRights_eq (f : Array Value) (name : ByteArray) (h : Heap) (K : Value → Heap → Prop) : lateenlaw08_ShapeRights f name h K = fnW Try.prog ty lateenlaw08_ShapeRights_a (bodyOf Try.f3) [.tmp 4] [.agg f, .string name] h K := by kernel_rfl
theorem lateenlaw08_ShapeRights_of {f : Array Value} {name : ByteArray} {h : Heap} {K : Value → Heap → Prop} (hw : lateenlaw08_ShapeRights f name h K) : ACalls Try.prog F_lateenlaw08_ShapeRights [.agg f, .string name] h K :=
  calls_sound ty_ok mixed lateenlaw08_ShapeRights_a (c := bodyOf Try.f3) Try.func3 (by kernel_rfl) (by kernel_rfl) (by kernel_rfl) (Nat.le_of_ble_eq_true rfl) (by rw [lateenlaw08_ShapeRights_eq] at hw; exact hw)

/-- lateen/lateenlaw08.ShapePhis -/
def lateenlaw08_ShapePhis (f : Array Value) (h : Heap) (K : Value → Heap → Prop) : Prop :=
  new 25 f h fun p h_1 =>
  joinW (fun _ (t : Bool) h_2 =>
    ifB t
     (ACalls Try.prog F_lateenlaw08_awake [] h_2 fun v h_3 => as1 .bool v fun r =>
     K (.bool r) h_3)
     (ld (.agg 5) h_2 p fun (x : Array Value) =>
  ACalls Try.prog F_shape_Phis [.agg x] h_2 fun v_1 h_4 => as1 .bool v_1 fun r_1 =>
  hExt h_2 h_4 ∧ ld (.agg 5) h_2 p fun (x_1 : Array Value) =>
  ACalls Try.prog F_lateenref08_Phis [.agg x_1] h_4 fun v_2 h_5 => as1 .bool v_2 fun r_2 =>
  hExt h_4 h_5 ∧ K (.bool (r_1 == r_2)) h_5)) fun k =>
  ACalls Try.prog F_lateenlaw08_awake [] h_1 fun v_3 h_6 => as1 .bool v_3 fun r_3 =>
  ifB (!r_3)
   (k true h_6)
   (ld (.agg 5) h_6 p fun (x_2 : Array Value) =>
   ACalls Try.prog F_lateenref08_Few [.agg x_2] h_6 fun v_4 h_7 => as1 .bool v_4 fun r_4 =>
    ifB (!r_4)
      (k true h_7)
      (ld (.agg 5) h_7 p fun (x_3 : Array Value) =>
      ACalls Try.prog F_lateenref08_Right [.agg x_3] h_7 fun v_5 h_8 => as1 .bool v_5 fun r_5 =>
       k (!r_5) h_8))
def lateenlaw08_ShapePhis_a : Ann := (.seq .leaf (.seq (.join [(14, .bool)] [1] .leaf (.cond (.seq .leaf .leaf) .leaf)) (.seq .based .leaf)))
theorem lateenlaw08_ShapePhis_eq (f : Array Value) (h : Heap) (K : Value → Heap → Prop) : lateenlaw08_ShapePhis f h K = fnW Try.prog ty lateenlaw08_ShapePhis_a (bodyOf Try.f4) [.tmp 2] [.agg f] h K := by kernel_rfl
theorem lateenlaw08_ShapePhis_of {f : Array Value} {h : Heap} {K : Value → Heap → Prop} (hw : lateenlaw08_ShapePhis f h K) : ACalls Try.prog F_lateenlaw08_ShapePhis [.agg f] h K :=
  calls_sound ty_ok mixed lateenlaw08_ShapePhis_a (c := bodyOf Try.f4) Try.func4 (by kernel_rfl) (by kernel_rfl) (by kernel_rfl) (Nat.le_of_ble_eq_true rfl) (by rw [lateenlaw08_ShapePhis_eq] at hw; exact hw)

/-- lateen/lateenlaw08.ShapeCome -/
def lateenlaw08_ShapeCome (f : Array Value) (h : Heap) (K : Value → Heap → Prop) : Prop :=
  new 25 f h fun p h_1 =>
  joinW (fun _ (t : Bool) h_2 =>
    ifB t
     (ACalls Try.prog F_lateenlaw08_awake [] h_2 fun v h_3 => as1 .bool v fun r =>
     K (.bool r) h_3)
     (ld .sl h_2 (p.add 4) fun (x : Sl) =>
  (x.len : Int) = (x.len : Int) ∧ mk si_Lbool (x.len : Int) h_2 fun s h_4 =>
  idx 1 s 0 fun p_1 =>
  st [.bool true] h_4 p_1 fun h_5 =>
  loopW (fun _ (n : Int) h_6 next =>
    ld .sl h_6 (p.add 4) fun (x_1 : Sl) =>
    ifB (decide (n < (x_1.len : Int)))
     (loopW (fun _ (i : Int) h_7 next_1 =>
      ld .sl h_7 (p.add 4) fun (x_2 : Sl) =>
      ifB (decide (i < (x_2.len : Int)))
       (ld .sl h_7 (p.add 4) fun (x_3 : Sl) =>
      idx 9 x_3 i fun p_2 =>
      ld .sl h_7 ((p_2.add 3).add 4) fun (x_4 : Sl) =>
      loopW (fun _ (k_1 : Int) h_8 next_2 =>
        ifB (decide (k_1 < (x_4.len : Int)))
         (joinW (fun _ (_ : Unit) h_9 =>
          ar .i64 (k_1 + 1) fun n_1 =>
          next_2 n_1 h_9) fun k_2 =>
        ld (.agg 5) h_8 p fun (x_5 : Array Value) =>
        idx 1 x_4 k_1 fun p_3 =>
        ld .str h_8 p_3 fun (x_6 : ByteArray) =>
        ACalls Try.prog F_shape_Place [.agg x_5, .string x_6] h_8 fun v_1 h_10 => as2 (.int .i64) .bool v_1 fun r_1 r_2 =>
        joinW (fun _ (t_1 : Bool) h_11 =>
          ifB t_1
           (K (.bool false) h_11)
           (idx 1 s r_1 fun p_4 =>
        ld .bool h_11 p_4 fun (x_7 : Bool) =>
        ifB x_7
         (idx 1 s r_1 fun p_5 =>
            st [.bool true] h_11 p_5 fun h_12 =>
            k_2 () h_12)
         (idx 1 s i fun p_6 =>
           ld .bool h_11 p_6 fun (x_8 : Bool) =>
            idx 1 s r_1 fun p_7 =>
            st [.bool x_8] h_11 p_7 fun h_13 =>
            k_2 () h_13))) fun k_3 =>
        ifB (!r_2)
         (k_3 true h_10)
         (k_3 (r_1 == 0) h_10))
         (ar .i64 (i + 1) fun n_2 =>
      next_1 n_2 h_8)) 0 h_7)
       (ar .i64 (n + 1) fun n_3 =>
    next n_3 h_7)) 0 h_6)
     (loopW (fun _ (i_1 : Int) h_14 next_3 =>
    ifB (decide (i_1 < (s.len : Int)))
     (idx 1 s i_1 fun p_8 =>
    ld .bool h_14 p_8 fun (x_9 : Bool) =>
    ifB (!x_9)
     (K (.bool false) h_14)
     (ar .i64 (i_1 + 1) fun n_4 =>
    next_3 n_4 h_14))
     (K (.bool true) h_14)) 0 h_6)) 0 h_5)) fun k =>
  ACalls Try.prog F_lateenlaw08_awake [] h_1 fun v_2 h_15 => as1 .bool v_2 fun r_3 =>
  ifB (!r_3)
   (k true h_15)
   (ld (.agg 5) h_15 p fun (x_10 : Array Value) =>
   ACalls Try.prog F_lateenref08_Few [.agg x_10] h_15 fun v_3 h_16 => as1 .bool v_3 fun r_4 =>
    ifB (!r_4)
      (k true h_16)
      (ld (.agg 5) h_16 p fun (x_11 : Array Value) =>
      ACalls Try.prog F_shape_Right [.agg x_11] h_16 fun v_4 h_17 => as1 .bool v_4 fun r_5 =>
       k (!r_5) h_17))
def lateenlaw08_ShapeCome_a : Ann := (.seq .leaf (.seq (.join [(22, .bool)] [1] .leaf (.cond (.seq .leaf .leaf) .leaf)) (.seq .leaf (.seq .leaf (.seq (.seq .leaf (.block (.loop [(4, .int .i64)] [1, 3] (.seq (.seq .leaf (.cond .leaf .leaf)) (.seq (.block (.seq .leaf (.block (.loop [(5, .int .i64)] [1, 3, 4] (.seq (.seq .leaf (.cond .leaf .leaf)) (.seq (.block (.seq .leaf (.seq .leaf (.block (.loop [(7, .int .i64)] [1, 3, 4, 5, 6] (.seq (.seq .leaf (.cond .leaf .leaf)) (.join [] [1, 3, 4, 5, 6, 7] (.block (.seq .leaf (.seq (.join [(71, .bool)] [1, 3, 4, 5, 6, 7, 8] .leaf (.cond (.seq .leaf .leaf) .leaf)) .leaf))) .leaf))))))) .leaf)))))) .leaf))))) (.seq (.seq .leaf (.block (.loop [(10, .int .i64)] [3] (.seq (.seq .leaf (.cond .leaf .leaf)) (.seq (.block (.seq .leaf (.cond (.seq .leaf .leaf) .leaf))) .leaf))))) (.seq .leaf .leaf)))))))
theorem lateenlaw08_ShapeCome_eq (f : Array Value) (h : Heap) (K : Value → Heap → Prop) : lateenlaw08_ShapeCome f h K = fnW Try.prog ty lateenlaw08_ShapeCome_a (bodyOf Try.f5) [.tmp 2] [.agg f] h K := by kernel_rfl
theorem lateenlaw08_ShapeCome_of {f : Array Value} {h : Heap} {K : Value → Heap → Prop} (hw : lateenlaw08_ShapeCome f h K) : ACalls Try.prog F_lateenlaw08_ShapeCome [.agg f] h K :=
  calls_sound ty_ok mixed lateenlaw08_ShapeCome_a (c := bodyOf Try.f5) Try.func5 (by kernel_rfl) (by kernel_rfl) (by kernel_rfl) (Nat.le_of_ble_eq_true rfl) (by rw [lateenlaw08_ShapeCome_eq] at hw; exact hw)

/-- lateen/lateenlaw08.ShapeTurned -/
def lateenlaw08_ShapeTurned (f : Array Value) (order : Sl) (h : Heap) (K : Value → Heap → Prop) : Prop :=
  new 25 f h fun p h_1 =>
  joinW (fun _ (t : Bool) h_2 =>
    ifB t
     (ACalls Try.prog F_lateenlaw08_awake [] h_2 fun v h_3 => as1 .bool v fun r =>
     K (.bool r) h_3)
     (ld (.agg 5) h_2 p fun (x : Array Value) =>
  new 25 #[.string ⟨#[]⟩, .string ⟨#[]⟩, .slice none 0 0, .slice none 0 0, .slice none 0 0] h_2 fun p_1 h_4 =>
  x.size = 5 ∧ st x.toList h_4 p_1 fun h_5 =>
  bld si_Lapi_Block 0 [] h_5 fun s h_6 =>
  ld .sl h_6 (p.add 4) fun (x_1 : Sl) =>
  app si_Lapi_Block s x_1 h_6 fun s_1 h_7 =>
  st [s_1.v] h_7 (p_1.add 4) fun h_8 =>
  ld .sl h_8 (p.add 4) fun (x_2 : Sl) =>
  ar .i64 ((x_2.len : Int) - 1) fun n =>
  loopW (fun _ (i : Int) h_9 next =>
    ifB (decide (i < (order.len : Int)))
     ((IntKind.i64.wrap (IntKind.u64.wrap n)) ≠ 0 ∧ (ar .i64 (1 + (Int.tmod i (IntKind.i64.wrap (IntKind.u64.wrap n)))) fun n_1 =>
    idx 1 order i fun p_2 =>
    ld (.int .i64) h_9 p_2 fun (x_3 : Int) =>
    (IntKind.u64.wrap n) ≠ 0 ∧ (ar .i64 (1 + (IntKind.i64.wrap (Int.tmod (IntKind.u64.wrap x_3) (IntKind.u64.wrap n)))) fun n_2 =>
    ∃ R : Heap → Prop, R h_9 ∧ (ld .sl h_9 (p_1.add 4) fun (x_4 : Sl) =>
    ldF .sl R (p_1.add 4) fun (x_5 : Sl) =>
    ld .sl h_9 (p_1.add 4) fun (x_6 : Sl) =>
    idx 9 x_6 n_2 fun p_3 =>
    ld (.agg 9) h_9 p_3 fun (x_7 : Array Value) =>
    ld .sl h_9 (p_1.add 4) fun (x_8 : Sl) =>
    idx 9 x_8 n_1 fun p_4 =>
    ld (.agg 9) h_9 p_4 fun (x_9 : Array Value) =>
    idx 9 x_4 n_1 fun p_5 =>
    x_7.size = 9 ∧ st x_7.toList h_9 p_5 fun h_10 =>
    R h_10 ∧ idx 9 x_5 n_2 fun p_6 =>
    x_9.size = 9 ∧ st x_9.toList h_10 p_6 fun h_11 =>
    R h_11 ∧ ar .i64 (i + 1) fun n_3 =>
    next n_3 h_11))))
     (ld (.agg 5) h_9 p fun (x_10 : Array Value) =>
  ACalls Try.prog F_shape_Right [.agg x_10] h_9 fun v_1 h_12 => as1 .bool v_1 fun r_1 =>
  hExt h_9 h_12 ∧ ld (.agg 5) h_9 p_1 fun (x_11 : Array Value) =>
  ACalls Try.prog F_shape_Right [.agg x_11] h_12 fun v_2 h_13 => as1 .bool v_2 fun r_2 =>
  hExt h_12 h_13 ∧ ifB (!(r_1 == r_2))
   (K (.bool false) h_13)
   (joinW (fun _ (t_1 : Bool) h_14 =>
    K (.bool t_1) h_14) fun k_1 =>
  ∃ (R_1 : Heap → Prop) (h_15 : Heap) (L : List As) (S : Specs), R_1 h_13 ∧ Sep h_15 h_13 L ∧ (ldF (.agg 5) R_1 p fun (x_12 : Array Value) =>
  freeW R_1 h_15 (S 1 [.agg x_12]) [] (fun h_16 Kv =>
      ACalls Try.prog F_shape_Right [.agg x_12] h_16 fun v_3 h_17 => as1 .bool v_3 fun r_3 =>
      Kv (.bool r_3) h_17) fun v_4 => as1 .bool v_4 fun r_4 =>
  ifB (!r_4)
   (endF R_1 h_15 ((S 1 [.agg x_12]).A v_4 ++ (L ++ [])) fun h_18 =>
       k_1 true h_18)
   (ldF (.agg 5) R_1 p fun (x_13 : Array Value) =>
   freeW R_1 h_15 (S 5 [.agg x_13, .bool false]) [] (fun h_19 Kv_1 =>
        ACalls Try.prog F_shape_Phis [.agg x_13] h_19 fun v_5 h_20 => as1 .bool v_5 fun r_5 =>
        Kv_1 (.bool r_5) h_20) fun v_6 => as1 .bool v_6 fun r_6 =>
    ldF (.agg 5) R_1 p_1 fun (x_14 : Array Value) =>
     freeW R_1 h_15 (S 7 [.agg x_14, .bool false]) [] (fun h_21 Kv_2 =>
          ACalls Try.prog F_shape_Phis [.agg x_14] h_21 fun v_7 h_22 => as1 .bool v_7 fun r_7 =>
          Kv_2 (.bool r_7) h_22) fun v_8 => as1 .bool v_8 fun r_8 =>
      endF R_1 h_15 ((S 1 [.agg x_12]).A v_4 ++ ((S 5 [.agg x_13, .bool false]).A v_6 ++ ((S 7 [.agg x_14, .bool false]).A v_8 ++ (L ++ [])))) fun h_23 =>
       k_1 (r_6 == r_8) h_23))))) 0 h_8)) fun k =>
  ACalls Try.prog F_lateenlaw08_awake [] h_1 fun v_9 h_24 => as1 .bool v_9 fun r_9 =>
  ifB (!r_9)
   (k true h_24)
   (ld (.agg 5) h_24 p fun (x_15 : Array Value) =>
   ACalls Try.prog F_lateenref08_Few [.agg x_15] h_24 fun v_10 h_25 => as1 .bool v_10 fun r_10 =>
    ifB (!r_10)
      (k true h_25)
      (ld .sl h_25 (p.add 4) fun (x_16 : Sl) =>
       ifB (decide ((x_16.len : Int) < 2))
          (k true h_25)
          (k (decide ((order.len : Int) > 200)) h_25)))
def lateenlaw08_ShapeTurned_a : Ann := (.seq .leaf (.seq (.join [(27, .bool)] [1, 2] .leaf (.cond (.seq .leaf .leaf) .leaf)) (.seq .leaf (.seq .leaf (.seq .leaf (.seq (.seq .leaf (.block (.loop [(7, .int .i64)] [1, 2, 5, 6] (.seq (.seq .leaf (.cond .leaf .leaf)) (.seq (.block (.seq .leaf (.seq .leaf (.kept [64])))) .leaf))))) (.seq (.seq .based (.cond (.seq .leaf .leaf) .leaf)) (.join [(4, .bool)] [] (.free 10 [[], [], [], [], [], [], [], [], [], [], []] [1, 5, 7, 11]) .leaf))))))))
theorem lateenlaw08_ShapeTurned_eq (f : Array Value) (order : Sl) (h : Heap) (K : Value → Heap → Prop) : lateenlaw08_ShapeTurned f order h K = fnW Try.prog ty lateenlaw08_ShapeTurned_a (bodyOf Try.f6) [.tmp 4] [.agg f, order.v] h K := by kernel_rfl
theorem lateenlaw08_ShapeTurned_of {f : Array Value} {order : Sl} {h : Heap} {K : Value → Heap → Prop} (hw : lateenlaw08_ShapeTurned f order h K) : ACalls Try.prog F_lateenlaw08_ShapeTurned [.agg f, order.v] h K :=
  calls_sound ty_ok mixed lateenlaw08_ShapeTurned_a (c := bodyOf Try.f6) Try.func6 (by kernel_rfl) (by kernel_rfl) (by kernel_rfl) (Nat.le_of_ble_eq_true rfl) (by rw [lateenlaw08_ShapeTurned_eq] at hw; exact hw)

/-- lateen/lateenlaw08.ShapeLess -/
def lateenlaw08_ShapeLess (f : Array Value) (atv : Int) (h : Heap) (K : Value → Heap → Prop) : Prop :=
  new 25 f h fun p h_1 =>
  joinW (fun _ (t : Bool) h_2 =>
    ifB t
     (ACalls Try.prog F_lateenlaw08_awake [] h_2 fun v h_3 => as1 .bool v fun r =>
     K (.bool r) h_3)
     (ld (.agg 5) h_2 p fun (x : Array Value) =>
  new 25 #[.string ⟨#[]⟩, .string ⟨#[]⟩, .slice none 0 0, .slice none 0 0, .slice none 0 0] h_2 fun p_1 h_4 =>
  x.size = 5 ∧ st x.toList h_4 p_1 fun h_5 =>
  bld si_Lapi_Block 0 [] h_5 fun s h_6 =>
  ld .sl h_6 (p.add 4) fun (x_1 : Sl) =>
  app si_Lapi_Block s x_1 h_6 fun s_1 h_7 =>
  ACalls Try.prog F_lateenlaw08_jump [.string ⟨#[98, 32, 49]⟩, (⟨none, 0, 0⟩ : Sl).v] h_7 fun v_1 h_8 => as1 (.agg 9) v_1 fun r_1 =>
  bld si_Lapi_Block 1 [(0, .agg r_1)] h_8 fun s_2 h_9 =>
  app si_Lapi_Block s_1 s_2 h_9 fun s_3 h_10 =>
  st [s_3.v] h_10 (p_1.add 4) fun h_11 =>
  ld (.agg 5) h_11 p_1 fun (x_2 : Array Value) =>
  ACalls Try.prog F_shape_Right [.agg x_2] h_11 fun v_2 h_12 => as1 .bool v_2 fun r_2 =>
  ifB r_2
   (K (.bool false) h_12)
   (ld .sl h_12 (p.add 4) fun (x_3 : Sl) =>
  ifB (decide ((x_3.len : Int) < 2))
   (K (.bool true) h_12)
   (ld .sl h_12 (p.add 4) fun (x_4 : Sl) =>
  ar .i64 ((x_4.len : Int) - 1) fun n =>
  n ≠ 0 ∧ (ar .i64 (1 + (Int.tmod (IntKind.i64.wrap atv) n)) fun n_1 =>
  ld (.agg 5) h_12 p fun (x_5 : Array Value) =>
  new 25 #[.string ⟨#[]⟩, .string ⟨#[]⟩, .slice none 0 0, .slice none 0 0, .slice none 0 0] h_12 fun p_2 h_13 =>
  x_5.size = 5 ∧ st x_5.toList h_13 p_2 fun h_14 =>
  ∃ (R : Heap → Prop) (h_15 : Heap) (L : List As) (S : Specs), R h_14 ∧ Sep h_15 h_14 L ∧ (freeW R h_15 (S 0 []) [] (fun h_16 Kv =>
      bld si_Lapi_Block 0 [] h_16 fun s_4 h_17 =>
      Kv s_4.v h_17) fun v_3 => as1 .sl v_3 fun r_3 =>
  ldF .sl R (p.add 4) fun (x_6 : Sl) =>
  slc 9 x_6 none (some n_1) fun s_5 =>
  freeW R h_15 (S 5 [r_3.v, s_5.v]) ((S 0 []).A v_3 ++ []) (fun h_18 Kv_1 =>
      app si_Lapi_Block r_3 s_5 h_18 fun s_6 h_19 =>
      Kv_1 s_6.v h_19) fun v_4 => as1 .sl v_4 fun r_4 =>
  ldF .sl R (p.add 4) fun (x_7 : Sl) =>
  ar .i64 (n_1 + 1) fun n_2 =>
  slc 9 x_7 (some n_2) none fun s_7 =>
  freeW R h_15 (S 11 [r_4.v, s_7.v]) ((S 5 [r_3.v, s_5.v]).A v_4 ++ []) (fun h_20 Kv_2 =>
      app si_Lapi_Block r_4 s_7 h_20 fun s_8 h_21 =>
      Kv_2 s_8.v h_21) fun v_5 => as1 .sl v_5 fun r_5 =>
  endF R h_15 ((S 11 [r_4.v, s_7.v]).A v_5 ++ (L ++ [])) fun h_22 =>
  st [r_5.v] h_22 (p_2.add 4) fun h_23 =>
  loopW (fun _ (q_used : Bool × Int) h_24 next =>
    ld .sl h_24 (p.add 4) fun (x_8 : Sl) =>
    ifB (decide (q_used.2 < (x_8.len : Int)))
     (joinW (fun _ (used_1 : Bool) h_25 =>
      ar .i64 (q_used.2 + 1) fun n_3 =>
      next (used_1, n_3) h_25) fun k_1 =>
    ifB q_used.1
     (k_1 true h_24)
     (ifB (q_used.2 != n_1)
         (ld (.agg 5) h_24 p fun (x_9 : Array Value) =>
         ACalls Try.prog F_lateenref08_Leads [.agg x_9, .int .i64 q_used.2, .int .i64 n_1] h_24 fun v_6 h_26 => as1 .bool v_6 fun r_6 =>
            k_1 r_6 h_26)
         (k_1 false h_24)))
     (joinW (fun _ (t_1 : Bool) h_27 =>
    K (.bool t_1) h_27) fun k_2 =>
  ifB (!q_used.1)
   (k_2 true h_24)
   (ld (.agg 5) h_24 p_2 fun (x_10 : Array Value) =>
   ACalls Try.prog F_shape_Right [.agg x_10] h_24 fun v_7 h_28 => as1 .bool v_7 fun r_7 =>
    k_2 (!r_7) h_28))) (false, 0) h_23)))))) fun k =>
  ACalls Try.prog F_lateenlaw08_awake [] h_1 fun v_8 h_29 => as1 .bool v_8 fun r_8 =>
  ifB (!r_8)
   (k true h_29)
   (ld (.agg 5) h_29 p fun (x_11 : Array Value) =>
   ACalls Try.prog F_lateenref08_Few [.agg x_11] h_29 fun v_9 h_30 => as1 .bool v_9 fun r_9 =>
    ifB (!r_9)
      (k true h_30)
      (ld (.agg 5) h_30 p fun (x_12 : Array Value) =>
      ACalls Try.prog F_shape_Right [.agg x_12] h_30 fun v_10 h_31 => as1 .bool v_10 fun r_10 =>
       k (!r_10) h_31))
def lateenlaw08_ShapeLess_a : Ann := (.seq .leaf (.seq (.join [(21, .bool)] [1, 2] .leaf (.cond (.seq .leaf .leaf) .leaf)) (.seq .leaf (.seq .leaf (.seq (.seq .leaf (.cond (.seq .leaf .leaf) .leaf)) (.seq (.seq .leaf (.cond (.seq .leaf .leaf) .leaf)) (.seq .leaf (.seq .leaf (.seq (.free 12 [[], [], [], [], [], [0], [], [], [], [], [], [5], [], []] [0, 5, 11, 14]) (.seq .leaf (.seq (.seq .leaf (.block (.loop [(8, .bool), (9, .int .i64)] [2, 6, 7] (.seq (.seq .leaf (.cond .leaf .leaf)) (.join [(8, .bool)] [2, 6, 7, 9] (.block .leaf) .leaf))))) (.join [(4, .bool)] [] .leaf .leaf))))))))))))
theorem lateenlaw08_ShapeLess_eq (f : Array Value) (atv : Int) (h : Heap) (K : Value → Heap → Prop) : lateenlaw08_ShapeLess f atv h K = fnW Try.prog ty lateenlaw08_ShapeLess_a (bodyOf Try.f7) [.tmp 4] [.agg f, .int .u8 atv] h K := by kernel_rfl
theorem lateenlaw08_ShapeLess_of {f : Array Value} {atv : Int} {h : Heap} {K : Value → Heap → Prop} (hw : lateenlaw08_ShapeLess f atv h K) : ACalls Try.prog F_lateenlaw08_ShapeLess [.agg f, .int .u8 atv] h K :=
  calls_sound ty_ok mixed lateenlaw08_ShapeLess_a (c := bodyOf Try.f7) Try.func7 (by kernel_rfl) (by kernel_rfl) (by kernel_rfl) (Nat.le_of_ble_eq_true rfl) (by rw [lateenlaw08_ShapeLess_eq] at hw; exact hw)

/-- lateen/lateenlaw08.awake -/
def lateenlaw08_awake  (h : Heap) (K : Value → Heap → Prop) : Prop :=
  bld si_Lstring 1 [(0, .string ⟨#[98, 49]⟩)] h fun s h_1 =>
  ACalls Try.prog F_lateenlaw08_jump [.string ⟨#[98, 48]⟩, s.v] h_1 fun v h_2 => as1 (.agg 9) v fun r =>
  ACalls Try.prog F_lateenlaw08_jump [.string ⟨#[98, 49]⟩, (⟨none, 0, 0⟩ : Sl).v] h_2 fun v_1 h_3 => as1 (.agg 9) v_1 fun r_1 =>
  bld si_Lapi_Block 2 [(0, .agg r), (1, .agg r_1)] h_3 fun s_1 h_4 =>
  bst [(0, 1), (1, 1), (2, 1), (3, 1), (4, 1)] #[.string ⟨#[]⟩, .string ⟨#[]⟩, .slice none 0 0, .slice none 0 0, .slice none 0 0] [(4, s_1.v)] fun c =>
  new 25 #[.string ⟨#[]⟩, .string ⟨#[]⟩, .slice none 0 0, .slice none 0 0, .slice none 0 0] h_4 fun p h_5 =>
  c.size = 5 ∧ st c.toList h_5 p fun h_6 =>
  bld si_Lstring 1 [(0, .string ⟨#[98, 48]⟩)] h_6 fun s_2 h_7 =>
  ACalls Try.prog F_lateenlaw08_jump [.string ⟨#[98, 48]⟩, s_2.v] h_7 fun v_2 h_8 => as1 (.agg 9) v_2 fun r_2 =>
  bld si_Lapi_Block 1 [(0, .agg r_2)] h_8 fun s_3 h_9 =>
  bst [(0, 1), (1, 1), (2, 1), (3, 1), (4, 1)] #[.string ⟨#[]⟩, .string ⟨#[]⟩, .slice none 0 0, .slice none 0 0, .slice none 0 0] [(4, s_3.v)] fun c_1 =>
  new 25 #[.string ⟨#[]⟩, .string ⟨#[]⟩, .slice none 0 0, .slice none 0 0, .slice none 0 0] h_9 fun p_1 h_10 =>
  c_1.size = 5 ∧ st c_1.toList h_10 p_1 fun h_11 =>
  bld si_Lstring 2 [(0, .string ⟨#[98, 49]⟩), (1, .string ⟨#[98, 49]⟩)] h_11 fun s_4 h_12 =>
  ACalls Try.prog F_lateenlaw08_jump [.string ⟨#[98, 48]⟩, s_4.v] h_12 fun v_3 h_13 => as1 (.agg 9) v_3 fun r_3 =>
  ACalls Try.prog F_lateenlaw08_jump [.string ⟨#[98, 49]⟩, (⟨none, 0, 0⟩ : Sl).v] h_13 fun v_4 h_14 => as1 (.agg 9) v_4 fun r_4 =>
  bld si_Lapi_Block 2 [(0, .agg r_3), (1, .agg r_4)] h_14 fun s_5 h_15 =>
  bst [(0, 1), (1, 1), (2, 1), (3, 1), (4, 1)] #[.string ⟨#[]⟩, .string ⟨#[]⟩, .slice none 0 0, .slice none 0 0, .slice none 0 0] [(4, s_5.v)] fun c_2 =>
  new 25 #[.string ⟨#[]⟩, .string ⟨#[]⟩, .slice none 0 0, .slice none 0 0, .slice none 0 0] h_15 fun p_2 h_16 =>
  c_2.size = 5 ∧ st c_2.toList h_16 p_2 fun h_17 =>
  bld si_Lstring 1 [(0, .string ⟨#[98, 49]⟩)] h_17 fun s_6 h_18 =>
  ACalls Try.prog F_lateenlaw08_jump [.string ⟨#[98, 48]⟩, s_6.v] h_18 fun v_5 h_19 => as1 (.agg 9) v_5 fun r_5 =>
  bst [(0, 1), (1, 3)] #[.string ⟨#[]⟩, .int .i64 0, .string ⟨#[]⟩, .int .i64 0] [(0, .string ⟨#[98, 48]⟩)] fun c_3 =>
  bld si_Lapi_In 1 [(0, .agg c_3)] h_19 fun s_7 h_20 =>
  bst [(0, 1), (1, 1)] #[.string ⟨#[]⟩, .slice none 0 0] [(0, .string ⟨#[120]⟩), (1, s_7.v)] fun c_4 =>
  bld si_Lapi_Phi 1 [(0, .agg c_4)] h_20 fun s_8 h_21 =>
  bst [(0, 1), (1, 1), (2, 1), (3, 6)] #[.string ⟨#[]⟩, .slice none 0 0, .slice none 0 0, .int .i64 0, .int .i64 0, .string ⟨#[]⟩, .int .i64 0, .slice none 0 0, .int .i64 0] [(0, .string ⟨#[98, 49]⟩), (1, s_8.v)] fun c_5 =>
  bld si_Lapi_Block 2 [(0, .agg r_5), (1, .agg c_5)] h_21 fun s_9 h_22 =>
  bst [(0, 1), (1, 1), (2, 1), (3, 1), (4, 1)] #[.string ⟨#[]⟩, .string ⟨#[]⟩, .slice none 0 0, .slice none 0 0, .slice none 0 0] [(4, s_9.v)] fun c_6 =>
  new 25 #[.string ⟨#[]⟩, .string ⟨#[]⟩, .slice none 0 0, .slice none 0 0, .slice none 0 0] h_22 fun p_3 h_23 =>
  c_6.size = 5 ∧ st c_6.toList h_23 p_3 fun h_24 =>
  ld (.agg 5) h_24 p fun (x : Array Value) =>
  ACalls Try.prog F_shape_Place [.agg x, .string ⟨#[98, 49]⟩] h_24 fun v_6 h_25 => as2 (.int .i64) .bool v_6 fun r_6 r_7 =>
  joinW (fun _ (t : Bool) h_26 =>
    K (.bool t) h_26) fun k =>
  ld (.agg 5) h_25 p fun (x_1 : Array Value) =>
  ACalls Try.prog F_shape_Right [.agg x_1] h_25 fun v_7 h_27 => as1 .bool v_7 fun r_8 =>
  ifB r_8
   (ld (.agg 5) h_27 p_1 fun (x_2 : Array Value) =>
   ACalls Try.prog F_shape_Right [.agg x_2] h_27 fun v_8 h_28 => as1 .bool v_8 fun r_9 =>
    ifB (!r_9)
      (ld (.agg 5) h_28 p_2 fun (x_3 : Array Value) =>
      ACalls Try.prog F_shape_Right [.agg x_3] h_28 fun v_9 h_29 => as1 .bool v_9 fun r_10 =>
       ifB (!r_10)
         (bst [(0, 1), (1, 1), (2, 1), (3, 1), (4, 1)] #[.string ⟨#[]⟩, .string ⟨#[]⟩, .slice none 0 0, .slice none 0 0, .slice none 0 0] [] fun c_7 =>
         ACalls Try.prog F_shape_Right [.agg c_7] h_29 fun v_10 h_30 => as1 .bool v_10 fun r_11 =>
          ifB (!r_11)
            (ld (.agg 5) h_30 p_3 fun (x_4 : Array Value) =>
            ACalls Try.prog F_shape_Phis [.agg x_4] h_30 fun v_11 h_31 => as1 .bool v_11 fun r_12 =>
             ifB r_12
              (ifB r_7
               (k (r_6 == 1) h_31)
               (k false h_31))
              (k false h_31))
            (k false h_30))
         (k false h_29))
      (k false h_28))
   (k false h_27)
def lateenlaw08_awake_a : Ann := (.seq .leaf (.seq .leaf (.seq .leaf (.seq .leaf (.seq .leaf (.seq .leaf (.join [(0, .bool)] [] .leaf .leaf)))))))
theorem lateenlaw08_awake_eq  (h : Heap) (K : Value → Heap → Prop) : lateenlaw08_awake  h K = fnW Try.prog ty lateenlaw08_awake_a (bodyOf Try.f8) [.tmp 0] [] h K := by kernel_rfl
theorem lateenlaw08_awake_of  {h : Heap} {K : Value → Heap → Prop} (hw : lateenlaw08_awake  h K) : ACalls Try.prog F_lateenlaw08_awake [] h K :=
  calls_sound ty_ok mixed lateenlaw08_awake_a (c := bodyOf Try.f8) Try.func8 (by kernel_rfl) (by kernel_rfl) (by kernel_rfl) (Nat.le_of_ble_eq_true rfl) (by rw [lateenlaw08_awake_eq] at hw; exact hw)

/-- lateen/lateenref08.Few -/
def lateenref08_Few (f : Array Value) (h : Heap) (K : Value → Heap → Prop) : Prop :=
  new 25 f h fun p h_1 =>
  ld .sl h_1 (p.add 4) fun (x : Sl) =>
  ifB (decide ((x.len : Int) > 60))
   (K (.bool false) h_1)
   (loopW (fun _ (i : Int) h_2 next =>
    ld .sl h_2 (p.add 4) fun (x_1 : Sl) =>
    ifB (decide (i < (x_1.len : Int)))
     (joinW (fun _ (t : Bool) h_3 =>
      ifB t
       (K (.bool false) h_3)
       (loopW (fun _ (k_1 : Int) h_4 next_1 =>
      ld .sl h_4 (p.add 4) fun (x_2 : Sl) =>
      idx 9 x_2 i fun p_1 =>
      ld .sl h_4 (p_1.add 1) fun (x_3 : Sl) =>
      ifB (decide (k_1 < (x_3.len : Int)))
       (ld .sl h_4 (p.add 4) fun (x_4 : Sl) =>
      idx 9 x_4 i fun p_2 =>
      ld .sl h_4 (p_2.add 1) fun (x_5 : Sl) =>
      idx 2 x_5 k_1 fun p_3 =>
      ld .sl h_4 (p_3.add 1) fun (x_6 : Sl) =>
      ifB (decide ((x_6.len : Int) > 60))
       (K (.bool false) h_4)
       (ar .i64 (k_1 + 1) fun n =>
      next_1 n h_4))
       (ar .i64 (i + 1) fun n_1 =>
    next n_1 h_4)) 0 h_3)) fun k =>
    ld .sl h_2 (p.add 4) fun (x_7 : Sl) =>
    idx 9 x_7 i fun p_4 =>
    ld .sl h_2 ((p_4.add 3).add 4) fun (x_8 : Sl) =>
    ifB (decide ((x_8.len : Int) > 8))
     (k true h_2)
     (ld .sl h_2 (p.add 4) fun (x_9 : Sl) =>
      idx 9 x_9 i fun p_5 =>
        ld .sl h_2 (p_5.add 1) fun (x_10 : Sl) =>
          k (decide ((x_10.len : Int) > 40)) h_2))
     (K (.bool true) h_2)) 0 h_1)
def lateenref08_Few_a : Ann := (.seq .leaf (.seq (.seq .leaf (.cond (.seq .leaf .leaf) .leaf)) (.seq (.seq .leaf (.block (.loop [(3, .int .i64)] [1] (.seq (.seq .leaf (.cond .leaf .leaf)) (.seq (.block (.seq (.join [(34, .bool)] [1, 3] .leaf (.cond (.seq .leaf .leaf) .leaf)) (.seq .leaf (.block (.loop [(4, .int .i64)] [1, 3] (.seq (.seq .leaf (.cond .leaf .leaf)) (.seq (.block (.seq .leaf (.cond (.seq .leaf .leaf) .leaf))) .leaf))))))) .leaf))))) (.seq .leaf .leaf))))
theorem lateenref08_Few_eq (f : Array Value) (h : Heap) (K : Value → Heap → Prop) : lateenref08_Few f h K = fnW Try.prog ty lateenref08_Few_a (bodyOf Try.f9) [.tmp 2] [.agg f] h K := by kernel_rfl
theorem lateenref08_Few_of {f : Array Value} {h : Heap} {K : Value → Heap → Prop} (hw : lateenref08_Few f h K) : ACalls Try.prog F_lateenref08_Few [.agg f] h K :=
  calls_sound ty_ok mixed lateenref08_Few_a (c := bodyOf Try.f9) Try.func9 (by kernel_rfl) (by kernel_rfl) (by kernel_rfl) (Nat.le_of_ble_eq_true rfl) (by rw [lateenref08_Few_eq] at hw; exact hw)

/-- lateen/shape.Place -/
def shape_Place (f : Array Value) (name : ByteArray) (h : Heap) (K : Value → Heap → Prop) : Prop :=
  new 25 f h fun p h_1 =>
  ld .sl h_1 (p.add 4) fun (x : Sl) =>
  loopW (fun _ (t : Int) h_2 next =>
    ifB (decide (t < (x.len : Int)))
     (idx 9 x t fun p_1 =>
    ld (.agg 9) h_2 p_1 fun (x_1 : Array Value) =>
    new 40 #[.string ⟨#[]⟩, .slice none 0 0, .slice none 0 0, .int .i64 0, .int .i64 0, .string ⟨#[]⟩, .int .i64 0, .slice none 0 0, .int .i64 0] h_2 fun p_2 h_3 =>
    x_1.size = 9 ∧ st x_1.toList h_3 p_2 fun h_4 =>
    ld .str h_4 (p_2.add 0) fun (x_2 : ByteArray) =>
    ifB (x_2.toList == name.toList)
     (K (.tuple #[.int .i64 t, .bool true]) h_4)
     (ar .i64 (t + 1) fun n =>
    next n h_4))
     (K (.tuple #[.int .i64 0, .bool false]) h_2)) 0 h_1
def shape_Place_a : Ann := (.seq .leaf (.seq (.seq .leaf (.block (.loop [(11, .int .i64)] [1, 9, 10] (.seq .leaf (.seq (.cond .leaf .leaf) (.seq (.block (.seq .leaf (.seq .leaf (.cond (.seq .leaf .leaf) .leaf)))) .leaf)))))) (.seq .leaf .leaf)))
theorem shape_Place_eq (f : Array Value) (name : ByteArray) (h : Heap) (K : Value → Heap → Prop) : shape_Place f name h K = fnW Try.prog ty shape_Place_a (bodyOf Try.f10) [.tmp 4, .tmp 5] [.agg f, .string name] h K := by kernel_rfl
theorem shape_Place_of {f : Array Value} {name : ByteArray} {h : Heap} {K : Value → Heap → Prop} (hw : shape_Place f name h K) : ACalls Try.prog F_shape_Place [.agg f, .string name] h K :=
  calls_sound ty_ok mixed shape_Place_a (c := bodyOf Try.f10) Try.func10 (by kernel_rfl) (by kernel_rfl) (by kernel_rfl) (Nat.le_of_ble_eq_true rfl) (by rw [shape_Place_eq] at hw; exact hw)

/-- lateen/lateenref08.Place -/
def lateenref08_Place (f : Array Value) (name : ByteArray) (h : Heap) (K : Value → Heap → Prop) : Prop :=
  new 25 f h fun p h_1 =>
  loopW (fun _ (i : Int) h_2 next =>
    ld .sl h_2 (p.add 4) fun (x : Sl) =>
    ifB (decide (i < (x.len : Int)))
     (ld .sl h_2 (p.add 4) fun (x_1 : Sl) =>
    idx 9 x_1 i fun p_1 =>
    ld .str h_2 (p_1.add 0) fun (x_2 : ByteArray) =>
    ifB (x_2.toList == name.toList)
     (K (.tuple #[.int .i64 i, .bool true]) h_2)
     (ar .i64 (i + 1) fun n =>
    next n h_2))
     (K (.tuple #[.int .i64 0, .bool false]) h_2)) 0 h_1
def lateenref08_Place_a : Ann := (.seq .leaf (.seq (.seq .leaf (.block (.loop [(6, .int .i64)] [1, 2] (.seq (.seq .leaf (.cond .leaf .leaf)) (.seq (.block (.seq .leaf (.cond (.seq .leaf .leaf) .leaf))) .leaf))))) (.seq .leaf .leaf)))
theorem lateenref08_Place_eq (f : Array Value) (name : ByteArray) (h : Heap) (K : Value → Heap → Prop) : lateenref08_Place f name h K = fnW Try.prog ty lateenref08_Place_a (bodyOf Try.f11) [.tmp 4, .tmp 5] [.agg f, .string name] h K := by kernel_rfl
theorem lateenref08_Place_of {f : Array Value} {name : ByteArray} {h : Heap} {K : Value → Heap → Prop} (hw : lateenref08_Place f name h K) : ACalls Try.prog F_lateenref08_Place [.agg f, .string name] h K :=
  calls_sound ty_ok mixed lateenref08_Place_a (c := bodyOf Try.f11) Try.func11 (by kernel_rfl) (by kernel_rfl) (by kernel_rfl) (Nat.le_of_ble_eq_true rfl) (by rw [lateenref08_Place_eq] at hw; exact hw)

/-- lateen/shape.Right -/
def shape_Right (f : Array Value) (h : Heap) (K : Value → Heap → Prop) : Prop :=
  new 25 f h fun p h_1 =>
  ld .sl h_1 (p.add 4) fun (x : Sl) =>
  ifB ((x.len : Int) == 0)
   (K (.bool false) h_1)
   (ld (.agg 5) h_1 p fun (x_1 : Array Value) =>
  ACalls Try.prog F_shape_places [.agg x_1] h_1 fun v h_2 => as2 .map .bool v fun r r_1 =>
  joinW (fun _ (t : Bool) h_3 =>
    ifB t
     (K (.bool false) h_3)
     (ld (.agg 5) h_3 p fun (x_2 : Array Value) =>
  ACalls Try.prog F_shape_come [.agg x_2, .map r] h_3 fun v_1 h_4 => as1 .sl v_1 fun r_2 =>
  loopW (fun _ (t_1 : Int) h_5 next =>
    ifB (decide (t_1 < (r_2.len : Int)))
     (idx 1 r_2 t_1 fun p_1 =>
    ld .bool h_5 p_1 fun (x_3 : Bool) =>
    ifB (!x_3)
     (K (.bool false) h_5)
     (ar .i64 (t_1 + 1) fun n =>
    next n h_5))
     (K (.bool true) h_5)) 0 h_4)) fun k =>
  ifB (!r_1)
   (k true h_2)
   (ld (.agg 5) h_2 p fun (x_4 : Array Value) =>
   ACalls Try.prog F_shape_ends [.agg x_4, .map r] h_2 fun v_2 h_6 => as1 .bool v_2 fun r_3 =>
     k (!r_3) h_6))
def shape_Right_a : Ann := (.seq .leaf (.seq (.seq .leaf (.cond (.seq .leaf .leaf) .leaf)) (.seq .leaf (.seq (.join [(23, .bool)] [1, 3] .leaf (.cond (.seq .leaf .leaf) .leaf)) (.seq (.seq .leaf (.block (.loop [(28, .int .i64)] [26, 27] (.seq .leaf (.seq (.cond .leaf .leaf) (.seq (.block (.seq .leaf (.seq .leaf (.cond (.seq .leaf .leaf) .leaf)))) .leaf)))))) (.seq .leaf .leaf))))))
theorem shape_Right_eq (f : Array Value) (h : Heap) (K : Value → Heap → Prop) : shape_Right f h K = fnW Try.prog ty shape_Right_a (bodyOf Try.f12) [.tmp 2] [.agg f] h K := by kernel_rfl
theorem shape_Right_of {f : Array Value} {h : Heap} {K : Value → Heap → Prop} (hw : shape_Right f h K) : ACalls Try.prog F_shape_Right [.agg f] h K :=
  calls_sound ty_ok mixed shape_Right_a (c := bodyOf Try.f12) Try.func12 (by kernel_rfl) (by kernel_rfl) (by kernel_rfl) (Nat.le_of_ble_eq_true rfl) (by rw [shape_Right_eq] at hw; exact hw)

/-- lateen/lateenref08.Right -/
def lateenref08_Right (f : Array Value) (h : Heap) (K : Value → Heap → Prop) : Prop :=
  new 25 f h fun p h_1 =>
  loopW (fun _ (i : Int) h_2 next =>
    ld .sl h_2 (p.add 4) fun (x : Sl) =>
    ifB (decide (i < (x.len : Int)))
     (ld (.agg 5) h_2 p fun (x_1 : Array Value) =>
    ld .sl h_2 (p.add 4) fun (x_2 : Sl) =>
    idx 9 x_2 i fun p_1 =>
    ld .str h_2 (p_1.add 0) fun (x_3 : ByteArray) =>
    ACalls Try.prog F_lateenref08_Place [.agg x_1, .string x_3] h_2 fun v h_3 => as2 (.int .i64) .bool v fun r r_1 =>
    hExt h_2 h_3 ∧ ifB (r != i)
     (K (.bool false) h_3)
     (ld .sl h_3 (p.add 4) fun (x_4 : Sl) =>
    idx 9 x_4 i fun p_2 =>
    ld .sl h_3 ((p_2.add 3).add 4) fun (x_5 : Sl) =>
    loopW (fun _ (k : Int) h_4 next_1 =>
      ifB (decide (k < (x_5.len : Int)))
       (ld (.agg 5) h_4 p fun (x_6 : Array Value) =>
      idx 1 x_5 k fun p_3 =>
      ld .str h_4 p_3 fun (x_7 : ByteArray) =>
      ACalls Try.prog F_lateenref08_Place [.agg x_6, .string x_7] h_4 fun v_1 h_5 => as2 (.int .i64) .bool v_1 fun r_2 r_3 =>
      joinW (fun _ (t : Bool) h_6 =>
        ifB t
         (K (.bool false) h_6)
         (loopW (fun _ (j : Int) h_7 next_2 =>
        ifB (decide (j < k))
         (idx 1 x_5 j fun p_4 =>
        ld .str h_7 p_4 fun (x_8 : ByteArray) =>
        idx 1 x_5 k fun p_5 =>
        ld .str h_7 p_5 fun (x_9 : ByteArray) =>
        ifB (x_8.toList == x_9.toList)
         (K (.bool false) h_7)
         (ar .i64 (j + 1) fun n =>
        next_2 n h_7))
         (ar .i64 (k + 1) fun n_1 =>
      next_1 n_1 h_7)) 0 h_6)) fun k_1 =>
      ifB (!r_3)
       (k_1 true h_5)
       (k_1 (r_2 == 0) h_5))
       (ar .i64 (i + 1) fun n_2 =>
    next n_2 h_4)) 0 h_3))
     (ld (.agg 5) h_2 p fun (x_10 : Array Value) =>
  ACalls Try.prog F_lateenref08_Come [.agg x_10] h_2 fun v_2 h_8 => as1 .sl v_2 fun r_4 =>
  loopW (fun _ (i_1 : Int) h_9 next_3 =>
    ifB (decide (i_1 < (r_4.len : Int)))
     (idx 1 r_4 i_1 fun p_6 =>
    ld .bool h_9 p_6 fun (x_11 : Bool) =>
    ifB (!x_11)
     (K (.bool false) h_9)
     (ar .i64 (i_1 + 1) fun n_3 =>
    next_3 n_3 h_9))
     (K (.bool (decide ((r_4.len : Int) > 0))) h_9)) 0 h_8)) 0 h_1
def lateenref08_Right_a : Ann := (.seq .leaf (.seq (.seq .leaf (.block (.loop [(3, .int .i64)] [1] (.seq (.seq .leaf (.cond .leaf .leaf)) (.seq (.block (.seq .based (.seq (.seq .leaf (.cond (.seq .leaf .leaf) .leaf)) (.seq .leaf (.seq .leaf (.block (.loop [(7, .int .i64)] [1, 3, 6] (.seq (.seq .leaf (.cond .leaf .leaf)) (.seq (.block (.seq .leaf (.seq (.join [(61, .bool)] [1, 3, 6, 7] .leaf (.cond (.seq .leaf .leaf) .leaf)) (.seq .leaf (.block (.loop [(10, .int .i64)] [1, 3, 6, 7] (.seq (.seq .leaf (.cond .leaf .leaf)) (.seq (.block (.seq .leaf (.cond (.seq .leaf .leaf) .leaf))) .leaf)))))))) .leaf))))))))) .leaf))))) (.seq .leaf (.seq (.seq .leaf (.block (.loop [(12, .int .i64)] [11] (.seq (.seq .leaf (.cond .leaf .leaf)) (.seq (.block (.seq .leaf (.cond (.seq .leaf .leaf) .leaf))) .leaf))))) (.seq .leaf .leaf)))))
theorem lateenref08_Right_eq (f : Array Value) (h : Heap) (K : Value → Heap → Prop) : lateenref08_Right f h K = fnW Try.prog ty lateenref08_Right_a (bodyOf Try.f13) [.tmp 2] [.agg f] h K := by kernel_rfl
theorem lateenref08_Right_of {f : Array Value} {h : Heap} {K : Value → Heap → Prop} (hw : lateenref08_Right f h K) : ACalls Try.prog F_lateenref08_Right [.agg f] h K :=
  calls_sound ty_ok mixed lateenref08_Right_a (c := bodyOf Try.f13) Try.func13 (by kernel_rfl) (by kernel_rfl) (by kernel_rfl) (Nat.le_of_ble_eq_true rfl) (by rw [lateenref08_Right_eq] at hw; exact hw)

/-- lateen/shape.Phis -/
def shape_Phis (f : Array Value) (h : Heap) (K : Value → Heap → Prop) : Prop :=
  new 25 f h fun p h_1 =>
  ld (.agg 5) h_1 p fun (x : Array Value) =>
  ACalls Try.prog F_shape_from [.agg x] h_1 fun v h_2 => as1 .map v fun r =>
  ld .sl h_2 (p.add 4) fun (x_1 : Sl) =>
  loopW (fun _ (t : Int) h_3 next =>
    ifB (decide (t < (x_1.len : Int)))
     (idx 9 x_1 t fun p_1 =>
    ld (.agg 9) h_3 p_1 fun (x_2 : Array Value) =>
    new 40 #[.string ⟨#[]⟩, .slice none 0 0, .slice none 0 0, .int .i64 0, .int .i64 0, .string ⟨#[]⟩, .int .i64 0, .slice none 0 0, .int .i64 0] h_3 fun p_2 h_4 =>
    x_2.size = 9 ∧ st x_2.toList h_4 p_2 fun h_5 =>
    joinW (fun _ (t_1 : Bool) h_6 =>
      ifB t_1
       (K (.bool false) h_6)
       (ld .sl h_6 (p_2.add 1) fun (x_3 : Sl) =>
    loopW (fun _ (t_2 : Int) h_7 next_1 =>
      ifB (decide (t_2 < (x_3.len : Int)))
       (idx 2 x_3 t_2 fun p_3 =>
      ld (.agg 2) h_7 p_3 fun (x_4 : Array Value) =>
      new 51 #[.string ⟨#[]⟩, .slice none 0 0] h_7 fun p_4 h_8 =>
      x_4.size = 2 ∧ st x_4.toList h_8 p_4 fun h_9 =>
      ld (.agg 2) h_9 p_4 fun (x_5 : Array Value) =>
      ld .str h_9 (p_2.add 0) fun (x_6 : ByteArray) =>
      mlk .string r (.string x_6) h_9 fun r_1 => as1 .sl (r_1.getD (.slice none 0 0)) fun y =>
      ACalls Try.prog F_shape_phi [.agg x_5, y.v] h_9 fun v_1 h_10 => as1 .bool v_1 fun r_2 =>
      ifB (!r_2)
       (K (.bool false) h_10)
       (ar .i64 (t_2 + 1) fun n =>
      next_1 n h_10))
       (ar .i64 (t + 1) fun n_1 =>
    next n_1 h_7)) 0 h_6)) fun k =>
    ifB (t == 0)
     (ld .sl h_5 (p_2.add 1) fun (x_7 : Sl) =>
      k (decide ((x_7.len : Int) > 0)) h_5)
     (k false h_5))
     (K (.bool true) h_3)) 0 h_2
def shape_Phis_a : Ann := (.seq .leaf (.seq .leaf (.seq (.seq .leaf (.block (.loop [(13, .int .i64)] [3, 11, 12] (.seq .leaf (.seq (.cond .leaf .leaf) (.seq (.block (.seq .leaf (.seq (.join [(25, .bool)] [3, 5, 11, 12, 13] .leaf (.cond (.seq .leaf .leaf) .leaf)) (.seq .leaf (.block (.loop [(29, .int .i64)] [3, 5, 11, 12, 13, 27, 28] (.seq .leaf (.seq (.cond .leaf .leaf) (.seq (.block (.seq .leaf (.seq .leaf (.cond (.seq .leaf .leaf) .leaf)))) .leaf))))))))) .leaf)))))) (.seq .leaf .leaf))))
theorem shape_Phis_eq (f : Array Value) (h : Heap) (K : Value → Heap → Prop) : shape_Phis f h K = fnW Try.prog ty shape_Phis_a (bodyOf Try.f14) [.tmp 2] [.agg f] h K := by kernel_rfl
theorem shape_Phis_of {f : Array Value} {h : Heap} {K : Value → Heap → Prop} (hw : shape_Phis f h K) : ACalls Try.prog F_shape_Phis [.agg f] h K :=
  calls_sound ty_ok mixed shape_Phis_a (c := bodyOf Try.f14) Try.func14 (by kernel_rfl) (by kernel_rfl) (by kernel_rfl) (Nat.le_of_ble_eq_true rfl) (by rw [shape_Phis_eq] at hw; exact hw)

/-- lateen/lateenref08.Phis -/
def lateenref08_Phis (f : Array Value) (h : Heap) (K : Value → Heap → Prop) : Prop :=
  new 25 f h fun p h_1 =>
  loopW (fun _ (i : Int) h_2 next =>
    ld .sl h_2 (p.add 4) fun (x : Sl) =>
    ifB (decide (i < (x.len : Int)))
     (loopW (fun _ (k : Int) h_3 next_1 =>
      ld .sl h_3 (p.add 4) fun (x_1 : Sl) =>
      idx 9 x_1 i fun p_1 =>
      ld .sl h_3 (p_1.add 1) fun (x_2 : Sl) =>
      ifB (decide (k < (x_2.len : Int)))
       (ld .sl h_3 (p.add 4) fun (x_3 : Sl) =>
      idx 9 x_3 i fun p_2 =>
      ld .sl h_3 (p_2.add 1) fun (x_4 : Sl) =>
      idx 2 x_4 k fun p_3 =>
      ld .sl h_3 (p_3.add 1) fun (x_5 : Sl) =>
      loopW (fun _ (q_n : Int × Int) h_4 next_2 =>
        ld .sl h_4 (p.add 4) fun (x_6 : Sl) =>
        ifB (decide (q_n.2 < (x_6.len : Int)))
         (loopW (fun _ (q_m : Int × Int) h_5 next_3 =>
          ifB (decide (q_m.2 < (x_5.len : Int)))
           (joinW (fun _ (m_1 : Int) h_6 =>
            ar .i64 (q_m.2 + 1) fun n_1 =>
            next_3 (m_1, n_1) h_6) fun k_1 =>
          idx 4 x_5 q_m.2 fun p_4 =>
          ld .str h_5 (p_4.add 0) fun (x_7 : ByteArray) =>
          ld .sl h_5 (p.add 4) fun (x_8 : Sl) =>
          idx 9 x_8 q_n.2 fun p_5 =>
          ld .str h_5 (p_5.add 0) fun (x_9 : ByteArray) =>
          ifB (x_7.toList == x_9.toList)
           (ar .i64 (q_m.1 + 1) fun n_2 =>
           k_1 n_2 h_5)
           (k_1 q_m.1 h_5))
           (joinW (fun _ (want : Int) h_7 =>
          ifB (q_m.1 != want)
           (K (.bool false) h_7)
           (ar .i64 (q_n.1 + q_m.1) fun n_3 =>
          ar .i64 (q_n.2 + 1) fun n_4 =>
        next_2 (n_3, n_4) h_7)) fun k_2 =>
        ld (.agg 5) h_5 p fun (x_10 : Array Value) =>
        ACalls Try.prog F_lateenref08_Leads [.agg x_10, .int .i64 q_n.2, .int .i64 i] h_5 fun v h_8 => as1 .bool v fun r =>
        ifB r
         (k_2 1 h_8)
         (k_2 0 h_8))) (0, 0) h_4)
         (joinW (fun _ (t : Bool) h_9 =>
        ifB t
         (K (.bool false) h_9)
         (ar .i64 (k + 1) fun n_5 =>
      next_1 n_5 h_9)) fun k_3 =>
      ifB (q_n.1 != (x_5.len : Int))
       (k_3 true h_4)
       (k_3 (i == 0) h_4))) (0, 0) h_3)
       (ar .i64 (i + 1) fun n_6 =>
    next n_6 h_3)) 0 h_2)
     (K (.bool true) h_2)) 0 h_1
def lateenref08_Phis_a : Ann := (.seq .leaf (.seq (.seq .leaf (.block (.loop [(3, .int .i64)] [1] (.seq (.seq .leaf (.cond .leaf .leaf)) (.seq (.block (.seq .leaf (.block (.loop [(4, .int .i64)] [1, 3] (.seq (.seq .leaf (.cond .leaf .leaf)) (.seq (.block (.seq .leaf (.seq .leaf (.seq (.seq .leaf (.block (.loop [(6, .int .i64), (7, .int .i64)] [1, 3, 4, 5] (.seq (.seq .leaf (.cond .leaf .leaf)) (.seq (.block (.seq .leaf (.seq (.seq .leaf (.block (.loop [(8, .int .i64), (9, .int .i64)] [1, 3, 4, 5, 6, 7] (.seq (.seq .leaf (.cond .leaf .leaf)) (.join [(8, .int .i64)] [1, 3, 4, 5, 6, 7, 9] (.block (.seq .leaf (.cond .leaf .leaf))) .leaf))))) (.seq .leaf (.join [(10, .int .i64)] [1, 3, 4, 5, 6, 7, 8] (.seq .leaf (.cond .leaf .leaf)) (.seq (.seq .leaf (.cond (.seq .leaf .leaf) .leaf)) .leaf)))))) .leaf))))) (.join [(83, .bool)] [1, 3, 4] .leaf (.cond (.seq .leaf .leaf) .leaf)))))) .leaf)))))) .leaf))))) (.seq .leaf .leaf)))
theorem lateenref08_Phis_eq (f : Array Value) (h : Heap) (K : Value → Heap → Prop) : lateenref08_Phis f h K = fnW Try.prog ty lateenref08_Phis_a (bodyOf Try.f15) [.tmp 2] [.agg f] h K := by kernel_rfl
theorem lateenref08_Phis_of {f : Array Value} {h : Heap} {K : Value → Heap → Prop} (hw : lateenref08_Phis f h K) : ACalls Try.prog F_lateenref08_Phis [.agg f] h K :=
  calls_sound ty_ok mixed lateenref08_Phis_a (c := bodyOf Try.f15) Try.func15 (by kernel_rfl) (by kernel_rfl) (by kernel_rfl) (Nat.le_of_ble_eq_true rfl) (by rw [lateenref08_Phis_eq] at hw; exact hw)

/-- lateen/lateenlaw08.jump -/
def lateenlaw08_jump (name : ByteArray) (tov : Sl) (h : Heap) (K : Value → Heap → Prop) : Prop :=
  new 40 #[.string ⟨#[]⟩, .slice none 0 0, .slice none 0 0, .int .i64 0, .int .i64 0, .string ⟨#[]⟩, .int .i64 0, .slice none 0 0, .int .i64 0] h fun p h_1 =>
  bst [(0, 1), (1, 3), (4, 1), (5, 1)] #[.int .i64 0, .int .i64 0, .string ⟨#[]⟩, .int .i64 0, .slice none 0 0, .int .i64 0] [(0, .int .i64 1), (2, tov.v)] fun c =>
  bst [(0, 1), (1, 1), (2, 1), (3, 6)] #[.string ⟨#[]⟩, .slice none 0 0, .slice none 0 0, .int .i64 0, .int .i64 0, .string ⟨#[]⟩, .int .i64 0, .slice none 0 0, .int .i64 0] [(0, .string name), (3, .agg c)] fun c_1 =>
  c_1.size = 9 ∧ st c_1.toList h_1 p fun h_2 =>
  ld (.agg 9) h_2 p fun (x : Array Value) => K (.agg x) h_2
def lateenlaw08_jump_a : Ann := (.seq .leaf (.seq .leaf .leaf))
theorem lateenlaw08_jump_eq (name : ByteArray) (tov : Sl) (h : Heap) (K : Value → Heap → Prop) : lateenlaw08_jump name tov h K = fnW Try.prog ty lateenlaw08_jump_a (bodyOf Try.f16) [.cell 4 40] [.string name, tov.v] h K := by kernel_rfl
theorem lateenlaw08_jump_of {name : ByteArray} {tov : Sl} {h : Heap} {K : Value → Heap → Prop} (hw : lateenlaw08_jump name tov h K) : ACalls Try.prog F_lateenlaw08_jump [.string name, tov.v] h K :=
  calls_sound ty_ok mixed lateenlaw08_jump_a (c := bodyOf Try.f16) Try.func16 (by kernel_rfl) (by kernel_rfl) (by kernel_rfl) (Nat.le_of_ble_eq_true rfl) (by rw [lateenlaw08_jump_eq] at hw; exact hw)

/-- lateen/lateenref08.Leads -/
def lateenref08_Leads (f : Array Value) (fromv : Int) (tov : Int) (h : Heap) (K : Value → Heap → Prop) : Prop :=
  new 25 f h fun p h_1 =>
  loopW (fun _ (i : Int) h_2 next =>
    ld .sl h_2 (p.add 4) fun (x : Sl) =>
    idx 9 x fromv fun p_1 =>
    ld .sl h_2 ((p_1.add 3).add 4) fun (x_1 : Sl) =>
    ifB (decide (i < (x_1.len : Int)))
     (ld (.agg 5) h_2 p fun (x_2 : Array Value) =>
    ld .sl h_2 (p.add 4) fun (x_3 : Sl) =>
    idx 9 x_3 fromv fun p_2 =>
    ld .sl h_2 ((p_2.add 3).add 4) fun (x_4 : Sl) =>
    idx 1 x_4 i fun p_3 =>
    ld .str h_2 p_3 fun (x_5 : ByteArray) =>
    ACalls Try.prog F_lateenref08_Place [.agg x_2, .string x_5] h_2 fun v h_3 => as2 (.int .i64) .bool v fun r r_1 =>
    hExt h_2 h_3 ∧ joinW (fun _ (t : Bool) h_4 =>
      ifB t
       (K (.bool true) h_4)
       (ar .i64 (i + 1) fun n =>
    next n h_4)) fun k =>
    ifB r_1
     (k (r == tov) h_3)
     (k false h_3))
     (K (.bool false) h_2)) 0 h_1
def lateenref08_Leads_a : Ann := (.seq .leaf (.seq (.seq .leaf (.block (.loop [(7, .int .i64)] [1, 2, 3] (.seq (.seq .leaf (.cond .leaf .leaf)) (.seq (.block (.seq .based (.join [(42, .bool)] [1, 2, 3, 7] .leaf (.cond (.seq .leaf .leaf) .leaf)))) .leaf))))) (.seq .leaf .leaf)))
theorem lateenref08_Leads_eq (f : Array Value) (fromv : Int) (tov : Int) (h : Heap) (K : Value → Heap → Prop) : lateenref08_Leads f fromv tov h K = fnW Try.prog ty lateenref08_Leads_a (bodyOf Try.f17) [.tmp 6] [.agg f, .int .i64 fromv, .int .i64 tov] h K := by kernel_rfl
theorem lateenref08_Leads_of {f : Array Value} {fromv : Int} {tov : Int} {h : Heap} {K : Value → Heap → Prop} (hw : lateenref08_Leads f fromv tov h K) : ACalls Try.prog F_lateenref08_Leads [.agg f, .int .i64 fromv, .int .i64 tov] h K :=
  calls_sound ty_ok mixed lateenref08_Leads_a (c := bodyOf Try.f17) Try.func17 (by kernel_rfl) (by kernel_rfl) (by kernel_rfl) (Nat.le_of_ble_eq_true rfl) (by rw [lateenref08_Leads_eq] at hw; exact hw)

/-- lateen/shape.places -/
def shape_places (f : Array Value) (h : Heap) (K : Value → Heap → Prop) : Prop :=
  new 25 f h fun p h_1 =>
  ld .sl h_1 (p.add 4) fun (x : Sl) =>
  mkm h_1 fun m h_2 =>
  ld .sl h_2 (p.add 4) fun (x_1 : Sl) =>
  loopW (fun _ (t : Int) h_3 next =>
    ifB (decide (t < (x_1.len : Int)))
     (idx 9 x_1 t fun p_1 =>
    ld (.agg 9) h_3 p_1 fun (x_2 : Array Value) =>
    new 40 #[.string ⟨#[]⟩, .slice none 0 0, .slice none 0 0, .int .i64 0, .int .i64 0, .string ⟨#[]⟩, .int .i64 0, .slice none 0 0, .int .i64 0] h_3 fun p_2 h_4 =>
    x_2.size = 9 ∧ st x_2.toList h_4 p_2 fun h_5 =>
    ld .str h_5 (p_2.add 0) fun (x_3 : ByteArray) =>
    mlk .string m (.string x_3) h_5 fun r => as1 (.int .i64) (r.getD (.int .i64 0)) fun y =>
    ifB r.isSome
     (K (.tuple #[.map none, .bool false]) h_5)
     (ld .str h_5 (p_2.add 0) fun (x_4 : ByteArray) =>
    mup .string m (.string x_4) (.int .i64 t) h_5 fun h_6 =>
    ar .i64 (t + 1) fun n =>
    next n h_6))
     (K (.tuple #[.map m, .bool true]) h_3)) 0 h_2
def shape_places_a : Ann := (.seq .leaf (.seq .leaf (.seq (.seq .leaf (.block (.loop [(16, .int .i64)] [4, 14, 15] (.seq .leaf (.seq (.cond .leaf .leaf) (.seq (.block (.seq .leaf (.seq (.seq .leaf (.seq .leaf (.cond (.seq .leaf .leaf) .leaf))) .leaf))) .leaf)))))) (.seq .leaf .leaf))))
theorem shape_places_eq (f : Array Value) (h : Heap) (K : Value → Heap → Prop) : shape_places f h K = fnW Try.prog ty shape_places_a (bodyOf Try.f18) [.tmp 2, .tmp 3] [.agg f] h K := by kernel_rfl
theorem shape_places_of {f : Array Value} {h : Heap} {K : Value → Heap → Prop} (hw : shape_places f h K) : ACalls Try.prog F_shape_places [.agg f] h K :=
  calls_sound ty_ok mixed shape_places_a (c := bodyOf Try.f18) Try.func18 (by kernel_rfl) (by kernel_rfl) (by kernel_rfl) (Nat.le_of_ble_eq_true rfl) (by rw [shape_places_eq] at hw; exact hw)

/-- lateen/shape.ends -/
def shape_ends (f : Array Value) (atv : Option Nat) (h : Heap) (K : Value → Heap → Prop) : Prop :=
  new 25 f h fun p h_1 =>
  ld .sl h_1 (p.add 4) fun (x : Sl) =>
  loopW (fun _ (t : Int) h_2 next =>
    ifB (decide (t < (x.len : Int)))
     (idx 9 x t fun p_1 =>
    ld (.agg 9) h_2 p_1 fun (x_1 : Array Value) =>
    new 40 #[.string ⟨#[]⟩, .slice none 0 0, .slice none 0 0, .int .i64 0, .int .i64 0, .string ⟨#[]⟩, .int .i64 0, .slice none 0 0, .int .i64 0] h_2 fun p_2 h_3 =>
    x_1.size = 9 ∧ st x_1.toList h_3 p_2 fun h_4 =>
    mkm h_4 fun m h_5 =>
    ld .sl h_5 ((p_2.add 3).add 4) fun (x_2 : Sl) =>
    loopW (fun _ (t_1 : Int) h_6 next_1 =>
      ifB (decide (t_1 < (x_2.len : Int)))
       (idx 1 x_2 t_1 fun p_3 =>
      ld .str h_6 p_3 fun (x_3 : ByteArray) =>
      mlk .string atv (.string x_3) h_6 fun r => as1 (.int .i64) (r.getD (.int .i64 0)) fun y =>
      joinW (fun _ (t_2 : Bool) h_7 =>
        ifB t_2
         (K (.bool false) h_7)
         (mup .string m (.string x_3) (.bool true) h_7 fun h_8 =>
      ar .i64 (t_1 + 1) fun n =>
      next_1 n h_8)) fun k =>
      ifB (!r.isSome)
       (k true h_6)
       (ifB (y == 0)
         (k true h_6)
         (mlk .string m (.string x_3) h_6 fun r_1 => as1 .bool (r_1.getD (.bool false)) fun y_1 =>
           k y_1 h_6)))
       (ar .i64 (t + 1) fun n_1 =>
    next n_1 h_6)) 0 h_5)
     (K (.bool true) h_2)) 0 h_1
def shape_ends_a : Ann := (.seq .leaf (.seq (.seq .leaf (.block (.loop [(15, .int .i64)] [1, 13, 14] (.seq .leaf (.seq (.cond .leaf .leaf) (.seq (.block (.seq .leaf (.seq .leaf (.seq .leaf (.block (.loop [(24, .int .i64)] [1, 7, 13, 14, 15, 22, 23] (.seq .leaf (.seq (.cond .leaf .leaf) (.seq (.block (.seq .leaf (.seq (.seq .leaf (.join [(44, .bool)] [1, 7, 9, 13, 14, 15, 22, 23, 24] .leaf (.cond (.seq .leaf .leaf) .leaf))) .leaf))) .leaf))))))))) .leaf)))))) (.seq .leaf .leaf)))
theorem shape_ends_eq (f : Array Value) (atv : Option Nat) (h : Heap) (K : Value → Heap → Prop) : shape_ends f atv h K = fnW Try.prog ty shape_ends_a (bodyOf Try.f19) [.tmp 4] [.agg f, .map atv] h K := by kernel_rfl
theorem shape_ends_of {f : Array Value} {atv : Option Nat} {h : Heap} {K : Value → Heap → Prop} (hw : shape_ends f atv h K) : ACalls Try.prog F_shape_ends [.agg f, .map atv] h K :=
  calls_sound ty_ok mixed shape_ends_a (c := bodyOf Try.f19) Try.func19 (by kernel_rfl) (by kernel_rfl) (by kernel_rfl) (Nat.le_of_ble_eq_true rfl) (by rw [shape_ends_eq] at hw; exact hw)

/-- lateen/shape.come -/
def shape_come (f : Array Value) (atv : Option Nat) (h : Heap) (K : Value → Heap → Prop) : Prop :=
  new 25 f h fun p h_1 =>
  ld .sl h_1 (p.add 4) fun (x : Sl) =>
  (x.len : Int) = (x.len : Int) ∧ mk si_Lbool (x.len : Int) h_1 fun s h_2 =>
  idx 1 s 0 fun p_1 =>
  st [.bool true] h_2 p_1 fun h_3 =>
  bld si_Lint 1 [(0, .int .i64 0)] h_3 fun s_1 h_4 =>
  loopW (fun _ (todo : Sl) h_5 next =>
    ifB (decide ((todo.len : Int) > 0))
     (ld .sl h_5 (p.add 4) fun (x_1 : Sl) =>
    ar .i64 ((todo.len : Int) - 1) fun n =>
    idx 1 todo n fun p_2 =>
    ld (.int .i64) h_5 p_2 fun (x_2 : Int) =>
    idx 9 x_1 x_2 fun p_3 =>
    ld (.agg 9) h_5 p_3 fun (x_3 : Array Value) =>
    new 40 #[.string ⟨#[]⟩, .slice none 0 0, .slice none 0 0, .int .i64 0, .int .i64 0, .string ⟨#[]⟩, .int .i64 0, .slice none 0 0, .int .i64 0] h_5 fun p_4 h_6 =>
    x_3.size = 9 ∧ st x_3.toList h_6 p_4 fun h_7 =>
    ar .i64 ((todo.len : Int) - 1) fun n_1 =>
    slc 1 todo none (some n_1) fun s_2 =>
    ld .sl h_7 ((p_4.add 3).add 4) fun (x_4 : Sl) =>
    loopW (fun _ (q_todo_1 : Sl × Int) h_8 next_1 =>
      ifB (decide (q_todo_1.2 < (x_4.len : Int)))
       (joinW (fun _ (todo_2 : Sl) h_9 =>
        ar .i64 (q_todo_1.2 + 1) fun n_2 =>
        next_1 (todo_2, n_2) h_9) fun k =>
      idx 1 x_4 q_todo_1.2 fun p_5 =>
      ld .str h_8 p_5 fun (x_5 : ByteArray) =>
      mlk .string atv (.string x_5) h_8 fun r => as1 (.int .i64) (r.getD (.int .i64 0)) fun y =>
      idx 1 s y fun p_6 =>
      ld .bool h_8 p_6 fun (x_6 : Bool) =>
      ifB (!x_6)
       (idx 1 s y fun p_7 =>
       st [.bool true] h_8 p_7 fun h_10 =>
       bld si_Lint 1 [(0, .int .i64 y)] h_10 fun s_3 h_11 =>
       app si_Lint q_todo_1.1 s_3 h_11 fun s_4 h_12 =>
       k s_4 h_12)
       (k q_todo_1.1 h_8))
       (next q_todo_1.1 h_8)) (s_2, 0) h_7)
     (K s.v h_5)) s_1 h_4
def shape_come_a : Ann := (.seq .leaf (.seq .leaf (.seq .leaf (.seq .leaf (.seq (.block (.loop [(6, .sl)] [1, 2, 5] (.seq (.seq .leaf (.cond .leaf .leaf)) (.block (.seq .leaf (.seq .leaf (.seq .leaf (.block (.loop [(6, .sl), (40, .int .i64)] [1, 2, 5, 38, 39] (.seq .leaf (.seq (.cond .leaf .leaf) (.join [(6, .sl)] [1, 2, 5, 38, 39, 40] (.block (.seq .leaf (.seq .leaf (.seq .leaf (.cond (.seq .leaf .leaf) .leaf))))) .leaf)))))))))))) (.seq .leaf .leaf))))))
theorem shape_come_eq (f : Array Value) (atv : Option Nat) (h : Heap) (K : Value → Heap → Prop) : shape_come f atv h K = fnW Try.prog ty shape_come_a (bodyOf Try.f20) [.tmp 4] [.agg f, .map atv] h K := by kernel_rfl
theorem shape_come_of {f : Array Value} {atv : Option Nat} {h : Heap} {K : Value → Heap → Prop} (hw : shape_come f atv h K) : ACalls Try.prog F_shape_come [.agg f, .map atv] h K :=
  calls_sound ty_ok mixed shape_come_a (c := bodyOf Try.f20) Try.func20 (by kernel_rfl) (by kernel_rfl) (by kernel_rfl) (Nat.le_of_ble_eq_true rfl) (by rw [shape_come_eq] at hw; exact hw)

/-- lateen/lateenref08.Come -/
def lateenref08_Come (f : Array Value) (h : Heap) (K : Value → Heap → Prop) : Prop :=
  new 25 f h fun p h_1 =>
  ld .sl h_1 (p.add 4) fun (x : Sl) =>
  (x.len : Int) = (x.len : Int) ∧ mk si_Lbool (x.len : Int) h_1 fun s h_2 =>
  loopW (fun _ (more : Bool) h_3 next =>
    ifB more
     (idx 1 s 0 fun p_1 =>
    st [.bool true] h_3 p_1 fun h_4 =>
    loopW (fun _ (q_more_1 : Bool × Int) h_5 next_1 =>
      ifB (decide (q_more_1.2 < (s.len : Int)))
       (loopW (fun _ (q_more_2 : Bool × Int) h_6 next_2 =>
        joinW (fun _ (t : Bool) h_7 =>
          ifB t
           (joinW (fun _ (more_3 : Bool) h_8 =>
          ar .i64 (q_more_2.2 + 1) fun n =>
          next_2 (more_3, n) h_8) fun k_2 =>
        joinW (fun _ (t_1 : Bool) h_9 =>
          ifB t_1
           (idx 1 s q_more_2.2 fun p_2 =>
           st [.bool true] h_9 p_2 fun h_10 =>
           k_2 true h_10)
           (k_2 q_more_2.1 h_9)) fun k_3 =>
        idx 1 s q_more_2.2 fun p_3 =>
        ld .bool h_7 p_3 fun (x_1 : Bool) =>
        ifB (!x_1)
         (ld (.agg 5) h_7 p fun (x_2 : Array Value) =>
         ACalls Try.prog F_lateenref08_Leads [.agg x_2, .int .i64 q_more_1.2, .int .i64 q_more_2.2] h_7 fun v h_11 => as1 .bool v fun r =>
            k_3 r h_11)
         (k_3 false h_7))
           (ar .i64 (q_more_1.2 + 1) fun n_1 =>
      next_1 (q_more_2.1, n_1) h_7)) fun k_1 =>
        ifB (decide (q_more_2.2 < (s.len : Int)))
         (idx 1 s q_more_1.2 fun p_4 =>
           ld .bool h_6 p_4 fun (x_3 : Bool) =>
            k_1 x_3 h_6)
         (k_1 false h_6)) (q_more_1.1, 0) h_5)
       (next q_more_1.1 h_5)) (false, 0) h_4)
     (K s.v h_3)) (decide ((s.len : Int) > 0)) h_2
def lateenref08_Come_a : Ann := (.seq .leaf (.seq .leaf (.seq .leaf (.seq (.block (.loop [(4, .bool)] [1, 3] (.seq (.seq .leaf (.cond .leaf .leaf)) (.block (.seq .leaf (.seq .leaf (.seq .leaf (.block (.loop [(4, .bool), (5, .int .i64)] [1, 3] (.seq (.seq .leaf (.cond .leaf .leaf)) (.seq (.block (.seq .leaf (.block (.loop [(4, .bool), (6, .int .i64)] [1, 3, 5] (.seq (.join [(32, .bool)] [1, 3, 4, 5, 6] .leaf (.cond .leaf .leaf)) (.join [(4, .bool)] [1, 3, 5, 6] (.block (.join [(45, .bool)] [1, 3, 4, 5, 6] .leaf (.cond (.seq .leaf .leaf) .leaf))) .leaf)))))) .leaf))))))))))) (.seq .leaf .leaf)))))
theorem lateenref08_Come_eq (f : Array Value) (h : Heap) (K : Value → Heap → Prop) : lateenref08_Come f h K = fnW Try.prog ty lateenref08_Come_a (bodyOf Try.f21) [.tmp 2] [.agg f] h K := by kernel_rfl
theorem lateenref08_Come_of {f : Array Value} {h : Heap} {K : Value → Heap → Prop} (hw : lateenref08_Come f h K) : ACalls Try.prog F_lateenref08_Come [.agg f] h K :=
  calls_sound ty_ok mixed lateenref08_Come_a (c := bodyOf Try.f21) Try.func21 (by kernel_rfl) (by kernel_rfl) (by kernel_rfl) (Nat.le_of_ble_eq_true rfl) (by rw [lateenref08_Come_eq] at hw; exact hw)

/-- lateen/shape.from -/
def shape_from (f : Array Value) (h : Heap) (K : Value → Heap → Prop) : Prop :=
  new 25 f h fun p h_1 =>
  mkm h_1 fun m h_2 =>
  ld .sl h_2 (p.add 4) fun (x : Sl) =>
  loopW (fun _ (t : Int) h_3 next =>
    ifB (decide (t < (x.len : Int)))
     (idx 9 x t fun p_1 =>
    ld (.agg 9) h_3 p_1 fun (x_1 : Array Value) =>
    new 40 #[.string ⟨#[]⟩, .slice none 0 0, .slice none 0 0, .int .i64 0, .int .i64 0, .string ⟨#[]⟩, .int .i64 0, .slice none 0 0, .int .i64 0] h_3 fun p_2 h_4 =>
    x_1.size = 9 ∧ st x_1.toList h_4 p_2 fun h_5 =>
    ld .sl h_5 ((p_2.add 3).add 4) fun (x_2 : Sl) =>
    loopW (fun _ (t_1 : Int) h_6 next_1 =>
      ifB (decide (t_1 < (x_2.len : Int)))
       (idx 1 x_2 t_1 fun p_3 =>
      ld .str h_6 p_3 fun (x_3 : ByteArray) =>
      mlk .string m (.string x_3) h_6 fun r => as1 .sl (r.getD (.slice none 0 0)) fun y =>
      ld .str h_6 (p_2.add 0) fun (x_4 : ByteArray) =>
      bld si_Lstring 1 [(0, .string x_4)] h_6 fun s h_7 =>
      app si_Lstring y s h_7 fun s_1 h_8 =>
      mup .string m (.string x_3) (s_1.v) h_8 fun h_9 =>
      ar .i64 (t_1 + 1) fun n =>
      next_1 n h_9)
       (ar .i64 (t + 1) fun n_1 =>
    next n_1 h_6)) 0 h_5)
     (K (.map m) h_3)) 0 h_2
def shape_from_a : Ann := (.seq .leaf (.seq .leaf (.seq (.seq .leaf (.block (.loop [(12, .int .i64)] [3, 10, 11] (.seq .leaf (.seq (.cond .leaf .leaf) (.seq (.block (.seq .leaf (.seq .leaf (.block (.loop [(20, .int .i64)] [3, 5, 10, 11, 12, 18, 19] (.seq .leaf (.seq (.cond .leaf .leaf) (.seq (.block (.seq .leaf .leaf)) .leaf)))))))) .leaf)))))) (.seq .leaf .leaf))))
theorem shape_from_eq (f : Array Value) (h : Heap) (K : Value → Heap → Prop) : shape_from f h K = fnW Try.prog ty shape_from_a (bodyOf Try.f22) [.tmp 2] [.agg f] h K := by kernel_rfl
theorem shape_from_of {f : Array Value} {h : Heap} {K : Value → Heap → Prop} (hw : shape_from f h K) : ACalls Try.prog F_shape_from [.agg f] h K :=
  calls_sound ty_ok mixed shape_from_a (c := bodyOf Try.f22) Try.func22 (by kernel_rfl) (by kernel_rfl) (by kernel_rfl) (Nat.le_of_ble_eq_true rfl) (by rw [shape_from_eq] at hw; exact hw)

/-- lateen/shape.phi -/
def shape_phi (x : Array Value) (l : Sl) (h : Heap) (K : Value → Heap → Prop) : Prop :=
  new 51 x h fun p h_1 =>
  ld .sl h_1 (p.add 1) fun (x_1 : Sl) =>
  ifB ((x_1.len : Int) != (l.len : Int))
   (K (.bool false) h_1)
   (mkm h_1 fun m h_2 =>
  loopW (fun _ (t : Int) h_3 next =>
    ifB (decide (t < (l.len : Int)))
     (idx 1 l t fun p_1 =>
    ld .str h_3 p_1 fun (x_2 : ByteArray) =>
    mup .string m (.string x_2) (.bool true) h_3 fun h_4 =>
    ar .i64 (t + 1) fun n =>
    next n h_4)
     (ld .sl h_3 (p.add 1) fun (x_3 : Sl) =>
  loopW (fun _ (t_1 : Int) h_5 next_1 =>
    ifB (decide (t_1 < (x_3.len : Int)))
     (idx 4 x_3 t_1 fun p_2 =>
    ld (.agg 4) h_5 p_2 fun (x_4 : Array Value) =>
    new 48 #[.string ⟨#[]⟩, .int .i64 0, .string ⟨#[]⟩, .int .i64 0] h_5 fun p_3 h_6 =>
    x_4.size = 4 ∧ st x_4.toList h_6 p_3 fun h_7 =>
    ld .str h_7 (p_3.add 0) fun (x_5 : ByteArray) =>
    mlk .string m (.string x_5) h_7 fun r => as1 .bool (r.getD (.bool false)) fun y =>
    ifB (!y)
     (K (.bool false) h_7)
     (ld .str h_7 (p_3.add 0) fun (x_6 : ByteArray) =>
    mdl .string m (.string x_6) h_7 fun h_8 =>
    ar .i64 (t_1 + 1) fun n_1 =>
    next_1 n_1 h_8))
     (K (.bool true) h_5)) 0 h_3)) 0 h_2)
def shape_phi_a : Ann := (.seq .leaf (.seq (.seq .leaf (.cond (.seq .leaf .leaf) .leaf)) (.seq .leaf (.seq (.seq .leaf (.block (.loop [(19, .int .i64)] [2, 5, 17, 18] (.seq .leaf (.seq (.cond .leaf .leaf) (.seq (.block (.seq .leaf .leaf)) .leaf)))))) (.seq (.seq .leaf (.block (.loop [(29, .int .i64)] [5, 27, 28] (.seq .leaf (.seq (.cond .leaf .leaf) (.seq (.block (.seq .leaf (.seq (.seq .leaf (.cond (.seq .leaf .leaf) .leaf)) .leaf))) .leaf)))))) (.seq .leaf .leaf))))))
theorem shape_phi_eq (x : Array Value) (l : Sl) (h : Heap) (K : Value → Heap → Prop) : shape_phi x l h K = fnW Try.prog ty shape_phi_a (bodyOf Try.f23) [.tmp 4] [.agg x, l.v] h K := by kernel_rfl
theorem shape_phi_of {x : Array Value} {l : Sl} {h : Heap} {K : Value → Heap → Prop} (hw : shape_phi x l h K) : ACalls Try.prog F_shape_phi [.agg x, l.v] h K :=
  calls_sound ty_ok mixed shape_phi_a (c := bodyOf Try.f23) Try.func23 (by kernel_rfl) (by kernel_rfl) (by kernel_rfl) (Nat.le_of_ble_eq_true rfl) (by rw [shape_phi_eq] at hw; exact hw)

end Go.Proofs.Ytgdfpdfkghmdpaa
