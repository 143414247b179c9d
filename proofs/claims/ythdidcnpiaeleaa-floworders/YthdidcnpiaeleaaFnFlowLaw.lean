/-
  The statements of layer 9.
-/
import Derived.Test.YthdidcnpiaeleaaFnFlow
import Derived.Test.YthdidcnpiaeleaaFwLaw
namespace Go.Proofs.Ythdidcnpiaeleaa
open Go.Fw Go.Pl

/-- '[]int{..}' -/
theorem lit_ints {h0 h : Heap} {L : List As} {n : Nat} {parts : List (Nat × Value)} (l : List Int) {K : Sl → Heap → Prop} (S : Sep h0 h L)
    (hfill : Instr.fill (fun i => some (i * si_Lint.size, si_Lint.size)) (madeCells si_Lint.zero.cells (n * si_Lint.size)) parts = some (l.map fun n => Value.int .i64 n).toArray) (hl : l.length = n) (hn : n ≤ 16777216)
    (hK : ∀ s h', Sep h0 h' (ownSl si_Lint eInt s l :: L) → K s h') : bld si_Lint n parts h K :=
  bld_rule (S.free loc_ownRow (Row.of_cells l)) hfill hl rfl (by show n * 1 ≤ _; omega) hn hK

theorem awake_calls {h : Heap} : ACalls Try.prog F_lateenlaw09_awake [] h (fun v h' => v = .bool true ∧ Old h h') := by
  refine lateenlaw09_awake_of ?_
  unfold lateenlaw09_awake
  refine lit_ints [1, 2] (Sep.start h) (by kernel_rfl) rfl (by decide) fun s1 h1 S => ?_
  refine lit_ints [3] S (by kernel_rfl) rfl (by decide) fun s2 h2 S => ?_
  refine lit_ints [3] S (by kernel_rfl) rfl (by decide) fun s3 h3 S => ?_
  -- the graph
  have S2 : Sep h h3 [ownRow eInts [s3.v, (⟨none, 0, 0⟩ : Sl).v] [[3], []], ownSl si_Lint eInt s2 [3], ownSl si_Lint eInt s1 [1, 2]] :=
    (((S.rowNil (E := eInts)).nil (si := si_Lint) (E := eInt) rfl).rowCons.swap).rowCons
  have S3 := (S2.swap.rowCons.swap).rowCons
  refine bld_rule S3 (by kernel_rfl) rfl rfl (by decide) (by decide) fun g h4 S4 => ?_
  intro k hk
  have hg := S4.rd
  refine (order_calls hg (by decide)).mono ?_
  rintro v h5 ⟨r, rfl, T⟩
  refine ⟨r, rfl, ?_⟩
  have S5 := S4.frame T
  refine lit_ints [0, 2, 1, 3] S5 (by kernel_rfl) rfl (by decide) fun s4 h6 S6 => ?_
  refine (same_calls S6.swap.rd S6.rd).mono ?_
  rintro v h7 ⟨rfl, rfl⟩
  refine ⟨_, rfl, ?_⟩
  refine ifB_true (by decide) ?_
  have S7 := S6.rot3
  refine (preds_calls S7.rd (by decide)).mono ?_
  rintro v h8 ⟨r2, rfl, T2⟩
  refine ⟨r2, rfl, ?_⟩
  have S8 := S7.frame T2
  refine lit_ints [0] S8 (by kernel_rfl) rfl (by decide) fun s5 h9 S9 => ?_
  refine lit_ints [0] S9 (by kernel_rfl) rfl (by decide) fun s6 h10 S10 => ?_
  refine lit_ints [1, 2] S10 (by kernel_rfl) rfl (by decide) fun s7 h11 S11 => ?_
  have S12 := (((S11.rowNil (E := eInts)).swap.rowCons.swap.rowCons.swap.rowCons).nil (si := si_Lint) (E := eInt) rfl).rowCons
  refine bld_rule S12 (by kernel_rfl) rfl rfl (by decide) (by decide) fun s8 h13 S13 => ?_
  refine (sameLists_calls S13.swap.rd S13.rd).mono ?_
  rintro v h14 ⟨rfl, rfl⟩
  refine ⟨_, rfl, ?_⟩
  refine ifB_true (by decide) ?_
  have hn : rdSl eInts h14 (⟨none, 0, 0⟩ : Sl) [] := ⟨rfl, Nat.le_refl _, by decide, fun _ => rfl, .inl rfl⟩
  refine (order_calls hn (by decide)).mono ?_
  rintro v h15 ⟨r4, rfl, T4⟩
  refine ⟨r4, rfl, ?_⟩
  refine hk _ _ fun _ => ?_
  have hz : r4.len = 0 := T4.rd.lenEq.trans (by decide)
  refine ⟨by rw [hz]; rfl, (S13.frame T4).old⟩

theorem few_le {G : Graph} {m : Int} (h : fewB G m = true) : (G.length : Int) ≤ m := by
  unfold fewB at h
  simp only [Bool.and_eq_true, decide_eq_true_eq] at h
  exact h.1

theorem flowOrders_calls {h : Heap} {g : Sl} {G : Graph} (hg : rdSl eInts h g G) :
    ACalls Try.prog F_lateenlaw09_FlowOrders [g.v] h (fun v h' => v = .bool true ∧ Old h h') := by
  refine lateenlaw09_FlowOrders_of ?_
  unfold lateenlaw09_FlowOrders
  intro k hk
  refine awake_calls.mono ?_
  rintro v h1 ⟨rfl, o1⟩
  refine ⟨_, rfl, ifB_false rfl ?_⟩
  have g1 := hg.old o1
  refine (few_calls g1 60).mono ?_
  rintro v h2 ⟨rfl, rfl⟩
  refine ⟨_, rfl, hk _ _ fun _ => ?_⟩
  refine ifB_intro (fun _ => ?_) (fun hc => ?_)
  · refine awake_calls.mono ?_
    rintro v h3 ⟨rfl, o3⟩
    exact ⟨_, rfl, rfl, o1.trans o3⟩
  · have hn : G.length ≤ 1000 := by have := few_le (by simpa using hc); omega
    intro k1 hk1
    refine (order_calls g1 hn).mono ?_
    rintro v h3 ⟨r1, rfl, T1⟩
    refine ⟨_, rfl, ?_⟩
    refine (refOrder_calls (g1.old T1.old) hn).mono ?_
    rintro v h4 ⟨r2, rfl, T2⟩
    refine ⟨_, rfl, ?_⟩
    have S2 := T1.frame T2
    refine (same_calls S2.swap.rd S2.rd).mono ?_
    rintro v h5 ⟨rfl, rfl⟩
    refine ⟨_, rfl, ifB_true (by simp) ?_⟩
    refine (come_calls (g1.old S2.old) hn).mono ?_
    rintro v h6 ⟨r3, rfl, T3⟩
    refine ⟨_, rfl, ?_⟩
    have S3 := S2.frame T3
    refine (refCome_calls (g1.old S3.old) hn).mono ?_
    rintro v h7 ⟨r4, rfl, T4⟩
    refine ⟨_, rfl, ?_⟩
    have S4 := S3.frame T4
    refine (sameBools_calls S4.swap.rd S4.rd).mono ?_
    rintro v h8 ⟨rfl, rfl⟩
    refine ⟨_, rfl, ifB_true (by simp) ?_⟩
    refine (preds_calls (g1.old S4.old) hn).mono ?_
    rintro v h9 ⟨r5, rfl, T5⟩
    refine ⟨_, rfl, ?_⟩
    have S5 := S4.frame T5
    refine (refPreds_calls (g1.old S5.old) hn).mono ?_
    rintro v h10 ⟨r6, rfl, T6⟩
    refine ⟨_, rfl, ?_⟩
    have S6 := S5.frame T6
    refine (sameLists_calls S6.swap.rd S6.rd).mono ?_
    rintro v h11 ⟨rfl, rfl⟩
    refine ⟨_, rfl, hk1 _ _ fun _ => ⟨by simp, o1.trans S6.old⟩⟩

end Go.Proofs.Ythdidcnpiaeleaa
