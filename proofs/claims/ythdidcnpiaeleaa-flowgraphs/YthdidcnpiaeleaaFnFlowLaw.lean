/-
  The statements of layer 9.
-/
import Derived.Test.YthdidcnpiaeleaaFnFlow
import Derived.Test.YthdidcnpiaeleaaFwLaw
namespace Go.Proofs.Ythdidcnpiaeleaa
open Go.Fw Go.Pl

/-- '[]int{..}' -/
theorem lit_ints {h0 h : Heap} {L : List As} {n : Nat} {parts : List (Nat × Value)} (l : List Int) {K : Sl → Heap → Prop} (S : Sep h0 h L)
    (hfill : Instr.fill (fun i => some (i * si_Lint.size, si_Lint.size)) (madeCells si_Lint.zero.cells (n * si_Lint.size)) parts = some (l.map fun n => Value.int .i64 n).toArray) (hl : l.length = n) (hn : n ≤ 16777216)
    (hK : ∀ s h', Sep h0 h' (ownSl si_Lint eInt s l :: L) → K s h') : bld si_Lint n parts h K :=
  bld_rule (S.free loc_ownRow (Row.of_cells l)) hfill hl rfl (by show n * 1 ≤ _; omega) hn hK

theorem awake_calls {h : Heap} : ACalls Try.prog F_lateenlaw09_awake [] h (fun v h' => v = .bool true ∧ Old h h') := by
  refine lateenlaw09_awake_of ?_
  unfold lateenlaw09_awake
  refine lit_ints [1, 2] (Sep.start h) (by kernel_rfl) rfl (by decide) fun s1 h1 S => ?_
  refine lit_ints [3] S (by kernel_rfl) rfl (by decide) fun s2 h2 S => ?_
  refine lit_ints [3] S (by kernel_rfl) rfl (by decide) fun s3 h3 S => ?_
  -- the graph
  have S2 : Sep h h3 [ownRow eInts [s3.v, (⟨none, 0, 0⟩ : Sl).v] [[3], []], ownSl si_Lint eInt s2 [3], ownSl si_Lint eInt s1 [1, 2]] :=
    (((S.rowNil (E := eInts)).nil (si := si_Lint) (E := eInt) rfl).rowCons.swap).rowCons
  have S3 := (S2.swap.rowCons.swap).rowCons
  refine bld_rule S3 (by kernel_rfl) rfl rfl (by decide) (by decide) fun g h4 S4 => ?_
  intro k hk
  have hg := S4.rd
  refine (order_calls hg (by decide)).mono ?_
  rintro v h5 ⟨r, rfl, T⟩
  refine ⟨r, rfl, ?_⟩
  have S5 := S4.frame T
  refine lit_ints [0, 2, 1, 3] S5 (by kernel_rfl) rfl (by decide) fun s4 h6 S6 => ?_
  refine (same_calls S6.swap.rd S6.rd).mono ?_
  rintro v h7 ⟨rfl, rfl⟩
  refine ⟨_, rfl, ?_⟩
  refine ifB_true (by decide) ?_
  have S7 := S6.rot3
  refine (preds_calls S7.rd (by decide)).mono ?_
  rintro v h8 ⟨r2, rfl, T2⟩
  refine ⟨r2, rfl, ?_⟩
  have S8 := S7.frame T2
  refine lit_ints [0] S8 (by kernel_rfl) rfl (by decide) fun s5 h9 S9 => ?_
  refine lit_ints [0] S9 (by kernel_rfl) rfl (by decide) fun s6 h10 S10 => ?_
  refine lit_ints [1, 2] S10 (by kernel_rfl) rfl (by decide) fun s7 h11 S11 => ?_
  have S12 := (((S11.rowNil (E := eInts)).swap.rowCons.swap.rowCons.swap.rowCons).nil (si := si_Lint) (E := eInt) rfl).rowCons
  refine bld_rule S12 (by kernel_rfl) rfl rfl (by decide) (by decide) fun s8 h13 S13 => ?_
  refine (sameLists_calls S13.swap.rd S13.rd).mono ?_
  rintro v h14 ⟨rfl, rfl⟩
  refine ⟨_, rfl, ?_⟩
  refine ifB_true (by decide) ?_
  have hn : rdSl eInts h14 (⟨none, 0, 0⟩ : Sl) [] := ⟨rfl, Nat.le_refl _, by decide, fun _ => rfl, .inl rfl⟩
  refine (order_calls hn (by decide)).mono ?_
  rintro v h15 ⟨r4, rfl, T4⟩
  refine ⟨r4, rfl, ?_⟩
  refine hk _ _ fun _ => ?_
  have hz : r4.len = 0 := T4.rd.lenEq.trans (by decide)
  refine ⟨by rw [hz]; rfl, (S13.frame T4).old⟩

/-- Awake at the end. -/
theorem awake_end {hb h : Heap} (o : Old hb h) : ACalls Try.prog F_lateenlaw09_awake [] h (fun v h' => as1 .bool v fun r => (Value.bool r) = Value.bool true ∧ Old hb h') := by
  refine awake_calls.mono ?_
  rintro v h3 ⟨rfl, o3⟩
  exact ⟨_, rfl, rfl, o.trans o3⟩

theorem few_le {G : Graph} {m : Int} (h : fewB G m = true) : (G.length : Int) ≤ m := by
  unfold fewB at h
  simp only [Bool.and_eq_true, decide_eq_true_eq] at h
  exact h.1

theorem flowOrders_calls {h : Heap} {g : Sl} {G : Graph} (hg : rdSl eInts h g G) :
    ACalls Try.prog F_lateenlaw09_FlowOrders [g.v] h (fun v h' => v = .bool true ∧ Old h h') := by
  refine lateenlaw09_FlowOrders_of ?_
  unfold lateenlaw09_FlowOrders
  intro k hk
  refine awake_calls.mono ?_
  rintro v h1 ⟨rfl, o1⟩
  refine ⟨_, rfl, ifB_false rfl ?_⟩
  have g1 := hg.old o1
  refine (few_calls g1 60).mono ?_
  rintro v h2 ⟨rfl, rfl⟩
  refine ⟨_, rfl, hk _ _ fun _ => ?_⟩
  refine ifB_intro (fun _ => ?_) (fun hc => ?_)
  · refine awake_calls.mono ?_
    rintro v h3 ⟨rfl, o3⟩
    exact ⟨_, rfl, rfl, o1.trans o3⟩
  · have hn : G.length ≤ 1000 := by have := few_le (by simpa using hc); omega
    intro k1 hk1
    refine (order_calls g1 hn).mono ?_
    rintro v h3 ⟨r1, rfl, T1⟩
    refine ⟨_, rfl, ?_⟩
    refine (refOrder_calls (g1.old T1.old) hn).mono ?_
    rintro v h4 ⟨r2, rfl, T2⟩
    refine ⟨_, rfl, ?_⟩
    have S2 := T1.frame T2
    refine (same_calls S2.swap.rd S2.rd).mono ?_
    rintro v h5 ⟨rfl, rfl⟩
    refine ⟨_, rfl, ifB_true (by simp) ?_⟩
    refine (come_calls (g1.old S2.old) hn).mono ?_
    rintro v h6 ⟨r3, rfl, T3⟩
    refine ⟨_, rfl, ?_⟩
    have S3 := S2.frame T3
    refine (refCome_calls (g1.old S3.old) hn).mono ?_
    rintro v h7 ⟨r4, rfl, T4⟩
    refine ⟨_, rfl, ?_⟩
    have S4 := S3.frame T4
    refine (sameBools_calls S4.swap.rd S4.rd).mono ?_
    rintro v h8 ⟨rfl, rfl⟩
    refine ⟨_, rfl, ifB_true (by simp) ?_⟩
    refine (preds_calls (g1.old S4.old) hn).mono ?_
    rintro v h9 ⟨r5, rfl, T5⟩
    refine ⟨_, rfl, ?_⟩
    have S5 := S4.frame T5
    refine (refPreds_calls (g1.old S5.old) hn).mono ?_
    rintro v h10 ⟨r6, rfl, T6⟩
    refine ⟨_, rfl, ?_⟩
    have S6 := S5.frame T6
    refine (sameLists_calls S6.swap.rd S6.rd).mono ?_
    rintro v h11 ⟨rfl, rfl⟩
    refine ⟨_, rfl, hk1 _ _ fun _ => ⟨by simp, o1.trans S6.old⟩⟩

theorem wrap_u8 {a : Int} (h0 : 0 ≤ a) (h1 : a < 256) : IntKind.i64.wrap a = a := by
  have := (ar_i64 (n := a) (K := fun _ => True) (by omega) (by omega) trivial).1
  exact this
theorem tmod_lt {a : Int} {n : Nat} (h0 : 0 ≤ a) (hn : 0 < n) : ∃ k : Nat, Int.tmod a (n : Int) = k ∧ k < n := by
  obtain ⟨x, rfl⟩ := Int.eq_ofNat_of_zero_le h0
  exact ⟨x % n, (Int.ofNat_tmod x n).symm, Nat.mod_lt _ hn⟩

theorem flowPreds_calls {h : Heap} {g : Sl} {G : Graph} (hg : rdSl eInts h g G) {a b : Int} (ha : 0 ≤ a ∧ a < 256) (hb : 0 ≤ b ∧ b < 256) :
    ACalls Try.prog F_lateenlaw09_FlowPreds [g.v, .int .u8 a, .int .u8 b] h (fun v h' => v = .bool true ∧ Old h h') := by
  refine lateenlaw09_FlowPreds_of ?_
  unfold lateenlaw09_FlowPreds
  have hl := hg.lenEq
  intro k hk
  refine awake_calls.mono ?_
  rintro v h1 ⟨rfl, o1⟩
  refine ⟨_, rfl, ifB_false rfl ?_⟩
  have g1 := hg.old o1
  refine (few_calls g1 200).mono ?_
  rintro v h2 ⟨rfl, rfl⟩
  refine ⟨_, rfl, ?_⟩
  refine ifB_intro (fun _ => hk _ _ fun _ => ifB_true rfl (awake_end o1)) (fun hc => ?_)
  have hn : G.length ≤ 1000 := by have := few_le (by simpa using hc); omega
  refine hk _ _ fun _ => ?_
  refine ifB_intro (fun _ => awake_end o1) (fun hc => ?_)
  have hpos : 0 < G.length := by
    have : (g.len : Int) ≠ 0 := by simpa using hc
    omega
  refine ⟨by omega, by omega, ?_⟩
  refine (preds_calls g1 hn).mono ?_
  rintro v h3 ⟨r, rfl, T⟩
  refine ⟨_, rfl, ?_⟩
  have hr := T.rd.lenEq
  rw [predsOf_len] at hr
  refine ifB_false (by rw [hr, hl]; simp) ?_
  rw [wrap_u8 ha.1 ha.2, wrap_u8 hb.1 hb.2]
  obtain ⟨x, hx, hxn⟩ := tmod_lt (n := g.len) ha.1 (by omega)
  obtain ⟨y, hy, hyn⟩ := tmod_lt (n := g.len) hb.1 (by omega)
  rw [hl] at hxn hyn
  rw [hx, hy]
  have hyp : y < (predsOf G).length := by rw [predsOf_len]; exact hyn
  have hrow := predsOf_row hyn
  have hup := up_filter (fun k => leadsB G k (y : Int)) G.length
  have hcnt := count_filter (fun k => leadsB G k (y : Int)) x G.length
  rw [← hrow] at hup hcnt
  have hgr : (predsOf G)[y] = (predsOf G).getD y [] := row_eq _
  generalize hR : (predsOf G).getD y [] = R at hup hcnt hgr
  refine loop_intro (fun m t h1 => ∃ j : Nat, t.2 = j ∧ j ≤ R.length ∧ t.1 = ((R.take j).count (x : Int) : Nat) ∧ m = R.length - j ∧ h1 = h3) R.length ⟨0, rfl, by omega, by simp, by omega, rfl⟩ ?_
  rintro m _ ⟨n, i⟩ h4 ⟨j, hj0, hj, hn0, rfl, rfl⟩
  simp only at hj0 hn0 ⊢
  subst hj0 hn0
  refine idx_rdN T.rd rfl hyp fun p _ hp => ld_sl hp fun q hq => ?_
  rw [hgr] at hq
  have hql := hq.lenEq
  have hqb := hq.bound
  refine ifB_intro (fun hc => ?_) (fun hc => ?_)
  · have hjl : j < R.length := by rw [hql] at hc; simpa using hc
    intro k1 hk1
    have step : k1 (((R.take (j + 1)).count (x : Int) : Nat) : Int) h4 := by
      refine hk1 _ _ fun _ => ?_
      intro k2 hk2
      have last : k2 false h4 := hk2 _ _ fun _ => ifB_false rfl (ar_i64 (by omega) (by omega) ⟨R.length - (j + 1), by omega, j + 1, rfl, by omega, rfl, rfl, rfl⟩)
      refine ifB_intro (fun hc => ?_) (fun _ => last)
      have h0j : 0 < j := by have := of_decide_eq_true hc; omega
      refine idx_rdN T.rd rfl hyp fun p _ hp => ld_sl hp fun q2 hq2 => ?_
      rw [hgr] at hq2
      refine ar_i64 (by omega) (by omega) ?_
      rw [show (j : Int) - 1 = ((j - 1 : Nat) : Int) by omega]
      refine idx_rdN hq2 rfl (i := j - 1) (by omega) fun p _ hp => ld_one hp ?_
      refine idx_rdN T.rd rfl hyp fun p _ hp => ld_sl hp fun q3 hq3 => ?_
      rw [hgr] at hq3
      refine idx_rdN hq3 rfl hjl fun p _ hp => ld_one hp ?_
      have := List.pairwise_iff_getElem.1 hup (j - 1) j (by omega) hjl (by omega)
      rw [show decide (R[j - 1] ≥ R[j]) = false from decide_eq_false (by omega)]
      exact last
    refine idx_rdN T.rd rfl hyp fun p _ hp => ld_sl hp fun q1 hq1 => ?_
    rw [hgr] at hq1
    refine idx_rdN hq1 rfl hjl fun p _ hp => ld_one hp ?_
    have hle : (R.take j).count (x : Int) ≤ j := Nat.le_trans List.count_le_length (by simp; omega)
    have ht : (R.take (j + 1)).count (x : Int) = (R.take j).count (x : Int) + if R[j] == (x : Int) then 1 else 0 := by
      rw [List.take_succ_eq_append_getElem hjl, List.count_append, List.count_singleton]
    refine ifB_intro (fun hc => ?_) (fun hc => ?_)
    · rw [hc] at ht
      refine ar_i64 (by omega) (by omega) ?_
      have := step
      rw [ht] at this
      simpa using this
    · rw [hc] at ht
      have := step
      rw [ht] at this
      simpa using this
  · have hjl : j = R.length := by rw [hql] at hc; simp at hc; omega
    subst hjl
    rw [List.take_length]
    refine (leads_calls (g1.old T.old) (a := (x : Int)) (b := (y : Int)) (by omega) (by omega)).mono ?_
    rintro v h5 ⟨rfl, rfl⟩
    refine ⟨_, rfl, ?_, o1.trans T.old⟩
    rw [hcnt]
    simp only [Int.toNat_natCast, hxn, true_and]
    cases leadsB G x y <;> rfl

end Go.Proofs.Ythdidcnpiaeleaa
