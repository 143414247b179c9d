/-
  The laws of layer 10: awake, DomNears, DomFrontiers, DomTree.
-/
import Derived.Test.YthdidcnpiaeleaaFnHelp
import Derived.Test.YthdidcnpiaeleaaFnDom6
namespace Go.Proofs.Ythdidcnpiaeleaa
open Go.Fw Go.Pl

def gA : Graph := [[1, 2], [3], [3], []]
def gB : Graph := [[1], [1]]
theorem nearA : nearF gA = [-1, 0, 0, 0] := by decide +kernel
theorem frontA : frontF gA = [[], [3], [3], []] := by decide +kernel
theorem frontB' : frontF gB = [[], [1]] := by decide +kernel
theorem domA0 : DomI gA 0 3 := ⟨0, 3, rfl, rfl, by decide, by decide, .inr ((domB_iff (by decide)).1 (by decide +kernel))⟩
theorem domA1 : ¬ DomI gA 1 3 := by
  rintro ⟨x, y, hx, hy, _, _, h⟩
  have : x = 1 := by omega
  have : y = 3 := by omega
  subst x y
  rcases h with h | h
  · omega
  · have := (domB_iff (by decide)).2 h
    have h2 : domB gA 1 3 = false := by decide +kernel
    rw [h2] at this; cases this

theorem awake10_calls {h : Heap} : ACalls Try.prog F_lateenlaw10_awake [] h (fun v h' => v = .bool true ∧ Old h h') := by
  refine lateenlaw10_awake_of ?_
  unfold lateenlaw10_awake
  refine lit_ints [1, 2] (Sep.start h) (by kernel_rfl) rfl (by decide) fun s h1 S => ?_
  refine lit_ints [3] S (by kernel_rfl) rfl (by decide) fun s1 h2 S => ?_
  refine lit_ints [3] S (by kernel_rfl) rfl (by decide) fun s2 h3 S => ?_
  have SA := ((((S.rowNil (E := eInts)).nil (si := si_Lint) (E := eInt) rfl).rowCons.swap.rowCons).swap.rowCons).swap.rowCons
  refine bld_rule (l := gA) SA (by kernel_rfl) rfl rfl (by decide) (by decide) fun g h4 S4 => ?_
  refine lit_ints [1] S4 (by kernel_rfl) rfl (by decide) fun s4 h5 S5 => ?_
  refine lit_ints [1] S5 (by kernel_rfl) rfl (by decide) fun s5 h6 S6 => ?_
  have SB := ((S6.rowNil (E := eInts)).swap.rowCons).swap.rowCons
  refine bld_rule (l := gB) SB (by kernel_rfl) rfl rfl (by decide) (by decide) fun g2 h7 S7 => ?_
  have hgA := S7.drop.rd
  have hgB := S7.rd
  have o7 := S7.old
  clear S SA S4 S5 S6 SB S7
  intro k hk
  refine (nearest_calls hgA (by decide)).mono ?_
  rintro v h9 ⟨r, rfl, T9⟩
  refine ⟨r, rfl, ?_⟩
  rw [nearA] at T9
  refine lit_ints [-1, 0, 0, 0] T9 (by kernel_rfl) rfl (by decide) fun s7 h10 T10 => ?_
  refine (same_calls T10.swap.rd T10.rd).mono ?_
  rintro v h11 ⟨rfl, rfl⟩
  refine ⟨_, rfl, ifB_true (by decide) ?_⟩
  have o10 := T10.old
  clear T9 T10
  refine (frontier_calls (hgA.old o10) (by decide)).mono ?_
  rintro v h12 ⟨r2, rfl, T12⟩
  refine ⟨r2, rfl, ?_⟩
  rw [frontA] at T12
  refine lit_ints [3] T12 (by kernel_rfl) rfl (by decide) fun s8 h13 T13 => ?_
  refine lit_ints [3] T13 (by kernel_rfl) rfl (by decide) fun s9 h14 T14 => ?_
  have TA := (((((T14.rowNil (E := eInts)).nil (si := si_Lint) (E := eInt) rfl).rowCons.swap.rowCons).swap.rowCons).nil (si := si_Lint) (E := eInt) rfl).rowCons
  refine bld_rule (l := ([[], [3], [3], []] : Graph)) TA (by kernel_rfl) rfl rfl (by decide) (by decide) fun s10 h15 T15 => ?_
  refine (sameLists_calls T15.swap.rd T15.rd).mono ?_
  rintro v h16 ⟨rfl, rfl⟩
  refine ⟨_, rfl, ifB_true (by decide) ?_⟩
  have o15 := o10.trans T15.old
  clear T12 T13 T14 TA T15
  refine (frontier_calls (hgB.old o15) (by decide)).mono ?_
  rintro v h17 ⟨r4, rfl, T17⟩
  refine ⟨r4, rfl, ?_⟩
  rw [frontB'] at T17
  refine lit_ints [1] T17 (by kernel_rfl) rfl (by decide) fun s11 h18 T18 => ?_
  have TB := ((((T18.rowNil (E := eInts)).swap).rowCons).nil (si := si_Lint) (E := eInt) rfl).rowCons
  refine bld_rule (l := ([[], [1]] : Graph)) TB (by kernel_rfl) rfl rfl (by decide) (by decide) fun s12 h19 T19 => ?_
  refine (sameLists_calls T19.swap.rd T19.rd).mono ?_
  rintro v h20 ⟨rfl, rfl⟩
  refine ⟨_, rfl, ifB_true (by decide) ?_⟩
  have o19 := o15.trans T19.old
  clear T17 T18 TB T19
  refine (nearest_calls (hgA.old o19) (by decide)).mono ?_
  rintro v h21 ⟨r6, rfl, T21⟩
  refine ⟨r6, rfl, ?_⟩
  refine (dominates_calls T21.rd (by decide) 0 3).mono ?_
  rintro v h22 ⟨rfl, b1, rfl, hb1⟩
  refine ⟨_, rfl, ?_⟩
  refine ifB_true (hb1.2 domA0) ?_
  have o21 := o19.trans T21.old
  refine (nearest_calls (hgA.old o21) (by decide)).mono ?_
  rintro v h23 ⟨r8, rfl, T23⟩
  refine ⟨r8, rfl, ?_⟩
  refine (dominates_calls T23.rd (by decide) 1 3).mono ?_
  rintro v h24 ⟨rfl, b2, rfl, hb2⟩
  refine ⟨_, rfl, hk _ _ fun _ => ⟨?_, o7.trans (o21.trans T23.old)⟩⟩
  have : b2 = false := by
    cases b2 with
    | false => rfl
    | true => exact absurd (hb2.1 rfl) domA1
  rw [this]; rfl
theorem awake10_end {hb h : Heap} (o : Old hb h) : ACalls Try.prog F_lateenlaw10_awake [] h (fun v h' => as1 .bool v fun r => (Value.bool r) = Value.bool true ∧ Old hb h') := by
  refine awake10_calls.mono ?_
  rintro v h3 ⟨rfl, o3⟩
  exact ⟨_, rfl, rfl, o.trans o3⟩
theorem few10_calls {h : Heap} {g : Sl} {G : Graph} (hg : rdSl eInts h g G) : ACalls Try.prog F_lateenlaw10_few [g.v] h (fun v h' => v = .bool (fewB G 24) ∧ h' = h) := by
  refine lateenlaw10_few_of ?_
  unfold lateenlaw10_few
  refine (few_calls hg 24).mono ?_
  rintro v h' ⟨rfl, rfl⟩
  exact ⟨_, rfl, rfl, rfl⟩

theorem domNears_calls {h : Heap} {g : Sl} {G : Graph} (hg : rdSl eInts h g G) :
    ACalls Try.prog F_lateenlaw10_DomNears [g.v] h (fun v h' => v = .bool true ∧ Old h h') := by
  refine lateenlaw10_DomNears_of ?_
  unfold lateenlaw10_DomNears
  intro k hk
  refine awake10_calls.mono ?_
  rintro v h1 ⟨rfl, o1⟩
  refine ⟨_, rfl, ifB_false rfl ?_⟩
  have g1 := hg.old o1
  refine (few10_calls g1).mono ?_
  rintro v h2 ⟨rfl, rfl⟩
  refine ⟨_, rfl, hk _ _ fun _ => ?_⟩
  refine ifB_intro (fun _ => awake10_end o1) (fun hc => ?_)
  have hfew : fewB G 24 = true := by simpa using hc
  have hn : G.length ≤ 1000 := by have := few_le hfew; omega
  refine (nearest_calls g1 hn).mono ?_
  rintro v h3 ⟨r, rfl, T3⟩
  refine ⟨r, rfl, ?_⟩
  intro k1 hk1
  refine (refNearest_calls (g1.old T3.old) hn (few_rows hfew)).mono ?_
  rintro v h5 ⟨r2, rfl, T5⟩
  refine ⟨r2, rfl, ?_⟩
  have S5 := T3.frame T5
  refine (same_calls S5.swap.rd S5.rd).mono ?_
  rintro v h6 ⟨rfl, rfl⟩
  refine ⟨_, rfl, ifB_true (by simp) ?_⟩
  have hnl := nearF_len G
  refine (kids_calls S5.swap.rd (by omega)).mono ?_
  rintro v h7 ⟨r4, rfl, T7⟩
  refine ⟨r4, rfl, ?_⟩
  have S7 := S5.frame T7
  refine (refKids_calls S7.drop.swap.rd (by omega)).mono ?_
  rintro v h8 ⟨r5, rfl, T8⟩
  refine ⟨r5, rfl, ?_⟩
  have S8 := S7.frame T8
  refine (sameLists_calls S8.swap.rd S8.rd).mono ?_
  rintro v h9 ⟨rfl, rfl⟩
  exact ⟨_, rfl, hk1 _ _ fun _ => ⟨by simp, o1.trans S8.old⟩⟩

theorem domFrontiers_calls {h : Heap} {g : Sl} {G : Graph} (hg : rdSl eInts h g G) :
    ACalls Try.prog F_lateenlaw10_DomFrontiers [g.v] h (fun v h' => v = .bool true ∧ Old h h') := by
  refine lateenlaw10_DomFrontiers_of ?_
  unfold lateenlaw10_DomFrontiers
  intro k hk
  refine awake10_calls.mono ?_
  rintro v h1 ⟨rfl, o1⟩
  refine ⟨_, rfl, ifB_false rfl ?_⟩
  have g1 := hg.old o1
  refine (few10_calls g1).mono ?_
  rintro v h2 ⟨rfl, rfl⟩
  refine ⟨_, rfl, hk _ _ fun _ => ?_⟩
  refine ifB_intro (fun _ => awake10_end o1) (fun hc => ?_)
  have hfew : fewB G 24 = true := by simpa using hc
  have hn : G.length ≤ 1000 := by have := few_le hfew; omega
  refine (frontier_calls g1 hn).mono ?_
  rintro v h3 ⟨r, rfl, T3⟩
  refine ⟨r, rfl, ?_⟩
  refine (refFrontier_calls (g1.old T3.old) hn (few_rows hfew)).mono ?_
  rintro v h5 ⟨r2, rfl, T5⟩
  refine ⟨r2, rfl, ?_⟩
  have S5 := T3.frame T5
  refine (sameLists_calls S5.swap.rd S5.rd).mono ?_
  rintro v h6 ⟨rfl, rfl⟩
  exact ⟨_, rfl, by simp, o1.trans S5.old⟩

theorem nearF_root {G : Graph} {k : Nat} (hk : k < (nearF G).length) (h : ¬ Rch G k ∨ k = 0) : (nearF G)[k] = -1 := (nearF_at hk).unique (rk_ok G) (near_none h)
theorem nearF_some {G : Graph} {k : Nat} (hk : k < (nearF G).length) (hr : Rch G k) (h0 : k ≠ 0) : ∃ d : Nat, (nearF G)[k] = d ∧ Dm G d k ∧ d ≠ k := by
  rcases nearF_at hk with ⟨_, h⟩ | ⟨d, e, h1, h2, _⟩
  · have h00 : Dm G 0 k := by
      refine ⟨.zero (by have := hr.lt; omega), hr, fun hav => ?_⟩
      have : ∀ x, Av G 0 x → False := by
        intro x hx
        induction hx with
        | zero _ hd => exact hd rfl
        | step _ _ _ _ ih => exact ih
      exact this k hav
    exact absurd (h 0 h00).symm h0
  · exact ⟨d, e, h1, h2⟩

theorem domTree_calls {h : Heap} {g : Sl} {G : Graph} (hg : rdSl eInts h g G) :
    ACalls Try.prog F_lateenlaw10_DomTree [g.v] h (fun v h' => v = .bool true ∧ Old h h') := by
  refine lateenlaw10_DomTree_of ?_
  unfold lateenlaw10_DomTree
  have hl := hg.lenEq
  intro k hk
  refine awake10_calls.mono ?_
  rintro v h1 ⟨rfl, o1⟩
  refine ⟨_, rfl, ifB_false rfl ?_⟩
  have g1 := hg.old o1
  refine (few_calls g1 100).mono ?_
  rintro v h2 ⟨rfl, rfl⟩
  refine ⟨_, rfl, hk _ _ fun _ => ?_⟩
  refine ifB_intro (fun _ => awake10_end o1) (fun hc => ?_)
  have hfew : fewB G 100 = true := by simpa using hc
  have hn : G.length ≤ 1000 := by have := few_le hfew; omega
  refine (nearest_calls g1 hn).mono ?_
  rintro v h3 ⟨r, rfl, T3⟩
  refine ⟨r, rfl, rfl, ?_⟩
  have hr := T3.rd
  have hrl := hr.lenEq
  have hnl := nearF_len G
  have R := rk_ok G
  refine mk_rule (x := false) (E := eBool) (Sep.start h3) rfl (fun h => own_bool false h) (by omega) (by omega) (by simp only [si_Lbool]; omega) fun s h4 S => ?_
  rw [hl, Int.toNat_natCast] at S
  refine (order_calls (g1.old (T3.old.trans S.old)) hn).mono ?_
  rintro v h5 ⟨r2, rfl, T5⟩
  refine ⟨r2, rfl, ?_⟩
  have S5 := S.frame T5
  clear S T5
  have hol := S5.rd.lenEq
  have hob := S5.rd.bound
  refine ifB_false (by rw [hrl, hl, hnl]; simp) ?_
  refine loop_intro (fun m (t : Int) h' => ∃ (i : Nat) (A : List Bool), t = i ∧ i ≤ (orderOf G).length ∧ m = (orderOf G).length - i ∧ A.length = G.length ∧ (∀ z (hz : z < A.length), A[z] = true ↔ (z : Int) ∈ (orderOf G).take i) ∧ Sep h3 h' [ownSl si_Lint eInt r2 (orderOf G), ownSl si_Lbool eBool s A]) (orderOf G).length
    ⟨0, _, rfl, by omega, by omega, by simp, fun z hz => by simp, S5⟩ ?_
  clear S5
  rintro _ _ t h6 ⟨i, A, rfl, hi, rfl, hA, hall, S⟩
  refine ifB_intro (fun hc => ?_) (fun hc => ?_)
  · have hil : i < (orderOf G).length := by rw [hol] at hc; simpa using hc
    obtain ⟨x, hx, hxn⟩ := order_in hil
    obtain ⟨hxr, hxk⟩ := rk_at hil hx
    refine idx_rdN S.rd rfl hil fun p _ hp => ld_one hp ?_
    rw [hx]
    have hxN : x < (nearF G).length := by omega
    have hxA : x < A.length := by omega
    intro k1 hk1
    have fin : k1 false h6 := hk1 _ _ fun _ => by
      refine ifB_false rfl ?_
      refine idx_rdN S.swap.rd rfl hxA fun p hat _ => ?_
      refine st_flat S.swap (x := true) (own_bool true) hat rfl hxA fun h8 S8 => ?_
      refine ar_i64 (by omega) (by omega) ⟨(orderOf G).length - (i + 1), by omega, i + 1, _, rfl, by omega, rfl, by simpa using hA, fun z hz => ?_, S8.swap⟩
      rw [List.getElem_set, List.take_succ_eq_append_getElem hil, hx, List.mem_append, List.mem_singleton]
      rw [List.length_set] at hz
      by_cases e : x = z
      · subst e; simp
      · rw [if_neg e, hall z hz]
        exact ⟨.inl, fun h => h.elim id fun h => absurd h (by omega)⟩
    have i0 : i = 0 → x = 0 := fun e => by
      subst e
      obtain ⟨y, h1, _, _, h4, _⟩ := order_says (G := G) (by omega) 0 hil
      have := h4 rfl
      omega
    refine ifB_intro (fun hz => ?_) (fun hz => ?_)
    · have hi0 : i = 0 := by
        have : (i : Int) = 0 := by simpa using hz
        omega
      refine idx_rdN hr rfl hxN fun p _ hp => ld_oneB hp S.old ?_
      rw [nearF_root hxN (.inr (i0 hi0))]
      refine ifB_false (by decide) (ifB_false (decide_eq_false (by omega)) fin)
    · have hi0 : i ≠ 0 := fun e => by subst e; simp at hz
      have hx0 : x ≠ 0 := fun e => by
        subst e
        have h00 : Rch G 0 := hxr
        obtain ⟨y, h1, _, _, h4, _⟩ := order_says (G := G) (by omega) 0 (by omega)
        have := h4 rfl
        subst this
        exact hi0 (order_inj hil (by omega) (by rw [hx, h1]))
      obtain ⟨d, hd, hd1, hd2⟩ := nearF_some hxN hxr hx0
      refine ifB_true (decide_eq_true (by omega)) ?_
      refine idx_rdN hr rfl hxN fun p _ hp => ld_oneB hp S.old ?_
      rw [hd]
      refine ifB_false (decide_eq_false (by omega)) ?_
      have hdn := hd1.1.lt
      refine idx_rdN hr rfl hxN fun p _ hp => ld_oneB hp S.old ?_
      rw [hd]
      refine ifB_false (decide_eq_false (by omega)) ?_
      refine idx_rdN hr rfl hxN fun p _ hp => ld_oneB hp S.old ?_
      rw [hd]
      have hdA : d < A.length := by omega
      refine idx_rdN S.swap.rd rfl hdA fun p _ hp => ld_one hp ?_
      have : A[d] = true := by
        rw [hall d hdA]
        obtain ⟨h8, h9⟩ := rk_spec hd1.1
        have hlt := dom_lt R hd1 hd2
        rw [← h9, List.mem_take_iff_getElem]
        exact ⟨_, by omega, rfl⟩
      rw [this]
      exact fin
  · have hil : (orderOf G).length ≤ i := by rw [hol] at hc; simpa using hc
    rw [List.take_of_length_le hil] at hall
    refine loop_intro (fun m (t : Int) h' => ∃ j : Nat, t = j ∧ j ≤ G.length ∧ m = G.length - j ∧ h6 = h') G.length ⟨0, rfl, by omega, by omega, rfl⟩ ?_
    rintro _ _ t _ ⟨j, rfl, hj, rfl, rfl⟩
    refine ifB_intro (fun hc => ?_) (fun hc => ⟨rfl, o1.trans (T3.old.trans S.old)⟩)
    have hjl : j < G.length := by rw [hl] at hc; simpa using hc
    intro k2 hk2
    have fin : k2 false h6 := hk2 _ _ fun _ => ifB_false rfl (ar_i64 (by omega) (by omega) ⟨G.length - (j + 1), by omega, j + 1, rfl, by omega, rfl, rfl⟩)
    have hjA : j < A.length := by omega
    refine idx_rdN S.swap.rd rfl hjA fun p _ hp => ld_one hp ?_
    refine ifB_intro (fun hno => ?_) (fun _ => fin)
    have hjN : j < (nearF G).length := by omega
    refine idx_rdN hr rfl hjN fun p _ hp => ld_oneB hp S.old ?_
    have : ¬ Rch G j := fun h => by
      have := (hall j hjA).2 ((reach_order j).1 h)
      rw [this] at hno; cases hno
    rw [nearF_root hjN (.inl this)]
    exact fin

end Go.Proofs.Ythdidcnpiaeleaa
