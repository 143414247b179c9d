/-
  FlowKeeps and FlowOrder: the walks.
-/
import Derived.Test.YthdidcnpiaeleaaFwRow
import Derived.Test.YthdidcnpiaeleaaFnFlowLaw
import Derived.Test.YthdidcnpiaeleaaPlFlow2
namespace Go.Proofs.Ythdidcnpiaeleaa
open Go.Fw Go.Pl

theorem few_row {G : Graph} {m : Int} (h : fewB G m = true) {i : Nat} (hi : i < G.length) : G[i].length ≤ 20 := by
  unfold fewB at h
  simp only [Bool.and_eq_true, List.all_eq_true] at h
  simpa using h.2 _ (List.getElem_mem hi)

theorem flowKeeps_calls {h : Heap} {g : Sl} {G : Graph} (hg : rdSl eInts h g G) :
    ACalls Try.prog F_lateenlaw09_FlowKeeps [g.v] h (fun v h' => v = .bool true ∧ Old h h') := by
  refine lateenlaw09_FlowKeeps_of ?_
  unfold lateenlaw09_FlowKeeps
  have hl := hg.lenEq
  intro k hk
  refine awake_calls.mono ?_
  rintro v h1 ⟨rfl, o1⟩
  refine ⟨_, rfl, ifB_false rfl ?_⟩
  have g1 := hg.old o1
  refine (few_calls g1 100).mono ?_
  rintro v h2 ⟨rfl, rfl⟩
  refine ⟨_, rfl, hk _ _ fun _ => ?_⟩
  refine ifB_intro (fun _ => awake_end o1) (fun hc => ?_)
  have hfew : fewB G 100 = true := by simpa using hc
  have hn : G.length ≤ 1000 := by have := few_le hfew; omega
  refine loop_intro (fun m t h3 => ∃ j : Nat, t.2 = j ∧ j ≤ G.length ∧ m = G.length - j ∧ Sep h2 h3 [ownSl si_LLint eInts t.1 (G.take j)]) G.length ⟨0, rfl, by omega, by omega, (Sep.start h2).nil rfl⟩ ?_
  rintro m _ ⟨was, i⟩ h3 ⟨j, hj0, hj, rfl, S⟩
  simp only at hj0 S ⊢
  subst hj0
  refine ifB_intro (fun hc => ?_) (fun hc => ?_)
  · have hjl : j < G.length := by rw [hl] at hc; simpa using hc
    refine lit_ints [] S (by kernel_rfl) rfl (by decide) fun s h4 S4 => ?_
    refine idx_rdN g1 rfl hjl fun p _ hp => ld_slB hp S4.old fun x hx => ?_
    have hrow := few_row hfew hjl
    refine app_copy S4 flat_int (hx.old S4.old) (by simp only [si_Lint, List.length_nil]; omega) (by simp only [List.length_nil]; omega) fun s1 h5 S5 => ?_
    refine app1_rule (x := G[j]) (S5.toEl.swap) rfl (by decide) (by simp only [si_LLint, List.length_take]; omega) (by simp only [List.length_take]; omega) fun s3 h7 S7 => ?_
    refine ar_i64 (by omega) (by omega) ⟨G.length - (j + 1), by omega, j + 1, rfl, by omega, rfl, ?_⟩
    rw [List.take_succ_eq_append_getElem hjl]
    exact S7
  · have : G.length = j := by rw [hl] at hc; simp at hc; omega
    rw [List.take_of_length_le (by omega)] at S
    refine (preds_calls (g1.old S.old) hn).mono ?_
    rintro v h4 ⟨r1, rfl, T1⟩
    refine ⟨_, rfl, ?_⟩
    have S1 := S.frame T1
    refine (order_calls (g1.old S1.old) hn).mono ?_
    rintro v h5 ⟨r2, rfl, T2⟩
    refine ⟨_, rfl, ?_⟩
    have S2 := (S1.frame T2).swap
    clear S S1 T1 T2
    -- what is written over
    have hPl : ∀ l : Graph, l.length = G.length → (∀ x ∈ l, x.length ≤ G.length) → True := fun _ _ _ => trivial
    refine loop_intro (fun m t h6 => ∃ (i : Nat) (P : Graph), t = i ∧ i ≤ P.length ∧ P.length = G.length ∧ (∀ x ∈ P, x.length ≤ 1000) ∧ m = P.length - i ∧
      Sep h2 h6 [ownSl si_LLint eInts r1 P, ownSl si_Lint eInt r2 (orderOf G), ownSl si_LLint eInts was G]) G.length
      ⟨0, predsOf G, rfl, by omega, predsOf_len, fun x hx => ?_, by rw [predsOf_len]; omega, S2⟩ ?_
    · obtain ⟨i, hi, rfl⟩ := List.getElem_of_mem hx
      rw [predsOf_len] at hi
      rw [row_eq, predsOf_row hi, List.length_map]
      exact Nat.le_trans (List.length_filter_le _ _) (by simp; omega)
    clear S2
    rintro m _ t h6 ⟨i, P, rfl, hi, hP, hPr, rfl, S⟩
    have hrl := S.rd.lenEq
    refine ifB_intro (fun hc => ?_) (fun hc => ?_)
    · have hil : i < P.length := by rw [hrl] at hc; simpa using hc
      refine loop_intro (fun m t h7 => ∃ (k : Nat) (P' : Graph), t = k ∧ P'.length = P.length ∧ (∀ x ∈ P', x.length ≤ 1000) ∧ m = 1000 - k ∧ k ≤ 1000 ∧
        Sep h2 h7 [ownSl si_LLint eInts r1 P', ownSl si_Lint eInt r2 (orderOf G), ownSl si_LLint eInts was G]) 1000
        ⟨0, P, rfl, rfl, hPr, by omega, by omega, S⟩ ?_
      clear S
      rintro m _ t h7 ⟨k, P', rfl, hP', hPr', rfl, hk1000, S⟩
      have hil' : i < P'.length := by omega
      refine idx_rdN S.rd rfl hil' fun p _ hp => ld_sl hp fun x1 hx1 => ?_
      have hx1l := hx1.lenEq
      have hb := hPr' _ (List.getElem_mem hil')
      refine ifB_intro (fun hc => ?_) (fun hc => ?_)
      · have hkl : k < P'[i].length := by rw [hx1l] at hc; simpa using hc
        refine st_row (x := (-7 : Int)) S hil' hkl rfl (own_int _) fun h8 S8 => ?_
        refine ar_i64 (by omega) (by omega) ⟨1000 - (k + 1), by omega, k + 1, _, rfl, by simpa using hP', ?_, rfl, by omega, S8⟩
        intro x hx
        rcases List.mem_or_eq_of_mem_set hx with hx | rfl
        · exact hPr' x hx
        · simpa using hb
      · refine ar_i64 (by omega) (by omega) ⟨P'.length - (i + 1), by omega, i + 1, P', rfl, by omega, by omega, hPr', rfl, S⟩
    · have S := S.swap
      refine loop_intro (fun m t h6 => ∃ (i : Nat) (R : List Int), t = i ∧ i ≤ R.length ∧ R.length = (orderOf G).length ∧ m = R.length - i ∧
        Sep h2 h6 [ownSl si_Lint eInt r2 R, ownSl si_LLint eInts r1 P, ownSl si_LLint eInts was G]) (orderOf G).length ⟨0, _, rfl, by omega, rfl, by omega, S⟩ ?_
      clear S
      rintro m _ t h7 ⟨k, R, rfl, hk, hR, rfl, S⟩
      have hRl := S.rd.lenEq
      have hRb := S.rd.bound
      refine ifB_intro (fun hc => ?_) (fun hc => ?_)
      · have hkl : k < R.length := by rw [hRl] at hc; simpa using hc
        refine idx_rdN S.rd rfl hkl fun p hat _ => ?_
        refine st_flat S (x := (-7 : Int)) (own_int _) hat rfl hkl fun h8 S8 => ?_
        exact ar_i64 (by omega) (by omega) ⟨R.length - (k + 1), by omega, k + 1, _, rfl, by simp; omega, by simpa using hR, by simp, S8⟩
      · intro kk hkk
        have S := S.rot3
        refine (sameLists_calls (g1.old S.old) S.rd).mono ?_
        rintro v h8 ⟨rfl, rfl⟩
        refine ⟨_, rfl, ifB_true (by simp) ?_⟩
        refine (preds_calls (g1.old S.old) hn).mono ?_
        rintro v h9 ⟨r5, rfl, T5⟩
        refine ⟨_, rfl, ?_⟩
        have S5 := S.frame T5
        refine (refPreds_calls (g1.old S5.old) hn).mono ?_
        rintro v h10 ⟨r6, rfl, T6⟩
        refine ⟨_, rfl, ?_⟩
        have S6 := S5.frame T6
        refine (sameLists_calls S6.swap.rd S6.rd).mono ?_
        rintro v h11 ⟨rfl, rfl⟩
        exact ⟨_, rfl, hkk _ _ fun _ => ⟨by simp, o1.trans S6.old⟩⟩

theorem flowOrder_calls {h : Heap} {g : Sl} {G : Graph} (hg : rdSl eInts h g G) :
    ACalls Try.prog F_lateenlaw09_FlowOrder [g.v] h (fun v h' => v = .bool true ∧ Old h h') := by
  refine lateenlaw09_FlowOrder_of ?_
  unfold lateenlaw09_FlowOrder
  have hl := hg.lenEq
  intro k hk
  refine awake_calls.mono ?_
  rintro v h1 ⟨rfl, o1⟩
  refine ⟨_, rfl, ifB_false rfl ?_⟩
  have g1 := hg.old o1
  refine (few_calls g1 100).mono ?_
  rintro v h2 ⟨rfl, rfl⟩
  refine ⟨_, rfl, ?_⟩
  refine ifB_intro (fun _ => hk _ _ fun _ => ifB_true rfl (awake_end o1)) (fun hc => ?_)
  have hn : G.length ≤ 1000 := by have := few_le (by simpa using hc); omega
  refine hk _ _ fun _ => ?_
  refine ifB_intro (fun _ => awake_end o1) (fun hc => ?_)
  have hG : 0 < G.length := by
    have : (g.len : Int) ≠ 0 := by simpa using hc
    omega
  obtain ⟨_, _, _, _, hclen, hcome, hclose, _⟩ := search_says hG
  have hsay := order_says hG
  refine (order_calls g1 hn).mono ?_
  rintro v h3 ⟨r1, rfl, T1⟩
  refine ⟨_, rfl, ?_⟩
  refine (come_calls (g1.old T1.old) hn).mono ?_
  rintro v h4 ⟨r2, rfl, T2⟩
  refine ⟨_, rfl, rfl, ?_⟩
  have S2 := T1.frame T2
  refine mk_rule (x := false) (E := eBool) S2 rfl (fun h => own_bool false h) (by omega) (by omega) (by simp only [si_Lbool]; omega) fun s h5 S5 => ?_
  rw [hl, Int.toNat_natCast] at S5
  refine loop_intro (fun m t h6 => ∃ (i : Nat) (B : List Bool), t = i ∧ i ≤ (orderOf G).length ∧ m = (orderOf G).length - i ∧ B.length = G.length ∧ (∀ x : Nat, x < G.length → B.getD x false = ((orderOf G).take i).contains (x : Int)) ∧
    Sep h2 h6 [ownSl si_Lbool eBool s B, ownSl si_Lbool eBool r2 (comeOf G), ownSl si_Lint eInt r1 (orderOf G)]) (orderOf G).length
    ⟨0, _, rfl, by omega, by omega, by simp, fun x hx => by simp [List.getD_eq_getElem?_getD, hx], S5⟩ ?_
  clear S5 S2 T1 T2
  rintro m _ t h6 ⟨i, B, rfl, hi, rfl, hB, hBs, S⟩
  have hs := S.rd
  have hr2 := S.swap.rd
  have hr1 := S.rot3.rd
  have hr1l := hr1.lenEq
  have hr1b := hr1.bound
  refine ifB_intro (fun hc => ?_) (fun hc => ?_)
  · have hil : i < (orderOf G).length := by rw [hr1l] at hc; simpa using hc
    obtain ⟨x, hx, hxn, hnew, hfirst, hled⟩ := hsay i hil
    -- what is read, again and again
    have rd : ∀ {K : Int → Prop}, K (x : Int) → idx 1 r1 (i : Int) fun p => ld (.int .i64) h6 p K := fun hK =>
      idx_rdN hr1 rfl hil fun p _ hp => ld_one hp (by rw [hx]; exact hK)
    have hxc : (comeOf G).getD x false = true := by
      rw [hcome, List.contains_eq_mem]
      exact decide_eq_true (hx ▸ List.getElem_mem hil)
    have hxC : x < (comeOf G).length := by omega
    have hxB : x < B.length := by omega
    intro k1 hk1
    have on : k1 false h6 := by
      refine hk1 _ _ fun _ => ifB_false rfl ?_
      intro k2 hk2
      have led : ∀ b : Bool, b = (decide (i = 0) && decide (x = 0)) → k2 b h6 := by
        intro b hb
        refine hk2 _ _ fun _ => ?_
        refine loop_intro (fun m t h7 => ∃ j : Nat, t.2 = j ∧ j ≤ i ∧ m = i - j ∧ h7 = h6 ∧ t.1 = (b || ((orderOf G).take j).any (fun y => leadsB G y.toNat (x : Int)))) i ⟨0, rfl, by omega, by omega, rfl, by simp⟩ ?_
        rintro m _ ⟨led, j⟩ h7 ⟨j, hj0, hj, rfl, rfl, hled0⟩
        simp only at hj0 hled0 ⊢
        subst hj0
        refine ifB_intro (fun hc => ?_) (fun hc => ?_)
        · have hji : j < i := by have := of_decide_eq_true hc; omega
          have hjl : j < (orderOf G).length := by omega
          obtain ⟨y, hy, hyn, _⟩ := hsay j hjl
          have hany : ((orderOf G).take (j + 1)).any (fun y => leadsB G y.toNat (x : Int)) = (((orderOf G).take j).any (fun y => leadsB G y.toNat (x : Int)) || leadsB G y (x : Int)) := by
            rw [List.take_succ_eq_append_getElem hjl, List.any_append, hy]
            simp
          intro k4 hk4
          have next : ∀ b' h8, h8 = h7 → b' = (b || ((orderOf G).take (j + 1)).any (fun y => leadsB G y.toNat (x : Int))) → k4 b' h8 := by
            rintro b' _ rfl hb'
            exact hk4 _ _ fun _ => ar_i64 (by omega) (by omega) ⟨i - (j + 1), by omega, j + 1, rfl, by omega, rfl, rfl, hb'⟩
          refine ifB_intro (fun hc2 => next _ _ rfl ?_) (fun hc2 => ?_)
          · rw [hany, ← Bool.or_assoc, ← hled0, hc2]; rfl
          · refine idx_rdN hr1 rfl hjl fun p _ hp => ld_one hp ?_
            refine rd ?_
            rw [hy]
            refine (leads_calls (g1.old S.old) (a := (y : Int)) (b := (x : Int)) (by omega) (by omega)).mono ?_
            rintro v h8 ⟨rfl, rfl⟩
            refine ⟨_, rfl, next _ _ rfl ?_⟩
            rw [hany, ← Bool.or_assoc, ← hled0, hc2]
            simp
        · have hji : j = i := by have := of_decide_eq_false hc; omega
          subst hji
          have ht : led = true := by
            rw [hled0]
            by_cases h0 : j = 0
            · rw [hb]; simp [h0, hfirst h0]
            · rw [hled (by omega)]; simp
          refine ifB_false (by rw [ht]; rfl) ?_
          refine rd ?_
          refine idx_rdN hs rfl hxB fun p hat _ => ?_
          refine st_flat S (x := true) (own_bool true) hat rfl hxB fun h8 S8 => ?_
          refine ar_i64 (by omega) (by omega) ⟨(orderOf G).length - (j + 1), by omega, j + 1, _, rfl, by omega, rfl, by simpa using hB, fun z hz => ?_, S8⟩
          rw [List.take_succ_eq_append_getElem hil, hx]
          rw [getD_set hxB, hBs z hz]
          by_cases hxz : x = z
          · subst hxz; simp [List.contains_eq_mem]
          · have : ¬ (z : Int) = (x : Int) := by omega
            simp [hxz, List.contains_eq_mem, this]
      refine ifB_intro (fun hc => ?_) (fun hc => ?_)
      · have h0 : i = 0 := by have : (i : Int) = 0 := by simpa using hc
                              omega
        refine rd (led _ ?_)
        have := hfirst h0
        simp [h0, this]
      · have h0 : ¬ i = 0 := fun e => by subst e; simp at hc
        exact led _ (by simp [h0])
    refine rd ?_
    refine ifB_false (decide_eq_false (by omega)) ?_
    refine rd ?_
    refine ifB_false (decide_eq_false (by omega)) ?_
    refine rd ?_
    refine idx_rdN hs rfl hxB fun p _ hp => ld_one hp ?_
    refine ifB_false (by rw [← getD_lt (d := false) hxB, hBs x hxn]; exact hnew) ?_
    refine rd ?_
    refine idx_rdN hr2 rfl hxC fun p _ hp => ld_one hp ?_
    rw [show (!(comeOf G)[x]) = false by rw [← getD_lt (d := false) hxC, hxc]; rfl]
    exact on
  · have hie : i = (orderOf G).length := by rw [hr1l] at hc; simp at hc; omega
    subst hie
    rw [List.take_length] at hBs
    refine loop_intro (fun m t h7 => ∃ i : Nat, t = i ∧ i ≤ G.length ∧ m = G.length - i ∧ h7 = h6) G.length ⟨0, rfl, by omega, by omega, rfl⟩ ?_
    rintro m _ t h7 ⟨i, rfl, hi2, rfl, rfl⟩
    refine ifB_intro (fun hc => ?_) (fun hc => ⟨rfl, o1.trans S.old⟩)
    have hin : i < G.length := by rw [hl] at hc; simpa using hc
    have hiC : i < (comeOf G).length := by omega
    have hiB : i < B.length := by omega
    refine idx_rdN hr2 rfl hiC fun p _ hp => ld_one hp ?_
    refine idx_rdN hs rfl hiB fun p _ hp2 => ld_one hp2 ?_
    refine ifB_false ?_ ?_
    · rw [← getD_lt (d := false) hiC, ← getD_lt (d := false) hiB, hBs i hin, hcome]; simp
    · refine loop_intro (fun m t h8 => ∃ k : Nat, t = k ∧ k ≤ G.length ∧ m = G.length - k ∧ h8 = h7) G.length ⟨0, rfl, by omega, by omega, rfl⟩ ?_
      rintro m _ t h8 ⟨k, rfl, hk2, rfl, rfl⟩
      intro k6 hk6
      have nxt : k6 false h8 := hk6 _ _ fun _ => ifB_false rfl (ar_i64 (by omega) (by omega) ⟨G.length - (i + 1), by omega, i + 1, rfl, by omega, rfl, rfl⟩)
      refine ifB_intro (fun hc => ?_) (fun _ => nxt)
      have hkn : k < G.length := by rw [hl] at hc; simpa using hc
      refine idx_rdN hr2 rfl hiC fun p _ hp3 => ld_one hp3 ?_
      cases hci : (comeOf G)[i] with
      | false => exact nxt
      | true =>
        refine hk6 _ _ fun _ => ifB_true rfl ?_
        intro k7 hk7
        have fin : k7 false h8 := hk7 _ _ fun _ => ifB_false rfl (ar_i64 (by omega) (by omega) ⟨G.length - (k + 1), by omega, k + 1, rfl, by omega, rfl, rfl⟩)
        refine (leads_calls (g1.old S.old) (a := (i : Int)) (b := (k : Int)) (by omega) (by omega)).mono ?_
        rintro v h9 ⟨rfl, rfl⟩
        refine ⟨_, rfl, ?_⟩
        refine ifB_intro (fun hc => ?_) (fun _ => fin)
        have hkC : k < (comeOf G).length := by omega
        refine idx_rdN hr2 rfl hkC fun p _ hp4 => ld_one hp4 ?_
        have := hclose i k (by rw [getD_lt hiC]; exact hci) hkn (by simpa using hc)
        rw [getD_lt hkC] at this
        rw [this]
        exact fin

end Go.Proofs.Ythdidcnpiaeleaa
