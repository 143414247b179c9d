/-
  FlowKeeps and FlowOrder: the walks.
-/
import Derived.Test.YthdidcnpiaeleaaFwRow
import Derived.Test.YthdidcnpiaeleaaFnFlowLaw
namespace Go.Proofs.Ythdidcnpiaeleaa
open Go.Fw Go.Pl

theorem few_row {G : Graph} {m : Int} (h : fewB G m = true) {i : Nat} (hi : i < G.length) : G[i].length ≤ 20 := by
  unfold fewB at h
  simp only [Bool.and_eq_true, List.all_eq_true] at h
  simpa using h.2 _ (List.getElem_mem hi)

theorem flowKeeps_calls {h : Heap} {g : Sl} {G : Graph} (hg : rdSl eInts h g G) :
    ACalls Try.prog F_lateenlaw09_FlowKeeps [g.v] h (fun v h' => v = .bool true ∧ Old h h') := by
  refine lateenlaw09_FlowKeeps_of ?_
  unfold lateenlaw09_FlowKeeps
  have hl := hg.lenEq
  intro k hk
  refine awake_calls.mono ?_
  rintro v h1 ⟨rfl, o1⟩
  refine ⟨_, rfl, ifB_false rfl ?_⟩
  have g1 := hg.old o1
  refine (few_calls g1 100).mono ?_
  rintro v h2 ⟨rfl, rfl⟩
  refine ⟨_, rfl, hk _ _ fun _ => ?_⟩
  refine ifB_intro (fun _ => awake_end o1) (fun hc => ?_)
  have hfew : fewB G 100 = true := by simpa using hc
  have hn : G.length ≤ 1000 := by have := few_le hfew; omega
  refine loop_intro (fun m t h3 => ∃ j : Nat, t.2 = j ∧ j ≤ G.length ∧ m = G.length - j ∧ Sep h2 h3 [ownSl si_LLint eInts t.1 (G.take j)]) G.length ⟨0, rfl, by omega, by omega, (Sep.start h2).nil rfl⟩ ?_
  rintro m _ ⟨was, i⟩ h3 ⟨j, hj0, hj, rfl, S⟩
  simp only at hj0 S ⊢
  subst hj0
  refine ifB_intro (fun hc => ?_) (fun hc => ?_)
  · have hjl : j < G.length := by rw [hl] at hc; simpa using hc
    refine lit_ints [] S (by kernel_rfl) rfl (by decide) fun s h4 S4 => ?_
    refine idx_rdN g1 rfl hjl fun p _ hp => ld_slB hp S4.old fun x hx => ?_
    have hrow := few_row hfew hjl
    refine app_copy S4 flat_int (hx.old S4.old) (by simp only [si_Lint, List.length_nil]; omega) (by simp only [List.length_nil]; omega) fun s1 h5 S5 => ?_
    refine app1_rule (x := G[j]) (S5.toEl.swap) rfl (by decide) (by simp only [si_LLint, List.length_take]; omega) (by simp only [List.length_take]; omega) fun s3 h7 S7 => ?_
    refine ar_i64 (by omega) (by omega) ⟨G.length - (j + 1), by omega, j + 1, rfl, by omega, rfl, ?_⟩
    rw [List.take_succ_eq_append_getElem hjl]
    exact S7
  · have : G.length = j := by rw [hl] at hc; simp at hc; omega
    rw [List.take_of_length_le (by omega)] at S
    refine (preds_calls (g1.old S.old) hn).mono ?_
    rintro v h4 ⟨r1, rfl, T1⟩
    refine ⟨_, rfl, ?_⟩
    have S1 := S.frame T1
    refine (order_calls (g1.old S1.old) hn).mono ?_
    rintro v h5 ⟨r2, rfl, T2⟩
    refine ⟨_, rfl, ?_⟩
    have S2 := (S1.frame T2).swap
    clear S S1 T1 T2
    -- what is written over
    have hPl : ∀ l : Graph, l.length = G.length → (∀ x ∈ l, x.length ≤ G.length) → True := fun _ _ _ => trivial
    refine loop_intro (fun m t h6 => ∃ (i : Nat) (P : Graph), t = i ∧ i ≤ P.length ∧ P.length = G.length ∧ (∀ x ∈ P, x.length ≤ 1000) ∧ m = P.length - i ∧
      Sep h2 h6 [ownSl si_LLint eInts r1 P, ownSl si_Lint eInt r2 (orderOf G), ownSl si_LLint eInts was G]) G.length
      ⟨0, predsOf G, rfl, by omega, predsOf_len, fun x hx => ?_, by rw [predsOf_len]; omega, S2⟩ ?_
    · obtain ⟨i, hi, rfl⟩ := List.getElem_of_mem hx
      rw [predsOf_len] at hi
      rw [row_eq, predsOf_row hi, List.length_map]
      exact Nat.le_trans (List.length_filter_le _ _) (by simp; omega)
    clear S2
    rintro m _ t h6 ⟨i, P, rfl, hi, hP, hPr, rfl, S⟩
    have hrl := S.rd.lenEq
    refine ifB_intro (fun hc => ?_) (fun hc => ?_)
    · have hil : i < P.length := by rw [hrl] at hc; simpa using hc
      refine loop_intro (fun m t h7 => ∃ (k : Nat) (P' : Graph), t = k ∧ P'.length = P.length ∧ (∀ x ∈ P', x.length ≤ 1000) ∧ m = 1000 - k ∧ k ≤ 1000 ∧
        Sep h2 h7 [ownSl si_LLint eInts r1 P', ownSl si_Lint eInt r2 (orderOf G), ownSl si_LLint eInts was G]) 1000
        ⟨0, P, rfl, rfl, hPr, by omega, by omega, S⟩ ?_
      clear S
      rintro m _ t h7 ⟨k, P', rfl, hP', hPr', rfl, hk1000, S⟩
      have hil' : i < P'.length := by omega
      refine idx_rdN S.rd rfl hil' fun p _ hp => ld_sl hp fun x1 hx1 => ?_
      have hx1l := hx1.lenEq
      have hb := hPr' _ (List.getElem_mem hil')
      refine ifB_intro (fun hc => ?_) (fun hc => ?_)
      · have hkl : k < P'[i].length := by rw [hx1l] at hc; simpa using hc
        refine st_row (x := (-7 : Int)) S hil' hkl rfl (own_int _) fun h8 S8 => ?_
        refine ar_i64 (by omega) (by omega) ⟨1000 - (k + 1), by omega, k + 1, _, rfl, by simpa using hP', ?_, rfl, by omega, S8⟩
        intro x hx
        rcases List.mem_or_eq_of_mem_set hx with hx | rfl
        · exact hPr' x hx
        · simpa using hb
      · refine ar_i64 (by omega) (by omega) ⟨P'.length - (i + 1), by omega, i + 1, P', rfl, by omega, by omega, hPr', rfl, S⟩
    · have S := S.swap
      refine loop_intro (fun m t h6 => ∃ (i : Nat) (R : List Int), t = i ∧ i ≤ R.length ∧ R.length = (orderOf G).length ∧ m = R.length - i ∧
        Sep h2 h6 [ownSl si_Lint eInt r2 R, ownSl si_LLint eInts r1 P, ownSl si_LLint eInts was G]) (orderOf G).length ⟨0, _, rfl, by omega, rfl, by omega, S⟩ ?_
      clear S
      rintro m _ t h7 ⟨k, R, rfl, hk, hR, rfl, S⟩
      have hRl := S.rd.lenEq
      have hRb := S.rd.bound
      refine ifB_intro (fun hc => ?_) (fun hc => ?_)
      · have hkl : k < R.length := by rw [hRl] at hc; simpa using hc
        refine idx_rdN S.rd rfl hkl fun p hat _ => ?_
        refine st_flat S (x := (-7 : Int)) (own_int _) hat rfl hkl fun h8 S8 => ?_
        exact ar_i64 (by omega) (by omega) ⟨R.length - (k + 1), by omega, k + 1, _, rfl, by simp; omega, by simpa using hR, by simp, S8⟩
      · intro kk hkk
        have S := S.rot3
        refine (sameLists_calls (g1.old S.old) S.rd).mono ?_
        rintro v h8 ⟨rfl, rfl⟩
        refine ⟨_, rfl, ifB_true (by simp) ?_⟩
        refine (preds_calls (g1.old S.old) hn).mono ?_
        rintro v h9 ⟨r5, rfl, T5⟩
        refine ⟨_, rfl, ?_⟩
        have S5 := S.frame T5
        refine (refPreds_calls (g1.old S5.old) hn).mono ?_
        rintro v h10 ⟨r6, rfl, T6⟩
        refine ⟨_, rfl, ?_⟩
        have S6 := S5.frame T6
        refine (sameLists_calls S6.swap.rd S6.rd).mono ?_
        rintro v h11 ⟨rfl, rfl⟩
        exact ⟨_, rfl, hkk _ _ fun _ => ⟨by simp, o1.trans S6.old⟩⟩

end Go.Proofs.Ythdidcnpiaeleaa
