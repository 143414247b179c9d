/-
  What the functions of layer 9 and their references do.
-/
import Derived.Test.YtniflhbfnkadhaaFwRules
import Derived.Test.YtniflhbfnkadhaaGen
import Derived.Test.YtniflhbfnkadhaaPlFlow
namespace Go.Proofs.Ytniflhbfnkadhaa
open Go.Fw Go.Pl

abbrev eInts : Elem (List Int) := Elem.sl si_Lint eInt
abbrev eStep : Elem (Int × Int) := Elem.prod eInt eInt

theorem flat_int : eInt.Flat := Elem.cell_flat _ _
theorem flat_bool : eBool.Flat := Elem.cell_flat _ _
theorem row_eq {G : Graph} {a : Nat} (h : a < G.length) : G[a] = G.getD a [] := by simp [h]

theorem leads_calls {h : Heap} {g : Sl} {G : Graph} (hg : rdSl eInts h g G) {a b : Int} (ha : 0 ≤ a) (ha2 : a < G.length) :
    ACalls Try.prog F_lateenref09_Leads [g.v, .int .i64 a, .int .i64 b] h (fun v h' => v = .bool (leadsB G a.toNat b) ∧ h' = h) := by
  refine lateenref09_Leads_of ?_
  have hrow : G[a.toNat]'(by omega) = G.getD a.toNat [] := row_eq _
  unfold leadsB
  generalize G.getD a.toNat [] = row at *
  unfold lateenref09_Leads
  refine loop_intro (fun m i h1 => ∃ k : Nat, i = k ∧ h1 = h ∧ k ≤ row.length ∧ m = row.length - k ∧ b ∉ row.take k) row.length ⟨0, rfl, rfl, by omega, by omega, by simp⟩ ?_
  rintro m _ i h1 ⟨k, rfl, rfl, hk, rfl, hno⟩
  refine idx_rd hg rfl ha ha2 fun p _ hp => ld_sl hp fun x hx => ?_
  rw [hrow] at hx
  have hxl := hx.lenEq
  have hxb := hx.bound
  refine ifB_intro (fun hc => ?_) (fun hc => ?_)
  · have hlt : k < row.length := by simpa [hxl] using hc
    refine idx_rd hg rfl ha ha2 fun p _ hp => ld_sl hp fun x hx => ?_
    rw [hrow] at hx
    refine idx_rdN hx rfl hlt fun p _ hp => ld_one hp ?_
    refine ifB_intro (fun hc => ⟨?_, rfl⟩) (fun hc => ar_i64 (by omega) (by omega) ⟨row.length - (k + 1), by omega, k + 1, by omega, rfl, by omega, rfl, ?_⟩)
    · have : row[k] = b := by simpa using hc
      rw [← this]
      simp
    · have : row[k] ≠ b := by simpa using hc
      rw [List.take_succ_eq_append_getElem hlt, List.mem_append, List.mem_singleton]
      rintro (h | h)
      · exact hno h
      · exact this h.symm
  · have : row.length ≤ k := by simpa [hxl] using hc
    rw [List.take_of_length_le this] at hno
    exact ⟨by simp [hno], rfl⟩

theorem few_calls {h : Heap} {g : Sl} {G : Graph} (hg : rdSl eInts h g G) (most : Int) :
    ACalls Try.prog F_lateenref09_Few [g.v, .int .i64 most] h (fun v h' => v = .bool (fewB G most) ∧ h' = h) := by
  refine lateenref09_Few_of ?_
  have hl := hg.lenEq
  have hb := hg.bound
  unfold lateenref09_Few
  refine ifB_intro (fun hc => ⟨?_, rfl⟩) (fun hc => ?_)
  · have : most < G.length := by simpa [hl] using hc
    unfold fewB
    rw [decide_eq_false (by omega)]
    rfl
  · have hle : (G.length : Int) ≤ most := by simp [hl] at hc; omega
    refine loop_intro (fun m i h1 => ∃ k : Nat, i = k ∧ h1 = h ∧ k ≤ G.length ∧ m = G.length - k ∧ ∀ j (hj : j < G.length), j < k → G[j].length ≤ 20) G.length ⟨0, rfl, rfl, by omega, by omega, fun _ _ h => by omega⟩ ?_
    rintro m _ i h1 ⟨k, rfl, rfl, hk, rfl, hno⟩
    refine ifB_intro (fun hc => ?_) (fun hc => ⟨?_, rfl⟩)
    · have hlt : k < G.length := by simpa [hl] using hc
      refine idx_rdN hg rfl hlt fun p _ hp => ld_sl hp fun x hx => ?_
      have hxl := hx.lenEq
      refine ifB_intro (fun hc => ⟨?_, rfl⟩) (fun hc => ar_i64 (by omega) (by omega) ⟨G.length - (k + 1), by omega, k + 1, by omega, rfl, by omega, rfl, fun j hj hjk => ?_⟩)
      · have hc' : 20 < G[k].length := by simp [hxl] at hc; omega
        unfold fewB
        have : (G.all fun r => decide (r.length ≤ 20)) = false := by
          rw [List.all_eq_false]
          exact ⟨G[k], List.getElem_mem _, by simpa using hc'⟩
        rw [this, Bool.and_false]
      · have hc' : G[k].length ≤ 20 := by simp [hxl] at hc; omega
        rcases Nat.lt_or_ge j k with h | h
        · exact hno j hj h
        · have : j = k := by omega
          subst this; exact hc'
    · have : G.length ≤ k := by simpa [hl] using hc
      unfold fewB
      rw [decide_eq_true hle, Bool.true_and]
      congr 1
      symm
      rw [List.all_eq_true]
      intro r hr
      obtain ⟨j, hj, rfl⟩ := List.getElem_of_mem hr
      simpa using hno j hj (by omega)

theorem same_calls {h : Heap} {a b : Sl} {A B : List Int} (ha : rdSl eInt h a A) (hb : rdSl eInt h b B) :
    ACalls Try.prog F_lateenref09_Same [a.v, b.v] h (fun v h' => v = .bool (A == B) ∧ h' = h) := by
  refine lateenref09_Same_of ?_
  have hla := ha.lenEq
  have hlb := hb.lenEq
  have hba := ha.bound
  unfold lateenref09_Same
  refine ifB_intro (fun hc => ⟨?_, rfl⟩) (fun hc => ?_)
  · have hne : A.length ≠ B.length := by intro e; simp [hla, hlb, e] at hc
    have : A ≠ B := fun e => hne (by rw [e])
    rw [beq_eq_false_iff_ne.2 this]
  · have hle : A.length = B.length := by simp [hla, hlb] at hc; omega
    refine loop_intro (fun m i h1 => ∃ k : Nat, i = k ∧ h1 = h ∧ k ≤ A.length ∧ m = A.length - k ∧ A.take k = B.take k) A.length ⟨0, rfl, rfl, by omega, by omega, rfl⟩ ?_
    rintro m _ i h1 ⟨k, rfl, rfl, hk, rfl, hno⟩
    refine ifB_intro (fun hc => ?_) (fun hc => ⟨?_, rfl⟩)
    · have hlt : k < A.length := by simpa [hla] using hc
      refine idx_rdN ha rfl hlt fun p _ hp => ld_one hp <| idx_rdN hb rfl (show k < B.length by omega) fun p _ hp => ld_one hp ?_
      refine ifB_intro (fun hc => ⟨?_, rfl⟩) (fun hc => ar_i64 (by omega) (by omega) ⟨A.length - (k + 1), by omega, k + 1, by omega, rfl, by omega, rfl, ?_⟩)
      · have hne : A[k] ≠ B[k] := by simpa using hc
        have : A ≠ B := fun e => hne (by simp only [e])
        rw [beq_eq_false_iff_ne.2 this]
      · have he : A[k] = B[k] := by simpa using hc
        rw [List.take_succ_eq_append_getElem hlt, List.take_succ_eq_append_getElem (show k < B.length by omega), hno, he]
    · have : A.length ≤ k := by simpa [hla] using hc
      rw [List.take_of_length_le this, List.take_of_length_le (by omega)] at hno
      rw [hno]; simp

theorem sameLists_calls {h : Heap} {a b : Sl} {A B : Graph} (ha : rdSl eInts h a A) (hb : rdSl eInts h b B) :
    ACalls Try.prog F_lateenref09_SameLists [a.v, b.v] h (fun v h' => v = .bool (A == B) ∧ h' = h) := by
  refine lateenref09_SameLists_of ?_
  have hla := ha.lenEq
  have hlb := hb.lenEq
  have hba := ha.bound
  unfold lateenref09_SameLists
  refine ifB_intro (fun hc => ⟨?_, rfl⟩) (fun hc => ?_)
  · have hne : A.length ≠ B.length := by intro e; simp [hla, hlb, e] at hc
    have : A ≠ B := fun e => hne (by rw [e])
    rw [beq_eq_false_iff_ne.2 this]
  · have hle : A.length = B.length := by simp [hla, hlb] at hc; omega
    refine loop_intro (fun m i h1 => ∃ k : Nat, i = k ∧ h1 = h ∧ k ≤ A.length ∧ m = A.length - k ∧ A.take k = B.take k) A.length ⟨0, rfl, rfl, by omega, by omega, rfl⟩ ?_
    rintro m _ i h1 ⟨k, rfl, rfl, hk, rfl, hno⟩
    refine ifB_intro (fun hc => ?_) (fun hc => ⟨?_, rfl⟩)
    · have hlt : k < A.length := by simpa [hla] using hc
      refine idx_rdN ha rfl hlt fun p _ hp => ld_sl hp fun x hx => idx_rdN hb rfl (show k < B.length by omega) fun p _ hp => ld_sl hp fun y hy => ?_
      refine (same_calls hx hy).mono ?_
      rintro v h' ⟨rfl, rfl⟩
      refine ⟨_, rfl, ?_⟩
      refine ifB_intro (fun hc => ⟨?_, rfl⟩) (fun hc => ar_i64 (by omega) (by omega) ⟨A.length - (k + 1), by omega, k + 1, by omega, rfl, by omega, rfl, ?_⟩)
      · have hne : A[k] ≠ B[k] := by simpa using hc
        have : A ≠ B := fun e => hne (by simp only [e])
        rw [beq_eq_false_iff_ne.2 this]
      · have he : A[k] = B[k] := by simpa using hc
        rw [List.take_succ_eq_append_getElem hlt, List.take_succ_eq_append_getElem (show k < B.length by omega), hno, he]
    · have : A.length ≤ k := by simpa [hla] using hc
      rw [List.take_of_length_le this, List.take_of_length_le (by omega)] at hno
      rw [hno]; simp

theorem index_calls {h : Heap} {s : Sl} {A : List Int} (ha : rdSl eInt h s A) (x : Int) :
    ACalls Try.prog F_slices_Index [s.v, .int .i64 x] h (fun v h' => v = .int .i64 (if x ∈ A then (A.idxOf x : Int) else -1) ∧ h' = h) := by
  refine slices_Index_of ?_
  have hl := ha.lenEq
  have hb := ha.bound
  unfold slices_Index
  refine loop_intro (fun m i h1 => ∃ k : Nat, i = k ∧ h1 = h ∧ k ≤ A.length ∧ m = A.length - k ∧ x ∉ A.take k) A.length ⟨0, rfl, rfl, by omega, by omega, by simp⟩ ?_
  rintro m _ i h1 ⟨k, rfl, rfl, hk, rfl, hno⟩
  refine ifB_intro (fun hc => ?_) (fun hc => ⟨?_, rfl⟩)
  · have hlt : k < A.length := by simpa [hl] using hc
    refine idx_rdN ha rfl hlt fun p _ hp => ld_one hp ?_
    refine ifB_intro (fun hc => ⟨?_, rfl⟩) (fun hc => ar_i64 (by omega) (by omega) ⟨A.length - (k + 1), by omega, k + 1, by omega, rfl, by omega, rfl, ?_⟩)
    · have he : x = A[k] := by simpa using hc
      have hmem : x ∈ A := by rw [he]; exact List.getElem_mem _
      rw [if_pos hmem]
      congr 2
      have h1 : A = A.take k ++ A[k] :: A.drop (k + 1) := by simp
      rw [h1, List.idxOf_append, if_neg hno, ← he]
      simp
      omega
    · have hne : x ≠ A[k] := by simpa using hc
      rw [List.take_succ_eq_append_getElem hlt, List.mem_append, List.mem_singleton]
      rintro (h | h)
      · exact hno h
      · exact hne h
  · have : A.length ≤ k := by simpa [hl] using hc
    rw [List.take_of_length_le this] at hno
    rw [if_neg hno]

theorem contains_calls {h : Heap} {s : Sl} {A : List Int} (ha : rdSl eInt h s A) (x : Int) :
    ACalls Try.prog F_slices_Contains [s.v, .int .i64 x] h (fun v h' => v = .bool (A.contains x) ∧ h' = h) := by
  refine slices_Contains_of ?_
  unfold slices_Contains
  refine (index_calls ha x).mono ?_
  rintro v h' ⟨rfl, rfl⟩
  refine ⟨_, rfl, ?_, rfl⟩
  by_cases hm : x ∈ A
  · rw [if_pos hm]; simp [hm]
  · rw [if_neg hm]; simp [hm]


theorem preds_calls {h : Heap} {g : Sl} {G : Graph} (hg : rdSl eInts h g G) (hn : G.length ≤ 1000) :
    ACalls Try.prog F_flow_Preds [g.v] h (fun v h' => ∃ s : Sl, v = s.v ∧ Sep h h' [ownSl si_LLint eInts s (predsOf G)]) := by
  refine flow_Preds_of ?_
  have hl := hg.lenEq
  unfold flow_Preds
  refine ⟨rfl, mk_rule (x := []) (E := eInts) (Sep.start h) rfl (fun _ => ⟨⟨none, 0, 0⟩, rfl, ownSl_nil _ _ rfl _⟩) (by omega) (by omega) (by simp only [si_LLint]; omega) fun s h' S => ?_⟩
  refine loop_intro (fun m t h1 => ∃ k : Nat, t = k ∧ k ≤ G.length ∧ m = G.length - k ∧ Sep h h1 [ownSl si_LLint eInts s (rowsP G k 0)]) G.length
    ⟨0, rfl, by omega, by omega, S.cast (by rw [rowsP_start, hl]; simp)⟩ ?_
  clear S
  rintro m _ t h1 ⟨k, rfl, hk, rfl, S⟩
  refine ifB_intro (fun hc => ?_) (fun hc => ⟨_, rfl, ?_⟩)
  · have hlt : k < G.length := by simpa [hl] using hc
    refine idx_rdN hg rfl hlt fun p _ hp => ld_slB hp S.old fun x hx => ?_
    rw [row_eq] at hx
    have hxl := hx.lenEq
    have hxb := hx.bound
    refine loop_intro (fun m t h2 => ∃ j : Nat, t = j ∧ j ≤ (G.getD k []).length ∧ m = (G.getD k []).length - j ∧ Sep h h2 [ownSl si_LLint eInts s (rowsP G k j)]) (G.getD k []).length
      ⟨0, rfl, by omega, by omega, S⟩ ?_
    clear S
    rintro m _ t h2 ⟨j, rfl, hj, rfl, S⟩
    refine ifB_intro (fun hc => ?_) (fun hc => ?_)
    · have hjl : j < (G.getD k []).length := by simpa [hxl] using hc
      intro k1 hk1
      refine idx_rdN hx rfl hjl fun p _ hp => ld_oneB hp S.old ?_
      -- what stands behind the test
      have fin : ∀ h3, Sep h h3 [ownSl si_LLint eInts s (rowsP G k (j + 1))] → k1 () h3 := fun h3 S3 =>
        hk1 _ _ fun _ => ar_i64 (by omega) (by omega) ⟨(G.getD k []).length - (j + 1), by omega, j + 1, rfl, by omega, rfl, S3⟩
      intro k2 hk2
      have no : (∀ i : Nat, i < G.length → (G.getD k [])[j] = i → ((G.getD k []).take j).contains (i : Int) = true) → k2 false h2 := fun hno =>
        hk2 _ _ fun _ => fin h2 (by rw [rowsP_skip hjl hno]; exact S)
      refine ifB_intro (fun hc => ?_) (fun hc => no fun i hi e => ?_)
      · refine ifB_intro (fun hc2 => ?_) (fun hc2 => no fun i hi e => ?_)
        · obtain ⟨i, hi⟩ := Int.eq_ofNat_of_zero_le (a := (G.getD k [])[j]) (by simpa using hc)
          have hin : i < G.length := by rw [hi, hl] at hc2; simpa using hc2
          have hin' : i < (rowsP G k j).length := by rw [rowsP_len]; exact hin
          rw [hi]
          refine idx_rdN S.rd rfl hin' fun p _ hp => ld_sl hp fun y hy => ?_
          refine (contains_calls hy k).mono ?_
          rintro v h' ⟨rfl, rfl⟩
          refine ⟨_, rfl, ?_⟩
          rw [rowsP_has hin']
          cases hcon : ((G.getD k []).take j).contains (i : Int) with
          | true =>
            refine no fun i' hi' e => ?_
            have : i' = i := by rw [hi] at e; omega
            subst this
            exact hcon
          | false =>
            refine hk2 _ _ fun _ => ?_
            simp only [Bool.not_false, ifB]
            rw [hi]
            have hrl : (rowsP G k j)[i].length ≤ k + 1 := by
              rw [rowsP_get, List.length_append]
              have := pre_len G k i
              split <;> simp <;> omega
            refine app_row (v := .int .i64 k) (x := (k : Int)) S hin' (fun _ => ⟨rfl, rfl⟩) rfl (by decide) (by simp only [si_Lint]; omega) (by omega) fun h3 S3 => ?_
            exact fin h3 (S3.cast (by rw [rowsP_put hjl hin hi hcon]))
        · have := of_decide_eq_false hc2; omega
      · have := of_decide_eq_false hc; omega
    · have : (G.getD k []).length ≤ j := by simpa [hxl] using hc
      refine ar_i64 (by omega) (by omega) ⟨G.length - (k + 1), by omega, k + 1, rfl, by omega, rfl, S.cast ?_⟩
      rw [rowsP_next this]
  · have : k = G.length := by simp [hl] at hc; omega
    subst this
    rw [rowsP_end] at S
    exact S


theorem reverse_calls {h0 h : Heap} {L : List As} {s : Sl} {l : List Int} (S : Sep h0 h (ownSl si_Lint eInt s l :: L)) :
    ACalls Try.prog F_slices_Reverse [s.v] h (fun v h' => v = .tuple #[] ∧ Sep h0 h' (ownSl si_Lint eInt s l.reverse :: L)) := by
  refine slices_Reverse_of ?_
  have hl := S.rd.lenEq
  have hb := S.rd.bound
  unfold slices_Reverse
  refine ar_i64 (by omega) (by omega) ?_
  refine loop_intro (fun m t h1 => ∃ k : Nat, t.1 = k ∧ t.2 = (l.length : Int) - 1 - k ∧ k ≤ l.length ∧ m = l.length - k ∧ Sep h0 h1 (ownSl si_Lint eInt s (revK l k) :: L)) l.length
    ⟨0, rfl, by show (s.len : Int) - 1 = _; omega, by omega, by omega, by rw [revK_zero]; exact S⟩ ?_
  clear S
  rintro m _ ⟨i, j⟩ h1 ⟨k, hi, hj, hk, rfl, S⟩
  simp only at hi hj ⊢
  subst hi
  have hrl := revK_len l k
  refine ifB_intro (fun hc => ?_) (fun hc => ⟨trivial, ?_⟩)
  · have hlt : k < l.length - 1 - k := by have := of_decide_eq_true hc; omega
    have hj2 : j = ((l.length - 1 - k : Nat) : Int) := by omega
    subst hj2
    refine idx_rdN S.rd rfl (show l.length - 1 - k < (revK l k).length by omega) fun p _ hp => ld_one hp <| idx_rdN S.rd rfl (show k < (revK l k).length by omega) fun p _ hp => ld_one hp ?_
    rw [revK_get, revK_get, if_neg (by omega), if_neg (by omega)]
    refine idx_rdN S.rd rfl (show k < (revK l k).length by omega) fun p hat _ => ?_
    refine st_flat S (own_int (l.getD (l.length - 1 - k) 0)) hat rfl (by omega) fun h2 S2 => ?_
    refine idx_rdN S2.rd rfl (show l.length - 1 - k < ((revK l k).set k (l.getD (l.length - 1 - k) 0)).length by simp; omega) fun p hat _ => ?_
    refine st_flat S2 (own_int (l.getD k 0)) hat rfl (by rw [List.length_set]; omega) fun h3 S3 => ?_
    refine ar_i64 (by omega) (by omega) <| ar_i64 (by omega) (by omega) ⟨l.length - (k + 1), by omega, k + 1, rfl, by show (((l.length - 1 - k : Nat) : Int) - 1) = _; omega, by omega, rfl, ?_⟩
    rw [revK_succ hlt]
    exact S3
  · have : l.length ≤ 2 * k + 1 := by have := of_decide_eq_false hc; omega
    rw [revK_end this] at S
    exact S

/-- The stack's cells. -/
def stk (st : List (Nat × Nat)) : List (Int × Int) := st.reverse.map fun x => ((x.1 : Int), (x.2 : Int))
theorem stk_len (st : List (Nat × Nat)) : (stk st).length = st.length := by simp [stk]
theorem stk_cons (a i : Nat) (r : List (Nat × Nat)) : stk ((a, i) :: r) = stk r ++ [((a : Int), (i : Int))] := by simp [stk]
theorem own_step (a i : Int) (h : Heap) : eStep.own [.int .i64 a, .int .i64 i] (a, i) h [] := ⟨[.int .i64 a], [.int .i64 i], [], [], rfl, rfl, ⟨rfl, rfl⟩, ⟨rfl, rfl⟩⟩

theorem walk_calls {h : Heap} {g : Sl} {G : Graph} (hg : rdSl eInts h g G) (hn : G.length ≤ 1000) :
    ACalls Try.prog F_flow_walk [g.v] h (fun v h' => ∃ r1 r2 : Sl, v = .tuple #[r1.v, r2.v] ∧ Sep h h' [ownSl si_Lbool eBool r1 (search G).1, ownSl si_Lint eInt r2 (search G).2]) := by
  refine flow_walk_of ?_
  have hl := hg.lenEq
  unfold flow_walk
  refine ⟨rfl, mk_rule (x := false) (E := eBool) (Sep.start h) rfl (fun _ => ⟨rfl, rfl⟩) (by omega) (by omega) (by simp only [si_Lbool]; omega) fun s h1 S => ?_⟩
  refine ifB_intro (fun hc => ⟨s, _, rfl, ?_⟩) (fun hc => ?_)
  · have h0 : G = [] := List.eq_nil_of_length_eq_zero (by have : (g.len : Int) = 0 := by simpa using hc
                                                          omega)
    subst h0
    have : (search []) = ([], []) := rfl
    rw [this]
    refine (S.cast ?_ |>.nil (E := eInt) (si := si_Lint) rfl).swap
    rw [hl]; rfl
  · obtain ⟨f, hf⟩ : ∃ f, G.length = f + 1 := ⟨G.length - 1, by have : (g.len : Int) ≠ 0 := by simpa using hc
                                                                omega⟩
    have S0 : Sep h h1 [ownSl si_Lbool eBool s (List.replicate (f + 1) false)] := S.cast (by rw [hl, hf]; simp)
    refine idx_rdN (i := 0) S0.rd rfl (by simp) fun p hat _ => ?_
    refine st_flat S0 (own_bool true) hat rfl (by simp) fun h2 S1 => ?_
    refine ⟨#[.int .i64 0, .int .i64 0], rfl, ?_⟩
    -- the stack: one point
    have S2 : Sep h h2 [ownSl si_Lflow_step eStep ⟨none, 0, 0⟩ [], ownSl si_Lint eInt ⟨none, 0, 0⟩ [], ownSl si_Lbool eBool s ((List.replicate (f + 1) false).set 0 true)] := (S1.nil rfl).nil rfl
    refine bld_one S2 (own_step 0 0) rfl (by decide) fun s1 h3 S3 => ?_
    rw [search_cons hf]
    have hst := unw_start hf
    have hop : open' (List.replicate (f + 1) false) = f + 1 := by unfold open'; simp
    have hc1 := count_set (M := List.replicate (f + 1) false) (a := 0) (by simp) (by simp)
    refine loop_intro (fun m t h1 => ∃ (M : List Bool) (l : List Int) (st : List (Nat × Nat)), Sep h h1 [ownSl si_Lflow_step eStep t.2 (stk st), ownSl si_Lint eInt t.1 l, ownSl si_Lbool eBool s M] ∧
        M.length = G.length ∧ (∀ x ∈ st, x.1 < G.length ∧ x.2 ≤ (G.getD x.1 []).length) ∧ l.length + st.length + open' M = G.length ∧
        unw G (f + 1) st (M, l) = dn G (f + 1) 0 (List.replicate (f + 1) false) [] ∧ m = todo G st M) _
      ⟨_, [], [(0, 0)], S3, by simp [hf], by simp [hf], by simp; omega, hst, rfl⟩ ?_
    clear S S0 S1 S2 S3 hst hop hc1 hat
    rintro m _ ⟨left, stack⟩ h4 ⟨M, l, st, S, hM, hst, hcount, hunw, rfl⟩
    simp only at S ⊢
    have hsl := S.rd.lenEq
    rw [stk_len] at hsl
    refine ifB_intro (fun hc => ?_) (fun hc => ?_)
    · cases st with
      | nil => have := of_decide_eq_true hc; simp at hsl; omega
      | cons x r =>
        obtain ⟨a, i⟩ := x
        obtain ⟨ha, hi⟩ := hst (a, i) (by simp)
        simp only at ha hi
        have hsl' : stack.len = r.length + 1 := by simpa using hsl
        refine ar_i64 (by omega) (by omega) ?_
        have e1 : (stack.len : Int) - 1 = ((r.length : Nat) : Int) := by omega
        rw [e1]
        have hin : r.length < (stk ((a, i) :: r)).length := by rw [stk_len]; simp
        have htop : (stk ((a, i) :: r))[r.length] = ((a : Int), (i : Int)) := by simp only [stk_cons]; rw [List.getElem_append_right (by rw [stk_len]; exact Nat.le_refl _)]; simp
        refine idx_rdN S.rd rfl hin fun p hat hp => ?_
        rw [htop] at hp
        obtain ⟨hp1, hp2⟩ := hp
        have hp0 : holds h4 (p.add 0) (.int .i64) (a : Int) := by rw [Addr.add_zero']; exact hp1
        refine ld_one (k := .int .i64) hp2 <| ld_one hp0 <| idx_rdN hg rfl ha fun p2 _ hq => ld_slB hq S.old fun row hrow => ?_
        rw [row_eq] at hrow
        have hrl := hrow.lenEq
        have hrb := hrow.bound
        refine ifB_intro (fun hc => ?_) (fun hc => ?_)
        · -- the point is left
          have hie : (G.getD a []).length = i := by have : (i : Int) = (row.len : Int) := by simpa using hc
                                                    omega
          refine ld_one hp0 ?_
          refine app1_flat S.swap (own_int a) rfl (by decide) (by simp only [si_Lint]; simp at hcount; omega) (by simp at hcount; omega) fun s3 h5 S5 => ?_
          refine ar_i64 (by omega) (by omega) ?_
          refine slc_to S5.swap (by omega) (by rw [stk_len]; simp; omega) fun s4 S6 => ?_
          refine ⟨_, todo_pop, M, l ++ [(a : Int)], r, S6.cast ?_, hM, fun x hx => hst x (by simp [hx]), by simp at hcount ⊢; omega, ?_, rfl⟩
          · rw [stk_cons, Int.toNat_natCast, List.take_left' (stk_len r)]
          · rw [← hunw, unw_pop (by omega)]
        · -- the next one that it leads to
          have hil : i < (G.getD a []).length := by
            have : ¬ (i : Int) = (row.len : Int) := by simpa using hc
            omega
          refine ld_one hp0 <| idx_rdN hg rfl ha fun p3 _ hq3 => ld_slB hq3 S.old fun row2 hrow2 => ?_
          rw [row_eq] at hrow2
          refine ld_one (k := .int .i64) hp2 <| idx_rdN hrow2 rfl hil fun p4 _ hp4 => ld_oneB hp4 S.old <| ld_one (k := .int .i64) hp2 <| ar_i64 (by simp only; omega) (by simp only; omega) ?_
          obtain ⟨kx, hkx⟩ : ∃ kx, (G.getD a [])[i] = kx := ⟨_, rfl⟩
          simp only [hkx]
          refine st_sub (x := ((a : Int), ((i + 1 : Nat) : Int))) S hat rfl hin (by intro v hv; simp at hv; rw [hv]; rfl) (Nat.le_refl 2) ?_ fun h5 S5 => ?_
          · intro h xs fx ho
            rw [htop] at ho
            obtain ⟨xs1, xs2, f1, f2, rfl, rfl, ⟨rfl, rfl⟩, ⟨rfl, rfl⟩⟩ := ho
            exact own_step _ _ _
          have hset : (stk ((a, i) :: r)).set r.length ((a : Int), ((i + 1 : Nat) : Int)) = stk ((a, i + 1) :: r) := by
            rw [stk_cons, stk_cons, List.set_append_right _ _ (by rw [stk_len]; exact Nat.le_refl _), stk_len]
            simp
          rw [hset] at S5
          intro k1 hk1
          have skip : ¬ (0 ≤ (G.getD a [])[i] ∧ (G.getD a [])[i] < G.length ∧ M.getD (G.getD a [])[i].toNat false = false) → k1 false h5 := fun hno =>
            hk1 _ _ fun _ => ⟨_, todo_skip hil, M, l, (a, i + 1) :: r, S5, hM, fun x hx => by
              rcases List.mem_cons.1 hx with rfl | hx
              · exact ⟨ha, hil⟩
              · exact hst x (by simp [hx]), by simp at hcount ⊢; omega, by rw [← hunw, unw_skip hil hno], rfl⟩
          rw [hkx] at skip
          refine ifB_intro (fun hc => ?_) (fun hc => skip fun hno => ?_)
          · refine ifB_intro (fun hc2 => ?_) (fun hc2 => skip fun hno => ?_)
            · have h1k := of_decide_eq_true hc
              have h2k := of_decide_eq_true hc2
              obtain ⟨k, rfl⟩ := Int.eq_ofNat_of_zero_le (a := kx) (by omega)
              have hkn : k < G.length := by omega
              have hkM : k < M.length := by omega
              refine idx_rdN (S5.rot3.rd) rfl hkM fun p _ hp => ld_one hp ?_
              cases hMk : M[k] with
              | true =>
                refine skip fun hno => ?_
                have := hno.2.2
                simp [hkM, hMk] at this
              | false =>
                have hMk' : M.getD k false = false := by simp [hkM, hMk]
                refine hk1 _ _ fun _ => ?_
                simp only [Bool.not_false, ifB]
                refine idx_rdN (S5.rot3.rd) rfl hkM fun p hat2 _ => ?_
                refine st_flat S5.rot3 (own_bool true) hat2 rfl hkM fun h6 S6 => ?_
                refine ⟨#[.int .i64 k, .int .i64 0], rfl, ?_⟩
                have hcm := count_set hkM hMk
                simp only [List.length_cons] at hcount
                refine app1_flat S6.swap (own_step k 0) rfl (by decide) (by rw [stk_len]; simp only [si_Lflow_step, List.length_cons]; omega) (by rw [stk_len]; simp only [List.length_cons]; omega) fun s6 h7 S7 => ?_
                refine ⟨_, todo_push hil hkn hM hMk', M.set k true, l, (k, 0) :: (a, i + 1) :: r, (S7.rot3.swap.cast ?_), by simpa using hM, fun x hx => ?_, by simp only [List.length_cons]; omega, ?_, rfl⟩
                · rw [stk_cons k]; rfl
                · rcases List.mem_cons.1 hx with rfl | hx
                  · exact ⟨hkn, by simp⟩
                  · rcases List.mem_cons.1 hx with rfl | hx
                    · exact ⟨ha, hil⟩
                    · exact hst x (by simp [hx])
                · rw [← hunw]
                  exact (unw_push (s := (M, l)) hil hkx hkn hM hMk' (by simp only; omega)).symm
            · have := of_decide_eq_false hc2; omega
          · have := of_decide_eq_false hc; omega
    · cases st with
      | cons x r => have := of_decide_eq_false hc; simp at hsl; omega
      | nil =>
        refine ⟨s, left, rfl, ?_⟩
        have : (M, l) = dn G (f + 1) 0 (List.replicate (f + 1) false) [] := hunw
        rw [← this]
        exact S.drop.swap


theorem order_calls {h : Heap} {g : Sl} {G : Graph} (hg : rdSl eInts h g G) (hn : G.length ≤ 1000) :
    ACalls Try.prog F_flow_Order [g.v] h (fun v h' => ∃ s : Sl, v = s.v ∧ Sep h h' [ownSl si_Lint eInt s (orderOf G)]) := by
  refine flow_Order_of ?_
  unfold flow_Order
  refine (walk_calls hg hn).mono ?_
  rintro v h1 ⟨r1, r2, rfl, S⟩
  refine ⟨r1, r2, rfl, ?_⟩
  refine (reverse_calls S.swap).mono ?_
  rintro v h2 ⟨rfl, S⟩
  exact ⟨rfl, r2, rfl, S.swap.drop⟩
theorem come_calls {h : Heap} {g : Sl} {G : Graph} (hg : rdSl eInts h g G) (hn : G.length ≤ 1000) :
    ACalls Try.prog F_flow_Come [g.v] h (fun v h' => ∃ s : Sl, v = s.v ∧ Sep h h' [ownSl si_Lbool eBool s (comeOf G)]) := by
  refine flow_Come_of ?_
  unfold flow_Come
  refine (walk_calls hg hn).mono ?_
  rintro v h1 ⟨r1, r2, rfl, S⟩
  exact ⟨r1, r2, rfl, r1, rfl, S.swap.drop⟩

theorem down_calls {h0 : Heap} {g : Sl} {G : Graph} (hg : rdSl eInts h0 g G) (hn : G.length ≤ 1000) : ∀ (f : Nat) (h : Heap) (L : List As) (m left : Sl) (M : List Bool) (l : List Int) (a : Nat),
    Sep h0 h (ownSl si_Lint eInt left l :: L) → rdSl eBool h m M → M.length = G.length → a < G.length → M.getD a false = false → open' M ≤ f → l.length + open' M ≤ 1000 →
    ACalls Try.prog F_lateenref09_down [g.v, .int .i64 a, m.v, left.v] h (fun v h' => ∃ r1 r2 : Sl, v = .tuple #[r1.v, r2.v] ∧ Sep h0 h' (ownSl si_Lbool eBool r1 (dn G f a M l).1 :: ownSl si_Lint eInt r2 (dn G f a M l).2 :: L))
  | 0, h, L, m, left, M, l, a, S, hm, hM, ha, hma, hf, hsum => by
    have := count_set (M := M) (a := a) (by omega) (by simpa [List.getD_eq_getElem?_getD, show a < M.length by omega] using hma)
    omega
  | f + 1, h, L, m, left, M, l, a, S, hm, hM, ha, hma, hf, hsum => by
    have hc := count_set (M := M) (a := a) (by omega) (by simpa [List.getD_eq_getElem?_getD, show a < M.length by omega] using hma)
    refine lateenref09_down_of ?_
    have hl := hg.lenEq
    unfold lateenref09_down
    refine app_copy (S.nil (si := si_Lbool) (E := eBool) rfl) flat_bool hm (by simp only [si_Lbool, List.length_nil]; omega) (by simp only [List.length_nil]; omega) fun now h1 S1 => ?_
    simp only [List.nil_append] at S1
    refine idx_rdN S1.rd rfl (show a < M.length by omega) fun p hat _ => ?_
    refine st_flat S1 (own_bool true) hat rfl (by omega) fun h2 S2 => ?_
    obtain ⟨row, hrow0⟩ : ∃ row, G.getD a [] = row := ⟨_, rfl⟩
    refine loop_intro (fun m t h1 => ∃ i : Nat, t.2.2 = i ∧ i ≤ row.length ∧ m = row.length - i ∧
      Sep h0 h1 (ownSl si_Lbool eBool t.2.1 ((row.take i).foldl (stepDn G.length (dn G f)) (M.set a true, l)).1 :: ownSl si_Lint eInt t.1 ((row.take i).foldl (stepDn G.length (dn G f)) (M.set a true, l)).2 :: L)) row.length
      ⟨0, rfl, by omega, by omega, S2⟩ ?_
    clear S S1 S2 hat
    rintro _ _ ⟨left, now, i⟩ h3 ⟨i, hi0, hi, rfl, S⟩
    simp only at hi0 S
    subst hi0
    have hfs := fold_sum G f (row.take i) (M.set a true, l) (by simpa using hM)
    generalize hs : (row.take i).foldl (stepDn G.length (dn G f)) (M.set a true, l) = s at S hfs
    obtain ⟨f1, f2, f3⟩ := hfs
    simp only at f2 f3
    refine idx_rdN hg rfl ha fun p _ hp => ld_slB hp S.old fun x hx => ?_
    rw [row_eq, hrow0] at hx
    have hxl := hx.lenEq
    have hxb := hx.bound
    refine ifB_intro (fun hc => ?_) (fun hc => ?_)
    · have hil : i < row.length := by have := of_decide_eq_true hc; simp only at this; omega
      intro k1 hk1
      refine idx_rdN hg rfl ha fun p _ hp => ld_slB hp S.old fun y hy => ?_
      rw [row_eq, hrow0] at hy
      refine idx_rdN hy rfl hil fun p _ hp => ld_oneB hp S.old ?_
      have hstep : (row.take (i + 1)).foldl (stepDn G.length (dn G f)) (M.set a true, l) = stepDn G.length (dn G f) s row[i] := by
        rw [List.take_succ_eq_append_getElem hil, List.foldl_append, hs]; rfl
      have fin : ∀ (r2 r1 : Sl) h4, Sep h0 h4 (ownSl si_Lbool eBool r1 (stepDn G.length (dn G f) s row[i]).1 :: ownSl si_Lint eInt r2 (stepDn G.length (dn G f) s row[i]).2 :: L) → k1 (r2, r1) h4 := fun r2 r1 h4 S4 =>
        hk1 _ _ fun _ => ar_i64 (by simp only; omega) (by simp only; omega) ⟨row.length - (i + 1), by omega, i + 1, rfl, by omega, rfl, by rw [hstep]; exact S4⟩
      intro k2 hk2
      have skip : ¬ (0 ≤ row[i] ∧ row[i] < G.length ∧ s.1.getD row[i].toNat false = false) → k2 false h3 := fun hno =>
        hk2 _ _ fun _ => fin _ _ _ (by rw [show stepDn G.length (dn G f) s row[i] = s from if_neg hno]; exact S)
      refine ifB_intro (fun hc => ?_) (fun hc => skip fun hno => ?_)
      · refine ifB_intro (fun hc2 => ?_) (fun hc2 => skip fun hno => ?_)
        · have h1k := of_decide_eq_true hc
          have h2k := of_decide_eq_true hc2
          obtain ⟨k, hkx⟩ := Int.eq_ofNat_of_zero_le (a := row[i]) (by omega)
          have hkn : k < G.length := by omega
          have hkM : k < s.1.length := by omega
          rw [hkx]
          refine idx_rdN S.rd rfl hkM fun p _ hp => ld_one hp ?_
          cases hMk : s.1[k] with
          | true =>
            refine skip fun hno => ?_
            have := hno.2.2
            rw [hkx] at this
            simp [hkM, hMk] at this
          | false =>
            have hMk' : s.1.getD k false = false := by simp [hkM, hMk]
            refine hk2 _ _ fun _ => ?_
            simp only [Bool.not_false, ifB]
            rw [hkx]
            have IH := down_calls hg hn f h3 (ownSl si_Lbool eBool now s.1 :: L) now left s.1 s.2 k S.swap S.rd f1 hkn hMk' (by omega) (by omega)
            refine IH.mono ?_
            rintro v h4 ⟨r1, r2, rfl, S4⟩
            refine ⟨r1, r2, rfl, fin _ _ _ ?_⟩
            have e : stepDn G.length (dn G f) s row[i] = dn G f k s.1 s.2 := by
              unfold stepDn
              rw [hkx, if_pos ⟨by omega, by omega, by simpa using hMk'⟩]
              simp
            rw [e]
            exact S4.rot3.drop
        · have := of_decide_eq_false hc2; omega
      · have := of_decide_eq_false hc; omega
    · have hil : i = row.length := by have := of_decide_eq_false hc; simp only at this; omega
      subst hil
      rw [List.take_length] at hs
      refine app1_flat S.swap (own_int a) rfl (by decide) (by simp only [si_Lint]; omega) (by omega) fun s2 h5 S5 => ?_
      refine ⟨now, s2, rfl, ?_⟩
      have e : dn G (f + 1) a M l = (s.1, s.2 ++ [(a : Int)]) := by
        unfold dn
        rw [hrow0, hs]
      rw [e]
      exact S5.swap

theorem refCome_calls {h : Heap} {g : Sl} {G : Graph} (hg : rdSl eInts h g G) (hn : G.length ≤ 1000) :
    ACalls Try.prog F_lateenref09_Come [g.v] h (fun v h' => ∃ s : Sl, v = s.v ∧ Sep h h' [ownSl si_Lbool eBool s (comeOf G)]) := by
  refine lateenref09_Come_of ?_
  have hl := hg.lenEq
  unfold lateenref09_Come
  refine ⟨rfl, mk_rule (x := false) (E := eBool) (Sep.start h) rfl (own_bool false) (by omega) (by omega) (by simp only [si_Lbool]; omega) fun s h1 S => ?_⟩
  rw [hl, Int.toNat_natCast] at S
  intro k hk
  refine ifB_intro (fun hc => ?_) (fun hc => ?_)
  · obtain ⟨f, hf⟩ : ∃ f, G.length = f + 1 := ⟨G.length - 1, by have := of_decide_eq_true hc; omega⟩
    have hop : open' (List.replicate (f + 1) false) = f + 1 := by unfold open'; simp
    rw [hf] at S
    refine (down_calls hg hn (f + 1) h1 _ s ⟨none, 0, 0⟩ (List.replicate (f + 1) false) [] 0 (S.nil rfl) S.rd (by simp [hf]) (by omega) (by simp) (by omega) (by simp; omega)).mono ?_
    rintro v h2 ⟨r1, r2, rfl, S2⟩
    refine ⟨r1, r2, rfl, hk _ _ fun _ => ⟨r1, rfl, ?_⟩⟩
    unfold comeOf
    rw [search_cons hf]
    exact S2.rot3.drop.swap.drop
  · have h0 : G = [] := List.eq_nil_of_length_eq_zero (by have := of_decide_eq_false hc; omega)
    subst h0
    exact hk _ _ fun _ => ⟨s, rfl, S⟩

end Go.Proofs.Ytniflhbfnkadhaa
