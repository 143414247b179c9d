/-
  What the functions of layer 9 and their references do.
-/
import Derived.Test.YtjpjnpbjalmhiaaFwRules
import Derived.Test.YtjpjnpbjalmhiaaGen
import Derived.Test.YtjpjnpbjalmhiaaPlFlow
namespace Go.Proofs.Ytjpjnpbjalmhiaa
open Go.Fw Go.Pl

abbrev eInts : Elem (List Int) := Elem.sl si_Lint eInt
abbrev eStep : Elem (Int × Int) := Elem.prod eInt eInt

theorem flat_int : eInt.Flat := Elem.cell_flat _ _
theorem flat_bool : eBool.Flat := Elem.cell_flat _ _
theorem row_eq {G : Graph} {a : Nat} (h : a < G.length) : G[a] = G.getD a [] := by simp [h]

theorem same_calls {h : Heap} {a b : Sl} {A B : List Int} (ha : rdSl eInt h a A) (hb : rdSl eInt h b B) :
    ACalls Try.prog F_lateenref09_Same [a.v, b.v] h (fun v h' => v = .bool (A == B) ∧ h' = h) := by
  refine lateenref09_Same_of ?_
  have hla := ha.lenEq
  have hlb := hb.lenEq
  have hba := ha.bound
  unfold lateenref09_Same
  refine ifB_intro (fun hc => ⟨?_, rfl⟩) (fun hc => ?_)
  · have hne : A.length ≠ B.length := by intro e; simp [hla, hlb, e] at hc
    have : A ≠ B := fun e => hne (by rw [e])
    rw [beq_eq_false_iff_ne.2 this]
  · have hle : A.length = B.length := by simp [hla, hlb] at hc; omega
    refine loop_intro (fun m i h1 => ∃ k : Nat, i = k ∧ h1 = h ∧ k ≤ A.length ∧ m = A.length - k ∧ A.take k = B.take k) A.length ⟨0, rfl, rfl, by omega, by omega, rfl⟩ ?_
    rintro m _ i h1 ⟨k, rfl, rfl, hk, rfl, hno⟩
    refine ifB_intro (fun hc => ?_) (fun hc => ⟨?_, rfl⟩)
    · have hlt : k < A.length := by simpa [hla] using hc
      refine idx_rdN ha rfl hlt fun p _ hp => ld_one hp <| idx_rdN hb rfl (show k < B.length by omega) fun p _ hp => ld_one hp ?_
      refine ifB_intro (fun hc => ⟨?_, rfl⟩) (fun hc => ar_i64 (by omega) (by omega) ⟨A.length - (k + 1), by omega, k + 1, by omega, rfl, by omega, rfl, ?_⟩)
      · have hne : A[k] ≠ B[k] := by simpa using hc
        have : A ≠ B := fun e => hne (by simp only [e])
        rw [beq_eq_false_iff_ne.2 this]
      · have he : A[k] = B[k] := by simpa using hc
        rw [List.take_succ_eq_append_getElem hlt, List.take_succ_eq_append_getElem (show k < B.length by omega), hno, he]
    · have : A.length ≤ k := by simpa [hla] using hc
      rw [List.take_of_length_le this, List.take_of_length_le (by omega)] at hno
      rw [hno]; simp

theorem sameBools_calls {h : Heap} {a b : Sl} {A B : List Bool} (ha : rdSl eBool h a A) (hb : rdSl eBool h b B) :
    ACalls Try.prog F_lateenref09_SameBools [a.v, b.v] h (fun v h' => v = .bool (A == B) ∧ h' = h) := by
  refine lateenref09_SameBools_of ?_
  have hla := ha.lenEq
  have hlb := hb.lenEq
  have hba := ha.bound
  unfold lateenref09_SameBools
  refine ifB_intro (fun hc => ⟨?_, rfl⟩) (fun hc => ?_)
  · have hne : A.length ≠ B.length := by intro e; simp [hla, hlb, e] at hc
    have : A ≠ B := fun e => hne (by rw [e])
    rw [beq_eq_false_iff_ne.2 this]
  · have hle : A.length = B.length := by simp [hla, hlb] at hc; omega
    refine loop_intro (fun m i h1 => ∃ k : Nat, i = k ∧ h1 = h ∧ k ≤ A.length ∧ m = A.length - k ∧ A.take k = B.take k) A.length ⟨0, rfl, rfl, by omega, by omega, rfl⟩ ?_
    rintro m _ i h1 ⟨k, rfl, rfl, hk, rfl, hno⟩
    refine ifB_intro (fun hc => ?_) (fun hc => ⟨?_, rfl⟩)
    · have hlt : k < A.length := by simpa [hla] using hc
      refine idx_rdN ha rfl hlt fun p _ hp => ld_one hp <| idx_rdN hb rfl (show k < B.length by omega) fun p _ hp => ld_one hp ?_
      refine ifB_intro (fun hc => ⟨?_, rfl⟩) (fun hc => ar_i64 (by omega) (by omega) ⟨A.length - (k + 1), by omega, k + 1, by omega, rfl, by omega, rfl, ?_⟩)
      · have hne : A[k] ≠ B[k] := by simpa using hc
        have : A ≠ B := fun e => hne (by simp only [e])
        rw [beq_eq_false_iff_ne.2 this]
      · have he : A[k] = B[k] := by simpa using hc
        rw [List.take_succ_eq_append_getElem hlt, List.take_succ_eq_append_getElem (show k < B.length by omega), hno, he]
    · have : A.length ≤ k := by simpa [hla] using hc
      rw [List.take_of_length_le this, List.take_of_length_le (by omega)] at hno
      rw [hno]; simp

theorem sameLists_calls {h : Heap} {a b : Sl} {A B : Graph} (ha : rdSl eInts h a A) (hb : rdSl eInts h b B) :
    ACalls Try.prog F_lateenref09_SameLists [a.v, b.v] h (fun v h' => v = .bool (A == B) ∧ h' = h) := by
  refine lateenref09_SameLists_of ?_
  have hla := ha.lenEq
  have hlb := hb.lenEq
  have hba := ha.bound
  unfold lateenref09_SameLists
  refine ifB_intro (fun hc => ⟨?_, rfl⟩) (fun hc => ?_)
  · have hne : A.length ≠ B.length := by intro e; simp [hla, hlb, e] at hc
    have : A ≠ B := fun e => hne (by rw [e])
    rw [beq_eq_false_iff_ne.2 this]
  · have hle : A.length = B.length := by simp [hla, hlb] at hc; omega
    refine loop_intro (fun m i h1 => ∃ k : Nat, i = k ∧ h1 = h ∧ k ≤ A.length ∧ m = A.length - k ∧ A.take k = B.take k) A.length ⟨0, rfl, rfl, by omega, by omega, rfl⟩ ?_
    rintro m _ i h1 ⟨k, rfl, rfl, hk, rfl, hno⟩
    refine ifB_intro (fun hc => ?_) (fun hc => ⟨?_, rfl⟩)
    · have hlt : k < A.length := by simpa [hla] using hc
      refine idx_rdN ha rfl hlt fun p _ hp => ld_sl hp fun x hx => idx_rdN hb rfl (show k < B.length by omega) fun p _ hp => ld_sl hp fun y hy => ?_
      refine (same_calls hx hy).mono ?_
      rintro v h' ⟨rfl, rfl⟩
      refine ⟨_, rfl, ?_⟩
      refine ifB_intro (fun hc => ⟨?_, rfl⟩) (fun hc => ar_i64 (by omega) (by omega) ⟨A.length - (k + 1), by omega, k + 1, by omega, rfl, by omega, rfl, ?_⟩)
      · have hne : A[k] ≠ B[k] := by simpa using hc
        have : A ≠ B := fun e => hne (by simp only [e])
        rw [beq_eq_false_iff_ne.2 this]
      · have he : A[k] = B[k] := by simpa using hc
        rw [List.take_succ_eq_append_getElem hlt, List.take_succ_eq_append_getElem (show k < B.length by omega), hno, he]
    · have : A.length ≤ k := by simpa [hla] using hc
      rw [List.take_of_length_le this, List.take_of_length_le (by omega)] at hno
      rw [hno]; simp

theorem index_calls {h : Heap} {s : Sl} {A : List Int} (ha : rdSl eInt h s A) (x : Int) :
    ACalls Try.prog F_slices_Index [s.v, .int .i64 x] h (fun v h' => v = .int .i64 (if x ∈ A then (A.idxOf x : Int) else -1) ∧ h' = h) := by
  refine slices_Index_of ?_
  have hl := ha.lenEq
  have hb := ha.bound
  unfold slices_Index
  refine loop_intro (fun m i h1 => ∃ k : Nat, i = k ∧ h1 = h ∧ k ≤ A.length ∧ m = A.length - k ∧ x ∉ A.take k) A.length ⟨0, rfl, rfl, by omega, by omega, by simp⟩ ?_
  rintro m _ i h1 ⟨k, rfl, rfl, hk, rfl, hno⟩
  refine ifB_intro (fun hc => ?_) (fun hc => ⟨?_, rfl⟩)
  · have hlt : k < A.length := by simpa [hl] using hc
    refine idx_rdN ha rfl hlt fun p _ hp => ld_one hp ?_
    refine ifB_intro (fun hc => ⟨?_, rfl⟩) (fun hc => ar_i64 (by omega) (by omega) ⟨A.length - (k + 1), by omega, k + 1, by omega, rfl, by omega, rfl, ?_⟩)
    · have he : x = A[k] := by simpa using hc
      have hmem : x ∈ A := by rw [he]; exact List.getElem_mem _
      rw [if_pos hmem]
      congr 2
      have h1 : A = A.take k ++ A[k] :: A.drop (k + 1) := by simp
      rw [h1, List.idxOf_append, if_neg hno, ← he]
      simp
      omega
    · have hne : x ≠ A[k] := by simpa using hc
      rw [List.take_succ_eq_append_getElem hlt, List.mem_append, List.mem_singleton]
      rintro (h | h)
      · exact hno h
      · exact hne h
  · have : A.length ≤ k := by simpa [hl] using hc
    rw [List.take_of_length_le this] at hno
    rw [if_neg hno]

/-- The stack's cells. -/
def stk (st : List (Nat × Nat)) : List (Int × Int) := st.reverse.map fun x => ((x.1 : Int), (x.2 : Int))
theorem stk_len (st : List (Nat × Nat)) : (stk st).length = st.length := by simp [stk]
theorem stk_cons (a i : Nat) (r : List (Nat × Nat)) : stk ((a, i) :: r) = stk r ++ [((a : Int), (i : Int))] := by simp [stk]
theorem own_step (a i : Int) (h : Heap) : eStep.own [.int .i64 a, .int .i64 i] (a, i) h [] := ⟨[.int .i64 a], [.int .i64 i], [], [], rfl, rfl, ⟨rfl, rfl⟩, ⟨rfl, rfl⟩⟩

end Go.Proofs.Ytjpjnpbjalmhiaa
