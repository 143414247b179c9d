/-
  Plain: lists of names that are the same but for their order.
-/
namespace Go.Pl
variable {α : Type}

theorem nodup_sub_len : ∀ (B l : List α), B.Pairwise (· ≠ ·) → (∀ b ∈ B, b ∈ l) → B.length ≤ l.length
  | [], _, _, _ => Nat.zero_le _
  | b :: B, l, hn, hs => by
    obtain ⟨l1, l2, rfl⟩ := List.append_of_mem (hs b (by simp))
    have hn := List.pairwise_cons.1 hn
    have := nodup_sub_len B (l1 ++ l2) hn.2 fun c hc => by
      have h1 := hs c (by simp [hc])
      have h2 := hn.1 c hc
      simp only [List.mem_append, List.mem_cons] at h1 ⊢
      rcases h1 with h1 | h1 | h1
      · exact .inl h1
      · exact absurd h1.symm h2
      · exact .inr h1
    simp only [List.length_append, List.length_cons] at this ⊢
    omega
theorem sub_of_len {B l : List α} (hn : B.Pairwise (· ≠ ·)) (hs : ∀ b ∈ B, b ∈ l) (hl : l.length ≤ B.length) : ∀ a ∈ l, a ∈ B := by
  intro a ha
  by_cases h : a ∈ B
  · exact h
  · have := nodup_sub_len (a :: B) l (List.pairwise_cons.2 ⟨fun b hb e => h (e ▸ hb), hn⟩) fun b hb => by
      rcases List.mem_cons.1 hb with rfl | hb
      · exact ha
      · exact hs b hb
    simp only [List.length_cons] at this
    omega

variable [DecidableEq α]
def cnt (B : List α) (n : α) : Nat := B.countP fun b => decide (b = n)
theorem cnt_pos {B : List α} {n : α} : 0 < cnt B n ↔ n ∈ B := by
  unfold cnt
  rw [List.countP_pos_iff]
  constructor
  · rintro ⟨a, ha, h⟩; rw [← of_decide_eq_true h]; exact ha
  · exact fun h => ⟨n, h, decide_eq_true rfl⟩
theorem cnt_cons {a : α} {B : List α} {n : α} : cnt (a :: B) n = cnt B n + if a = n then 1 else 0 := by
  unfold cnt
  rw [List.countP_cons]
  by_cases h : a = n <;> simp [h]
theorem nodup_cnt {B : List α} : B.Pairwise (· ≠ ·) ↔ ∀ n, cnt B n ≤ 1 := by
  induction B with
  | nil => simp [cnt]
  | cons a B ih =>
    rw [List.pairwise_cons, ih]
    constructor
    · rintro ⟨h1, h2⟩ n
      rw [cnt_cons]
      split
      · rename_i e
        subst e
        have : ¬ 0 < cnt B a := fun h => h1 a (cnt_pos.1 h) rfl
        omega
      · have := h2 n; omega
    · intro h
      refine ⟨fun b hb e => ?_, fun n => ?_⟩
      · subst e
        have h1 := h a
        rw [cnt_cons, if_pos rfl] at h1
        have := cnt_pos.2 hb
        omega
      · have h1 := h n
        rw [cnt_cons] at h1
        omega
theorem cnt_sum (B : List α) : ∀ (ns : List α), ns.Pairwise (· ≠ ·) → (ns.map (cnt B)).sum = B.countP fun b => decide (b ∈ ns)
  | [], _ => by simp
  | n :: ns, h => by
    have h := List.pairwise_cons.1 h
    rw [List.map_cons, List.sum_cons, cnt_sum B ns h.2]
    unfold cnt
    clear cnt_sum
    induction B with
    | nil => rfl
    | cons b B ih =>
      rw [List.countP_cons, List.countP_cons, List.countP_cons, ← ih]
      by_cases h1 : b = n
      · subst h1
        have : b ∉ ns := fun hb => h.1 b hb rfl
        simp [this]
        omega
      · simp [h1]
        omega

/-- As many of each name as there should be, and no more in all: the same names. -/
theorem same_names {B ns l : List α} (p : α → Prop) [DecidablePred p] (hns : ns.Pairwise (· ≠ ·)) (hl : ∀ a, a ∈ l ↔ a ∈ ns ∧ p a) (hln : l.Pairwise (· ≠ ·)) :
    ((∀ n ∈ ns, cnt B n = if p n then 1 else 0) ∧ l.length = B.length) ↔ (B.length = l.length ∧ (∀ b ∈ B, b ∈ l) ∧ B.Pairwise (· ≠ ·)) := by
  constructor
  · rintro ⟨h1, h2⟩
    have hs : (ns.map (cnt B)).sum = (ns.countP fun n => decide (p n)) := by
      clear hns hl
      induction ns with
      | nil => rfl
      | cons n ns ih =>
        rw [List.map_cons, List.sum_cons, List.countP_cons, ih fun m hm => h1 m (by simp [hm]), h1 n (by simp)]
        by_cases hp : p n <;> simp [hp]
        omega
    have hlc : (ns.countP fun n => decide (p n)) = l.length := by
      rw [List.countP_eq_length_filter]
      refine Nat.le_antisymm (nodup_sub_len _ _ (hns.filter _) fun a ha => ?_) (nodup_sub_len _ _ hln fun a ha => ?_)
      · have := List.mem_filter.1 ha
        exact (hl a).2 ⟨this.1, of_decide_eq_true this.2⟩
      · have := (hl a).1 ha
        exact List.mem_filter.2 ⟨this.1, decide_eq_true this.2⟩
    rw [cnt_sum B ns hns, hlc, h2] at hs
    have hall := List.countP_eq_length.1 hs
    have hin : ∀ b ∈ B, b ∈ ns := fun b hb => of_decide_eq_true (hall b hb)
    refine ⟨h2.symm, fun b hb => ?_, nodup_cnt.2 fun n => ?_⟩
    · have hc := h1 b (hin b hb)
      have := cnt_pos.2 hb
      by_cases hp : p b
      · exact (hl b).2 ⟨hin b hb, hp⟩
      · rw [if_neg hp] at hc; omega
    · by_cases hn : n ∈ B
      · rw [h1 n (hin n hn)]; split <;> omega
      · have : ¬ 0 < cnt B n := fun h => hn (cnt_pos.1 h)
        omega
  · rintro ⟨h1, h2, h3⟩
    refine ⟨fun n hn => ?_, h1.symm⟩
    have h4 := nodup_cnt.1 h3 n
    by_cases hp : p n
    · rw [if_pos hp]
      have := cnt_pos.2 (sub_of_len h3 h2 (by omega) n ((hl n).2 ⟨hn, hp⟩))
      omega
    · rw [if_neg hp]
      have : ¬ 0 < cnt B n := fun h => hp ((hl n).1 (h2 n (cnt_pos.1 h))).2
      omega

end Go.Pl
