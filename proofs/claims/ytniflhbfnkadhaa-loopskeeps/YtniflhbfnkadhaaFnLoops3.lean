/-
  loops.body.
-/
import Derived.Test.YtniflhbfnkadhaaFnLoops2
namespace Go.Proofs.Ytniflhbfnkadhaa
open Go.Fw Go.Pl

theorem unm_put {n : Nat} {l : List (Int × Unit)} {a : Nat} (ha : a < n) (h : mkd l a = false) : unm n (I.aput (a : Int) () l) + 1 = unm n l := by
  have := sum_filter_lt (p := fun k => !mkd l k) (q := fun k => !mkd (I.aput (a : Int) () l) k) (w := fun _ => 1) (l := List.range n) (k := a) List.nodup_range (List.mem_range.2 ha) (by simp [h]) (by simp [mkd_put])
    (fun v hv => by simp only [mkd_put]; have : (v == a) = false := by simpa using hv
                    rw [this, Bool.or_false])
  simp only [List.map_const', List.sum_replicate_nat, Nat.mul_one] at this
  exact this

structure BI (G : Graph) (hd : Nat) (l : List (Int × Unit)) (T : List Nat) : Prop where
  head : mkd l hd = true
  ink : ∀ k, mkd l k = true → k < G.length ∧ InL G hd k
  todo : ∀ t ∈ T, t < G.length ∧ (Rch G t → InL G hd t)
  back : ∀ b, BackP G hd b → mkd l b = true ∨ b ∈ T
  pred : ∀ k p, mkd l k = true → k ≠ hd → leadsB G p (k : Int) = true → Rch G p → mkd l p = true ∨ p ∈ T

theorem BI.mark {G : Graph} {hd : Nat} {l : List (Int × Unit)} {T : List Nat} {x : Nat} (b : BI G hd l (T ++ [x])) (hr : Rch G x) (hm : mkd l x = false) : BI G hd (I.aput (x : Int) () l) (T ++ prs G x) where
  head := by rw [mkd_put, b.head]; rfl
  ink k hk := by
    rw [mkd_put, Bool.or_eq_true, beq_iff_eq] at hk
    rcases hk with hk | rfl
    · exact b.ink k hk
    · obtain ⟨h1, h2⟩ := b.todo k (by simp)
      exact ⟨h1, h2 hr⟩
  todo t ht := by
    rcases List.mem_append.1 ht with ht | ht
    · exact b.todo t (by simp [ht])
    · obtain ⟨h1, h2⟩ := mem_prs.1 ht
      refine ⟨h1, fun h => .pred ((b.todo x (by simp)).2 hr) (fun e => ?_) h2 h⟩
      subst e
      rw [b.head] at hm; cases hm
  back c hc := by
    rw [mkd_put, Bool.or_eq_true, beq_iff_eq]
    rcases b.back c hc with h | h
    · exact .inl (.inl h)
    · rcases List.mem_append.1 h with h | h
      · exact .inr (by simp [h])
      · exact .inl (.inr (by simpa using h))
  pred k p hk hne hl hp := by
    rw [mkd_put, Bool.or_eq_true, beq_iff_eq] at hk ⊢
    rcases hk with hk | rfl
    · rcases b.pred k p hk hne hl hp with h | h
      · exact .inl (.inl h)
      · rcases List.mem_append.1 h with h | h
        · exact .inr (by simp [h])
        · exact .inl (.inr (by simpa using h))
    · exact .inr (List.mem_append.2 (.inr (mem_prs.2 ⟨hp.lt, hl⟩)))
theorem BI.skip {G : Graph} {hd : Nat} {l : List (Int × Unit)} {T : List Nat} {x : Nat} (b : BI G hd l (T ++ [x])) (h : mkd l x = true ∨ ¬ Rch G x) : BI G hd l T where
  head := b.head
  ink := b.ink
  todo t ht := b.todo t (by simp [ht])
  back c hc := by
    rcases b.back c hc with h' | h'
    · exact .inl h'
    · rcases List.mem_append.1 h' with h' | h'
      · exact .inr h'
      · have : c = x := by simpa using h'
        subst this
        rcases h with h | h
        · exact .inl h
        · exact absurd hc.2.2.1 h
  pred k p hk hne hl hp := by
    rcases b.pred k p hk hne hl hp with h' | h'
    · exact .inl h'
    · rcases List.mem_append.1 h' with h' | h'
      · exact .inr h'
      · have : p = x := by simpa using h'
        subst this
        rcases h with h | h
        · exact .inl h
        · exact absurd hp h
theorem BI.fin {G : Graph} {hd : Nat} {l : List (Int × Unit)} (b : BI G hd l []) (k : Nat) : mkd l k = true ↔ InL G hd k := by
  constructor
  · exact fun h => (b.ink k h).2
  · intro h
    induction h with
    | head => exact b.head
    | back hb => exact (b.back _ hb).resolve_right (by simp)
    | pred _ hne hl hp ih => exact (b.pred _ _ ih hne hl hp).resolve_right (by simp)

end Go.Proofs.Ytniflhbfnkadhaa
