/-
  dom.Frontier.
-/
import Derived.Test.YtniflhbfnkadhaaFnDom5
namespace Go.Proofs.Ytniflhbfnkadhaa
open Go.Fw Go.Pl

open Classical in
/-- Rows under way: of the first points, and of the next one for some. -/
noncomputable def frT (G : Graph) (k : Nat) (S : Nat → Prop) : Graph := (List.range G.length).map fun a => (((List.range k).filter fun k => frontB G a k).map fun (k : Nat) => (k : Int)) ++ if S a then [(k : Int)] else []
theorem frT_len (G : Graph) (k : Nat) (S : Nat → Prop) : (frT G k S).length = G.length := by simp [frT]
open Classical in
theorem frT_at {G : Graph} {k : Nat} {S : Nat → Prop} {i : Nat} (hi : i < (frT G k S).length) : (frT G k S)[i] = (((List.range k).filter fun k => frontB G i k).map fun (k : Nat) => (k : Int)) ++ if S i then [(k : Int)] else [] := by simp [frT]
theorem frT_congr {G : Graph} {k : Nat} {S S' : Nat → Prop} (h : ∀ a, a < G.length → (S a ↔ S' a)) : frT G k S = frT G k S' := by
  refine List.ext_getElem (by rw [frT_len, frT_len]) fun i h1 h2 => ?_
  rw [frT_at, frT_at]
  rw [frT_len] at h1
  congr 1
  by_cases hs : S i
  · rw [if_pos hs, if_pos ((h i h1).1 hs)]
  · rw [if_neg hs, if_neg fun h' => hs ((h i h1).2 h')]
theorem frT_next {G : Graph} {k : Nat} {S : Nat → Prop} (h : ∀ a, a < G.length → (S a ↔ frontB G a k = true)) : frT G k S = frT G (k + 1) fun _ => False := by
  refine List.ext_getElem (by rw [frT_len, frT_len]) fun i h1 h2 => ?_
  rw [frT_at, frT_at, range_filter_succ']
  rw [frT_len] at h1
  by_cases hs : S i
  · rw [if_pos hs, if_pos ((h i h1).1 hs)]; simp
  · rw [if_neg hs, if_neg fun h' => hs ((h i h1).2 h')]; simp
theorem frT_put {G : Graph} {k : Nat} {S : Nat → Prop} {u : Nat} (hu : u < (frT G k S).length) (hn : ¬ S u) : (frT G k S).set u ((frT G k S)[u] ++ [(k : Int)]) = frT G k fun a => S a ∨ a = u := by
  refine List.ext_getElem (by rw [List.length_set, frT_len, frT_len]) fun i h1 h2 => ?_
  rw [List.getElem_set]
  by_cases e : u = i
  · subst e
    rw [if_pos rfl, frT_at, frT_at, if_neg hn, if_pos (.inr rfl)]; simp
  · rw [if_neg e, frT_at, frT_at]
    by_cases hs : S i
    · rw [if_pos hs, if_pos (.inl hs)]
    · rw [if_neg hs, if_neg fun h => h.elim hs fun h => e h.symm]
theorem frT_has {G : Graph} {k : Nat} {S : Nat → Prop} {u : Nat} (hu : u < (frT G k S).length) : (frT G k S)[u].contains (k : Int) = true ↔ S u := by
  rw [frT_at, List.contains_eq_mem, decide_eq_true_eq, List.mem_append]
  constructor
  · rintro (h | h)
    · obtain ⟨z, hz, e⟩ := List.mem_map.1 h
      have := List.mem_range.1 (List.mem_filter.1 hz).1
      omega
    · by_cases hs : S u
      · exact hs
      · rw [if_neg hs] at h; cases h
  · intro hs; right; rw [if_pos hs]; simp
theorem frT_row {G : Graph} {k : Nat} {S : Nat → Prop} {u : Nat} (hu : u < (frT G k S).length) : (frT G k S)[u].length ≤ k + 1 := by
  rw [frT_at, List.length_append]
  have := range_filter_len (fun k => frontB G u k) k
  split <;> simp at this ⊢ <;> omega

/-- In front of which points a step leads out. -/
def Cd (G : Graph) (p k a : Nat) : Prop := Dm G a p ∧ ¬ (Dm G a k ∧ a ≠ k)
theorem frontB_iff {G : Graph} {a k : Nat} (hk : Rch G k) : frontB G a k = true ↔ ∃ p ∈ prs G k, Rch G p ∧ Cd G p k a := by
  have hkn := hk.lt
  unfold frontB
  rw [(come_reach (by omega) k).2 hk, Bool.true_and, Bool.and_eq_true, List.any_eq_true, Bool.or_eq_true, beq_iff_eq]
  constructor
  · rintro ⟨⟨p, hp, h⟩, h2⟩
    have hp := List.mem_range.1 hp
    rw [Bool.and_eq_true, domB_iff hp] at h
    refine ⟨p, mem_prs.2 ⟨hp, h.2⟩, h.1.2.1, h.1, fun h3 => ?_⟩
    rcases h2 with h2 | h2
    · exact h3.2 h2
    · rw [(domB_iff hkn).2 h3.1] at h2; cases h2
  · rintro ⟨p, hp, hr, h1, h2⟩
    obtain ⟨hp, hl⟩ := mem_prs.1 hp
    refine ⟨⟨p, List.mem_range.2 hp, by rw [(domB_iff hp).2 h1, hl]; rfl⟩, ?_⟩
    by_cases e : a = k
    · exact .inl e
    · right
      cases hd : domB G a k with
      | false => rfl
      | true => exact absurd ⟨(domB_iff hkn).1 hd, e⟩ h2

end Go.Proofs.Ytniflhbfnkadhaa
