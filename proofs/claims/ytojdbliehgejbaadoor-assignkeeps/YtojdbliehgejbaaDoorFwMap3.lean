/-
  Keys that stand once.
-/
import Derived.Test.YtojdbliehgejbaaDoorFwMap
namespace Go.Fw

def Once {α : Type} (l : List (ByteArray × α)) : Prop := l.Pairwise fun p q => p.1 ≠ q.1
theorem aget_none {α : Type} {k : ByteArray} : ∀ {l : List (ByteArray × α)}, (∀ p ∈ l, k ≠ p.1) → aget k l = none
  | [], _ => rfl
  | p :: l, h => by
    unfold aget
    rw [if_neg (h p (by simp))]
    exact aget_none fun q hq => h q (by simp [hq])
theorem aput_mem {α : Type} {k : ByteArray} {x : α} : ∀ {l : List (ByteArray × α)} {q : ByteArray × α}, q ∈ aput k x l → q = (k, x) ∨ q ∈ l
  | [], q, h => by simp [aput] at h; exact .inl h
  | p :: l, q, h => by
    unfold aput at h
    split at h
    · rcases List.mem_cons.1 h with h | h
      · exact .inl h
      · exact .inr (by simp [h])
    · rcases List.mem_cons.1 h with h | h
      · exact .inr (by simp [h])
      · rcases aput_mem h with h | h
        · exact .inl h
        · exact .inr (by simp [h])
theorem once_put {α : Type} {k : ByteArray} {x : α} : ∀ {l : List (ByteArray × α)}, Once l → Once (aput k x l)
  | [], _ => List.pairwise_singleton _ _
  | p :: l, h => by
    obtain ⟨h1, h2⟩ := List.pairwise_cons.1 h
    unfold aput
    split
    · rename_i e
      exact List.pairwise_cons.2 ⟨fun q hq => by show k ≠ q.1; rw [e]; exact h1 q hq, h2⟩
    · rename_i e
      refine List.pairwise_cons.2 ⟨fun q hq => ?_, once_put h2⟩
      rcases aput_mem hq with rfl | hq
      · exact fun h => e h.symm
      · exact h1 q hq
theorem adel_mem {α : Type} {k : ByteArray} : ∀ {l : List (ByteArray × α)} {q : ByteArray × α}, q ∈ adel k l → q ∈ l
  | [], _, h => h
  | p :: l, q, h => by
    unfold adel at h
    split at h
    · simp [h]
    · rcases List.mem_cons.1 h with h | h
      · simp [h]
      · simp [adel_mem h]
theorem once_del {α : Type} {k : ByteArray} : ∀ {l : List (ByteArray × α)}, Once l → Once (adel k l)
  | [], _ => List.Pairwise.nil
  | p :: l, h => by
    obtain ⟨h1, h2⟩ := List.pairwise_cons.1 h
    unfold adel
    split
    · exact h2
    · exact List.pairwise_cons.2 ⟨fun q hq => h1 q (adel_mem hq), once_del h2⟩
theorem aget_del {α : Type} (k k' : ByteArray) : ∀ {l : List (ByteArray × α)}, Once l → aget k (adel k' l) = if k = k' then none else aget k l
  | [], _ => by simp [adel, aget]
  | p :: l, h => by
    obtain ⟨h1, h2⟩ := List.pairwise_cons.1 h
    unfold adel
    split
    · rename_i e
      by_cases hk : k = k'
      · rw [if_pos hk, hk, e]
        exact aget_none h1
      · rw [if_neg hk]
        have : ¬ k = p.1 := fun h => hk (h.trans e.symm)
        conv => rhs; unfold aget
        rw [if_neg this]
    · rename_i e
      unfold aget
      rw [aget_del k k' h2]
      by_cases hp : k = p.1
      · have : ¬ k = k' := fun h => e (h.symm.trans hp)
        rw [if_pos hp, if_pos hp, if_neg this]
      · rw [if_neg hp, if_neg hp]

end Go.Fw
