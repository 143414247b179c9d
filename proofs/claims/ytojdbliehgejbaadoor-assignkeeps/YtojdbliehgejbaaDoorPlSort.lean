/-
  Names in their order.
-/
import Derived.Test.YtojdbliehgejbaaDoorPlSet
import Derived.Sort.Walk0
namespace Go.Pl.Set
open Go.Fw Go.Proofs

def bl (b : ByteArray) : List UInt8 := b.data.toList
theorem bl_inj {a b : ByteArray} (h : bl a = bl b) : a = b := by
  obtain ⟨⟨x⟩⟩ := a
  obtain ⟨⟨y⟩⟩ := b
  unfold bl at h
  simp only at h
  rw [h]
def ltS (a b : ByteArray) : Prop := bl a < bl b
instance (a b : ByteArray) : Decidable (ltS a b) := inferInstanceAs (Decidable (bl a < bl b))
theorem less_iff {a b : ByteArray} : Op.bytesLess a.toList b.toList = decide (ltS a b) := by
  rw [ByteArray.toList_eq, ByteArray.toList_eq, bytesLess_eq]
  rfl
theorem ltS_irr {a : ByteArray} : ¬ ltS a a := List.lt_irrefl _
theorem ltS_trans {a b c : ByteArray} (h : ltS a b) (k : ltS b c) : ltS a c := List.lt_trans h k
theorem ltS_tri (a b : ByteArray) : ltS a b ∨ a = b ∨ ltS b a := by
  rcases Classical.em (bl a ≤ bl b) with h | h
  · rcases List.le_iff_lt_or_eq.1 h with h | h
    · exact .inl h
    · exact .inr (.inl (bl_inj h))
  · exact .inr (.inr (List.not_le.1 h))
/-- Rising. -/
def Up (l : List ByteArray) : Prop := l.Pairwise ltS
theorem Up.nodup {l : List ByteArray} (h : Up l) : l.Nodup := h.imp fun {a b} hab e => by subst e; exact ltS_irr hab
theorem up_unique : ∀ {a b : List ByteArray}, Up a → Up b → (∀ v, v ∈ a ↔ v ∈ b) → a = b := fun {a b} ha hb h => by
  refine List.Perm.eq_of_pairwise (le := ltS) (fun x y _ _ h1 h2 => absurd (ltS_trans h1 h2) ltS_irr) ha hb ?_
  exact (List.perm_ext_iff_of_nodup ha.nodup hb.nodup).2 h
def sortB (ks : List ByteArray) : List ByteArray := ((ks.map bl).mergeSort fun x y => decide (x ≤ y)).map fun l => ⟨l.toArray⟩
theorem le_pairwise (m : List (List UInt8)) : (m.mergeSort fun x y => decide (x ≤ y)).Pairwise fun x y => decide (x ≤ y) = true :=
  List.pairwise_mergeSort (le := fun (x y : List UInt8) => decide (x ≤ y)) (fun a b c h1 h2 => by simp only [decide_eq_true_eq] at h1 h2 ⊢; exact List.le_trans h1 h2) (fun a b => by simp only [Bool.or_eq_true, decide_eq_true_eq]; exact List.le_total a b) m
theorem sort_perm {a b : List (List UInt8)} (h : a.Perm b) : (a.mergeSort fun x y => decide (x ≤ y)) = b.mergeSort fun x y => decide (x ≤ y) := by
  refine List.Perm.eq_of_pairwise (le := fun (x y : List UInt8) => decide (x ≤ y) = true) (fun x y _ _ h1 h2 => by simp only [decide_eq_true_eq] at h1 h2; exact List.le_antisymm h1 h2) (le_pairwise a) (le_pairwise b) ?_
  exact (List.mergeSort_perm a _).trans (h.trans (List.mergeSort_perm b _).symm)
theorem sortB_mem {ks : List ByteArray} {v : ByteArray} : v ∈ sortB ks ↔ v ∈ ks := by
  unfold sortB
  simp only [List.mem_map, List.mem_mergeSort]
  constructor
  · rintro ⟨l, ⟨k, hk, rfl⟩, rfl⟩
    exact hk
  · intro hv
    exact ⟨bl v, ⟨v, hv, rfl⟩, rfl⟩
theorem sortB_up {ks : List ByteArray} (h : ks.Nodup) : Up (sortB ks) := by
  unfold sortB Up
  rw [List.pairwise_map]
  have hn : ((ks.map bl).mergeSort fun x y => decide (x ≤ y)).Nodup := (List.mergeSort_perm _ _).nodup_iff.2 (by
    rw [List.nodup_iff_pairwise_ne, List.pairwise_map]
    exact (List.nodup_iff_pairwise_ne.1 h).imp fun {a b} hab e => hab (bl_inj e))
  refine ((le_pairwise _).and hn).imp fun {a b} ⟨h1, h2⟩ => ?_
  simp only [decide_eq_true_eq] at h1
  rcases List.le_iff_lt_or_eq.1 h1 with h | h
  · exact h
  · exact absurd h h2
/-- A set's names, in their order. -/
theorem IsSet.sorted {M : List (ByteArray × Bool)} {P : VSet} (h : IsSet M P) {l : List ByteArray} (hl : Up l) (hm : ∀ v, v ∈ l ↔ P v) : sortB (M.map Prod.fst) = l :=
  up_unique (sortB_up h.once) hl fun v => by rw [sortB_mem, h.mem, hm]

end Go.Pl.Set
