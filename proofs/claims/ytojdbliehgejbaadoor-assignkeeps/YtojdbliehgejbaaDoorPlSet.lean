/-
  Sets of names, as maps hold them.
-/
import Derived.Test.YtojdbliehgejbaaDoorFwMap3
namespace Go.Pl.Set
open Go.Fw

abbrev VSet := ByteArray → Prop
/-- A map's entries are a set's. -/
structure IsSet (M : List (ByteArray × Bool)) (P : VSet) : Prop where
  all : ∀ x ∈ M, x.2 = true
  once : (M.map Prod.fst).Nodup
  mem : ∀ v, v ∈ M.map Prod.fst ↔ P v
theorem IsSet.nil : IsSet [] fun _ => False := ⟨by simp, by simp, by simp⟩
theorem IsSet.iff {M : List (ByteArray × Bool)} {P Q : VSet} (h : IsSet M P) (e : ∀ v, P v ↔ Q v) : IsSet M Q := ⟨h.all, h.once, fun v => (h.mem v).trans (e v)⟩
theorem keys_put {k z : ByteArray} {x : Bool} : ∀ {l : List (ByteArray × Bool)}, z ∈ (aput k x l).map Prod.fst ↔ z = k ∨ z ∈ l.map Prod.fst
  | [] => by simp [aput]
  | p :: l => by
    unfold aput
    split
    · rename_i e
      simp only [List.map_cons, List.mem_cons, e]
      constructor
      · rintro (h | h)
        · exact .inl h
        · exact .inr (.inr h)
      · rintro (h | h | h)
        · exact .inl h
        · exact .inl h
        · exact .inr h
    · simp only [List.map_cons, List.mem_cons, keys_put]
      constructor
      · rintro (h | h | h)
        · exact .inr (.inl h)
        · exact .inl h
        · exact .inr (.inr h)
      · rintro (h | h | h)
        · exact .inr (.inl h)
        · exact .inl h
        · exact .inr (.inr h)
theorem put_nodup {k : ByteArray} {x : Bool} : ∀ {l : List (ByteArray × Bool)}, (l.map Prod.fst).Nodup → ((aput k x l).map Prod.fst).Nodup
  | [], _ => by simp [aput]
  | p :: l, h => by
    rw [List.map_cons, List.nodup_cons] at h
    unfold aput
    split
    · rename_i e
      rw [List.map_cons, List.nodup_cons]
      exact ⟨by simp only [e]; exact h.1, h.2⟩
    · rename_i e
      rw [List.map_cons, List.nodup_cons]
      refine ⟨fun hm => ?_, put_nodup h.2⟩
      rcases keys_put.1 hm with h1 | h1
      · exact e h1.symm
      · exact h.1 h1
theorem IsSet.put {M : List (ByteArray × Bool)} {P : VSet} (h : IsSet M P) (k : ByteArray) : IsSet (aput k true M) fun v => v = k ∨ P v :=
  ⟨fun x hx => by
    rcases aput_mem hx with rfl | hx
    · rfl
    · exact h.all x hx, put_nodup h.once, fun v => by rw [keys_put, h.mem]⟩
theorem keys_del {k z : ByteArray} : ∀ {l : List (ByteArray × Bool)}, (l.map Prod.fst).Nodup → (z ∈ (adel k l).map Prod.fst ↔ z ∈ l.map Prod.fst ∧ z ≠ k)
  | [], _ => by simp [adel]
  | p :: l, h => by
    rw [List.map_cons, List.nodup_cons] at h
    unfold adel
    split
    · rename_i e
      simp only [List.map_cons, List.mem_cons]
      constructor
      · intro hz
        exact ⟨.inr hz, fun hk => h.1 (by rw [← e, ← hk]; exact hz)⟩
      · rintro ⟨hz | hz, hk⟩
        · exact absurd (hz.trans e.symm) hk
        · exact hz
    · rename_i e
      simp only [List.map_cons, List.mem_cons, keys_del h.2]
      constructor
      · rintro (hz | ⟨hz, hk⟩)
        · exact ⟨.inl hz, fun hk => e (by rw [← hz, hk])⟩
        · exact ⟨.inr hz, hk⟩
      · rintro ⟨hz | hz, hk⟩
        · exact .inl hz
        · exact .inr ⟨hz, hk⟩
theorem del_sub {k : ByteArray} : ∀ {l : List (ByteArray × Bool)}, (adel k l).Sublist l
  | [] => by simp [adel]
  | p :: l => by
    unfold adel
    split
    · exact List.sublist_cons_self p l
    · exact (del_sub (k := k) (l := l)).cons_cons p
theorem IsSet.del {M : List (ByteArray × Bool)} {P : VSet} (h : IsSet M P) (k : ByteArray) : IsSet (adel k M) fun v => P v ∧ v ≠ k :=
  ⟨fun x hx => h.all x (del_sub.subset hx), List.Nodup.sublist (del_sub.map _) h.once, fun v => by rw [keys_del h.once, h.mem]⟩
theorem get_mem {k : ByteArray} {x : Bool} : ∀ {M : List (ByteArray × Bool)}, aget k M = some x → (k, x) ∈ M
  | [], h => by simp [aget] at h
  | p :: l, h => by
    unfold aget at h
    split at h
    · rename_i e
      injection h with h
      subst e h
      simp
    · exact List.mem_cons_of_mem _ (get_mem h)
theorem get_none {k : ByteArray} : ∀ {M : List (ByteArray × Bool)}, aget k M = none → k ∉ M.map Prod.fst
  | [], _ => by simp
  | p :: l, h => by
    unfold aget at h
    split at h
    · cases h
    · rename_i e
      simp only [List.map_cons, List.mem_cons, not_or]
      exact ⟨e, get_none h⟩
/-- What a set says of a name. -/
theorem IsSet.get {M : List (ByteArray × Bool)} {P : VSet} (h : IsSet M P) (k : ByteArray) : (aget k M = some true ∧ P k) ∨ (aget k M = none ∧ ¬ P k) := by
  cases e : aget k M with
  | none => exact .inr ⟨rfl, fun hp => get_none e ((h.mem k).2 hp)⟩
  | some x =>
    have hm := get_mem e
    have := h.all _ hm
    simp only at this
    subst this
    exact .inl ⟨rfl, (h.mem k).1 (List.mem_map.2 ⟨_, hm, rfl⟩)⟩
/-- A set within another one, and no smaller, is it. -/
theorem IsSet.len_le {M N : List (ByteArray × Bool)} {P Q : VSet} (h : IsSet M P) (k : IsSet N Q) (hs : ∀ v, P v → Q v) : M.length ≤ N.length := by
  have := List.Nodup.length_le_of_subset h.once (l₂ := N.map Prod.fst) fun v hv => (k.mem v).2 (hs v ((h.mem v).1 hv))
  simpa using this
theorem sub_all {α : Type} [DecidableEq α] : ∀ {a b : List α}, a.Nodup → b.Nodup → (∀ x ∈ a, x ∈ b) → b.length ≤ a.length → ∀ x ∈ b, x ∈ a := fun {a b} ha hb hs hl x hx => by
  apply Classical.byContradiction
  intro hno
  have h1 : (x :: a).Nodup := List.nodup_cons.2 ⟨hno, ha⟩
  have := List.Nodup.length_le_of_subset h1 (l₂ := b) fun y hy => by
    rcases List.mem_cons.1 hy with rfl | hy
    · exact hx
    · exact hs y hy
  simp only [List.length_cons] at this
  omega
theorem IsSet.eq_of_len {M N : List (ByteArray × Bool)} {P Q : VSet} (h : IsSet M P) (k : IsSet N Q) (hs : ∀ v, P v → Q v) (hl : N.length ≤ M.length) : ∀ v, Q v → P v := fun v hv => by
  have := sub_all h.once k.once (fun x hx => (k.mem x).2 (hs x ((h.mem x).1 hx))) (by simpa using hl) v ((k.mem v).2 hv)
  exact (h.mem v).1 this

end Go.Pl.Set
