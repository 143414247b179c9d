/-
  Plain: which functions call which.
-/
import Derived.Test.YtncbpalncgcoaaaPlFlow
import Derived.Test.YtncbpalncgcoaaaFwApi2
namespace Go.Pl
open Go.Pl.Api

/-- The first of a name. -/
def atF (F : List MFunc) (s : ByteArray) : Option Nat := F.findIdx? fun f => decide (f.name = s)
def callK (F : List MFunc) (x : MInstr) : Option Nat := if x.op = 31 then atF F x.name else none
def callsK (F : List MFunc) (f : MFunc) : List Nat := f.blocks.flatMap fun b => b.code.filterMap (callK F)
def callsB (f : MFunc) (s : ByteArray) : Bool := f.blocks.any fun b => b.code.any fun x => decide (x.op = 31) && decide (x.name = s)
def firstB (F : List MFunc) (k : Nat) : Bool := (List.range k).all fun j => match F[j]?, F[k]? with
  | some a, some b => !decide (a.name = b.name)
  | _, _ => true
def rowG (F : List MFunc) (f : MFunc) : List Nat := (List.range F.length).filter fun k => firstB F k && match F[k]? with
  | some g => callsB f g.name
  | none => false
def graphP (F : List MFunc) : Graph := F.map fun f => (rowG F f).map fun (k : Nat) => (k : Int)
/-- Each once, of what stands in order. -/
def dedup : List Int → List Int
  | [] => []
  | [x] => [x]
  | x :: y :: l => if x = y then dedup (y :: l) else x :: dedup (y :: l)

theorem dedup_mem {z : Int} : ∀ {l : List Int}, z ∈ dedup l ↔ z ∈ l
  | [] => by simp [dedup]
  | [x] => by simp [dedup]
  | x :: y :: l => by
    unfold dedup
    split
    · rename_i e
      subst e
      rw [dedup_mem]
      simp
    · rw [List.mem_cons, dedup_mem, List.mem_cons, List.mem_cons, List.mem_cons]
theorem dedup_up : ∀ {l : List Int}, l.Pairwise (· ≤ ·) → (dedup l).Pairwise (· < ·)
  | [], _ => List.Pairwise.nil
  | [x], _ => List.pairwise_singleton _ _
  | x :: y :: l, h => by
    unfold dedup
    obtain ⟨h1, h2⟩ := List.pairwise_cons.1 h
    split
    · exact dedup_up h2
    · rename_i hne
      refine List.pairwise_cons.2 ⟨fun z hz => ?_, dedup_up h2⟩
      have hz := dedup_mem.1 hz
      have hxy := h1 y (by simp)
      rcases List.mem_cons.1 hz with rfl | hz
      · omega
      · have := (List.pairwise_cons.1 h2).1 z hz
        omega
theorem up_eq : ∀ {l m : List Int}, l.Pairwise (· < ·) → m.Pairwise (· < ·) → (∀ z, z ∈ l ↔ z ∈ m) → l = m
  | [], [], _, _, _ => rfl
  | [], y :: m, _, _, h => by have := (h y).2 (by simp); cases this
  | x :: l, [], _, _, h => by have := (h x).1 (by simp); cases this
  | x :: l, y :: m, hl, hm, h => by
    obtain ⟨h1, h2⟩ := List.pairwise_cons.1 hl
    obtain ⟨h3, h4⟩ := List.pairwise_cons.1 hm
    have hxy : x = y := by
      have hx := (h x).1 (by simp)
      have hy := (h y).2 (by simp)
      rcases List.mem_cons.1 hx with e | hx
      · exact e
      · rcases List.mem_cons.1 hy with e | hy
        · exact e.symm
        · have := h3 x hx
          have := h1 y hy
          omega
    subst hxy
    rw [up_eq h2 h4 fun z => ?_]
    have := h z
    constructor
    · intro hz
      rcases List.mem_cons.1 (this.1 (by simp [hz])) with e | h
      · subst e; have := h1 z hz; omega
      · exact h
    · intro hz
      rcases List.mem_cons.1 (this.2 (by simp [hz])) with e | h
      · subst e; have := h3 z hz; omega
      · exact h

theorem atF_some {F : List MFunc} {s : ByteArray} {k : Nat} : atF F s = some k ↔ ∃ hk : k < F.length, F[k].name = s ∧ ∀ j (hj : j < k), F[j].name ≠ s := by
  unfold atF
  rw [List.findIdx?_eq_some_iff_getElem]
  constructor
  · rintro ⟨hk, h1, h2⟩
    exact ⟨hk, of_decide_eq_true h1, fun j hj e => by have := h2 j hj; simp [e] at this⟩
  · rintro ⟨hk, h1, h2⟩
    exact ⟨hk, decide_eq_true h1, fun j hj => by have := h2 j hj; simpa using this⟩
theorem firstB_iff {F : List MFunc} {k : Nat} (hk : k < F.length) : firstB F k = true ↔ ∀ j (hj : j < k), F[j].name ≠ F[k].name := by
  unfold firstB
  rw [List.all_eq_true]
  constructor
  · intro h j hj
    have := h j (List.mem_range.2 hj)
    rw [List.getElem?_eq_getElem (by omega), List.getElem?_eq_getElem hk] at this
    simpa using this
  · intro h j hj
    have hj := List.mem_range.1 hj
    rw [List.getElem?_eq_getElem (by omega), List.getElem?_eq_getElem hk]
    simpa using h j hj
theorem callsK_mem {F : List MFunc} {f : MFunc} {k : Nat} : k ∈ callsK F f ↔ k ∈ rowG F f := by
  unfold callsK rowG
  rw [List.mem_flatMap, List.mem_filter, List.mem_range]
  constructor
  · rintro ⟨b, hb, hx⟩
    obtain ⟨x, hx, hk⟩ := List.mem_filterMap.1 hx
    unfold callK at hk
    split at hk
    · rename_i hop
      obtain ⟨hkl, hn, hfirst⟩ := atF_some.1 hk
      refine ⟨hkl, ?_⟩
      rw [List.getElem?_eq_getElem hkl]
      simp only [Bool.and_eq_true]
      refine ⟨(firstB_iff hkl).2 fun j hj e => hfirst j hj (by rw [e, hn]), ?_⟩
      unfold callsB
      rw [List.any_eq_true]
      refine ⟨b, hb, ?_⟩
      rw [List.any_eq_true]
      exact ⟨x, hx, by simp [hop, hn]⟩
    · cases hk
  · rintro ⟨hkl, h⟩
    rw [List.getElem?_eq_getElem hkl] at h
    simp only [Bool.and_eq_true] at h
    obtain ⟨h1, h2⟩ := h
    unfold callsB at h2
    obtain ⟨b, hb, h2⟩ := List.any_eq_true.1 h2
    obtain ⟨x, hx, h2⟩ := List.any_eq_true.1 h2
    simp only [Bool.and_eq_true, decide_eq_true_eq] at h2
    refine ⟨b, hb, List.mem_filterMap.2 ⟨x, hx, ?_⟩⟩
    unfold callK
    rw [if_pos h2.1]
    exact atF_some.2 ⟨hkl, h2.2.symm, fun j hj e => (firstB_iff hkl).1 h1 j hj (by rw [e, h2.2])⟩
theorem row_sorted {F : List MFunc} {f : MFunc} {l : List Int} (hs : l.Pairwise (· ≤ ·)) (hm : ∀ z, z ∈ l ↔ z ∈ (callsK F f).map fun (k : Nat) => (k : Int)) : dedup l = (rowG F f).map fun (k : Nat) => (k : Int) := by
  refine up_eq (dedup_up hs) (up_filter _ _) fun z => ?_
  rw [dedup_mem, hm, List.mem_map, List.mem_map]
  constructor
  · rintro ⟨k, hk, e⟩; exact ⟨k, callsK_mem.1 hk, e⟩
  · rintro ⟨k, hk, e⟩; exact ⟨k, callsK_mem.2 hk, e⟩

end Go.Pl
