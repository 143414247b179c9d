/-
  Cutting from the front what is only read.
-/
import Derived.Test.YtojdbliehgejbaaDoorFwRules
namespace Go.Fw

theorem slc_from {α : Type} {E : Elem α} {h : Heap} {s : Sl} {l : List α} (r : rdSl E h s l) {n k : Nat} {K : Sl → Prop} (hn : n = E.size) (h2 : k ≤ l.length)
    (hK : ∀ s', rdSl E h s' (l.drop k) → K s') : slc n s (some (k : Int)) none K := by
  obtain ⟨r1, r2, r3, r5, r6⟩ := r
  refine ⟨by simp, by simp; omega, by simpa using r2, hK _ ⟨?_, ?_, ?_, ?_, ?_⟩⟩
  · simp; omega
  · simp; omega
  · simp; omega
  · intro e
    have : s.a = none := by
      simp at e
      split at e
      · exact e
      · simpa using e
    have := r5 this
    simp; omega
  · rcases r6 with r6 | ⟨a, ha, hs, r6⟩
    · left; rw [r6]; simp
    · by_cases hk : s.cap = k
      · left
        have : l.length ≤ k := by omega
        exact List.drop_of_length_le this
      · right
        refine ⟨a.add (k * n), by simp [hk, ha], Addr.spot_add _ _ hs, fun i hi => ?_⟩
        rw [Addr.add_add _ _ _ hs, hn, ← Nat.add_mul]
        have := r6 (k + i) (by simp at hi; omega)
        simpa using this

end Go.Fw
