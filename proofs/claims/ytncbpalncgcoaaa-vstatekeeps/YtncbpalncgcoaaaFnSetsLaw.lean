/-
  lateenlaw22.VstateSets.
-/
import Derived.Test.YtncbpalncgcoaaaFnReachLaw
namespace Go.Proofs.Ytncbpalncgcoaaa
open Go.Fw Go.Pl.Api Go.Pl.Vst

/-- What has changed, and what hasn't, where a field is set. -/
theorem addF_rising {l : List MObj} (hr : Rising l) (o : MObj) : Rising (addF l o) := by
  unfold addF Rising
  refine List.pairwise_append.2 ⟨List.Pairwise.filter _ hr, List.pairwise_cons.2 ⟨fun x hx => ?_, List.Pairwise.filter _ hr⟩, fun x hx y hy => ?_⟩
  · simpa using (List.mem_filter.1 hx).2
  · have h1 : x.id < o.id := by simpa using (List.mem_filter.1 hx).2
    rcases List.mem_cons.1 hy with rfl | hy
    · exact h1
    · have h2 : o.id < y.id := by simpa using (List.mem_filter.1 hy).2
      omega
theorem mem_addF {l : List MObj} {o x : MObj} : x ∈ addF l o ↔ x = o ∨ (x ∈ l ∧ x.id ≠ o.id) := by
  unfold addF
  simp only [List.mem_append, List.mem_cons, List.mem_filter, decide_eq_true_eq]
  constructor
  · rintro (⟨h1, h2⟩ | rfl | ⟨h1, h2⟩)
    · exact .inr ⟨h1, by omega⟩
    · exact .inl rfl
    · exact .inr ⟨h1, by omega⟩
  · rintro (rfl | ⟨h1, h2⟩)
    · exact .inr (.inl rfl)
    · rcases Int.lt_trichotomy x.id o.id with h | h | h
      · exact .inl ⟨h1, h⟩
      · exact absurd h h2
      · exact .inr (.inr ⟨h1, h⟩)
theorem find_addF {l : List MObj} (hr : Rising l) {o : MObj} {b : MArg} : findF (addF l o) b = if b.kind = 5 ∧ b.n = o.id then some o else findF l b := by
  by_cases h5 : b.kind = 5
  · by_cases hn : b.n = o.id
    · rw [if_pos ⟨h5, hn⟩]
      exact findF_of (addF_rising hr o) h5 (mem_addF.2 (.inl rfl)) hn.symm
    · rw [if_neg (fun h => hn h.2)]
      cases hf : findF l b with
      | some x =>
        obtain ⟨_, hx, he⟩ := findF_some hf
        exact findF_of (addF_rising hr o) h5 (mem_addF.2 (.inr ⟨hx, by omega⟩)) he
      | none =>
        cases hg : findF (addF l o) b with
        | none => rfl
        | some x =>
          obtain ⟨_, hx, he⟩ := findF_some hg
          rcases mem_addF.1 hx with rfl | ⟨hx, _⟩
          · exact absurd he.symm hn
          · rw [findF_of hr h5 hx he] at hf; cases hf
  · rw [if_neg (fun h => h5 h.1)]
    unfold findF
    rw [if_neg h5, if_neg h5]

/-- The law of a field that is set, in plain words. -/
structure SetsP (x y : Option MObj) (a v b : MArg) (at' : Int) (ok : Bool) : Prop where
  some : x.isSome = y.isSome
  len : (x.getD zObj).vals.length = (y.getD zObj).vals.length
  cls : (x.getD zObj).cls = (y.getD zObj).cls
  real : (x.getD zObj).real = (y.getD zObj).real
  vals : ∀ k (hk : k < (x.getD zObj).vals.length) (hk2 : k < (y.getD zObj).vals.length), (y.getD zObj).vals[k] = if ok = true ∧ x.isSome = true ∧ b.n = a.n ∧ (k : Int) = at' then v else (x.getD zObj).vals[k]
theorem sets_ok {l : List MObj} (hr : Rising l) (a v b : MArg) (at' : Int) : SetsP (findF l b) (findF ((setF l a at' v).getD l) b) a v b at' (setF l a at' v).isSome := by
  cases hs : setF l a at' v with
  | none => exact ⟨rfl, rfl, rfl, rfl, fun k hk hk2 => by simp⟩
  | some l2 =>
    unfold setF at hs
    cases hf : findF l a with
    | none => rw [hf] at hs; cases hs
    | some o =>
      rw [hf] at hs
      simp only at hs
      split at hs
      · rename_i hc
        injection hs with hs
        subst hs
        obtain ⟨h5, ho, he⟩ := findF_some hf
        simp only [Option.getD_some, Option.isSome_some]
        by_cases hb : b.kind = 5 ∧ b.n = o.id
        · have h1 : findF l b = some o := findF_of hr hb.1 ho hb.2.symm
          have h2 : findF (addF l { o with vals := o.vals.set at'.toNat v }) b = some { o with vals := o.vals.set at'.toNat v } := by rw [find_addF hr, if_pos hb]
          rw [h1, h2]
          refine ⟨rfl, by simp, rfl, rfl, fun k hk hk2 => ?_⟩
          simp only [Option.getD_some, List.getElem_set, Option.isSome_some, true_and]
          by_cases e : at'.toNat = k
          · rw [if_pos e, if_pos ⟨by omega, by omega⟩]
          · rw [if_neg e, if_neg (by omega)]
        · have h2 : findF (addF l { o with vals := o.vals.set at'.toNat v }) b = findF l b := by rw [find_addF hr, if_neg hb]
          rw [h2]
          refine ⟨rfl, rfl, rfl, rfl, fun k hk hk2 => ?_⟩
          rw [if_neg]
          rintro ⟨_, hsome, hn, _⟩
          refine hb ⟨?_, by omega⟩
          cases hg : findF l b with
          | none => rw [hg] at hsome; cases hsome
          | some x => exact (findF_some hg).1
      · cases hs
theorem setF_rising {l : List MObj} (hr : Rising l) (a v : MArg) (at' : Int) : Rising ((setF l a at' v).getD l) := by
  unfold setF
  split
  · split
    · exact addF_rising hr _
    · exact hr
  · exact hr
theorem setF_vals {l : List MObj} {n : Nat} (h : ∀ o ∈ l, o.vals.length ≤ n) (a v : MArg) (at' : Int) : ∀ o ∈ (setF l a at' v).getD l, o.vals.length ≤ n := by
  unfold setF
  split
  · rename_i o hf
    split
    · intro x hx
      rcases mem_addF.1 hx with rfl | ⟨hx, _⟩
      · simpa using h o (findF_some hf).2.1
      · exact h x hx
    · exact h
  · exact h
theorem addF_len {l : List MObj} {o : MObj} : (addF l o).length ≤ 2 * l.length + 1 := by
  unfold addF
  have h1 := List.length_filter_le (fun x : MObj => decide (x.id < o.id)) l
  have h2 := List.length_filter_le (fun x : MObj => decide (o.id < x.id)) l
  rw [List.length_append, List.length_cons]
  omega
theorem setF_len {l : List MObj} (a v : MArg) (at' : Int) : ((setF l a at' v).getD l).length ≤ 2 * l.length + 1 := by
  unfold setF
  split
  · split
    · exact addF_len
    · simp; omega
  · simp; omega

end Go.Proofs.Ytncbpalncgcoaaa
