/-
  Small things for laws of graphs.
-/
import Derived.Test.YtjpjnpbjalmhiaaFwRules
import Derived.Test.YtjpjnpbjalmhiaaGen
import Derived.Test.YtjpjnpbjalmhiaaFnFlow
namespace Go.Proofs.Ytjpjnpbjalmhiaa
open Go.Fw Go.Pl

theorem lit_ints {h0 h : Heap} {L : List As} {n : Nat} {parts : List (Nat × Value)} (l : List Int) {K : Sl → Heap → Prop} (S : Sep h0 h L)
    (hfill : Instr.fill (fun i => some (i * si_Lint.size, si_Lint.size)) (madeCells si_Lint.zero.cells (n * si_Lint.size)) parts = some (l.map fun n => Value.int .i64 n).toArray) (hl : l.length = n) (hn : n ≤ 16777216)
    (hK : ∀ s h', Sep h0 h' (ownSl si_Lint eInt s l :: L) → K s h') : bld si_Lint n parts h K :=
  bld_rule (S.free loc_ownRow (Row.of_cells l)) hfill hl rfl (by show n * 1 ≤ _; omega) hn hK
theorem few_le {G : Graph} {m : Int} (h : fewB G m = true) : (G.length : Int) ≤ m := by
  unfold fewB at h
  simp only [Bool.and_eq_true, decide_eq_true_eq] at h
  exact h.1
theorem few_row {G : Graph} {m : Int} (h : fewB G m = true) {i : Nat} (hi : i < G.length) : G[i].length ≤ 20 := by
  unfold fewB at h
  simp only [Bool.and_eq_true, List.all_eq_true] at h
  simpa using h.2 _ (List.getElem_mem hi)
theorem few_rows {G : Graph} {m : Int} (h : fewB G m = true) : ∀ r ∈ G, r.length ≤ 1000 := fun r hr => by
  obtain ⟨i, hi, rfl⟩ := List.getElem_of_mem hr
  have := few_row h hi
  omega
theorem wrap_u8 {a : Int} (h0 : 0 ≤ a) (h1 : a < 256) : IntKind.i64.wrap a = a := by
  have := (ar_i64 (n := a) (K := fun _ => True) (by omega) (by omega) trivial).1
  exact this
theorem tmod_lt {a : Int} {n : Nat} (h0 : 0 ≤ a) (hn : 0 < n) : ∃ k : Nat, Int.tmod a (n : Int) = k ∧ k < n := by
  obtain ⟨x, rfl⟩ := Int.eq_ofNat_of_zero_le h0
  exact ⟨x % n, (Int.ofNat_tmod x n).symm, Nat.mod_lt _ hn⟩
theorem rd_nil {α : Type} {E : Elem α} {h : Heap} : rdSl E h (⟨none, 0, 0⟩ : Sl) [] := ⟨rfl, Nat.le_refl _, by simp, fun _ => rfl, .inl rfl⟩

end Go.Proofs.Ytjpjnpbjalmhiaa
