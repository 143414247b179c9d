/-
  The document's Nearest, Kids, Frontier; dom.Kids, dom.Dominates.
-/
import Derived.Test.YtniflhbfnkadhaaFnDom3
namespace Go.Proofs.Ytniflhbfnkadhaa
open Go.Fw Go.Pl

theorem domL_at {G : Graph} {a : Nat} (ha : a < (domL G).length) : (domL G)[a] = (List.range G.length).map fun k => domB G a k := by simp [domL]
theorem domL_len (G : Graph) : (domL G).length = G.length := by simp [domL]
theorem dom_ld {h h' : Heap} {r : Sl} {G : Graph} (hr : rdSl eBools h r (domL G)) (o : Old h h') {a k : Nat} (ha : a < G.length) (hk : k < G.length) {K : Bool → Prop} (hK : K (domB G a k)) :
    idx 1 r (a : Int) fun p => ld .sl h' p fun x => idx 1 x (k : Int) fun p => ld .bool h' p K := by
  have hal : a < (domL G).length := by rw [domL_len]; exact ha
  refine idx_rdN hr rfl hal fun p _ hp => ld_slB hp o fun x hx => ?_
  rw [domL_at] at hx
  have hkl : k < ((List.range G.length).map fun k => domB G a k).length := by simpa using hk
  refine idx_rdN hx rfl hkl fun p _ hp => ld_oneB hp o ?_
  simpa using hK

theorem nearTo_lt {G : Graph} (k : Nat) : ∀ i, -1 ≤ nearTo G k i ∧ nearTo G k i < i
  | 0 => by unfold nearTo; omega
  | i + 1 => by
    have := nearTo_lt (G := G) k i
    unfold nearTo
    split <;> omega

theorem nearTo_no {G : Graph} {k i : Nat} (h : ¬ (i ≠ k ∧ domB G i k = true ∧ (nearTo G k i < 0 ∨ domB G (nearTo G k i).toNat i = true))) : nearTo G k (i + 1) = nearTo G k i := if_neg h
theorem nearTo_yes {G : Graph} {k i : Nat} (h : i ≠ k ∧ domB G i k = true ∧ (nearTo G k i < 0 ∨ domB G (nearTo G k i).toNat i = true)) : nearTo G k (i + 1) = (i : Int) := if_pos h

theorem kidsOf_len (N : List Int) : (kidsOf N).length = N.length := by simp [kidsOf]
theorem range_filter_succ' (p : Nat → Bool) (j : Nat) : ((List.range (j + 1)).filter p).map (fun (k : Nat) => (k : Int)) = ((List.range j).filter p).map (fun (k : Nat) => (k : Int)) ++ if p j = true then [(j : Int)] else [] := by
  rw [List.range_succ, List.filter_append, List.map_append]
  congr 1
  by_cases e : p j = true <;> simp [e]
theorem range_filter_len (p : Nat → Bool) (j : Nat) : (((List.range j).filter p).map (fun (k : Nat) => (k : Int))).length ≤ j := by
  rw [List.length_map]
  exact Nat.le_trans (List.length_filter_le _ _) (by simp)

/-- Rows under way: of the first points. -/
def kidsT (N : List Int) (t : Nat) : Graph := (List.range N.length).map fun (i : Nat) => ((List.range t).filter fun k => N.getD k (-1) == (i : Int)).map fun (k : Nat) => (k : Int)
theorem kidsT_len (N : List Int) (t : Nat) : (kidsT N t).length = N.length := by simp [kidsT]
theorem kidsT_at {N : List Int} {t i : Nat} (hi : i < (kidsT N t).length) : (kidsT N t)[i] = ((List.range t).filter fun k => N.getD k (-1) == (i : Int)).map fun (k : Nat) => (k : Int) := by simp [kidsT]

end Go.Proofs.Ytniflhbfnkadhaa
