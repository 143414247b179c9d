/-
  States of objects: what is found, put in, set, reached.
-/
import Derived.Test.YtojdbliehgejbaaDoorPlApi
namespace Go.Pl.Vst
open Go.Pl.Api

deriving instance DecidableEq for MArg
structure MObj where
  id : Int
  cls : ByteArray
  vals : List MArg
  real : MArg
  deriving DecidableEq
def zArg : MArg := ⟨0, ⟨#[]⟩, 0⟩
def zObj : MObj := ⟨0, ⟨#[]⟩, [], zArg⟩
def Rising (l : List MObj) : Prop := l.Pairwise fun a b => a.id < b.id
instance (l : List MObj) : Decidable (Rising l) := inferInstanceAs (Decidable (l.Pairwise _))
def findF (l : List MObj) (a : MArg) : Option MObj := if a.kind = 5 then l.find? fun o => o.id == a.n else none
def virtF (l : List MObj) (a : MArg) : Bool := match findF l a with
  | some o => o.real.kind == 0
  | none => false
def reallyF (l : List MObj) (a : MArg) : MArg := match findF l a with
  | some o => if o.real.kind = 0 then a else o.real
  | none => a
def objOk (l : List MObj) (o : MObj) : Bool := o.real.kind != 5 && o.vals.all fun a => a.kind != 5 || (findF l a).isSome
def headOk : List MObj → Bool
  | [] => true
  | o :: _ => decide (0 ≤ o.id)
def rightF (l : List MObj) : Bool := decide (Rising l) && headOk l && l.all (objOk l)
def fewF (l : List MObj) : Bool := decide (l.length ≤ 40) && l.all fun o => decide (o.vals.length ≤ 20)
def addF (l : List MObj) (o : MObj) : List MObj := l.filter (fun x => decide (x.id < o.id)) ++ o :: l.filter (fun x => decide (o.id < x.id))
def setF (l : List MObj) (a : MArg) (at' : Int) (v : MArg) : Option (List MObj) := match findF l a with
  | some o => if o.real.kind = 0 ∧ 0 ≤ at' ∧ at' < o.vals.length then some (addF l { o with vals := o.vals.set at'.toNat v }) else none
  | none => none

theorem rising_get {l : List MObj} (h : Rising l) {i j : Nat} (hij : i < j) (hj : j < l.length) : l[i].id < l[j].id := List.pairwise_iff_getElem.1 h i j (by omega) hj hij
theorem rising_iff {l : List MObj} : Rising l ↔ ∀ i, (hi : i + 1 < l.length) → l[i].id < l[i + 1].id := by
  constructor
  · intro h i hi
    exact rising_get h (by omega) hi
  · intro h
    refine List.pairwise_iff_getElem.2 fun i j hi hj hij => ?_
    induction j with
    | zero => omega
    | succ j ih =>
      by_cases e : i = j
      · subst e; exact h i hj
      · exact Int.lt_trans (ih (by omega) (by omega)) (h j hj)
/-- Where an Id stands, or would. -/
structure PlaceF (l : List MObj) (id : Int) (r : Nat) : Prop where
  le : r ≤ l.length
  low : ∀ k (hk : k < l.length), k < r → l[k].id < id
  high : ∀ k (hk : k < l.length), r ≤ k → id ≤ l[k].id
def hitF (l : List MObj) (id : Int) (r : Nat) : Bool := match l[r]? with
  | some o => o.id == id
  | none => false
theorem find_place {l : List MObj} (hr : Rising l) {id : Int} {r : Nat} (p : PlaceF l id r) : (l.find? fun o => o.id == id) = if hitF l id r then l[r]? else none := by
  by_cases hl : r < l.length
  · have e : l[r]? = some l[r] := List.getElem?_eq_getElem hl
    unfold hitF
    rw [e]
    simp only
    by_cases h : l[r].id = id
    · rw [if_pos (by simpa using h)]
      rw [List.find?_eq_some_iff_getElem]
      refine ⟨by simpa using h, r, hl, rfl, fun j hj => ?_⟩
      have := p.low j (by omega) hj
      simp
      omega
    · rw [if_neg (by simpa using h)]
      rw [List.find?_eq_none]
      intro x hx
      obtain ⟨j, hj, rfl⟩ := List.getElem_of_mem hx
      simp only [beq_iff_eq]
      rcases Nat.lt_trichotomy j r with h1 | h1 | h1
      · have := p.low j hj h1; omega
      · subst h1; exact h
      · have := rising_get hr h1 hj
        have := p.high r hl (Nat.le_refl _)
        omega
  · have e : l[r]? = none := List.getElem?_eq_none (by omega)
    unfold hitF
    rw [e]
    simp only [Bool.false_eq_true, if_false]
    rw [List.find?_eq_none]
    intro x hx
    obtain ⟨j, hj, rfl⟩ := List.getElem_of_mem hx
    have := p.low j hj (by omega)
    simp only [beq_iff_eq]
    omega
theorem hit_get {l : List MObj} {id : Int} {r : Nat} (h : hitF l id r = true) : ∃ hr : r < l.length, l[r].id = id := by
  unfold hitF at h
  split at h
  · rename_i o ho
    obtain ⟨hr, rfl⟩ := List.getElem?_eq_some_iff.1 ho
    exact ⟨hr, by simpa using h⟩
  · cases h

end Go.Pl.Vst
