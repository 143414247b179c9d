/-
  slices.Clone, loops.body.
-/
import Derived.Test.YtniflhbfnkadhaaFwMapI
import Derived.Test.YtniflhbfnkadhaaFnLoops
import Derived.Test.YtniflhbfnkadhaaFnHelp
namespace Go.Proofs.Ytniflhbfnkadhaa
open Go.Fw Go.Pl

theorem clone_calls {h : Heap} {s : Sl} {l : List Int} (hs : rdSl eInt h s l) (hn : l.length ≤ 1000000) :
    ACalls Try.prog F_slices_Clone [s.v] h (fun v h' => ∃ r : Sl, v = r.v ∧ Sep h h' [ownSl si_Lint eInt r l]) := by
  refine slices_Clone_of ?_
  unfold slices_Clone
  refine ifB_intro (fun hc => ?_) (fun hc => ?_)
  · have : l = [] := by
      obtain ⟨_, _, _, _, r6⟩ := hs
      rcases r6 with r6 | ⟨a, ha, _⟩
      · exact r6
      · rw [ha] at hc; cases hc
    subst this
    exact ⟨_, rfl, (Sep.start h).nil rfl⟩
  · refine lit_ints [] (Sep.start h) (by kernel_rfl) rfl (by decide) fun s1 h1 S1 => ?_
    refine app_copy S1 flat_int (hs.old S1.old) (by simp only [si_Lint, List.length_nil]; omega) (by simp only [List.length_nil]; omega) fun s2 h2 S2 => ?_
    exact ⟨s2, rfl, S2⟩

/-- What is marked. -/
abbrev ownU (m : Option Nat) (l : List (Int × Unit)) : As := I.ownM (fun _ => .bool true) m l
def mkd (l : List (Int × Unit)) (k : Nat) : Bool := (I.aget (k : Int) l).isSome
theorem mkd_put (l : List (Int × Unit)) (a k : Nat) : mkd (I.aput (a : Int) () l) k = (mkd l k || k == a) := by
  unfold mkd
  rw [I.aget_put]
  by_cases e : k = a
  · subst e; simp
  · have : ¬ ((k : Int) = (a : Int)) := by omega
    simp [this, e]
def unm (n : Nat) (l : List (Int × Unit)) : Nat := ((List.range n).filter fun k => !mkd l k).length

end Go.Proofs.Ytniflhbfnkadhaa
