/-
  Rules for statements whose order is open, in which memory is laid.
-/
import Derived.Test.YtojdbliehgejbaaDoorFwBox2
import Derived.Test.YtojdbliehgejbaaDoorFwMore
namespace Go.Fw

def ownV {α : Type} (si : SlI) (E : Elem α) (l : List α) (v : Value) : As := fun h f => ∃ s : Sl, v = s.v ∧ ownSl si E s l h f
def Spec.sl {α : Type} (si : SlI) (E : Elem α) (l : List α) : Spec := ⟨fun v => [ownV si E l v], fun v => ∃ s : Sl, v = s.v⟩
def Spec.val (v : Value) : Spec := ⟨fun _ => [], fun u => u = v⟩
theorem loc_ownV {α : Type} {si : SlI} {E : Elem α} {l : List α} {v : Value} : Loc (ownV si E l v) := by
  rintro h h' f ⟨s, e, o⟩ hb
  exact ⟨s, e, o.loc hb⟩
theorem Sep.ofV {α : Type} {si : SlI} {E : Elem α} {h0 h : Heap} {L : List As} {s : Sl} {l : List α} (S : Sep h0 h (ownV si E l s.v :: L)) : Sep h0 h (ownSl si E s l :: L) :=
  S.conv loc_ownSl fun f ⟨s', e, o⟩ => ⟨f, List.Sublist.refl f, by rw [Sl.v_inj e]; exact o⟩
theorem Sep.toV {α : Type} {si : SlI} {E : Elem α} {h0 h : Heap} {L : List As} {s : Sl} {l : List α} (S : Sep h0 h (ownSl si E s l :: L)) : Sep h0 h (ownV si E l s.v :: L) :=
  S.conv loc_ownV fun f o => ⟨f, List.Sublist.refl f, s, rfl, o⟩
theorem ldF_old {k : TK} {hb : Heap} {p : Addr} {K : k.T → Prop} (h : ld k hb p K) : ldF k (Old hb) p K := by
  obtain ⟨x, hx, hK⟩ := h
  exact ⟨x, fun h o => holds_ext o.ext hx, hK⟩
/-- What is laid is told by a rule that keeps what else is owned. -/
theorem free_sl {α : Type} {si : SlI} {E : Elem α} {l : List α} {hb : Heap} {pre : List As} {run : Heap → (Value → Heap → Prop) → Prop} {K : Value → Prop}
    (hrun : ∀ h X, Sep hb h (pre ++ X) → run h fun v h' => ∃ s : Sl, v = s.v ∧ Sep hb h' (ownSl si E s l :: X)) (hm : ∀ {h K K'}, run h K → (∀ v h', K v h' → K' v h') → run h K')
    (hK : ∀ s : Sl, K s.v) : freeW (Old hb) hb (Spec.sl si E l) pre run K :=
  ⟨⟨(⟨none, 0, 0⟩ : Sl).v, _, rfl⟩, fun h X _ S => hm (hrun h X S) fun v h' ⟨s, e, S'⟩ => ⟨S'.old, ⟨s, e⟩, by rw [e]; exact S'.toV⟩, fun v ⟨s, e⟩ => by rw [e]; exact hK s⟩
/-- A call that comes to one answer. -/
theorem free_val {u : Value} {hb : Heap} {run : Heap → (Value → Heap → Prop) → Prop} {K : Value → Prop}
    (hrun : ∀ h, Old hb h → run h fun v h' => v = u ∧ Old h h') (hm : ∀ {h K K'}, run h K → (∀ v h', K v h' → K' v h') → run h K')
    (hK : K u) : freeW (Old hb) hb (Spec.val u) [] run K :=
  ⟨⟨u, rfl⟩, fun h X o S => hm (hrun h o) fun v h' ⟨e, o'⟩ => ⟨o.trans o', e, S.grow o'⟩, fun v e => by rw [e]; exact hK⟩
theorem slc_upto {α : Type} {E : Elem α} {h : Heap} {s : Sl} {l : List α} (r : rdSl E h s l) {n k : Nat} {K : Sl → Prop} (h2 : k ≤ l.length)
    (hK : ∀ s', rdSl E h s' (l.take k) → K s') : slc n s none (some (k : Int)) K := by
  obtain ⟨r1, r2, r3, r5, r6⟩ := r
  refine ⟨by simp, by simp, by simp; omega, hK _ ⟨?_, ?_, ?_, ?_, ?_⟩⟩
  · simp; omega
  · simp; omega
  · simp; omega
  · intro e
    have : s.a = none := by
      simp at e
      split at e
      · exact e
      · simpa using e
    have := r5 this
    simp; omega
  · rcases r6 with r6 | ⟨a, ha, hs, r6⟩
    · left; rw [r6]; simp
    · by_cases hk : k = 0
      · left; subst hk; simp
      · right
        refine ⟨a, ?_, hs, fun i hi => ?_⟩
        · simp [ha, Addr.add_zero']
        · have := r6 i (by simp at hi; omega)
          simpa using this

end Go.Fw
