/-
  A box of one's own, beside what else is one's own.
-/
import Derived.Test.YtojdbliehgejbaaDoorFwDec
namespace Go.Fw

def boxA {α : Type} (E : RV α) (hb : Heap) (p : Addr) (x : α) : As := fun h f => f = [p.block] ∧ p.off = 0 ∧ p.spot = none ∧ ∃ (cs : Array Value) (t : TypeId) (fr : Nat × Nat), h[p.block]? = some (.cells cs t fr) ∧ E.rv hb cs.toList x
theorem loc_boxA {α : Type} {E : RV α} {hb : Heap} {p : Addr} {x : α} : Loc (boxA E hb p x) := by
  rintro h h' f ⟨rfl, h1, h2, cs, t, fr, h3, h4⟩ hs
  exact ⟨rfl, h1, h2, cs, t, fr, by rw [hs _ (by simp)]; exact h3, h4⟩
theorem Sep.bx {α : Type} {E : RV α} {hb h0 h : Heap} {p : Addr} {x : α} {L : List As} (S : Sep h0 h (boxA E hb p x :: L)) : E.bx hb h p x := by
  obtain ⟨f, _, h1, h2, cs, t, fr, h3, h4⟩ := S.get
  refine ⟨h2, cs.toList, fun j v hj => ?_, h4⟩
  obtain ⟨b, o, s⟩ := p
  simp only at h1 h2 h3
  subst h1 h2
  rw [Addr.add_none, Nat.zero_add]
  unfold hcell
  simp only [h3]
  simpa using hj
theorem new_stB {α : Type} {E : RV α} {hb h0 h : Heap} {t : TypeId} {zs cs : Array Value} {x : α} {n : Nat} {L : List As} {K : Addr → Heap → Prop} (S : Sep h0 h L) (r : E.rv hb cs.toList x) (hz : zs.size = E.size) (hn : n = E.size)
    (hK : ∀ p h', Sep h0 h' (boxA E hb p x :: L) → K p h') : new t zs h fun p h1 => cs.size = n ∧ st cs.toList h1 p fun h2 => K p h2 := by
  have hcs : cs.size = E.size := by have := E.len r; simpa using this
  refine ⟨by rw [hcs, hn], fun j hj => ?_, E.one r, hK _ _ ?_⟩
  · rw [Addr.add_none, Nat.zero_add]
    unfold hcell hfrozen
    simp only [Array.getElem?_push_size]
    have : j < zs.size := by rw [hz, ← hcs]; simpa using hj
    simp [this]
  · have hg := hsets_same (g := h.size) (e := t) cs.toList (h.push (.cells zs t)) zs 0 0 Array.getElem?_push_size
    rw [Nat.add_zero] at hg
    have hp := putAt_eq cs.toList zs 0 (by simp [hcs, hz])
    simp only [List.take_zero, List.nil_append, Nat.zero_add] at hp
    have hp2 : (putAt zs 0 cs.toList).toList = cs.toList := by
      rw [hp, List.drop_of_length_le (by simp [hcs, hz]), List.append_nil]
    have old : ∀ b, b < h.size → (hsets (h.push (.cells zs t)) ⟨h.size, 0, none⟩ cs.toList 0)[b]? = h[b]? := fun b hb => by
      rw [hsets_other _ _ _ _ (show b ≠ h.size by omega) rfl]
      exact (Old.push h _).block b hb
    refine Sep.step (M := []) (M' := [boxA E hb ⟨h.size, 0, none⟩ x]) S (fun A hA => by rw [List.mem_singleton.1 hA]; exact loc_boxA) ?_
    rintro f rfl _ _
    refine ⟨[h.size], ⟨[h.size], [], rfl, ⟨rfl, rfl, rfl, _, _, _, hg, by rw [hp2]; exact r⟩, rfl⟩, by simp, by rw [size_hsets]; simp, fun b hb _ => old b hb, fun b hb => ?_⟩
    simp at hb
    subst hb
    simp [size_hsets]

end Go.Fw
