/-
  Lists of maps of one's own.
-/
import Derived.Test.YtojdbliehgejbaaDoorFwMapI
import Derived.Test.YtojdbliehgejbaaDoorFwRow
import Derived.Test.YtojdbliehgejbaaDoorFwDec
namespace Go.Fw
open Go.Fw.I

/-- A map of one's own, as an element. -/
def eM {α : Type} (vf : α → Value) : Elem (List (Int × α)) where
  size := 1
  own xs l h f := ∃ b, xs = [.map (some b)] ∧ I.ownM vf (some b) l h f
  rd h p _ := p.spot = none ∧ ∃ b, hcell h p = some (.map (some b))
  len o := by obtain ⟨b, rfl, _⟩ := o; rfl
  one o v hv := by
    obtain ⟨b, rfl, _⟩ := o
    simp at hv
    subst hv
    rfl
  loc o hb := by obtain ⟨b, h1, h2⟩ := o; exact ⟨b, h1, I.loc_ownM h2 hb⟩
  toRd o hs hc := by
    obtain ⟨b, rfl, _⟩ := o
    have := hc 0 _ rfl
    rw [Addr.add_zero'] at this
    exact ⟨hs, b, this⟩
  ext r e := ⟨r.1, by obtain ⟨b, hb⟩ := r.2; exact ⟨b, e _ _ hb⟩⟩

/-- One of the maps, for a while. -/
theorem map_at {α : Type} {vf : α → Value} {si : SlI} {h0 h : Heap} {L : List As} {s : Sl} {N : List (List (Int × α))} {i : Nat} (S : Sep h0 h (ownSl si (eM vf) s N :: L)) (hi : i < N.length) :
    ∃ b, (∀ p, At 1 s i p → hcell h p = some (.map (some b))) ∧ Sep h0 h (I.ownM vf (some b) N[i] :: ownSl si (eM vf).raw s ((N.map .inl).set i (.inr [.map (some b)])) :: L) ∧
      ∀ h' L' M, Sep h0 h' (I.ownM vf (some b) M :: ownSl si (eM vf).raw s ((N.map .inl).set i (.inr [.map (some b)])) :: L') → Sep h0 h' (ownSl si (eM vf) s (N.set i M) :: L') := by
  obtain ⟨xs, hxc, S2⟩ := (Sep.raw.2 S).away (i := i) (x := N[i]) (by simpa using hi) (by simp)
  obtain ⟨f, b, rfl, _⟩ := S2.swap.get
  refine ⟨b, fun p hp => by have := hxc p hp 0 _ rfl; rwa [Addr.add_zero'] at this, S2.swap.conv I.loc_ownM fun f ⟨b', e, o⟩ => ?_, fun h' L' M S3 => ?_⟩
  · injection e with e _
    injection e with e
    injection e with e
    subst e
    exact ⟨f, List.Sublist.refl f, o⟩
  · have S4 : Sep h0 h' (ownEl (eM vf) [.map (some b)] M :: ownSl si (eM vf).raw s ((N.map .inl).set i (.inr [.map (some b)])) :: L') := S3.conv loc_ownEl fun f o => ⟨f, List.Sublist.refl f, b, rfl, o⟩
    have S5 := S4.swap.back (i := i) (by simpa using hi) (by simp)
    refine Sep.raw.1 (S5.cast ?_)
    congr 2
    rw [List.set_set, List.map_set]

theorem mln_rule {α : Type} {vf : α → Value} {h0 h : Heap} {L : List As} {b : Nat} {l : List (Int × α)} {K : Int → Prop} (S : Sep h0 h (I.ownM vf (some b) l :: L)) (hK : K l.length) : mln (some b) h K := by
  obtain ⟨f, b', es, clock, e, hb, he, _⟩ := S.get
  injection e with e
  subst e
  have : es.size = l.length := by have := congrArg List.length he; simpa using this
  exact ⟨es, clock, hb, by rw [this]; exact hK⟩
theorem nil_some {p : Addr} {K : Addr → Prop} (h : K p) : nilck (some p) K := h
/-- A map's change leaves the cells alone. -/
theorem mup_ext {d : TypeDesc} {m : Option Nat} {key val : Value} {h : Heap} {K : Heap → Prop} (H : mup d m key val h K) : mup d m key val h fun h' => K h' ∧ hExt h h' := by
  obtain ⟨b, es, clock, rfl, hb, h1, h2, h3⟩ := H
  refine ⟨b, es, clock, rfl, hb, h1, h2, fun r hr => ⟨h3 r hr, fun p v hv => ?_⟩⟩
  have hset : ∀ o, hcell (h.setIfInBounds b o) p = some v := fun o => by
    unfold hcell at hv ⊢
    by_cases e : b = p.block
    · subst e
      rw [hb] at hv
      cases hv
    · rw [Array.getElem?_setIfInBounds_ne e]
      exact hv
  rcases r with _ | ⟨i, x⟩
  · exact hset _
  · exact hset _
theorem mup_mono {d : TypeDesc} {m : Option Nat} {key val : Value} {h : Heap} {K K' : Heap → Prop} (H : mup d m key val h K) (hk : ∀ h', K h' → K' h') : mup d m key val h K' := by
  obtain ⟨b, es, clock, rfl, hb, h1, h2, h3⟩ := H
  exact ⟨b, es, clock, rfl, hb, h1, h2, fun r hr => hk _ (h3 r hr)⟩
/-- A box's value, as it was laid. -/
theorem ld_aggX {α : Type} {E : RV α} {hb h : Heap} {p : Addr} {n : Nat} {x : α} {K : Array Value → Prop} (r : E.bx hb h p x) (hn : n = E.size) (hK : ∀ cs : Array Value, E.rv hb cs.toList x → K cs) : ld (.agg n) h p K := by
  obtain ⟨_, c, h1, h2⟩ := r
  exact ⟨c.toArray, ⟨by simp [E.len h2, hn], fun j v hj => h1 j v (by simpa using hj)⟩, hK _ (by simpa using h2)⟩

end Go.Fw
