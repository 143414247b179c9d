/-
  Lists of maps of one's own, keyed by strings.
-/
import Derived.Test.YtojdbliehgejbaaDoorFwMap3
import Derived.Test.YtojdbliehgejbaaDoorFwMapI
import Derived.Test.YtojdbliehgejbaaDoorFwRow
import Derived.Test.YtojdbliehgejbaaDoorFwDec
namespace Go.Fw

/-- A map of one's own, as an element. -/
def eMS {α : Type} (vf : α → Value) : Elem (List (ByteArray × α)) where
  size := 1
  own xs l h f := ∃ b, xs = [.map (some b)] ∧ ownM vf (some b) l h f
  rd h p _ := p.spot = none ∧ ∃ b, hcell h p = some (.map (some b))
  len o := by obtain ⟨b, rfl, _⟩ := o; rfl
  one o v hv := by
    obtain ⟨b, rfl, _⟩ := o
    simp at hv
    subst hv
    rfl
  loc o hb := by obtain ⟨b, h1, h2⟩ := o; exact ⟨b, h1, loc_ownM h2 hb⟩
  toRd o hs hc := by
    obtain ⟨b, rfl, _⟩ := o
    have := hc 0 _ rfl
    rw [Addr.add_zero'] at this
    exact ⟨hs, b, this⟩
  ext r e := ⟨r.1, by obtain ⟨b, hb⟩ := r.2; exact ⟨b, e _ _ hb⟩⟩

/-- One of the maps, for a while. -/
theorem map_atS {α : Type} {vf : α → Value} {si : SlI} {h0 h : Heap} {L : List As} {s : Sl} {N : List (List (ByteArray × α))} {i : Nat} (S : Sep h0 h (ownSl si (eMS vf) s N :: L)) (hi : i < N.length) :
    ∃ b, (∀ p, At 1 s i p → hcell h p = some (.map (some b))) ∧ Sep h0 h (ownM vf (some b) N[i] :: ownSl si (eMS vf).raw s ((N.map .inl).set i (.inr [.map (some b)])) :: L) ∧
      ∀ h' L' M, Sep h0 h' (ownM vf (some b) M :: ownSl si (eMS vf).raw s ((N.map .inl).set i (.inr [.map (some b)])) :: L') → Sep h0 h' (ownSl si (eMS vf) s (N.set i M) :: L') := by
  obtain ⟨xs, hxc, S2⟩ := (Sep.raw.2 S).away (i := i) (x := N[i]) (by simpa using hi) (by simp)
  obtain ⟨f, b, rfl, _⟩ := S2.swap.get
  refine ⟨b, fun p hp => by have := hxc p hp 0 _ rfl; rwa [Addr.add_zero'] at this, S2.swap.conv loc_ownM fun f ⟨b', e, o⟩ => ?_, fun h' L' M S3 => ?_⟩
  · injection e with e _
    injection e with e
    injection e with e
    subst e
    exact ⟨f, List.Sublist.refl f, o⟩
  · have S4 : Sep h0 h' (ownEl (eMS vf) [.map (some b)] M :: ownSl si (eMS vf).raw s ((N.map .inl).set i (.inr [.map (some b)])) :: L') := S3.conv loc_ownEl fun f o => ⟨f, List.Sublist.refl f, b, rfl, o⟩
    have S5 := S4.swap.back (i := i) (by simpa using hi) (by simp)
    refine Sep.raw.1 (S5.cast ?_)
    congr 2
    rw [List.set_set, List.map_set]

theorem mln_ruleS {α : Type} {vf : α → Value} {h0 h : Heap} {L : List As} {b : Nat} {l : List (ByteArray × α)} {K : Int → Prop} (S : Sep h0 h (ownM vf (some b) l :: L)) (hK : K l.length) : mln (some b) h K := by
  obtain ⟨f, b', es, clock, e, hb, he, _⟩ := S.get
  injection e with e
  subst e
  have : es.size = l.length := by have := congrArg List.length he; simpa using this
  exact ⟨es, clock, hb, by rw [this]; exact hK⟩
/-- Maps that may not be there yet. -/
def eMN {α : Type} (vf : α → Value) : Elem (Option (List (ByteArray × α))) where
  size := 1
  own xs o h f := match o with
    | some l => ∃ b, xs = [.map (some b)] ∧ ownM vf (some b) l h f
    | none => xs = [.map none] ∧ f = []
  rd h p o := match o with
    | some _ => p.spot = none ∧ ∃ b, hcell h p = some (.map (some b))
    | none => True
  len := by
    rintro xs (_ | l) h f o
    · rw [o.1]; rfl
    · obtain ⟨b, rfl, _⟩ := o; rfl
  one := by
    rintro xs (_ | l) h f o v hv
    · rw [o.1] at hv; simp at hv; subst hv; rfl
    · obtain ⟨b, rfl, _⟩ := o; simp at hv; subst hv; rfl
  loc := by
    rintro xs (_ | l) h f h' o hb
    · exact o
    · obtain ⟨b, h1, h2⟩ := o; exact ⟨b, h1, loc_ownM h2 hb⟩
  toRd := by
    rintro xs (_ | l) h f p o hs hc
    · exact trivial
    · obtain ⟨b, rfl, _⟩ := o
      have := hc 0 _ rfl
      rw [Addr.add_zero'] at this
      exact ⟨hs, b, this⟩
  ext := by
    rintro h h' p (_ | l) r e
    · exact trivial
    · exact ⟨r.1, by obtain ⟨b, hb⟩ := r.2; exact ⟨b, e _ _ hb⟩⟩
theorem Row.allN {α : Type} {vf : α → Value} : ∀ {l : List (List (ByteArray × α))} {vs : List Value} {h : Heap} {f : List Nat}, Row (eMN vf) vs (l.map some) h f → Row (eMS vf) vs l h f
  | [], _, _, _, r => r
  | x :: l, vs, h, f, r => by
    obtain ⟨xs, vs', f1, f2, e1, e2, ho, hr⟩ := r
    exact ⟨xs, vs', f1, f2, e1, e2, ho, Row.allN hr⟩
/-- All of them are there. -/
theorem Sep.allN {α : Type} {vf : α → Value} {si : SlI} {h0 h : Heap} {L : List As} {s : Sl} {l : List (List (ByteArray × α))} (S : Sep h0 h (ownSl si (eMN vf) s (l.map some) :: L)) : Sep h0 h (ownSl si (eMS vf) s l :: L) :=
  S.conv loc_ownSl fun f o => by
    obtain ⟨h1, vs, f', h2, h3, h4, h5, h6⟩ := o
    exact ⟨f, List.Sublist.refl f, h1, vs, f', h2, by simpa using h3, by simpa using h4, Row.allN h5, h6⟩
theorem mdl_ext {d : TypeDesc} {b : Nat} {key : Value} {h : Heap} {K : Heap → Prop} (H : mdl d (some b) key h K) : mdl d (some b) key h fun h' => K h' ∧ hExt h h' := by
  obtain ⟨h1, es, clock, r, hb, hf, hK⟩ := H
  have hset : ∀ o, hExt h (h.setIfInBounds b (.map o clock)) := fun o p v hv => by
    unfold hcell at hv ⊢
    by_cases e : b = p.block
    · subst e
      rw [hb] at hv
      cases hv
    · rw [Array.getElem?_setIfInBounds_ne e]
      exact hv
  refine ⟨h1, es, clock, r, hb, hf, ?_⟩
  rcases r with _ | ⟨i, x⟩
  · exact ⟨hK, hset _⟩
  · exact ⟨hK, hset _⟩
theorem mdl_mono {d : TypeDesc} {b : Nat} {key : Value} {h : Heap} {K K' : Heap → Prop} (H : mdl d (some b) key h K) (hk : ∀ h', K h' → K' h') : mdl d (some b) key h K' := by
  obtain ⟨h1, es, clock, r, hb, hf, hK⟩ := H
  exact ⟨h1, es, clock, r, hb, hf, hk _ hK⟩
theorem RV.bx_ext {α : Type} {E : RV α} {hb h h' : Heap} {p : Addr} {x : α} (r : E.bx hb h p x) (e : hExt h h') : E.bx hb h' p x := by
  obtain ⟨hs, cs, hc, hr⟩ := r
  exact ⟨hs, cs, fun j v hj => e _ _ (hc j v hj), hr⟩
theorem ext_tr {a b c : Heap} (h : hExt a b) (k : hExt b c) : hExt a c := fun p v hv => k p v (h p v hv)

end Go.Fw
