/-
  A box of one's own, beside what else is one's own.
-/
import Derived.Test.YtojdbliehgejbaaDoorFwDec
namespace Go.Fw

def boxA {α : Type} (E : RV α) (hb : Heap) (p : Addr) (x : α) : As := fun h f => f = [p.block] ∧ p.off = 0 ∧ p.spot = none ∧ ∃ (cs : Array Value) (t : TypeId) (fr : Nat × Nat), h[p.block]? = some (.cells cs t fr) ∧ E.rv hb cs.toList x
theorem loc_boxA {α : Type} {E : RV α} {hb : Heap} {p : Addr} {x : α} : Loc (boxA E hb p x) := by
  rintro h h' f ⟨rfl, h1, h2, cs, t, fr, h3, h4⟩ hs
  exact ⟨rfl, h1, h2, cs, t, fr, by rw [hs _ (by simp)]; exact h3, h4⟩
theorem Sep.bx {α : Type} {E : RV α} {hb h0 h : Heap} {p : Addr} {x : α} {L : List As} (S : Sep h0 h (boxA E hb p x :: L)) : E.bx hb h p x := by
  obtain ⟨f, _, h1, h2, cs, t, fr, h3, h4⟩ := S.get
  refine ⟨h2, cs.toList, fun j v hj => ?_, h4⟩
  obtain ⟨b, o, s⟩ := p
  simp only at h1 h2 h3
  subst h1 h2
  rw [Addr.add_none, Nat.zero_add]
  unfold hcell
  simp only [h3]
  simpa using hj
theorem new_stB {α : Type} {E : RV α} {hb h0 h : Heap} {t : TypeId} {zs cs : Array Value} {x : α} {n : Nat} {L : List As} {K : Addr → Heap → Prop} (S : Sep h0 h L) (r : E.rv hb cs.toList x) (hz : zs.size = E.size) (hn : n = E.size)
    (hK : ∀ p h', Sep h0 h' (boxA E hb p x :: L) → K p h') : new t zs h fun p h1 => cs.size = n ∧ st cs.toList h1 p fun h2 => K p h2 := by
  have hcs : cs.size = E.size := by have := E.len r; simpa using this
  refine ⟨by rw [hcs, hn], fun j hj => ?_, E.one r, hK _ _ ?_⟩
  · rw [Addr.add_none, Nat.zero_add]
    unfold hcell hfrozen
    simp only [Array.getElem?_push_size]
    have : j < zs.size := by rw [hz, ← hcs]; simpa using hj
    simp [this]
  · have hg := hsets_same (g := h.size) (e := t) cs.toList (h.push (.cells zs t)) zs 0 0 Array.getElem?_push_size
    rw [Nat.add_zero] at hg
    have hp := putAt_eq cs.toList zs 0 (by simp [hcs, hz])
    simp only [List.take_zero, List.nil_append, Nat.zero_add] at hp
    have hp2 : (putAt zs 0 cs.toList).toList = cs.toList := by
      rw [hp, List.drop_of_length_le (by simp [hcs, hz]), List.append_nil]
    have old : ∀ b, b < h.size → (hsets (h.push (.cells zs t)) ⟨h.size, 0, none⟩ cs.toList 0)[b]? = h[b]? := fun b hb => by
      rw [hsets_other _ _ _ _ (show b ≠ h.size by omega) rfl]
      exact (Old.push h _).block b hb
    refine Sep.step (M := []) (M' := [boxA E hb ⟨h.size, 0, none⟩ x]) S (fun A hA => by rw [List.mem_singleton.1 hA]; exact loc_boxA) ?_
    rintro f rfl _ _
    refine ⟨[h.size], ⟨[h.size], [], rfl, ⟨rfl, rfl, rfl, _, _, _, hg, by rw [hp2]; exact r⟩, rfl⟩, by simp, by rw [size_hsets]; simp, fun b hb _ => old b hb, fun b hb => ?_⟩
    simp at hb
    subst hb
    simp [size_hsets]

end Go.Fw

/-
  Boxes by their cells; elements that read from an older memory.
-/
namespace Go.Fw

def rawB (p : Addr) (cs : Array Value) : As := fun h f => f = [p.block] ∧ p.off = 0 ∧ p.spot = none ∧ ∃ t, h[p.block]? = some (.cells cs t (0, 0))
theorem loc_rawB {p : Addr} {cs : Array Value} : Loc (rawB p cs) := by
  rintro h h' f ⟨rfl, h1, h2, t, h3⟩ hs
  exact ⟨rfl, h1, h2, t, by rw [hs _ (by simp)]; exact h3⟩
theorem rawB_cell {h0 h : Heap} {p : Addr} {cs : Array Value} {L : List As} (S : Sep h0 h (rawB p cs :: L)) : p.spot = none ∧ ∀ i, hcell h (p.add i) = cs[i]? := by
  obtain ⟨f, _, h1, h2, t, h3⟩ := S.get
  refine ⟨h2, fun i => ?_⟩
  obtain ⟨b, o, s⟩ := p
  simp only at h1 h2 h3
  subst h1 h2
  rw [Addr.add_none, Nat.zero_add]
  unfold hcell
  simp only [h3]
  simp
/-- One cell of it. -/
theorem ld_rawB {h0 h : Heap} {p : Addr} {cs : Array Value} {L : List As} {i : Nat} {k : TK} {x : k.T} {K : k.T → Prop} (S : Sep h0 h (rawB p cs :: L)) (hk : k.isAgg = false) (hv : cs[i]? = some (k.val x)) (hK : K x) : ld k h (p.add i) K := by
  have hc := (rawB_cell S).2 i
  rw [hv] at hc
  refine ⟨x, ?_, hK⟩
  cases k <;> first | exact hc | cases hk
/-- All of it. -/
theorem ld_rawAgg {h0 h : Heap} {p : Addr} {cs : Array Value} {L : List As} {n : Nat} {K : Array Value → Prop} (S : Sep h0 h (rawB p cs :: L)) (hn : n = cs.size) (hK : K cs) : ld (.agg n) h p K :=
  ⟨cs, ⟨hn.symm, fun j v hj => by rw [(rawB_cell S).2 j]; exact hj⟩, hK⟩
theorem new_rawB {h0 h : Heap} {t : TypeId} {cs : Array Value} {L : List As} {K : Addr → Heap → Prop} (S : Sep h0 h L) (hK : ∀ p h', Old h h' → Sep h0 h' (rawB p cs :: L) → K p h') : new t cs h K := by
  refine hK _ _ (Old.push _ _) ?_
  refine Sep.step (M := []) (M' := [rawB ⟨h.size, 0, none⟩ cs]) S (fun A hA => by rw [List.mem_singleton.1 hA]; exact loc_rawB) ?_
  rintro f rfl _ _
  refine ⟨[h.size], ⟨[h.size], [], rfl, ⟨rfl, rfl, rfl, t, Array.getElem?_push_size⟩, rfl⟩, by simp, by simp, fun b hb _ => (Old.push h _).block b hb, fun b hb => ?_⟩
  simp at hb
  subst hb
  simp
theorem st_rawsB {h0 h : Heap} {p : Addr} {cs : Array Value} {vs : List Value} {L : List As} {i : Nat} {K : Heap → Prop} (S : Sep h0 h (rawB p cs :: L)) (hi : i + vs.length ≤ cs.size) (h1 : ∀ v ∈ vs, v.oneCell' = true)
    (hK : ∀ h', Sep h0 h' (rawB p (putAt cs i vs) :: L) → K h') : st vs h (p.add i) K := by
  obtain ⟨f, _, p1, p2, t, p3⟩ := S.get
  have hc := (rawB_cell S).2
  have hsp := (rawB_cell S).1
  obtain ⟨b, o, s⟩ := p
  simp only at p1 p2 p3
  subst p1 p2
  rw [Addr.add_none, Nat.zero_add] at *
  refine ⟨fun j hj => ?_, h1, hK _ ?_⟩
  · rw [Addr.add_none]
    unfold hcell hfrozen
    simp only [p3]
    refine ⟨?_, by simp⟩
    rw [show cs[i + j]? = some _ from Array.getElem?_eq_getElem (by omega)]; rfl
  · have hg := hsets_same (g := b) vs h cs i 0 p3
    rw [Nat.add_zero] at hg
    refine Sep.step (M := [rawB ⟨b, 0, none⟩ cs]) (M' := [rawB ⟨b, 0, none⟩ (putAt cs i vs)]) S (fun A hA => by rw [List.mem_singleton.1 hA]; exact loc_rawB) ?_
    rintro z ⟨q1, q2, rfl, ⟨rfl, _⟩, rfl⟩ hnd hlt
    simp only [List.append_nil] at hnd hlt ⊢
    refine ⟨[b], ⟨[b], [], rfl, ⟨rfl, rfl, rfl, t, hg⟩, rfl⟩, hnd, by rw [size_hsets]; exact Nat.le_refl _, fun x _ hx => ?_, fun x hx => ⟨.inl hx, by rw [size_hsets]; exact hlt x hx⟩⟩
    exact hsets_other vs h 0 x (fun e => hx (by simp [e])) rfl
theorem st_rawB {h0 h : Heap} {p : Addr} {cs : Array Value} {v : Value} {L : List As} {i : Nat} {K : Heap → Prop} (S : Sep h0 h (rawB p cs :: L)) (hi : i < cs.size) (h1 : v.oneCell' = true)
    (hK : ∀ h', Sep h0 h' (rawB p (cs.setIfInBounds i v) :: L) → K h') : st [v] h (p.add i) K :=
  st_rawsB S (by simp; omega) (fun u hu => by rw [List.mem_singleton.1 hu]; exact h1) fun h' S' => hK h' S'
/-- Laid out of zeros, filled then. -/
theorem new_stR {h0 h : Heap} {t : TypeId} {zs cs : Array Value} {n : Nat} {L : List As} {K : Addr → Heap → Prop} (S : Sep h0 h L) (hz : zs.size = n) (hn : cs.size = n) (h1 : ∀ v ∈ cs.toList, v.oneCell' = true)
    (hK : ∀ p h', Sep h0 h' (rawB p cs :: L) → K p h') : new t zs h fun p h1 => cs.size = n ∧ st cs.toList h1 p fun h2 => K p h2 := by
  refine new_rawB S fun p h1' o1 S1 => ⟨hn, ?_⟩
  have e : putAt zs 0 cs.toList = cs := by
    have hp := putAt_eq cs.toList zs 0 (by simp; omega)
    simp only [List.take_zero, List.nil_append, Nat.zero_add] at hp
    rw [List.drop_of_length_le (by simp; omega), List.append_nil] at hp
    exact Array.toList_inj.1 hp
  have := st_rawsB (i := 0) (vs := cs.toList) (K := fun h2 => K p h2) S1 (by simp; omega) h1 (fun h' S' => by
    rw [e] at S'
    exact hK p h' S')
  rw [Addr.add_zero'] at this
  exact this

/-! Elements that read from an older memory -/
def RV.fl {α : Type} (E : RV α) (hb : Heap) : Elem α where
  size := E.size
  own xs x _ f := E.rv hb xs x ∧ f = []
  rd h p x := p.spot = none ∧ ∃ cs, (∀ j v, cs[j]? = some v → hcell h (p.add j) = some v) ∧ E.rv hb cs x
  len o := E.len o.1
  one o := E.one o.1
  loc o _ := o
  toRd o hs hc := ⟨hs, _, hc, o.1⟩
  ext r e := ⟨r.1, by obtain ⟨cs, h1, h2⟩ := r.2; exact ⟨cs, fun j v hj => e _ _ (h1 j v hj), h2⟩⟩
theorem RV.fl_flat {α : Type} (E : RV α) (hb : Heap) : (E.fl hb).Flat :=
  ⟨fun {h p x} r _ => by
    obtain ⟨_, cs, hc, hr⟩ := r
    exact ⟨cs, fun _ => ⟨hr, rfl⟩, hc⟩⟩
theorem RV.fl_el {α : Type} {E : RV α} {hb h : Heap} {s : Sl} {l : List α} (r : rdSl (E.fl hb) h s l) (e : hExt hb h) : rdSl E.el h s l := by
  obtain ⟨h1, h2, h3, h4, h5⟩ := r
  refine ⟨h1, h2, h3, h4, h5.imp id fun ⟨a, ha, hs, hr⟩ => ⟨a, ha, hs, fun i hi => ?_⟩⟩
  obtain ⟨q1, cs, q2, q3⟩ := hr i hi
  exact ⟨q1, cs, q2, E.ext q3 e⟩
theorem RV.el_fl {α : Type} {E : RV α} {hb h : Heap} {s : Sl} {l : List α} (r : rdSl E.el hb s l) (e : hExt hb h) : rdSl (E.fl hb) h s l := by
  obtain ⟨h1, h2, h3, h4, h5⟩ := r
  refine ⟨h1, h2, h3, h4, h5.imp id fun ⟨a, ha, hs, hr⟩ => ⟨a, ha, hs, fun i hi => ?_⟩⟩
  obtain ⟨q1, cs, q2, q3⟩ := hr i hi
  exact ⟨q1, cs, fun j v hj => e _ _ (q2 j v hj), q3⟩

end Go.Fw
