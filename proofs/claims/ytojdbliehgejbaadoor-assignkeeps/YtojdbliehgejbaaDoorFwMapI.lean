/-
  Maps that are keyed by numbers, whose values are of one cell and own nothing.
-/
import Derived.Test.YtojdbliehgejbaaDoorFwRow
import Derived.Test.YtojdbliehgejbaaDoorFwDec
namespace Go.Fw.I

theorem map_erase {α β : Type} (f : α → β) : ∀ (l : List α) (i : Nat), (l.eraseIdx i).map f = (l.map f).eraseIdx i
  | [], _ => rfl
  | _ :: _, 0 => rfl
  | _ :: l, i + 1 => by simp [List.eraseIdx, map_erase f l i]

/-! Lists of keys and values -/
def aget {α : Type} (k : Int) : List (Int × α) → Option α
  | [] => none
  | p :: l => if k = p.1 then some p.2 else aget k l
def aput {α : Type} (k : Int) (x : α) : List (Int × α) → List (Int × α)
  | [] => [(k, x)]
  | p :: l => if k = p.1 then (k, x) :: l else p :: aput k x l
def adel {α : Type} (k : Int) : List (Int × α) → List (Int × α)
  | [] => []
  | p :: l => if k = p.1 then l else p :: adel k l
theorem aget_put {α : Type} (k k' : Int) (x : α) : ∀ l : List (Int × α), aget k (aput k' x l) = if k = k' then some x else aget k l
  | [] => by simp [aput, aget]
  | p :: l => by
    unfold aput
    split
    · rename_i h
      unfold aget
      simp only
      by_cases hk : k = k'
      · simp [hk]
      · rw [← h]; simp [hk]
    · rename_i h
      unfold aget
      rw [aget_put k k' x l]
      by_cases hp : k = p.1
      · rw [if_pos hp, if_pos hp]
        by_cases hk : k = k'
        · exact absurd (hk.symm.trans hp) h
        · rw [if_neg hk]
      · rw [if_neg hp, if_neg hp]

/-- A map's entries, as a list. -/
def Ents {α : Type} (vf : α → Value) (es : Array MapEntry) (l : List (Int × α)) : Prop := es.toList.map (fun e => (e.key, e.val)) = l.map fun p => (Value.int .i64 p.1, vf p.2)

theorem find_ents {α : Type} {vf : α → Value} (k : Int) : ∀ (es : List MapEntry) (l : List (Int × α)) (i : Nat), es.map (fun e => (e.key, e.val)) = l.map (fun p => (Value.int .i64 p.1, vf p.2)) →
    (aget k l = none ∧ Instr.findNow (.int .i64) (.int .i64 k) es i = some none ∧ (∀ x, aput k x l = l ++ [(k, x)]) ∧ adel k l = l) ∨
    ∃ j x, aget k l = some x ∧ j < l.length ∧ Instr.findNow (.int .i64) (.int .i64 k) es i = some (some (i + j, vf x)) ∧ (∀ y, aput k y l = l.set j (k, y)) ∧ adel k l = l.eraseIdx j
  | [], [], i, _ => .inl ⟨rfl, rfl, fun _ => rfl, rfl⟩
  | [], _ :: _, _, h => by simp at h
  | _ :: _, [], _, h => by simp at h
  | e :: es, p :: l, i, h => by
    simp only [List.map_cons, List.cons.injEq, Prod.mk.injEq] at h
    obtain ⟨⟨hk, hv⟩, h⟩ := h
    by_cases hkp : k = p.1
    · right
      refine ⟨0, p.2, by simp [aget, hkp], by simp, ?_, fun y => by simp [aput, hkp], by simp [adel, hkp]⟩
      have hs : Instr.sameNow (.int .i64) (.int .i64 k) e.key = some true := by
        obtain ⟨r, hr, hiff⟩ := MapKept.sameNow_of_keys (d := .int .i64) (a := .int .i64 k) (b := e.key) rfl (by rw [hk]; rfl)
        have : r = true := hiff.2 (by rw [hk, hkp])
        rw [hr, this]
      rw [Instr.findNow, hs]
      simp [hv]
    · have hs : Instr.sameNow (.int .i64) (.int .i64 k) e.key = some false := by
        obtain ⟨r, hr, hiff⟩ := MapKept.sameNow_of_keys (d := .int .i64) (a := .int .i64 k) (b := e.key) rfl (by rw [hk]; rfl)
        cases r with
        | false => exact hr
        | true =>
          have := hiff.1 rfl
          rw [hk] at this
          injection this with _ this
          exact absurd this hkp
      have hf : ∀ r, Instr.findNow (.int .i64) (.int .i64 k) es (i + 1) = r → Instr.findNow (.int .i64) (.int .i64 k) (e :: es) i = r := fun r hr => by
        rw [Instr.findNow, hs]; exact hr
      rcases find_ents k es l (i + 1) h with ⟨h1, h2, h3, h4⟩ | ⟨j, x, h1, h2, h3, h4, h5⟩
      · exact .inl ⟨by simp [aget, hkp, h1], hf _ h2, fun x => by simp [aput, hkp, h3], by simp [adel, hkp, h4]⟩
      · refine .inr ⟨j + 1, x, by simp [aget, hkp, h1], by simp; omega, hf _ (by rw [h3]; simp; omega), fun y => by simp [aput, hkp, h4], by simp [adel, hkp, h5]⟩

/-- A map to read from. -/
def rdM {α : Type} (vf : α → Value) (h : Heap) (m : Option Nat) (l : List (Int × α)) : Prop := ∃ b es clock, m = some b ∧ h[b]? = some (.map es clock) ∧ Ents vf es l
theorem rdM.old {α : Type} {vf : α → Value} {h h' : Heap} {m : Option Nat} {l : List (Int × α)} (r : rdM vf h m l) (o : Old h h') : rdM vf h' m l := by
  obtain ⟨b, es, clock, rfl, hb, he⟩ := r
  exact ⟨b, es, clock, rfl, by rw [o.block b (Array.getElem?_eq_some_iff.1 hb).1]; exact hb, he⟩
/-- A map of one's own. -/
def ownM {α : Type} (vf : α → Value) (m : Option Nat) (l : List (Int × α)) : As := fun h f => ∃ b es clock, m = some b ∧ h[b]? = some (.map es clock) ∧ Ents vf es l ∧ MapKept.Stamped es clock ∧ f = [b]
theorem loc_ownM {α : Type} {vf : α → Value} {m : Option Nat} {l : List (Int × α)} : Loc (ownM vf m l) := by
  rintro h h' f ⟨b, es, clock, rfl, hb, he, hst, rfl⟩ hs
  exact ⟨b, es, clock, rfl, by rw [hs b (by simp)]; exact hb, he, hst, rfl⟩
theorem rdM_of {α : Type} {vf : α → Value} {h0 h : Heap} {L : List As} {m : Option Nat} {l : List (Int × α)} (S : Sep h0 h (ownM vf m l :: L)) : I.rdM vf h m l := by
  obtain ⟨f, b, es, clock, rfl, hb, he, _⟩ := S.get
  exact ⟨b, es, clock, rfl, hb, he⟩

theorem mkm_rule {α : Type} {vf : α → Value} {h0 h : Heap} {L : List As} {K : Option Nat → Heap → Prop} (S : Sep h0 h L) (hK : ∀ m h', Old h h' → Sep h0 h' (ownM vf m ([] : List (Int × α)) :: L) → K m h') : mkm h K := by
  refine hK _ _ (Old.push _ _) ?_
  refine Sep.step (M := []) (M' := [ownM vf _ []]) S (fun A hA => by rw [List.mem_singleton.1 hA]; exact loc_ownM) ?_
  rintro f rfl _ _
  refine ⟨[h.size], ⟨[h.size], [], rfl, ⟨h.size, #[], 0, rfl, Array.getElem?_push_size, rfl, MapKept.stamped_empty 0, rfl⟩, rfl⟩, by simp, by simp, fun b hb _ => ?_, fun b hb => ?_⟩
  · rw [Array.getElem?_push_lt hb]; exact (Array.getElem?_eq_getElem hb).symm
  · simp at hb; subst hb; simp
theorem mlk_rule {α : Type} {vf : α → Value} {h : Heap} {m : Option Nat} {l : List (Int × α)} {k : Int} {K : Option Value → Prop} (r : rdM vf h m l) (hK : K ((aget k l).map vf)) : mlk (.int .i64) m (.int .i64 k) h K := by
  obtain ⟨b, es, clock, rfl, hb, he⟩ := r
  refine ⟨rfl, ?_⟩
  rcases find_ents k es.toList l 0 he with ⟨h1, h2, _⟩ | ⟨j, x, h1, _, h2, _⟩
  · exact ⟨es, clock, _, hb, h2, by rw [h1] at hK; exact hK⟩
  · exact ⟨es, clock, _, hb, h2, by rw [h1] at hK; exact hK⟩
theorem ents_keys {α : Type} {vf : α → Value} {es : Array MapEntry} {l : List (Int × α)} (he : Ents vf es l) : ∀ x ∈ es.toList, MapKept.IsKey (.int .i64) x.key := by
  intro x hx
  have : (x.key, x.val) ∈ l.map fun p => (Value.int .i64 p.1, vf p.2) := he ▸ List.mem_map.2 ⟨x, hx, rfl⟩
  obtain ⟨p, _, hp⟩ := List.mem_map.1 this
  simp only [Prod.mk.injEq] at hp
  rw [← hp.1]
  rfl
theorem map_step {α : Type} {vf : α → Value} {h0 h : Heap} {L : List As} {b : Nat} {l l' : List (Int × α)} {es es' : Array MapEntry} {clock clock' : Nat} (S : Sep h0 h (ownM vf (some b) l :: L)) (hb : h[b]? = some (.map es clock)) (he : Ents vf es' l') (hst : MapKept.Stamped es' clock') :
    Sep h0 (h.setIfInBounds b (.map es' clock')) (ownM vf (some b) l' :: L) := by
  have hlt := (Array.getElem?_eq_some_iff.1 hb).1
  refine Sep.step (M := [ownM vf (some b) l]) (M' := [ownM vf (some b) l']) S (fun A hA => by rw [List.mem_singleton.1 hA]; exact loc_ownM) ?_
  rintro f ⟨f1, f2, rfl, ⟨b', es2, c2, hbb, _, _, _, rfl⟩, rfl⟩ _ hlt2
  injection hbb with hbb
  subst hbb
  refine ⟨[b], ⟨[b], [], rfl, ⟨b, es', clock', rfl, by simp [hlt], he, hst, rfl⟩, rfl⟩, by simp, by simp, fun c hc hn => ?_, fun c hc => ⟨.inl (by simpa using hc), by simp at hc; subst hc; simpa using hlt⟩⟩
  have : ¬ b = c := fun e => hn (by simp [e])
  simp [this]
theorem mup_rule {α : Type} {vf : α → Value} {h0 h : Heap} {L : List As} {m : Option Nat} {l : List (Int × α)} {k : Int} {x : α} {v : Value} {K : Heap → Prop} (S : Sep h0 h (ownM vf m l :: L)) (hv : v = vf x)
    (hK : ∀ h', Sep h0 h' (ownM vf m (aput k x l) :: L) → K h') : mup (.int .i64) m (.int .i64 k) v h K := by
  subst hv
  obtain ⟨f, b, es, clock, rfl, hb, he, hst, _⟩ := S.get
  refine ⟨b, es, clock, rfl, hb, rfl, ents_keys he, fun r hr => ?_⟩
  rcases find_ents k es.toList l 0 he with ⟨h1, h2, h3, _⟩ | ⟨j, y, h1, hj, h2, h3, _⟩
  · rw [h2] at hr
    injection hr with hr
    subst hr
    have hne : ∀ x ∈ es.toList, x.key ≠ .int .i64 k := by
      rcases MapKept.findNow_spec (d := .int .i64) (k := .int .i64 k) rfl es.toList 0 (ents_keys he) with ⟨_, q⟩ | ⟨z, e, q, _⟩
      · exact q
      · rw [h2] at q; cases q
    refine hK _ (map_step S hb ?_ (MapKept.stamped_push hst hne))
    rw [h3]
    unfold Ents at he ⊢
    simp [he]
  · rw [h2] at hr
    injection hr with hr
    subst hr
    have hkey : ∀ e', es[0 + j]? = some e' → Value.int .i64 k = e'.key := fun e' he' => by
      rcases MapKept.findNow_spec (d := .int .i64) (k := Value.int .i64 k) rfl es.toList 0 (ents_keys he) with ⟨q, _⟩ | ⟨z, e, q1, q2, q3⟩
      · rw [h2] at q; cases q
      · rw [h2] at q1
        injection q1 with q1
        injection q1 with q1
        have q1 := congrArg Prod.fst q1
        simp only at q1
        have : z = 0 + j := by omega
        subst this
        rw [Array.getElem?_toList, he'] at q2
        injection q2 with q2
        rw [q2, q3]
    refine hK _ (map_step S hb ?_ (MapKept.stamped_modify hst _ _ (fun _ _ => rfl) fun e' _ he' => hkey e' he'))
    rw [h3]
    unfold Ents at he ⊢
    rw [Nat.zero_add]
    have hl : es.toList.length = l.length := by have := congrArg List.length he; simpa using this
    rw [Array.toList_modify, List.map_set, ← he]
    refine List.ext_getElem (by simp) fun i h1 h2 => ?_
    simp only [List.getElem_map, List.getElem_modify, List.getElem_set]
    by_cases e : j = i <;> simp [e]
theorem mdl_rule {α : Type} {vf : α → Value} {h0 h : Heap} {L : List As} {m : Option Nat} {l : List (Int × α)} {k : Int} {K : Heap → Prop} (S : Sep h0 h (ownM vf m l :: L))
    (hK : ∀ h', Sep h0 h' (ownM vf m (adel k l) :: L) → K h') : mdl (.int .i64) m (.int .i64 k) h K := by
  obtain ⟨f, b, es, clock, rfl, hb, he, hst, _⟩ := S.get
  refine ⟨rfl, ?_⟩
  rcases find_ents k es.toList l 0 he with ⟨h1, h2, _, h3⟩ | ⟨j, y, h1, hj, h2, _, h3⟩
  · refine ⟨es, clock, _, hb, h2, hK _ (map_step S hb ?_ hst)⟩
    rw [h3]; exact he
  · refine ⟨es, clock, _, hb, h2, hK _ (map_step S hb ?_ (MapKept.stamped_erase hst _))⟩
    rw [h3]
    unfold Ents at he ⊢
    rw [Nat.zero_add]
    have hl : es.toList.length = l.length := by have := congrArg List.length he; simpa using this
    rw [Array.eraseIdxIfInBounds, dif_pos (by rw [← Array.length_toList, hl]; exact hj), Array.toList_eraseIdx, map_erase, map_erase, he]

end Go.Fw.I

/-
  Lists of maps of one's own.
-/
namespace Go.Fw
open Go.Fw.I

/-- A map of one's own, as an element. -/
def eM {α : Type} (vf : α → Value) : Elem (List (Int × α)) where
  size := 1
  own xs l h f := ∃ b, xs = [.map (some b)] ∧ I.ownM vf (some b) l h f
  rd h p _ := p.spot = none ∧ ∃ b, hcell h p = some (.map (some b))
  len o := by obtain ⟨b, rfl, _⟩ := o; rfl
  one o v hv := by
    obtain ⟨b, rfl, _⟩ := o
    simp at hv
    subst hv
    rfl
  loc o hb := by obtain ⟨b, h1, h2⟩ := o; exact ⟨b, h1, I.loc_ownM h2 hb⟩
  toRd o hs hc := by
    obtain ⟨b, rfl, _⟩ := o
    have := hc 0 _ rfl
    rw [Addr.add_zero'] at this
    exact ⟨hs, b, this⟩
  ext r e := ⟨r.1, by obtain ⟨b, hb⟩ := r.2; exact ⟨b, e _ _ hb⟩⟩

/-- One of the maps, for a while. -/
theorem map_at {α : Type} {vf : α → Value} {si : SlI} {h0 h : Heap} {L : List As} {s : Sl} {N : List (List (Int × α))} {i : Nat} (S : Sep h0 h (ownSl si (eM vf) s N :: L)) (hi : i < N.length) :
    ∃ b, (∀ p, At 1 s i p → hcell h p = some (.map (some b))) ∧ Sep h0 h (I.ownM vf (some b) N[i] :: ownSl si (eM vf).raw s ((N.map .inl).set i (.inr [.map (some b)])) :: L) ∧
      ∀ h' L' M, Sep h0 h' (I.ownM vf (some b) M :: ownSl si (eM vf).raw s ((N.map .inl).set i (.inr [.map (some b)])) :: L') → Sep h0 h' (ownSl si (eM vf) s (N.set i M) :: L') := by
  obtain ⟨xs, hxc, S2⟩ := (Sep.raw.2 S).away (i := i) (x := N[i]) (by simpa using hi) (by simp)
  obtain ⟨f, b, rfl, _⟩ := S2.swap.get
  refine ⟨b, fun p hp => by have := hxc p hp 0 _ rfl; rwa [Addr.add_zero'] at this, S2.swap.conv I.loc_ownM fun f ⟨b', e, o⟩ => ?_, fun h' L' M S3 => ?_⟩
  · injection e with e _
    injection e with e
    injection e with e
    subst e
    exact ⟨f, List.Sublist.refl f, o⟩
  · have S4 : Sep h0 h' (ownEl (eM vf) [.map (some b)] M :: ownSl si (eM vf).raw s ((N.map .inl).set i (.inr [.map (some b)])) :: L') := S3.conv loc_ownEl fun f o => ⟨f, List.Sublist.refl f, b, rfl, o⟩
    have S5 := S4.swap.back (i := i) (by simpa using hi) (by simp)
    refine Sep.raw.1 (S5.cast ?_)
    congr 2
    rw [List.set_set, List.map_set]

theorem mln_rule {α : Type} {vf : α → Value} {h0 h : Heap} {L : List As} {b : Nat} {l : List (Int × α)} {K : Int → Prop} (S : Sep h0 h (I.ownM vf (some b) l :: L)) (hK : K l.length) : mln (some b) h K := by
  obtain ⟨f, b', es, clock, e, hb, he, _⟩ := S.get
  injection e with e
  subst e
  have : es.size = l.length := by have := congrArg List.length he; simpa using this
  exact ⟨es, clock, hb, by rw [this]; exact hK⟩
theorem nil_some {p : Addr} {K : Addr → Prop} (h : K p) : nilck (some p) K := h
/-- A map's change leaves the cells alone. -/
theorem mup_ext {d : TypeDesc} {m : Option Nat} {key val : Value} {h : Heap} {K : Heap → Prop} (H : mup d m key val h K) : mup d m key val h fun h' => K h' ∧ hExt h h' := by
  obtain ⟨b, es, clock, rfl, hb, h1, h2, h3⟩ := H
  refine ⟨b, es, clock, rfl, hb, h1, h2, fun r hr => ⟨h3 r hr, fun p v hv => ?_⟩⟩
  have hset : ∀ o, hcell (h.setIfInBounds b o) p = some v := fun o => by
    unfold hcell at hv ⊢
    by_cases e : b = p.block
    · subst e
      rw [hb] at hv
      cases hv
    · rw [Array.getElem?_setIfInBounds_ne e]
      exact hv
  rcases r with _ | ⟨i, x⟩
  · exact hset _
  · exact hset _
theorem mup_mono {d : TypeDesc} {m : Option Nat} {key val : Value} {h : Heap} {K K' : Heap → Prop} (H : mup d m key val h K) (hk : ∀ h', K h' → K' h') : mup d m key val h K' := by
  obtain ⟨b, es, clock, rfl, hb, h1, h2, h3⟩ := H
  exact ⟨b, es, clock, rfl, hb, h1, h2, fun r hr => hk _ (h3 r hr)⟩
/-- A box's value, as it was laid. -/
theorem ld_aggX {α : Type} {E : RV α} {hb h : Heap} {p : Addr} {n : Nat} {x : α} {K : Array Value → Prop} (r : E.bx hb h p x) (hn : n = E.size) (hK : ∀ cs : Array Value, E.rv hb cs.toList x → K cs) : ld (.agg n) h p K := by
  obtain ⟨_, c, h1, h2⟩ := r
  exact ⟨c.toArray, ⟨by simp [E.len h2, hn], fun j v hj => h1 j v (by simpa using hj)⟩, hK _ (by simpa using h2)⟩

end Go.Fw
