/-
  Maps that are keyed by strings, whose values are slices of one's own.
-/
import Derived.Test.YtgdfpdfkghmdpaaFwMap
namespace Go.Fw

variable {α : Type} {ri : SlI} {E : Elem α}

def VS (ri : SlI) (E : Elem α) (v : Value) (o : Option (List α)) (h : Heap) (f : List Nat) : Prop :=
  match o with
  | some x => ∃ s : Sl, v = s.v ∧ ownSl ri E s x h f
  | none => f = []
def MS (ri : SlI) (E : Elem α) : List MapEntry → List (ByteArray × Option (List α)) → Heap → List Nat → Prop
  | es, [], _, f => es = [] ∧ f = []
  | es, p :: l, h, f => ∃ e es' f1 f2, es = e :: es' ∧ f = f1 ++ f2 ∧ e.key = .string p.1 ∧ VS ri E e.val p.2 h f1 ∧ MS ri E es' l h f2
theorem VS.loc {v : Value} {o : Option (List α)} {h h' : Heap} {f : List Nat} (r : VS ri E v o h f) (hb : ∀ b ∈ f, h'[b]? = h[b]?) : VS ri E v o h' f := by
  cases o with
  | none => exact r
  | some x => obtain ⟨s, rfl, ho⟩ := r; exact ⟨s, rfl, ho.loc hb⟩
theorem MS.loc : ∀ {l : List (ByteArray × Option (List α))} {es : List MapEntry} {h h' : Heap} {f : List Nat}, MS ri E es l h f → (∀ b ∈ f, h'[b]? = h[b]?) → MS ri E es l h' f
  | [], _, _, _, _, r, _ => r
  | p :: l, _, _, _, _, r, hb => by
    obtain ⟨e, es', f1, f2, rfl, rfl, hk, hv, hr⟩ := r
    exact ⟨e, es', f1, f2, rfl, rfl, hk, hv.loc fun b h => hb b (by simp [h]), hr.loc fun b h => hb b (by simp [h])⟩
theorem MS.keys : ∀ {l : List (ByteArray × Option (List α))} {es : List MapEntry} {h : Heap} {f : List Nat}, MS ri E es l h f → es.map (fun e => e.key) = l.map fun p => Value.string p.1
  | [], _, _, _, r => by rw [r.1]; rfl
  | p :: l, _, _, _, r => by
    obtain ⟨e, es', f1, f2, rfl, rfl, hk, hv, hr⟩ := r
    simp [hk, hr.keys]
theorem MS.push : ∀ {l : List (ByteArray × Option (List α))} {es : List MapEntry} {h : Heap} {f g : List Nat} {e : MapEntry} {k : ByteArray} {o : Option (List α)}, MS ri E es l h f → e.key = .string k → VS ri E e.val o h g → MS ri E (es ++ [e]) (l ++ [(k, o)]) h (f ++ g)
  | [], _, _, _, g, e, k, o, r, hk, hv => by
    obtain ⟨rfl, rfl⟩ := r
    exact ⟨e, [], g, [], rfl, by simp, hk, hv, rfl, rfl⟩
  | p :: l, _, _, _, g, e, k, o, r, hk, hv => by
    obtain ⟨e', es', f1, f2, rfl, rfl, hk', hv', hr⟩ := r
    exact ⟨e', es' ++ [e], f1, f2 ++ g, rfl, by simp, hk', hv', hr.push hk hv⟩
theorem MS.set : ∀ {l : List (ByteArray × Option (List α))} {es : List MapEntry} {h : Heap} {f : List Nat} {j : Nat} (_ : MS ri E es l h f) (hj : j < l.length),
    ∃ e f1 f2 f3, es[j]? = some e ∧ f = f1 ++ f2 ++ f3 ∧ e.key = .string l[j].1 ∧ VS ri E e.val l[j].2 h f2 ∧ ∀ (e' : MapEntry) (k : ByteArray) (o : Option (List α)) (g : List Nat), e'.key = .string k → VS ri E e'.val o h g → MS ri E (es.set j e') (l.set j (k, o)) h (f1 ++ g ++ f3)
  | p :: l, _, h, _, 0, r, _ => by
    obtain ⟨e, es', f1, f2, rfl, rfl, hk, hv, hr⟩ := r
    exact ⟨e, [], f1, f2, rfl, by simp, hk, hv, fun e' k o g hk' hv' => ⟨e', es', g, f2, rfl, by simp, hk', hv', hr⟩⟩
  | p :: l, _, h, _, j + 1, r, hj => by
    obtain ⟨e, es', f1, f2, rfl, rfl, hk, hv, hr⟩ := r
    obtain ⟨e2, g1, g2, g3, h1, rfl, hk2, h3, h4⟩ := hr.set (j := j) (by simpa using hj)
    refine ⟨e2, f1 ++ g1, g2, g3, by simpa using h1, by simp, hk2, h3, fun e' k o g hk' hv' => ?_⟩
    exact ⟨e, es'.set j e', f1, g1 ++ g ++ g3, rfl, by simp, hk, hv, h4 e' k o g hk' hv'⟩

theorem find_keys {β : Type} (k : ByteArray) : ∀ (es : List MapEntry) (l : List (ByteArray × β)) (i : Nat), es.map (fun e => e.key) = l.map (fun p => Value.string p.1) →
    (aget k l = none ∧ Instr.findNow .string (.string k) es i = some none ∧ (∀ x, aput k x l = l ++ [(k, x)])) ∨
    ∃ j e, ∃ hj : j < l.length, aget k l = some l[j].2 ∧ es[j]? = some e ∧ Instr.findNow .string (.string k) es i = some (some (i + j, e.val)) ∧ (∀ y, aput k y l = l.set j (k, y)) ∧ l[j].1 = k ∧ ∀ y z, aput k y (l.set j (k, z)) = l.set j (k, y)
  | [], [], i, _ => .inl ⟨rfl, rfl, fun _ => rfl⟩
  | [], _ :: _, _, h => by simp at h
  | _ :: _, [], _, h => by simp at h
  | e :: es, p :: l, i, h => by
    simp only [List.map_cons, List.cons.injEq] at h
    obtain ⟨hk, h⟩ := h
    obtain ⟨r, hr, hiff⟩ := MapKept.sameNow_of_keys (d := .string) (a := .string k) (b := e.key) trivial (by rw [hk]; trivial)
    by_cases hkp : k = p.1
    · have : r = true := hiff.2 (by rw [hk, hkp])
      subst this
      refine .inr ⟨0, e, by simp, by simp [aget, hkp], rfl, by rw [Instr.findNow, hr]; simp, fun y => by simp [aput, hkp], hkp.symm, fun y z => by simp [aput]⟩
    · have hs : r = false := by
        cases r with
        | false => rfl
        | true =>
          have := hiff.1 rfl
          rw [hk] at this
          injection this with this
          exact absurd this hkp
      subst hs
      have hf : ∀ r, Instr.findNow .string (.string k) es (i + 1) = r → Instr.findNow .string (.string k) (e :: es) i = r := fun r h2 => by
        rw [Instr.findNow, hr]; exact h2
      rcases find_keys k es l (i + 1) h with ⟨h1, h2, h3⟩ | ⟨j, e2, hj, h1, h2, h3, h4, h5, h6⟩
      · exact .inl ⟨by simp [aget, hkp, h1], hf _ h2, fun x => by simp [aput, hkp, h3]⟩
      · exact .inr ⟨j + 1, e2, by simpa using hj, by simp [aget, hkp, h1], by simpa using h2, hf _ (by rw [h3]; simp; omega), fun y => by simp [aput, hkp, h4], by simpa using h5, fun y z => by simp [aput, hkp, h6]⟩

def ownMS (ri : SlI) (E : Elem α) (m : Option Nat) (l : List (ByteArray × Option (List α))) : As := fun h f => ∃ b es clock f', m = some b ∧ h[b]? = some (.map es clock) ∧ MS ri E es.toList l h f' ∧ f = b :: f'
theorem loc_ownMS {m : Option Nat} {l : List (ByteArray × Option (List α))} : Loc (ownMS ri E m l) := by
  rintro h h' f ⟨b, es, clock, f', rfl, hb, he, rfl⟩ hs
  exact ⟨b, es, clock, f', rfl, by rw [hs b (by simp)]; exact hb, he.loc fun c hc => hs c (by simp [hc]), rfl⟩

theorem mkm_ruleS {h0 h : Heap} {L : List As} {K : Option Nat → Heap → Prop} (S : Sep h0 h L) (hK : ∀ m h', Old h h' → Sep h0 h' (ownMS ri E m [] :: L) → K m h') : mkm h K := by
  refine hK _ _ (Old.push _ _) ?_
  refine Sep.step (M := []) (M' := [ownMS ri E _ []]) S (fun A hA => by rw [List.mem_singleton.1 hA]; exact loc_ownMS) ?_
  rintro f rfl _ _
  refine ⟨[h.size], ⟨[h.size], [], rfl, ⟨h.size, #[], 0, [], rfl, Array.getElem?_push_size, ⟨rfl, rfl⟩, rfl⟩, rfl⟩, by simp, by simp, fun b hb _ => ?_, fun b hb => ?_⟩
  · rw [Array.getElem?_push_lt hb]; exact (Array.getElem?_eq_getElem hb).symm
  · simp at hb; subst hb; simp

/-- Looking, to take out what is there. -/
theorem mlk_ruleS {h0 h : Heap} {L : List As} {m : Option Nat} {l : List (ByteArray × Option (List α))} {k : ByteArray} {K : Sl → Prop} (hsz : ri.size = E.size) (S : Sep h0 h (ownMS ri E m l :: L)) (hfull : aget k l ≠ some none)
    (hK : ∀ y l', (∀ x, aput k x l' = aput k x l) → Sep h0 h (ownSl ri E y (((aget k l).getD none).getD []) :: ownMS ri E m l' :: L) → K y) :
    mlk .string m (.string k) h fun r => as1 .sl (r.getD (.slice none 0 0)) K := by
  obtain ⟨f, b, es, clock, f', rfl, hb, he, _⟩ := S.get
  refine ⟨trivial, ?_⟩
  rcases find_keys k es.toList l 0 he.keys with ⟨h1, h2, h3⟩ | ⟨j, e, hj, h1, h2, h3, h4, h5, h6⟩
  · refine ⟨es, clock, _, hb, h2, ⟨none, 0, 0⟩, rfl, hK _ l (fun _ => rfl) ?_⟩
    rw [h1]
    exact S.nil hsz
  · obtain ⟨x, hx⟩ : ∃ x, l[j].2 = some x := by
      cases hv : l[j].2 with
      | none => rw [h1, hv] at hfull; exact absurd rfl hfull
      | some x => exact ⟨x, rfl⟩
    obtain ⟨e2, f1, f2, f3, g1, _, _, g3, _⟩ := he.set hj
    rw [g1] at h2
    injection h2 with h2
    subst h2
    rw [hx] at g3
    obtain ⟨y, hy, _⟩ := g3
    refine ⟨es, clock, _, hb, h3, y, hy, ?_⟩
    refine hK y (l.set j (k, none)) (fun z => by rw [h6, h4]) ?_
    rw [h1, hx]
    refine Sep.step (M := [ownMS ri E (some b) l]) (M' := [ownSl ri E y x, ownMS ri E (some b) (l.set j (k, none))]) S (fun A hA => ?_) ?_
    · rcases List.mem_cons.1 hA with rfl | hA
      · exact loc_ownSl
      · rw [List.mem_singleton.1 hA]; exact loc_ownMS
    · rintro q ⟨q1, q2, rfl, ⟨b', es', clock', f'', hbb, hb', he', rfl⟩, rfl⟩ hnd hlt
      injection hbb with hbb
      subst hbb
      rw [hb] at hb'
      injection hb' with hb'
      injection hb' with hb1 hb2
      subst hb1
      obtain ⟨e3, f1, f2, f3, g1', rfl, gk, g3, g4⟩ := he'.set hj
      rw [g1] at g1'
      injection g1' with g1'
      subst g1'
      rw [hx] at g3
      obtain ⟨y', hy', ho⟩ := g3
      have : y' = y := Sl.v_inj (hy'.symm.trans hy)
      subst this
      have hset := g4 e2 k none [] (by rw [gk, h5]) rfl
      have hes : es.toList.set j e2 = es.toList := by
        obtain ⟨hjl, hje⟩ := List.getElem?_eq_some_iff.1 g1
        rw [← hje, List.set_getElem_self]
      rw [hes] at hset
      simp only [List.append_nil] at hset hnd hlt ⊢
      refine ⟨f2 ++ (b :: (f1 ++ f3)), ⟨f2, b :: (f1 ++ f3), rfl, ho, b :: (f1 ++ f3), [], (List.append_nil _).symm, ⟨b, es, clock, f1 ++ f3, rfl, hb, hset, rfl⟩, rfl⟩, ?_, Nat.le_refl _, by intros; trivial, ?_⟩
      · refine (List.Perm.nodup_iff ?_).2 hnd
        refine List.Perm.trans List.perm_middle ?_
        refine List.Perm.cons _ ?_
        rw [List.append_assoc, ← List.append_assoc, ← List.append_assoc]
        exact List.Perm.append_right _ List.perm_append_comm
      · intro c hc
        have hc' : c ∈ b :: (f1 ++ f2 ++ f3) := by
          simp only [List.mem_append, List.mem_cons] at hc ⊢
          rcases hc with hc | hc | hc | hc <;> simp [hc]
        exact ⟨.inl hc', hlt c hc'⟩

/-- Putting a slice of one's own in. -/
theorem mup_ruleS {h0 h : Heap} {L : List As} {m : Option Nat} {l : List (ByteArray × Option (List α))} {k : ByteArray} {y : Sl} {x : List α} {K : Heap → Prop} (S : Sep h0 h (ownSl ri E y x :: ownMS ri E m l :: L))
    (hK : ∀ h', Sep h0 h' (ownMS ri E m (aput k (some x) l) :: L) → K h') : mup .string m (.string k) y.v h K := by
  obtain ⟨f, b, es, clock, f', rfl, hb, he, _⟩ := S.swap.get
  have hlt := (Array.getElem?_eq_some_iff.1 hb).1
  refine ⟨b, es, clock, rfl, hb, trivial, fun e hm => ?_, fun r hr => hK _ ?_⟩
  · have : e.key ∈ es.toList.map (fun e => e.key) := List.mem_map.2 ⟨e, hm, rfl⟩
    rw [he.keys] at this
    obtain ⟨p, _, hp⟩ := List.mem_map.1 this
    rw [← hp]
    trivial
  · refine Sep.step (M := [ownSl ri E y x, ownMS ri E (some b) l]) (M' := [ownMS ri E (some b) (aput k (some x) l)]) S (fun A hA => by rw [List.mem_singleton.1 hA]; exact loc_ownMS) ?_
    rintro q ⟨q1, q2, rfl, ho, q3, q4, rfl, ⟨b', es', clock', f'', hbb, hb', he', rfl⟩, rfl⟩ hnd hlt2
    injection hbb with hbb
    subst hbb
    rw [hb] at hb'
    injection hb' with hb'
    injection hb' with hb1 hb2
    subst hb1
    simp only [List.append_nil] at hnd hlt2 ⊢
    have hbq : ∀ c ∈ q1, c ≠ b := fun c hc e => by
      have := (List.nodup_append.1 hnd).2.2 c hc b (by simp)
      exact this e
    have hbf : ∀ c ∈ f'', c ≠ b := fun c hc e => by
      have := (List.nodup_cons.1 (List.nodup_append.1 hnd).2.1).1
      exact this (e ▸ hc)
    have keep : ∀ (o : Obj) (c : Nat), c ≠ b → (h.setIfInBounds b o)[c]? = h[c]? := fun o c hc => by
      have : ¬ b = c := fun e => hc e.symm
      simp [this]
    rcases find_keys k es.toList l 0 he.keys with ⟨h1, h2, h3⟩ | ⟨j, e, hj, h1, h2, h3, h4, h5, h6⟩
    · rw [h2] at hr
      injection hr with hr
      subst hr
      rw [h3]
      unfold mupH
      have hp := he'.push (e := { key := .string k, val := y.v, born := clock }) (k := k) (o := some x) (g := q1) rfl ⟨y, rfl, ho⟩
      have hp2 := hp.loc (h' := h.setIfInBounds b (.map (es.push { key := .string k, val := y.v, born := clock }) (clock + 1))) fun c hc => keep _ c (by
        rcases List.mem_append.1 hc with hc | hc
        · exact hbf c hc
        · exact hbq c hc)
      refine ⟨b :: (f'' ++ q1), ⟨b :: (f'' ++ q1), [], (List.append_nil _).symm, ⟨b, _, _, f'' ++ q1, rfl, by simp [hlt]; exact ⟨rfl, rfl⟩, by rw [Array.toList_push]; exact hp2, rfl⟩, rfl⟩, ?_, by simp, fun c hc hn => ?_, fun c hc => ?_⟩
      · refine (List.Perm.nodup_iff ?_).2 hnd
        refine List.Perm.trans ?_ List.perm_middle.symm
        exact List.Perm.cons _ List.perm_append_comm
      · exact keep _ c fun e => hn (by simp [e])
      · have hc' : c ∈ q1 ++ b :: f'' := by
          simp only [List.mem_append, List.mem_cons] at hc ⊢
          rcases hc with hc | hc | hc <;> simp [hc]
        exact ⟨.inl hc', by simpa using hlt2 c hc'⟩
    · rw [h3] at hr
      injection hr with hr
      subst hr
      rw [h4]
      unfold mupH
      obtain ⟨e3, f1, f2, f3, g1', rfl, gk, g3, g4⟩ := he'.set hj
      have hp := g4 { e3 with key := .string k, val := y.v } k (some x) q1 rfl ⟨y, rfl, ho⟩
      have hp2 := hp.loc (h' := h.setIfInBounds b (.map (es.modify (0 + j) fun e => { e with key := .string k, val := y.v }) clock)) fun c hc => keep _ c (by
        rcases List.mem_append.1 hc with hc | hc
        · rcases List.mem_append.1 hc with hc | hc
          · exact hbf c (by simp [hc])
          · exact hbq c hc
        · exact hbf c (by simp [hc]))
      have hes : (es.modify (0 + j) fun e => { e with key := .string k, val := y.v }).toList = es.toList.set j { e3 with key := .string k, val := y.v } := by
        obtain ⟨hjl, hje⟩ := List.getElem?_eq_some_iff.1 g1'
        rw [Nat.zero_add, Array.toList_modify]
        refine List.ext_getElem (by simp) fun i h1 h2 => ?_
        simp only [List.getElem_modify, List.getElem_set]
        by_cases e : j = i
        · subst e; simp [hje]
        · simp [e]
      refine ⟨b :: (f1 ++ q1 ++ f3), ⟨b :: (f1 ++ q1 ++ f3), [], (List.append_nil _).symm, ⟨b, _, _, f1 ++ q1 ++ f3, rfl, by simp [hlt]; exact ⟨rfl, rfl⟩, by have hh := hes; rw [Nat.zero_add] at hh; rw [hh]; exact hp2, rfl⟩, rfl⟩, ?_, by simp, fun c hc hn => ?_, fun c hc => ?_⟩
      · have hsub : (q1 ++ b :: (f1 ++ f3)).Nodup := List.Sublist.nodup (List.Sublist.append (List.Sublist.refl _) (List.Sublist.cons_cons _ (by rw [List.append_assoc]; exact List.Sublist.append (List.Sublist.refl _) (List.sublist_append_right _ _)))) hnd
        refine (List.Perm.nodup_iff ?_).2 hsub
        refine List.Perm.trans ?_ List.perm_middle.symm
        refine List.Perm.cons _ ?_
        rw [← List.append_assoc]
        exact List.Perm.append_right _ List.perm_append_comm
      · exact keep _ c fun e => hn (by simp [e])
      · have hc' : c ∈ q1 ++ b :: (f1 ++ f2 ++ f3) := by
          simp only [List.mem_append, List.mem_cons] at hc ⊢
          rcases hc with hc | (hc | hc) | hc <;> simp [hc]
        exact ⟨.inl hc', by simpa using hlt2 c hc'⟩

/-- Reading. -/
def rdMS (E : Elem α) (h : Heap) (m : Option Nat) (l : List (ByteArray × Option (List α))) : Prop := ∃ b es clock, m = some b ∧ h[b]? = some (.map es clock) ∧ es.toList.map (fun e => e.key) = l.map (fun p => Value.string p.1) ∧
  ∀ j (hj : j < l.length) e x, es.toList[j]? = some e → l[j].2 = some x → ∃ s : Sl, e.val = s.v ∧ rdSl E h s x
theorem rdMS.old {h h' : Heap} {m : Option Nat} {l : List (ByteArray × Option (List α))} (r : rdMS E h m l) (o : Old h h') : rdMS E h' m l := by
  obtain ⟨b, es, clock, rfl, hb, hk, hv⟩ := r
  refine ⟨b, es, clock, rfl, by rw [o.block b (Array.getElem?_eq_some_iff.1 hb).1]; exact hb, hk, fun j hj e x h1 h2 => ?_⟩
  obtain ⟨s, h3, h4⟩ := hv j hj e x h1 h2
  exact ⟨s, h3, h4.old o⟩
theorem mlk_rd {h : Heap} {m : Option Nat} {l : List (ByteArray × Option (List α))} {k : ByteArray} {K : Sl → Prop} (r : rdMS E h m l) (hfull : aget k l ≠ some none) (hK : ∀ y, rdSl E h y (((aget k l).getD none).getD []) → K y) :
    mlk .string m (.string k) h fun r => as1 .sl (r.getD (.slice none 0 0)) K := by
  obtain ⟨b, es, clock, rfl, hb, hk, hv⟩ := r
  refine ⟨trivial, ?_⟩
  rcases find_keys k es.toList l 0 hk with ⟨h1, h2, _⟩ | ⟨j, e, hj, h1, h2, h3, _⟩
  · refine ⟨es, clock, _, hb, h2, ⟨none, 0, 0⟩, rfl, hK _ ?_⟩
    rw [h1]
    exact ⟨rfl, Nat.le_refl _, by simp, fun _ => rfl, .inl rfl⟩
  · cases hx : l[j].2 with
    | none => rw [h1, hx] at hfull; exact absurd rfl hfull
    | some x =>
      obtain ⟨s, hs, hr⟩ := hv j hj e x h2 hx
      refine ⟨es, clock, _, hb, h3, s, hs, hK s ?_⟩
      rw [h1, hx]
      exact hr
theorem MS.rdAll : ∀ {l : List (ByteArray × Option (List α))} {es : List MapEntry} {h : Heap} {f : List Nat}, (∀ {s : Sl} {x : List α} {f : List Nat}, ownSl ri E s x h f → rdSl E h s x) → MS ri E es l h f → ∀ j (hj : j < l.length) e x, es[j]? = some e → l[j].2 = some x → ∃ s : Sl, e.val = s.v ∧ rdSl E h s x
  | p :: l, _, h, _, hrd, r, j, hj, e, x, h1, h2 => by
    obtain ⟨e', es', f1, f2, rfl, rfl, hk, hv, hr⟩ := r
    cases j with
    | zero =>
      simp at h1 h2
      subst h1
      rw [h2] at hv
      obtain ⟨s, hs, ho⟩ := hv
      exact ⟨s, hs, hrd ho⟩
    | succ j => exact hr.rdAll hrd j (by simpa using hj) e x (by simpa using h1) (by simpa using h2)

end Go.Fw
