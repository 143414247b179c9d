/-
  'for k, x := range m', at maps keyed by strings.
-/
import Derived.Test.YtojdbliehgejbaaDoorFwMap3
import Derived.Test.YtojdbliehgejbaaDoorFwRules
namespace Go.Fw

theorem nodup_inj {α β : Type} {f : α → β} : ∀ {l : List α}, (l.map f).Nodup → ∀ {a b : α}, a ∈ l → b ∈ l → f a = f b → a = b
  | [], _, _, _, h, _, _ => by simp at h
  | c :: l, hn, a, b, ha, hb, e => by
    rw [List.map_cons, List.nodup_cons] at hn
    rcases List.mem_cons.1 ha with h1 | h1
    · rcases List.mem_cons.1 hb with h2 | h2
      · rw [h1, h2]
      · exact absurd (List.mem_map.2 ⟨b, h2, by rw [← e, h1]⟩) hn.1
    · rcases List.mem_cons.1 hb with h2 | h2
      · exact absurd (List.mem_map.2 ⟨a, h1, by rw [e, h2]⟩) hn.1
      · exact nodup_inj hn.2 h1 h2 e
/-- A map of one's own that is gone over: 'V': the keys that were handed out. -/
def ownR {α : Type} (vf : α → Value) (r b : Nat) (M : List (ByteArray × α)) (V : List ByteArray) : As := fun h f =>
  ∃ (es : Array MapEntry) (clock : Nat) (vis : List MapEntry), f = [b, r] ∧ h[b]? = some (.map es clock) ∧ Ents vf es M ∧ MapKept.Stamped es clock ∧ (∀ e ∈ vis, e ∈ es.toList) ∧ (vis.map (·.born)).Nodup ∧
    h[r]? = some (.mapIter (some b) clock (vis.map (·.born)).toArray clock) ∧ vis.map (·.key) = V.map Value.string
theorem loc_ownR {α : Type} {vf : α → Value} {r b : Nat} {M : List (ByteArray × α)} {V : List ByteArray} : Loc (ownR vf r b M V) := by
  rintro h h' f ⟨es, clock, vis, rfl, h1, h2, h3, h4, h5, h6, h7⟩ hs
  exact ⟨es, clock, vis, rfl, by rw [hs b (by simp)]; exact h1, h2, h3, h4, h5, by rw [hs r (by simp)]; exact h6, h7⟩
theorem rng_rule {α : Type} {vf : α → Value} {h0 h : Heap} {L : List As} {b : Nat} {M : List (ByteArray × α)} {K : Nat → Heap → Prop} (S : Sep h0 h (ownM vf (some b) M :: L))
    (hK : ∀ r h', Old h h' → Sep h0 h' (ownR vf r b M [] :: L) → K r h') : rng (some b) h K := by
  obtain ⟨f, b', es, clock, e, hb, he, hst, _⟩ := S.get
  injection e with e
  subst e
  refine ⟨es, clock, hb, hK _ _ (Old.push _ _) ?_⟩
  refine Sep.step (M := [ownM vf (some b) M]) (M' := [ownR vf h.size b M []]) S (fun A hA => by rw [List.mem_singleton.1 hA]; exact loc_ownR) ?_
  rintro f ⟨f1, f2, rfl, ⟨b', es2, c2, e, hb2, he2, hst2, rfl⟩, rfl⟩ _ hlt
  injection e with e
  subst e
  rw [hb] at hb2
  cases hb2
  have hbl := (Array.getElem?_eq_some_iff.1 hb).1
  refine ⟨[b, h.size], ⟨[b, h.size], [], rfl, ⟨es, clock, [], rfl, ?_, he, hst, by simp, by simp, Array.getElem?_push_size, rfl⟩, rfl⟩, ?_, by simp, fun c hc _ => ?_, fun c hc => ?_⟩
  · rw [Array.getElem?_push_lt hbl, ← Array.getElem?_eq_getElem hbl]; exact hb
  · simp
    omega
  · rw [Array.getElem?_push_lt hc]; exact (Array.getElem?_eq_getElem hc).symm
  · simp at hc
    rcases hc with rfl | rfl
    · exact ⟨.inl (by simp), by simp; omega⟩
    · exact ⟨.inr (by simp), by simp⟩
/-- The map alone again. -/
theorem Sep.ofR {α : Type} {vf : α → Value} {h0 h : Heap} {L : List As} {r b : Nat} {M : List (ByteArray × α)} {V : List ByteArray} (S : Sep h0 h (ownR vf r b M V :: L)) : Sep h0 h (ownM vf (some b) M :: L) :=
  S.conv loc_ownM fun f o => by
    obtain ⟨es, clock, vis, rfl, h1, h2, h3, _⟩ := o
    exact ⟨[b], by simp, b, es, clock, rfl, h1, h2, h3, rfl⟩
theorem nxt_rule {α : Type} {vf : α → Value} {h0 h : Heap} {L : List As} {r b : Nat} {M : List (ByteArray × α)} {V : List ByteArray} {Kf : Prop} {Kt : Value → Value → Heap → Prop} (S : Sep h0 h (ownR vf r b M V :: L))
    (h1 : (∀ p ∈ M, p.1 ∈ V) → Kf) (h2 : ∀ k x h', (k, x) ∈ M → k ∉ V → V.length < M.length → hExt h h' → Sep h0 h' (ownR vf r b M (V ++ [k]) :: L) → Kt (.string k) (vf x) h') : nxt r h Kf Kt := by
  obtain ⟨f, es, clock, vis, _, hb, he, hst, hv, hnd, hr, hkeys⟩ := S.get
  have hen : ∀ e ∈ es.toList, ∃ k x, (k, x) ∈ M ∧ e.key = .string k ∧ e.val = vf x := fun e hee => by
    have hm : (e.key, e.val) ∈ M.map fun p => (Value.string p.1, vf p.2) := he ▸ List.mem_map.2 ⟨e, hee, rfl⟩
    obtain ⟨⟨k, x⟩, hq, hqe⟩ := List.mem_map.1 hm
    simp only [Prod.mk.injEq] at hqe
    exact ⟨k, x, hq, hqe.1.symm, hqe.2.symm⟩
  refine ⟨b, clock, _, clock, es, clock, hr, hb, hst.1, Nat.le_refl _, fun h0' => h1 fun p hp => ?_, fun e hee => ?_⟩
  · have hp' : (Value.string p.1, vf p.2) ∈ es.toList.map fun e => (e.key, e.val) := by
      unfold Ents at he
      rw [he]
      exact List.mem_map.2 ⟨p, hp, rfl⟩
    obtain ⟨e, hee, heq⟩ := List.mem_map.1 hp'
    simp only [Prod.mk.injEq] at heq
    have hseen : e.born ∈ vis.map (·.born) := by
      unfold leftOf at h0'
      have := Array.eq_empty_of_size_eq_zero h0'
      rw [Array.filter_eq_empty_iff] at this
      simpa using this e (by simpa using hee)
    obtain ⟨e', he', hbe⟩ := List.mem_map.1 hseen
    have : e' = e := nodup_inj hst.2.1 (hv e' he') hee hbe
    subst this
    have hk : e'.key ∈ V.map Value.string := hkeys ▸ List.mem_map.2 ⟨e', he', rfl⟩
    rw [heq.1] at hk
    obtain ⟨k, hkV, hke⟩ := List.mem_map.1 hk
    injection hke with hke
    subst hke
    exact hkV
  · unfold leftOf at hee
    simp at hee
    obtain ⟨hees, hnot⟩ := hee
    obtain ⟨k, x, hM, hk, hx⟩ := hen e (by simpa using hees)
    rw [hk, hx]
    have hnd2 : ((vis ++ [e]).map (·.born)).Nodup := by
      rw [List.map_append, List.nodup_append]
      refine ⟨hnd, by simp, fun a ha c hc heq => ?_⟩
      simp at hc
      subst heq
      obtain ⟨e', he', hb'⟩ := List.mem_map.1 ha
      exact hnot e' he' (by rw [hb', hc])
    have hlen : V.length < M.length := by
      have h3 : (vis ++ [e]).length ≤ es.toList.length := by
        have := List.Nodup.length_le_of_subset hnd2 (l₂ := es.toList.map (·.born)) (fun z hz => by
          obtain ⟨e', he', rfl⟩ := List.mem_map.1 hz
          rcases List.mem_append.1 he' with h | h
          · exact List.mem_map.2 ⟨e', hv e' h, rfl⟩
          · simp at h; subst h; exact List.mem_map.2 ⟨e', by simpa using hees, rfl⟩)
        simpa using this
      have h4 := congrArg List.length hkeys
      have h5 := congrArg List.length he
      simp only [List.length_map, List.length_append, List.length_singleton] at h3 h4 h5
      omega
    have hes : e ∈ es.toList := by simpa using hees
    have hkV : k ∉ V := fun hkV => by
      have hk' : Value.string k ∈ vis.map (·.key) := hkeys ▸ List.mem_map.2 ⟨k, hkV, rfl⟩
      obtain ⟨e', he', hke⟩ := List.mem_map.1 hk'
      have : e' = e := nodup_inj hst.2.2 (hv e' he') hes (hke.trans hk.symm)
      subst this
      exact hnot e' he' rfl
    have hpush : (vis.map (·.born)).toArray.push e.born = ((vis ++ [e]).map (·.born)).toArray := by simp
    refine h2 k x _ hM hkV hlen (fun p v hv' => ?_) ?_
    · unfold hcell at hv' ⊢
      by_cases hpr : r = p.block
      · subst hpr
        rw [hr] at hv'
        cases hv'
      · rw [Array.getElem?_setIfInBounds_ne hpr]
        exact hv'
    · refine Sep.step (M := [ownR vf r b M V]) (M' := [ownR vf r b M (V ++ [k])]) S (fun A hA => by rw [List.mem_singleton.1 hA]; exact loc_ownR) ?_
      rintro f ⟨f1, f2, rfl, ⟨es', clock', vis', rfl, hb', _, _, _, _, hr', _⟩, rfl⟩ hnf hlt
      have hbr : b ≠ r := by simp at hnf; exact hnf
      have hrl := (Array.getElem?_eq_some_iff.1 hr).1
      refine ⟨[b, r], ⟨[b, r], [], rfl, ⟨es, clock, vis ++ [e], rfl, ?_, he, hst, fun z hz => ?_, hnd2, ?_, ?_⟩, rfl⟩, by simpa using hbr, by simp, fun c hc hn => ?_, fun c hc => ?_⟩
      · rw [Array.getElem?_setIfInBounds_ne (Ne.symm hbr)]
        exact hb
      · rcases List.mem_append.1 hz with h | h
        · exact hv z h
        · simp at h; subst h; exact hes
      · rw [← hpush]
        simp [hrl]
      · rw [List.map_append, List.map_append, hkeys]
        simp [hk]
      · have : ¬ r = c := fun h => hn (by simp [h])
        rw [Array.getElem?_setIfInBounds_ne this]
      · have hc' : c = b ∨ c = r := by simpa using hc
        refine ⟨.inl (by simpa using hc'), ?_⟩
        rw [Array.size_setIfInBounds]
        rcases hc' with rfl | rfl
        · exact (Array.getElem?_eq_some_iff.1 hb).1
        · exact hrl
theorem ent_rule {α : Type} {vf : α → Value} {h0 h : Heap} {L : List As} {r b : Nat} {M : List (ByteArray × α)} {V : List ByteArray} {k : ByteArray} {K : Value → Value → Prop} (S : Sep h0 h (ownR vf r b M (V ++ [k]) :: L))
    (hK : ∀ x, (k, x) ∈ M → K (.string k) (vf x)) : ent r h K := by
  obtain ⟨f, es, clock, vis, _, hb, he, hst, hv, hnd, hr, hkeys⟩ := S.get
  have hne : vis ≠ [] := fun e => by rw [e] at hkeys; simp at hkeys
  obtain ⟨vis', e, rfl⟩ : ∃ vis' e, vis = vis' ++ [e] := ⟨vis.dropLast, vis.getLast hne, (List.dropLast_concat_getLast hne).symm⟩
  rw [List.map_append, List.map_append] at hkeys
  have hkey : e.key = .string k := by
    have := List.append_inj_right' hkeys rfl
    simpa using this
  have hes := hv e (by simp)
  have hm : (e.key, e.val) ∈ M.map fun p => (Value.string p.1, vf p.2) := he ▸ List.mem_map.2 ⟨e, hes, rfl⟩
  obtain ⟨⟨k', x⟩, hq, hqe⟩ := List.mem_map.1 hm
  simp only [Prod.mk.injEq] at hqe
  rw [hkey] at hqe
  injection hqe.1 with hk'
  subst hk'
  refine ⟨b, clock, (vis'.map (·.born)).toArray, es, clock, e, ?_, hb, hes, hst.2.1, ?_⟩
  · rw [hr]
    simp
  · rw [hkey, ← hqe.2]
    exact hK x hq

end Go.Fw
