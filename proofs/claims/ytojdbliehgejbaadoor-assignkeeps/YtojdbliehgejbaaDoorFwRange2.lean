/-
  'for k, x := range m', at a map that is only read.
-/
import Derived.Test.YtojdbliehgejbaaDoorFwRange
import Derived.Test.YtojdbliehgejbaaDoorFwMapS
namespace Go.Fw

/-- A map to read from, and to go over. -/
def rdG {α : Type} (vf : α → Value) (h : Heap) (m : Option Nat) (l : List (ByteArray × α)) : Prop := ∃ b es clock, m = some b ∧ h[b]? = some (.map es clock) ∧ Ents vf es l ∧ MapKept.Stamped es clock
theorem rdG.old {α : Type} {vf : α → Value} {h h' : Heap} {m : Option Nat} {l : List (ByteArray × α)} (r : rdG vf h m l) (o : Old h h') : rdG vf h' m l := by
  obtain ⟨b, es, clock, rfl, hb, he⟩ := r
  exact ⟨b, es, clock, rfl, by rw [o.block b (Array.getElem?_eq_some_iff.1 hb).1]; exact hb, he⟩
theorem rdG.rd {α : Type} {vf : α → Value} {h : Heap} {m : Option Nat} {l : List (ByteArray × α)} (r : rdG vf h m l) : rdM vf h m l := by
  obtain ⟨b, es, clock, rfl, hb, he, _⟩ := r
  exact ⟨b, es, clock, rfl, hb, he⟩
theorem Sep.rdG {α : Type} {vf : α → Value} {h0 h : Heap} {L : List As} {m : Option Nat} {l : List (ByteArray × α)} (S : Sep h0 h (ownM vf m l :: L)) : Fw.rdG vf h m l := by
  obtain ⟨f, b, es, clock, rfl, hb, he, hst, _⟩ := S.get
  exact ⟨b, es, clock, rfl, hb, he, hst⟩

/-- What a loop over it has for its own. -/
def ownG {α : Type} (_vf : α → Value) (r b : Nat) (h0 : Heap) (V : List ByteArray) : As := fun h f =>
  ∃ (es : Array MapEntry) (clock : Nat) (vis : List MapEntry), f = [r] ∧ h0[b]? = some (.map es clock) ∧ (∀ e ∈ vis, e ∈ es.toList) ∧ (vis.map (·.born)).Nodup ∧
    h[r]? = some (.mapIter (some b) clock (vis.map (·.born)).toArray clock) ∧ vis.map (·.key) = V.map Value.string
theorem loc_ownG {α : Type} {vf : α → Value} {r b : Nat} {h0 : Heap} {V : List ByteArray} : Loc (ownG vf r b h0 V) := by
  rintro h h' f ⟨es, clock, vis, rfl, h1, h2, h3, h4, h5⟩ hs
  exact ⟨es, clock, vis, rfl, h1, h2, h3, by rw [hs r (by simp)]; exact h4, h5⟩
theorem rng_read {α : Type} {vf : α → Value} {h0 h : Heap} {L : List As} {b : Nat} {M : List (ByteArray × α)} {K : Nat → Heap → Prop} (S : Sep h0 h L) (R : rdG vf h0 (some b) M)
    (hK : ∀ r h', Old h h' → Sep h0 h' (ownG vf r b h0 [] :: L) → K r h') : rng (some b) h K := by
  obtain ⟨b', es, clock, e, hb, he, hst⟩ := R
  injection e with e
  subst e
  have hbl := (Array.getElem?_eq_some_iff.1 hb).1
  have hb' : h[b]? = some (.map es clock) := by rw [S.old.block b hbl]; exact hb
  refine ⟨es, clock, hb', hK _ _ (Old.push _ _) ?_⟩
  refine Sep.step (M := []) (M' := [ownG vf h.size b h0 []]) S (fun A hA => by rw [List.mem_singleton.1 hA]; exact loc_ownG) ?_
  rintro f rfl _ _
  refine ⟨[h.size], ⟨[h.size], [], rfl, ⟨es, clock, [], rfl, hb, by simp, by simp, Array.getElem?_push_size, rfl⟩, rfl⟩, by simp, by simp, fun c hc _ => (Old.push h _).block c hc, fun c hc => ?_⟩
  simp at hc
  subst hc
  simp
theorem nxt_read {α : Type} {vf : α → Value} {h0 h : Heap} {L : List As} {r b : Nat} {M : List (ByteArray × α)} {V : List ByteArray} {Kf : Prop} {Kt : Value → Value → Heap → Prop} (S : Sep h0 h (ownG vf r b h0 V :: L)) (R : rdG vf h0 (some b) M)
    (h1 : (∀ p ∈ M, p.1 ∈ V) → Kf) (h2 : ∀ k x h', (k, x) ∈ M → k ∉ V → V.length < M.length → hExt h h' → Sep h0 h' (ownG vf r b h0 (V ++ [k]) :: L) → Kt (.string k) (vf x) h') : nxt r h Kf Kt := by
  obtain ⟨f, es, clock, vis, _, hb0, hv, hnd, hr, hkeys⟩ := S.get
  obtain ⟨b', es', clock', e, hb1, he, hst⟩ := R
  injection e with e
  subst e
  rw [hb1] at hb0
  cases hb0
  have hb : h[b]? = some (.map es clock) := by rw [S.old.block b (Array.getElem?_eq_some_iff.1 hb1).1]; exact hb1
  have hen : ∀ e ∈ es.toList, ∃ k x, (k, x) ∈ M ∧ e.key = .string k ∧ e.val = vf x := fun e hee => by
    have hm : (e.key, e.val) ∈ M.map fun p => (Value.string p.1, vf p.2) := he ▸ List.mem_map.2 ⟨e, hee, rfl⟩
    obtain ⟨⟨k, x⟩, hq, hqe⟩ := List.mem_map.1 hm
    simp only [Prod.mk.injEq] at hqe
    exact ⟨k, x, hq, hqe.1.symm, hqe.2.symm⟩
  refine ⟨b, clock, _, clock, es, clock, hr, hb, hst.1, Nat.le_refl _, fun h0' => h1 fun p hp => ?_, fun e hee => ?_⟩
  · have hp' : (Value.string p.1, vf p.2) ∈ es.toList.map fun e => (e.key, e.val) := by
      unfold Ents at he
      rw [he]
      exact List.mem_map.2 ⟨p, hp, rfl⟩
    obtain ⟨e, hee, heq⟩ := List.mem_map.1 hp'
    simp only [Prod.mk.injEq] at heq
    have hseen : e.born ∈ vis.map (·.born) := by
      unfold leftOf at h0'
      have := Array.eq_empty_of_size_eq_zero h0'
      rw [Array.filter_eq_empty_iff] at this
      simpa using this e (by simpa using hee)
    obtain ⟨e', he', hbe⟩ := List.mem_map.1 hseen
    have : e' = e := nodup_inj hst.2.1 (hv e' he') hee hbe
    subst this
    have hk : e'.key ∈ V.map Value.string := hkeys ▸ List.mem_map.2 ⟨e', he', rfl⟩
    rw [heq.1] at hk
    obtain ⟨k, hkV, hke⟩ := List.mem_map.1 hk
    injection hke with hke
    subst hke
    exact hkV
  · unfold leftOf at hee
    simp at hee
    obtain ⟨hees, hnot⟩ := hee
    obtain ⟨k, x, hM, hk, hx⟩ := hen e (by simpa using hees)
    rw [hk, hx]
    have hnd2 : ((vis ++ [e]).map (·.born)).Nodup := by
      rw [List.map_append, List.nodup_append]
      refine ⟨hnd, by simp, fun a ha c hc heq => ?_⟩
      simp at hc
      subst heq
      obtain ⟨e', he', hb'⟩ := List.mem_map.1 ha
      exact hnot e' he' (by rw [hb', hc])
    have hlen : V.length < M.length := by
      have h3 : (vis ++ [e]).length ≤ es.toList.length := by
        have := List.Nodup.length_le_of_subset hnd2 (l₂ := es.toList.map (·.born)) (fun z hz => by
          obtain ⟨e', he', rfl⟩ := List.mem_map.1 hz
          rcases List.mem_append.1 he' with h | h
          · exact List.mem_map.2 ⟨e', hv e' h, rfl⟩
          · simp at h; subst h; exact List.mem_map.2 ⟨e', by simpa using hees, rfl⟩)
        simpa using this
      have h4 := congrArg List.length hkeys
      have h5 := congrArg List.length he
      simp only [List.length_map, List.length_append, List.length_singleton] at h3 h4 h5
      omega
    have hes : e ∈ es.toList := by simpa using hees
    have hkV : k ∉ V := fun hkV => by
      have hk' : Value.string k ∈ vis.map (·.key) := hkeys ▸ List.mem_map.2 ⟨k, hkV, rfl⟩
      obtain ⟨e', he', hke⟩ := List.mem_map.1 hk'
      have : e' = e := nodup_inj hst.2.2 (hv e' he') hes (hke.trans hk.symm)
      subst this
      exact hnot e' he' rfl
    have hpush : (vis.map (·.born)).toArray.push e.born = ((vis ++ [e]).map (·.born)).toArray := by simp
    refine h2 k x _ hM hkV hlen (fun p v hv' => ?_) ?_
    · unfold hcell at hv' ⊢
      by_cases hpr : r = p.block
      · subst hpr
        rw [hr] at hv'
        cases hv'
      · rw [Array.getElem?_setIfInBounds_ne hpr]
        exact hv'
    · refine Sep.step (M := [ownG vf r b h0 V]) (M' := [ownG vf r b h0 (V ++ [k])]) S (fun A hA => by rw [List.mem_singleton.1 hA]; exact loc_ownG) ?_
      rintro f ⟨f1, f2, rfl, ⟨es', clock', vis', rfl, _⟩, rfl⟩ hnf hlt
      have hrl := (Array.getElem?_eq_some_iff.1 hr).1
      refine ⟨[r], ⟨[r], [], rfl, ⟨es, clock, vis ++ [e], rfl, hb1, fun z hz => ?_, hnd2, ?_, ?_⟩, rfl⟩, by simp, by simp, fun c hc hn => ?_, fun c hc => ?_⟩
      · rcases List.mem_append.1 hz with h | h
        · exact hv z h
        · simp at h; subst h; exact hes
      · rw [← hpush]
        simp [hrl]
      · rw [List.map_append, List.map_append, hkeys]
        simp [hk]
      · have : ¬ r = c := fun h => hn (by simp [h])
        rw [Array.getElem?_setIfInBounds_ne this]
      · have hc' : c = r := by simpa using hc
        refine ⟨.inl (by simp [hc']), ?_⟩
        rw [Array.size_setIfInBounds]
        subst hc'
        exact hrl
theorem ent_read {α : Type} {vf : α → Value} {h0 h : Heap} {L : List As} {r b : Nat} {M : List (ByteArray × α)} {V : List ByteArray} {k : ByteArray} {K : Value → Value → Prop} (S : Sep h0 h (ownG vf r b h0 (V ++ [k]) :: L)) (R : rdG vf h0 (some b) M)
    (hK : ∀ x, (k, x) ∈ M → K (.string k) (vf x)) : ent r h K := by
  obtain ⟨f, es, clock, vis, _, hb0, hv, hnd, hr, hkeys⟩ := S.get
  obtain ⟨b', es', clock', e, hb1, he, hst⟩ := R
  injection e with e
  subst e
  rw [hb1] at hb0
  cases hb0
  have hb : h[b]? = some (.map es clock) := by rw [S.old.block b (Array.getElem?_eq_some_iff.1 hb1).1]; exact hb1
  have hne : vis ≠ [] := fun e => by rw [e] at hkeys; simp at hkeys
  obtain ⟨vis', e, rfl⟩ : ∃ vis' e, vis = vis' ++ [e] := ⟨vis.dropLast, vis.getLast hne, (List.dropLast_concat_getLast hne).symm⟩
  rw [List.map_append, List.map_append] at hkeys
  have hkey : e.key = .string k := by
    have := List.append_inj_right' hkeys rfl
    simpa using this
  have hes := hv e (by simp)
  have hm : (e.key, e.val) ∈ M.map fun p => (Value.string p.1, vf p.2) := he ▸ List.mem_map.2 ⟨e, hes, rfl⟩
  obtain ⟨⟨k', x⟩, hq, hqe⟩ := List.mem_map.1 hm
  simp only [Prod.mk.injEq] at hqe
  rw [hkey] at hqe
  injection hqe.1 with hk'
  subst hk'
  refine ⟨b, clock, (vis'.map (·.born)).toArray, es, clock, e, ?_, hb, hes, hst.2.1, ?_⟩
  · rw [hr]
    simp
  · rw [hkey, ← hqe.2]
    exact hK x hq

/-- A place of a list of maps that may not be there yet. -/
theorem mapN_rd {α : Type} {vf : α → Value} {si : SlI} {h0 h : Heap} {L : List As} {s : Sl} {N : List (Option (List (ByteArray × α)))} {i : Nat} (S : Sep h0 h (ownSl si (eMN vf) s N :: L)) (hi : i < N.length) :
    ∃ m, (∀ p, At 1 s i p → hcell h p = some (.map m)) ∧ match N[i] with | some M => rdG vf h m M | none => m = none := by
  obtain ⟨xs, hxc, S2⟩ := (Sep.raw.2 S).away (i := i) (x := N[i]) (by simpa using hi) (by simp)
  obtain ⟨f, o⟩ := S2.swap.get
  have o : (eMN vf).own xs N[i] h f := o
  cases hN : N[i] with
  | some M =>
    rw [hN] at o
    obtain ⟨b, rfl, b', es, clock, e, hb, he, hst, _⟩ := o
    refine ⟨some b, fun p hp => by have := hxc p hp 0 _ rfl; rwa [Addr.add_zero'] at this, b', es, clock, e, hb, he, hst⟩
  | none =>
    rw [hN] at o
    obtain ⟨rfl, _⟩ := o
    exact ⟨none, fun p hp => by have := hxc p hp 0 _ rfl; rwa [Addr.add_zero'] at this, rfl⟩

end Go.Fw
