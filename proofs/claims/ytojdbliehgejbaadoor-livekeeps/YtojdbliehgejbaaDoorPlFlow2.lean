/-
  Plain: what the search from the first point leaves.
-/
import Derived.Test.YtojdbliehgejbaaDoorPlFlow
namespace Go.Pl

/-- Each is led to by a later one, or is a child. -/
def Led (G : Graph) (P : Nat → Prop) : List Nat → Prop
  | [] => True
  | x :: v => ((∃ y ∈ v, leadsB G y (x : Int) = true) ∨ P x) ∧ Led G P v
theorem Led.append {G : Graph} {P : Nat → Prop} : ∀ {u v : List Nat}, Led G P u → Led G P v → Led G P (u ++ v)
  | [], _, _, h => h
  | x :: u, v, h, k => by
    refine ⟨?_, Led.append h.2 k⟩
    rcases h.1 with ⟨y, hy, hl⟩ | hp
    · exact .inl ⟨y, by simp [hy], hl⟩
    · exact .inr hp
theorem Led.split {G : Graph} {P : Nat → Prop} : ∀ {u : List Nat} {x : Nat} {v : List Nat}, Led G P (u ++ x :: v) → (∃ y ∈ v, leadsB G y (x : Int) = true) ∨ P x
  | [], _, _, h => h.1
  | _ :: u, _, _, h => Led.split (u := u) h.2
theorem Led.into {G : Graph} {P Q : Nat → Prop} {a : Nat} : ∀ {u : List Nat}, Led G P u → (∀ x, P x → leadsB G a (x : Int) = true) → (Q a) → Led G Q (u ++ [a])
  | [], _, _, hq => ⟨.inr hq, trivial⟩
  | x :: u, h, hp, hq => by
    refine ⟨.inl ?_, Led.into h.2 hp hq⟩
    rcases h.1 with ⟨y, hy, hl⟩ | h1
    · exact ⟨y, by simp [hy], hl⟩
    · exact ⟨a, by simp, hp _ h1⟩

/-- What a search adds. -/
structure Adds (G : Graph) (P : Nat → Prop) (s t : List Bool × List Int) (new : List Nat) : Prop where
  left : t.2 = s.2 ++ new.map fun (k : Nat) => (k : Int)
  len : t.1.length = s.1.length
  marks : ∀ i, t.1.getD i false = (s.1.getD i false || new.contains i)
  nodup : new.Nodup
  fresh : ∀ i ∈ new, i < G.length ∧ s.1.getD i false = false
  close : ∀ i ∈ new, ∀ k : Nat, k < G.length → leadsB G i (k : Int) = true → t.1.getD k false = true
  led : Led G P new
theorem Adds.refl {G : Graph} {P : Nat → Prop} (s : List Bool × List Int) : Adds G P s s [] :=
  ⟨by simp, rfl, by simp, by simp, by simp, by simp, trivial⟩
theorem Adds.trans {G : Graph} {P : Nat → Prop} {s t u : List Bool × List Int} {n1 n2 : List Nat} (h : Adds G P s t n1) (k : Adds G P t u n2) : Adds G P s u (n1 ++ n2) := by
  refine ⟨by rw [k.left, h.left]; simp, k.len.trans h.len, fun i => ?_, ?_, ?_, ?_, h.led.append k.led⟩
  · rw [k.marks, h.marks]; simp [Bool.or_assoc, List.contains_eq_mem]
  · refine List.nodup_append.2 ⟨h.nodup, k.nodup, fun a ha b hb e => ?_⟩
    subst e
    have := (k.fresh a hb).2
    rw [h.marks] at this
    simp [List.contains_eq_mem, ha] at this
  · intro i hi
    rcases List.mem_append.1 hi with hi | hi
    · exact h.fresh i hi
    · have := k.fresh i hi
      refine ⟨this.1, ?_⟩
      have h2 := this.2
      rw [h.marks] at h2
      simp only [Bool.or_eq_false_iff] at h2
      exact h2.1
  · intro i hi k' hk hl
    rcases List.mem_append.1 hi with hi | hi
    · have := h.close i hi k' hk hl
      rw [k.marks, this]; rfl
    · exact k.close i hi k' hk hl

mutual
theorem dn_adds (G : Graph) (P : Nat → Prop) : ∀ (f a : Nat) (s : List Bool × List Int), s.1.length = G.length → a < G.length → s.1.getD a false = false → open' s.1 ≤ f → P a →
    ∃ new, Adds G P s (dn G f a s.1 s.2) (new ++ [a]) ∧ Led G (fun x => leadsB G a (x : Int) = true) new
  | 0, a, s, hlen, ha, hm, ho, _ => by
    have := count_set (M := s.1) (a := a) (by omega) (by simpa [List.getD_eq_getElem?_getD, show a < s.1.length by omega] using hm)
    omega
  | f + 1, a, s, hlen, ha, hm, ho, hp => by
    have hc := count_set (M := s.1) (a := a) (by omega) (by simpa [List.getD_eq_getElem?_getD, show a < s.1.length by omega] using hm)
    obtain ⟨new, hA, hw⟩ := fold_adds G f a (G.getD a []) (s.1.set a true, s.2) (by simpa using hlen) (by simp only; omega) (fun k hk => hk)
    have hna : a ∉ new := fun hin => by
      have := (hA.fresh a hin).2
      rw [getD_set (by omega)] at this
      simp at this
    refine ⟨new, ⟨?_, ?_, ?_, ?_, ?_, ?_, hA.led.into (fun _ h => h) hp⟩, hA.led⟩
    · unfold dn; simp only; rw [hA.left]; simp
    · unfold dn; simp only; rw [hA.len]; simp
    · intro i
      unfold dn
      simp only
      rw [hA.marks, getD_set (by omega)]
      by_cases hi : a = i
      · subst hi; simp
      · have hi' : ¬ i = a := fun e => hi e.symm
        simp [hi, hi', List.contains_eq_mem]
    · exact List.nodup_append.2 ⟨hA.nodup, by simp, fun x hx y hy e => by simp at hy; subst hy; subst e; exact hna hx⟩
    · intro i hi
      rcases List.mem_append.1 hi with hi | hi
      · have := hA.fresh i hi
        refine ⟨this.1, ?_⟩
        have h2 := this.2
        rw [getD_set (by omega)] at h2
        split at h2
        · cases h2
        · exact h2
      · simp at hi; subst hi; exact ⟨ha, hm⟩
    · intro i hi k hk hl
      unfold dn
      simp only
      rcases List.mem_append.1 hi with hi | hi
      · exact hA.close i hi k hk hl
      · simp at hi; subst hi
        have := hw (k : Int) (by simpa [leadsB, List.contains_eq_mem] using hl) (by omega) (by omega)
        simpa using this
termination_by f _ _ _ _ _ _ _ => (f, 0)
theorem fold_adds (G : Graph) (f a : Nat) : ∀ (w : List Int) (s : List Bool × List Int), s.1.length = G.length → open' s.1 ≤ f → (∀ k ∈ w, k ∈ G.getD a []) →
    ∃ new, Adds G (fun x => leadsB G a (x : Int) = true) s (w.foldl (stepDn G.length (dn G f)) s) new ∧ ∀ k ∈ w, 0 ≤ k → k < G.length → (w.foldl (stepDn G.length (dn G f)) s).1.getD k.toNat false = true
  | [], s, _, _, _ => ⟨[], Adds.refl s, by simp⟩
  | k :: w, s, hlen, ho, hw => by
    have one : ∃ n1, Adds G (fun x => leadsB G a (x : Int) = true) s (stepDn G.length (dn G f) s k) n1 ∧ (0 ≤ k → k < G.length → (stepDn G.length (dn G f) s k).1.getD k.toNat false = true) := by
      unfold stepDn
      split
      · rename_i hk
        have hka : leadsB G a ((k.toNat : Nat) : Int) = true := by
          have := hw k (by simp)
          rw [Int.toNat_of_nonneg hk.1]
          simpa [leadsB, List.contains_eq_mem] using this
        obtain ⟨new, hA, _⟩ := dn_adds G (fun x => leadsB G a (x : Int) = true) f k.toNat s hlen (by omega) hk.2.2 ho hka
        refine ⟨_, hA, fun _ _ => ?_⟩
        rw [hA.marks]; simp
      · rename_i hk
        refine ⟨[], Adds.refl s, fun h1 h2 => ?_⟩
        cases hg : s.1.getD k.toNat false with
        | true => rfl
        | false => exact absurd ⟨h1, h2, hg⟩ hk
    obtain ⟨n1, h1, h1k⟩ := one
    have ho2 : open' (stepDn G.length (dn G f) s k).1 ≤ f := by
      have := stepDn_keep (n := G.length) (go := dn G f) Grows Grows.refl (fun _ _ _ => Grows.trans) (fun k s _ _ => dn_grows G f k s) [k] s
      have := this.op
      simp only [List.foldl_cons, List.foldl_nil] at this
      omega
    obtain ⟨n2, h2, h2k⟩ := fold_adds G f a w _ (h1.len.trans hlen) ho2 (fun k hk => hw k (by simp [hk]))
    refine ⟨n1 ++ n2, h1.trans h2, fun j hj hj0 hjn => ?_⟩
    rw [List.foldl_cons]
    rcases List.mem_cons.1 hj with rfl | hj
    · rw [h2.marks, h1k hj0 hjn]; rfl
    · exact h2k j hj hj0 hjn
termination_by w _ _ _ _ => (f, w.length + 1)
end

/-- What the search from the first point leaves. -/
theorem search_says {G : Graph} (hG : 0 < G.length) : ∃ new : List Nat,
    orderOf G = 0 :: (new.map fun (k : Nat) => (k : Int)).reverse ∧ (new ++ [0]).Nodup ∧ (∀ i ∈ new, i < G.length) ∧ (comeOf G).length = G.length ∧
    (∀ i : Nat, (comeOf G).getD i false = (orderOf G).contains (i : Int)) ∧
    (∀ i k : Nat, (comeOf G).getD i false = true → k < G.length → leadsB G i (k : Int) = true → (comeOf G).getD k false = true) ∧ Led G (fun x => leadsB G 0 (x : Int) = true) new := by
  have hne : G ≠ [] := by intro e; rw [e] at hG; simp at hG
  obtain ⟨new, hA, hL⟩ := dn_adds G (fun _ => True) G.length 0 (List.replicate G.length false, []) (by simp) hG (by simp [List.getD_eq_getElem?_getD, List.getElem?_replicate]; split <;> rfl)
    (by unfold open'; simp) trivial
  have es : search G = dn G G.length 0 (List.replicate G.length false) [] := if_neg hne
  have eo : orderOf G = 0 :: (new.map fun (k : Nat) => (k : Int)).reverse := by
    unfold orderOf
    rw [es, hA.left]
    simp
  have hrep : ∀ i, (List.replicate G.length false).getD i false = false := fun i => by
    simp [List.getD_eq_getElem?_getD, List.getElem?_replicate]; split <;> rfl
  have ec : ∀ i : Nat, (comeOf G).getD i false = (orderOf G).contains (i : Int) := fun i => by
    unfold comeOf
    rw [es, hA.marks, hrep, eo]
    simp only [Bool.false_or, List.contains_eq_mem]
    refine decide_eq_decide.2 ?_
    simp
    have e : (∃ a, a ∈ new ∧ (a : Int) = (i : Int)) ↔ i ∈ new := by
      constructor
      · rintro ⟨a, h, e⟩
        have : a = i := by omega
        exact this ▸ h
      · exact fun h => ⟨i, h, rfl⟩
    rw [e]
    constructor
    · rintro (h | h)
      · exact .inr h
      · exact .inl (by omega)
    · rintro (h | h)
      · exact .inr (by omega)
      · exact .inl h
  refine ⟨new, eo, hA.nodup, fun i hi => (hA.fresh i (by simp [hi])).1, by unfold comeOf; rw [es, hA.len]; simp, ec, ?_, hL⟩
  intro i k hi hk hl
  have : i ∈ new ++ [0] := by
    unfold comeOf at hi
    rw [es, hA.marks, hrep] at hi
    simpa [List.contains_eq_mem] using hi
  unfold comeOf
  rw [es]
  exact hA.close i this k hk hl

theorem order_says {G : Graph} (hG : 0 < G.length) :
    (∀ i (hi : i < (orderOf G).length), ∃ x : Nat, (orderOf G)[i] = x ∧ x < G.length ∧ ((orderOf G).take i).contains (x : Int) = false ∧ (i = 0 → x = 0) ∧
      (0 < i → ((orderOf G).take i).any (fun y => leadsB G y.toNat (x : Int)) = true)) := by
  obtain ⟨new, eo, hnd, hlt, _, _, _, hL⟩ := search_says hG
  have hond : (orderOf G).Nodup := by
    rw [eo, ← List.map_reverse, show (0 : Int) = ((0 : Nat) : Int) from rfl, ← List.map_cons (f := fun (k : Nat) => (k : Int))]
    refine List.Pairwise.map _ (R := (· ≠ ·)) (fun a b h e => h (by omega)) ?_
    have : (0 :: new.reverse) = (new ++ [0]).reverse := by simp
    rw [this]
    exact List.pairwise_reverse.2 (hnd.imp fun h e => h e.symm)
  intro i hi
  have hnot : ∀ x : Int, (orderOf G)[i] = x → ((orderOf G).take i).contains x = false := fun x hx => by
    rw [List.contains_eq_mem]
    refine decide_eq_false fun hm => ?_
    obtain ⟨j, hj, e⟩ := List.getElem_of_mem hm
    rw [List.getElem_take] at e
    rw [List.length_take] at hj
    exact List.pairwise_iff_getElem.1 hond j i (by omega) hi (by omega) (e.trans hx.symm)
  cases i with
  | zero =>
    have e0 : (orderOf G)[0] = 0 := by simp [eo]
    exact ⟨0, e0, hG, hnot _ e0, fun _ => rfl, fun h => by omega⟩
  | succ i =>
    have hlen : (orderOf G).length = new.length + 1 := by rw [eo]; simp
    have hir : i < new.reverse.length := by simp; omega
    have hget : ∀ j (hj : j < new.reverse.length), (orderOf G)[j + 1]'(by rw [hlen]; simp at hj; omega) = ((new.reverse[j] : Nat) : Int) := fun j hj => by
      simp only [eo, List.getElem_cons_succ, ← List.map_reverse, List.getElem_map]
    refine ⟨new.reverse[i], hget i hir, hlt _ (List.mem_reverse.1 (List.getElem_mem hir)), hnot _ (hget i hir), fun h => by omega, fun _ => ?_⟩
    have hsp : new = (new.reverse.drop (i + 1)).reverse ++ new.reverse[i] :: (new.reverse.take i).reverse := by
      have gen : ∀ (r : List Nat) (h : i < r.length), r = r.take i ++ r[i] :: r.drop (i + 1) := fun r h => by simp
      have h1 := gen new.reverse hir
      have h2 := congrArg List.reverse h1
      rw [List.reverse_reverse, List.reverse_append, List.reverse_cons, List.append_assoc, List.singleton_append] at h2
      exact h2
    rw [hsp] at hL
    rw [List.any_eq_true]
    rcases hL.split with ⟨y, hy, hl⟩ | hp
    · rw [List.mem_reverse] at hy
      obtain ⟨j, hj, rfl⟩ := List.getElem_of_mem hy
      rw [List.length_take] at hj
      refine ⟨(orderOf G)[j + 1]'(by rw [hlen]; simp at hir; omega), ?_, ?_⟩
      · rw [List.mem_take_iff_getElem]
        exact ⟨j + 1, by omega, rfl⟩
      · rw [hget j (by omega)]
        rw [List.getElem_take] at hl
        simpa using hl
    · refine ⟨(orderOf G)[0], ?_, ?_⟩
      · rw [List.mem_take_iff_getElem]
        exact ⟨0, by omega, rfl⟩
      · simpa [eo] using hp

end Go.Pl
