/-
  Plain: ways, step by step; the order in which points are left.
-/
import Derived.Test.YtncbpalncgcoaaaPlCalls2
namespace Go.Pl
variable {G : Graph}

/-! Ways -/
/-- Whether one can come from one to another one by a step or more, between them only some of the first points. -/
def waysT (G : Graph) : Nat → Nat → Nat → Bool
  | 0, i, k => leadsB G i (k : Int)
  | m + 1, i, k => waysT G m i k || (waysT G m i m && waysT G m m k)
inductive Wm (G : Graph) (m : Nat) : Nat → Nat → Prop where
  | one {i k : Nat} (hl : leadsB G i (k : Int) = true) : Wm G m i k
  | cons {i j k : Nat} (hl : leadsB G i (j : Int) = true) (hj : j < m) (h : Wm G m j k) : Wm G m i k
theorem Wm.mono {m m' i k : Nat} (h : Wm G m i k) (hm : m ≤ m') : Wm G m' i k := by
  induction h with
  | one hl => exact .one hl
  | cons hl hj _ ih => exact .cons hl (by omega) ih
theorem Wm.append {m i j k : Nat} (h : Wm G m i j) (hj : j < m) (h' : Wm G m j k) : Wm G m i k := by
  induction h with
  | one hl => exact .cons hl hj h'
  | cons hl hj' _ ih => exact .cons hl hj' (ih hj h')
theorem ways_iff : ∀ (m i k : Nat), waysT G m i k = true ↔ Wm G m i k
  | 0, i, k => by
    unfold waysT
    constructor
    · exact .one
    · intro h
      cases h with
      | one hl => exact hl
      | cons _ hj _ => omega
  | m + 1, i, k => by
    unfold waysT
    rw [Bool.or_eq_true, Bool.and_eq_true, ways_iff m i k, ways_iff m i m, ways_iff m m k]
    constructor
    · rintro (h | ⟨h1, h2⟩)
      · exact h.mono (by omega)
      · exact (h1.mono (by omega)).append (by omega) (h2.mono (by omega))
    · intro h
      induction h with
      | one hl => exact .inl (.one hl)
      | @cons i j k hl hj _ ih =>
        rcases Nat.lt_or_ge j m with hlt | hge
        · rcases ih with h | ⟨h1, h2⟩
          · exact .inl (.cons hl hlt h)
          · exact .inr ⟨.cons hl hlt h1, h2⟩
        · have : j = m := by omega
          subst this
          rcases ih with h | ⟨_, h2⟩
          · exact .inr ⟨.one hl, h⟩
          · exact .inr ⟨.one hl, h2⟩
theorem wm_ch {i k : Nat} (hk : k < G.length) (h : Wm G G.length i k) : ∃ y : Nat, leadsB G i (y : Int) = true ∧ y < G.length ∧ Ch G y k := by
  induction h with
  | one hl => exact ⟨_, hl, hk, .refl⟩
  | cons hl hj _ ih =>
    obtain ⟨y, h1, h2, h3⟩ := ih hk
    exact ⟨_, hl, hj, (Ch.one h1 h2).trans h3⟩
theorem ch_wm {i y k : Nat} (hl : leadsB G i (y : Int) = true) (hy : y < G.length) (h : Ch G y k) : Wm G G.length i k := by
  induction h with
  | refl => exact .one hl
  | @step u w h hlu hw ih =>
    have hu : u < G.length := by
      cases h with
      | refl => exact hy
      | step _ _ hw => exact hw
    exact ih.append hu (.one hlu)
def waysL (G : Graph) (m : Nat) : List (List Bool) := (List.range G.length).map fun i => (List.range G.length).map fun k => waysT G m i k
def wayB (G : Graph) (i k : Nat) : Bool := waysT G G.length i k
theorem way_cyc {i : Nat} (hi : i < G.length) : wayB G i i = true ↔ Cyc G i := by
  unfold wayB Cyc
  rw [ways_iff]
  constructor
  · exact wm_ch hi
  · rintro ⟨y, h1, h2, h3⟩; exact ch_wm h1 h2 h3
theorem way_mut {i k : Nat} (hi : i < G.length) (hk : k < G.length) (hne : i ≠ k) : (wayB G i k = true ∧ wayB G k i = true) ↔ Mut G i k := by
  have one : ∀ {a b : Nat}, b < G.length → a ≠ b → (wayB G a b = true ↔ Ch G a b) := fun {a b} hb hab => by
    unfold wayB
    rw [ways_iff]
    constructor
    · intro h
      obtain ⟨y, h1, h2, h3⟩ := wm_ch hb h
      exact (Ch.one h1 h2).trans h3
    · intro h
      obtain ⟨y, h1, h2, h3⟩ := h.first hab
      exact ch_wm h1 h2 h3
  rw [one hk hne, one hi (Ne.symm hne)]
  exact Iff.rfl

/-- The least one of a part, looked for from a point down. -/
def lst (G : Graph) (i : Nat) : Nat → Nat
  | 0 => i
  | j + 1 => if wayB G i (i - 1 - j) = true ∧ wayB G (i - 1 - j) i = true then i - 1 - j else lst G i j
theorem lst_le (G : Graph) (i : Nat) : ∀ j, lst G i j ≤ i
  | 0 => Nat.le_refl _
  | j + 1 => by unfold lst; split; omega; exact lst_le G i j
theorem lst_spec {i : Nat} (hi : i < G.length) : ∀ j, j ≤ i → Mut G i (lst G i j) ∧ ∀ d, i - j ≤ d → d < G.length → Mut G i d → lst G i j ≤ d
  | 0, _ => ⟨⟨.refl, .refl⟩, fun d h _ _ => by unfold lst; omega⟩
  | j + 1, hj => by
    obtain ⟨h1, h2⟩ := lst_spec hi j (by omega)
    unfold lst
    split
    · rename_i h
      exact ⟨(way_mut hi (by omega) (by omega)).1 h, fun d hd _ _ => by omega⟩
    · rename_i h
      refine ⟨h1, fun d hd hdn hm => ?_⟩
      by_cases e : d = i - 1 - j
      · subst e
        exact absurd ((way_mut hi (by omega) (by omega)).2 hm) h
      · exact h2 d (by omega) hdn hm
def partsF (G : Graph) : List Int := (List.range G.length).map fun i => ((lst G i i : Nat) : Int)
def roundF (G : Graph) : List Bool := (List.range G.length).map fun i => wayB G i i
theorem mut_lt {a b : Nat} (ha : a < G.length) (h : Mut G a b) : b < G.length := by
  cases h.1 with
  | refl => exact ha
  | step _ _ hw => exact hw

/-! The order in which points are left -/
/-- What a point leads to is left ahead of it, or leads back. -/
def Post (G : Graph) (l new : List Int) : Prop := ∀ j (hj : j < new.length), ∃ x : Nat, new[j] = (x : Int) ∧ x < G.length ∧ ∀ k, k < G.length → leadsB G x (k : Int) = true → (k : Int) ∈ l ++ new.take j ∨ Ch G k x
theorem Post.append {l a b : List Int} (h : Post G l a) (k : Post G (l ++ a) b) : Post G l (a ++ b) := by
  intro j hj
  rcases Nat.lt_or_ge j a.length with hlt | hge
  · obtain ⟨x, h1, h2, h3⟩ := h j hlt
    refine ⟨x, by rw [List.getElem_append_left hlt]; exact h1, h2, fun z hz hl => ?_⟩
    rw [List.take_append_of_le_length (by omega)]
    exact h3 z hz hl
  · obtain ⟨x, h1, h2, h3⟩ := k (j - a.length) (by rw [List.length_append] at hj; omega)
    refine ⟨x, by rw [List.getElem_append_right hge]; exact h1, h2, fun z hz hl => ?_⟩
    rw [List.take_append, List.take_of_length_le hge, ← List.append_assoc]
    exact h3 z hz hl
structure Lft (G : Graph) (s t : List Bool × List Int) (new : List Int) : Prop where
  len : t.1.length = G.length
  left : t.2 = s.2 ++ new
  post : Post G s.2 new
  mark : ∀ v, v < G.length → (t.1.getD v false = true ↔ s.1.getD v false = true ∨ (v : Int) ∈ new)
  fresh : ∀ v : Nat, (v : Int) ∈ new → v < G.length ∧ s.1.getD v false = false
  nodup : new.Pairwise (· ≠ ·)
theorem Lft.trans {s t u : List Bool × List Int} {a b : List Int} (h : Lft G s t a) (k : Lft G t u b) : Lft G s u (a ++ b) where
  len := k.len
  left := by rw [k.left, h.left, List.append_assoc]
  post := h.post.append (by rw [← h.left]; exact k.post)
  mark v hv := by rw [k.mark v hv, h.mark v hv, List.mem_append, or_assoc]
  fresh v hv := by
    rcases List.mem_append.1 hv with hv | hv
    · exact h.fresh v hv
    · obtain ⟨h1, h2⟩ := k.fresh v hv
      refine ⟨h1, ?_⟩
      cases e : s.1.getD v false with
      | false => rfl
      | true => rw [(h.mark v h1).2 (.inl e)] at h2; cases h2
  nodup := List.pairwise_append.2 ⟨h.nodup, k.nodup, fun x hx y hy e => by
    subst e
    obtain ⟨j, hj, e⟩ := List.getElem_of_mem hx
    obtain ⟨z, hz, hzn, _⟩ := h.post j hj
    have : x = (z : Int) := by rw [← e, hz]
    subst this
    have h1 := (h.mark z hzn).2 (.inr hx)
    rw [(k.fresh z hy).2] at h1; cases h1⟩
theorem Lft.refl {s : List Bool × List Int} (h : s.1.length = G.length) : Lft G s s [] where
  len := h
  left := by simp
  post j hj := by simp at hj
  mark v _ := by simp
  fresh v hv := by cases hv
  nodup := List.Pairwise.nil

mutual
theorem dn_left : ∀ (f a : Nat) (s : List Bool × List Int), s.1.length = G.length → a < G.length → s.1.getD a false = false → open' s.1 ≤ f → (∀ v, v < G.length → s.1.getD v false = true → (v : Int) ∈ s.2 ∨ Ch G v a) →
    ∃ new, Lft G s (dn G f a s.1 s.2) new ∧ (a : Int) ∈ new
  | 0, a, s, hlen, ha, hm, ho, _ => by
    have := count_set (M := s.1) (a := a) (by omega) (by simpa [List.getD_eq_getElem?_getD, show a < s.1.length by omega] using hm)
    omega
  | f + 1, a, s, hlen, ha, hm, ho, hs => by
    have hal : a < s.1.length := by omega
    have hc := count_set (M := s.1) (a := a) hal (by simpa [List.getD_eq_getElem?_getD, hal] using hm)
    have hset : ∀ v, (s.1.set a true).getD v false = true ↔ v = a ∨ s.1.getD v false = true := fun v => by
      rw [getD_set hal]
      by_cases e : a = v
      · subst e; simp
      · have : ¬ v = a := fun h => e h.symm
        simp [e, this]
    obtain ⟨new, hA, hw⟩ := fold_left f a ha (G.getD a []) (s.1.set a true, s.2) (by simpa using hlen) (by simp only; omega) (fun k hk => hk) (fun v hv hmv => by
      rcases (hset v).1 hmv with h | h
      · subst h; exact .inr .refl
      · exact hs v hv h)
    refine ⟨new ++ [(a : Int)], ⟨?_, ?_, ?_, ?_, ?_, ?_⟩, by simp⟩
    · unfold dn; exact hA.len
    · unfold dn; simp only; rw [hA.left]; simp
    · refine hA.post.append fun j hj => ⟨a, by simp at hj; subst hj; rfl, ha, fun k hk hl => ?_⟩
      have hj : j = 0 := by simpa using hj
      subst hj
      have h1 := hw (k : Int) (by simpa [leadsB, List.contains_eq_mem] using hl) (by omega) (by omega)
      rw [Int.toNat_natCast, hA.mark k hk] at h1
      simp only [List.take_zero, List.append_nil]
      rcases h1 with h1 | h1
      · rcases (hset k).1 h1 with h2 | h2
        · subst h2; exact .inr .refl
        · exact (hs k hk h2).imp (fun h => List.mem_append.2 (.inl h)) id
      · exact .inl (List.mem_append.2 (.inr h1))
    · intro v hv
      unfold dn
      simp only
      rw [hA.mark v hv, hset, List.mem_append, List.mem_singleton]
      constructor
      · rintro ((h | h) | h)
        · subst h; exact .inr (.inr rfl)
        · exact .inl h
        · exact .inr (.inl h)
      · rintro (h | h | h)
        · exact .inl (.inr h)
        · exact .inr h
        · exact .inl (.inl (by omega))
    · intro v hv
      rcases List.mem_append.1 hv with hv | hv
      · obtain ⟨h1, h2⟩ := hA.fresh v hv
        refine ⟨h1, ?_⟩
        cases e : s.1.getD v false with
        | false => rfl
        | true => rw [(hset v).2 (.inr e)] at h2; cases h2
      · have : v = a := by
          have := List.mem_singleton.1 hv
          omega
        subst this; exact ⟨ha, hm⟩
    · refine List.pairwise_append.2 ⟨hA.nodup, List.pairwise_singleton _ _, fun x hx y hy e => ?_⟩
      rw [List.mem_singleton.1 hy] at e
      subst e
      have := (hA.fresh a hx).2
      rw [(hset a).2 (.inl rfl)] at this; cases this
termination_by f _ _ _ _ _ _ _ => (f, 0)
theorem fold_left (f a : Nat) (ha : a < G.length) : ∀ (w : List Int) (s : List Bool × List Int), s.1.length = G.length → open' s.1 ≤ f → (∀ k ∈ w, k ∈ G.getD a []) → (∀ v, v < G.length → s.1.getD v false = true → (v : Int) ∈ s.2 ∨ Ch G v a) →
    ∃ new, Lft G s (w.foldl (stepDn G.length (dn G f)) s) new ∧ ∀ k ∈ w, 0 ≤ k → k < G.length → (w.foldl (stepDn G.length (dn G f)) s).1.getD k.toNat false = true
  | [], s, hlen, _, _, _ => ⟨[], Lft.refl hlen, by simp⟩
  | k :: w, s, hlen, ho, hw, hs => by
    have one : ∃ n1, Lft G s (stepDn G.length (dn G f) s k) n1 ∧ (0 ≤ k → k < G.length → (stepDn G.length (dn G f) s k).1.getD k.toNat false = true) := by
      unfold stepDn
      split
      · rename_i hk
        have hka : leadsB G a ((k.toNat : Nat) : Int) = true := by
          have := hw k (by simp)
          rw [Int.toNat_of_nonneg hk.1]
          simpa [leadsB, List.contains_eq_mem] using this
        have hkn : k.toNat < G.length := by omega
        obtain ⟨new, hA, hin⟩ := dn_left f k.toNat s hlen hkn hk.2.2 ho (fun v hv hm => (hs v hv hm).imp id fun h => h.trans (Ch.one hka hkn))
        exact ⟨new, hA, fun _ _ => (hA.mark _ hkn).2 (.inr hin)⟩
      · rename_i hk
        refine ⟨[], Lft.refl hlen, fun h1 h2 => ?_⟩
        cases hg : s.1.getD k.toNat false with
        | true => rfl
        | false => exact absurd ⟨h1, h2, hg⟩ hk
    obtain ⟨n1, h1, h1k⟩ := one
    have hg := stepDn_keep (n := G.length) (go := dn G f) Grows Grows.refl (fun _ _ _ => Grows.trans) (fun k s _ _ => dn_grows G f k s) [k] s
    have ho2 : open' (stepDn G.length (dn G f) s k).1 ≤ f := by
      have := hg.op
      simp only [List.foldl_cons, List.foldl_nil] at this
      omega
    obtain ⟨n2, h2, h2k⟩ := fold_left f a ha w _ h1.len ho2 (fun k hk => hw k (by simp [hk])) (fun v hv hm => by
      rw [h1.left]
      rcases (h1.mark v hv).1 hm with h | h
      · exact (hs v hv h).imp (fun h => List.mem_append.2 (.inl h)) id
      · exact .inl (List.mem_append.2 (.inr h)))
    refine ⟨n1 ++ n2, h1.trans h2, fun j hj hj0 hjn => ?_⟩
    rw [List.foldl_cons]
    rcases List.mem_cons.1 hj with rfl | hj
    · exact (h2.mark _ (by omega)).2 (.inl (h1k hj0 hjn))
    · exact h2k j hj hj0 hjn
termination_by w _ _ _ _ _ => (f, w.length + 1)
end

/-- All points, from each that isn't marked yet. -/
def allDn (G : Graph) (k : Nat) : List Bool × List Int := (List.range k).foldl (fun s i => if s.1.getD i false = false then dn G G.length i s.1 s.2 else s) (List.replicate G.length false, [])
def leftA (G : Graph) : List Int := (allDn G G.length).2
theorem allDn_succ (G : Graph) (k : Nat) : allDn G (k + 1) = if (allDn G k).1.getD k false = false then dn G G.length k (allDn G k).1 (allDn G k).2 else allDn G k := by
  unfold allDn
  rw [List.range_succ, List.foldl_append]
  rfl
theorem all_left (G : Graph) : ∀ k, k ≤ G.length → ∃ new, Lft G (List.replicate G.length false, []) (allDn G k) new ∧ ∀ v, v < k → (v : Int) ∈ new
  | 0, _ => ⟨[], Lft.refl (by simp), fun v hv => by omega⟩
  | k + 1, hk => by
    obtain ⟨new, hA, hall⟩ := all_left G k (by omega)
    have hrep : ∀ v, (List.replicate G.length false).getD v false = false := fun v => by
      simp [List.getD_eq_getElem?_getD, List.getElem?_replicate]; split <;> rfl
    have hm : ∀ v, v < G.length → ((allDn G k).1.getD v false = true ↔ (v : Int) ∈ new) := fun v hv => by
      rw [hA.mark v hv, hrep]; simp
    have hl : (allDn G k).2 = new := by rw [hA.left]; simp
    rw [allDn_succ]
    split
    · rename_i h
      have hop : open' (allDn G k).1 ≤ G.length := by
        unfold open'
        exact Nat.le_trans List.count_le_length (by rw [hA.len]; exact Nat.le_refl _)
      obtain ⟨n2, h2, h2in⟩ := dn_left G.length k (allDn G k) hA.len (by omega) h hop (fun v hv hmv => .inl (by rw [hl]; exact (hm v hv).1 hmv))
      refine ⟨new ++ n2, hA.trans h2, fun v hv => ?_⟩
      by_cases e : v = k
      · subst e; exact List.mem_append.2 (.inr h2in)
      · exact List.mem_append.2 (.inl (hall v (by omega)))
    · rename_i h
      refine ⟨new, hA, fun v hv => ?_⟩
      by_cases e : v = k
      · subst e; exact (hm v (by omega)).1 (by simpa using h)
      · exact hall v (by omega)
theorem left_says (G : Graph) : Post G [] (leftA G) ∧ (∀ v, v < G.length → (v : Int) ∈ leftA G) ∧ (leftA G).Pairwise (· ≠ ·) := by
  obtain ⟨new, hA, hall⟩ := all_left G G.length (Nat.le_refl _)
  have hl : leftA G = new := by unfold leftA; rw [hA.left]; simp
  rw [hl]
  exact ⟨hA.post, hall, hA.nodup⟩

end Go.Pl
