/-
  Plain: a step against the order leads back, or goes round; crossed; loops nest.
-/
import Derived.Test.YtniflhbfnkadhaaPlLoops
namespace Go.Pl
variable {G : Graph}

/-- A step that does not lead back. -/
def Nb (G : Graph) (a k : Nat) : Prop := leadsB G a (k : Int) = true ∧ k < G.length ∧ ¬ Dm G k a
inductive CR (G : Graph) (v : Nat) : Nat → Prop where
  | refl : CR G v v
  | step {a k : Nat} (h : CR G v a) (s : Nb G a k) : CR G v k
/-- A way round among steps that do not lead back. -/
def CrossP (G : Graph) : Prop := ∃ x y : Nat, Rch G x ∧ Nb G x y ∧ CR G y x

/-- What a point leads to is left ahead of it, or leads back. -/
def PostR (G : Graph) (l new : List Int) : Prop := ∀ j (hj : j < new.length), ∃ x : Nat, new[j] = (x : Int) ∧ x < G.length ∧ ∀ k, k < G.length → leadsB G x (k : Int) = true → (k : Int) ∈ l ++ new.take j ∨ CR G k x
theorem PostR.append {l a b : List Int} (h : PostR G l a) (k : PostR G (l ++ a) b) : PostR G l (a ++ b) := by
  intro j hj
  rcases Nat.lt_or_ge j a.length with hlt | hge
  · obtain ⟨x, h1, h2, h3⟩ := h j hlt
    refine ⟨x, by rw [List.getElem_append_left hlt]; exact h1, h2, fun z hz hl => ?_⟩
    rw [List.take_append_of_le_length (by omega)]
    exact h3 z hz hl
  · obtain ⟨x, h1, h2, h3⟩ := k (j - a.length) (by rw [List.length_append] at hj; omega)
    refine ⟨x, by rw [List.getElem_append_right hge]; exact h1, h2, fun z hz hl => ?_⟩
    rw [List.take_append, List.take_of_length_le hge, ← List.append_assoc]
    exact h3 z hz hl
structure LftR (G : Graph) (s t : List Bool × List Int) (new : List Int) : Prop where
  len : t.1.length = G.length
  left : t.2 = s.2 ++ new
  post : PostR G s.2 new
  mark : ∀ v, v < G.length → (t.1.getD v false = true ↔ s.1.getD v false = true ∨ (v : Int) ∈ new)
  fresh : ∀ v : Nat, (v : Int) ∈ new → v < G.length ∧ s.1.getD v false = false
  nodup : new.Pairwise (· ≠ ·)
theorem LftR.trans {s t u : List Bool × List Int} {a b : List Int} (h : LftR G s t a) (k : LftR G t u b) : LftR G s u (a ++ b) where
  len := k.len
  left := by rw [k.left, h.left, List.append_assoc]
  post := h.post.append (by rw [← h.left]; exact k.post)
  mark v hv := by rw [k.mark v hv, h.mark v hv, List.mem_append, or_assoc]
  fresh v hv := by
    rcases List.mem_append.1 hv with hv | hv
    · exact h.fresh v hv
    · obtain ⟨h1, h2⟩ := k.fresh v hv
      refine ⟨h1, ?_⟩
      cases e : s.1.getD v false with
      | false => rfl
      | true => rw [(h.mark v h1).2 (.inl e)] at h2; cases h2
  nodup := List.pairwise_append.2 ⟨h.nodup, k.nodup, fun x hx y hy e => by
    subst e
    obtain ⟨j, hj, e⟩ := List.getElem_of_mem hx
    obtain ⟨z, hz, hzn, _⟩ := h.post j hj
    have : x = (z : Int) := by rw [← e, hz]
    subst this
    have h1 := (h.mark z hzn).2 (.inr hx)
    rw [(k.fresh z hy).2] at h1; cases h1⟩
theorem LftR.refl {s : List Bool × List Int} (h : s.1.length = G.length) : LftR G s s [] where
  len := h
  left := by simp
  post j hj := by simp at hj
  mark v _ := by simp
  fresh v hv := by cases hv
  nodup := List.Pairwise.nil

mutual
theorem dn_leftR : ∀ (f a : Nat) (s : List Bool × List Int), s.1.length = G.length → a < G.length → s.1.getD a false = false → open' s.1 ≤ f → (∀ v, v < G.length → s.1.getD v false = true → (v : Int) ∈ s.2 ∨ CR G v a) → (∀ v, v < G.length → v ≠ a → s.1.getD v false = false → Av G v a) →
    ∃ new, LftR G s (dn G f a s.1 s.2) new ∧ (a : Int) ∈ new
  | 0, a, s, hlen, ha, hm, ho, _, _ => by
    have := count_set (M := s.1) (a := a) (by omega) (by simpa [List.getD_eq_getElem?_getD, show a < s.1.length by omega] using hm)
    omega
  | f + 1, a, s, hlen, ha, hm, ho, hs, hu => by
    have hal : a < s.1.length := by omega
    have hc := count_set (M := s.1) (a := a) hal (by simpa [List.getD_eq_getElem?_getD, hal] using hm)
    have hset : ∀ v, (s.1.set a true).getD v false = true ↔ v = a ∨ s.1.getD v false = true := fun v => by
      rw [getD_set hal]
      by_cases e : a = v
      · subst e; simp
      · have : ¬ v = a := fun h => e h.symm
        simp [e, this]
    obtain ⟨new, hA, hw⟩ := fold_leftR f a ha (G.getD a []) (s.1.set a true, s.2) (by simpa using hlen) (by simp only; omega) (fun k hk => hk) (fun v hv hmv => by
      rcases (hset v).1 hmv with h | h
      · subst h; exact .inr .refl
      · exact hs v hv h) (fun v hv hmv => hu v hv (fun e => by
        rw [(hset v).2 (.inl e)] at hmv; cases hmv) (by
        cases e : s.1.getD v false with
        | false => rfl
        | true => rw [(hset v).2 (.inr e)] at hmv; cases hmv))
    refine ⟨new ++ [(a : Int)], ⟨?_, ?_, ?_, ?_, ?_, ?_⟩, by simp⟩
    · unfold dn; exact hA.len
    · unfold dn; simp only; rw [hA.left]; simp
    · refine hA.post.append fun j hj => ⟨a, by simp at hj; subst hj; rfl, ha, fun k hk hl => ?_⟩
      have hj : j = 0 := by simpa using hj
      subst hj
      have h1 := hw (k : Int) (by simpa [leadsB, List.contains_eq_mem] using hl) (by omega) (by omega)
      rw [Int.toNat_natCast, hA.mark k hk] at h1
      simp only [List.take_zero, List.append_nil]
      rcases h1 with h1 | h1
      · rcases (hset k).1 h1 with h2 | h2
        · subst h2; exact .inr .refl
        · exact (hs k hk h2).imp (fun h => List.mem_append.2 (.inl h)) id
      · exact .inl (List.mem_append.2 (.inr h1))
    · intro v hv
      unfold dn
      simp only
      rw [hA.mark v hv, hset, List.mem_append, List.mem_singleton]
      constructor
      · rintro ((h | h) | h)
        · subst h; exact .inr (.inr rfl)
        · exact .inl h
        · exact .inr (.inl h)
      · rintro (h | h | h)
        · exact .inl (.inr h)
        · exact .inr h
        · exact .inl (.inl (by omega))
    · intro v hv
      rcases List.mem_append.1 hv with hv | hv
      · obtain ⟨h1, h2⟩ := hA.fresh v hv
        refine ⟨h1, ?_⟩
        cases e : s.1.getD v false with
        | false => rfl
        | true => rw [(hset v).2 (.inr e)] at h2; cases h2
      · have : v = a := by
          have := List.mem_singleton.1 hv
          omega
        subst this; exact ⟨ha, hm⟩
    · refine List.pairwise_append.2 ⟨hA.nodup, List.pairwise_singleton _ _, fun x hx y hy e => ?_⟩
      rw [List.mem_singleton.1 hy] at e
      subst e
      have := (hA.fresh a hx).2
      rw [(hset a).2 (.inl rfl)] at this; cases this
termination_by f _ _ _ _ _ _ _ _ => (f, 0)
theorem fold_leftR (f a : Nat) (ha : a < G.length) : ∀ (w : List Int) (s : List Bool × List Int), s.1.length = G.length → open' s.1 ≤ f → (∀ k ∈ w, k ∈ G.getD a []) → (∀ v, v < G.length → s.1.getD v false = true → (v : Int) ∈ s.2 ∨ CR G v a) → (∀ v, v < G.length → s.1.getD v false = false → Av G v a) →
    ∃ new, LftR G s (w.foldl (stepDn G.length (dn G f)) s) new ∧ ∀ k ∈ w, 0 ≤ k → k < G.length → (w.foldl (stepDn G.length (dn G f)) s).1.getD k.toNat false = true
  | [], s, hlen, _, _, _, _ => ⟨[], LftR.refl hlen, by simp⟩
  | k :: w, s, hlen, ho, hw, hs, hu => by
    have one : ∃ n1, LftR G s (stepDn G.length (dn G f) s k) n1 ∧ (0 ≤ k → k < G.length → (stepDn G.length (dn G f) s k).1.getD k.toNat false = true) := by
      unfold stepDn
      split
      · rename_i hk
        have hka : leadsB G a ((k.toNat : Nat) : Int) = true := by
          have := hw k (by simp)
          rw [Int.toNat_of_nonneg hk.1]
          simpa [leadsB, List.contains_eq_mem] using this
        have hkn : k.toNat < G.length := by omega
        obtain ⟨new, hA, hin⟩ := dn_leftR f k.toNat s hlen hkn hk.2.2 ho (fun v hv hm => (hs v hv hm).imp id fun h => h.step ⟨hka, hkn, fun d => d.2.2 (hu k.toNat hkn hk.2.2)⟩) (fun v hv hne hm => (hu v hv hm).step hka hkn (Ne.symm hne))
        exact ⟨new, hA, fun _ _ => (hA.mark _ hkn).2 (.inr hin)⟩
      · rename_i hk
        refine ⟨[], LftR.refl hlen, fun h1 h2 => ?_⟩
        cases hg : s.1.getD k.toNat false with
        | true => rfl
        | false => exact absurd ⟨h1, h2, hg⟩ hk
    obtain ⟨n1, h1, h1k⟩ := one
    have hg := stepDn_keep (n := G.length) (go := dn G f) Grows Grows.refl (fun _ _ _ => Grows.trans) (fun k s _ _ => dn_grows G f k s) [k] s
    have ho2 : open' (stepDn G.length (dn G f) s k).1 ≤ f := by
      have := hg.op
      simp only [List.foldl_cons, List.foldl_nil] at this
      omega
    obtain ⟨n2, h2, h2k⟩ := fold_leftR f a ha w _ h1.len ho2 (fun k hk => hw k (by simp [hk])) (fun v hv hm => by
      rw [h1.left]
      rcases (h1.mark v hv).1 hm with h | h
      · exact (hs v hv h).imp (fun h => List.mem_append.2 (.inl h)) id
      · exact .inl (List.mem_append.2 (.inr h))) (fun v hv hm => hu v hv (by
        cases e : s.1.getD v false with
        | false => rfl
        | true => rw [(h1.mark v hv).2 (.inl e)] at hm; cases hm))
    refine ⟨n1 ++ n2, h1.trans h2, fun j hj hj0 hjn => ?_⟩
    rw [List.foldl_cons]
    rcases List.mem_cons.1 hj with rfl | hj
    · exact (h2.mark _ (by omega)).2 (.inl (h1k hj0 hjn))
    · exact h2k j hj hj0 hjn
termination_by w _ _ _ _ _ _ => (f, w.length + 1)
end


theorem search_left (hG : 0 < G.length) : ∃ new, PostR G [] new ∧ orderOf G = new.reverse := by
  have hne : G ≠ [] := by intro e; rw [e] at hG; simp at hG
  have hrep : ∀ i, (List.replicate G.length false).getD i false = false := fun i => by
    simp [List.getD_eq_getElem?_getD, List.getElem?_replicate]; split <;> rfl
  obtain ⟨new, hA, _⟩ := dn_leftR (G := G) G.length 0 (List.replicate G.length false, []) (by simp) hG (hrep 0) (by unfold open'; simp)
    (fun v _ hm => by simp only [hrep] at hm; cases hm) (fun v _ hv _ => .zero hG hv)
  refine ⟨new, hA.post, ?_⟩
  have es : search G = dn G G.length 0 (List.replicate G.length false) [] := if_neg hne
  unfold orderOf
  rw [es, hA.left]
  simp
/-- A step against the order: its end leads to its start by steps none of which leads back. -/
theorem retreat {x k : Nat} (hx : Rch G x) (hl : leadsB G x (k : Int) = true) (hk : k < G.length) (hr : rkOf G k ≤ rkOf G x) : CR G k x := by
  obtain ⟨new, hP, ho⟩ := search_left (Nat.lt_of_le_of_lt (Nat.zero_le _) hx.lt)
  obtain ⟨hi, hxi⟩ := rk_spec hx
  have hlen : (orderOf G).length = new.length := by rw [ho]; simp
  have hget : ∀ j (hj : j < new.length), (orderOf G)[new.length - 1 - j]'(by omega) = new[j] := fun j hj => by
    simp only [ho, List.getElem_reverse]
    congr 1
    omega
  obtain ⟨x', h1, _, h3⟩ := hP (new.length - 1 - rkOf G x) (by omega)
  have hxx : x' = x := by
    have := hget (new.length - 1 - rkOf G x) (by omega)
    simp only [show new.length - 1 - (new.length - 1 - rkOf G x) = rkOf G x from by omega] at this
    rw [hxi, h1] at this
    omega
  subst hxx
  rcases h3 k hk hl with h | h
  · exfalso
    rw [List.nil_append] at h
    obtain ⟨j, hj, e⟩ := List.getElem_of_mem h
    rw [List.length_take] at hj
    rw [List.getElem_take] at e
    have h4 := hget j (by omega)
    rw [e] at h4
    have := (rk_at _ h4).2
    omega
  · exact h

theorem av_zero {k : Nat} (h : Av G 0 k) : False := by
  induction h with
  | zero _ h => exact h rfl
  | step _ _ _ _ ih => exact ih
/-- What can be come to can be without the steps that lead back. -/
theorem less_back_reach {H : Graph} (hlen : H.length = G.length) (hH : ∀ a k : Nat, a < G.length → Nb G a k → leadsB H a (k : Int) = true) {k : Nat} (h : Rch G k) : Rch H k := by
  have hG : 0 < G.length := Nat.lt_of_le_of_lt (Nat.zero_le _) h.lt
  have r := thru (rk_ok G) k ⟨.zero hG, h, av_zero⟩
  have key : ∀ a, RI G (rkOf G) 0 a → Rch H a := by
    intro a r
    induction r with
    | refl => exact .zero (by omega)
    | @step u v hr hl hv hlt ih =>
      have hu := hr.reach (.zero hG)
      exact .step ih (hH u v hu.lt ⟨hl, hv, fun d => by have := dom_le (rk_ok G) d; omega⟩) (by omega)
  exact key k r
theorem cross_iff {H : Graph} (hlen : H.length = G.length) (hH : ∀ a k : Nat, a < G.length → k < G.length → (leadsB H a (k : Int) = true ↔ Nb G a k)) :
    (∃ x k : Nat, Rch H x ∧ leadsB H x (k : Int) = true ∧ k < G.length ∧ rkOf H k ≤ rkOf H x) ↔ CrossP G := by
  have hsub : ∀ k, Rch H k → Rch G k := by
    intro k h
    induction h with
    | zero h => exact .zero (by omega)
    | @step i k hi hl hk ih => exact .step ih ((hH i k ih.lt (by omega)).1 hl).1 (by omega)
  have hup : ∀ k, Rch G k → Rch H k := fun k h => less_back_reach hlen (fun a k ha hn => (hH a k ha hn.2.1).2 hn) h
  constructor
  · rintro ⟨x, k, hx, hl, hk, hr⟩
    have hxG := hsub x hx
    refine ⟨x, k, hxG, (hH x k hxG.lt hk).1 hl, ?_⟩
    have c := retreat hx hl (by omega) hr
    have key : ∀ a, CR H k a → CR G k a := by
      intro a c
      induction c with
      | refl => exact .refl
      | @step a b c s ih =>
        refine .step ih ((hH a b ?_ (by have := s.2.1; omega)).1 s.1)
        have hkH : Rch H k := .step hx hl (by omega)
        have : ∀ z, CR H k z → Rch H z := by
          intro z c
          induction c with
          | refl => exact hkH
          | step _ s ih => exact .step ih s.1 s.2.1
        have := (this a c).lt
        omega
    exact key x c
  · rintro ⟨x, y, hx, hn, c⟩
    refine Classical.byContradiction fun hno => ?_
    have up : ∀ a b, Rch G a → Nb G a b → rkOf H a < rkOf H b := fun a b ha s => by
      rcases Nat.lt_or_ge (rkOf H a) (rkOf H b) with h | h
      · exact h
      · exact absurd ⟨a, b, hup a ha, (hH a b ha.lt s.2.1).2 s, s.2.1, h⟩ hno
    have hy : Rch G y := .step hx hn.1 hn.2.1
    have key : ∀ a, CR G y a → Rch G a ∧ rkOf H y ≤ rkOf H a := by
      intro a c
      induction c with
      | refl => exact ⟨hy, Nat.le_refl _⟩
      | @step a b c s ih => exact ⟨.step ih.1 s.1 s.2.1, by have := up a b ih.1 s; omega⟩
    have h1 := up x y hx hn
    have h2 := (key x c).2
    omega

/-! The document's table -/
def crossS (G : Graph) (i k : Nat) : Bool := stepB G none i k && !domB G k i
theorem crossS_iff {i k : Nat} : crossS G i k = true ↔ Rch G i ∧ Rch G k ∧ Nb G i k := by
  unfold crossS
  rw [Bool.and_eq_true, stepB_iff]
  constructor
  · rintro ⟨⟨h1, h2, _, _, h5⟩, h6⟩
    refine ⟨h1, h2, h5, h2.lt, fun d => ?_⟩
    rw [(domB_iff h1.lt).2 d] at h6; cases h6
  · rintro ⟨h1, h2, h3⟩
    refine ⟨⟨h1, h2, by simp, by simp, h3.1⟩, ?_⟩
    cases e : domB G k i with
    | false => rfl
    | true => exact absurd ((domB_iff h1.lt).1 e) h3.2.2
def crossB (G : Graph) : Bool := (List.range G.length).any fun i => wT (crossS G) G.length i i
theorem crossB_iff : crossB G = true ↔ CrossP G := by
  unfold crossB
  rw [List.any_eq_true]
  constructor
  · rintro ⟨i, hi, hw⟩
    have key : ∀ a b, Ws (crossS G) G.length a b → ∃ y, Rch G a ∧ Nb G a y ∧ CR G y b := by
      intro a b w
      induction w with
      | one hs => obtain ⟨h1, _, h3⟩ := crossS_iff.1 hs; exact ⟨_, h1, h3, .refl⟩
      | cons hs _ _ ih =>
        obtain ⟨h1, h2, h3⟩ := crossS_iff.1 hs
        obtain ⟨y, _, g2, g3⟩ := ih
        refine ⟨_, h1, h3, ?_⟩
        clear hs h1 h2 h3
        have : ∀ z, CR G y z → CR G _ z := fun z c => by
          induction c with
          | refl => exact .step .refl g2
          | step _ s ih => exact .step ih s
        exact this _ g3
    obtain ⟨y, h1, h2, h3⟩ := key i i ((wT_iff _ _ _).1 hw)
    exact ⟨i, y, h1, h2, h3⟩
  · rintro ⟨x, y, hx, hn, c⟩
    refine ⟨x, List.mem_range.2 hx.lt, (wT_iff _ _ _).2 ?_⟩
    have hy : Rch G y := .step hx hn.1 hn.2.1
    have key : ∀ a, CR G y a → Rch G a ∧ Ws (crossS G) G.length x a := by
      intro a c
      induction c with
      | refl => exact ⟨hy, .one (crossS_iff.2 ⟨hx, hy, hn⟩)⟩
      | @step a b c s ih =>
        have hb : Rch G b := .step ih.1 s.1 s.2.1
        exact ⟨hb, ih.2.append ih.1.lt (.one (crossS_iff.2 ⟨ih.1, hb, s⟩))⟩
    exact (key x c).2
/-- A step against the order of a graph that isn't crossed leads back. -/
theorem back_of_retreat (hc : ¬ CrossP G) {x k : Nat} (hx : Rch G x) (hl : leadsB G x (k : Int) = true) (hk : k < G.length) (hr : rkOf G k ≤ rkOf G x) : BackP G k x := by
  refine ⟨hl, Classical.byContradiction fun hd => hc ⟨x, k, hx, ⟨hl, hk, hd⟩, retreat hx hl hk hr⟩⟩

/-! Loops nest -/
theorem InL.reach {h k : Nat} (hh : Rch G h) (i : InL G h k) : Rch G k := (i.dom hh).2.1
theorem loop_in {h1 h2 p : Nat} (hne : h1 ≠ h2) (hh1 : Rch G h1) (hh2 : Rch G h2) (p1 : InL G h1 p) (p2 : InL G h2 p) (hr : rkOf G h1 ≤ rkOf G h2) : ∀ q, InL G h2 q → InL G h1 q := by
  have not1 : ∀ z, Dm G h2 z → z ≠ h1 := fun z d e => by
    subst e
    have := dom_lt (rk_ok G) d (Ne.symm hne)
    omega
  have d2 := p2.dom hh2
  have key : ∀ z, RI G (rkOf G) h2 z → Dm G h2 z → InL G h1 z → InL G h1 h2 := by
    intro z r
    induction r with
    | refl => exact fun _ i => i
    | @step u v r hl hv hlt ih =>
      intro d i
      have hu := r.reach hh2
      have hne2 : h2 ≠ v := fun e => by subst e; have := r.le; omega
      exact ih (d.pred hne2 hu hl) (.pred i (not1 v d) hl hu)
  have hin : InL G h1 h2 := key p (thru (rk_ok G) p d2) d2 p1
  intro q hq
  induction hq with
  | head => exact hin
  | back hb => exact .pred hin (Ne.symm hne) hb.1 hb.2.2.1
  | pred hk hne' hl hp ih => exact .pred ih (not1 _ (hk.dom hh2)) hl hp

/-! Steps that all lead up -/
theorem up_dom (hup : ∀ a k : Nat, leadsB G a (k : Int) = true → a < k) {d k : Nat} (h : Dm G d k) : d ≤ k := by
  have key : ∀ z, Rch G z → z < d → Av G d z := by
    intro z hz
    induction hz with
    | zero h => exact fun hd => .zero h (by omega)
    | @step i k hi hl hk ih => exact fun hd => .step (ih (by have := hup i k hl; omega)) hl hk (by omega)
  rcases Nat.lt_or_ge k d with hlt | hge
  · exact absurd (key k h.2.1 hlt) h.2.2
  · exact hge
theorem up_none (hup : ∀ a k : Nat, leadsB G a (k : Int) = true → a < k) : loopsF G = [] ∧ ¬ CrossP G := by
  constructor
  · unfold loopsF
    rw [List.map_eq_nil_iff, List.filter_eq_nil_iff]
    intro h _ hb
    have hn : backF G h ≠ [] := by intro e; rw [e] at hb; cases hb
    obtain ⟨b, hb⟩ := List.exists_mem_of_ne_nil _ hn
    have := (mem_backF.1 hb).2
    have h1 := hup _ _ this.1
    have h2 := up_dom hup this.2
    omega
  · rintro ⟨x, y, hx, hn, c⟩
    have key : ∀ a, CR G y a → y ≤ a := by
      intro a c
      induction c with
      | refl => exact Nat.le_refl _
      | step _ s ih => have := hup _ _ s.1; omega
    have h1 := hup _ _ hn.1
    have h2 := key x c
    omega

end Go.Pl
