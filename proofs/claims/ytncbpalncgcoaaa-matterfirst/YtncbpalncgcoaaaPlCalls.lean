/-
  Plain: parts of a graph, found while one goes down and comes back.
-/
import Derived.Test.YtncbpalncgcoaaaPlFlow2
namespace Go.Pl

/-- Come to from a point. -/
inductive Ch (G : Graph) (v : Nat) : Nat → Prop where
  | refl : Ch G v v
  | step {u w : Nat} (h : Ch G v u) (hl : leadsB G u (w : Int) = true) (hw : w < G.length) : Ch G v w
variable {G : Graph}
theorem Ch.trans {a b c : Nat} (h : Ch G a b) (k : Ch G b c) : Ch G a c := by
  induction k with
  | refl => exact h
  | step _ hl hw ih => exact .step ih hl hw
theorem Ch.one {a b : Nat} (hl : leadsB G a (b : Int) = true) (hb : b < G.length) : Ch G a b := .step .refl hl hb
/-- The first step of a way. -/
theorem Ch.first {a b : Nat} (h : Ch G a b) (hne : a ≠ b) : ∃ z : Nat, leadsB G a (z : Int) = true ∧ z < G.length ∧ Ch G z b := by
  induction h with
  | refl => exact absurd rfl hne
  | @step u w h hl hw ih =>
    by_cases e : a = u
    · subst e; exact ⟨w, hl, hw, .refl⟩
    · obtain ⟨z, h1, h2, h3⟩ := ih e
      exact ⟨z, h1, h2, .step h3 hl hw⟩
def Mut (G : Graph) (a b : Nat) : Prop := Ch G a b ∧ Ch G b a
def Cyc (G : Graph) (v : Nat) : Prop := ∃ y : Nat, leadsB G v (y : Int) = true ∧ y < G.length ∧ Ch G y v

structure TS where
  rank : Nat → Nat
  low : Nat → Nat
  part : Nat → Int
  rnd : Nat → Bool
  O : List Nat
  st : List (Nat × Nat)
  m : Nat
def upF {α : Type} (f : Nat → α) (k : Nat) (x : α) : Nat → α := fun v => if v = k then x else f v
theorem upF_same {α : Type} (f : Nat → α) (k : Nat) (x : α) : upF f k x k = x := if_pos rfl
theorem upF_ne {α : Type} {f : Nat → α} {k v : Nat} {x : α} (h : v ≠ k) : upF f k x v = f v := if_neg h

/-- A step that was looked at. -/
def Ex (G : Graph) (st : List (Nat × Nat)) (v u : Nat) : Prop := ∃ j, (G.getD v [])[j]? = some (u : Int) ∧ ∀ i, (v, i) ∈ st → j < i
theorem Ex.lead {st : List (Nat × Nat)} {v u : Nat} (h : Ex G st v u) : leadsB G v (u : Int) = true := by
  obtain ⟨j, hj, _⟩ := h
  unfold leadsB
  rw [List.contains_eq_mem]
  exact decide_eq_true (List.mem_of_getElem? hj)
abbrev pth (st : List (Nat × Nat)) : List Nat := st.map Prod.fst
theorem pth_mem {st : List (Nat × Nat)} {v i : Nat} (h : (v, i) ∈ st) : v ∈ pth st := List.mem_map.2 ⟨_, h, rfl⟩
theorem ex_adv {v i : Nat} {r : List (Nat × Nat)} {u0 : Int} (hv : v ∉ pth r) (hu : (G.getD v [])[i]? = some u0) (w u : Nat) : Ex G ((v, i + 1) :: r) w u ↔ Ex G ((v, i) :: r) w u ∨ (w = v ∧ u0 = (u : Int)) := by
  constructor
  · rintro ⟨j, hj, hall⟩
    by_cases e : w = v
    · subst e
      have := hall (i + 1) (by simp)
      by_cases e2 : j = i
      · subst e2
        rw [hu] at hj
        injection hj with hj
        exact .inr ⟨rfl, hj⟩
      · refine .inl ⟨j, hj, fun i' hi' => ?_⟩
        rcases List.mem_cons.1 hi' with h | h
        · injection h with _ h; omega
        · exact absurd (pth_mem h) hv
    · refine .inl ⟨j, hj, fun i' hi' => ?_⟩
      rcases List.mem_cons.1 hi' with h | h
      · injection h with h _; exact absurd h e
      · exact hall i' (List.mem_cons_of_mem _ h)
  · rintro (⟨j, hj, hall⟩ | ⟨rfl, e⟩)
    · refine ⟨j, hj, fun i' hi' => ?_⟩
      rcases List.mem_cons.1 hi' with h | h
      · injection h with h1 h2
        subst h1
        have := hall i (by simp)
        omega
      · exact hall i' (List.mem_cons_of_mem _ h)
    · subst e
      refine ⟨i, hu, fun i' hi' => ?_⟩
      rcases List.mem_cons.1 hi' with h | h
      · injection h with _ h; omega
      · exact absurd (pth_mem h) hv
theorem ex_push {k : Nat} {st : List (Nat × Nat)} (w u : Nat) : Ex G ((k, 0) :: st) w u ↔ w ≠ k ∧ Ex G st w u := by
  constructor
  · rintro ⟨j, hj, hall⟩
    refine ⟨fun e => ?_, j, hj, fun i hi => hall i (List.mem_cons_of_mem _ hi)⟩
    subst e
    have := hall 0 (by simp)
    omega
  · rintro ⟨hne, j, hj, hall⟩
    refine ⟨j, hj, fun i hi => ?_⟩
    rcases List.mem_cons.1 hi with h | h
    · injection h with h _; exact absurd h hne
    · exact hall i h
theorem ex_pop {k i : Nat} {r : List (Nat × Nat)} (hi : (G.getD k []).length ≤ i) (w u : Nat) : Ex G ((k, i) :: r) w u ↔ Ex G r w u := by
  constructor
  · rintro ⟨j, hj, hall⟩
    exact ⟨j, hj, fun i' hi' => hall i' (List.mem_cons_of_mem _ hi')⟩
  · rintro ⟨j, hj, hall⟩
    refine ⟨j, hj, fun i' hi' => ?_⟩
    rcases List.mem_cons.1 hi' with h | h
    · injection h with h1 h2
      subst h1 h2
      have := (List.getElem?_eq_some_iff.1 hj).1
      omega
    · exact hall i' h

/-- The last point under way that isn't behind a point. -/
def Seg (rank : Nat → Nat) (ps : List Nat) (v p : Nat) : Prop := p ∈ ps ∧ rank p ≤ rank v ∧ ∀ q ∈ ps, rank q ≤ rank v → rank q ≤ rank p

structure TI (G : Graph) (T : TS) : Prop where
  vis : ∀ v, T.rank v ≠ 0 → v < G.length ∧ T.rank v ≤ T.m
  inj : ∀ v u, T.rank v ≠ 0 → T.rank v = T.rank u → v = u
  op : ∀ v, v ∈ T.O ↔ T.rank v ≠ 0 ∧ T.part v < 0
  sorted : T.O.Pairwise fun a b => T.rank a < T.rank b
  path : (pth T.st).Pairwise fun a b => T.rank b < T.rank a ∧ Ch G b a
  onp : ∀ p ∈ pth T.st, p ∈ T.O
  seg : ∀ v ∈ T.O, ∃ p, Seg T.rank (pth T.st) v p ∧ Ch G p v ∧ Ch G v p
  clos : ∀ v u : Nat, T.rank v ≠ 0 → 0 ≤ T.part v → leadsB G v (u : Int) = true → u < G.length → T.rank u ≠ 0 ∧ 0 ≤ T.part u
  expl : ∀ v u, T.rank v ≠ 0 → u < G.length → Ex G T.st v u → T.rank u ≠ 0
  low1 : ∀ p ∈ pth T.st, T.low p ≤ T.rank p ∧ ∃ u ∈ T.O, T.rank u = T.low p ∧ Ch G p u
  low2 : ∀ v u p, v ∈ T.O → u ∈ T.O → Ex G T.st v u → Seg T.rank (pth T.st) v p → T.low p ≤ T.rank u
  rnd : ∀ v ∈ T.O, (T.rnd v = true ↔ Ex G T.st v v)
  good : ∀ v, T.rank v ≠ 0 → 0 ≤ T.part v → (∃ c : Nat, T.part v = c ∧ Mut G v c ∧ ∀ d, Mut G v d → c ≤ d) ∧ (T.rnd v = true ↔ Cyc G v)
  zero : ∀ v, T.rank v = 0 → T.part v < 0 ∧ T.rnd v = false

theorem TI.start {rank low : Nat → Nat} {part : Nat → Int} {rnd : Nat → Bool} (h1 : ∀ v, rank v = 0) (h2 : ∀ v, part v < 0) (h3 : ∀ v, rnd v = false) : TI G ⟨rank, low, part, rnd, [], [], 0⟩ where
  vis v h := absurd (h1 v) h
  inj v _ h := absurd (h1 v) h
  op v := ⟨fun h => (by cases h), fun h => absurd (h1 v) h.1⟩
  sorted := List.Pairwise.nil
  path := List.Pairwise.nil
  onp p h := by cases h
  seg v h := by cases h
  clos v _ h := absurd (h1 v) h
  expl v _ h := absurd (h1 v) h
  low1 p h := by cases h
  low2 v _ _ h := by cases h
  rnd v h := by cases h
  good v h := absurd (h1 v) h
  zero v _ := ⟨h2 v, h3 v⟩

/-- With nothing under way nothing is open. -/
theorem TI.empty {T : TS} (t : TI G T) (h : T.st = []) : T.O = [] := by
  cases hO : T.O with
  | nil => rfl
  | cons v l =>
    obtain ⟨p, hp, _⟩ := t.seg v (by rw [hO]; simp)
    rw [h] at hp
    cases hp.1

/-- A point is marked. -/
theorem TI.push {T : TS} (t : TI G T) {k : Nat} {st' : List (Nat × Nat)} (hk : k < G.length) (h0 : T.rank k = 0)
    (hst : (T.st = [] ∧ st' = []) ∨ ∃ v i r, T.st = (v, i) :: r ∧ st' = (v, i + 1) :: r ∧ (G.getD v [])[i]? = some (k : Int)) :
    TI G ⟨upF T.rank k (T.m + 1), upF T.low k (T.m + 1), T.part, T.rnd, T.O ++ [k], (k, 0) :: st', T.m + 1⟩ := by
  have hkO : k ∉ T.O := fun h => ((t.op k).1 h).1 h0
  have hps : pth st' = pth T.st := by
    rcases hst with ⟨h1, h2⟩ | ⟨v, i, r, h1, h2, _⟩
    · rw [h1, h2]
    · rw [h1, h2]; rfl
  have hkp : k ∉ pth T.st := fun h => hkO (t.onp k h)
  have rne : ∀ v, v ≠ k → upF T.rank k (T.m + 1) v = T.rank v := fun v h => upF_ne h
  have lne : ∀ v, v ≠ k → upF T.low k (T.m + 1) v = T.low v := fun v h => upF_ne h
  have rk := upF_same T.rank k (T.m + 1)
  have lk := upF_same T.low k (T.m + 1)
  have hle : ∀ v, T.rank v ≤ T.m := fun v => by
    by_cases h : T.rank v = 0
    · omega
    · exact (t.vis v h).2
  have Ole : ∀ v ∈ T.O, v ≠ k := fun v hv e => hkO (e ▸ hv)
  -- what was looked at
  have hex : ∀ w u, Ex G ((k, 0) :: st') w u → w ≠ k ∧ (Ex G T.st w u ∨ u = k) := fun w u h => by
    obtain ⟨h1, h2⟩ := (ex_push w u).1 h
    refine ⟨h1, ?_⟩
    rcases hst with ⟨e1, e2⟩ | ⟨v, i, r, e1, e2, e3⟩
    · rw [e2] at h2; rw [e1]; exact .inl h2
    · rw [e2] at h2
      have hv : v ∉ pth r := fun hm => by
        have := t.path
        rw [e1] at this
        exact absurd (List.pairwise_cons.1 this |>.1 v hm).1 (Nat.lt_irrefl _)
      rcases (ex_adv hv e3 w u).1 h2 with h | ⟨_, h⟩
      · rw [e1]; exact .inl h
      · exact .inr (by omega)
  have hex2 : ∀ w u, w ≠ k → Ex G T.st w u → Ex G ((k, 0) :: st') w u := fun w u h1 h => by
    refine (ex_push w u).2 ⟨h1, ?_⟩
    rcases hst with ⟨e1, e2⟩ | ⟨v, i, r, e1, e2, e3⟩
    · rw [e1] at h; rw [e2]; exact h
    · rw [e1] at h; rw [e2]
      have hv : v ∉ pth r := fun hm => by
        have := t.path
        rw [e1] at this
        exact absurd (List.pairwise_cons.1 this |>.1 v hm).1 (Nat.lt_irrefl _)
      exact (ex_adv hv e3 w u).2 (.inl h)
  have hch : ∀ p ∈ pth T.st, Ch G p k := fun p hp => by
    rcases hst with ⟨e1, _⟩ | ⟨v, i, r, e1, _, e3⟩
    · rw [e1] at hp; cases hp
    · have hvk : Ch G v k := Ch.one (by unfold leadsB; rw [List.contains_eq_mem]; exact decide_eq_true (List.mem_of_getElem? e3)) hk
      rw [e1] at hp
      rcases List.mem_cons.1 hp with rfl | hp
      · exact hvk
      · have := t.path
        rw [e1] at this
        exact ((List.pairwise_cons.1 this).1 p hp).2.trans hvk
  have segOld : ∀ v, v ∈ T.O → ∀ p, Seg (upF T.rank k (T.m + 1)) (pth ((k, 0) :: st')) v p ↔ Seg T.rank (pth T.st) v p := fun v hv p => by
    have hvk := Ole v hv
    have e : pth ((k, 0) :: st') = k :: pth T.st := by rw [← hps]; rfl
    rw [e]
    unfold Seg
    constructor
    · rintro ⟨h1, h2, h3⟩
      have hpk : p ≠ k := fun e => by subst e; rw [rk, rne v hvk] at h2; have := hle v; omega
      refine ⟨(List.mem_cons.1 h1).resolve_left hpk, by rwa [rne p hpk, rne v hvk] at h2, fun q hq hqv => ?_⟩
      have hqk : q ≠ k := fun e => hkp (e ▸ hq)
      have := h3 q (List.mem_cons_of_mem _ hq)
      rw [rne q hqk, rne v hvk, rne p hpk] at this
      exact this hqv
    · rintro ⟨h1, h2, h3⟩
      have hpk : p ≠ k := fun e => hkp (e ▸ h1)
      refine ⟨List.mem_cons_of_mem _ h1, by rw [rne p hpk, rne v hvk]; exact h2, fun q hq hqv => ?_⟩
      rcases List.mem_cons.1 hq with rfl | hq
      · rw [rk, rne v hvk] at hqv; have := hle v; omega
      · have hqk : q ≠ k := fun e => hkp (e ▸ hq)
        rw [rne q hqk, rne v hvk] at hqv
        rw [rne q hqk, rne p hpk]
        exact h3 q hq hqv
  refine ⟨?_, ?_, ?_, ?_, ?_, ?_, ?_, ?_, ?_, ?_, ?_, ?_, ?_, ?_⟩
  · intro v hv
    by_cases e : v = k
    · subst e; exact ⟨hk, Nat.le_of_eq rk⟩
    · simp only [rne v e] at hv ⊢
      have := t.vis v hv
      exact ⟨this.1, by omega⟩
  · intro v u hv he
    simp only at hv he
    by_cases e1 : v = k
    · by_cases e2 : u = k
      · rw [e1, e2]
      · rw [e1, rk, rne u e2] at he; have := hle u; omega
    · by_cases e2 : u = k
      · rw [e2, rk, rne v e1] at he; have := hle v; omega
      · rw [rne v e1] at hv he; rw [rne u e2] at he
        exact t.inj v u hv he
  · intro v
    simp only [List.mem_append, List.mem_singleton]
    by_cases e : v = k
    · subst e; rw [rk]; exact ⟨fun _ => ⟨by omega, (t.zero v h0).1⟩, fun _ => .inr rfl⟩
    · rw [rne v e, ← t.op v]; exact ⟨fun h => h.resolve_right e, .inl⟩
  · refine List.pairwise_append.2 ⟨List.Pairwise.imp_of_mem (fun {a b} ha hb h => ?_) t.sorted, List.pairwise_singleton _ _, fun a ha b hb => ?_⟩
    · simp only [rne a (Ole a ha), rne b (Ole b hb)]; exact h
    · rw [List.mem_singleton.1 hb]
      simp only [rne a (Ole a ha), rk]
      have := hle a; omega
  · show (k :: pth st').Pairwise _
    rw [hps]
    refine List.pairwise_cons.2 ⟨fun b hb => ?_, List.Pairwise.imp_of_mem (fun {a b} ha hb h => ?_) t.path⟩
    · have hbk : b ≠ k := fun e => hkp (e ▸ hb)
      simp only [rne b hbk, rk]
      exact ⟨by have := hle b; omega, hch b hb⟩
    · simp only [rne a fun e => hkp (e ▸ ha), rne b fun e => hkp (e ▸ hb)]; exact h
  · intro p hp
    rcases List.mem_cons.1 (show p ∈ k :: pth st' from hp) with rfl | hp
    · simp
    · rw [hps] at hp; exact List.mem_append.2 (.inl (t.onp p hp))
  · intro v hv
    rcases List.mem_append.1 hv with hv | hv
    · obtain ⟨p, h1, h2, h3⟩ := t.seg v hv
      exact ⟨p, (segOld v hv p).2 h1, h2, h3⟩
    · rw [List.mem_singleton.1 hv]
      refine ⟨k, ⟨List.mem_cons_self .., Nat.le_refl _, fun q _ h => h⟩, .refl, .refl⟩
  · intro v u hv hp hl hu
    simp only at hv hp ⊢
    have hvk : v ≠ k := fun e => by subst e; have := (t.zero v h0).1; omega
    rw [rne v hvk] at hv
    obtain ⟨h1, h2⟩ := t.clos v u hv hp hl hu
    have huk : u ≠ k := fun e => by subst e; exact h1 h0
    rw [rne u huk]
    exact ⟨h1, h2⟩
  · intro v u hv hu he
    simp only at hv ⊢
    obtain ⟨h1, h2⟩ := hex v u he
    by_cases e : u = k
    · subst e; rw [rk]; omega
    · rw [rne v h1] at hv
      rw [rne u e]
      exact t.expl v u hv hu (h2.resolve_right e)
  · intro p hp
    rcases List.mem_cons.1 (show p ∈ k :: pth st' from hp) with rfl | hp
    · simp only [rk, lk]
      exact ⟨Nat.le_refl _, p, by simp, rk, .refl⟩
    · rw [hps] at hp
      have hpk : p ≠ k := fun e => hkp (e ▸ hp)
      obtain ⟨h1, u, h2, h3, h4⟩ := t.low1 p hp
      simp only [rne p hpk, lne p hpk]
      exact ⟨h1, u, List.mem_append.2 (.inl h2), by rw [rne u (Ole u h2)]; exact h3, h4⟩
  · intro v u p hv hu he hs
    obtain ⟨h1, h2⟩ := hex v u he
    have hvO : v ∈ T.O := (List.mem_append.1 hv).resolve_right fun h => h1 (List.mem_singleton.1 h)
    have hs' := (segOld v hvO p).1 hs
    have hpk : p ≠ k := fun e => hkp (e ▸ hs'.1)
    simp only [lne p hpk]
    by_cases e : u = k
    · subst e
      rw [rk]
      have := (t.low1 p hs'.1).1
      have := hle p
      omega
    · have huO : u ∈ T.O := (List.mem_append.1 hu).resolve_right fun h => e (List.mem_singleton.1 h)
      rw [rne u e]
      exact t.low2 v u p hvO huO (h2.resolve_right e) hs'
  · intro v hv
    rcases List.mem_append.1 hv with hv | hv
    · have hvk := Ole v hv
      refine (t.rnd v hv).trans ⟨fun h => hex2 v v hvk h, fun h => ((hex v v h).2).resolve_right hvk⟩
    · rw [List.mem_singleton.1 hv]
      simp only [(t.zero k h0).2]
      exact ⟨fun h => (by cases h), fun h => absurd rfl (hex k k h).1⟩
  · intro v hv hp
    simp only at hv hp ⊢
    have hvk : v ≠ k := fun e => by subst e; have := (t.zero v h0).1; omega
    rw [rne v hvk] at hv
    exact t.good v hv hp
  · intro v hv
    simp only at hv ⊢
    have hvk : v ≠ k := fun e => by subst e; rw [rk] at hv; omega
    rw [rne v hvk] at hv
    exact t.zero v hv

end Go.Pl
