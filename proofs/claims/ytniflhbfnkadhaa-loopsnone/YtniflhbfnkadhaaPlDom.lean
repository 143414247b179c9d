/-
  Plain: which points of a graph one must go through; near ones found round by round, in an order.
-/
import Derived.Test.YtniflhbfnkadhaaPlShape
namespace Go.Pl

/-- Come to without going through a point. -/
inductive Av (G : Graph) (d : Nat) : Nat → Prop where
  | zero (h : 0 < G.length) (hd : d ≠ 0) : Av G d 0
  | step {i k : Nat} (h : Av G d i) (hl : leadsB G i (k : Int) = true) (hk : k < G.length) (hd : k ≠ d) : Av G d k
theorem Av.ne {G : Graph} {d k : Nat} (h : Av G d k) : k ≠ d := by
  cases h with
  | zero _ hd => exact fun e => hd e.symm
  | step _ _ _ hd => exact hd
theorem Av.reach {G : Graph} {d k : Nat} (h : Av G d k) : Rch G k := by
  induction h with
  | zero h _ => exact .zero h
  | step _ hl hk _ ih => exact .step ih hl hk

def Dm (G : Graph) (d k : Nat) : Prop := Rch G d ∧ Rch G k ∧ ¬ Av G d k
theorem Dm.refl {G : Graph} {k : Nat} (h : Rch G k) : Dm G k k := ⟨h, h, fun a => a.ne rfl⟩
theorem Dm.pred {G : Graph} {d k p : Nat} (h : Dm G d k) (hne : d ≠ k) (hp : Rch G p) (hl : leadsB G p (k : Int) = true) : Dm G d p :=
  ⟨h.1, hp, fun a => h.2.2 (.step a hl h.2.1.lt (Ne.symm hne))⟩
theorem Dm.trans {G : Graph} {a b c : Nat} (h : Dm G a b) (k : Dm G b c) : Dm G a c := by
  refine ⟨h.1, k.2.1, fun hav => ?_⟩
  have key : ∀ x, Av G a x → Av G b x := by
    intro x hx
    induction hx with
    | zero h0 hd => exact .zero h0 fun e => by subst e; exact h.2.2 (.zero h0 hd)
    | step hi hl hk hd ih => exact .step ih hl hk fun e => by subst e; exact h.2.2 (.step hi hl hk hd)
  exact k.2.2 (key c hav)

/-! Ranks -/
structure Rk (G : Graph) (rk : Nat → Nat) : Prop where
  inj : ∀ a b, Rch G a → Rch G b → rk a = rk b → a = b
  pred : ∀ k, Rch G k → k ≠ 0 → ∃ p, Rch G p ∧ leadsB G p (k : Int) = true ∧ rk p < rk k

/-- A way on which ranks rise. -/
inductive RI (G : Graph) (rk : Nat → Nat) (a : Nat) : Nat → Prop where
  | refl : RI G rk a a
  | step {u v : Nat} (h : RI G rk a u) (hl : leadsB G u (v : Int) = true) (hv : v < G.length) (hr : rk u < rk v) : RI G rk a v

variable {G : Graph} {rk : Nat → Nat}
theorem RI.le {a k : Nat} (h : RI G rk a k) : rk a ≤ rk k := by
  induction h with
  | refl => exact Nat.le_refl _
  | step _ _ _ hr ih => omega
theorem RI.trans {a b c : Nat} (h : RI G rk a b) (k : RI G rk b c) : RI G rk a c := by
  induction k with
  | refl => exact h
  | step _ hl hv hr ih => exact .step ih hl hv hr
theorem RI.reach {a k : Nat} (h : RI G rk a k) (ha : Rch G a) : Rch G k := by
  induction h with
  | refl => exact ha
  | step _ hl hv _ ih => exact .step ih hl hv

theorem Rk.least (R : Rk G rk) : ∀ k, Rch G k → k ≠ 0 → rk 0 < rk k := by
  intro k
  induction hn : rk k using Nat.strongRecOn generalizing k with
  | _ n ih =>
    intro hk h0
    obtain ⟨p, hp, _, hr⟩ := R.pred k hk h0
    by_cases e : p = 0
    · subst e; omega
    · have := ih (rk p) (by omega) p rfl hp e; omega

theorem dom_up {d x a : Nat} (h : Dm G d x) (r : RI G rk a x) (ha : Rch G a) (hr : rk d < rk a) : Dm G d a := by
  refine ⟨h.1, ha, fun hav => h.2.2 ?_⟩
  clear h
  induction r with
  | refl => exact hav
  | step h' hl hv hrk ih => exact .step ih hl hv fun e => by subst e; have := h'.le; omega
theorem thru (R : Rk G rk) {b : Nat} : ∀ k, Dm G b k → RI G rk b k := by
  intro k
  induction hn : rk k using Nat.strongRecOn generalizing k with
  | _ n ih =>
    intro h
    by_cases e : b = k
    · subst e; exact .refl
    · have hk0 : k ≠ 0 := fun e0 => by
        subst e0
        exact h.2.2 (.zero h.2.1.lt e)
      obtain ⟨p, hp, hl, hr⟩ := R.pred k h.2.1 hk0
      exact .step (ih (rk p) (by omega) p rfl (h.pred e hp hl)) hl h.2.1.lt hr
theorem dom_le (R : Rk G rk) {b k : Nat} (h : Dm G b k) : rk b ≤ rk k := (thru R k h).le
theorem dom_lt (R : Rk G rk) {b k : Nat} (h : Dm G b k) (hne : b ≠ k) : rk b < rk k := by
  have := dom_le R h
  rcases Nat.lt_or_ge (rk b) (rk k) with h1 | h1
  · exact h1
  · exact absurd (R.inj b k h.1 h.2.1 (by omega)) hne
theorem dom_antisymm (R : Rk G rk) {a b : Nat} (h : Dm G a b) (k : Dm G b a) : a = b := by
  have h1 := dom_le R h
  have h2 := dom_le R k
  exact R.inj a b h.1 h.2.1 (by omega)
theorem dom_total (R : Rk G rk) {a b k : Nat} (h : Dm G a k) (h' : Dm G b k) (hr : rk a < rk b) : Dm G a b := dom_up h (thru R k h') h'.1 hr

/-! Chains -/
inductive Anc (N : Nat → Nat) (x : Nat) : Nat → Prop where
  | refl : Anc N x x
  | up {k : Nat} (h0 : k ≠ 0) (h : Anc N x (N k)) : Anc N x k
theorem Anc.iff {N : Nat → Nat} {x k : Nat} : Anc N x k ↔ x = k ∨ (k ≠ 0 ∧ Anc N x (N k)) :=
  ⟨fun h => by cases h with
    | refl => exact .inl rfl
    | up h0 h => exact .inr ⟨h0, h⟩, fun h => by
    rcases h with rfl | ⟨h0, h⟩
    · exact .refl
    · exact .up h0 h⟩
theorem Anc.strict {N : Nat → Nat} {x k : Nat} (h : Anc N x k) (hne : x ≠ k) : k ≠ 0 ∧ Anc N x (N k) := (Anc.iff.1 h).resolve_left hne
theorem Anc.trans {N : Nat → Nat} {x y k : Nat} (h : Anc N x y) (h' : Anc N y k) : Anc N x k := by
  induction h' with
  | refl => exact h
  | up h0 _ ih => exact .up h0 ih
theorem Anc.zero {N : Nat → Nat} {x : Nat} (h : Anc N x 0) : x = 0 := by
  rcases Anc.iff.1 h with h | h
  · exact h
  · exact absurd rfl h.1

/-- Near ones have less rank, and lead on. -/
def TN (G : Graph) (rk : Nat → Nat) (pr : Nat → Prop) (N : Nat → Nat) : Prop := ∀ k, Rch G k → pr k → k ≠ 0 → Rch G (N k) ∧ pr (N k) ∧ rk (N k) < rk k ∧ RI G rk (N k) k
abbrev tt : Nat → Prop := fun _ => True
variable {pr : Nat → Prop} {N : Nat → Nat}

theorem Anc.ok (t : TN G rk pr N) {x k : Nat} (h : Anc N x k) : Rch G k → pr k → Rch G x ∧ pr x ∧ rk x ≤ rk k ∧ RI G rk x k := by
  induction h with
  | refl => exact fun h1 h2 => ⟨h1, h2, Nat.le_refl _, .refl⟩
  | up h0 _ ih =>
    intro h1 h2
    obtain ⟨a, b, c, d⟩ := t _ h1 h2 h0
    obtain ⟨e, f, g, i⟩ := ih a b
    exact ⟨e, f, by omega, i.trans d⟩
theorem Anc.lin (t : TN G rk pr N) {x y k : Nat} (hx : Anc N x k) (hy : Anc N y k) : Rch G k → pr k → rk x ≤ rk y → Anc N x y := by
  induction hy with
  | refl => exact fun _ _ _ => hx
  | @up k h0 hy ih =>
    intro h1 h2 hr
    obtain ⟨a, b, c, _⟩ := t _ h1 h2 h0
    have hy' := hy.ok t a b
    rcases Anc.iff.1 hx with e | ⟨_, hx⟩
    · subst e; omega
    · exact ih hx a b hr

def mix (N0 N : Nat → Nat) (rk : Nat → Nat) (r : Nat) : Nat → Nat := fun p => if rk p < r then N p else N0 p
theorem mix_self (N : Nat → Nat) (rk : Nat → Nat) (r : Nat) : mix N N rk r = N := by funext p; unfold mix; split <;> rfl
theorem Anc.mixLow {N0 : Nat → Nat} (t : TN G rk pr N) (r x : Nat) : ∀ k, rk k < r → Rch G k → pr k → (Anc (mix N0 N rk r) x k ↔ Anc N x k) := by
  intro k
  induction hn : rk k using Nat.strongRecOn generalizing k with
  | _ n ih =>
    intro hk h1 h2
    rw [Anc.iff, Anc.iff (N := N)]
    by_cases h0 : k = 0
    · simp [h0]
    · obtain ⟨a, b, c, _⟩ := t _ h1 h2 h0
      have e : mix N0 N rk r k = N k := if_pos (by omega)
      rw [e, ih (rk (N k)) (by omega) (N k) rfl (by omega) a b]
/-- The first one below a rank. -/
theorem anc_below {N0 : Nat → Nat} (t : TN G rk pr N0) {r : Nat} (hr : rk 0 < r) : ∀ p, Rch G p → pr p → ∃ y, Anc N0 y p ∧ rk y < r ∧ Rch G y ∧ pr y ∧
    (∀ x N, rk x < r → (Anc (mix N0 N rk r) x p ↔ Anc (mix N0 N rk r) x y)) ∧ (∀ x, rk x < r → (Anc N0 x p ↔ Anc N0 x y)) := by
  intro p
  induction hn : rk p using Nat.strongRecOn generalizing p with
  | _ n ih =>
    intro h1 h2
    rcases Nat.lt_or_ge (rk p) r with hlt | hge
    · exact ⟨p, .refl, hlt, h1, h2, fun _ _ _ => Iff.rfl, fun _ _ => Iff.rfl⟩
    · have h0 : p ≠ 0 := fun e => by subst e; omega
      obtain ⟨a, b, c, _⟩ := t _ h1 h2 h0
      obtain ⟨y, y1, y2, y3, y4, y5, y6⟩ := ih (rk (N0 p)) (by omega) (N0 p) rfl a b
      refine ⟨y, .up h0 y1, y2, y3, y4, fun x N hx => ?_, fun x hx => ?_⟩
      · rw [← y5 x N hx, Anc.iff]
        have e : mix N0 N rk r p = N0 p := if_neg (by omega)
        rw [e]
        exact ⟨fun h => (h.resolve_left fun e => by subst e; omega).2, fun h => .inr ⟨h0, h⟩⟩
      · rw [← y6 x hx, Anc.iff]
        exact ⟨fun h => (h.resolve_left fun e => by subst e; omega).2, fun h => .inr ⟨h0, h⟩⟩

/-- One round made the second ones of the first ones: of points of less rank the new ones are asked, of others the old ones. -/
def Rd1 (G : Graph) (rk : Nat → Nat) (pr : Nat → Prop) (N0 N : Nat → Nat) (k : Nat) : Prop :=
  ∀ x, Anc (mix N0 N rk (rk k)) x (N k) ↔ ∀ p, Rch G p → leadsB G p (k : Int) = true → (rk p < rk k ∨ pr p) → Anc (mix N0 N rk (rk k)) x p
def Rd (G : Graph) (rk : Nat → Nat) (pr : Nat → Prop) (N0 N : Nat → Nat) : Prop := ∀ k, Rch G k → k ≠ 0 → Rd1 G rk pr N0 N k

theorem edge_of {N0 : Nat → Nat} (t : TN G rk tt N) (rd : Rd G rk pr N0 N) {u v x : Nat} (hu : Rch G u) (hv : Rch G v) (h0 : v ≠ 0) (hl : leadsB G u (v : Int) = true) (hr : rk u < rk v) (hx : Anc N x v) (hne : x ≠ v) : Anc N x u := by
  obtain ⟨a, _, c, _⟩ := t v hv trivial h0
  have h1 := (Anc.mixLow (N0 := N0) t (rk v) x (N v) c a trivial).2 (hx.strict hne).2
  have h2 := (rd v hv h0 x).1 h1 u hu hl (.inl hr)
  exact (Anc.mixLow t (rk v) x u hr hu trivial).1 h2
theorem carry {N0 : Nat → Nat} (R : Rk G rk) (t : TN G rk tt N) (rd : Rd G rk pr N0 N) {z p y : Nat} (h : RI G rk z p) (hz : Rch G z) (hr : rk y ≤ rk z) : Anc N y p → Anc N y z := by
  induction h with
  | refl => exact fun h => h
  | @step u v h' hl hv hrk ih =>
    intro hy
    have hu := h'.reach hz
    have hle := h'.le
    have hv' : Rch G v := .step hu hl hv
    have h0 : v ≠ 0 := fun e => by
      subst e
      by_cases eu : u = 0
      · subst eu; omega
      · have := R.least u hu eu; omega
    exact ih (edge_of t rd hu hv' h0 hl hrk hy fun e => by subst e; omega)

theorem mono1 {N0 N' : Nat → Nat} (hpr : ∀ p, pr p → p = 0) (R : Rk G rk) (t : TN G rk tt N) (t' : TN G rk tt N') (rd : Rd G rk pr N0 N) (rd' : Rd G rk tt N N') : ∀ k, Rch G k → ∀ x, Anc N' x k → Anc N x k := by
  intro k
  induction hn : rk k using Nat.strongRecOn generalizing k with
  | _ n ih =>
    intro hk x hx
    by_cases e : x = k
    · subst e; exact .refl
    · obtain ⟨h0, hx⟩ := hx.strict e
      obtain ⟨a, _, c, _⟩ := t' k hk trivial h0
      have h1 := (Anc.mixLow (N0 := N) t' (rk k) x (N' k) c a trivial).2 hx
      have h2 := (rd' k hk h0 x).1 h1
      obtain ⟨a', _, c', _⟩ := t k hk trivial h0
      refine .up h0 ((Anc.mixLow (N0 := N0) t (rk k) x (N k) c' a' trivial).1 ((rd k hk h0 x).2 fun p hp hl hlow => ?_))
      have hlow' : rk p < rk k := by
        rcases hlow with h | h
        · exact h
        · rw [hpr p h]; exact R.least k hk h0
      have h3 := (Anc.mixLow t' (rk k) x p hlow' hp trivial).1 (h2 p hp hl (.inl hlow'))
      exact (Anc.mixLow t (rk k) x p hlow' hp trivial).2 (ih (rk p) (by omega) p rfl hp x h3)

theorem mono2 {P N' : Nat → Nat} (R : Rk G rk) (tp : TN G rk tt P) (t : TN G rk tt N) (t' : TN G rk tt N') (rd : Rd G rk tt P N) (rd' : Rd G rk tt N N') (hsub : ∀ k, Rch G k → ∀ x, Anc N x k → Anc P x k) : ∀ k, Rch G k → ∀ x, Anc N' x k → Anc N x k := by
  intro k
  induction hn : rk k using Nat.strongRecOn generalizing k with
  | _ n ih =>
    intro hk x hx
    by_cases e : x = k
    · subst e; exact .refl
    · obtain ⟨h0, hx⟩ := hx.strict e
      obtain ⟨a, _, c, _⟩ := t' k hk trivial h0
      have hxr := (hx.ok t' a trivial).2.2.1
      have h1 := (Anc.mixLow (N0 := N) t' (rk k) x (N' k) c a trivial).2 hx
      have h2 := (rd' k hk h0 x).1 h1
      obtain ⟨a', _, c', _⟩ := t k hk trivial h0
      refine .up h0 ((Anc.mixLow (N0 := P) t (rk k) x (N k) c' a' trivial).1 ((rd k hk h0 x).2 fun p hp hl _ => ?_))
      have h3 := h2 p hp hl (.inr trivial)
      rcases Nat.lt_or_ge (rk p) (rk k) with hlow | hhigh
      · have h4 := (Anc.mixLow t' (rk k) x p hlow hp trivial).1 h3
        exact (Anc.mixLow t (rk k) x p hlow hp trivial).2 (ih (rk p) (by omega) p rfl hp x h4)
      · have hr0 := R.least k hk h0
        obtain ⟨y, y1, y2, y3, _, y5, y6⟩ := anc_below t hr0 p hp trivial
        obtain ⟨z, z1, z2, z3, _, z5, z6⟩ := anc_below tp hr0 p hp trivial
        have hxk : rk x < rk k := by omega
        have h4 := (Anc.mixLow t' (rk k) x y y2 y3 trivial).1 ((y5 x N' hxk).1 h3)
        have h5 := ih (rk y) (by omega) y rfl y3 x h4
        refine (z5 x N hxk).2 ((Anc.mixLow t (rk k) x z z2 z3 trivial).2 (h5.trans ?_))
        have hyz : Anc P y z := (z6 y y2).1 (hsub p hp y y1)
        have hle := (hyz.ok tp z3 trivial).2.2.1
        exact carry R t rd (z1.ok tp hp trivial).2.2.2 z3 hle y1

theorem dom_round {N0 : Nat → Nat} (R : Rk G rk) (t0 : TN G rk pr N0) (t : TN G rk tt N) (rd : Rd G rk pr N0 N) (hd : ∀ k, Rch G k → pr k → ∀ d, Dm G d k → Anc N0 d k) : ∀ k, Rch G k → ∀ d, Dm G d k → Anc N d k := by
  intro k
  induction hn : rk k using Nat.strongRecOn generalizing k with
  | _ n ih =>
    intro hk d hdk
    by_cases e : d = k
    · subst e; exact .refl
    · have h0 : k ≠ 0 := fun e0 => by subst e0; exact hdk.2.2 (.zero hk.lt e)
      obtain ⟨a, _, c, _⟩ := t k hk trivial h0
      have hlt := dom_lt R hdk e
      refine .up h0 ((Anc.mixLow (N0 := N0) t (rk k) d (N k) c a trivial).1 ((rd k hk h0 d).2 fun p hp hl hor => ?_))
      have hdp := hdk.pred e hp hl
      rcases Nat.lt_or_ge (rk p) (rk k) with hlow | hhigh
      · exact (Anc.mixLow t (rk k) d p hlow hp trivial).2 (ih (rk p) (by omega) p rfl hp d hdp)
      · have hpp : pr p := hor.resolve_left (by omega)
        obtain ⟨y, y1, y2, y3, y4, y5, y6⟩ := anc_below t0 (R.least k hk h0) p hp hpp
        refine (y5 d N hlt).2 ((Anc.mixLow t (rk k) d y y2 y3 trivial).2 ?_)
        have hdy0 := (y6 d hlt).1 (hd p hp hpp d hdp)
        by_cases ey : d = y
        · subst ey; exact .refl
        · have hle := (hdy0.ok t0 y3 y4).2.2.1
          have hlt2 : rk d < rk y := by
            rcases Nat.lt_or_ge (rk d) (rk y) with h | h
            · exact h
            · exact absurd (R.inj d y hdk.1 y3 (by omega)) ey
          exact ih (rk y) (by omega) y rfl y3 d (dom_up hdp (y1.ok t0 hp hpp).2.2.2 y3 hlt2)

theorem fix_dom (t : TN G rk tt N) (rd : Rd G rk tt N N) {k a : Nat} (hk : Rch G k) (h : Anc N a k) : Dm G a k := by
  refine ⟨(h.ok t hk trivial).1, hk, fun hav => ?_⟩
  have key : ∀ x, Av G a x → ¬ Anc N a x := by
    intro x hx
    induction hx with
    | zero _ hd => exact fun h => hd h.zero
    | @step i k hi hl hk hd ih =>
      intro ha
      have hi' := hi.reach
      obtain ⟨h0, h1⟩ := ha.strict (Ne.symm hd)
      have := rd k (.step hi' hl hk) h0 a
      rw [mix_self] at this
      exact ih (this.1 h1 i hi' hl (.inr trivial))
  exact key k hav h

/-- The nearest one. -/
def IsNear (G : Graph) (k : Nat) (v : Int) : Prop :=
  (v = -1 ∧ ∀ d, Dm G d k → d = k) ∨ (∃ d : Nat, v = d ∧ Dm G d k ∧ d ≠ k ∧ ∀ j, Dm G j k → j ≠ k → Dm G j d)
theorem IsNear.unique (R : Rk G rk) {k : Nat} {v w : Int} (h : IsNear G k v) (h' : IsNear G k w) : v = w := by
  rcases h with ⟨rfl, h⟩ | ⟨d, rfl, h1, h2, h3⟩
  · rcases h' with ⟨rfl, _⟩ | ⟨e, rfl, g1, g2, _⟩
    · rfl
    · exact absurd (h e g1) g2
  · rcases h' with ⟨rfl, g⟩ | ⟨e, rfl, g1, g2, g3⟩
    · exact absurd (g d h1) h2
    · rw [dom_antisymm R (g3 d h1 h2) (h3 e g1 g2)]
theorem fix_near (R : Rk G rk) (t : TN G rk tt N) (rd : Rd G rk tt N N) (hd : ∀ k, Rch G k → ∀ d, Dm G d k → Anc N d k) {k : Nat} (hk : Rch G k) (h0 : k ≠ 0) : IsNear G k (N k) := by
  obtain ⟨a, _, c, _⟩ := t k hk trivial h0
  refine .inr ⟨N k, rfl, fix_dom t rd hk (.up h0 .refl), fun e => by rw [e] at c; omega, fun j hj hne => ?_⟩
  exact fix_dom t rd a ((hd k hk j hj).strict hne).2
theorem near_none {k : Nat} (h : ¬ Rch G k ∨ k = 0) : IsNear G k (-1) := by
  refine .inl ⟨rfl, fun d hd => ?_⟩
  rcases h with h | rfl
  · exact absurd hd.2.1 h
  · by_cases e : d = 0
    · exact e
    · exact absurd (.zero hd.2.1.lt e) hd.2.2

/-! All rounds -/
/-- What holds after each round. -/
structure Good (G : Graph) (rk : Nat → Nat) (N : Nat → Nat) : Prop where
  tn : TN G rk tt N
  dom : ∀ k, Rch G k → ∀ d, Dm G d k → Anc N d k
  mono : ∀ N', TN G rk tt N' → Rd G rk tt N N' → ∀ k, Rch G k → ∀ x, Anc N' x k → Anc N x k
theorem Good.first {N0 : Nat → Nat} (hpr : ∀ p, pr p → p = 0) (R : Rk G rk) (t : TN G rk tt N) (rd : Rd G rk pr N0 N) : Good G rk N := by
  refine ⟨t, dom_round R ?_ t rd ?_, fun N' t' rd' => mono1 hpr R t t' rd rd'⟩
  · intro k _ hp h0; exact absurd (hpr k hp) h0
  · intro k hk hp d hdk
    have := hpr k hp
    subst this
    by_cases e : d = 0
    · subst e; exact .refl
    · exact absurd (.zero hk.lt e) hdk.2.2
theorem Good.next {N' : Nat → Nat} (R : Rk G rk) (g : Good G rk N) (t' : TN G rk tt N') (rd' : Rd G rk tt N N') : Good G rk N' :=
  ⟨t', dom_round R g.tn t' rd' (fun k hk _ => g.dom k hk), fun _ t'' rd'' => mono2 R g.tn t' t'' rd' rd'' (g.mono _ t' rd')⟩
theorem Good.less {N' : Nat → Nat} (R : Rk G rk) (g : Good G rk N) (t' : TN G rk tt N') (rd' : Rd G rk tt N N') {k : Nat} (hk : Rch G k) (h0 : k ≠ 0) : rk (N' k) ≤ rk (N k) ∧ (N' k ≠ N k → rk (N' k) < rk (N k)) := by
  obtain ⟨a, _, c, _⟩ := t' k hk trivial h0
  obtain ⟨a2, _, _, _⟩ := g.tn k hk trivial h0
  have h1 := g.mono _ t' rd' k hk (N' k) (.up h0 .refl)
  have h2 := (h1.strict fun e => by rw [e] at c; omega).2
  have h3 := (h2.ok g.tn a2 trivial).2.2.1
  refine ⟨h3, fun hne => ?_⟩
  rcases Nat.lt_or_ge (rk (N' k)) (rk (N k)) with h | h
  · exact h
  · exact absurd (R.inj _ _ a a2 (by omega)) hne

end Go.Pl
