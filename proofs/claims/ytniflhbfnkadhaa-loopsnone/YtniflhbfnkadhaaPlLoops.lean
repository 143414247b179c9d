/-
  Plain: loops: ways of a table, what leads back, a loop's points.
-/
import Derived.Test.YtniflhbfnkadhaaPlDom3
import Derived.Test.YtniflhbfnkadhaaPlLeft
namespace Go.Pl
variable {G : Graph}

/-! Ways of a table of steps -/
def wT (S : Nat → Nat → Bool) : Nat → Nat → Nat → Bool
  | 0, i, k => S i k
  | m + 1, i, k => wT S m i k || (wT S m i m && wT S m m k)
inductive Ws (S : Nat → Nat → Bool) (m : Nat) : Nat → Nat → Prop where
  | one {i k : Nat} (hl : S i k = true) : Ws S m i k
  | cons {i j k : Nat} (hl : S i j = true) (hj : j < m) (h : Ws S m j k) : Ws S m i k
theorem Ws.mono {S : Nat → Nat → Bool} {m m' i k : Nat} (h : Ws S m i k) (hm : m ≤ m') : Ws S m' i k := by
  induction h with
  | one hl => exact .one hl
  | cons hl hj _ ih => exact .cons hl (by omega) ih
theorem Ws.append {S : Nat → Nat → Bool} {m i j k : Nat} (h : Ws S m i j) (hj : j < m) (h' : Ws S m j k) : Ws S m i k := by
  induction h with
  | one hl => exact .cons hl hj h'
  | cons hl hj' _ ih => exact .cons hl hj' (ih hj h')
theorem wT_iff {S : Nat → Nat → Bool} : ∀ (m i k : Nat), wT S m i k = true ↔ Ws S m i k
  | 0, i, k => by
    unfold wT
    constructor
    · exact .one
    · intro h
      cases h with
      | one hl => exact hl
      | cons _ hj _ => omega
  | m + 1, i, k => by
    unfold wT
    rw [Bool.or_eq_true, Bool.and_eq_true, wT_iff m i k, wT_iff m i m, wT_iff m m k]
    constructor
    · rintro (h | ⟨h1, h2⟩)
      · exact h.mono (by omega)
      · exact (h1.mono (by omega)).append (by omega) (h2.mono (by omega))
    · intro h
      induction h with
      | one hl => exact .inl (.one hl)
      | @cons i j k hl hj _ ih =>
        rcases Nat.lt_or_ge j m with hlt | hge
        · rcases ih with h | ⟨h1, h2⟩
          · exact .inl (.cons hl hlt h)
          · exact .inr ⟨.cons hl hlt h1, h2⟩
        · have : j = m := by omega
          subst this
          rcases ih with h | ⟨_, h2⟩
          · exact .inr ⟨.one hl, h⟩
          · exact .inr ⟨.one hl, h2⟩
theorem wT_rowm (S : Nat → Nat → Bool) (m b : Nat) : wT S (m + 1) m b = wT S m m b := by
  conv => lhs; unfold wT
  cases wT S m m b <;> simp
theorem wT_colm (S : Nat → Nat → Bool) (m a : Nat) : wT S (m + 1) a m = wT S m a m := by
  conv => lhs; unfold wT
  cases wT S m a m <;> simp

/-- A table of a size. -/
def tabL (n : Nat) (S : Nat → Nat → Bool) : List (List Bool) := (List.range n).map fun i => (List.range n).map fun k => S i k

/-! What leads back -/
def backB (G : Graph) (h i : Nat) : Bool := leadsB G i (h : Int) && domB G h i
def BackP (G : Graph) (h i : Nat) : Prop := leadsB G i (h : Int) = true ∧ Dm G h i
theorem backB_iff {h i : Nat} (hi : i < G.length) : backB G h i = true ↔ BackP G h i := by
  unfold backB BackP
  rw [Bool.and_eq_true, domB_iff hi]
def backF (G : Graph) (h : Nat) : List Nat := (List.range G.length).filter fun i => backB G h i
theorem mem_backF {h i : Nat} : i ∈ backF G h ↔ i < G.length ∧ BackP G h i := by
  unfold backF
  rw [List.mem_filter, List.mem_range]
  refine and_congr_right fun hi => ?_
  exact backB_iff hi
theorem BackP.lt {h i : Nat} (b : BackP G h i) : h < G.length ∧ i < G.length := ⟨b.2.1.lt, b.2.2.1.lt⟩
def ints (l : List Nat) : List Int := l.map fun (k : Nat) => (k : Int)
def backsL (G : Graph) : Graph := (List.range G.length).map fun h => ints (backF G h)

/-! A loop's points -/
inductive InL (G : Graph) (h : Nat) : Nat → Prop where
  | head : InL G h h
  | back {b : Nat} (hb : BackP G h b) : InL G h b
  | pred {p k : Nat} (hk : InL G h k) (hne : k ≠ h) (hl : leadsB G p (k : Int) = true) (hp : Rch G p) : InL G h p
theorem InL.dom {h : Nat} (hh : Rch G h) {k : Nat} (i : InL G h k) : Dm G h k := by
  induction i with
  | head => exact Dm.refl hh
  | back hb => exact hb.2
  | pred _ hne hl hp ih => exact ih.pred (Ne.symm hne) hp hl
/-- Steps between points that can be come to, less one's. -/
def stepB (G : Graph) (less : Option Nat) (i k : Nat) : Bool := (comeOf G).getD i false && ((comeOf G).getD k false && ((decide (less ≠ some i)) && ((decide (less ≠ some k)) && leadsB G i (k : Int))))
theorem stepB_iff {less : Option Nat} {i k : Nat} : stepB G less i k = true ↔ Rch G i ∧ Rch G k ∧ less ≠ some i ∧ less ≠ some k ∧ leadsB G i (k : Int) = true := by
  unfold stepB
  simp only [Bool.and_eq_true, decide_eq_true_eq]
  rcases Nat.eq_zero_or_pos G.length with h | h
  · have : G = [] := List.eq_nil_of_length_eq_zero h
    subst this
    constructor
    · rintro ⟨h, _⟩; simp [comeOf, search] at h
    · rintro ⟨h, _⟩; exact absurd h.lt (by simp)
  · rw [come_reach h, come_reach h]
def inB (G : Graph) (h i : Nat) : Bool := (backF G h).foldl (fun t b => t || ((b == i && b != h) || (i != h && wT (stepB G (some h)) G.length i b))) (i == h)
theorem foldl_or {α : Type} (p : α → Bool) : ∀ (l : List α) (t : Bool), l.foldl (fun t b => t || p b) t = (t || l.any p)
  | [], t => by simp
  | x :: l, t => by rw [List.foldl_cons, foldl_or p l, List.any_cons, Bool.or_assoc]
theorem inB_iff {h i : Nat} : inB G h i = true ↔ InL G h i := by
  unfold inB
  rw [foldl_or, Bool.or_eq_true, beq_iff_eq, List.any_eq_true]
  have key : ∀ k, InL G h k → k = h ∨ ∃ b, b ∈ backF G h ∧ b ≠ h ∧ (b = k ∨ Ws (stepB G (some h)) G.length k b) := by
    intro k hk
    induction hk with
    | head => exact .inl rfl
    | @back b hb =>
      by_cases e : b = h
      · exact .inl e
      · exact .inr ⟨b, mem_backF.2 ⟨hb.lt.2, hb⟩, e, .inl rfl⟩
    | @pred p k hk hne hl hp ih =>
      by_cases e : p = h
      · exact .inl e
      · rcases ih with e' | ⟨b, hb, hbh, hbk⟩
        · exact absurd e' hne
        · right
          refine ⟨b, hb, hbh, .inr ?_⟩
          have hkr : Rch G k := .step hp hl (by
            rcases hbk with e | e
            · subst e; exact (mem_backF.1 hb).1
            · cases e with
              | one hs => exact (stepB_iff.1 hs).1.lt
              | cons hs _ _ => exact (stepB_iff.1 hs).1.lt)
          have hs : stepB G (some h) p k = true := stepB_iff.2 ⟨hp, hkr, fun e' => e (Option.some.inj e').symm, fun e' => hne (Option.some.inj e').symm, hl⟩
          rcases hbk with rfl | hw
          · exact .one hs
          · exact .cons hs hkr.lt hw
  have conv : ∀ k b, Ws (stepB G (some h)) G.length k b → InL G h b → InL G h k := by
    intro k b w
    induction w with
    | one hs =>
      intro hb
      obtain ⟨h1, h2, _, h4, h5⟩ := stepB_iff.1 hs
      exact .pred hb (fun e => h4 (by rw [e])) h5 h1
    | cons hs _ _ ih =>
      intro hb
      obtain ⟨h1, h2, _, h4, h5⟩ := stepB_iff.1 hs
      exact .pred (ih hb) (fun e => h4 (by rw [e])) h5 h1
  constructor
  · rintro (rfl | ⟨b, hb, hh⟩)
    · exact .head
    · have hB := (mem_backF.1 hb).2
      simp only [Bool.or_eq_true, Bool.and_eq_true, beq_iff_eq, bne_iff_ne] at hh
      rcases hh with ⟨rfl, _⟩ | ⟨_, hw⟩
      · exact .back hB
      · exact conv i b ((wT_iff _ _ _).1 hw) (.back hB)
  · intro hi
    rcases key i hi with e | ⟨b, hb, hbh, hbk⟩
    · exact .inl e
    · by_cases e : i = h
      · exact .inl e
      · right
        refine ⟨b, hb, ?_⟩
        simp only [Bool.or_eq_true, Bool.and_eq_true, beq_iff_eq, bne_iff_ne]
        rcases hbk with rfl | hw
        · exact .inl ⟨rfl, hbh⟩
        · exact .inr ⟨e, (wT_iff _ _ _).2 hw⟩
def bodyF (G : Graph) (h : Nat) : List Nat := (List.range G.length).filter fun i => inB G h i
theorem mem_bodyF {h i : Nat} : i ∈ bodyF G h ↔ i < G.length ∧ InL G h i := by
  unfold bodyF
  rw [List.mem_filter, List.mem_range, inB_iff]
/-- All loops. -/
def loopsF (G : Graph) : List (Int × List Int × List Int) := ((List.range G.length).filter fun h => !(backF G h).isEmpty).map fun (h : Nat) => ((h : Int), ints (bodyF G h), ints (backF G h))

end Go.Pl
