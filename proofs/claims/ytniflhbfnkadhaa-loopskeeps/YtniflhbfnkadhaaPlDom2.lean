/-
  Plain: the order's ranks; nearest ones and frontiers, by definition.
-/
import Derived.Test.YtniflhbfnkadhaaPlDom
namespace Go.Pl

/-! Ranks of the order -/
def rkOf (G : Graph) (k : Nat) : Nat := (orderOf G).idxOf (k : Int)
theorem order_in {G : Graph} {i : Nat} (hi : i < (orderOf G).length) : ∃ x : Nat, (orderOf G)[i] = x ∧ x < G.length := by
  have hG : 0 < G.length := by
    rcases Nat.eq_zero_or_pos G.length with h | h
    · have : G = [] := List.length_eq_zero_iff.1 h
      subst this; simp [orderOf, search] at hi
    · exact h
  obtain ⟨x, h1, h2, _⟩ := order_says hG i hi
  exact ⟨x, h1, h2⟩
theorem order_inj {G : Graph} {i j : Nat} (hi : i < (orderOf G).length) (hj : j < (orderOf G).length) (e : (orderOf G)[i] = (orderOf G)[j]) : i = j := by
  have hG : 0 < G.length := by
    obtain ⟨x, _, h⟩ := order_in hi; omega
  have key : ∀ i j (hi : i < (orderOf G).length) (hj : j < (orderOf G).length), i < j → (orderOf G)[i] ≠ (orderOf G)[j] := fun i j hi hj hij e => by
    obtain ⟨x, h1, _, h3, _⟩ := order_says hG j hj
    rw [List.contains_eq_mem] at h3
    refine of_decide_eq_false h3 ?_
    rw [← h1, ← e, List.mem_take_iff_getElem]
    exact ⟨i, by omega, rfl⟩
  rcases Nat.lt_trichotomy i j with h | h | h
  · exact absurd e (key i j hi hj h)
  · exact h
  · exact absurd e.symm (key j i hj hi h)
theorem reach_order {G : Graph} (k : Nat) : Rch G k ↔ (k : Int) ∈ orderOf G := by
  constructor
  · intro h
    have hG : 0 < G.length := by have := h.lt; omega
    obtain ⟨_, _, _, _, _, hc, _⟩ := search_says hG
    have := (come_reach hG k).2 h
    rw [hc, List.contains_eq_mem] at this
    exact of_decide_eq_true this
  · intro h
    obtain ⟨i, hi, e⟩ := List.getElem_of_mem h
    have hG : 0 < G.length := by obtain ⟨x, _, h⟩ := order_in hi; omega
    obtain ⟨_, _, _, _, _, hc, _⟩ := search_says hG
    exact (come_reach hG k).1 (by rw [hc, List.contains_eq_mem]; exact decide_eq_true h)
theorem rk_spec {G : Graph} {k : Nat} (h : Rch G k) : ∃ hi : rkOf G k < (orderOf G).length, (orderOf G)[rkOf G k] = (k : Int) := by
  have hm := (reach_order k).1 h
  have hi : rkOf G k < (orderOf G).length := List.idxOf_lt_length_iff.2 hm
  refine ⟨hi, ?_⟩
  have := List.getElem_idxOf hi
  exact this
theorem rk_at {G : Graph} {i x : Nat} (hi : i < (orderOf G).length) (h : (orderOf G)[i] = (x : Int)) : Rch G x ∧ rkOf G x = i := by
  have hr : Rch G x := (reach_order x).2 (by rw [← h]; exact List.getElem_mem hi)
  refine ⟨hr, ?_⟩
  obtain ⟨h1, h2⟩ := rk_spec hr
  exact order_inj h1 hi (by rw [h2, h])
theorem rk_ok (G : Graph) : Rk G (rkOf G) where
  inj a b ha hb e := by
    obtain ⟨h1, h2⟩ := rk_spec ha
    obtain ⟨h3, h4⟩ := rk_spec hb
    have : (orderOf G)[rkOf G a] = (orderOf G)[rkOf G b] := by congr 1
    rw [h2, h4] at this
    omega
  pred k hk h0 := by
    obtain ⟨hi, e⟩ := rk_spec hk
    have hG : 0 < G.length := by have := hk.lt; omega
    obtain ⟨x, h1, _, _, hz, hl⟩ := order_says hG _ hi
    have hx : x = k := by rw [e] at h1; omega
    subst hx
    have hpos : 0 < rkOf G x := by
      rcases Nat.eq_zero_or_pos (rkOf G x) with h | h
      · exact absurd (hz h) h0
      · exact h
    obtain ⟨y, hy, hly⟩ := List.any_eq_true.1 (hl hpos)
    obtain ⟨j, hj, rfl⟩ := List.getElem_of_mem hy
    rw [List.length_take] at hj
    rw [List.getElem_take] at hly
    obtain ⟨z, hz1, _⟩ := order_in (G := G) (i := j) (by omega)
    rw [hz1] at hly
    obtain ⟨hzr, hzk⟩ := rk_at (by omega) hz1
    exact ⟨z, hzr, by simpa using hly, by omega⟩

def rankL (G : Graph) : List Int := (List.range G.length).map fun (k : Nat) => if (orderOf G).contains (k : Int) then ((rkOf G k : Nat) : Int) else -1
theorem rankL_len (G : Graph) : (rankL G).length = G.length := by simp [rankL]
theorem rankL_at {G : Graph} {k : Nat} (hk : k < (rankL G).length) (h : Rch G k) : (rankL G)[k] = rkOf G k := by
  have := (reach_order k).1 h
  simp only [rankL, List.getElem_map, List.getElem_range, List.contains_eq_mem, this, decide_true, if_true]
theorem rankL_no {G : Graph} {k : Nat} (hk : k < (rankL G).length) (h : ¬ Rch G k) : (rankL G)[k] = -1 := by
  have : ¬ (k : Int) ∈ orderOf G := fun hm => h ((reach_order k).2 hm)
  simp [rankL, List.contains_eq_mem, this]

/-! By definition -/
def lessG (G : Graph) (a : Nat) : Graph := (List.range G.length).map fun i => (G.getD i []).filter fun t => decide (i ≠ a) && decide (t ≠ (a : Int))
theorem lessG_len (G : Graph) (a : Nat) : (lessG G a).length = G.length := by simp [lessG]
theorem less_leads {G : Graph} {a i : Nat} (hi : i < G.length) (t : Int) : leadsB (lessG G a) i t = (leadsB G i t && decide (i ≠ a) && decide (t ≠ (a : Int))) := by
  unfold leadsB
  rw [List.getD_eq_getElem?_getD (l := lessG G a)]
  simp only [lessG, List.getElem?_map, List.getElem?_range hi, Option.map_some, Option.getD_some]
  rw [List.contains_eq_mem, List.contains_eq_mem, ← Bool.decide_and, ← Bool.decide_and]
  refine decide_eq_decide.2 ?_
  rw [List.mem_filter, Bool.and_eq_true, decide_eq_true_eq, decide_eq_true_eq, and_assoc]
theorem less_reach {G : Graph} {a : Nat} (ha : a ≠ 0) (k : Nat) : Rch (lessG G a) k ↔ Av G a k := by
  constructor
  · intro h
    induction h with
    | zero h => exact .zero (by rw [lessG_len] at h; exact h) ha
    | step hi hl hk ih =>
      rename_i i k
      rw [lessG_len] at hk
      have hin : i < G.length := by have := hi.lt; rw [lessG_len] at this; exact this
      rw [less_leads hin] at hl
      simp only [Bool.and_eq_true, decide_eq_true_eq] at hl
      exact .step ih hl.1.1 hk (by omega)
  · intro h
    induction h with
    | zero h hd => exact .zero (by rw [lessG_len]; exact h)
    | step hi hl hk hd ih =>
      have h1 := hi.ne
      have hin := hi.reach.lt
      refine .step ih ?_ (by rw [lessG_len]; exact hk)
      rw [less_leads hin, hl]
      simp only [Bool.true_and, Bool.and_eq_true, decide_eq_true_eq]
      exact ⟨h1, by omega⟩
def avL (G : Graph) (a : Nat) : List Bool := if a = 0 then List.replicate G.length false else comeOf (lessG G a)
theorem avL_len (G : Graph) (a : Nat) : (avL G a).length = G.length := by
  unfold avL; split
  · simp
  · rw [come_len, lessG_len]
theorem avL_spec {G : Graph} {a k : Nat} (hk : k < G.length) : (avL G a).getD k false = true ↔ Av G a k := by
  unfold avL
  split
  · rename_i h
    subst h
    constructor
    · intro h; simp [List.getD_eq_getElem?_getD, List.getElem?_replicate, hk] at h
    · intro h
      have : ∀ x, Av G 0 x → False := by
        intro x hx
        induction hx with
        | zero _ hd => exact hd rfl
        | step _ _ _ _ ih => exact ih
      exact (this k h).elim
  · rename_i h
    rw [come_reach (by rw [lessG_len]; omega), less_reach h]
def domB (G : Graph) (a k : Nat) : Bool := (comeOf G).getD a false && ((comeOf G).getD k false && (a == k || !(avL G a).getD k false))
theorem domB_iff {G : Graph} {a k : Nat} (hk : k < G.length) : domB G a k = true ↔ Dm G a k := by
  unfold domB Dm
  have hG : 0 < G.length := by omega
  simp only [Bool.and_eq_true, Bool.or_eq_true, Bool.not_eq_true', beq_iff_eq]
  rw [come_reach hG, come_reach hG, ← avL_spec hk]
  refine and_congr_right fun _ => and_congr_right fun h2 => ?_
  constructor
  · rintro (e | h)
    · subst e
      exact fun h => ((avL_spec hk).1 h).ne rfl
    · rw [h]; exact Bool.false_ne_true
  · intro h; right; cases e : (avL G a).getD k false with
    | false => rfl
    | true => exact absurd e h
def domL (G : Graph) : List (List Bool) := (List.range G.length).map fun a => (List.range G.length).map fun k => domB G a k

/-- The nearest one among the first ones. -/
def nearTo (G : Graph) (k : Nat) : Nat → Int
  | 0 => -1
  | i + 1 => if i ≠ k ∧ domB G i k = true ∧ (nearTo G k i < 0 ∨ domB G (nearTo G k i).toNat i = true) then (i : Int) else nearTo G k i
def nearF (G : Graph) : List Int := (List.range G.length).map fun k => nearTo G k G.length
theorem nearF_len (G : Graph) : (nearF G).length = G.length := by simp [nearF]

theorem nearTo_spec {G : Graph} {k : Nat} (hk : k < G.length) : ∀ i, i ≤ G.length →
    (nearTo G k i = -1 ∧ ∀ d, d < i → Dm G d k → d = k) ∨ (∃ d : Nat, nearTo G k i = d ∧ d < i ∧ Dm G d k ∧ d ≠ k ∧ ∀ j, j < i → Dm G j k → j ≠ k → Dm G j d)
  | 0, _ => .inl ⟨rfl, fun d hd => by omega⟩
  | i + 1, hi => by
    have ih := nearTo_spec hk i (by omega)
    have R := rk_ok G
    unfold nearTo
    split
    · rename_i h
      obtain ⟨h1, h2, h3⟩ := h
      have h2 := (domB_iff hk).1 h2
      refine .inr ⟨i, rfl, by omega, h2, h1, fun j hj hd hne => ?_⟩
      by_cases e : j = i
      · subst e; exact .refl h2.1
      · rcases ih with ⟨e1, e2⟩ | ⟨d, e1, e2, e3, e4, e5⟩
        · exact absurd (e2 j (by omega) hd) hne
        · rw [e1] at h3
          have h4 : domB G d i = true := by
            rcases h3 with h | h
            · omega
            · simpa using h
          exact (e5 j (by omega) hd hne).trans ((domB_iff (by omega)).1 h4)
    · rename_i h
      rcases ih with ⟨e1, e2⟩ | ⟨d, e1, e2, e3, e4, e5⟩
      · refine .inl ⟨e1, fun d hd hdm => ?_⟩
        by_cases e : d = i
        · subst e
          by_cases ek : d = k
          · exact ek
          · exact absurd ⟨ek, (domB_iff hk).2 hdm, .inl (by rw [e1]; decide)⟩ h
        · exact e2 d (by omega) hdm
      · refine .inr ⟨d, e1, by omega, e3, e4, fun j hj hd hne => ?_⟩
        by_cases e : j = i
        · subst e
          have hno : ¬ Dm G d j := fun hdj => h ⟨hne, (domB_iff hk).2 hd, .inr (by rw [e1]; simpa using (domB_iff (by omega)).2 hdj)⟩
          rcases Nat.lt_trichotomy (rkOf G d) (rkOf G j) with hl | hl | hl
          · exact absurd (dom_total R e3 hd hl) hno
          · have := R.inj d j e3.1 hd.1 hl
            subst this; exact .refl hd.1
          · exact dom_total R hd e3 hl
        · exact e5 j (by omega) hd hne
theorem near_is {G : Graph} {k : Nat} (hk : k < G.length) : IsNear G k (nearTo G k G.length) := by
  rcases nearTo_spec hk G.length (Nat.le_refl _) with ⟨e1, e2⟩ | ⟨d, e1, e2, e3, e4, e5⟩
  · exact .inl ⟨e1, fun d hd => e2 d hd.1.lt hd⟩
  · exact .inr ⟨d, e1, e3, e4, fun j hj hne => e5 j hj.1.lt hj hne⟩
theorem near_eq {G : Graph} {B : List Int} (hl : B.length = G.length) (h : ∀ k (hk : k < B.length), IsNear G k B[k]) : B = nearF G := by
  refine List.ext_getElem (by rw [hl, nearF_len]) fun k h1 h2 => ?_
  have := (h k h1).unique (rk_ok G) (near_is (by omega))
  rw [this]
  simp [nearF]
theorem nearF_at {G : Graph} {k : Nat} (hk : k < (nearF G).length) : IsNear G k (nearF G)[k] := by
  have hk' : k < G.length := by rw [nearF_len] at hk; exact hk
  have := near_is hk'
  simpa [nearF] using this
theorem near_lt {G : Graph} {k : Nat} {v : Int} (h : IsNear G k v) : -1 ≤ v ∧ v < G.length := by
  rcases h with ⟨rfl, _⟩ | ⟨d, rfl, h, _⟩
  · omega
  · have := h.1.lt; omega

/-! Frontiers -/
def frontB (G : Graph) (a k : Nat) : Bool := (comeOf G).getD k false && (((List.range G.length).any fun p => domB G a p && leadsB G p (k : Int)) && (a == k || !domB G a k))
def frontF (G : Graph) : Graph := (List.range G.length).map fun a => ((List.range G.length).filter fun k => frontB G a k).map fun (k : Nat) => (k : Int)
def kidsOf (N : List Int) : Graph := (List.range N.length).map fun (i : Nat) => ((List.range N.length).filter fun k => N.getD k (-1) == (i : Int)).map fun (k : Nat) => (k : Int)

end Go.Pl
