/-
  Plain: one step of a round; what rounds come to.
-/
import Derived.Test.YtniflhbfnkadhaaPlDom2
namespace Go.Pl
variable {G : Graph} {rk : Nat → Nat}

/-- A round under way: the points below a rank are done. -/
structure RS (G : Graph) (rk : Nat → Nat) (pr : Nat → Prop) (N0 : Nat → Nat) (j : Nat) (M : Nat → Nat) : Prop where
  tn : TN G rk (fun p => rk p < j ∨ pr p) M
  same : ∀ p, j ≤ rk p → M p = N0 p
  rd : ∀ k, Rch G k → k ≠ 0 → rk k < j → Rd1 G rk pr N0 M k

def putF (M : Nat → Nat) (k b : Nat) : Nat → Nat := fun p => if p = k then b else M p
theorem RS.lower {pr : Nat → Prop} {N0 M : Nat → Nat} {j : Nat} (R : Rk G rk) (rs : RS G rk pr N0 j M) {k : Nat} (hk : Rch G k) (h0 : k ≠ 0) (hj : rk k = j) {b : Nat}
    (hB : ∀ x, Anc M x b ↔ ∀ p, Rch G p → leadsB G p (k : Int) = true → (rk p < j ∨ pr p) → Anc M x p) : rk b < j ∧ RI G rk b k := by
  obtain ⟨q, hq, hl, hr⟩ := R.pred k hk h0
  have h1 := (hB b).1 .refl q hq hl (.inl (by omega))
  have h2 := h1.ok rs.tn hq (.inl (by omega))
  exact ⟨by omega, .step h2.2.2.2 hl hk.lt hr⟩
theorem RS.step {pr : Nat → Prop} {N0 M : Nat → Nat} {j : Nat} (R : Rk G rk) (rs : RS G rk pr N0 j M) {k : Nat} (hk : Rch G k) (h0 : k ≠ 0) (hj : rk k = j) {b : Nat} (hb : Rch G b)
    (hB : ∀ x, Anc M x b ↔ ∀ p, Rch G p → leadsB G p (k : Int) = true → (rk p < j ∨ pr p) → Anc M x p) : RS G rk pr N0 (j + 1) (putF M k b) := by
  obtain ⟨hlt, hri⟩ := rs.lower R hk h0 hj hB
  refine ⟨fun p hp hpr hp0 => ?_, fun p hp => ?_, fun k' hk' hk0 hr => ?_⟩
  · unfold putF
    by_cases e : p = k
    · subst e
      rw [if_pos rfl]
      exact ⟨hb, .inl (by omega), by omega, hri⟩
    · rw [if_neg e]
      have hpr' : rk p < j ∨ pr p := by
        rcases hpr with h | h
        · left
          rcases Nat.lt_or_ge (rk p) j with h' | h'
          · exact h'
          · exact absurd (R.inj p k hp hk (by omega)) e
        · exact .inr h
      obtain ⟨a, b', c, d⟩ := rs.tn p hp hpr' hp0
      exact ⟨a, b'.imp (fun h => by omega) id, c, d⟩
  · unfold putF
    rw [if_neg fun e => by subst e; omega]
    exact rs.same p (by omega)
  · by_cases e : k' = k
    · subst e
      have hm : mix N0 (putF M k' b) rk (rk k') = M := by
        funext p
        unfold mix putF
        split
        · rename_i h
          rw [if_neg fun e => by subst e; omega]
        · rw [rs.same p (by omega)]
      unfold Rd1
      rw [hm, hj]
      have : putF M k' b k' = b := if_pos rfl
      rw [this]
      exact hB
    · have hr' : rk k' < j := by
        rcases Nat.lt_or_ge (rk k') j with h' | h'
        · exact h'
        · exact absurd (R.inj k' k hk' hk (by omega)) e
      have hm : mix N0 (putF M k b) rk (rk k') = mix N0 M rk (rk k') := by
        funext p
        unfold mix putF
        split
        · rw [if_neg fun e => by subst e; omega]
        · rfl
      have := rs.rd k' hk' hk0 hr'
      unfold Rd1 at this ⊢
      rw [hm]
      have hp : putF M k b k' = M k' := if_neg e
      rw [hp]
      exact this
theorem RS.start {pr : Nat → Prop} {N0 : Nat → Nat} (t : TN G rk pr N0) (R : Rk G rk) (h0 : pr 0) {j : Nat} (hj : ∀ p, Rch G p → rk p < j → p = 0) : RS G rk pr N0 j N0 := by
  refine ⟨fun k hk hp hk0 => ?_, fun _ _ => rfl, fun k hk hk0 hr => absurd (hj k hk hr) hk0⟩
  have hp' : pr k := by
    rcases hp with h | h
    · rw [hj k hk h]; exact h0
    · exact h
  obtain ⟨a, b, c, d⟩ := t k hk hp' hk0
  exact ⟨a, .inr b, c, d⟩
theorem RS.done {pr : Nat → Prop} {N0 M : Nat → Nat} {j : Nat} (rs : RS G rk pr N0 j M) (hj : ∀ p, Rch G p → rk p < j) : TN G rk tt M ∧ Rd G rk pr N0 M :=
  ⟨fun k hk _ h0 => by obtain ⟨a, _, c, d⟩ := rs.tn k hk (.inl (hj k hk)) h0; exact ⟨a, trivial, c, d⟩, fun k hk h0 => rs.rd k hk h0 (hj k hk)⟩

/-- A list of near ones; below 0: none yet. -/
def NL (G : Graph) (pr : Nat → Prop) (N : Nat → Nat) (cur : List Int) : Prop :=
  cur.length = G.length ∧ ∀ k (hk : k < cur.length), (Rch G k → pr k → cur[k] = (N k : Int)) ∧ ((¬ Rch G k ∨ ¬ pr k) → cur[k] = -1)
theorem NL.congr {pr pr' : Nat → Prop} {N : Nat → Nat} {cur : List Int} (h : NL G pr N cur) (e : ∀ k, Rch G k → (pr k ↔ pr' k)) : NL G pr' N cur :=
  ⟨h.1, fun k hk => ⟨fun h1 h2 => (h.2 k hk).1 h1 ((e k h1).2 h2), fun h1 => (h.2 k hk).2 (by
    by_cases hr : Rch G k
    · exact .inr fun h2 => (h1.resolve_left fun h => h hr) ((e k hr).1 h2)
    · exact .inl hr)⟩⟩
theorem NL.put {pr : Nat → Prop} {N : Nat → Nat} {cur : List Int} {k b : Nat} (h : NL G pr N cur) (hk : Rch G k) : NL G (fun p => p = k ∨ pr p) (putF N k b) (cur.set k (b : Int)) := by
  refine ⟨by rw [List.length_set]; exact h.1, fun p hp => ?_⟩
  rw [List.length_set] at hp
  rw [List.getElem_set]
  unfold putF
  by_cases e : k = p
  · subst e
    simp only [if_true]
    exact ⟨fun _ _ => trivial, fun h1 => by
      rcases h1 with h1 | h1
      · exact absurd hk h1
      · exact absurd (.inl trivial) h1⟩
  · have e' : ¬ p = k := fun h => e h.symm
    simp only [if_neg e, if_neg e']
    exact ⟨fun h1 h2 => (h.2 p hp).1 h1 (h2.resolve_left e'), fun h1 => (h.2 p hp).2 (h1.imp id fun h hn => h (.inr hn))⟩

/-! How often -/
theorem sum_le {f g : Nat → Nat} : ∀ {l : List Nat}, (∀ k ∈ l, f k ≤ g k) → (l.map f).sum ≤ (l.map g).sum
  | [], _ => Nat.le_refl _
  | k :: l, h => by
    have h1 := h k (by simp)
    have h2 := sum_le (l := l) fun j hj => h j (by simp [hj])
    simp only [List.map_cons, List.sum_cons]
    omega
theorem sum_lt {f g : Nat → Nat} : ∀ {l : List Nat}, (∀ k ∈ l, f k ≤ g k) → (∃ k ∈ l, f k < g k) → (l.map f).sum < (l.map g).sum
  | k :: l, h, hx => by
    have h1 := h k (by simp)
    have h2 := sum_le (l := l) fun j hj => h j (by simp [hj])
    simp only [List.map_cons, List.sum_cons]
    obtain ⟨x, hx1, hx2⟩ := hx
    rcases List.mem_cons.1 hx1 with rfl | hx1
    · omega
    · have := sum_lt (l := l) (fun j hj => h j (by simp [hj])) ⟨x, hx1, hx2⟩
      omega
open Classical in
noncomputable def wt (G : Graph) (rk : Nat → Nat) (N : Nat → Nat) (k : Nat) : Nat := if Rch G k ∧ k ≠ 0 then rk (N k) else 0
noncomputable def WN (G : Graph) (rk : Nat → Nat) (N : Nat → Nat) : Nat := ((List.range G.length).map (wt G rk N)).sum
theorem WN_le {N : Nat → Nat} (t : TN G rk tt N) : WN G rk N ≤ ((List.range G.length).map rk).sum := by
  refine sum_le fun k _ => ?_
  unfold wt
  split
  · rename_i h
    obtain ⟨_, _, c, _⟩ := t k h.1 trivial h.2
    omega
  · omega
theorem WN_less {N N' : Nat → Nat} (R : Rk G rk) (g : Good G rk N) (t' : TN G rk tt N') (rd' : Rd G rk tt N N') (hx : ∃ k, Rch G k ∧ k ≠ 0 ∧ N' k ≠ N k) : WN G rk N' < WN G rk N := by
  refine sum_lt (fun k _ => ?_) ?_
  · unfold wt
    split
    · rename_i h; exact (g.less R t' rd' h.1 h.2).1
    · omega
  · obtain ⟨k, hk, h0, hne⟩ := hx
    refine ⟨k, List.mem_range.2 hk.lt, ?_⟩
    unfold wt
    rw [if_pos ⟨hk, h0⟩, if_pos ⟨hk, h0⟩]
    exact (g.less R t' rd' hk h0).2 hne
theorem Rd.self {pr : Nat → Prop} {N0 M : Nat → Nat} (rd : Rd G rk pr N0 M) (h : ∀ k, Rch G k → k ≠ 0 → M k = N0 k) (hp : ∀ k, Rch G k → pr k) (t : TN G rk tt M) : Rd G rk tt M M := by
  intro k hk h0 x
  rw [mix_self]
  obtain ⟨a, _, c, _⟩ := t k hk trivial h0
  have key : ∀ p, Rch G p → (Anc (mix N0 M rk (rk k)) x p ↔ Anc M x p) := by
    intro p hp
    constructor
    · intro ha
      induction ha with
      | refl => exact .refl
      | @up q hq _ ih =>
        have e : mix N0 M rk (rk k) q = M q := by
          unfold mix; split
          · rfl
          · exact (h q hp hq).symm
        rw [e] at ih
        exact .up hq (ih (t q hp trivial hq).1)
    · intro ha
      induction ha with
      | refl => exact .refl
      | @up q hq _ ih =>
        have e : mix N0 M rk (rk k) q = M q := by
          unfold mix; split
          · rfl
          · exact (h q hp hq).symm
        refine .up hq ?_
        rw [e]
        exact ih (t q hp trivial hq).1
  have := rd k hk h0 x
  rw [key _ a] at this
  rw [this]
  exact ⟨fun h1 p hp' hl _ => (key p hp').1 (h1 p hp' hl (.inr (hp p hp'))), fun h1 p hp' hl _ => (key p hp').2 (h1 p hp' hl (.inr trivial))⟩

end Go.Pl
