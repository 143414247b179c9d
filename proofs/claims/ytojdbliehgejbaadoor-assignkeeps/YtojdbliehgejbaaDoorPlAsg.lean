/-
  What is set, plainly.
-/
import Derived.Test.YtojdbliehgejbaaDoorFnFew
import Derived.Test.YtojdbliehgejbaaDoorFnFunc
import Derived.Test.YtojdbliehgejbaaDoorFnKeysC
namespace Go.Proofs.YtojdbliehgejbaaDoor
open Go.Fw Go.Pl Go.Pl.Api Go.Pl.Set Go.Pl.Live

abbrev nmE : ByteArray := ⟨#[]⟩
def parV (f : MFunc) : VSet := fun v => ∃ p ∈ f.params, p.name = v
def codeV (l : List MInstr) : VSet := fun v => v ≠ nmE ∧ ∃ x ∈ l, x.dst = v
/-- Come to without being set. -/
inductive Bare (f : MFunc) (v : ByteArray) : Nat → Prop
  | start {b : MBlock} (hb : f.blocks[0]? = some b) (h1 : ¬ parV f v) (h2 : ¬ madeV b v) : Bare f v 0
  | step {p k : Nat} {b c : MBlock} (h : Bare f v p) (hb : f.blocks[p]? = some b) (hn : ¬ codeV b.code v) (hk : leadsB (graphF f) p (k : Int) = true) (hc : f.blocks[k]? = some c) (hm : ¬ madeV c v) : Bare f v k
/-- All names that are set. -/
def setsN (f : MFunc) : List ByteArray := f.params.map (·.name) ++ f.blocks.flatMap fun b => b.phis.map (·.dst) ++ b.code.map (·.dst)
theorem par_names {f : MFunc} {v : ByteArray} (h : parV f v) : v ∈ setsN f := by
  obtain ⟨p, hp, rfl⟩ := h
  exact List.mem_append.2 (.inl (List.mem_map.2 ⟨p, hp, rfl⟩))
theorem made_names {f : MFunc} {k : Nat} {b : MBlock} (hb : f.blocks[k]? = some b) {v : ByteArray} (h : madeV b v) : v ∈ setsN f := by
  obtain ⟨p, hp, rfl⟩ := h
  exact List.mem_append.2 (.inr (List.mem_flatMap.2 ⟨b, List.mem_of_getElem? hb, List.mem_append.2 (.inl (List.mem_map.2 ⟨p, hp, rfl⟩))⟩))
theorem code_names {f : MFunc} {k : Nat} {b : MBlock} (hb : f.blocks[k]? = some b) {v : ByteArray} (h : codeV b.code v) : v ∈ setsN f := by
  obtain ⟨_, x, hx, rfl⟩ := h
  exact List.mem_append.2 (.inr (List.mem_flatMap.2 ⟨b, List.mem_of_getElem? hb, List.mem_append.2 (.inr (List.mem_map.2 ⟨x, hx, rfl⟩))⟩))

abbrev OMs := List (Option MSet)
def kn (Is : OMs) (k : Nat) : Prop := ∃ M, Is[k]? = some (some M)
def oV (Is : OMs) (k : Nat) : VSet := fun v => ∃ M, Is[k]? = some (some M) ∧ v ∈ M.map Prod.fst
theorem kn_set {Is : OMs} {i k : Nat} {N : MSet} (hi : i < Is.length) : kn (Is.set i (some N)) k ↔ (i = k ∨ kn Is k) := by
  unfold kn
  by_cases e : i = k
  · subst e; simp [hi]
  · rw [List.getElem?_set_ne e]; simp [e]
theorem oV_set {Is : OMs} {i k : Nat} {N : MSet} (hi : i < Is.length) {v : ByteArray} : oV (Is.set i (some N)) k v ↔ if i = k then v ∈ N.map Prod.fst else oV Is k v := by
  unfold oV
  by_cases e : i = k
  · subst e
    rw [if_pos rfl]
    simp [hi]
  · rw [if_neg e, List.getElem?_set_ne e]
theorem oV_kn {Is : OMs} {k : Nat} {v : ByteArray} (h : oV Is k v) : kn Is k := by
  obtain ⟨M, h, _⟩ := h
  exact ⟨M, h⟩

/-- What a block's ways in have in common. -/
def meetV (f : MFunc) (Os : OMs) (k : Nat) : VSet := fun v => (k = 0 → parV f v) ∧ ∀ p : Nat, leadsB (graphF f) p (k : Int) = true → kn Os p → oV Os p v

structure AI (f : MFunc) (Is Os : OMs) : Prop where
  lenI : Is.length = f.blocks.length
  lenO : Os.length = f.blocks.length
  goodI : ∀ (k : Nat) (M : MSet), Is[k]? = some (some M) → GoodM M
  goodO : ∀ (k : Nat) (M : MSet), Os[k]? = some (some M) → GoodM M
  both : ∀ k, kn Is k ↔ kn Os k
  out : ∀ (k : Nat) (b : MBlock), f.blocks[k]? = some b → kn Is k → ∀ v, oV Os k v ↔ (oV Is k v ∨ codeV b.code v)
  ge : ∀ k v, kn Is k → ¬ Bare f v k → oV Is k v
  dec : ∀ (k : Nat) (b : MBlock), f.blocks[k]? = some b → kn Is k → ∀ v, madeV b v ∨ meetV f Os k v → oV Is k v
  sub : ∀ k v, oV Is k v → v ∈ setsN f

theorem oV_is {Is : OMs} {k : Nat} {M : MSet} (hM : Is[k]? = some (some M)) (g : GoodM M) : IsSet M (oV Is k) :=
  ⟨g.all, g.once, fun v => ⟨fun hv => ⟨M, hM, hv⟩, fun ⟨N, hN, hv⟩ => by rw [hM] at hN; injection hN with hN; injection hN with hN; subst hN; exact hv⟩⟩

theorem AI.step {f : MFunc} {Is Os : OMs} (A : AI f Is Os) {k : Nat} {b : MBlock} (hb : f.blocks[k]? = some b) (hr : k = 0 ∨ ∃ p : Nat, leadsB (graphF f) p (k : Int) = true ∧ kn Os p) {N N2 : MSet}
    (hN : IsSet N (fun v => madeV b v ∨ meetV f Os k v)) (hN2 : IsSet N2 (fun v => (madeV b v ∨ meetV f Os k v) ∨ codeV b.code v)) :
    AI f (Is.set k (some N)) (Os.set k (some N2)) ∧ (∀ v, v ∈ N.map Prod.fst → v ∈ setsN f) ∧ (∀ M, Is[k]? = some (some M) → N.length ≤ M.length ∧ (M.length ≤ N.length → (∀ j v, oV (Is.set k (some N)) j v ↔ oV Is j v) ∧ (∀ j, kn (Os.set k (some N2)) j ↔ kn Os j) ∧ ∀ j v, oV (Os.set k (some N2)) j v ↔ oV Os j v)) := by
  have hkl : k < f.blocks.length := (List.getElem?_eq_some_iff.1 hb).1
  have hkI : k < Is.length := by rw [A.lenI]; exact hkl
  have hkO : k < Os.length := by rw [A.lenO]; exact hkl
  have hge : ∀ v, ¬ Bare f v k → v ∈ N.map Prod.fst := fun v hv => by
    rw [hN.mem]
    by_cases hm : madeV b v
    · exact .inl hm
    · refine .inr ⟨fun e => ?_, fun p hp hk => ?_⟩
      · subst e
        apply Classical.byContradiction
        exact fun h => hv (.start hb h hm)
      · have hpl : p < f.blocks.length := by
          obtain ⟨M, hM⟩ := hk
          have := (List.getElem?_eq_some_iff.1 hM).1
          rw [A.lenO] at this
          exact this
        have hpb := List.getElem?_eq_getElem hpl
        have hkI := (A.both p).2 hk
        rw [A.out p _ hpb hkI]
        by_cases hc : codeV f.blocks[p].code v
        · exact .inr hc
        · refine .inl (A.ge p v hkI fun hB => hv (.step hB hpb hc hp hb hm))
  have hNsub : ∀ v, v ∈ N.map Prod.fst → v ∈ setsN f := fun v hv => by
    rcases (hN.mem v).1 hv with h | ⟨h0, h1⟩
    · exact made_names hb h
    · rcases hr with e | ⟨p, hp, hk⟩
      · exact par_names (h0 e)
      · have := h1 p hp hk
        have hkI := (A.both p).2 hk
        obtain ⟨M, hM⟩ := hk
        have hpl := (List.getElem?_eq_some_iff.1 hM).1
        rw [A.lenO] at hpl
        have hpb := List.getElem?_eq_getElem hpl
        rcases (A.out p _ hpb hkI v).1 this with h | h
        · exact A.sub p v h
        · exact code_names hpb h
  have hmono : ∀ j v, meetV f (Os.set k (some N2)) j v → (kn Is k → True) → meetV f Os j v := fun j v ⟨h0, h1⟩ _ => ⟨h0, fun p hp hk => by
    have := h1 p hp ((kn_set hkO).2 (.inr hk))
    rw [oV_set hkO] at this
    split at this
    · rename_i e
      subst e
      have hkI := (A.both k).2 hk
      rw [A.out k b hb hkI]
      rcases (hN2.mem v).1 this with h | h
      · exact .inl (A.dec k b hb hkI v h)
      · exact .inr h
    · exact this⟩
  refine ⟨⟨by rw [List.length_set]; exact A.lenI, by rw [List.length_set]; exact A.lenO, fun j M hM => ?_, fun j M hM => ?_, fun j => ?_, fun j c hc hj v => ?_, fun j v hj hv => ?_, fun j c hc hj v hv => ?_, fun j v hv => ?_⟩, hNsub, fun M hM => ?_⟩
  · by_cases e : k = j
    · subst e
      simp [hkI] at hM
      subst hM
      exact isGood hN
    · rw [List.getElem?_set_ne e] at hM
      exact A.goodI j M hM
  · by_cases e : k = j
    · subst e
      simp [hkO] at hM
      subst hM
      exact isGood hN2
    · rw [List.getElem?_set_ne e] at hM
      exact A.goodO j M hM
  · rw [kn_set hkI, kn_set hkO, A.both]
  · rw [oV_set hkI, oV_set hkO]
    by_cases e : k = j
    · subst e
      rw [hb] at hc
      injection hc with hc
      subst hc
      rw [if_pos rfl, if_pos rfl, hN2.mem, hN.mem]
    · rw [if_neg e, if_neg e]
      exact A.out j c hc (((kn_set hkI).1 hj).resolve_left e) v
  · rw [oV_set hkI]
    by_cases e : k = j
    · subst e
      rw [if_pos rfl]
      exact hge v hv
    · rw [if_neg e]
      exact A.ge j v (((kn_set hkI).1 hj).resolve_left e) hv
  · have hv' : madeV c v ∨ meetV f Os j v := hv.imp id fun h => hmono j v h fun _ => trivial
    rw [oV_set hkI]
    by_cases e : k = j
    · subst e
      rw [hb] at hc
      injection hc with hc
      subst hc
      rw [if_pos rfl, hN.mem]
      exact hv'
    · rw [if_neg e]
      exact A.dec j c hc (((kn_set hkI).1 hj).resolve_left e) v hv'
  · rw [oV_set hkI] at hv
    split at hv
    · exact hNsub v hv
    · exact A.sub j v hv
  · have g := A.goodI k M hM
    have hMi := oV_is hM g
    have hsub : ∀ v, (madeV b v ∨ meetV f Os k v) → oV Is k v := A.dec k b hb ⟨M, hM⟩
    have hle := hN.len_le hMi hsub
    refine ⟨hle, fun hl => ?_⟩
    have heq := hN.eq_of_len hMi hsub hl
    have hkO' : kn Os k := (A.both k).1 ⟨M, hM⟩
    refine ⟨fun j v => ?_, fun j => ?_, fun j v => ?_⟩
    · rw [oV_set hkI]
      split
      · rename_i e
        subst e
        rw [hN.mem]
        exact ⟨hsub v, heq v⟩
      · exact Iff.rfl
    · rw [kn_set hkO]
      exact ⟨fun h => h.elim (fun e => e ▸ hkO') id, .inr⟩
    · rw [oV_set hkO]
      split
      · rename_i e
        subst e
        rw [hN2.mem, A.out k b hb ⟨M, hM⟩]
        exact or_congr ⟨hsub v, heq v⟩ Iff.rfl
      · exact Iff.rfl

theorem leads_lt {f : MFunc} {p : Nat} {k : Int} (h : leadsB (graphF f) p k = true) : p < f.blocks.length := by
  apply Classical.byContradiction
  intro hn
  unfold leadsB at h
  rw [List.getD_eq_getElem?_getD, List.getElem?_eq_none (by rw [graphF_len]; omega)] at h
  simp at h
/-- A pass that changed nothing. -/
theorem AI.done {f : MFunc} {Is Os : OMs} (A : AI f Is Os) (hfix : ∀ (k : Nat) (b : MBlock), f.blocks[k]? = some b → kn Is k ∧ ∀ v, oV Is k v → madeV b v ∨ meetV f Os k v) {k : Nat} {v : ByteArray} (hk : k < f.blocks.length) : oV Is k v ↔ ¬ Bare f v k := by
  have hno : ∀ k, Bare f v k → ¬ oV Is k v := by
    intro k hB
    induction hB with
    | start hb h1 h2 =>
      intro h
      rcases (hfix 0 _ hb).2 v h with h | h
      · exact h2 h
      · exact h1 (h.1 rfl)
    | @step p k b c h hb hn hk hc hm ih =>
      intro h
      rcases (hfix _ _ hc).2 v h with h | h
      · exact hm h
      · have hkp := (hfix _ _ hb).1
        rcases (A.out _ _ hb hkp v).1 (h.2 _ hk ((A.both _).1 hkp)) with h | h
        · exact ih h
        · exact hn h
  exact ⟨fun h hB => hno k hB h, fun h => A.ge k v (hfix k _ (List.getElem?_eq_getElem hk)).1 h⟩

/-! What it is measured by -/
def szO (W : Nat) : Option MSet → Nat | some M => M.length | none => W + 1
def totO (W : Nat) (Is : OMs) : Nat := (Is.map (szO W)).sum
theorem totO_set {W : Nat} : ∀ {Is : OMs} {i : Nat} {N : Option MSet} (hi : i < Is.length), totO W (Is.set i N) + szO W Is[i] = totO W Is + szO W N
  | [], _, _, hi => by simp at hi
  | M :: Ms, 0, N, _ => by simp [totO]; omega
  | M :: Ms, i + 1, N, hi => by
    have := totO_set (W := W) (Is := Ms) (i := i) (N := N) (by simpa using hi)
    simp only [totO, List.set_cons_succ, List.map_cons, List.sum_cons, List.getElem_cons_succ] at this ⊢
    omega
theorem order_all {f : MFunc} (hpos : 0 < f.blocks.length) (hcome : ∀ b ∈ comeOf (graphF f), b = true) {k : Nat} (hk : k < f.blocks.length) : (k : Int) ∈ orderOf (graphF f) := by
  obtain ⟨new, _, _, _, hlen, hc, _⟩ := search_says (G := graphF f) (by rw [graphF_len]; exact hpos)
  have h1 := hc k
  have hkc : k < (comeOf (graphF f)).length := by rw [hlen, graphF_len]; exact hk
  rw [getD_lt hkc, hcome _ (List.getElem_mem hkc)] at h1
  rw [List.contains_eq_mem] at h1
  exact of_decide_eq_true h1.symm

end Go.Proofs.YtojdbliehgejbaaDoor
