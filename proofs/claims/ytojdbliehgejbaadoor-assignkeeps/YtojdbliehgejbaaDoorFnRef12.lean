/-
  The document's lists of names: Put, add, Uses, Same, In.
-/
import Derived.Test.YtojdbliehgejbaaDoorFnKeysC
namespace Go.Proofs.YtojdbliehgejbaaDoor
open Go.Fw Go.Pl Go.Pl.Api Go.Pl.Set Go.Pl.Live

theorem ld_eStr {h h2 : Heap} {p : Addr} {s : ByteArray} {K : ByteArray → Prop} (r : eStr.rd h p s) (e : hExt h h2) (hK : K s) : ld .str h2 p K := ⟨s, holds_ext (k := .str) e r, hK⟩

theorem same_calls {h : Heap} {a b : Sl} {la lb : List ByteArray} (ra : rdSl eStr h a la) (rb : rdSl eStr h b lb) : ACalls Tryd.prog F_lateenref12_Same [a.v, b.v] h (fun v h' => v = .bool (decide (la = lb)) ∧ h' = h) := by
  refine lateenref12_Same_of ?_
  unfold lateenref12_Same
  have hal := ra.lenEq
  have hbl := rb.lenEq
  have hab := ra.bound
  refine ifB_intro (fun hc => ?_) (fun hc => ?_)
  · have hc : ¬ la.length = lb.length := by rw [hal, hbl] at hc; simp at hc; omega
    exact ⟨by rw [decide_eq_false fun e => hc (by rw [e])], rfl⟩
  have hc : la.length = lb.length := by rw [hal, hbl] at hc; simp at hc; omega
  refine loop_intro (fun m (q : Int) h' => ∃ i : Nat, q = i ∧ i ≤ la.length ∧ m = la.length - i ∧ h' = h ∧ ∀ j (hj : j < i) (h1 : j < la.length) (h2 : j < lb.length), la[j] = lb[j]) la.length
    ⟨0, rfl, by omega, by omega, rfl, fun j hj => by omega⟩ ?_
  rintro _ _ _ h' ⟨i, rfl, hi, rfl, rfl, hall⟩
  refine ifB_intro (fun hc2 => ?_) (fun hc2 => ?_)
  · have hil : i < la.length := by rw [hal] at hc2; simpa using hc2
    refine idx_rdN ra rfl hil fun p _ hp => ld_eStr hp (hExt.refl _) ?_
    refine idx_rdN rb rfl (by omega) fun p2 _ hp2 => ld_eStr hp2 (hExt.refl _) ?_
    rw [toList_beq]
    by_cases e : la[i] = lb[i]
    · rw [decide_eq_true e]
      refine ifB_false rfl (ar_i64 (by omega) (by omega) ⟨la.length - (i + 1), by omega, i + 1, rfl, by omega, rfl, rfl, fun j hj h1 h2 => ?_⟩)
      by_cases ej : j = i
      · subst ej; exact e
      · exact hall j (by omega) h1 h2
    · rw [decide_eq_false e]
      exact ifB_true rfl ⟨by rw [decide_eq_false fun h => e (by subst h; rfl)], rfl⟩
  · have hil : la.length ≤ i := by rw [hal] at hc2; simpa using hc2
    exact ⟨by rw [decide_eq_true (List.ext_getElem hc fun j h1 h2 => hall j (by omega) h1 h2)], rfl⟩

noncomputable instance (a : ByteArray) (l : List ByteArray) : Decidable (a ∈ l) := Classical.propDecidable _
/-- A name in a list that rises, once. -/
instance (a b : ByteArray) : Decidable (ltS a b) := by unfold ltS; infer_instance
def lowF (l : List ByteArray) (s : ByteArray) : List ByteArray := l.filter fun x => decide (ltS x s)
def highF (l : List ByteArray) (s : ByteArray) : List ByteArray := l.filter fun x => !(decide (ltS x s) || decide (x = s))
def putF (l : List ByteArray) (s : ByteArray) : List ByteArray := lowF l s ++ [s] ++ highF l s
theorem putF_len (l : List ByteArray) (s : ByteArray) : (putF l s).length ≤ 2 * l.length + 1 := by
  unfold putF lowF highF
  have h1 := List.length_filter_le (fun x => decide (ltS x s)) l
  have h2 := List.length_filter_le (fun x => !(decide (ltS x s) || decide (x = s))) l
  simp only [List.length_append, List.length_singleton]
  omega
theorem putF_up {l : List ByteArray} {P : VSet} (h : UpS l P) (s : ByteArray) : UpS (putF l s) fun v => v = s ∨ P v := by
  have mem : ∀ v, v ∈ putF l s ↔ v = s ∨ P v := fun v => by
    unfold putF lowF highF
    simp only [List.mem_append, List.mem_filter, List.mem_singleton, decide_eq_true_eq, Bool.not_eq_true', Bool.or_eq_false_iff, decide_eq_false_iff_not, h.mem]
    constructor
    · rintro ((⟨h1, _⟩ | h1) | ⟨h1, _⟩)
      · exact .inr h1
      · exact .inl h1
      · exact .inr h1
    · rintro (h1 | h1)
      · exact .inl (.inr h1)
      · by_cases e : v = s
        · exact .inl (.inr e)
        · by_cases l : ltS v s
          · exact .inl (.inl ⟨h1, l⟩)
          · exact .inr ⟨h1, l, e⟩
  refine ⟨?_, mem⟩
  unfold Up putF lowF highF
  rw [List.append_assoc, List.pairwise_append]
  refine ⟨h.up.filter _, ?_, fun a ha b hb => ?_⟩
  · rw [List.singleton_append, List.pairwise_cons]
    refine ⟨fun b hb => ?_, h.up.filter _⟩
    have := (List.mem_filter.1 hb).2
    simp at this
    rcases ltS_tri s b with h1 | h1 | h1
    · exact h1
    · exact absurd h1.symm this.2
    · exact absurd h1 this.1
  · have ha := of_decide_eq_true (List.mem_filter.1 ha).2
    rcases List.mem_append.1 hb with hb | hb
    · rw [List.mem_singleton.1 hb]; exact ha
    · have := (List.mem_filter.1 hb).2
      simp at this
      rcases ltS_tri s b with h1 | h1 | h1
      · exact ltS_trans ha h1
      · exact absurd h1.symm this.2
      · exact absurd h1 this.1
theorem UpS.len {l : List ByteArray} {P : VSet} {ns : List ByteArray} (h : UpS l P) (hs : ∀ v, P v → v ∈ ns) : l.length ≤ ns.length := List.Nodup.length_le_of_subset h.up.nodup fun v hv => hs v ((h.mem v).1 hv)

end Go.Proofs.YtojdbliehgejbaaDoor

/-
  The document's Uses.
-/
namespace Go.Proofs.YtojdbliehgejbaaDoor
open Go.Fw Go.Pl Go.Pl.Api Go.Pl.Set Go.Pl.Live

end Go.Proofs.YtojdbliehgejbaaDoor
