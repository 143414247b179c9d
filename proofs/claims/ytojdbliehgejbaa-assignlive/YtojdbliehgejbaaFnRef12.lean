/-
  The document's lists of names: Put, add, Uses, Same, In.
-/
import Derived.Test.YtojdbliehgejbaaFnKeysC
namespace Go.Proofs.Ytojdbliehgejbaa
open Go.Fw Go.Pl Go.Pl.Api Go.Pl.Set Go.Pl.Live

theorem ld_eStr {h h2 : Heap} {p : Addr} {s : ByteArray} {K : ByteArray → Prop} (r : eStr.rd h p s) (e : hExt h h2) (hK : K s) : ld .str h2 p K := ⟨s, holds_ext (k := .str) e r, hK⟩

theorem same_calls {h : Heap} {a b : Sl} {la lb : List ByteArray} (ra : rdSl eStr h a la) (rb : rdSl eStr h b lb) : ACalls Try.prog F_lateenref12_Same [a.v, b.v] h (fun v h' => v = .bool (decide (la = lb)) ∧ h' = h) := by
  refine lateenref12_Same_of ?_
  unfold lateenref12_Same
  have hal := ra.lenEq
  have hbl := rb.lenEq
  have hab := ra.bound
  refine ifB_intro (fun hc => ?_) (fun hc => ?_)
  · have hc : ¬ la.length = lb.length := by rw [hal, hbl] at hc; simp at hc; omega
    exact ⟨by rw [decide_eq_false fun e => hc (by rw [e])], rfl⟩
  have hc : la.length = lb.length := by rw [hal, hbl] at hc; simp at hc; omega
  refine loop_intro (fun m (q : Int) h' => ∃ i : Nat, q = i ∧ i ≤ la.length ∧ m = la.length - i ∧ h' = h ∧ ∀ j (hj : j < i) (h1 : j < la.length) (h2 : j < lb.length), la[j] = lb[j]) la.length
    ⟨0, rfl, by omega, by omega, rfl, fun j hj => by omega⟩ ?_
  rintro _ _ _ h' ⟨i, rfl, hi, rfl, rfl, hall⟩
  refine ifB_intro (fun hc2 => ?_) (fun hc2 => ?_)
  · have hil : i < la.length := by rw [hal] at hc2; simpa using hc2
    refine idx_rdN ra rfl hil fun p _ hp => ld_eStr hp (hExt.refl _) ?_
    refine idx_rdN rb rfl (by omega) fun p2 _ hp2 => ld_eStr hp2 (hExt.refl _) ?_
    rw [toList_beq]
    by_cases e : la[i] = lb[i]
    · rw [decide_eq_true e]
      refine ifB_false rfl (ar_i64 (by omega) (by omega) ⟨la.length - (i + 1), by omega, i + 1, rfl, by omega, rfl, rfl, fun j hj h1 h2 => ?_⟩)
      by_cases ej : j = i
      · subst ej; exact e
      · exact hall j (by omega) h1 h2
    · rw [decide_eq_false e]
      exact ifB_true rfl ⟨by rw [decide_eq_false fun h => e (by subst h; rfl)], rfl⟩
  · have hil : la.length ≤ i := by rw [hal] at hc2; simpa using hc2
    exact ⟨by rw [decide_eq_true (List.ext_getElem hc fun j h1 h2 => hall j (by omega) h1 h2)], rfl⟩

noncomputable instance (a : ByteArray) (l : List ByteArray) : Decidable (a ∈ l) := Classical.propDecidable _
theorem in_calls {h : Heap} {a : Sl} {la : List ByteArray} (ra : rdSl eStr h a la) (s : ByteArray) : ACalls Try.prog F_lateenref12_In [a.v, .string s] h (fun v h' => v = .bool (decide (s ∈ la)) ∧ h' = h) := by
  refine lateenref12_In_of ?_
  unfold lateenref12_In
  have hal := ra.lenEq
  have hab := ra.bound
  refine loop_intro (fun m (q : Int) h' => ∃ i : Nat, q = i ∧ i ≤ la.length ∧ m = la.length - i ∧ h' = h ∧ ∀ j (hj : j < i) (h1 : j < la.length), la[j] ≠ s) la.length
    ⟨0, rfl, by omega, by omega, rfl, fun j hj => by omega⟩ ?_
  rintro _ _ _ h' ⟨i, rfl, hi, rfl, rfl, hall⟩
  refine ifB_intro (fun hc2 => ?_) (fun hc2 => ?_)
  · have hil : i < la.length := by rw [hal] at hc2; simpa using hc2
    refine idx_rdN ra rfl hil fun p _ hp => ld_eStr hp (hExt.refl _) ?_
    rw [toList_beq]
    by_cases e : la[i] = s
    · rw [decide_eq_true e]
      exact ifB_true rfl ⟨by rw [decide_eq_true (by rw [← e]; exact List.getElem_mem hil)], rfl⟩
    · rw [decide_eq_false e]
      refine ifB_false rfl (ar_i64 (by omega) (by omega) ⟨la.length - (i + 1), by omega, i + 1, rfl, by omega, rfl, rfl, fun j hj h1 => ?_⟩)
      by_cases ej : j = i
      · subst ej; exact e
      · exact hall j (by omega) h1
  · have hil : la.length ≤ i := by rw [hal] at hc2; simpa using hc2
    refine ⟨?_, rfl⟩
    rw [decide_eq_false]
    intro hm
    obtain ⟨j, hj, e⟩ := List.getElem_of_mem hm
    exact hall j (by omega) hj e

/-- A name in a list that rises, once. -/
instance (a b : ByteArray) : Decidable (ltS a b) := by unfold ltS; infer_instance
def lowF (l : List ByteArray) (s : ByteArray) : List ByteArray := l.filter fun x => decide (ltS x s)
def highF (l : List ByteArray) (s : ByteArray) : List ByteArray := l.filter fun x => !(decide (ltS x s) || decide (x = s))
def putF (l : List ByteArray) (s : ByteArray) : List ByteArray := lowF l s ++ [s] ++ highF l s
theorem putF_len (l : List ByteArray) (s : ByteArray) : (putF l s).length ≤ 2 * l.length + 1 := by
  unfold putF lowF highF
  have h1 := List.length_filter_le (fun x => decide (ltS x s)) l
  have h2 := List.length_filter_le (fun x => !(decide (ltS x s) || decide (x = s))) l
  simp only [List.length_append, List.length_singleton]
  omega
theorem putF_up {l : List ByteArray} {P : VSet} (h : UpS l P) (s : ByteArray) : UpS (putF l s) fun v => v = s ∨ P v := by
  have mem : ∀ v, v ∈ putF l s ↔ v = s ∨ P v := fun v => by
    unfold putF lowF highF
    simp only [List.mem_append, List.mem_filter, List.mem_singleton, decide_eq_true_eq, Bool.not_eq_true', Bool.or_eq_false_iff, decide_eq_false_iff_not, h.mem]
    constructor
    · rintro ((⟨h1, _⟩ | h1) | ⟨h1, _⟩)
      · exact .inr h1
      · exact .inl h1
      · exact .inr h1
    · rintro (h1 | h1)
      · exact .inl (.inr h1)
      · by_cases e : v = s
        · exact .inl (.inr e)
        · by_cases l : ltS v s
          · exact .inl (.inl ⟨h1, l⟩)
          · exact .inr ⟨h1, l, e⟩
  refine ⟨?_, mem⟩
  unfold Up putF lowF highF
  rw [List.append_assoc, List.pairwise_append]
  refine ⟨h.up.filter _, ?_, fun a ha b hb => ?_⟩
  · rw [List.singleton_append, List.pairwise_cons]
    refine ⟨fun b hb => ?_, h.up.filter _⟩
    have := (List.mem_filter.1 hb).2
    simp at this
    rcases ltS_tri s b with h1 | h1 | h1
    · exact h1
    · exact absurd h1.symm this.2
    · exact absurd h1 this.1
  · have ha := of_decide_eq_true (List.mem_filter.1 ha).2
    rcases List.mem_append.1 hb with hb | hb
    · rw [List.mem_singleton.1 hb]; exact ha
    · have := (List.mem_filter.1 hb).2
      simp at this
      rcases ltS_tri s b with h1 | h1 | h1
      · exact ltS_trans ha h1
      · exact absurd h1.symm this.2
      · exact absurd h1 this.1
theorem UpS.len {l : List ByteArray} {P : VSet} {ns : List ByteArray} (h : UpS l P) (hs : ∀ v, P v → v ∈ ns) : l.length ≤ ns.length := List.Nodup.length_le_of_subset h.up.nodup fun v hv => hs v ((h.mem v).1 hv)

set_option maxHeartbeats 1000000 in
theorem put_calls {h : Heap} {a : Sl} {la : List ByteArray} (ra : rdSl eStr h a la) (hn : la.length ≤ 2000000) (s : ByteArray) : ACalls Try.prog F_lateenref12_Put [a.v, .string s] h (fun v h' => ∃ s' : Sl, v = s'.v ∧ Fw.Sep h h' [ownSl si_Lstring eStr s' (putF la s)]) := by
  refine lateenref12_Put_of ?_
  unfold lateenref12_Put
  have hal := ra.lenEq
  refine loop_intro (fun m (q : Sl × Int) h' => ∃ i : Nat, q.2 = i ∧ i ≤ la.length ∧ m = la.length - i ∧ Fw.Sep h h' [ownSl si_Lstring eStr q.1 (lowF (la.take i) s)]) la.length
    ⟨0, rfl, by omega, by omega, (Fw.Sep.start h).nil rfl⟩ ?_
  rintro _ _ ⟨out, _⟩ h1 ⟨i, hq, hi, rfl, S⟩
  simp only at hq S ⊢
  subst hq
  refine ifB_intro (fun hc2 => ?_) (fun hc2 => ?_)
  · have hil : i < la.length := by rw [hal] at hc2; simpa using hc2
    intro k hk
    have next : ∀ s' h', Fw.Sep h h' [ownSl si_Lstring eStr s' (lowF (la.take (i + 1)) s)] → k s' h' := fun s' h' S' => hk _ _ fun _ => ar_i64 (by omega) (by omega) ⟨la.length - (i + 1), by omega, i + 1, rfl, by omega, rfl, S'⟩
    have hstep : lowF (la.take (i + 1)) s = lowF (la.take i) s ++ if ltS la[i] s then [la[i]] else [] := by
      unfold lowF
      rw [List.take_succ_eq_append_getElem hil, List.filter_append]
      congr 1
      by_cases e : ltS la[i] s <;> simp [e]
    refine idx_rdN ra rfl hil fun p _ hp => ld_eStr hp S.old.ext ?_
    rw [less_iff]
    by_cases e : ltS la[i] s
    · rw [if_pos e] at hstep
      refine ifB_true (decide_eq_true e) ?_
      refine idx_rdN ra rfl hil fun p _ hp => ld_eStr hp S.old.ext ?_
      have hl1 := List.length_filter_le (fun x => decide (ltS x s)) (la.take i)
      have hl2 : (lowF (la.take i) s).length ≤ la.length := by unfold lowF; rw [List.length_take] at hl1; omega
      refine app1_flat (x := la[i]) S (fun h => own_str _ h) rfl (by decide) (by simp only [si_Lstring]; omega) (by omega) fun s' h' S' => next s' h' ?_
      rw [hstep]; exact S'
    · rw [if_neg e, List.append_nil] at hstep
      refine ifB_false (decide_eq_false e) (next _ _ ?_)
      rw [hstep]; exact S
  have hil : la.length ≤ i := by rw [hal] at hc2; simpa using hc2
  rw [List.take_of_length_le hil] at S
  clear hc2 hil hi i
  have hl1 := List.length_filter_le (fun x => decide (ltS x s)) la
  have hl2 : (lowF la s).length ≤ la.length := hl1
  refine app1_flat (x := s) S (fun h => own_str _ h) rfl (by decide) (by simp only [si_Lstring]; omega) (by omega) fun s2 h2 S => ?_
  refine loop_intro (fun m (q : Sl × Int) h' => ∃ i : Nat, q.2 = i ∧ i ≤ la.length ∧ m = la.length - i ∧ Fw.Sep h h' [ownSl si_Lstring eStr q.1 (lowF la s ++ [s] ++ highF (la.take i) s)]) la.length
    ⟨0, rfl, by omega, by omega, by simpa [highF] using S⟩ ?_
  clear S
  rintro _ _ ⟨out2, _⟩ h3 ⟨i, hq, hi, rfl, S⟩
  simp only at hq S ⊢
  subst hq
  refine ifB_intro (fun hc2 => ?_) (fun hc2 => ?_)
  · have hil : i < la.length := by rw [hal] at hc2; simpa using hc2
    intro k hk
    have next : ∀ s' h', Fw.Sep h h' [ownSl si_Lstring eStr s' (lowF la s ++ [s] ++ highF (la.take (i + 1)) s)] → k s' h' := fun s' h' S' => hk _ _ fun _ => ar_i64 (by omega) (by omega) ⟨la.length - (i + 1), by omega, i + 1, rfl, by omega, rfl, S'⟩
    have hstep : highF (la.take (i + 1)) s = highF (la.take i) s ++ if ltS la[i] s ∨ la[i] = s then [] else [la[i]] := by
      unfold highF
      rw [List.take_succ_eq_append_getElem hil, List.filter_append]
      congr 1
      by_cases e : ltS la[i] s <;> by_cases e2 : la[i] = s <;> simp [e, e2]
    refine idx_rdN ra rfl hil fun p _ hp => ld_eStr hp S.old.ext ?_
    rw [less_iff, toList_beq]
    by_cases e : ltS la[i] s ∨ la[i] = s
    · rw [if_pos e, List.append_nil] at hstep
      refine ifB_false ?_ (next _ _ ?_)
      · rcases e with e | e <;> simp [e]
      · rw [hstep]; exact S
    · rw [if_neg e] at hstep
      have e1 : ¬ ltS la[i] s := fun h => e (.inl h)
      have e2 : ¬ la[i] = s := fun h => e (.inr h)
      refine ifB_true (by simp [e1, e2]) ?_
      refine idx_rdN ra rfl hil fun p _ hp => ld_eStr hp S.old.ext ?_
      have hl3 := List.length_filter_le (fun x => !(decide (ltS x s) || decide (x = s))) (la.take i)
      have hl4 : (highF (la.take i) s).length ≤ la.length := by unfold highF; rw [List.length_take] at hl3; omega
      refine app1_flat (x := la[i]) S (fun h => own_str _ h) rfl (by decide) (by simp only [si_Lstring, List.length_append, List.length_singleton]; omega) (by simp only [List.length_append, List.length_singleton]; omega) fun s' h' S' => next s' h' ?_
      rw [hstep, ← List.append_assoc]; exact S'
  · have hil : la.length ≤ i := by rw [hal] at hc2; simpa using hc2
    rw [List.take_of_length_le hil] at S
    exact ⟨out2, rfl, S⟩

theorem add_calls {h0 h : Heap} {X : List As} {a : Sl} {la : List ByteArray} {P : VSet} {ca : Array Value} {x : MArg} (S : Fw.Sep h0 h (ownSl si_Lstring eStr a la :: X)) (hl : UpS la P) (hn : la.length ≤ 2000000) (ha : ca.toList = argC x) :
    ACalls Try.prog F_lateenref12_add [a.v, .agg ca] h (fun v h' => ∃ (s' : Sl) (l' : List ByteArray), v = s'.v ∧ hExt h h' ∧ UpS l' (fun v => argV x v ∨ P v) ∧ Fw.Sep h0 h' (ownSl si_Lstring eStr s' l' :: X)) := by
  refine lateenref12_add_of ?_
  unfold lateenref12_add
  refine new_rv (rv_arg.2 ha) fun p h1 o1 hp => ?_
  refine ld_int (fld_argKind.rd hp) (hExt.refl _) ?_
  refine ifB_intro (fun hc => ?_) (fun hc => ?_)
  · have hc : x.kind = 1 := by simpa using hc
    refine ld_str (fld_argS'.rd hp) (hExt.refl _) ?_
    refine (put_calls (S.grow o1).rd hn x.s).mono ?_
    rintro v h2 ⟨s', rfl, S2⟩
    refine ⟨_, rfl, s', _, rfl, ext_tr o1.ext S2.old.ext, (putF_up hl x.s).iff fun v => ?_, ((S.grow o1).frame S2).swap.drop⟩
    unfold argV
    exact or_congr ⟨fun h => ⟨hc, h.symm⟩, fun h => h.2.symm⟩ Iff.rfl
  · have hc : ¬ x.kind = 1 := by simpa using hc
    exact ⟨a, la, rfl, o1.ext, hl.iff fun v => ⟨fun h => .inr h, fun h => h.elim (fun h => absurd h.1 hc) id⟩, S.grow o1⟩

end Go.Proofs.Ytojdbliehgejbaa

/-
  The document's Uses.
-/
namespace Go.Proofs.Ytojdbliehgejbaa
open Go.Fw Go.Pl Go.Pl.Api Go.Pl.Set Go.Pl.Live

set_option maxHeartbeats 1000000 in
theorem refUses_calls {h : Heap} {ci : Array Value} {x : MInstr} (hx : rInstr.rv h ci.toList x) (hz : Sz (usesN x)) :
    ACalls Try.prog F_lateenref12_Uses [.agg ci] h (fun v h' => ∃ (s : Sl) (l : List ByteArray), v = s.v ∧ UpS l (usesV x) ∧ Fw.Sep h h' [ownSl si_Lstring eStr s l]) := by
  refine lateenref12_Uses_of ?_
  unfold lateenref12_Uses
  refine new_rv hx fun p h1 o1 hp => ?_
  have hA : ∀ (a : MArg), a ∈ x.args → ∀ v, argV a v → v ∈ usesN x := fun a ha v hv => usesN_mem.2 (.inl ⟨a, ha, hv⟩)
  have hB : ∀ (t : MStand), t ∈ x.stands → ∀ b ∈ t.vars, ∀ v, argV b.a v → v ∈ usesN x := fun t ht b hb v hv => usesN_mem.2 (.inr (.inl ⟨t, ht, b, hb, hv⟩))
  have hC : ∀ (o : MVirt), o ∈ x.objs → ∀ a ∈ o.vals, ∀ v, argV a v → v ∈ usesN x := fun o ho a ha v hv => usesN_mem.2 (.inr (.inr ⟨o, ho, a, ha, hv⟩))
  have hlen : ∀ {l : List ByteArray} {P : VSet}, UpS l P → (∀ v, P v → v ∈ usesN x) → l.length ≤ 2000000 := fun hl hs => Nat.le_trans (hl.len hs) (Nat.le_trans hz.n (by omega))
  refine loop_intro (fun m (q : Sl × Int) h' => ∃ (i : Nat) (l : List ByteArray), q.2 = i ∧ i ≤ x.args.length ∧ m = x.args.length - i ∧ UpS l (fun v => ∃ a ∈ x.args.take i, argV a v) ∧ Fw.Sep h1 h' [ownSl si_Lstring eStr q.1 l]) x.args.length
    ⟨0, [], rfl, by omega, by omega, ⟨List.Pairwise.nil, by simp⟩, (Fw.Sep.start h1).nil rfl⟩ ?_
  rintro _ _ ⟨out, _⟩ h2 ⟨i, l, hq, hi, rfl, hl, S⟩
  simp only at hq S ⊢
  subst hq
  refine ld_lst (fld_iArgs.rd hp) S.old.ext fun la hla => ?_
  have hlal := hla.lenEq
  have hlab := hla.bound
  refine ifB_intro (fun hc => ?_) (fun hc => ?_)
  · have hil : i < x.args.length := by rw [hlal] at hc; simpa using hc
    refine ld_lst (fld_iArgs.rd hp) S.old.ext fun la2 hla2 => ?_
    refine idx_rdN hla2 rfl hil fun p1 _ hp1 => ld_agg hp1 S.old.ext rfl fun c1 hc1 => ?_
    refine (add_calls S hl (hlen hl fun v ⟨a, ha, hv⟩ => hA a (List.mem_of_mem_take ha) v hv) (rv_arg.1 hc1)).mono ?_
    rintro u h3 ⟨s', l', rfl, e3, hl', S3⟩
    exact ⟨_, rfl, ar_i64 (by omega) (by omega) ⟨x.args.length - (i + 1), by omega, i + 1, l', rfl, by omega, rfl, hl'.iff fun v => by rw [take_ex hil], S3⟩⟩
  have hil : x.args.length ≤ i := by rw [hlal] at hc; simpa using hc
  rw [List.take_of_length_le hil] at hl
  clear hc hi hil i hla hlal hlab la
  refine loop_intro (fun m (q : Sl × Int) h' => ∃ (i : Nat) (l : List ByteArray), q.2 = i ∧ i ≤ x.stands.length ∧ m = x.stands.length - i ∧ UpS l (fun v => (∃ t ∈ x.stands.take i, ∃ b ∈ t.vars, argV b.a v) ∨ ∃ a ∈ x.args, argV a v) ∧ Fw.Sep h1 h' [ownSl si_Lstring eStr q.1 l]) x.stands.length
    ⟨0, l, rfl, by omega, by omega, hl.iff fun v => by simp, S⟩ ?_
  clear S hl l
  rintro _ _ ⟨out2, _⟩ h4 ⟨i, l, hq, hi, rfl, hl, S⟩
  simp only at hq S ⊢
  subst hq
  refine ld_lst (fld_iStands.rd hp) S.old.ext fun la hla => ?_
  have hlal := hla.lenEq
  have hlab := hla.bound
  refine ifB_intro (fun hc => ?_) (fun hc => ?_)
  · have hil : i < x.stands.length := by rw [hlal] at hc; simpa using hc
    have hti := List.getElem_mem hil
    refine loop_intro (fun m (q : Sl × Int) h' => ∃ (j : Nat) (l : List ByteArray), q.2 = j ∧ j ≤ x.stands[i].vars.length ∧ m = x.stands[i].vars.length - j ∧ UpS l (fun v => (∃ b ∈ x.stands[i].vars.take j, argV b.a v) ∨ (∃ t ∈ x.stands.take i, ∃ b ∈ t.vars, argV b.a v) ∨ ∃ a ∈ x.args, argV a v) ∧ Fw.Sep h1 h' [ownSl si_Lstring eStr q.1 l]) x.stands[i].vars.length
      ⟨0, l, rfl, by omega, by omega, hl.iff fun v => by simp, S⟩ ?_
    clear S hl l
    rintro _ _ ⟨out3, _⟩ h5 ⟨j, l, hq, hj, rfl, hl, S⟩
    simp only at hq S ⊢
    subst hq
    refine ld_lst (fld_iStands.rd hp) S.old.ext fun la2 hla2 => ?_
    refine idx_rdN hla2 rfl hil fun p2 _ hp2 => ?_
    refine ld_lst (fld_stVars.rd hp2) S.old.ext fun lv hlv => ?_
    have hlvl := hlv.lenEq
    have hlvb := hlv.bound
    refine ifB_intro (fun hc => ?_) (fun hc => ?_)
    · have hjl : j < x.stands[i].vars.length := by rw [hlvl] at hc; simpa using hc
      refine ld_lst (fld_iStands.rd hp) S.old.ext fun la3 hla3 => ?_
      refine idx_rdN hla3 rfl hil fun p3 _ hp3 => ?_
      refine ld_lst (fld_stVars.rd hp3) S.old.ext fun lv2 hlv2 => ?_
      refine idx_rdN hlv2 rfl hjl fun p4 _ hp4 => ?_
      refine ld_agg (fld_bindA.rd hp4) S.old.ext rfl fun c1 hc1 => ?_
      refine (add_calls S hl (hlen hl ?_) (rv_arg.1 hc1)).mono ?_
      · rintro v (⟨b, hb, hv⟩ | ⟨t, ht, b, hb, hv⟩ | ⟨a, ha, hv⟩)
        · exact hB _ hti b (List.mem_of_mem_take hb) v hv
        · exact hB t (List.mem_of_mem_take ht) b hb v hv
        · exact hA a ha v hv
      rintro u h6 ⟨s', l', rfl, e3, hl', S3⟩
      exact ⟨_, rfl, ar_i64 (by omega) (by omega) ⟨x.stands[i].vars.length - (j + 1), by omega, j + 1, l', rfl, by omega, rfl, hl'.iff fun v => by rw [take_ex hjl, or_assoc], S3⟩⟩
    · have hjl : x.stands[i].vars.length ≤ j := by rw [hlvl] at hc; simpa using hc
      rw [List.take_of_length_le hjl] at hl
      exact ar_i64 (by omega) (by omega) ⟨x.stands.length - (i + 1), by omega, i + 1, l, rfl, by omega, rfl, hl.iff fun v => by rw [take_ex hil, or_assoc], S⟩
  have hil : x.stands.length ≤ i := by rw [hlal] at hc; simpa using hc
  rw [List.take_of_length_le hil] at hl
  clear hc hi hil i hla hlal hlab la
  refine loop_intro (fun m (q : Sl × Int) h' => ∃ (i : Nat) (l : List ByteArray), q.2 = i ∧ i ≤ x.objs.length ∧ m = x.objs.length - i ∧ UpS l (fun v => (∃ t ∈ x.objs.take i, ∃ a ∈ t.vals, argV a v) ∨ (∃ t ∈ x.stands, ∃ b ∈ t.vars, argV b.a v) ∨ ∃ a ∈ x.args, argV a v) ∧ Fw.Sep h1 h' [ownSl si_Lstring eStr q.1 l]) x.objs.length
    ⟨0, l, rfl, by omega, by omega, hl.iff fun v => by simp, S⟩ ?_
  clear S hl l
  rintro _ _ ⟨out4, _⟩ h7 ⟨i, l, hq, hi, rfl, hl, S⟩
  simp only at hq S ⊢
  subst hq
  refine ld_lst (fld_iObjs.rd hp) S.old.ext fun la hla => ?_
  have hlal := hla.lenEq
  have hlab := hla.bound
  refine ifB_intro (fun hc => ?_) (fun hc => ?_)
  · have hil : i < x.objs.length := by rw [hlal] at hc; simpa using hc
    have hti := List.getElem_mem hil
    refine loop_intro (fun m (q : Sl × Int) h' => ∃ (j : Nat) (l : List ByteArray), q.2 = j ∧ j ≤ x.objs[i].vals.length ∧ m = x.objs[i].vals.length - j ∧ UpS l (fun v => (∃ b ∈ x.objs[i].vals.take j, argV b v) ∨ (∃ t ∈ x.objs.take i, ∃ a ∈ t.vals, argV a v) ∨ (∃ t ∈ x.stands, ∃ b ∈ t.vars, argV b.a v) ∨ ∃ a ∈ x.args, argV a v) ∧ Fw.Sep h1 h' [ownSl si_Lstring eStr q.1 l]) x.objs[i].vals.length
      ⟨0, l, rfl, by omega, by omega, hl.iff fun v => by simp, S⟩ ?_
    clear S hl l
    rintro _ _ ⟨out5, _⟩ h8 ⟨j, l, hq, hj, rfl, hl, S⟩
    simp only at hq S ⊢
    subst hq
    refine ld_lst (fld_iObjs.rd hp) S.old.ext fun la2 hla2 => ?_
    refine idx_rdN hla2 rfl hil fun p2 _ hp2 => ?_
    refine ld_lst (fld_virtVals.rd hp2) S.old.ext fun lv hlv => ?_
    have hlvl := hlv.lenEq
    have hlvb := hlv.bound
    refine ifB_intro (fun hc => ?_) (fun hc => ?_)
    · have hjl : j < x.objs[i].vals.length := by rw [hlvl] at hc; simpa using hc
      refine ld_lst (fld_iObjs.rd hp) S.old.ext fun la3 hla3 => ?_
      refine idx_rdN hla3 rfl hil fun p3 _ hp3 => ?_
      refine ld_lst (fld_virtVals.rd hp3) S.old.ext fun lv2 hlv2 => ?_
      refine idx_rdN hlv2 rfl hjl fun p4 _ hp4 => ?_
      refine ld_agg hp4 S.old.ext rfl fun c1 hc1 => ?_
      refine (add_calls S hl (hlen hl ?_) (rv_arg.1 hc1)).mono ?_
      · rintro v (⟨b, hb, hv⟩ | ⟨t, ht, b, hb, hv⟩ | ⟨t, ht, b, hb, hv⟩ | ⟨a, ha, hv⟩)
        · exact hC _ hti b (List.mem_of_mem_take hb) v hv
        · exact hC t (List.mem_of_mem_take ht) b hb v hv
        · exact hB t ht b hb v hv
        · exact hA a ha v hv
      rintro u h6 ⟨s', l', rfl, e3, hl', S3⟩
      exact ⟨_, rfl, ar_i64 (by omega) (by omega) ⟨x.objs[i].vals.length - (j + 1), by omega, j + 1, l', rfl, by omega, rfl, hl'.iff fun v => by rw [take_ex hjl, or_assoc], S3⟩⟩
    · have hjl : x.objs[i].vals.length ≤ j := by rw [hlvl] at hc; simpa using hc
      rw [List.take_of_length_le hjl] at hl
      exact ar_i64 (by omega) (by omega) ⟨x.objs.length - (i + 1), by omega, i + 1, l, rfl, by omega, rfl, hl.iff fun v => by rw [take_ex hil, or_assoc], S⟩
  have hil : x.objs.length ≤ i := by rw [hlal] at hc; simpa using hc
  rw [List.take_of_length_le hil] at hl
  refine ⟨_, l, rfl, hl.iff fun v => ?_, S.since o1⟩
  unfold usesV
  constructor
  · rintro (h | h | h)
    · exact .inr (.inr h)
    · exact .inr (.inl h)
    · exact .inl h
  · rintro (h | h | h)
    · exact .inr (.inr h)
    · exact .inr (.inl h)
    · exact .inl h

end Go.Proofs.Ytojdbliehgejbaa
