/-
  Whether a shape is right, by the document.
-/
import Derived.Test.YtgdfpdfkghmdpaaFnFunc2
import Derived.Test.YtgdfpdfkghmdpaaFwMap
namespace Go.Proofs.Ytgdfpdfkghmdpaa
open Go.Fw Go.Pl Go.Pl.Api

theorem refRight_calls {h : Heap} {cs : Array Value} {f : MFunc} (hf : rFunc.rv h cs.toList f) (hn : f.blocks.length ≤ 1000) :
    ACalls Try.prog F_lateenref08_Right [.agg cs] h (fun v h' => v = .bool (rightB f) ∧ Old h h') := by
  refine lateenref08_Right_of ?_
  unfold lateenref08_Right
  refine new_rv hf fun p h1 o1 hp => ?_
  have hb := fld_blocks.rd hp
  have no : ∀ h', Old h1 h' → ¬ RightP f → (Value.bool false) = .bool (rightB f) ∧ Old h h' := fun h' o hr => by
    refine ⟨?_, o1.trans o⟩
    cases e : rightB f with
    | false => rfl
    | true => exact absurd (rightB_iff.1 e) hr
  refine loop_intro (fun m t h' => ∃ i : Nat, t = i ∧ i ≤ f.blocks.length ∧ m = f.blocks.length - i ∧ Old h1 h' ∧ ∀ j (hj : j < i) (hl : j < f.blocks.length), place f f.blocks[j].name = some j ∧
      ((∀ t ∈ f.blocks[j].term.to, ∃ k, place f t = some k ∧ k ≠ 0) ∧ f.blocks[j].term.to.Pairwise (· ≠ ·))) f.blocks.length
    ⟨0, rfl, by omega, by omega, .refl _, fun i hi => by omega⟩ ?_
  rintro m _ t h2 ⟨i, rfl, hi, rfl, o2, hyes⟩
  refine ld_lst hb o2.ext fun x hx => ?_
  have hxl := hx.lenEq
  refine ifB_intro (fun hc => ?_) (fun hc => ?_)
  · have hil : i < f.blocks.length := by rw [hxl] at hc; simpa using hc
    refine ld_agg hp o2.ext rfl fun cs1 hcs1 => ?_
    refine ld_lst hb o2.ext fun x2 hx2 => ?_
    refine idx_rdN hx2 rfl hil fun p1 _ hp1 => ?_
    refine ld_str (fld_name.rd hp1) o2.ext ?_
    refine (refPlace_calls (rFunc.ext hcs1 o2.ext) _).mono ?_
    rintro v h3 ⟨rfl, o3⟩
    have o13 := o2.trans o3
    obtain ⟨kk, hkk, hki⟩ := place_self hil
    refine place_as (fun k hk => ?_) (fun hk => by rw [hk] at hkk; cases hkk)
    refine ⟨o3.ext, ifB_intro (fun hne => no _ o13 fun r => ?_) (fun heq => ?_)⟩
    · have := r.names i hil
      rw [hk] at this
      injection this with this
      subst this
      simp at hne
    have hki : place f f.blocks[i].name = some i := by
      have : (k : Int) = i := by simpa using heq
      have : k = i := by omega
      rw [hk, this]
    refine ld_lst hb o13.ext fun x4 hx4 => ?_
    refine idx_rdN hx4 rfl hil fun p2 _ hp2 => ?_
    refine ld_lst (to_rd hp2) o13.ext fun x5 hx5 => ?_
    have hx5l := hx5.lenEq
    have hx5b := hx5.bound
    refine loop_intro (fun m t h' => ∃ k : Nat, t = k ∧ k ≤ f.blocks[i].term.to.length ∧ m = f.blocks[i].term.to.length - k ∧ Old h1 h' ∧ (∀ j (hj : j < k) (hl : j < f.blocks[i].term.to.length), ∃ q, place f f.blocks[i].term.to[j] = some q ∧ q ≠ 0) ∧
        ∀ j j' (hjj : j < j') (hj : j' < k) (hl : j' < f.blocks[i].term.to.length), f.blocks[i].term.to[j] ≠ f.blocks[i].term.to[j']) f.blocks[i].term.to.length
      ⟨0, rfl, by omega, by omega, o13, (fun i hi => by omega), fun _ _ _ hj => by omega⟩ ?_
    rintro m _ t h4 ⟨k, rfl, hk4, rfl, o4, hpl, hdis⟩
    refine ifB_intro (fun hc => ?_) (fun hc => ?_)
    · have hkl : k < f.blocks[i].term.to.length := by rw [hx5l] at hc; simpa using hc
      refine ld_agg hp o4.ext rfl fun cs6 hcs6 => ?_
      refine idx_rdN hx5 rfl hkl fun p3 _ hp3 => ?_
      refine ld_str hp3 o4.ext ?_
      refine (refPlace_calls (rFunc.ext hcs6 o4.ext) _).mono ?_
      rintro v h5 ⟨rfl, o5⟩
      have o15 := o4.trans o5
      refine place_as (fun q hq => ?_) (fun hq => ?_)
      · intro k1 hk1
        refine ifB_false rfl ?_
        refine hk1 _ _ fun _ => ?_
        refine ifB_intro (fun hz => no _ o15 fun r => ?_) (fun hz => ?_)
        · obtain ⟨q', hq', hne⟩ := (r.ends i hil).1 _ (List.getElem_mem hkl)
          rw [hq] at hq'
          injection hq' with hq'
          subst hq'
          have : (q : Int) = 0 := by simpa using hz
          omega
        have hq0 : q ≠ 0 := fun e => by subst e; simp at hz
        refine loop_intro (fun m t h' => ∃ j : Nat, t = j ∧ j ≤ k ∧ m = k - j ∧ h' = h5 ∧ ∀ z (hz : z < j) (hl : z < f.blocks[i].term.to.length), f.blocks[i].term.to[z] ≠ f.blocks[i].term.to[k]) k ⟨0, rfl, by omega, by omega, rfl, fun z hz => by omega⟩ ?_
        rintro m _ t h6 ⟨j, rfl, hj, rfl, rfl, hdj⟩
        refine ifB_intro (fun hc => ?_) (fun hc => ?_)
        · have hjk : j < k := by have := of_decide_eq_true hc; omega
          have hjl : j < f.blocks[i].term.to.length := by omega
          refine idx_rdN hx5 rfl hjl fun p4 _ hp4 => ?_
          refine ld_str hp4 o15.ext ?_
          refine idx_rdN hx5 rfl hkl fun p5 _ hp5 => ?_
          refine ld_str hp5 o15.ext ?_
          rw [bytes_eq]
          refine ifB_intro (fun he => no _ o15 fun r => ?_) (fun he => ar_i64 (by omega) (by omega) ⟨k - (j + 1), by omega, j + 1, rfl, by omega, rfl, rfl, fun z hz hl => ?_⟩)
          · exact List.pairwise_iff_getElem.1 (r.ends i hil).2 j k hjl hkl hjk (of_decide_eq_true he)
          · by_cases e : z = j
            · subst e; exact of_decide_eq_false he
            · exact hdj z (by omega) hl
        · have hjk : j = k := by have := of_decide_eq_false hc; omega
          subst hjk
          refine ar_i64 (by omega) (by omega) ⟨f.blocks[i].term.to.length - (j + 1), by omega, j + 1, rfl, by omega, rfl, o15, fun j' hj' hl' => ?_, fun a b hab hb hl => ?_⟩
          · by_cases e : j' = j
            · subst e; exact ⟨q, hq, hq0⟩
            · exact hpl j' (by omega) hl'
          · by_cases e : b = j
            · subst e; exact hdj a hab (by omega)
            · exact hdis a b hab (by omega) hl
      · intro k1 hk1
        refine ifB_true rfl ?_
        refine hk1 _ _ fun _ => ifB_true rfl (no _ o15 fun r => ?_)
        obtain ⟨q', hq', hne⟩ := (r.ends i hil).1 _ (List.getElem_mem hkl)
        rw [hq] at hq'
        cases hq'
    · have hkl : f.blocks[i].term.to.length ≤ k := by rw [hx5l] at hc; simpa using hc
      refine ar_i64 (by omega) (by omega) ⟨f.blocks.length - (i + 1), by omega, i + 1, rfl, by omega, rfl, o4, fun j hj hl => ?_⟩
      by_cases e : j = i
      · subst e
        refine ⟨hki, fun t ht => ?_, List.pairwise_iff_getElem.2 fun a b ha hb hab => hdis a b hab (by omega) hb⟩
        obtain ⟨q, hq, rfl⟩ := List.getElem_of_mem ht
        exact hpl q (by omega) hq
      · exact hyes j (by omega) hl
  · have hil : f.blocks.length ≤ i := by rw [hxl] at hc; simpa using hc
    refine ld_agg hp o2.ext rfl fun cs10 hcs10 => ?_
    refine (refCome_calls (rFunc.ext hcs10 o2.ext) hn).mono ?_
    rintro v h8 ⟨s, rfl, S⟩
    refine ⟨_, rfl, ?_⟩
    have hsl := S.rd.lenEq
    have hsb := S.rd.bound
    have hcl := come_len (graphF f)
    rw [graphF_len] at hcl
    refine loop_intro (fun m t h' => ∃ j : Nat, t = j ∧ j ≤ (comeOf (graphF f)).length ∧ m = (comeOf (graphF f)).length - j ∧ h' = h8 ∧ ∀ z (hz : z < j) (hl : z < (comeOf (graphF f)).length), (comeOf (graphF f))[z] = true) (comeOf (graphF f)).length
      ⟨0, rfl, by omega, by omega, rfl, fun z hz => by omega⟩ ?_
    rintro m _ t h9 ⟨j, rfl, hj, rfl, rfl, hall⟩
    have o9 := o2.trans S.old
    refine ifB_intro (fun hc => ?_) (fun hc => ⟨?_, o1.trans o9⟩)
    · have hjl : j < (comeOf (graphF f)).length := by rw [hsl] at hc; simpa using hc
      refine idx_rdN S.rd rfl hjl fun p6 _ hp6 => ld_one hp6 ?_
      refine ifB_intro (fun hno => no _ o9 fun r => ?_) (fun hyes2 => ar_i64 (by omega) (by omega) ⟨(comeOf (graphF f)).length - (j + 1), by omega, j + 1, rfl, by omega, rfl, rfl, fun z hz hl => ?_⟩)
      · have := r.come _ (List.getElem_mem hjl)
        rw [this] at hno
        cases hno
      · by_cases e : z = j
        · subst e; simpa using hyes2
        · exact hall z (by omega) hl
    · have hjl : (comeOf (graphF f)).length ≤ j := by rw [hsl] at hc; simpa using hc
      congr 1
      cases e : rightB f with
      | true =>
        have r := rightB_iff.1 e
        have := r.pos
        exact decide_eq_true (by omega)
      | false =>
        refine decide_eq_false fun hp0 => ?_
        have r : RightP f := ⟨by omega, fun i' hi' => (hyes i' (by omega) hi').1, fun i' hi' => (hyes i' (by omega) hi').2, fun b hb => by
          obtain ⟨z, hz, rfl⟩ := List.getElem_of_mem hb
          exact hall z (by omega) hz⟩
        rw [rightB_iff.2 r] at e
        cases e

end Go.Proofs.Ytgdfpdfkghmdpaa
