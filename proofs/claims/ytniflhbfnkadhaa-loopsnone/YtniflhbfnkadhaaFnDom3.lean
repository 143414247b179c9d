/-
  The document's answers for layer 10; dom.Kids, dom.Dominates.
-/
import Derived.Test.YtniflhbfnkadhaaFnDom2
namespace Go.Proofs.Ytniflhbfnkadhaa
open Go.Fw Go.Pl

abbrev eBools : Elem (List Bool) := Elem.sl si_Lbool eBool
theorem filter_take_succ {α : Type} (p : α → Bool) {l : List α} {j : Nat} (h : j < l.length) : (l.take (j + 1)).filter p = (l.take j).filter p ++ if p l[j] = true then [l[j]] else [] := by
  rw [List.take_succ_eq_append_getElem h, List.filter_append]
  congr 1
  by_cases e : p l[j] = true <;> simp [e]

theorem refWithout_calls {h : Heap} {g : Sl} {G : Graph} (hg : rdSl eInts h g G) (hn : G.length ≤ 1000) (hrow : ∀ r ∈ G, r.length ≤ 1000) (a : Nat) :
    ACalls Try.prog F_lateenref10_Without [g.v, .int .i64 (a : Int)] h (fun v h' => ∃ s : Sl, v = s.v ∧ Sep h h' [ownSl si_Lbool eBool s (avL G a)]) := by
  refine lateenref10_Without_of ?_
  have hl := hg.lenEq
  unfold lateenref10_Without
  have hll := lessG_len G a
  refine loop_intro (fun m (t : Sl × Int) h1 => ∃ k : Nat, t.2 = k ∧ k ≤ G.length ∧ m = G.length - k ∧ Sep h h1 [ownSl si_LLint eInts t.1 ((lessG G a).take k)]) G.length ⟨0, rfl, by omega, by omega, (Sep.start h).nil rfl⟩ ?_
  rintro _ _ ⟨out, i⟩ h1 ⟨k, hk0, hk, rfl, S⟩
  simp only at hk0 S ⊢
  subst hk0
  refine ifB_intro (fun hc => ?_) (fun hc => ?_)
  · have hlt : k < G.length := by simpa [hl] using hc
    have hr20 := hrow _ (List.getElem_mem hlt)
    have hrow' : (lessG G a)[k]'(by omega) = G[k].filter fun t => decide (k ≠ a) && decide (t ≠ (a : Int)) := by simp [lessG, row_eq]
    refine loop_intro (fun m (t : Sl × Int) h1 => ∃ j : Nat, t.2 = j ∧ j ≤ G[k].length ∧ m = G[k].length - j ∧ Sep h h1 [ownSl si_Lint eInt t.1 ((G[k].take j).filter fun t => decide (k ≠ a) && decide (t ≠ (a : Int))), ownSl si_LLint eInts out ((lessG G a).take k)]) G[k].length
      ⟨0, rfl, by omega, by omega, S.nil rfl⟩ ?_
    clear S
    rintro _ _ ⟨l, j⟩ h2 ⟨j, hj0, hj, rfl, S⟩
    simp only at hj0 S ⊢
    subst hj0
    refine idx_rdN hg rfl hlt fun p _ hp => ld_slB hp S.old fun x hx => ?_
    have hxl := hx.lenEq
    refine ifB_intro (fun hc => ?_) (fun hc => ?_)
    · have hjl : j < G[k].length := by rw [hxl] at hc; simpa using hc
      have hfl : ((G[k].take j).filter fun t => decide (k ≠ a) && decide (t ≠ (a : Int))).length ≤ j := Nat.le_trans (List.length_filter_le _ _) (by rw [List.length_take]; omega)
      intro k1 hk1
      have fin : ∀ (l' : Sl) (h' : Heap), Sep h h' [ownSl si_Lint eInt l' ((G[k].take (j + 1)).filter fun t => decide (k ≠ a) && decide (t ≠ (a : Int))), ownSl si_LLint eInts out ((lessG G a).take k)] → k1 l' h' := fun l' h' S' =>
        hk1 _ _ fun _ => ar_i64 (by omega) (by omega) ⟨G[k].length - (j + 1), by omega, j + 1, rfl, by omega, rfl, S'⟩
      rw [filter_take_succ _ hjl] at fin
      intro k2 hk2
      have no : (decide (k ≠ a) && decide (G[k][j] ≠ (a : Int))) = false → k2 false h2 := fun hno => hk2 _ _ fun _ => ifB_false rfl (fin l h2 (by rw [hno]; simpa using S))
      refine ifB_intro (fun hka => ?_) (fun hka => no (by
        have : k = a := by
          have : (k : Int) = a := by simpa using hka
          omega
        simp [this]))
      have hka' : k ≠ a := fun e => by subst e; simp at hka
      refine idx_rdN hg rfl hlt fun p3 _ hp3 => ld_slB hp3 S.old fun x3 hx3 => ?_
      refine idx_rdN hx3 rfl hjl fun p4 _ hp4 => ld_oneB hp4 S.old ?_
      by_cases ht : G[k][j] = (a : Int)
      · rw [show (G[k][j] != (a : Int)) = false by simpa using ht]
        exact no (by simp [ht])
      · rw [show (G[k][j] != (a : Int)) = true by simpa using ht]
        refine hk2 _ _ fun _ => ifB_true rfl ?_
        refine idx_rdN hg rfl hlt fun p1 _ hp1 => ld_slB hp1 S.old fun x1 hx1 => ?_
        refine idx_rdN hx1 rfl hjl fun p2 _ hp2 => ld_oneB hp2 S.old ?_
        refine app1_flat (x := G[k][j]) S (fun _ => ⟨rfl, rfl⟩) rfl (by decide) (by simp only [si_Lint]; omega) (by omega) fun s' h' S' => fin s' h' ?_
        rw [if_pos (by simp [ht, hka'])]
        exact S'
    · have hjl : G[k].length ≤ j := by rw [hxl] at hc; simpa using hc
      rw [List.take_of_length_le hjl, ← hrow'] at S
      refine app1_rule (S.toEl.swap) rfl (by decide) (by simp only [si_LLint, List.length_take]; omega) (by simp only [List.length_take]; omega) fun s' h' S' => ?_
      refine ar_i64 (by omega) (by omega) ⟨G.length - (k + 1), by omega, k + 1, rfl, by omega, rfl, S'.cast ?_⟩
      rw [List.take_succ_eq_append_getElem (by omega)]
  · have hkl : G.length ≤ k := by simpa [hl] using hc
    rw [List.take_of_length_le (by omega)] at S
    refine (refCome_calls S.rd (by omega)).mono ?_
    rintro v h3 ⟨r, rfl, T⟩
    refine ⟨r, rfl, ?_⟩
    have o13 := S.old.trans T.old
    refine ifB_intro (fun hz => ?_) (fun hz => ?_)
    · have ha : a = 0 := by
        have : (a : Int) = 0 := by simpa using hz
        omega
      subst ha
      refine ⟨trivial, mk_rule (x := false) (E := eBool) (Sep.start h3) rfl (fun h => own_bool false h) (by omega) (by omega) (by simp only [si_Lbool]; omega) fun s h4 S4 => ⟨s, rfl, (S4.since o13).cast ?_⟩⟩
      rw [hl]; simp [avL]
    · have ha : a ≠ 0 := fun e => by subst e; simp at hz
      refine ⟨r, rfl, (T.since S.old).cast ?_⟩
      simp [avL, ha]

theorem refAll_calls {h : Heap} {g : Sl} {G : Graph} (hg : rdSl eInts h g G) (hn : G.length ≤ 1000) (hrow : ∀ r ∈ G, r.length ≤ 1000) :
    ACalls Try.prog F_lateenref10_All [g.v] h (fun v h' => ∃ s : Sl, v = s.v ∧ Sep h h' [ownSl si_LLbool eBools s (domL G)]) := by
  refine lateenref10_All_of ?_
  have hl := hg.lenEq
  unfold lateenref10_All
  refine (refCome_calls hg hn).mono ?_
  rintro v h1 ⟨r, rfl, T⟩
  refine ⟨r, rfl, ?_⟩
  have hr := T.rd
  have hcl := come_len G
  have hdl : (domL G).length = G.length := by simp [domL]
  refine loop_intro (fun m (t : Sl × Int) h' => ∃ i : Nat, t.2 = i ∧ i ≤ G.length ∧ m = G.length - i ∧ Sep h1 h' [ownSl si_LLbool eBools t.1 ((domL G).take i)]) G.length ⟨0, rfl, by omega, by omega, (Sep.start h1).nil rfl⟩ ?_
  rintro _ _ ⟨out, i⟩ h2 ⟨i, hi0, hi, rfl, S⟩
  simp only at hi0 S ⊢
  subst hi0
  refine ifB_intro (fun hc => ?_) (fun hc => ?_)
  · have hlt : i < G.length := by simpa [hl] using hc
    refine (refWithout_calls (hg.old (T.old.trans S.old)) hn hrow i).mono ?_
    rintro v h3 ⟨r1, rfl, T3⟩
    refine ⟨r1, rfl, trivial, ?_⟩
    have hal := avL_len G i
    refine mk_rule (x := false) (E := eBool) (S.frame T3) rfl (fun h => own_bool false h) (by omega) (by omega) (by simp only [si_Lbool]; omega) fun s h4 S4 => ?_
    rw [hl, Int.toNat_natCast] at S4
    refine loop_intro (fun m (t : Int) h' => ∃ (k : Nat) (A : List Bool), t = k ∧ k ≤ G.length ∧ m = G.length - k ∧ A.length = G.length ∧ (∀ z (hz : z < A.length), z < k → A[z] = domB G i z) ∧ Sep h1 h' [ownSl si_Lbool eBool s A, ownSl si_Lbool eBool r1 (avL G i), ownSl si_LLbool eBools out ((domL G).take i)]) G.length
      ⟨0, _, rfl, by omega, by omega, by simp, fun z hz h => by omega, S4⟩ ?_
    clear S S4
    rintro _ _ t h5 ⟨k, A, rfl, hk, rfl, hA, hall, S⟩
    refine ifB_intro (fun hc => ?_) (fun hc => ?_)
    · have hkl : k < G.length := by simpa [hl] using hc
      have hkA : k < A.length := by omega
      have hic : i < (comeOf G).length := by omega
      have hkc : k < (comeOf G).length := by omega
      have hkv : k < (avL G i).length := by omega
      intro k1 hk1
      have fin : ∀ (b : Bool) (h' : Heap), b = domB G i k → Sep h1 h' [ownSl si_Lbool eBool s (A.set k b), ownSl si_Lbool eBool r1 (avL G i), ownSl si_LLbool eBools out ((domL G).take i)] → k1 () h' := fun b h' hb S' =>
        hk1 _ _ fun _ => ar_i64 (by omega) (by omega) ⟨G.length - (k + 1), by omega, k + 1, _, rfl, by omega, rfl, by simpa using hA, fun z hz hlt => by
          rw [List.getElem_set]
          split
          · rename_i e; subst e; exact hb
          · exact hall z (by simpa using hz) (by omega), S'⟩
      have put : ∀ (b : Bool), b = domB G i k → idx 1 s (k : Int) fun p => st [.bool b] h5 p fun h' => k1 () h' := fun b hb => by
        refine idx_rdN S.rd rfl hkA fun p hat _ => ?_
        exact st_flat S (x := b) (own_bool b) hat rfl hkA fun h' S' => fin b h' hb S'
      have e1 : (comeOf G).getD i false = (comeOf G)[i] := getD_lt hic
      have e2 : (comeOf G).getD k false = (comeOf G)[k] := getD_lt hkc
      have e3 : (avL G i).getD k false = (avL G i)[k] := getD_lt hkv
      refine idx_rdN hr rfl hic fun p _ hp => ld_oneB hp S.old ?_
      refine ifB_intro (fun h1' => ?_) (fun h1' => put false (by unfold domB; rw [e1, h1']; rfl))
      refine idx_rdN hr rfl hkc fun p _ hp => ld_oneB hp S.old ?_
      refine ifB_intro (fun h2' => ?_) (fun h2' => put false (by unfold domB; rw [e1, h1', e2, h2']; rfl))
      refine ifB_intro (fun h3' => put true ?_) (fun h3' => ?_)
      · have : i = k := by
          have : (i : Int) = k := by simpa using h3'
          omega
        unfold domB; rw [e1, h1', e2, h2', this]; simp
      · have hik : ¬ i = k := fun e => by subst e; simp at h3'
        refine idx_rdN S.swap.rd rfl hkv fun p _ hp => ld_one hp (put _ ?_)
        unfold domB; rw [e1, h1', e2, h2', e3, show (i == k) = false by simpa using hik]; simp
    · have hkl : k = G.length := by have : G.length ≤ k := by simpa [hl] using hc
                                    omega
      subst hkl
      have hAe : A = (domL G)[i]'(by omega) := by
        refine List.ext_getElem (by simp [domL, hA]) fun z h1 h2 => ?_
        rw [hall z h1 (by omega)]
        simp [domL]
      rw [hAe] at S
      refine app1_rule (S.swap.drop.toEl.swap) rfl (by decide) (by simp only [si_LLbool, List.length_take]; omega) (by simp only [List.length_take]; omega) fun s' h' S' => ?_
      refine ar_i64 (by omega) (by omega) ⟨G.length - (i + 1), by omega, i + 1, rfl, by omega, rfl, S'.cast ?_⟩
      rw [List.take_succ_eq_append_getElem (by omega)]
  · have hkl : G.length ≤ i := by simpa [hl] using hc
    rw [List.take_of_length_le (by omega)] at S
    exact ⟨out, rfl, S.since T.old⟩

end Go.Proofs.Ytniflhbfnkadhaa
