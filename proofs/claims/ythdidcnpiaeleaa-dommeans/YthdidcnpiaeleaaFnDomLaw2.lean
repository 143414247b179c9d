/-
  The laws of layer 10: DomMeans, DomEdges, DomKeeps.
-/
import Derived.Test.YthdidcnpiaeleaaFnDomLaw
import Derived.Test.YthdidcnpiaeleaaFwRow
namespace Go.Proofs.Ythdidcnpiaeleaa
open Go.Fw Go.Pl

theorem av_all {G : Graph} {x k : Nat} (hx : ¬ Rch G x) (h : Rch G k) : Av G x k := by
  induction h with
  | zero h => exact .zero h fun e => by subst e; exact hx (.zero h)
  | step hi hl hk ih => exact .step ih hl hk fun e => by subst e; exact hx (.step hi hl hk)
theorem no_av0 {G : Graph} : ∀ x, Av G 0 x → False := by
  intro x hx
  induction hx with
  | zero _ hd => exact hd rfl
  | step _ _ _ _ ih => exact ih

theorem domMeans_calls {h : Heap} {g : Sl} {G : Graph} (hg : rdSl eInts h g G) {a b : Int} (ha : 0 ≤ a ∧ a < 256) (hb : 0 ≤ b ∧ b < 256) :
    ACalls Try.prog F_lateenlaw10_DomMeans [g.v, .int .u8 a, .int .u8 b] h (fun v h' => v = .bool true ∧ Old h h') := by
  refine lateenlaw10_DomMeans_of ?_
  unfold lateenlaw10_DomMeans
  have hl := hg.lenEq
  intro k hk
  refine awake10_calls.mono ?_
  rintro v h1 ⟨rfl, o1⟩
  refine ⟨_, rfl, ifB_false rfl ?_⟩
  have g1 := hg.old o1
  refine (few_calls g1 60).mono ?_
  rintro v h2 ⟨rfl, rfl⟩
  refine ⟨_, rfl, ?_⟩
  refine ifB_intro (fun _ => hk _ _ fun _ => ifB_true rfl (awake10_end o1)) (fun hc => ?_)
  have hfew : fewB G 60 = true := by simpa using hc
  have hn : G.length ≤ 1000 := by have := few_le hfew; omega
  refine hk _ _ fun _ => ?_
  refine ifB_intro (fun _ => awake10_end o1) (fun hc => ?_)
  have hpos : 0 < G.length := by
    have : (g.len : Int) ≠ 0 := by simpa using hc
    omega
  refine ⟨by omega, by omega, ?_⟩
  refine (come_calls g1 hn).mono ?_
  rintro v h3 ⟨r, rfl, T⟩
  refine ⟨r, rfl, ?_⟩
  rw [wrap_u8 ha.1 ha.2, wrap_u8 hb.1 hb.2]
  obtain ⟨x, hx, hxn⟩ := tmod_lt (n := g.len) ha.1 (by omega)
  obtain ⟨y, hy, hyn⟩ := tmod_lt (n := g.len) hb.1 (by omega)
  rw [hl] at hxn hyn
  rw [hx, hy]
  have hcl := come_len G
  have hyc : y < (comeOf G).length := by omega
  refine idx_rdN T.rd rfl hyc fun p _ hp => ld_one hp ?_
  refine ifB_intro (fun _ => ⟨rfl, o1.trans T.old⟩) (fun hyr => ?_)
  have hyr : Rch G y := (come_reach hpos y).1 (by rw [getD_lt hyc]; simpa using hyr)
  have hll := lessG_len G x
  have g3 := g1.old T.old
  refine loop_intro (fun m (t : Sl × Int) h1 => ∃ k : Nat, t.2 = k ∧ k ≤ G.length ∧ m = G.length - k ∧ Sep h3 h1 [ownSl si_LLint eInts t.1 ((lessG G x).take k)]) G.length ⟨0, rfl, by omega, by omega, (Sep.start h3).nil rfl⟩ ?_
  rintro _ _ ⟨out, i⟩ h4 ⟨k, hk0, hk, rfl, S⟩
  simp only at hk0 S ⊢
  subst hk0
  refine ifB_intro (fun hc => ?_) (fun hc => ?_)
  · have hlt : k < G.length := by simpa [hl] using hc
    have hr20 := few_row hfew hlt
    have hrow' : (lessG G x)[k]'(by omega) = G[k].filter fun t => decide (k ≠ x) && decide (t ≠ (x : Int)) := by simp [lessG, row_eq]
    refine loop_intro (fun m (t : Sl × Int) h1 => ∃ j : Nat, t.2 = j ∧ j ≤ G[k].length ∧ m = G[k].length - j ∧ Sep h3 h1 [ownSl si_Lint eInt t.1 ((G[k].take j).filter fun t => decide (k ≠ x) && decide (t ≠ (x : Int))), ownSl si_LLint eInts out ((lessG G x).take k)]) G[k].length
      ⟨0, rfl, by omega, by omega, S.nil rfl⟩ ?_
    clear S
    rintro _ _ ⟨l, j⟩ h2' ⟨j, hj0, hj, rfl, S⟩
    simp only at hj0 S ⊢
    subst hj0
    intro k2 hk2
    have stop : ((G[k].take j).filter fun t => decide (k ≠ x) && decide (t ≠ (x : Int))) = (lessG G x)[k]'(by omega) → k2 false h2' := fun he => hk2 _ _ fun _ => by
      refine ifB_false rfl ?_
      rw [he] at S
      refine app1_rule (S.toEl.swap) rfl (by decide) (by simp only [si_LLint, List.length_take]; omega) (by simp only [List.length_take]; omega) fun s' h' S' => ?_
      refine ar_i64 (by omega) (by omega) ⟨G.length - (k + 1), by omega, k + 1, rfl, by omega, rfl, S'.cast ?_⟩
      rw [List.take_succ_eq_append_getElem (by omega)]
    refine idx_rdN g3 rfl hlt fun p _ hp => ld_slB hp S.old fun x5 hx5 => ?_
    have hx5l := hx5.lenEq
    refine ifB_intro (fun hc => ?_) (fun hc => stop (by
      have hjl : G[k].length ≤ j := by rw [hx5l] at hc; simpa using hc
      rw [List.take_of_length_le hjl, hrow']))
    have hjl : j < G[k].length := by rw [hx5l] at hc; simpa using hc
    by_cases hkx : k = x
    · rw [show ((k : Int) != (x : Int)) = false by simp [hkx]]
      have hz : ∀ l : List Int, l.filter (fun t => decide (k ≠ x) && decide (t ≠ (x : Int))) = [] := fun l => List.filter_eq_nil_iff.2 fun t _ => by simp [hkx]
      exact stop (by rw [hrow', hz, hz])
    · rw [show ((k : Int) != (x : Int)) = true by simpa using (by omega : ¬ (k : Int) = x)]
      have hfl : ((G[k].take j).filter fun t => decide (k ≠ x) && decide (t ≠ (x : Int))).length ≤ j := Nat.le_trans (List.length_filter_le _ _) (by rw [List.length_take]; omega)
      refine hk2 _ _ fun _ => ifB_true rfl ?_
      intro k3 hk3
      have fin : ∀ (l' : Sl) (h' : Heap), Sep h3 h' [ownSl si_Lint eInt l' ((G[k].take (j + 1)).filter fun t => decide (k ≠ x) && decide (t ≠ (x : Int))), ownSl si_LLint eInts out ((lessG G x).take k)] → k3 l' h' := fun l' h' S' =>
        hk3 _ _ fun _ => ar_i64 (by omega) (by omega) ⟨G[k].length - (j + 1), by omega, j + 1, rfl, by omega, rfl, S'⟩
      rw [filter_take_succ _ hjl] at fin
      refine idx_rdN g3 rfl hlt fun p1 _ hp1 => ld_slB hp1 S.old fun x1 hx1 => ?_
      refine idx_rdN hx1 rfl hjl fun p2 _ hp2 => ld_oneB hp2 S.old ?_
      by_cases ht : G[k][j] = (x : Int)
      · rw [show (G[k][j] != (x : Int)) = false by simpa using ht]
        exact ifB_false rfl (fin l h2' (by rw [if_neg (by simp [ht])]; simpa using S))
      · rw [show (G[k][j] != (x : Int)) = true by simpa using ht]
        refine ifB_true rfl ?_
        refine idx_rdN g3 rfl hlt fun p1 _ hp1 => ld_slB hp1 S.old fun x3 hx3 => ?_
        refine idx_rdN hx3 rfl hjl fun p2 _ hp2 => ld_oneB hp2 S.old ?_
        refine app1_flat (x := G[k][j]) S (fun _ => ⟨rfl, rfl⟩) rfl (by decide) (by simp only [si_Lint]; omega) (by omega) fun s' h' S' => fin s' h' ?_
        rw [if_pos (by simp [ht, hkx])]
        exact S'
  · have hkl : G.length ≤ k := by simpa [hl] using hc
    rw [List.take_of_length_le (by omega)] at S
    intro k4 hk4
    have fin : ∀ (wo : Bool) (h' : Heap), Old h3 h' → (wo = true ↔ x ≠ 0 ∧ x ≠ y ∧ Av G x y) → k4 wo h' := fun wo h' o hw => hk4 _ _ fun _ => by
      refine (nearest_calls (g3.old o) hn).mono ?_
      rintro v h14 ⟨r2, rfl, T2⟩
      refine ⟨r2, rfl, ?_⟩
      refine (dominates_calls T2.rd hn (x : Int) (y : Int)).mono ?_
      rintro v h15 ⟨rfl, d, rfl, hd⟩
      refine ⟨_, rfl, ?_, o1.trans (T.old.trans (o.trans T2.old))⟩
      have hd' : d = true ↔ (x = y ∨ Dm G x y) := hd.trans ⟨fun ⟨x', y', e1, e2, _, _, h⟩ => by
        have : x' = x := by omega
        have : y' = y := by omega
        subst x' y'; exact h, fun h => ⟨x, y, rfl, rfl, hxn, hyn, h⟩⟩
      have : d = true ↔ ¬ wo = true := by
        rw [hd', hw]
        constructor
        · rintro (h | h) ⟨_, h2, h3⟩
          · exact h2 h
          · exact h.2.2 h3
        · intro h
          by_cases e : x = y
          · exact .inl e
          · right
            by_cases e0 : x = 0
            · subst e0; exact ⟨.zero hpos, hyr, fun hav => no_av0 y hav⟩
            · have hno : ¬ Av G x y := fun hav => h ⟨e0, e, hav⟩
              refine ⟨?_, hyr, hno⟩
              by_cases hxr : Rch G x
              · exact hxr
              · exact absurd (av_all hxr hyr) hno
      cases d with
      | true =>
        cases wo with
        | true => exact absurd rfl (this.1 rfl)
        | false => rfl
      | false =>
        cases wo with
        | true => rfl
        | false => exact absurd (this.2 Bool.false_ne_true) Bool.false_ne_true
    refine ifB_intro (fun h0 => ?_) (fun h0 => fin false h4 S.old ⟨(fun h => by cases h), fun h => absurd (by simpa using h0) h.1⟩)
    have hx0 : x ≠ 0 := fun e => by subst e; simp at h0
    refine ifB_intro (fun h1 => ?_) (fun h1 => fin false h4 S.old ⟨(fun h => by cases h), fun h => absurd (by
      have : (x : Int) = y := by simpa using h1
      omega) h.2.1⟩)
    have hxy : x ≠ y := fun e => by subst e; simp at h1
    refine (come_calls S.rd (by omega)).mono ?_
    rintro v h16 ⟨r4, rfl, T4⟩
    refine ⟨r4, rfl, ?_⟩
    have hcl' := come_len (lessG G x)
    have hyl : y < (comeOf (lessG G x)).length := by omega
    refine idx_rdN T4.rd rfl hyl fun p _ hp => ld_one hp (fin _ _ (S.old.trans T4.old) ?_)
    have := (come_reach (G := lessG G x) (by omega) y)
    rw [getD_lt hyl] at this
    rw [this, less_reach hx0]
    exact ⟨fun h => ⟨hx0, hxy, h⟩, fun h => h.2.2⟩

theorem domEdges_calls {h : Heap} {g : Sl} {G : Graph} (hg : rdSl eInts h g G) :
    ACalls Try.prog F_lateenlaw10_DomEdges [g.v] h (fun v h' => v = .bool true ∧ Old h h') := by
  refine lateenlaw10_DomEdges_of ?_
  unfold lateenlaw10_DomEdges
  have hl := hg.lenEq
  intro k hk
  refine awake10_calls.mono ?_
  rintro v h1 ⟨rfl, o1⟩
  refine ⟨_, rfl, ifB_false rfl ?_⟩
  have g1 := hg.old o1
  refine (few_calls g1 60).mono ?_
  rintro v h2 ⟨rfl, rfl⟩
  refine ⟨_, rfl, hk _ _ fun _ => ?_⟩
  refine ifB_intro (fun _ => awake10_end o1) (fun hc => ?_)
  have hfew : fewB G 60 = true := by simpa using hc
  have hn : G.length ≤ 1000 := by have := few_le hfew; omega
  refine (nearest_calls g1 hn).mono ?_
  rintro v h3 ⟨r1, rfl, T3⟩
  refine ⟨r1, rfl, ?_⟩
  refine (come_calls (g1.old T3.old) hn).mono ?_
  rintro v h4 ⟨r2, rfl, T4⟩
  refine ⟨r2, rfl, ?_⟩
  have S4 := T3.frame T4
  refine (frontier_calls (g1.old S4.old) hn).mono ?_
  rintro v h5 ⟨r3, rfl, T5⟩
  refine ⟨r3, rfl, ?_⟩
  have S5 := S4.frame T5
  have hr3 := S5.rd
  have hr2 := S5.drop.rd
  have hr1 := S5.drop.drop.rd
  have o5 := S5.old
  have g5 := g1.old o5
  clear T3 T4 S4 T5 S5
  have hcl := come_len G
  have hfl := frontF_len G
  have hnl := nearF_len G
  refine loop_intro (fun m (t : Int) h' => ∃ i : Nat, t = i ∧ i ≤ G.length ∧ m = G.length - i ∧ h5 = h') G.length ⟨0, rfl, by omega, by omega, rfl⟩ ?_
  rintro _ _ t _ ⟨i, rfl, hi, rfl, rfl⟩
  refine ifB_intro (fun hc => ?_) (fun hc => ⟨rfl, o1.trans o5⟩)
  have hil : i < G.length := by rw [hl] at hc; simpa using hc
  refine loop_intro (fun m (t : Int) h' => ∃ k : Nat, t = k ∧ k ≤ G.length ∧ m = G.length - k ∧ h5 = h') G.length ⟨0, rfl, by omega, by omega, rfl⟩ ?_
  rintro _ _ t _ ⟨k, rfl, hk, rfl, rfl⟩
  refine ifB_intro (fun hc => ?_) (fun hc => ar_i64 (by omega) (by omega) ⟨G.length - (i + 1), by omega, i + 1, rfl, by omega, rfl, rfl⟩)
  have hkl : k < G.length := by rw [hl] at hc; simpa using hc
  intro k2 hk2
  have fin : k2 () h5 := hk2 _ _ fun _ => ar_i64 (by omega) (by omega) ⟨G.length - (k + 1), by omega, k + 1, rfl, by omega, rfl, rfl⟩
  clear hk2
  intro k3 hk3
  have skip : k3 true h5 := hk3 _ _ fun _ => ifB_true rfl fin
  have hic : i < (comeOf G).length := by omega
  have hir := come_reach (G := G) (by omega) i
  rw [getD_lt hic] at hir
  refine idx_rdN hr2 rfl hic fun p4 _ hp4 => ld_one hp4 ?_
  refine ifB_intro (fun _ => skip) (fun hci => ?_)
  have hir : Rch G i := hir.1 (by simpa using hci)
  refine (leads_calls g5 (a := i) (b := k) (by omega) (by omega)).mono ?_
  rintro v h' ⟨rfl, e'⟩
  have e' := e'.symm
  subst e'
  refine ⟨_, rfl, ?_⟩
  cases hlead : leadsB G i (k : Int) with
  | false => rw [Int.toNat_natCast, hlead]; exact skip
  | true =>
    rw [Int.toNat_natCast, hlead]
    refine hk3 _ _ fun _ => ifB_false rfl ?_
    clear skip hk3 k3
    have hkr : Rch G k := .step hir hlead hkl
    intro k4 hk4
    have rest : k4 false h5 := hk4 _ _ fun _ => by
      refine ifB_false rfl ?_
      have hif : i < (frontF G).length := by omega
      have hrow : (frontF G)[i] = ((List.range G.length).filter fun k => frontB G i k).map fun (k : Nat) => (k : Int) := by simp [frontF]
      have hrl : (frontF G)[i].length ≤ G.length := by rw [hrow]; exact range_filter_len _ _
      refine loop_intro (fun m (t : Bool × Int) h' => ∃ j : Nat, t.2 = j ∧ j ≤ (frontF G)[i].length ∧ m = (frontF G)[i].length - j ∧ h5 = h' ∧ t.1 = ((frontF G)[i].take j).contains (k : Int)) (frontF G)[i].length ⟨0, rfl, by omega, by omega, rfl, by simp⟩ ?_
      rintro _ _ ⟨inn, j⟩ _ ⟨j, hj0, hj, rfl, rfl, hin⟩
      simp only at hj0 hin ⊢
      subst hj0 hin
      refine idx_rdN hr3 rfl hif fun p _ hp => ld_sl hp fun x hx => ?_
      have hxl := hx.lenEq
      refine ifB_intro (fun hc => ?_) (fun hc => ?_)
      · have hjl : j < (frontF G)[i].length := by rw [hxl] at hc; simpa using hc
        intro k5 hk5
        have go : ∀ b, b = ((frontF G)[i].take (j + 1)).contains (k : Int) → k5 b h5 := fun b hb => hk5 _ _ fun _ => ar_i64 (by omega) (by omega) ⟨(frontF G)[i].length - (j + 1), by omega, j + 1, rfl, by omega, rfl, rfl, hb⟩
        have hct : ((frontF G)[i].take (j + 1)).contains (k : Int) = (((frontF G)[i].take j).contains (k : Int) || ((frontF G)[i][j] == (k : Int))) := by
          have hm : ((k : Int) ∈ (frontF G)[i].take (j + 1)) ↔ ((k : Int) ∈ (frontF G)[i].take j ∨ (frontF G)[i][j] = (k : Int)) := by
            rw [List.take_succ_eq_append_getElem hjl, List.mem_append, List.mem_singleton]
            exact or_congr_right ⟨fun h => h.symm, fun h => h.symm⟩
          rw [List.contains_eq_mem, List.contains_eq_mem, decide_eq_decide.2 hm, Bool.decide_or]
          rfl
        rw [hct] at go
        refine ifB_intro (fun h1 => go true (by rw [h1]; rfl)) (fun h1 => ?_)
        rw [h1] at go
        refine idx_rdN hr3 rfl hif fun p _ hp => ld_sl hp fun x1 hx1 => ?_
        refine idx_rdN hx1 rfl hjl fun p _ hp => ld_one hp (go _ (by simp))
      · have hjl : (frontF G)[i].length ≤ j := by rw [hxl] at hc; simpa using hc
        rw [List.take_of_length_le hjl]
        have hfront : ((frontF G)[i].contains (k : Int)) = true ↔ (i = k ∨ ¬ Dm G i k) := by
          rw [hrow, List.contains_eq_mem, decide_eq_true_eq, List.mem_map]
          have : (∃ a, a ∈ (List.range G.length).filter (fun k => frontB G i k) ∧ (a : Int) = k) ↔ frontB G i k = true := by
            constructor
            · rintro ⟨z, hz, e⟩
              have : z = k := by omega
              subst this
              exact (List.mem_filter.1 hz).2
            · exact fun h => ⟨k, List.mem_filter.2 ⟨List.mem_range.2 hkl, h⟩, rfl⟩
          rw [this, frontB_iff hkr]
          constructor
          · rintro ⟨p, hp, hpr, h1, h2⟩
            by_cases e : i = k
            · exact .inl e
            · exact .inr fun h3 => h2 ⟨h3, e⟩
          · intro h
            exact ⟨i, mem_prs.2 ⟨hil, hlead⟩, hir, .refl hir, fun h3 => h.elim (fun e => h3.2 e) fun h4 => h4 h3.1⟩
        intro k6 hk6
        have good : k6 false h5 := hk6 _ _ fun _ => ifB_false rfl fin
        refine ifB_intro (fun he => ?_) (fun he => ?_)
        · have : i = k := by
            have : (i : Int) = k := by simpa using he
            omega
          rw [hfront.2 (.inl this)]
          exact good
        · have hik : i ≠ k := fun e => by subst e; simp at he
          refine (dominates_calls hr1 hn (i : Int) (k : Int)).mono ?_
          rintro v h' ⟨e', d, rfl, hd⟩
          have e' := e'.symm
          subst e'
          refine ⟨_, rfl, ?_⟩
          have hd' : d = true ↔ Dm G i k := hd.trans ⟨fun ⟨x', y', e1, e2, _, _, h⟩ => by
            have : x' = i := by omega
            have : y' = k := by omega
            subst x' y'; exact h.resolve_left hik, fun h => ⟨i, k, rfl, rfl, hil, hkl, .inr h⟩⟩
          have : ((frontF G)[i].contains (k : Int)) = !d := by
            cases hd0 : d with
            | true =>
              cases hc0 : (frontF G)[i].contains (k : Int) with
              | false => rfl
              | true => exact absurd (hd'.1 hd0) ((hfront.1 hc0).resolve_left hik)
            | false => exact hfront.2 (.inr fun h => by rw [hd'.2 h] at hd0; cases hd0)
          rw [this]
          simpa using good
    refine ifB_intro (fun h0 => ?_) (fun _ => rest)
    have hk0 : k ≠ 0 := fun e => by subst e; simp at h0
    have hkN : k < (nearF G).length := by omega
    obtain ⟨d, hd, hd1, hd2⟩ := nearF_some hkN hkr hk0
    refine idx_rdN hr1 rfl hkN fun p _ hp => ld_one hp ?_
    rw [hd]
    refine (dominates_calls hr1 hn (d : Int) (i : Int)).mono ?_
    rintro v h' ⟨e', b, rfl, hb⟩
    have e' := e'.symm
    subst e'
    refine ⟨_, rfl, ?_⟩
    rw [hb.2 ⟨d, i, rfl, rfl, hd1.1.lt, hil, .inr (hd1.pred hd2 hir hlead)⟩]
    exact rest

theorem domKeeps_calls {h : Heap} {g : Sl} {G : Graph} (hg : rdSl eInts h g G) :
    ACalls Try.prog F_lateenlaw10_DomKeeps [g.v] h (fun v h' => v = .bool true ∧ Old h h') := by
  refine lateenlaw10_DomKeeps_of ?_
  unfold lateenlaw10_DomKeeps
  have hl := hg.lenEq
  intro k hk
  refine awake10_calls.mono ?_
  rintro v h1 ⟨rfl, o1⟩
  refine ⟨_, rfl, ifB_false rfl ?_⟩
  have g1 := hg.old o1
  refine (few10_calls g1).mono ?_
  rintro v h2 ⟨rfl, rfl⟩
  refine ⟨_, rfl, hk _ _ fun _ => ?_⟩
  refine ifB_intro (fun _ => awake10_end o1) (fun hc => ?_)
  have hfew : fewB G 24 = true := by simpa using hc
  have hn : G.length ≤ 1000 := by have := few_le hfew; omega
  refine loop_intro (fun m (t : Sl × Int) h3 => ∃ j : Nat, t.2 = j ∧ j ≤ G.length ∧ m = G.length - j ∧ Sep h2 h3 [ownSl si_LLint eInts t.1 (G.take j)]) G.length ⟨0, rfl, by omega, by omega, (Sep.start h2).nil rfl⟩ ?_
  rintro _ _ ⟨was, i⟩ h3 ⟨j, hj0, hj, rfl, S⟩
  simp only at hj0 S ⊢
  subst hj0
  refine ifB_intro (fun hc => ?_) (fun hc => ?_)
  · have hjl : j < G.length := by rw [hl] at hc; simpa using hc
    refine lit_ints [] S (by kernel_rfl) rfl (by decide) fun s h4 S4 => ?_
    refine idx_rdN g1 rfl hjl fun p _ hp => ld_slB hp S4.old fun x hx => ?_
    have hrow := few_row hfew hjl
    refine app_copy S4 flat_int (hx.old S4.old) (by simp only [si_Lint, List.length_nil]; omega) (by simp only [List.length_nil]; omega) fun s1 h5 S5 => ?_
    refine app1_rule (x := G[j]) (S5.toEl.swap) rfl (by decide) (by simp only [si_LLint, List.length_take]; omega) (by simp only [List.length_take]; omega) fun s3 h7 S7 => ?_
    refine ar_i64 (by omega) (by omega) ⟨G.length - (j + 1), by omega, j + 1, rfl, by omega, rfl, ?_⟩
    rw [List.take_succ_eq_append_getElem hjl]
    exact S7
  · have hjG : G.length = j := by rw [hl] at hc; simp at hc; omega
    rw [List.take_of_length_le (by omega)] at S
    refine (nearest_calls (g1.old S.old) hn).mono ?_
    rintro v h4 ⟨r1, rfl, T1⟩
    refine ⟨r1, rfl, ?_⟩
    have S1 := S.frame T1
    refine (frontier_calls (g1.old S1.old) hn).mono ?_
    rintro v h5 ⟨r2, rfl, T2⟩
    refine ⟨r2, rfl, ?_⟩
    have S2 := S1.frame T2
    clear S S1 T1 T2
    have hfl := frontF_len G
    refine loop_intro (fun m (t : Int) h6 => ∃ (i : Nat) (P : Graph) (R : List Int), t = i ∧ i ≤ P.length ∧ P.length = G.length ∧ R.length = G.length ∧ (∀ x ∈ P, x.length ≤ 1000) ∧ m = P.length - i ∧
      Sep h2 h6 [ownSl si_LLint eInts r2 P, ownSl si_Lint eInt r1 R, ownSl si_LLint eInts was G]) G.length
      ⟨0, frontF G, nearF G, rfl, by omega, hfl, nearF_len G, fun x hx => ?_, by omega, S2⟩ ?_
    · obtain ⟨i, hi, rfl⟩ := List.getElem_of_mem hx
      have : (frontF G)[i] = ((List.range G.length).filter fun k => frontB G i k).map fun (k : Nat) => (k : Int) := by simp [frontF]
      rw [this]
      exact Nat.le_trans (range_filter_len _ _) hn
    clear S2
    rintro _ _ t h6 ⟨i, P, R, rfl, hi, hP, hR, hPr, rfl, S⟩
    have hrl := S.rd.lenEq
    refine ifB_intro (fun hc => ?_) (fun hc => ?_)
    · have hil : i < P.length := by rw [hrl] at hc; simpa using hc
      have hiR : i < R.length := by omega
      refine idx_rdN S.swap.rd rfl hiR fun p hat _ => ?_
      refine st_flat S.swap (x := (7 : Int)) (own_int _) hat rfl hiR fun h11 S11 => ?_
      have S11 := S11.swap
      clear S
      refine loop_intro (fun m (t : Int) h7 => ∃ (k : Nat) (P' : Graph), t = k ∧ P'.length = P.length ∧ (∀ x ∈ P', x.length ≤ 1000) ∧ m = 1000 - k ∧ k ≤ 1000 ∧
        Sep h2 h7 [ownSl si_LLint eInts r2 P', ownSl si_Lint eInt r1 (R.set i 7), ownSl si_LLint eInts was G]) 1000
        ⟨0, P, rfl, rfl, hPr, by omega, by omega, S11⟩ ?_
      clear S11
      rintro _ _ t h7 ⟨k, P', rfl, hP', hPr', rfl, hk1000, S⟩
      have hil' : i < P'.length := by omega
      refine idx_rdN S.rd rfl hil' fun p _ hp => ld_sl hp fun x1 hx1 => ?_
      have hx1l := hx1.lenEq
      have hb := hPr' _ (List.getElem_mem hil')
      refine ifB_intro (fun hc => ?_) (fun hc => ?_)
      · have hkl : k < P'[i].length := by rw [hx1l] at hc; simpa using hc
        refine st_row (x := (-7 : Int)) S hil' hkl rfl (own_int _) fun h8 S8 => ?_
        refine ar_i64 (by omega) (by omega) ⟨1000 - (k + 1), by omega, k + 1, _, rfl, by simpa using hP', ?_, rfl, by omega, S8⟩
        intro x hx
        rcases List.mem_or_eq_of_mem_set hx with hx | rfl
        · exact hPr' x hx
        · simpa using hb
      · refine ar_i64 (by omega) (by omega) ⟨P'.length - (i + 1), by omega, i + 1, P', R.set i 7, rfl, by omega, by omega, by simpa using hR, hPr', rfl, S⟩
    · intro kk hkk
      have S := S.rot3
      refine (sameLists_calls (g1.old S.old) S.rd).mono ?_
      rintro v h8 ⟨rfl, rfl⟩
      refine ⟨_, rfl, ifB_true (by simp) ?_⟩
      refine (nearest_calls (g1.old S.old) hn).mono ?_
      rintro v h9 ⟨r5, rfl, T5⟩
      refine ⟨r5, rfl, ?_⟩
      have S5 := S.frame T5
      refine (refNearest_calls (g1.old S5.old) hn (few_rows hfew)).mono ?_
      rintro v h10 ⟨r6, rfl, T6⟩
      refine ⟨r6, rfl, ?_⟩
      have S6 := S5.frame T6
      refine (same_calls S6.swap.rd S6.rd).mono ?_
      rintro v h11 ⟨rfl, rfl⟩
      exact ⟨_, rfl, hkk _ _ fun _ => ⟨by simp, o1.trans S6.old⟩⟩

end Go.Proofs.Ythdidcnpiaeleaa
