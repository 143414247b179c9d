/-
  dom.Nearest.
-/
import Derived.Test.YtniflhbfnkadhaaFnDom
namespace Go.Proofs.Ytniflhbfnkadhaa
open Go.Fw Go.Pl

def prs (G : Graph) (k : Nat) : List Nat := (List.range G.length).filter fun p => leadsB G p (k : Int)
theorem mem_prs {G : Graph} {k p : Nat} : p ∈ prs G k ↔ p < G.length ∧ leadsB G p (k : Int) = true := by
  unfold prs; rw [List.mem_filter, List.mem_range]
theorem preds_row {G : Graph} {k : Nat} (h : k < (predsOf G).length) : (predsOf G)[k] = (prs G k).map fun (p : Nat) => (p : Int) := by
  simp [predsOf, prs]
theorem predsOf_len (G : Graph) : (predsOf G).length = G.length := by simp [predsOf]
theorem prs_len {G : Graph} {k : Nat} : (prs G k).length ≤ G.length := by
  unfold prs
  refine Nat.le_trans (List.length_filter_le _ _) (by simp)

set_option maxRecDepth 2000 in
theorem nearest_calls {h : Heap} {g : Sl} {G : Graph} (hg : rdSl eInts h g G) (hn : G.length ≤ 1000) :
    ACalls Try.prog F_dom_Nearest [g.v] h (fun v h' => ∃ s : Sl, v = s.v ∧ Sep h h' [ownSl si_Lint eInt s (nearF G)]) := by
  refine dom_Nearest_of ?_
  unfold dom_Nearest
  have hl := hg.lenEq
  have R := rk_ok G
  refine (order_calls hg hn).mono ?_
  rintro v h1 ⟨r, rfl, S1⟩
  refine ⟨r, rfl, ?_⟩
  rw [hl]
  refine (ranks_calls hn S1.rd).mono ?_
  rintro v h2 ⟨r1, rfl, S2⟩
  refine ⟨r1, rfl, ?_⟩
  have S12 := S1.frame S2
  refine (preds_calls (hg.old S12.old) hn).mono ?_
  rintro v h3 ⟨r2, rfl, S3⟩
  have S13 := S12.frame S3
  have hr2 := S13.rd
  have hr1 := S13.drop.rd
  have hr := S13.drop.drop.rd
  have o3 := S13.old
  clear S1 S2 S12 S3 S13
  have hrl := hr.lenEq
  have hrb := hr.bound
  refine ⟨r2, rfl, rfl, mk_rule (x := (0 : Int)) (E := eInt) (Sep.start h3) rfl (fun h => own_int 0 h) (by omega) (by omega) (by simp only [si_Lint]; omega) fun s h4 S => ?_⟩
  rw [Int.toNat_natCast] at S
  refine loop_intro (fun m t h' => ∃ (j : Nat) (A : List Int), t = j ∧ j ≤ G.length ∧ m = G.length - j ∧ A.length = G.length ∧ (∀ i (hi : i < A.length), i < j → A[i] = -1) ∧ Sep h3 h' [ownSl si_Lint eInt s A]) G.length
    ⟨0, _, rfl, by omega, by omega, by simp, fun i hi h => by omega, S⟩ ?_
  clear S
  rintro m _ t h5 ⟨j, A, rfl, hj, rfl, hA, hall, S⟩
  have hsl := S.rd.lenEq
  refine ifB_intro (fun hc => ?_) (fun hc => ?_)
  · have hjl : j < A.length := by rw [hsl] at hc; simpa using hc
    refine idx_rdN S.rd rfl hjl fun p hat _ => ?_
    refine st_flat S (x := (-1 : Int)) (own_int (-1)) hat rfl hjl fun h3 S3 => ?_
    refine ar_i64 (by omega) (by omega) ⟨G.length - (j + 1), by omega, j + 1, _, rfl, by omega, rfl, by simpa using hA, fun i hi hlt => ?_, S3⟩
    rw [List.getElem_set]
    split
    · rfl
    · exact hall i (by simpa using hi) (by omega)
  have hjl : G.length ≤ j := by rw [hsl] at hc; have := of_decide_eq_false hc; omega
  refine ifB_intro (fun hz => ?_) (fun hz => ?_)
  · have ho : (orderOf G).length = 0 := by
      have : (r.len : Int) = 0 := by simpa using hz
      omega
    have hG : G.length = 0 := by
      rcases Nat.eq_zero_or_pos G.length with h | h
      · exact h
      · obtain ⟨_, eo, _⟩ := search_says h
        rw [eo] at ho; simp at ho
    refine ⟨s, rfl, (S.since o3).cast ?_⟩
    congr 2
    exact List.ext_getElem (by rw [hA, nearF_len]) fun k h1 h2 => by omega
  have hopos : 0 < (orderOf G).length := by
    have : (r.len : Int) ≠ 0 := by simpa using hz
    omega
  have hG : 0 < G.length := by obtain ⟨x, _, hx⟩ := order_in hopos; omega
  have hrch0 : Rch G 0 := .zero hG
  have rk0 : rkOf G 0 = 0 := by
    obtain ⟨x, h1, _, _, h4, _⟩ := order_says hG 0 hopos
    have := h4 rfl
    subst this
    exact (rk_at hopos h1).2
  have hA0 : 0 < A.length := by omega
  refine idx_rdN S.rd rfl hA0 fun p hat _ => ?_
  refine st_flat S (x := (0 : Int)) (own_int 0) hat rfl hA0 fun h7 S7 => ?_
  clear S
  have hNL0 : NL G (fun p => p = 0) (fun _ => 0) (A.set 0 0) := by
    refine ⟨by simpa using hA, fun k hk => ?_⟩
    rw [List.length_set] at hk
    rw [List.getElem_set]
    by_cases e : 0 = k
    · subst e
      simp only [if_true]
      refine ⟨fun _ _ => rfl, fun h => ?_⟩
      rcases h with h | h
      · exact absurd hrch0 h
      · exact absurd trivial h
    · rw [if_neg e]
      exact ⟨fun _ h => absurd h.symm e, fun _ => hall k hk (by omega)⟩
  refine loop_intro (fun m (ch : Bool) h' => ∃ (cur : List Int) (N : Nat → Nat), Sep h3 h' [ownSl si_Lint eInt s cur] ∧
      ((ch = true ∧ m = ((List.range G.length).map (rkOf G)).sum + 2 ∧ NL G (fun p => p = 0) N cur) ∨
       (Pl.Good G (rkOf G) N ∧ NL G tt N cur ∧ ((ch = true ∧ m = WN G (rkOf G) N + 1) ∨ (ch = false ∧ m = 0 ∧ Rd G (rkOf G) tt N N))))) (((List.range G.length).map (rkOf G)).sum + 2)
    ⟨A.set 0 0, fun _ => 0, S7, .inl ⟨rfl, rfl, hNL0⟩⟩ ?_
  clear S7 hNL0 hall hsl
  rintro m _ ch h8 ⟨cur, N, S, hcase⟩
  refine ifB_intro (fun hc => ?_) (fun hc => ?_)
  case refine_2 =>
    subst hc
    rcases hcase with ⟨h, _⟩ | ⟨good, hNL, ⟨h, _⟩ | ⟨_, _, hfix⟩⟩
    · cases h
    · cases h
    · have hc0 : 0 < cur.length := by rw [hNL.1]; exact hG
      refine idx_rdN S.rd rfl hc0 fun p hat _ => ?_
      refine st_flat S (x := (-1 : Int)) (own_int (-1)) hat rfl hc0 fun h16 S16 => ?_
      refine ⟨s, rfl, (S16.since o3).cast ?_⟩
      congr 2
      refine near_eq (by rw [List.length_set]; exact hNL.1) fun k hk => ?_
      rw [List.length_set] at hk
      rw [List.getElem_set]
      by_cases e : 0 = k
      · subst e; rw [if_pos rfl]; exact near_none (.inr rfl)
      · rw [if_neg e]
        by_cases hr : Rch G k
        · rw [(hNL.2 k hk).1 hr trivial]
          exact fix_near R good.tn hfix good.dom hr (fun h => e h.symm)
        · rw [(hNL.2 k hk).2 (.inl hr)]
          exact near_none (.inl hr)
  subst hc
  obtain ⟨pr, N0, hp0, t0, hNL, fin⟩ : ∃ (pr : Nat → Prop) (N0 : Nat → Nat), pr 0 ∧ TN G (rkOf G) pr N0 ∧ NL G pr N0 cur ∧
      ∀ (M : Nat → Nat) (cur' : List Int) (ch' : Bool) (h'' : Heap), TN G (rkOf G) tt M → Rd G (rkOf G) pr N0 M → NL G tt M cur' → Sep h3 h'' [ownSl si_Lint eInt s cur'] →
        (ch' = false → ∀ k, Rch G k → k ≠ 0 → M k = N0 k ∧ pr k) → (ch' = true → ∃ k, Rch G k ∧ k ≠ 0 ∧ (M k ≠ N0 k ∨ ¬ pr k)) →
        ∃ m', m' < m ∧ ∃ (cur : List Int) (N : Nat → Nat), Sep h3 h'' [ownSl si_Lint eInt s cur] ∧
          ((ch' = true ∧ m' = ((List.range G.length).map (rkOf G)).sum + 2 ∧ NL G (fun p => p = 0) N cur) ∨
           (Pl.Good G (rkOf G) N ∧ NL G tt N cur ∧ ((ch' = true ∧ m' = WN G (rkOf G) N + 1) ∨ (ch' = false ∧ m' = 0 ∧ Rd G (rkOf G) tt N N)))) := by
    rcases hcase with ⟨_, rfl, hNL⟩ | ⟨good, hNL, ⟨_, rfl⟩ | ⟨h, _⟩⟩
    · refine ⟨fun p => p = 0, N, rfl, fun k _ h1 h2 => absurd h1 h2, hNL, fun M cur' ch' h'' t' rd' hN' S' h1 h2 => ?_⟩
      have g' : Pl.Good G (rkOf G) M := Pl.Good.first (fun p h => h) R t' rd'
      cases ch' with
      | true =>
        have := WN_le t'
        exact ⟨_, by omega, cur', M, S', .inr ⟨g', hN', .inl ⟨rfl, rfl⟩⟩⟩
      | false =>
        refine ⟨0, by omega, cur', M, S', .inr ⟨g', hN', .inr ⟨rfl, rfl, rd'.self (fun k hk h0 => (h1 rfl k hk h0).1) (fun k hk => ?_) t'⟩⟩⟩
        by_cases e : k = 0
        · exact e
        · exact (h1 rfl k hk e).2
    · refine ⟨tt, N, trivial, good.tn, hNL, fun M cur' ch' h'' t' rd' hN' S' h1 h2 => ?_⟩
      have g' : Pl.Good G (rkOf G) M := good.next R t' rd'
      cases ch' with
      | true =>
        obtain ⟨k, hk, h0, hor⟩ := h2 rfl
        have := WN_less R good t' rd' ⟨k, hk, h0, hor.resolve_right fun h => h trivial⟩
        exact ⟨_, by omega, cur', M, S', .inr ⟨g', hN', .inl ⟨rfl, rfl⟩⟩⟩
      | false => exact ⟨0, by omega, cur', M, S', .inr ⟨g', hN', .inr ⟨rfl, rfl, rd'.self (fun k hk h0 => (h1 rfl k hk h0).1) (fun _ _ => trivial) t'⟩⟩⟩
    · cases h
  clear hcase
  have one : ∀ p, Rch G p → rkOf G p < 1 → p = 0 := fun p hp h => by
    by_cases e : p = 0
    · exact e
    · have := R.least p hp e; omega
  refine slc_from hr (k := 1) rfl hopos fun s1 hs1 => ?_
  have hs1l := hs1.lenEq
  rw [List.length_drop] at hs1l
  refine loop_intro (fun m (q : Bool × Int) h' => ∃ (j : Nat) (M : Nat → Nat) (cur : List Int), q.2 = j ∧ j + 1 ≤ (orderOf G).length ∧ m = (orderOf G).length - (j + 1) ∧ RS G (rkOf G) pr N0 (j + 1) M ∧ NL G (fun p => rkOf G p < j + 1 ∨ pr p) M cur ∧
      (q.1 = false → ∀ k, Rch G k → k ≠ 0 → rkOf G k < j + 1 → M k = N0 k ∧ pr k) ∧ (q.1 = true → ∃ k, Rch G k ∧ k ≠ 0 ∧ (M k ≠ N0 k ∨ ¬ pr k) ∧ rkOf G k < j + 1) ∧ Sep h3 h' [ownSl si_Lint eInt s cur]) ((orderOf G).length - 1)
    ⟨0, N0, cur, rfl, by omega, by omega, RS.start t0 R hp0 one, hNL.congr fun k hk => ⟨.inr, fun h => h.elim (fun h => by rw [one k hk h]; exact hp0) id⟩, fun _ k hk h0 h => absurd (one k hk h) h0, (fun h => by cases h), S⟩ ?_
  clear S hNL cur
  rintro _ _ ⟨ch, j⟩ h9 ⟨j, M, cur, hj0, hjo, rfl, rs, hNL, hfl, htr, S⟩
  simp only at hj0 hfl htr ⊢
  subst hj0
  refine ifB_intro (fun hc => ?_) (fun hc => ?_)
  case refine_2 =>
    have hjl : (orderOf G).length ≤ j + 1 := by rw [hs1l] at hc; have := of_decide_eq_false hc; omega
    have all : ∀ p, Rch G p → rkOf G p < j + 1 := fun p hp => by obtain ⟨h, _⟩ := rk_spec hp; omega
    obtain ⟨t', rd'⟩ := rs.done all
    exact fin M cur ch h9 t' rd' (hNL.congr fun k hk => ⟨fun _ => trivial, fun _ => .inl (all k hk)⟩) S (fun h k hk h0 => hfl h k hk h0 (all k hk)) (fun h => by
      obtain ⟨k, a, b, c, _⟩ := htr h
      exact ⟨k, a, b, c⟩)
  have hjl : j < (orderOf G).length - 1 := by rw [hs1l] at hc; have := of_decide_eq_true hc; omega
  intro k1 hk1
  have hjd : j < ((orderOf G).drop 1).length := by rw [List.length_drop]; exact hjl
  refine idx_rdN hs1 rfl hjd fun p2 _ hp2 => ld_oneB hp2 S.old ?_
  obtain ⟨k, hk0, hkn⟩ := order_in (G := G) (i := 1 + j) (by omega)
  have hkv : ((orderOf G).drop 1)[j] = (k : Int) := by rw [List.getElem_drop]; exact hk0
  obtain ⟨hkr, hkrk⟩ := rk_at (by omega) hk0
  have hkne : k ≠ 0 := fun e => by subst e; omega
  rw [hkv]
  clear hkv hk0
  have hkp : k < (predsOf G).length := by rw [predsOf_len]; exact hkn
  refine idx_rdN hr2 rfl hkp fun p3 _ hp3 => ld_slB hp3 S.old fun x1 hx1 => ?_
  rw [preds_row hkp] at hx1
  have hx1l := hx1.lenEq
  rw [List.length_map] at hx1l
  have hpl := prs_len (G := G) (k := k)
  have hrkl := rankL_len G
  have hcl := hNL.1
  refine loop_intro (fun m (q : Int × Int) h' => ∃ i : Nat, q.2 = i ∧ i ≤ (prs G k).length ∧ m = (prs G k).length - i ∧ h9 = h' ∧ ((q.1 = -1 ∧ ∀ p ∈ (prs G k).take i, ¬ (Rch G p ∧ (rkOf G p < j + 1 ∨ pr p))) ∨
      ∃ b : Nat, q.1 = b ∧ Rch G b ∧ (rkOf G b < j + 1 ∨ pr b) ∧ ∀ x, Anc M x b ↔ ∀ p ∈ (prs G k).take i, Rch G p → (rkOf G p < j + 1 ∨ pr p) → Anc M x p)) (prs G k).length
    ⟨0, rfl, by omega, by omega, rfl, .inl ⟨rfl, by simp⟩⟩ ?_
  rintro _ _ ⟨best, i⟩ _ ⟨i, hi0, hil, rfl, rfl, hbest⟩
  simp only at hi0 hbest ⊢
  subst hi0
  refine ifB_intro (fun hc => ?_) (fun hc => ?_)
  · have hip : i < (prs G k).length := by rw [hx1l] at hc; simpa using hc
    have him : i < ((prs G k).map fun (p : Nat) => (p : Int)).length := by simpa using hip
    intro k2 hk2
    refine idx_rdN hx1 rfl him fun p4 _ hp4 => ld_oneB hp4 S.old ?_
    rw [List.getElem_map]
    have htk : (prs G k).take (i + 1) = (prs G k).take i ++ [(prs G k)[i]] := List.take_succ_eq_append_getElem hip
    generalize hpe : (prs G k)[i] = p at htk
    have hpm := mem_prs.1 (show p ∈ prs G k by rw [← hpe]; exact List.getElem_mem hip)
    have hpr1 : p < (rankL G).length := by omega
    have hpc : p < cur.length := by omega
    have go : ∀ best' : Int, ((best' = -1 ∧ ∀ p ∈ (prs G k).take (i + 1), ¬ (Rch G p ∧ (rkOf G p < j + 1 ∨ pr p))) ∨
        ∃ b : Nat, best' = b ∧ Rch G b ∧ (rkOf G b < j + 1 ∨ pr b) ∧ ∀ x, Anc M x b ↔ ∀ p ∈ (prs G k).take (i + 1), Rch G p → (rkOf G p < j + 1 ∨ pr p) → Anc M x p) → k2 best' h9 := fun best' hb =>
      hk2 _ _ fun _ => ar_i64 (by omega) (by omega) ⟨(prs G k).length - (i + 1), by omega, i + 1, rfl, by omega, rfl, rfl, hb⟩
    have skip : ¬ (Rch G p ∧ (rkOf G p < j + 1 ∨ pr p)) → k2 best h9 := fun hno => go best (by
      rw [htk]
      rcases hbest with ⟨rfl, h⟩ | ⟨b, rfl, hb1, hb2, hb3⟩
      · refine .inl ⟨rfl, fun q hq => ?_⟩
        rcases List.mem_append.1 hq with hq | hq
        · exact h q hq
        · rw [List.mem_singleton.1 hq]; exact hno
      · refine .inr ⟨b, rfl, hb1, hb2, fun x => ?_⟩
        rw [hb3]
        refine ⟨fun h q hq h1 h2 => ?_, fun h q hq => h q (List.mem_append.2 (.inl hq))⟩
        rcases List.mem_append.1 hq with hq | hq
        · exact h q hq h1 h2
        · rw [List.mem_singleton.1 hq] at h1 h2; exact absurd ⟨h1, h2⟩ hno)
    intro k3 hk3
    refine idx_rdN hr1 rfl hpr1 fun p5 _ hp5 => ld_oneB hp5 S.old ?_
    by_cases hpr : Rch G p
    · rw [rankL_at hpr1 hpr]
      refine ifB_false (decide_eq_false (by omega)) ?_
      refine idx_rdN S.rd rfl hpc fun p6 _ hp6 => ld_one hp6 ?_
      by_cases hpp : rkOf G p < j + 1 ∨ pr p
      · rw [(hNL.2 p hpc).1 hpr hpp]
        rw [decide_eq_false (show ¬ (((M p : Nat) : Int) < 0) by omega)]
        refine hk3 _ _ fun _ => ifB_false rfl ?_
        rcases hbest with ⟨rfl, h⟩ | ⟨b, rfl, hb1, hb2, hb3⟩
        · refine ifB_true rfl (go _ (.inr ⟨p, rfl, hpr, hpp, fun x => ?_⟩))
          rw [htk]
          refine ⟨fun hx q hq h1 h2 => ?_, fun hx => hx p (by simp) hpr hpp⟩
          rcases List.mem_append.1 hq with hq | hq
          · exact absurd ⟨h1, h2⟩ (h q hq)
          · rw [List.mem_singleton.1 hq]; exact hx
        · refine ifB_false (decide_eq_false (by omega)) ?_
          refine (meet_calls (S.rd) (hr1.old S.old) hNL rs.tn hpr hb1 hpp hb2).mono ?_
          rintro v _ ⟨rfl, c, rfl, hc1, hc2, hc3⟩
          refine ⟨_, rfl, go _ (.inr ⟨c, rfl, hc1, hc2, fun x => ?_⟩)⟩
          rw [hc3, hb3, htk]
          refine ⟨fun ⟨h1, h2⟩ q hq h3 h4 => ?_, fun h => ⟨h p (by simp) hpr hpp, fun q hq => h q (List.mem_append.2 (.inl hq))⟩⟩
          rcases List.mem_append.1 hq with hq | hq
          · exact h2 q hq h3 h4
          · rw [List.mem_singleton.1 hq]; exact h1
      · rw [(hNL.2 p hpc).2 (.inr hpp)]
        exact hk3 _ _ fun _ => ifB_true (by decide) (skip fun h => hpp h.2)
    · rw [rankL_no hpr1 hpr]
      exact ifB_true (by decide) (hk3 _ _ fun _ => ifB_true rfl (skip fun h => hpr h.1))
  have hip : (prs G k).length ≤ i := by rw [hx1l] at hc; have := of_decide_eq_false hc; omega
  rw [List.take_of_length_le hip] at hbest
  obtain ⟨q, hq, hql, hqr⟩ := R.pred k hkr hkne
  obtain ⟨b, rfl, hb1, hb2, hb3⟩ := hbest.resolve_left fun h => h.2 q (mem_prs.2 ⟨hq.lt, hql⟩) ⟨hq, .inl (by omega)⟩
  clear hbest
  have hB : ∀ x, Anc M x b ↔ ∀ p, Rch G p → leadsB G p (k : Int) = true → (rkOf G p < j + 1 ∨ pr p) → Anc M x p := fun x => by
    rw [hb3]
    exact ⟨fun h p h1 h2 h3 => h p (mem_prs.2 ⟨h1.lt, h2⟩) h1 h3, fun h p h1 h2 h3 => h p h2 (mem_prs.1 h1).2 h3⟩
  have hkj : rkOf G k = j + 1 := by omega
  have rs' := rs.step R hkr hkne hkj hb1 hB
  have hkc : k < cur.length := by omega
  have hNL' := (hNL.put (b := b) hkr).congr (pr' := fun p => rkOf G p < j + 1 + 1 ∨ pr p) fun p hp => by
    constructor
    · rintro (rfl | h | h)
      · exact .inl (by omega)
      · exact .inl (by omega)
      · exact .inr h
    · rintro (h | h)
      · rcases Nat.lt_or_ge (rkOf G p) (j + 1) with h' | h'
        · exact .inr (.inl h')
        · exact .inl (R.inj p k hp hkr (by omega))
      · exact .inr (.inr h)
  have old : ∀ p, rkOf G p < j + 1 → putF M k b p = M p := fun p hp => if_neg fun e => by subst e; omega
  have pk : putF M k b k = b := if_pos rfl
  have same := rs.same k (by omega)
  have hm1 : (orderOf G).length - (j + 1 + 1) < (orderOf G).length - (j + 1) := by omega
  have hm2 : j + 1 + 1 ≤ (orderOf G).length := by omega
  have next : ∀ (ch' : Bool) (h' : Heap), (ch' = false → ∀ z, Rch G z → z ≠ 0 → rkOf G z < j + 1 + 1 → putF M k b z = N0 z ∧ pr z) → (ch' = true → ∃ z, Rch G z ∧ z ≠ 0 ∧ (putF M k b z ≠ N0 z ∨ ¬ pr z) ∧ rkOf G z < j + 1 + 1) →
      Sep h3 h' [ownSl si_Lint eInt s (cur.set k (b : Int))] → k1 ch' h' := fun ch' h' e1 e2 S' =>
    hk1 _ _ fun _ => ar_i64 (by omega) (by omega) ⟨(orderOf G).length - (j + 1 + 1), hm1, j + 1, putF M k b, _, rfl, hm2, rfl, rs', hNL', e1, e2, S'⟩
  refine idx_rdN S.rd rfl hkc fun p7 _ hp7 => ld_one hp7 ?_
  refine ifB_intro (fun hne => ?_) (fun heq => ?_)
  · refine idx_rdN S.rd rfl hkc fun p8 hat8 _ => ?_
    refine st_flat S (x := (b : Int)) (own_int _) hat8 rfl hkc fun h15 S15 => ?_
    refine next true h15 (fun h => by cases h) (fun _ => ⟨k, hkr, hkne, ?_, by omega⟩) S15
    rw [pk]
    by_cases hpk : pr k
    · left
      rw [(hNL.2 k hkc).1 hkr (.inr hpk), same] at hne
      intro e
      rw [e] at hne
      simp at hne
    · exact .inr hpk
  · have hcur : cur[k] = (b : Int) := by
      have : (b : Int) = cur[k] := by simpa using heq
      exact this.symm
    have hpk : pr k := by
      by_cases h : pr k
      · exact h
      · have := (hNL.2 k hkc).2 (.inr fun h' => h'.elim (fun h' => by omega) h)
        rw [hcur] at this
        omega
    have hMk : M k = b := by
      have := (hNL.2 k hkc).1 hkr (.inr hpk)
      rw [hcur] at this
      omega
    refine next ch h9 (fun h z hz hz0 hzr => ?_) (fun h => ?_) (S.cast (by rw [← hcur, List.set_getElem_self]))
    · by_cases e : z = k
      · subst e; rw [pk, ← hMk]; exact ⟨same, hpk⟩
      · have hzr' : rkOf G z < j + 1 := by
          rcases Nat.lt_or_ge (rkOf G z) (j + 1) with h' | h'
          · exact h'
          · exact absurd (R.inj z k hz hkr (by omega)) e
        rw [old z hzr']
        exact hfl h z hz hz0 hzr'
    · obtain ⟨z, z1, z2, z3, z4⟩ := htr h
      exact ⟨z, z1, z2, by rw [old z z4]; exact z3, by omega⟩

end Go.Proofs.Ytniflhbfnkadhaa
