/-
  dom.Frontier.
-/
import Derived.Test.YthdidcnpiaeleaaFnDom5
namespace Go.Proofs.Ythdidcnpiaeleaa
open Go.Fw Go.Pl

open Classical in
/-- Rows under way: of the first points, and of the next one for some. -/
noncomputable def frT (G : Graph) (k : Nat) (S : Nat → Prop) : Graph := (List.range G.length).map fun a => (((List.range k).filter fun k => frontB G a k).map fun (k : Nat) => (k : Int)) ++ if S a then [(k : Int)] else []
theorem frT_len (G : Graph) (k : Nat) (S : Nat → Prop) : (frT G k S).length = G.length := by simp [frT]
open Classical in
theorem frT_at {G : Graph} {k : Nat} {S : Nat → Prop} {i : Nat} (hi : i < (frT G k S).length) : (frT G k S)[i] = (((List.range k).filter fun k => frontB G i k).map fun (k : Nat) => (k : Int)) ++ if S i then [(k : Int)] else [] := by simp [frT]
theorem frT_congr {G : Graph} {k : Nat} {S S' : Nat → Prop} (h : ∀ a, a < G.length → (S a ↔ S' a)) : frT G k S = frT G k S' := by
  refine List.ext_getElem (by rw [frT_len, frT_len]) fun i h1 h2 => ?_
  rw [frT_at, frT_at]
  rw [frT_len] at h1
  congr 1
  by_cases hs : S i
  · rw [if_pos hs, if_pos ((h i h1).1 hs)]
  · rw [if_neg hs, if_neg fun h' => hs ((h i h1).2 h')]
theorem frT_next {G : Graph} {k : Nat} {S : Nat → Prop} (h : ∀ a, a < G.length → (S a ↔ frontB G a k = true)) : frT G k S = frT G (k + 1) fun _ => False := by
  refine List.ext_getElem (by rw [frT_len, frT_len]) fun i h1 h2 => ?_
  rw [frT_at, frT_at, range_filter_succ']
  rw [frT_len] at h1
  by_cases hs : S i
  · rw [if_pos hs, if_pos ((h i h1).1 hs)]; simp
  · rw [if_neg hs, if_neg fun h' => hs ((h i h1).2 h')]; simp
theorem frT_put {G : Graph} {k : Nat} {S : Nat → Prop} {u : Nat} (hu : u < (frT G k S).length) (hn : ¬ S u) : (frT G k S).set u ((frT G k S)[u] ++ [(k : Int)]) = frT G k fun a => S a ∨ a = u := by
  refine List.ext_getElem (by rw [List.length_set, frT_len, frT_len]) fun i h1 h2 => ?_
  rw [List.getElem_set]
  by_cases e : u = i
  · subst e
    rw [if_pos rfl, frT_at, frT_at, if_neg hn, if_pos (.inr rfl)]; simp
  · rw [if_neg e, frT_at, frT_at]
    by_cases hs : S i
    · rw [if_pos hs, if_pos (.inl hs)]
    · rw [if_neg hs, if_neg fun h => h.elim hs fun h => e h.symm]
theorem frT_has {G : Graph} {k : Nat} {S : Nat → Prop} {u : Nat} (hu : u < (frT G k S).length) : (frT G k S)[u].contains (k : Int) = true ↔ S u := by
  rw [frT_at, List.contains_eq_mem, decide_eq_true_eq, List.mem_append]
  constructor
  · rintro (h | h)
    · obtain ⟨z, hz, e⟩ := List.mem_map.1 h
      have := List.mem_range.1 (List.mem_filter.1 hz).1
      omega
    · by_cases hs : S u
      · exact hs
      · rw [if_neg hs] at h; cases h
  · intro hs; right; rw [if_pos hs]; simp
theorem frT_row {G : Graph} {k : Nat} {S : Nat → Prop} {u : Nat} (hu : u < (frT G k S).length) : (frT G k S)[u].length ≤ k + 1 := by
  rw [frT_at, List.length_append]
  have := range_filter_len (fun k => frontB G u k) k
  split <;> simp at this ⊢ <;> omega

/-- In front of which points a step leads out. -/
def Cd (G : Graph) (p k a : Nat) : Prop := Dm G a p ∧ ¬ (Dm G a k ∧ a ≠ k)
theorem frontB_iff {G : Graph} {a k : Nat} (hk : Rch G k) : frontB G a k = true ↔ ∃ p ∈ prs G k, Rch G p ∧ Cd G p k a := by
  have hkn := hk.lt
  unfold frontB
  rw [(come_reach (by omega) k).2 hk, Bool.true_and, Bool.and_eq_true, List.any_eq_true, Bool.or_eq_true, beq_iff_eq]
  constructor
  · rintro ⟨⟨p, hp, h⟩, h2⟩
    have hp := List.mem_range.1 hp
    rw [Bool.and_eq_true, domB_iff hp] at h
    refine ⟨p, mem_prs.2 ⟨hp, h.2⟩, h.1.2.1, h.1, fun h3 => ?_⟩
    rcases h2 with h2 | h2
    · exact h3.2 h2
    · rw [(domB_iff hkn).2 h3.1] at h2; cases h2
  · rintro ⟨p, hp, hr, h1, h2⟩
    obtain ⟨hp, hl⟩ := mem_prs.1 hp
    refine ⟨⟨p, List.mem_range.2 hp, by rw [(domB_iff hp).2 h1, hl]; rfl⟩, ?_⟩
    by_cases e : a = k
    · exact .inl e
    · right
      cases hd : domB G a k with
      | false => rfl
      | true => exact absurd ⟨(domB_iff hkn).1 hd, e⟩ h2

theorem frontier_calls {h : Heap} {g : Sl} {G : Graph} (hg : rdSl eInts h g G) (hn : G.length ≤ 1000) :
    ACalls Try.prog F_dom_Frontier [g.v] h (fun v h' => ∃ s : Sl, v = s.v ∧ Sep h h' [ownSl si_LLint eInts s (frontF G)]) := by
  refine dom_Frontier_of ?_
  unfold dom_Frontier
  have hl := hg.lenEq
  have R := rk_ok G
  refine (nearest_calls hg hn).mono ?_
  rintro v h1 ⟨r, rfl, T1⟩
  refine ⟨r, rfl, ?_⟩
  refine (come_calls (hg.old T1.old) hn).mono ?_
  rintro v h2 ⟨r1, rfl, T2⟩
  refine ⟨r1, rfl, rfl, ?_⟩
  have hr1 := T2.rd
  have hr := (T1.grow T2.old).rd
  have o2 := T1.old.trans T2.old
  have hcl := come_len G
  have hnl := nearF_len G
  refine mk_rule (x := []) (E := eInts) (Sep.start h2) rfl (fun _ => ⟨⟨none, 0, 0⟩, rfl, ownSl_nil _ _ rfl _⟩) (by omega) (by omega) (by simp only [si_LLint]; omega) fun s h3 S => ?_
  rw [hl, Int.toNat_natCast] at S
  refine (preds_calls (hg.old (o2.trans S.old)) hn).mono ?_
  rintro v h4 ⟨r2, rfl, T4⟩
  refine ⟨r2, rfl, ?_⟩
  have S4 := S.frame T4
  clear S T4
  have hpl := predsOf_len G
  have start : List.replicate G.length ([] : List Int) = frT G 0 fun _ => False := by
    refine List.ext_getElem (by rw [frT_len]; simp) fun i h1 h2 => ?_
    rw [frT_at]; simp
  rw [start] at S4
  have hr2l := S4.rd.lenEq
  refine loop_intro (fun m (t : Int) h' => ∃ k : Nat, t = k ∧ k ≤ G.length ∧ m = G.length - k ∧ Sep h2 h' [ownSl si_LLint eInts r2 (predsOf G), ownSl si_LLint eInts s (frT G k fun _ => False)]) G.length
    ⟨0, rfl, by omega, by omega, S4⟩ ?_
  clear S4
  rintro _ _ t h5 ⟨k, rfl, hk, rfl, S⟩
  refine ifB_intro (fun hc => ?_) (fun hc => ?_)
  case refine_2 =>
    have hkl : k = G.length := by rw [hr2l, hpl] at hc; have := of_decide_eq_false hc; omega
    subst hkl
    refine ⟨s, rfl, (S.drop.since o2).cast ?_⟩
    congr 2
    refine List.ext_getElem (by rw [frT_len, frontF_len]) fun i h1 h2 => ?_
    rw [frT_at]
    simp [frontF]
  have hkl : k < G.length := by rw [hr2l, hpl] at hc; have := of_decide_eq_true hc; omega
  have hkp : k < (predsOf G).length := by omega
  intro k1 hk1
  have fin : ∀ h' (A : Nat → Prop), (∀ a, a < G.length → (A a ↔ frontB G a k = true)) → Sep h2 h' [ownSl si_LLint eInts r2 (predsOf G), ownSl si_LLint eInts s (frT G k A)] → k1 () h' := fun h' A hA S' =>
    hk1 _ _ fun _ => ar_i64 (by omega) (by omega) ⟨G.length - (k + 1), by omega, k + 1, rfl, by omega, rfl, S'.cast (by rw [frT_next hA])⟩
  refine idx_rdN S.rd rfl hkp fun p hat _ => ?_
  obtain ⟨xs, hxc, S2⟩ := (Sep.raw.2 S).away (i := k) (x := (predsOf G)[k]) (by simpa using hkp) (by simp)
  obtain ⟨x, rfl, S3⟩ := S2.swap.ofEl
  clear S2
  refine ld_one (x := x) (by have := hxc p hat 0 x.v rfl; rwa [Addr.add_zero'] at this) ?_
  have hkc : k < (comeOf G).length := by omega
  refine idx_rdN hr1 rfl hkc fun p1 _ hp1 => ld_oneB hp1 S.old ?_
  have hcr := come_reach (G := G) (by omega) k
  rw [getD_lt hkc] at hcr
  refine ifB_intro (fun hnc => fin h5 (fun _ => False) (fun a ha => ?_) S) (fun hnc => ?_)
  · refine ⟨fun h => h.elim, fun h => ?_⟩
    unfold frontB at h
    rw [getD_lt hkc] at h
    have : (comeOf G)[k] = false := by simpa using hnc
    rw [this] at h
    cases h
  have hrk : Rch G k := hcr.1 (by simpa using hnc)
  clear S
  have hxl := S3.rd.lenEq
  rw [preds_row hkp] at S3
  rw [preds_row hkp, List.length_map] at hxl
  have hpsl := prs_len (G := G) (k := k)
  generalize hB : ownSl si_LLint (Elem.raw (Elem.sl si_Lint eInt)) r2 ((List.map Sum.inl (predsOf G)).set k (Sum.inr [x.v])) = B at S3
  have hback : ∀ h' A, Sep h2 h' [ownSl si_Lint eInt x ((prs G k).map fun (p : Nat) => (p : Int)), B, ownSl si_LLint eInts s (frT G k A)] → Sep h2 h' [ownSl si_LLint eInts r2 (predsOf G), ownSl si_LLint eInts s (frT G k A)] := fun h' A S' => by
    rw [← hB, ← preds_row hkp] at S'
    refine Sep.raw.1 ((S'.toEl.swap.back (i := k) (by simpa using hkp) (by simp; rfl)).cast ?_)
    congr 2
    rw [List.set_set]
    refine List.ext_getElem (by simp) fun i h1 h2 => ?_
    rw [List.getElem_set]
    by_cases e : k = i
    · subst e; simp
    · simp [e]
  have hkn : k < (nearF G).length := by omega
  have hnk := nearF_at hkn
  refine loop_intro (fun m (t : Int) h' => ∃ i : Nat, t = i ∧ i ≤ (prs G k).length ∧ m = (prs G k).length - i ∧ Sep h2 h' [ownSl si_Lint eInt x ((prs G k).map fun (p : Nat) => (p : Int)), B, ownSl si_LLint eInts s (frT G k fun a => ∃ p ∈ (prs G k).take i, Rch G p ∧ Cd G p k a)]) (prs G k).length
    ⟨0, rfl, by omega, by omega, S3.cast (by rw [frT_congr (S' := fun a => ∃ p ∈ (prs G k).take 0, Rch G p ∧ Cd G p k a) fun a _ => by simp])⟩ ?_
  clear S3
  rintro _ _ t h7 ⟨i, rfl, hi, rfl, S⟩
  refine ifB_intro (fun hc => ?_) (fun hc => ?_)
  case refine_2 =>
    have hil : (prs G k).length ≤ i := by rw [hxl] at hc; simpa using hc
    rw [List.take_of_length_le hil] at S
    exact fin h7 _ (fun a ha => (frontB_iff hrk).symm) (hback _ _ S)
  have hil : i < (prs G k).length := by rw [hxl] at hc; simpa using hc
  refine idx_rdN S.rd rfl (i := i) (by simpa using hil) fun p2 _ hp2 => ld_one hp2 ?_
  rw [List.getElem_map]
  have htk : (prs G k).take (i + 1) = (prs G k).take i ++ [(prs G k)[i]] := List.take_succ_eq_append_getElem hil
  generalize hpe : (prs G k)[i] = p at htk
  obtain ⟨hpn, hpl2⟩ := mem_prs.1 (show p ∈ prs G k by rw [← hpe]; exact List.getElem_mem hil)
  have hsucc : ∀ a, (∃ q ∈ (prs G k).take (i + 1), Rch G q ∧ Cd G q k a) ↔ (∃ q ∈ (prs G k).take i, Rch G q ∧ Cd G q k a) ∨ (Rch G p ∧ Cd G p k a) := fun a => by
    rw [htk]
    constructor
    · rintro ⟨q, hq, h⟩
      rcases List.mem_append.1 hq with hq | hq
      · exact .inl ⟨q, hq, h⟩
      · rw [List.mem_singleton.1 hq] at h; exact .inr h
    · rintro (⟨q, hq, h⟩ | h)
      · exact ⟨q, List.mem_append.2 (.inl hq), h⟩
      · exact ⟨p, by simp, h⟩
  generalize hQ : (fun a => ∃ q ∈ (prs G k).take i, Rch G q ∧ Cd G q k a) = Q at S
  have hQ' : ∀ a, (∃ q ∈ (prs G k).take i, Rch G q ∧ Cd G q k a) ↔ Q a := fun a => by rw [← hQ]
  simp only [hQ'] at hsucc
  have hi1 : (prs G k).length - (i + 1) < (prs G k).length - i := by omega
  obtain ⟨m0, hm0⟩ : ∃ m, ((Rch G p ∧ ∃ u : Nat, (p : Int) = u ∧ Dm G u p ∧ (∀ a, Dm G a k → a ≠ k → Dm G a u) ∧ (∀ a, Q a ↔ Q a ∨ (Dm G a p ∧ ¬ Dm G a u)) ∧ m = rkOf G u + 1) ∨
       (Rch G p ∧ (p : Int) = -1 ∧ (∀ a, Dm G a k → a = k) ∧ (∀ a, Q a ↔ Q a ∨ Dm G a p) ∧ m = 0) ∨ (¬ Rch G p ∧ (p : Int) = p ∧ (∀ a, Q a ↔ Q a) ∧ m = 0)) := by
    by_cases hr : Rch G p
    · exact ⟨_, .inl ⟨hr, p, rfl, .refl hr, fun a ha hne => ha.pred hne hr hpl2, fun a => ⟨.inl, fun h => h.elim id fun h => absurd h.1 h.2⟩, rfl⟩⟩
    · exact ⟨_, .inr (.inr ⟨hr, rfl, fun _ => Iff.rfl, rfl⟩)⟩
  refine loop_intro (fun m (v : Int) h' => ∃ A : Nat → Prop, Sep h2 h' [ownSl si_Lint eInt x ((prs G k).map fun (p : Nat) => (p : Int)), B, ownSl si_LLint eInts s (frT G k A)] ∧
      ((Rch G p ∧ ∃ u : Nat, v = u ∧ Dm G u p ∧ (∀ a, Dm G a k → a ≠ k → Dm G a u) ∧ (∀ a, A a ↔ Q a ∨ (Dm G a p ∧ ¬ Dm G a u)) ∧ m = rkOf G u + 1) ∨
       (Rch G p ∧ v = -1 ∧ (∀ a, Dm G a k → a = k) ∧ (∀ a, A a ↔ Q a ∨ Dm G a p) ∧ m = 0) ∨ (¬ Rch G p ∧ v = p ∧ (∀ a, A a ↔ Q a) ∧ m = 0))) m0
    ⟨Q, S, hm0⟩ ?_
  clear S hm0
  rintro m _ v h8 ⟨A, S, hcase⟩
  have hpc : p < (comeOf G).length := by omega
  have hpr := come_reach (G := G) (by omega) p
  rw [getD_lt hpc] at hpr
  intro k2 hk2
  have leave : (∀ a, A a ↔ Q a ∨ (Rch G p ∧ Cd G p k a)) → k2 false h8 := fun hA => hk2 _ _ fun _ => ifB_false rfl (ar_i64 (by omega) (by omega) ⟨(prs G k).length - (i + 1), hi1, i + 1, rfl, by omega, rfl, S.cast (by rw [frT_congr fun a _ => (hA a).trans (hsucc a).symm])⟩)
  refine idx_rdN hr1 rfl hpc fun p7 _ hp7 => ld_oneB hp7 S.old ?_
  rcases hcase with ⟨hrp, u, rfl, hup, hdk, hA, rfl⟩ | ⟨hrp, rfl, hnone, hA, rfl⟩ | ⟨hrp, rfl, hA, rfl⟩
  · rw [hpr.2 hrp]
    refine ifB_true rfl ?_
    refine idx_rdN hr rfl hkn fun p8 _ hp8 => ld_oneB hp8 S.old ?_
    refine ifB_intro (fun hne => ?_) (fun heq => leave fun a => ?_)
    case refine_2 =>
      have hnu : (nearF G)[k] = (u : Int) := by
        have : (u : Int) = (nearF G)[k] := by simpa using heq
        exact this.symm
      rw [hnu] at hnk
      rcases hnk with ⟨e, _⟩ | ⟨d, e, hd1, hd2, hd3⟩
      · omega
      · have : u = d := by omega
        subst this
        rw [hA]
        refine or_congr_right ⟨fun h => ⟨hrp, h.1, fun h3 => h.2 (hd3 a h3.1 h3.2)⟩, fun h => ⟨h.2.1, fun h3 => h.2.2 ⟨h3.trans hd1, fun e => by subst e; exact hd2 (dom_antisymm R hd1 h3)⟩⟩⟩
    rw [decide_eq_true (show (u : Int) ≥ 0 by omega)]
    have hun := hup.1.lt
    have hsu : ¬ (Dm G u k ∧ u ≠ k) := fun hs => by
      rcases hnk with ⟨e, h⟩ | ⟨d, e, hd1, hd2, hd3⟩
      · exact hs.2 (h u hs.1)
      · have := dom_antisymm R (hd3 u hs.1 hs.2) (hdk d hd1 hd2)
        subst this
        rw [e] at hne
        simp at hne
    refine hk2 _ _ fun _ => ifB_true rfl ?_
    clear leave
    have hnu : u < (nearF G).length := by omega
    have next : ∀ (h' : Heap) (A' : Nat → Prop), (∀ a, A' a ↔ A a ∨ a = u) → Sep h2 h' [ownSl si_Lint eInt x ((prs G k).map fun (p : Nat) => (p : Int)), B, ownSl si_LLint eInts s (frT G k A')] →
        idx 1 r (u : Int) fun p_3 => ld (.int .i64) h' p_3 fun (x_3 : Int) => ∃ m', m' < rkOf G u + 1 ∧ ∃ A : Nat → Prop, Sep h2 h' [ownSl si_Lint eInt x ((prs G k).map fun (p : Nat) => (p : Int)), B, ownSl si_LLint eInts s (frT G k A)] ∧
          ((Rch G p ∧ ∃ u : Nat, x_3 = u ∧ Dm G u p ∧ (∀ a, Dm G a k → a ≠ k → Dm G a u) ∧ (∀ a, A a ↔ Q a ∨ (Dm G a p ∧ ¬ Dm G a u)) ∧ m' = rkOf G u + 1) ∨
           (Rch G p ∧ x_3 = -1 ∧ (∀ a, Dm G a k → a = k) ∧ (∀ a, A a ↔ Q a ∨ Dm G a p) ∧ m' = 0) ∨ (¬ Rch G p ∧ x_3 = p ∧ (∀ a, A a ↔ Q a) ∧ m' = 0)) := fun h' A' hA' S' => by
      refine idx_rdN hr rfl hnu fun p9 _ hp9 => ld_oneB hp9 S'.old ?_
      rcases nearF_at hnu with ⟨e, hun1⟩ | ⟨d, e, hd1, hd2, hd3⟩
      · refine ⟨0, by omega, A', S', .inr (.inl ⟨hrp, e, fun a ha => ?_, fun a => ?_, rfl⟩)⟩
        · by_cases hak : a = k
          · exact hak
          · have := hun1 a (hdk a ha hak)
            subst this
            exact absurd ⟨ha, hak⟩ hsu
        · rw [hA', hA]
          constructor
          · rintro ((h | h) | h)
            · exact .inl h
            · exact .inr h.1
            · subst h; exact .inr hup
          · rintro (h | h)
            · exact .inl (.inl h)
            · by_cases hau : Dm G a u
              · exact .inr (hun1 a hau)
              · exact .inl (.inr ⟨h, hau⟩)
      · have hlt := dom_lt R hd1 hd2
        refine ⟨rkOf G d + 1, by omega, A', S', .inl ⟨hrp, d, e, hd1.trans hup, fun a ha hne' => ?_, fun a => ?_, rfl⟩⟩
        · have hau := hdk a ha hne'
          exact hd3 a hau fun e => by subst e; exact hsu ⟨ha, hne'⟩
        · rw [hA', hA]
          constructor
          · rintro ((h | h) | h)
            · exact .inl h
            · exact .inr ⟨h.1, fun h3 => h.2 (h3.trans hd1)⟩
            · subst h; exact .inr ⟨hup, fun h3 => hd2 (dom_antisymm R hd1 h3)⟩
          · rintro (h | h)
            · exact .inl (.inl h)
            · by_cases hau : a = u
              · exact .inr hau
              · exact .inl (.inr ⟨h.1, fun h3 => h.2 (hd3 a h3 hau)⟩)
    intro k3 hk3
    have S' := S.rot3
    have huf : u < (frT G k A).length := by rw [frT_len]; exact hun
    refine idx_rdN S'.rd rfl huf fun p4 _ hp4 => ld_sl hp4 fun x4 hx4 => ?_
    refine (contains_calls hx4 k).mono ?_
    rintro v h9 ⟨rfl, e9⟩
    have e9 := e9.symm
    subst e9
    refine ⟨_, rfl, ?_⟩
    have hhas := frT_has huf
    refine ifB_intro (fun hno => ?_) (fun hyes => hk3 _ _ fun _ => next h8 A (fun a => ⟨.inl, fun h => h.elim id fun h => by subst h; exact hhas.1 (by simpa using hyes)⟩) S)
    have hnot : ¬ A u := fun h => by
      rw [hhas.2 h] at hno; cases hno
    have hrl := frT_row huf
    refine app_row (v := .int .i64 k) (x := (k : Int)) S' huf (fun _ => ⟨rfl, rfl⟩) rfl (by decide) (by simp only [si_Lint]; omega) (by omega) fun h14 S14 => ?_
    rw [frT_put huf hnot] at S14
    exact hk3 _ _ fun _ => next h14 _ (fun a => Iff.rfl) (S14.perm ((List.Perm.swap _ _ _).trans ((List.Perm.swap _ _ _).cons _)))
  · rw [hpr.2 hrp]
    refine ifB_true rfl ?_
    refine idx_rdN hr rfl hkn fun p8 _ hp8 => ld_oneB hp8 S.old ?_
    have fin2 : k2 false h8 := leave fun a => by
      rw [hA]
      exact or_congr_right ⟨fun h => ⟨hrp, h, fun h3 => h3.2 (hnone a h3.1)⟩, fun h => h.2.1⟩
    refine ifB_intro (fun _ => ?_) (fun _ => fin2)
    rw [decide_eq_false (show ¬ ((-1 : Int) ≥ 0) by omega)]
    exact fin2
  · have hcp : (comeOf G)[p] = false := by
      cases e : (comeOf G)[p] with
      | false => rfl
      | true => exact absurd (hpr.1 e) hrp
    rw [hcp]
    exact ifB_false rfl (leave fun a => by rw [hA]; exact ⟨.inl, fun h => h.elim id fun h => absurd h.1 hrp⟩)

end Go.Proofs.Ythdidcnpiaeleaa
