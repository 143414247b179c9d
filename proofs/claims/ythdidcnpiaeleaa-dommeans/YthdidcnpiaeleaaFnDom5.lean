/-
  dom.Dominates, the document's Frontier.
-/
import Derived.Test.YthdidcnpiaeleaaFnDom4
namespace Go.Proofs.Ythdidcnpiaeleaa
open Go.Fw Go.Pl

theorem order_len (G : Graph) : (orderOf G).length ≤ G.length := by
  unfold orderOf search
  rw [List.length_reverse]
  split
  · simp
  · rename_i h
    have hG : 0 < G.length := List.length_pos_iff.2 h
    have := dn_sum G G.length 0 (List.replicate G.length false) [] (by simp) (by simpa using hG) (by simp [List.getD_eq_getElem?_getD, List.getElem?_replicate, hG])
    have h2 : open' (List.replicate G.length false) = G.length := by unfold open'; simp
    simp only [List.length_nil] at this
    omega

/-- Dominates, said of a graph. -/
def DomI (G : Graph) (a b : Int) : Prop := ∃ x y : Nat, a = x ∧ b = y ∧ x < G.length ∧ y < G.length ∧ (x = y ∨ Dm G x y)

theorem dominates_calls {h : Heap} {near : Sl} {G : Graph} (hN : rdSl eInt h near (nearF G)) (hn : G.length ≤ 1000) (a b : Int) :
    ACalls Try.prog F_dom_Dominates [near.v, .int .i64 a, .int .i64 b] h (fun v h' => h' = h ∧ ∃ r, v = .bool r ∧ (r = true ↔ DomI G a b)) := by
  refine dom_Dominates_of ?_
  unfold dom_Dominates
  have hl := hN.lenEq
  rw [nearF_len] at hl
  have R := rk_ok G
  intro k hk
  have bad : (a < 0 ∨ a ≥ G.length ∨ b < 0 ∨ b ≥ G.length) → k true h := fun hb => hk _ _ fun _ => ifB_true rfl ⟨rfl, false, rfl, (fun h => by cases h), by
    rintro ⟨x, y, rfl, rfl, hx, hy, _⟩; omega⟩
  refine ifB_intro (fun h1 => bad (.inl (of_decide_eq_true h1))) (fun h1 => ?_)
  refine ifB_intro (fun h2 => bad (.inr (.inl (by rw [← hl]; exact of_decide_eq_true h2)))) (fun h2 => ?_)
  refine ifB_intro (fun h3 => bad (.inr (.inr (.inl (of_decide_eq_true h3))))) (fun h3 => ?_)
  cases h4 : decide (b ≥ (near.len : Int)) with
  | true => exact bad (.inr (.inr (.inr (by rw [← hl]; exact of_decide_eq_true h4))))
  | false =>
    have h1 := of_decide_eq_false h1
    have h2 := of_decide_eq_false h2
    have h3 := of_decide_eq_false h3
    have h4 := of_decide_eq_false h4
    clear bad
    refine hk _ _ fun _ => ifB_false rfl ?_
    clear hk k
    obtain ⟨x, rfl⟩ := Int.eq_ofNat_of_zero_le (a := a) (by omega)
    obtain ⟨y, rfl⟩ := Int.eq_ofNat_of_zero_le (a := b) (by omega)
    have hx : x < G.length := by omega
    have hy : y < G.length := by omega
    have ol := order_len G
    have key : DomI G (x : Int) (y : Int) ↔ (x = y ∨ Dm G x y) := ⟨fun ⟨x', y', e1, e2, _, _, h⟩ => by
      have : x' = x := by omega
      have : y' = y := by omega
      subst x' y'; exact h, fun h => ⟨x, y, rfl, rfl, hx, hy, h⟩⟩
    refine loop_intro (fun m (q : Int × Int) h' => ∃ c : Nat, q.2 = c ∧ m = 2 * G.length - c ∧ c ≤ G.length ∧ h = h' ∧ ((q.1 = -1 ∧ ¬ (x = y ∨ Dm G x y)) ∨ ∃ u : Nat, q.1 = u ∧ u < G.length ∧ ((x = y ∨ Dm G x y) ↔ (x = u ∨ Dm G x u)) ∧ (c = 0 ∨ (Rch G u ∧ c + rkOf G u < G.length)))) (2 * G.length)
      ⟨0, rfl, by omega, by omega, rfl, .inr ⟨y, rfl, hy, Iff.rfl, .inl rfl⟩⟩ ?_
    rintro _ _ ⟨v, c⟩ _ ⟨c, hc0, rfl, hcn, rfl, hv⟩
    simp only at hc0 hv ⊢
    subst hc0
    intro k hk
    have out : ¬ (x = y ∨ Dm G x y) → k false h := fun hno => hk _ _ fun _ => ifB_false rfl ⟨rfl, false, rfl, (fun h => by cases h), fun h => absurd (key.1 h) hno⟩
    rcases hv with ⟨rfl, hno⟩ | ⟨u, rfl, hun, hiff, hor⟩
    · refine ifB_true (decide_eq_true (by omega)) (ifB_false (decide_eq_false (by omega)) (out hno))
    · clear out
      have hcu : c < G.length := by
        rcases hor with h | h
        · omega
        · omega
      refine ifB_true (decide_eq_true (by omega)) (ifB_true (decide_eq_true (by omega)) ?_)
      rw [decide_eq_true (show (u : Int) < (near.len : Int) by omega)]
      refine hk _ _ fun _ => ifB_true rfl ?_
      refine ifB_intro (fun he => ?_) (fun he => ?_)
      · have hxu : x = u := by
          have : (x : Int) = u := by simpa using he
          omega
        exact ⟨rfl, true, rfl, fun _ => key.2 (hiff.2 (.inl hxu)), fun _ => rfl⟩
      · have hxu : x ≠ u := fun e => by subst e; simp at he
        have hul : u < (nearF G).length := by rw [nearF_len]; exact hun
        refine idx_rdN hN rfl hul fun p _ hp => ld_one hp ?_
        have hnr := nearF_at hul
        refine ar_i64 (by omega) (by omega) ⟨2 * G.length - (c + 1), by omega, c + 1, rfl, rfl, by omega, rfl, ?_⟩
        rcases hnr with ⟨e, hnone⟩ | ⟨d, e, hd1, hd2, hd3⟩
        · refine .inl ⟨e, fun h => ?_⟩
          rcases hiff.1 h with h | h
          · exact hxu h
          · exact hxu (hnone x h)
        · refine .inr ⟨d, e, hd1.1.lt, ?_, .inr ⟨hd1.1, ?_⟩⟩
          · rw [hiff]
            constructor
            · rintro (h | h)
              · exact absurd h hxu
              · exact .inr (hd3 x h hxu)
            · rintro (h | h)
              · subst h; exact .inr hd1
              · exact .inr (h.trans hd1)
          · have := dom_lt R hd1 hd2
            have hur := hd1.2.1
            obtain ⟨hb, _⟩ := rk_spec hur
            rcases hor with h | h
            · omega
            · omega

theorem frontF_len (G : Graph) : (frontF G).length = G.length := by simp [frontF]
theorem refFrontier_calls {h : Heap} {g : Sl} {G : Graph} (hg : rdSl eInts h g G) (hn : G.length ≤ 1000) (hrow : ∀ r ∈ G, r.length ≤ 1000) :
    ACalls Try.prog F_lateenref10_Frontier [g.v] h (fun v h' => ∃ s : Sl, v = s.v ∧ Sep h h' [ownSl si_LLint eInts s (frontF G)]) := by
  refine lateenref10_Frontier_of ?_
  have hl := hg.lenEq
  unfold lateenref10_Frontier
  refine (refAll_calls hg hn hrow).mono ?_
  rintro v h1 ⟨r, rfl, T1⟩
  refine ⟨r, rfl, ?_⟩
  refine (refCome_calls (hg.old T1.old) hn).mono ?_
  rintro v h2 ⟨r1, rfl, T2⟩
  refine ⟨r1, rfl, ?_⟩
  have hr1 := T2.rd
  have hr := (T1.grow T2.old).rd
  have o2 := T1.old.trans T2.old
  have hfl := frontF_len G
  have hcl := come_len G
  refine loop_intro (fun m (t : Sl × Int) h' => ∃ a : Nat, t.2 = a ∧ a ≤ G.length ∧ m = G.length - a ∧ Sep h2 h' [ownSl si_LLint eInts t.1 ((frontF G).take a)]) G.length ⟨0, rfl, by omega, by omega, (Sep.start h2).nil rfl⟩ ?_
  rintro _ _ ⟨out, a⟩ h3 ⟨a, ha0, ha, rfl, S⟩
  simp only at ha0 S ⊢
  subst ha0
  refine ifB_intro (fun hc => ?_) (fun hc => ?_)
  · have hal : a < G.length := by simpa [hl] using hc
    refine loop_intro (fun m (t : Sl × Int) h' => ∃ k : Nat, t.2 = k ∧ k ≤ G.length ∧ m = G.length - k ∧ Sep h2 h' [ownSl si_Lint eInt t.1 (((List.range k).filter fun k => frontB G a k).map fun (k : Nat) => (k : Int)), ownSl si_LLint eInts out ((frontF G).take a)]) G.length
      ⟨0, rfl, by omega, by omega, S.nil rfl⟩ ?_
    clear S
    rintro _ _ ⟨l, k⟩ h4 ⟨k, hk0, hk, rfl, S⟩
    simp only at hk0 S ⊢
    subst hk0
    refine ifB_intro (fun hc => ?_) (fun hc => ?_)
    · have hkl : k < G.length := by simpa [hl] using hc
      have hle := range_filter_len (fun k => frontB G a k) k
      intro k1 hk1
      have fin : ∀ (l' : Sl) (h' : Heap), Sep h2 h' [ownSl si_Lint eInt l' (((List.range (k + 1)).filter fun k => frontB G a k).map fun (k : Nat) => (k : Int)), ownSl si_LLint eInts out ((frontF G).take a)] → k1 l' h' := fun l' h' S' =>
        hk1 _ _ fun _ => ar_i64 (by omega) (by omega) ⟨G.length - (k + 1), by omega, k + 1, rfl, by omega, rfl, S'⟩
      rw [range_filter_succ'] at fin
      refine loop_intro (fun m (t : Bool × Int) h' => ∃ p : Nat, t.2 = p ∧ p ≤ G.length ∧ m = G.length - p ∧ h4 = h' ∧ t.1 = (List.range p).any fun p => domB G a p && leadsB G p (k : Int)) G.length ⟨0, rfl, by omega, by omega, rfl, rfl⟩ ?_
      rintro _ _ ⟨led, p⟩ _ ⟨p, hp0, hp, rfl, rfl, hled⟩
      simp only at hp0 hled ⊢
      subst hp0 hled
      refine ifB_intro (fun hc => ?_) (fun hc => ?_)
      · have hpl : p < G.length := by simpa [hl] using hc
        intro k2 hk2
        have go : ∀ b : Bool, b = ((List.range (p + 1)).any fun p => domB G a p && leadsB G p (k : Int)) → k2 b h4 := fun b hb =>
          hk2 _ _ fun _ => ar_i64 (by omega) (by omega) ⟨G.length - (p + 1), by omega, p + 1, rfl, by omega, rfl, rfl, hb⟩
        rw [List.range_succ, List.any_append] at go
        simp only [List.any_cons, List.any_nil, Bool.or_false] at go
        refine ifB_intro (fun hl => go true (by rw [hl]; rfl)) (fun hl => ?_)
        rw [hl] at go
        simp only [Bool.false_or] at go
        refine dom_ld hr S.old hal hpl ?_
        refine ifB_intro (fun hd => ?_) (fun hd => go false (by rw [hd]; rfl))
        rw [hd] at go
        refine (leads_calls (hg.old (o2.trans S.old)) (a := p) (b := k) (by omega) (by omega)).mono ?_
        rintro v h' ⟨rfl, rfl⟩
        exact ⟨_, rfl, go _ (by simp)⟩
      · have hpl : p = G.length := by have : G.length ≤ p := by simpa [hl] using hc
                                      omega
        subst hpl
        intro k3 hk3
        have fb : frontB G a k = ((comeOf G).getD k false && (((List.range G.length).any fun p => domB G a p && leadsB G p (k : Int)) && (a == k || !domB G a k))) := rfl
        have no : frontB G a k = false → k3 false h4 := fun hno => hk3 _ _ fun _ => ifB_false rfl (fin l h4 (by rw [hno]; simpa using S))
        have yes : frontB G a k = true → k3 true h4 := fun hy => hk3 _ _ fun _ => ifB_true rfl (by
          refine app1_flat (x := (k : Int)) S (fun _ => ⟨rfl, rfl⟩) rfl (by decide) (by simp only [si_Lint]; omega) (by omega) fun s' h' S' => fin s' h' ?_
          rw [if_pos hy]
          exact S')
        have any : ∀ b, frontB G a k = b → k3 b h4 := fun b hb => by
          cases b
          · exact no hb
          · exact yes hb
        have hkc : k < (comeOf G).length := by omega
        rw [getD_lt hkc] at fb
        refine idx_rdN hr1 rfl hkc fun q _ hq => ld_oneB hq S.old ?_
        refine ifB_intro (fun h1' => ?_) (fun h1' => no (by rw [fb, h1']; rfl))
        refine ifB_intro (fun h2' => ?_) (fun h2' => no (by rw [fb, h1', h2']; rfl))
        refine ifB_intro (fun h3' => ?_) (fun h3' => ?_)
        · have : a = k := by
            have : (a : Int) = k := by simpa using h3'
            omega
          exact yes (by rw [fb, h1', h2', this]; simp)
        · have hak : ¬ a = k := fun e => by subst e; simp at h3'
          refine dom_ld hr S.old hal hkl (any _ ?_)
          rw [fb, h1', h2', show (a == k) = false by simpa using hak]; rfl
    · have hkl : k = G.length := by have : G.length ≤ k := by simpa [hl] using hc
                                    omega
      subst hkl
      refine app1_rule (S.toEl.swap) rfl (by decide) (by simp only [si_LLint, List.length_take]; omega) (by simp only [List.length_take]; omega) fun s' h' S' => ?_
      refine ar_i64 (by omega) (by omega) ⟨G.length - (a + 1), by omega, a + 1, rfl, by omega, rfl, S'.cast ?_⟩
      rw [List.take_succ_eq_append_getElem (by omega)]
      simp [frontF]
  · have hal : G.length ≤ a := by simpa [hl] using hc
    rw [List.take_of_length_le (by omega)] at S
    exact ⟨out, rfl, S.since o2⟩

end Go.Proofs.Ythdidcnpiaeleaa
