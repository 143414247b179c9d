/-
  The document's Nearest, Kids, Frontier; dom.Kids, dom.Dominates.
-/
import Derived.Test.YthdidcnpiaeleaaFnDom3
namespace Go.Proofs.Ythdidcnpiaeleaa
open Go.Fw Go.Pl

theorem domL_at {G : Graph} {a : Nat} (ha : a < (domL G).length) : (domL G)[a] = (List.range G.length).map fun k => domB G a k := by simp [domL]
theorem domL_len (G : Graph) : (domL G).length = G.length := by simp [domL]
theorem dom_ld {h h' : Heap} {r : Sl} {G : Graph} (hr : rdSl eBools h r (domL G)) (o : Old h h') {a k : Nat} (ha : a < G.length) (hk : k < G.length) {K : Bool → Prop} (hK : K (domB G a k)) :
    idx 1 r (a : Int) fun p => ld .sl h' p fun x => idx 1 x (k : Int) fun p => ld .bool h' p K := by
  have hal : a < (domL G).length := by rw [domL_len]; exact ha
  refine idx_rdN hr rfl hal fun p _ hp => ld_slB hp o fun x hx => ?_
  rw [domL_at] at hx
  have hkl : k < ((List.range G.length).map fun k => domB G a k).length := by simpa using hk
  refine idx_rdN hx rfl hkl fun p _ hp => ld_oneB hp o ?_
  simpa using hK

theorem nearTo_lt {G : Graph} (k : Nat) : ∀ i, -1 ≤ nearTo G k i ∧ nearTo G k i < i
  | 0 => by unfold nearTo; omega
  | i + 1 => by
    have := nearTo_lt (G := G) k i
    unfold nearTo
    split <;> omega

theorem nearTo_no {G : Graph} {k i : Nat} (h : ¬ (i ≠ k ∧ domB G i k = true ∧ (nearTo G k i < 0 ∨ domB G (nearTo G k i).toNat i = true))) : nearTo G k (i + 1) = nearTo G k i := if_neg h
theorem nearTo_yes {G : Graph} {k i : Nat} (h : i ≠ k ∧ domB G i k = true ∧ (nearTo G k i < 0 ∨ domB G (nearTo G k i).toNat i = true)) : nearTo G k (i + 1) = (i : Int) := if_pos h

theorem refNearest_calls {h : Heap} {g : Sl} {G : Graph} (hg : rdSl eInts h g G) (hn : G.length ≤ 1000) (hrow : ∀ r ∈ G, r.length ≤ 1000) :
    ACalls Try.prog F_lateenref10_Nearest [g.v] h (fun v h' => ∃ s : Sl, v = s.v ∧ Sep h h' [ownSl si_Lint eInt s (nearF G)]) := by
  refine lateenref10_Nearest_of ?_
  have hl := hg.lenEq
  unfold lateenref10_Nearest
  refine (refAll_calls hg hn hrow).mono ?_
  rintro v h1 ⟨r, rfl, T⟩
  refine ⟨r, rfl, ?_⟩
  have hr := T.rd
  have hnl := nearF_len G
  refine loop_intro (fun m (t : Sl × Int) h' => ∃ k : Nat, t.2 = k ∧ k ≤ G.length ∧ m = G.length - k ∧ Sep h1 h' [ownSl si_Lint eInt t.1 ((nearF G).take k)]) G.length ⟨0, rfl, by omega, by omega, (Sep.start h1).nil rfl⟩ ?_
  rintro _ _ ⟨out, k⟩ h2 ⟨k, hk0, hk, rfl, S⟩
  simp only at hk0 S ⊢
  subst hk0
  refine ifB_intro (fun hc => ?_) (fun hc => ?_)
  · have hlt : k < G.length := by simpa [hl] using hc
    refine loop_intro (fun m (t : Int × Int) h' => ∃ i : Nat, t.2 = i ∧ i ≤ G.length ∧ m = G.length - i ∧ h2 = h' ∧ t.1 = nearTo G k i) G.length ⟨0, rfl, by omega, by omega, rfl, rfl⟩ ?_
    rintro _ _ ⟨best, i⟩ _ ⟨i, hi0, hi, rfl, rfl, hb0⟩
    simp only at hi0 hb0 ⊢
    subst hi0 hb0
    have hbl := nearTo_lt (G := G) k i
    refine ifB_intro (fun hc => ?_) (fun hc => ?_)
    · have hil : i < G.length := by simpa [hl] using hc
      intro k1 hk1
      have fin : ∀ b : Int, b = nearTo G k (i + 1) → k1 b h2 := fun b hb => hk1 _ _ fun _ => ar_i64 (by omega) (by omega) ⟨G.length - (i + 1), by omega, i + 1, rfl, by omega, rfl, rfl, hb⟩
      intro k2 hk2
      have yes : (i ≠ k ∧ domB G i k = true ∧ (nearTo G k i < 0 ∨ domB G (nearTo G k i).toNat i = true)) → k2 true h2 := fun hy => hk2 _ _ fun _ => ifB_true rfl (fin _ (nearTo_yes hy).symm)
      have no : ¬ (i ≠ k ∧ domB G i k = true ∧ (nearTo G k i < 0 ∨ domB G (nearTo G k i).toNat i = true)) → k2 false h2 := fun hy => hk2 _ _ fun _ => ifB_false rfl (fin _ (nearTo_no hy).symm)
      refine ifB_intro (fun hik => ?_) (fun hik => no fun h => h.1 (by
        have : (i : Int) = k := by simpa using hik
        omega))
      have hik' : i ≠ k := fun e => by subst e; simp at hik
      refine dom_ld hr S.old hil hlt ?_
      refine ifB_intro (fun hd => ?_) (fun hd => no fun h => by rw [h.2.1] at hd; cases hd)
      refine ifB_intro (fun hneg => yes ⟨hik', hd, .inl (of_decide_eq_true hneg)⟩) (fun hneg => ?_)
      have hneg := of_decide_eq_false hneg
      obtain ⟨b, hb⟩ := Int.eq_ofNat_of_zero_le (a := nearTo G k i) (by omega)
      rw [hb] at hbl yes no ⊢
      refine dom_ld hr S.old (by omega) hil ?_
      cases hd2 : domB G b i with
      | true => exact yes ⟨hik', hd, .inr (by simpa using hd2)⟩
      | false =>
        refine no fun h => ?_
        rcases h.2.2 with h | h
        · omega
        · rw [Int.toNat_natCast, hd2] at h; cases h
    · have hil : i = G.length := by have : G.length ≤ i := by simpa [hl] using hc
                                    omega
      subst hil
      refine app1_flat (x := nearTo G k G.length) S (fun _ => ⟨rfl, rfl⟩) rfl (by decide) (by simp only [si_Lint, List.length_take]; omega) (by simp only [List.length_take]; omega) fun s' h' S' => ?_
      refine ar_i64 (by omega) (by omega) ⟨G.length - (k + 1), by omega, k + 1, rfl, by omega, rfl, S'.cast ?_⟩
      rw [List.take_succ_eq_append_getElem (by omega)]
      simp [nearF]
  · have hkl : G.length ≤ k := by simpa [hl] using hc
    rw [List.take_of_length_le (by omega)] at S
    exact ⟨out, rfl, S.since T.old⟩

theorem kidsOf_len (N : List Int) : (kidsOf N).length = N.length := by simp [kidsOf]
theorem range_filter_succ' (p : Nat → Bool) (j : Nat) : ((List.range (j + 1)).filter p).map (fun (k : Nat) => (k : Int)) = ((List.range j).filter p).map (fun (k : Nat) => (k : Int)) ++ if p j = true then [(j : Int)] else [] := by
  rw [List.range_succ, List.filter_append, List.map_append]
  congr 1
  by_cases e : p j = true <;> simp [e]
theorem range_filter_len (p : Nat → Bool) (j : Nat) : (((List.range j).filter p).map (fun (k : Nat) => (k : Int))).length ≤ j := by
  rw [List.length_map]
  exact Nat.le_trans (List.length_filter_le _ _) (by simp)

theorem refKids_calls {h : Heap} {near : Sl} {N : List Int} (hN : rdSl eInt h near N) (hn : N.length ≤ 1000) :
    ACalls Try.prog F_lateenref10_Kids [near.v] h (fun v h' => ∃ s : Sl, v = s.v ∧ Sep h h' [ownSl si_LLint eInts s (kidsOf N)]) := by
  refine lateenref10_Kids_of ?_
  have hl := hN.lenEq
  unfold lateenref10_Kids
  have hkl' := kidsOf_len N
  refine loop_intro (fun m (t : Sl × Int) h' => ∃ i : Nat, t.2 = i ∧ i ≤ N.length ∧ m = N.length - i ∧ Sep h h' [ownSl si_LLint eInts t.1 ((kidsOf N).take i)]) N.length ⟨0, rfl, by omega, by omega, (Sep.start h).nil rfl⟩ ?_
  rintro _ _ ⟨out, i⟩ h1 ⟨i, hi0, hi, rfl, S⟩
  simp only at hi0 S ⊢
  subst hi0
  refine ifB_intro (fun hc => ?_) (fun hc => ?_)
  · have hil : i < N.length := by simpa [hl] using hc
    refine loop_intro (fun m (t : Sl × Int) h' => ∃ k : Nat, t.2 = k ∧ k ≤ N.length ∧ m = N.length - k ∧ Sep h h' [ownSl si_Lint eInt t.1 (((List.range k).filter fun k => N.getD k (-1) == (i : Int)).map fun (k : Nat) => (k : Int)), ownSl si_LLint eInts out ((kidsOf N).take i)]) N.length
      ⟨0, rfl, by omega, by omega, S.nil rfl⟩ ?_
    clear S
    rintro _ _ ⟨l, k⟩ h2 ⟨k, hk0, hk, rfl, S⟩
    simp only at hk0 S ⊢
    subst hk0
    refine ifB_intro (fun hc => ?_) (fun hc => ?_)
    · have hkl : k < N.length := by simpa [hl] using hc
      intro k1 hk1
      have hle := range_filter_len (fun k => N.getD k (-1) == (i : Int)) k
      have fin : ∀ (l' : Sl) (h' : Heap), Sep h h' [ownSl si_Lint eInt l' (((List.range (k + 1)).filter fun k => N.getD k (-1) == (i : Int)).map fun (k : Nat) => (k : Int)), ownSl si_LLint eInts out ((kidsOf N).take i)] → k1 l' h' := fun l' h' S' =>
        hk1 _ _ fun _ => ar_i64 (by omega) (by omega) ⟨N.length - (k + 1), by omega, k + 1, rfl, by omega, rfl, S'⟩
      rw [range_filter_succ', getD_lt hkl] at fin
      refine idx_rdN hN rfl hkl fun p _ hp => ld_oneB hp S.old ?_
      refine ifB_intro (fun he => ?_) (fun he => fin l h2 (by rw [he]; simpa using S))
      refine app1_flat (x := (k : Int)) S (fun _ => ⟨rfl, rfl⟩) rfl (by decide) (by simp only [si_Lint]; omega) (by omega) fun s' h' S' => fin s' h' ?_
      rw [if_pos he]
      exact S'
    · have hkl : k = N.length := by have : N.length ≤ k := by simpa [hl] using hc
                                    omega
      subst hkl
      refine app1_rule (S.toEl.swap) rfl (by decide) (by simp only [si_LLint, List.length_take]; omega) (by simp only [List.length_take]; omega) fun s' h' S' => ?_
      refine ar_i64 (by omega) (by omega) ⟨N.length - (i + 1), by omega, i + 1, rfl, by omega, rfl, S'.cast ?_⟩
      rw [List.take_succ_eq_append_getElem (by omega)]
      simp [kidsOf]
  · have hil : N.length ≤ i := by simpa [hl] using hc
    rw [List.take_of_length_le (by omega)] at S
    exact ⟨out, rfl, S⟩

/-- Rows under way: of the first points. -/
def kidsT (N : List Int) (t : Nat) : Graph := (List.range N.length).map fun (i : Nat) => ((List.range t).filter fun k => N.getD k (-1) == (i : Int)).map fun (k : Nat) => (k : Int)
theorem kidsT_len (N : List Int) (t : Nat) : (kidsT N t).length = N.length := by simp [kidsT]
theorem kidsT_at {N : List Int} {t i : Nat} (hi : i < (kidsT N t).length) : (kidsT N t)[i] = ((List.range t).filter fun k => N.getD k (-1) == (i : Int)).map fun (k : Nat) => (k : Int) := by simp [kidsT]

theorem kids_calls {h : Heap} {near : Sl} {N : List Int} (hN : rdSl eInt h near N) (hn : N.length ≤ 1000) :
    ACalls Try.prog F_dom_Kids [near.v] h (fun v h' => ∃ s : Sl, v = s.v ∧ Sep h h' [ownSl si_LLint eInts s (kidsOf N)]) := by
  refine dom_Kids_of ?_
  have hl := hN.lenEq
  unfold dom_Kids
  refine ⟨rfl, mk_rule (x := []) (E := eInts) (Sep.start h) rfl (fun _ => ⟨⟨none, 0, 0⟩, rfl, ownSl_nil _ _ rfl _⟩) (by omega) (by omega) (by simp only [si_LLint]; omega) fun s h' S => ?_⟩
  refine loop_intro (fun m t h1 => ∃ k : Nat, t = k ∧ k ≤ N.length ∧ m = N.length - k ∧ Sep h h1 [ownSl si_LLint eInts s (kidsT N k)]) N.length
    ⟨0, rfl, by omega, by omega, S.cast (by
      rw [hl]
      congr 2
      refine List.ext_getElem (by simp [kidsT]) fun i h1 h2 => ?_
      rw [kidsT_at]; simp)⟩ ?_
  clear S
  rintro m _ t h1 ⟨k, rfl, hk, rfl, S⟩
  refine ifB_intro (fun hc => ?_) (fun hc => ⟨_, rfl, ?_⟩)
  · have hkl : k < N.length := by simpa [hl] using hc
    intro k1 hk1
    have fin : ∀ h', Sep h h' [ownSl si_LLint eInts s (kidsT N (k + 1))] → k1 () h' := fun h' S' => hk1 _ _ fun _ => ar_i64 (by omega) (by omega) ⟨N.length - (k + 1), by omega, k + 1, rfl, by omega, rfl, S'⟩
    refine idx_rdN hN rfl hkl fun p _ hp => ld_oneB hp S.old ?_
    have hg := getD_lt (d := (-1 : Int)) hkl
    intro k2 hk2
    have no : (∀ i : Nat, i < N.length → N[k] ≠ (i : Int)) → k2 false h1 := fun hno => hk2 _ _ fun _ => ifB_false rfl (fin h1 (S.cast (by
      congr 2
      refine List.ext_getElem (by simp [kidsT]) fun i h1 h2 => ?_
      rw [kidsT_at, kidsT_at, range_filter_succ', hg]
      rw [kidsT_len] at h1
      have := hno i h1
      simp [this])))
    refine ifB_intro (fun h0 => ?_) (fun h0 => no fun i hi e => by have := of_decide_eq_false h0; omega)
    have h0 := of_decide_eq_true h0
    obtain ⟨q, hq⟩ := Int.eq_ofNat_of_zero_le (a := N[k]) (by omega)
    rw [hq] at no hg ⊢
    cases hlt : decide ((q : Int) < (near.len : Int)) with
    | false => exact no fun i hi e => by have := of_decide_eq_false hlt; omega
    | true =>
      have hqn : q < N.length := by have := of_decide_eq_true hlt; omega
      have hqk : q < (kidsT N k).length := by rw [kidsT_len]; exact hqn
      refine hk2 _ _ fun _ => ifB_true rfl ?_
      rw [hq]
      have hrl : (kidsT N k)[q].length ≤ k := by rw [kidsT_at]; exact range_filter_len _ _
      refine app_row (v := .int .i64 k) (x := (k : Int)) S hqk (fun _ => ⟨rfl, rfl⟩) rfl (by decide) (by simp only [si_Lint]; omega) (by omega) fun h3 S3 => fin h3 (S3.cast ?_)
      congr 2
      refine List.ext_getElem (by simp [kidsT]) fun i h1 h2 => ?_
      rw [List.getElem_set]
      by_cases e : q = i
      · subst e
        rw [if_pos rfl, kidsT_at, kidsT_at, range_filter_succ', hg]
        simp
      · have : ¬ (q : Int) = i := by omega
        rw [if_neg e, kidsT_at, kidsT_at, range_filter_succ', hg]
        simp [this]
  · have hkl : k = N.length := by have : N.length ≤ k := by simpa [hl] using hc
                                  omega
    subst hkl
    exact S

end Go.Proofs.Ythdidcnpiaeleaa
