/-
  loops.Crossed.
-/
import Derived.Test.YtniflhbfnkadhaaFnLoops9
namespace Go.Proofs.Ytniflhbfnkadhaa
open Go.Fw Go.Pl

/-- Does a step of a point stay, when those back are taken away? -/
def hbk (G : Graph) (a : Nat) (k : Int) : Bool := decide (k ≥ 0) && (decide (k < (G.length : Int)) && !((ints (backF G k.toNat)).contains (a : Int)))
def lessK (G : Graph) : Graph := (List.range G.length).map fun a => (G.getD a []).filter (hbk G a)
theorem lessK_len (G : Graph) : (lessK G).length = G.length := by simp [lessK]
theorem lessK_row {G : Graph} {a : Nat} (h : a < (lessK G).length) : (lessK G)[a] = (G.getD a []).filter (hbk G a) := by simp [lessK]
theorem lessK_leads {G : Graph} {a k : Nat} (ha : a < G.length) (hk : k < G.length) : leadsB (lessK G) a (k : Int) = true ↔ Nb G a k := by
  have hal : a < (lessK G).length := by rw [lessK_len]; exact ha
  have e : leadsB (lessK G) a (k : Int) = ((G.getD a []).filter (hbk G a)).contains (k : Int) := by
    unfold leadsB
    rw [show (lessK G).getD a [] = (lessK G)[a] from by simp [hal], lessK_row hal]
  rw [e, List.contains_iff_mem, List.mem_filter]
  have e2 : leadsB G a (k : Int) = true ↔ (k : Int) ∈ G.getD a [] := by unfold leadsB; rw [List.contains_iff_mem]
  rw [← e2]
  have e3 : hbk G a (k : Int) = true ↔ ¬ BackP G k a := by
    unfold hbk
    rw [Bool.and_eq_true, Bool.and_eq_true, Int.toNat_natCast]
    have : (ints (backF G k)).contains (a : Int) = true ↔ BackP G k a := by
      rw [List.contains_iff_mem]
      unfold ints
      rw [List.mem_map]
      constructor
      · rintro ⟨b, hb, e⟩
        have : b = a := by omega
        subst this
        exact (mem_backF.1 hb).2
      · exact fun b => ⟨a, mem_backF.2 ⟨ha, b⟩, rfl⟩
    rw [← this]
    simp
    omega
  rw [e3]
  unfold Nb BackP
  constructor
  · rintro ⟨h1, h2⟩; exact ⟨h1, hk, fun d => h2 ⟨h1, d⟩⟩
  · rintro ⟨h1, _, h3⟩; exact ⟨h1, fun b => h3 b.2⟩
/-- Rows that are told up to one, and a part of that one. -/
structure HT (G : Graph) (k : Nat) (row : List Int) (O : Graph) : Prop where
  len : O.length = G.length
  low : ∀ a (ha : a < O.length), a < k → O[a] = (G.getD a []).filter (hbk G a)
  mid : ∀ (ha : k < O.length), O[k] = row
  high : ∀ a (ha : a < O.length), k < a → O[a] = []

set_option maxHeartbeats 1000000 in
theorem crossed_calls {h : Heap} {g : Sl} {G : Graph} (hg : rdSl eInts h g G) (hn : G.length ≤ 1000) (hrow : ∀ r ∈ G, r.length ≤ 1000) :
    ACalls Try.prog F_loops_Crossed [g.v] h (fun v h' => v = .bool (crossB G) ∧ Old h h') := by
  refine loops_Crossed_of ?_
  have hl := hg.lenEq
  unfold loops_Crossed
  refine (backs_calls hg hn).mono ?_
  rintro v h1 ⟨r, rfl, T1⟩
  refine ⟨r, rfl, rfl, ?_⟩
  have hr := T1.rd
  have hbl := backsL_len G
  refine mk_rule (x := []) (E := eInts) (Sep.start h1) rfl (fun _ => ⟨⟨none, 0, 0⟩, rfl, ownSl_nil _ _ rfl _⟩) (by omega) (by omega) (by simp only [si_LLint]; omega) fun s h2 S => ?_
  rw [hl, Int.toNat_natCast] at S
  refine loop_intro (fun m (t : Int) h' => ∃ (k : Nat) (O : Graph), t = k ∧ k ≤ G.length ∧ m = G.length - k ∧ HT G k [] O ∧ Sep h1 h' [ownSl si_LLint eInts s O]) G.length
    ⟨0, _, rfl, by omega, by omega, ⟨by simp, fun a ha h => by omega, fun ha => by simp, fun a ha h => by simp⟩, S⟩ ?_
  clear S
  rintro _ _ t h3 ⟨k, O, rfl, hk, rfl, bt, S⟩
  refine ifB_intro (fun hc => ?_) (fun hc => ?_)
  · have hkl : k < G.length := by rw [hl] at hc; simpa using hc
    have hg3 := hg.old (T1.old.trans S.old)
    have hGk : G[k].length ≤ 1000 := hrow _ (List.getElem_mem hkl)
    refine idx_rdN hg rfl hkl fun p _ hp => ld_slB hp (T1.old.trans S.old) fun x hx => ?_
    have hxl := hx.lenEq
    have hgd : G.getD k [] = G[k] := getD_lt hkl
    refine loop_intro (fun m (t : Int) h' => ∃ (i : Nat) (O : Graph), t = i ∧ i ≤ G[k].length ∧ m = G[k].length - i ∧ HT G k ((G[k].take i).filter (hbk G k)) O ∧ Sep h1 h' [ownSl si_LLint eInts s O]) G[k].length
      ⟨0, O, rfl, by omega, by omega, by simpa using bt, S⟩ ?_
    clear S bt hg3
    rintro _ _ t h4 ⟨i, O, rfl, hi, rfl, bt, S⟩
    have hkO : k < O.length := by rw [bt.len]; exact hkl
    refine ifB_intro (fun hc => ?_) (fun hc => ?_)
    · have hil : i < G[k].length := by rw [hxl] at hc; simpa using hc
      intro k1 hk1
      refine idx_rdN hx rfl hil fun p1 _ hp1 => ld_oneB hp1 (T1.old.trans S.old) ?_
      have htk : G[k].take (i + 1) = G[k].take i ++ [G[k][i]] := List.take_succ_eq_append_getElem hil
      generalize G[k][i] = c at htk
      intro k2 hk2
      have key : ∀ t, t = hbk G k c → k2 t h4 := fun t ht => hk2 _ _ fun _ => by
        refine ifB_intro (fun hb => ?_) (fun hb => ?_)
        · have hol : O[k].length ≤ i := by
            rw [bt.mid hkO]
            exact Nat.le_trans (List.length_filter_le _ _) (by rw [List.length_take]; omega)
          refine app_row (x := c) S hkO (own_int _) rfl (by decide) (by simp only [si_Lint]; omega) (by omega) fun h8 S8 => ?_
          refine hk1 _ _ fun _ => ar_i64 (by omega) (by omega) ⟨G[k].length - (i + 1), by omega, i + 1, O.set k (O[k] ++ [c]), rfl, by omega, rfl, ⟨by simpa using bt.len, fun a ha h => ?_, fun ha => ?_, fun a ha h => ?_⟩, S8⟩
          · rw [List.getElem_set, if_neg (by omega)]
            exact bt.low a (by simpa using ha) h
          · rw [List.getElem_set, if_pos rfl, bt.mid hkO, htk, List.filter_append]
            simp [← ht, hb]
          · rw [List.getElem_set, if_neg (by omega)]
            exact bt.high a (by simpa using ha) h
        · refine hk1 _ _ fun _ => ar_i64 (by omega) (by omega) ⟨G[k].length - (i + 1), by omega, i + 1, O, rfl, by omega, rfl, ?_, S⟩
          rw [htk, List.filter_append]
          simpa [← ht, hb] using bt
      refine ifB_intro (fun c1 => ?_) (fun c1 => key false (by unfold hbk; rw [c1]; rfl))
      rw [hl]
      refine ifB_intro (fun c2 => ?_) (fun c2 => key false (by unfold hbk; rw [c1, c2]; rfl))
      have h0 : 0 ≤ c := by simpa using c1
      have h1' : c < G.length := by simpa using c2
      have hcn : c = ((c.toNat : Nat) : Int) := (Int.toNat_of_nonneg h0).symm
      have hcb : c.toNat < (backsL G).length := by rw [hbl]; omega
      rw [show idx 1 r c = idx 1 r ((c.toNat : Nat) : Int) from by rw [← hcn]]
      refine idx_rdN hr rfl hcb fun p4 _ hp4 => ld_slB hp4 S.old fun y hy => ?_
      rw [show (backsL G)[c.toNat] = ints (backF G c.toNat) from by simp [backsL]] at hy
      refine (contains_calls (hy.old S.old) (k : Int)).mono ?_
      rintro v h10 ⟨rfl, rfl⟩
      exact ⟨_, rfl, key _ (by unfold hbk; rw [c1, c2]; rfl)⟩
    · have hil : G[k].length ≤ i := by rw [hxl] at hc; simpa using hc
      rw [List.take_of_length_le hil] at bt
      refine ar_i64 (by omega) (by omega) ⟨G.length - (k + 1), by omega, k + 1, O, rfl, by omega, rfl, ⟨bt.len, fun a ha h => ?_, fun ha => bt.high _ ha (by omega), fun a ha h => bt.high a ha (by omega)⟩, S⟩
      by_cases e : a = k
      · subst e; rw [hgd]; exact bt.mid ha
      · exact bt.low a ha (by omega)
  have hkl : G.length = k := by rw [hl] at hc; have := of_decide_eq_false hc; omega
  subst hkl
  have hO : O = lessK G := by
    refine List.ext_getElem (by rw [bt.len, lessK_len]) fun a h1 h2 => ?_
    rw [lessK_row, bt.low a h1 (by have := bt.len; omega)]
  subst hO
  clear bt hc hk
  have hHl := lessK_len G
  have hcross := cross_iff (H := lessK G) hHl (fun a k ha hk => lessK_leads ha hk)
  have hent : ∀ a (ha : a < (lessK G).length) (x : Int), x ∈ (lessK G)[a] → 0 ≤ x ∧ x < G.length := fun a ha x hx => by
    rw [lessK_row] at hx
    have := (List.mem_filter.1 hx).2
    unfold hbk at this
    simp only [Bool.and_eq_true, decide_eq_true_eq] at this
    exact ⟨this.1, this.2.1⟩
  have hHn : (lessK G).length ≤ 1000 := by omega
  generalize lessK G = H at S hHl hcross hent hHn
  refine ⟨rfl, ?_⟩
  refine mk_rule (x := (0 : Int)) (E := eInt) S rfl (fun h => own_int 0 h) (by omega) (by omega) (by simp only [si_Lint]; omega) fun s3 h11 S11 => ?_
  rw [hl, Int.toNat_natCast] at S11
  refine (order_calls S11.swap.rd hHn).mono ?_
  rintro v h12 ⟨r2, rfl, T12⟩
  refine ⟨r2, rfl, ?_⟩
  have S12 := S11.frame T12
  clear S S11 T12
  have hol := S12.rd.lenEq
  have hob := S12.rd.bound
  have hon := order_len H
  refine loop_intro (fun m (t : Int) h' => ∃ (j : Nat) (A : List Int), t = j ∧ j ≤ (orderOf H).length ∧ m = (orderOf H).length - j ∧ A.length = G.length ∧ (∀ k (hk : k < A.length), (k : Int) ∈ (orderOf H).take j → A[k] = ((rkOf H k : Nat) : Int)) ∧
      Sep h1 h' [ownSl si_Lint eInt s3 A, ownSl si_Lint eInt r2 (orderOf H), ownSl si_LLint eInts s H]) (orderOf H).length
    ⟨0, _, rfl, by omega, by omega, by simp, fun k hk h => by simp at h, S12.swap⟩ ?_
  clear S12
  rintro _ _ t h13 ⟨j, A, rfl, hj, rfl, hA, hall, S⟩
  refine ifB_intro (fun hc => ?_) (fun hc => ?_)
  · have hjl : j < (orderOf H).length := by rw [hol] at hc; simpa using hc
    obtain ⟨x, hx, hxn⟩ := order_in hjl
    refine idx_rdN S.swap.rd rfl hjl fun p _ hp => ld_one hp ?_
    rw [hx]
    have hxA : x < A.length := by omega
    refine idx_rdN S.rd rfl hxA fun p2 hat _ => ?_
    refine st_flat S (x := (j : Int)) (own_int _) hat rfl hxA fun h4 S4 => ?_
    refine ar_i64 (by omega) (by omega) ⟨(orderOf H).length - (j + 1), by omega, j + 1, _, rfl, by omega, rfl, by simpa using hA, fun k hk hm => ?_, S4⟩
    rw [List.getElem_set]
    by_cases e : x = k
    · subst e
      obtain ⟨_, hr⟩ := rk_at hjl hx
      simp [hr]
    · rw [if_neg e]
      refine hall k (by simpa using hk) ?_
      rw [List.take_succ_eq_append_getElem hjl, hx, List.mem_append, List.mem_singleton] at hm
      exact hm.resolve_right fun h => e (by omega)
  have hjl : (orderOf H).length ≤ j := by rw [hol] at hc; have := of_decide_eq_false hc; omega
  rw [List.take_of_length_le hjl] at hall
  have hrank : ∀ k (hk : k < A.length), Rch H k → A[k] = ((rkOf H k : Nat) : Int) := fun k hk hr => hall k hk ((reach_order k).1 hr)
  have hs := rdm S (.tail _ (.tail _ (.head _)))
  have ho := S.swap.rd
  have hra := S.rd
  have oF := T1.old.trans S.old
  clear hall hjl hc hj S
  refine loop_intro (fun m (t : Int) h' => ∃ i : Nat, t = i ∧ h' = h13 ∧ i ≤ (orderOf H).length ∧ m = (orderOf H).length - i ∧
      ∀ j (hj : j < (orderOf H).length) (x k : Nat), j < i → (orderOf H)[j] = (x : Int) → leadsB H x (k : Int) = true → k < G.length → rkOf H x < rkOf H k) (orderOf H).length
    ⟨0, rfl, rfl, by omega, by omega, fun j hj x k h => by omega⟩ ?_
  rintro _ _ t h15 ⟨i, rfl, rfl, hi, rfl, hno⟩
  refine ifB_intro (fun hc => ?_) (fun hc => ?_)
  · have hil : i < (orderOf H).length := by rw [hol] at hc; simpa using hc
    obtain ⟨x, hx, hxn⟩ := order_in hil
    obtain ⟨hxr, hxk⟩ := rk_at hil hx
    refine idx_rdN ho rfl hil fun p _ hp => ld_one hp ?_
    rw [hx]
    have hxH : x < H.length := hxn
    refine idx_rdN hs rfl hxH fun p8 _ hp8 => ld_sl hp8 fun y hy => ?_
    have hyl := hy.lenEq
    have hyb := hy.bound
    refine loop_intro (fun m (t : Int) h' => ∃ z : Nat, t = z ∧ h' = h15 ∧ z ≤ H[x].length ∧ m = H[x].length - z ∧ ∀ k : Nat, (k : Int) ∈ H[x].take z → rkOf H x < rkOf H k) H[x].length
      ⟨0, rfl, rfl, by omega, by omega, fun k h => by simp at h⟩ ?_
    rintro _ _ t h16 ⟨z, rfl, rfl, hz, rfl, hnz⟩
    refine ifB_intro (fun hc => ?_) (fun hc => ?_)
    · have hzl : z < H[x].length := by rw [hyl] at hc; simpa using hc
      obtain ⟨c0, cn⟩ := hent x hxH _ (List.getElem_mem hzl)
      refine idx_rdN hy rfl hzl fun p9 _ hp9 => ld_one hp9 ?_
      have hld : leadsB H x H[x][z] = true := by
        unfold leadsB
        rw [show H.getD x [] = H[x] from by simp [hxH], List.contains_iff_mem]
        exact List.getElem_mem hzl
      have htk : H[x].take (z + 1) = H[x].take z ++ [H[x][z]] := List.take_succ_eq_append_getElem hzl
      generalize H[x][z] = c at c0 cn hld htk
      obtain ⟨c, rfl⟩ := Int.eq_ofNat_of_zero_le c0
      have hcA : c < A.length := by omega
      have hxA : x < A.length := by omega
      have hcr : Rch H c := .step hxr hld (by omega)
      refine idx_rdN hra rfl hcA fun p10 _ hp10 => ld_one hp10 ?_
      refine idx_rdN hra rfl hxA fun p11 _ hp11 => ld_one hp11 ?_
      rw [hrank c hcA hcr, hrank x hxA hxr]
      refine ifB_intro (fun hc => ⟨?_, oF⟩) (fun hc => ar_i64 (by omega) (by omega) ⟨H[x].length - (z + 1), by omega, z + 1, rfl, rfl, by omega, rfl, fun k hk => ?_⟩)
      · have hle : rkOf H c ≤ rkOf H x := by have := of_decide_eq_true hc; omega
        rw [crossB_iff.2 (hcross.1 ⟨x, c, hxr, hld, by omega, hle⟩)]
      · rw [htk, List.mem_append, List.mem_singleton] at hk
        rcases hk with hk | hk
        · exact hnz k hk
        · have : k = c := by omega
          subst this
          have := of_decide_eq_false hc
          omega
    · have hzl : H[x].length ≤ z := by rw [hyl] at hc; have := of_decide_eq_false hc; omega
      rw [List.take_of_length_le hzl] at hnz
      refine ar_i64 (by omega) (by omega) ⟨(orderOf H).length - (i + 1), by omega, i + 1, rfl, rfl, by omega, rfl, fun j hj x' k hji hx' hld hk => ?_⟩
      by_cases e : j = i
      · subst e
        have : x' = x := by rw [hx] at hx'; omega
        subst this
        refine hnz k ?_
        unfold leadsB at hld
        rwa [show H.getD x' [] = H[x'] from by simp [hxH], List.contains_iff_mem] at hld
      · exact hno j hj x' k (by omega) hx' hld hk
  · have hil : (orderOf H).length ≤ i := by rw [hol] at hc; have := of_decide_eq_false hc; omega
    refine ⟨?_, oF⟩
    have : crossB G = false := by
      cases e : crossB G with
      | false => rfl
      | true =>
        obtain ⟨x, k, hxr, hld, hk, hrk⟩ := hcross.2 (crossB_iff.1 e)
        obtain ⟨hj, hx⟩ := rk_spec hxr
        have := hno _ hj x k (by omega) hx hld hk
        omega
    rw [this]

end Go.Proofs.Ytniflhbfnkadhaa
