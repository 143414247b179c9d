/-
  loops.backs.
-/
import Derived.Test.YtniflhbfnkadhaaPlLoops
import Derived.Test.YtniflhbfnkadhaaFnDom6
namespace Go.Proofs.Ytniflhbfnkadhaa
open Go.Fw Go.Pl

theorem backF_prs {G : Graph} {k : Nat} : backF G k = (prs G k).filter fun p => domB G k p := by
  unfold backF prs backB
  rw [List.filter_filter]
  refine List.filter_congr fun a _ => ?_
  rw [Bool.and_comm]
theorem backsL_len (G : Graph) : (backsL G).length = G.length := by simp [backsL]

/-- Rows that are told up to one, and a part of that one. -/
structure BT (G : Graph) (k : Nat) (row : List Int) (O : Graph) : Prop where
  len : O.length = G.length
  low : ∀ a (ha : a < O.length), a < k → O[a] = ints (backF G a)
  mid : ∀ (ha : k < O.length), O[k] = row
  high : ∀ a (ha : a < O.length), k < a → O[a] = []

theorem backs_calls {h : Heap} {g : Sl} {G : Graph} (hg : rdSl eInts h g G) (hn : G.length ≤ 1000) :
    ACalls Try.prog F_loops_backs [g.v] h (fun v h' => ∃ s : Sl, v = s.v ∧ Sep h h' [ownSl si_LLint eInts s (backsL G)]) := by
  refine loops_backs_of ?_
  unfold loops_backs
  have hl := hg.lenEq
  refine (nearest_calls hg hn).mono ?_
  rintro v h1 ⟨r, rfl, T1⟩
  refine ⟨r, rfl, ?_⟩
  refine (come_calls (hg.old T1.old) hn).mono ?_
  rintro v h2 ⟨r1, rfl, T2⟩
  refine ⟨r1, rfl, rfl, ?_⟩
  have hr1 := T2.rd
  have hr := (T1.grow T2.old).rd
  have o2 := T1.old.trans T2.old
  have hcl := come_len G
  have hnl := nearF_len G
  refine mk_rule (x := []) (E := eInts) (Sep.start h2) rfl (fun _ => ⟨⟨none, 0, 0⟩, rfl, ownSl_nil _ _ rfl _⟩) (by omega) (by omega) (by simp only [si_LLint]; omega) fun s h3 S => ?_
  rw [hl, Int.toNat_natCast] at S
  refine (preds_calls (hg.old (o2.trans S.old)) hn).mono ?_
  rintro v h4 ⟨r2, rfl, T4⟩
  refine ⟨r2, rfl, ?_⟩
  have S4 := S.frame T4
  clear S T4
  have hpl := predsOf_len (G := G)
  have hr2l := S4.rd.lenEq
  refine loop_intro (fun m (t : Int) h' => ∃ (k : Nat) (O : Graph), t = k ∧ k ≤ G.length ∧ m = G.length - k ∧ BT G k [] O ∧ Sep h2 h' [ownSl si_LLint eInts r2 (predsOf G), ownSl si_LLint eInts s O]) G.length
    ⟨0, _, rfl, by omega, by omega, ⟨by simp, fun a ha h => by omega, fun ha => by simp, fun a ha h => by simp⟩, S4⟩ ?_
  clear S4
  rintro _ _ t h5 ⟨k, O, rfl, hk, rfl, bt, S⟩
  refine ifB_intro (fun hc => ?_) (fun hc => ?_)
  case refine_2 =>
    have hkl : k = G.length := by rw [hr2l, hpl] at hc; have := of_decide_eq_false hc; omega
    subst hkl
    refine ⟨s, rfl, (S.drop.since o2).cast ?_⟩
    congr 2
    refine List.ext_getElem (by rw [bt.len, backsL_len]) fun i h1 h2 => ?_
    rw [bt.low i h1 (by have := bt.len; omega)]
    simp [backsL]
  have hkl : k < G.length := by rw [hr2l, hpl] at hc; have := of_decide_eq_true hc; omega
  have hkp : k < (predsOf G).length := by omega
  refine idx_rdN S.rd rfl hkp fun p hat _ => ?_
  obtain ⟨xs, hxc, S2⟩ := (Sep.raw.2 S).away (i := k) (x := (predsOf G)[k]) (by simpa using hkp) (by simp)
  obtain ⟨x, rfl, S3⟩ := S2.swap.ofEl
  clear S2 S
  refine ld_one (x := x) (by have := hxc p hat 0 x.v rfl; rwa [Addr.add_zero'] at this) ?_
  have hxl := S3.rd.lenEq
  rw [preds_row hkp] at S3
  rw [preds_row hkp, List.length_map] at hxl
  have hpsl := prs_len (G := G) (k := k)
  generalize hB : ownSl si_LLint (Elem.raw (Elem.sl si_Lint eInt)) r2 ((List.map Sum.inl (predsOf G)).set k (Sum.inr [x.v])) = B at S3
  have hback : ∀ h' O, Sep h2 h' [ownSl si_Lint eInt x ((prs G k).map fun (p : Nat) => (p : Int)), B, ownSl si_LLint eInts s O] → Sep h2 h' [ownSl si_LLint eInts r2 (predsOf G), ownSl si_LLint eInts s O] := fun h' O S' => by
    rw [← hB, ← preds_row hkp] at S'
    refine Sep.raw.1 ((S'.toEl.swap.back (i := k) (by simpa using hkp) (by simp; rfl)).cast ?_)
    congr 2
    rw [List.set_set]
    refine List.ext_getElem (by simp) fun i h1 h2 => ?_
    rw [List.getElem_set]
    by_cases e : k = i
    · subst e; simp
    · simp [e]
  refine loop_intro (fun m (t : Int) h' => ∃ (i : Nat) (O : Graph), t = i ∧ i ≤ (prs G k).length ∧ m = (prs G k).length - i ∧ BT G k (ints (((prs G k).take i).filter fun p => domB G k p)) O ∧
      Sep h2 h' [ownSl si_Lint eInt x ((prs G k).map fun (p : Nat) => (p : Int)), B, ownSl si_LLint eInts s O]) (prs G k).length
    ⟨0, O, rfl, by omega, by omega, bt, S3⟩ ?_
  clear S3 bt O
  rintro _ _ t h6 ⟨i, O, rfl, hi, rfl, bt, S⟩
  have hkO : k < O.length := by rw [bt.len]; exact hkl
  refine ifB_intro (fun hc => ?_) (fun hc => ?_)
  case refine_2 =>
    have hil : (prs G k).length ≤ i := by rw [hxl] at hc; simpa using hc
    rw [List.take_of_length_le hil, ← backF_prs] at bt
    refine ar_i64 (by omega) (by omega) ⟨G.length - (k + 1), by omega, k + 1, O, rfl, by omega, rfl, ⟨bt.len, fun a ha h => ?_, fun ha => bt.high _ ha (by omega), fun a ha h => bt.high a ha (by omega)⟩, hback _ _ S⟩
    by_cases e : a = k
    · subst e; exact bt.mid ha
    · exact bt.low a ha (by omega)
  have hil : i < (prs G k).length := by rw [hxl] at hc; simpa using hc
  intro k1 hk1
  refine idx_rdN S.rd rfl (i := i) (by simpa using hil) fun p2 _ hp2 => ld_one hp2 ?_
  rw [List.getElem_map]
  have htk : (prs G k).take (i + 1) = (prs G k).take i ++ [(prs G k)[i]] := List.take_succ_eq_append_getElem hil
  generalize hpe : (prs G k)[i] = p at htk
  obtain ⟨hpn, hpl2⟩ := mem_prs.1 (show p ∈ prs G k by rw [← hpe]; exact List.getElem_mem hil)
  have no : domB G k p = false → k1 () h6 := fun hd => hk1 _ _ fun _ => ar_i64 (by omega) (by omega) ⟨(prs G k).length - (i + 1), by omega, i + 1, O, rfl, by omega, rfl, by rw [htk, List.filter_append]; simpa [hd] using bt, S⟩
  intro k2 hk2
  have hcp : p < (comeOf G).length := by omega
  refine idx_rdN hr1 rfl hcp fun p1 _ hp1 => ld_oneB hp1 S.old ?_
  have hcr := come_reach (G := G) (by omega) p
  rw [getD_lt hcp] at hcr
  refine ifB_intro (fun hnc => ?_) (fun hnc => hk2 _ _ fun _ => ifB_false rfl (no ?_))
  · have hrp := hcr.1 hnc
    refine (dominates_calls (hr.old S.old) hn (k : Int) (p : Int)).mono ?_
    rintro v h7 ⟨rfl, d, rfl, hd⟩
    have hdd : d = domB G k p := by
      rw [Bool.eq_iff_iff, hd, domB_iff hpn]
      constructor
      · rintro ⟨a, b, ea, eb, _, _, hh⟩
        have : a = k := by omega
        have : b = p := by omega
        subst a b
        rcases hh with e | h
        · subst e; exact Dm.refl hrp
        · exact h
      · intro h; exact ⟨k, p, rfl, rfl, hkl, hpn, .inr h⟩
    refine ⟨_, rfl, hk2 _ _ fun _ => ifB_intro (fun ht => ?_) (fun ht => no (by rw [← hdd]; exact ht))⟩
    have S' : Sep h2 h7 [ownSl si_LLint eInts s O, ownSl si_Lint eInt x ((prs G k).map fun (p : Nat) => (p : Int)), B] := S.rot3
    have hol : O[k].length ≤ i := by
      rw [bt.mid hkO]
      simp only [ints, List.length_map]
      exact Nat.le_trans (List.length_filter_le _ _) (by rw [List.length_take]; omega)
    refine app_row (x := (p : Int)) S' hkO (own_int _) rfl (by decide) (by simp only [si_Lint]; omega) (by omega) fun h8 S8 => ?_
    refine hk1 _ _ fun _ => ar_i64 (by omega) (by omega) ⟨(prs G k).length - (i + 1), by omega, i + 1, O.set k (O[k] ++ [(p : Int)]), rfl, by omega, rfl, ⟨by simpa using bt.len, fun a ha h => ?_, fun ha => ?_, fun a ha h => ?_⟩, S8.rot3.rot3⟩
    · rw [List.getElem_set, if_neg (by omega)]
      exact bt.low a (by simpa using ha) h
    · rw [List.getElem_set, if_pos rfl, bt.mid hkO, htk, List.filter_append]
      simp [ints, ← hdd, ht]
    · rw [List.getElem_set, if_neg (by omega)]
      exact bt.high a (by simpa using ha) h
  · cases hd : domB G k p with
    | false => rfl
    | true =>
      have := hcr.2 ((domB_iff hpn).1 hd).2.1
      rw [this] at hnc; cases hnc

end Go.Proofs.Ytniflhbfnkadhaa
