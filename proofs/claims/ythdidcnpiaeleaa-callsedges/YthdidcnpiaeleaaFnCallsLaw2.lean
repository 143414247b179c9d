/-
  The laws of layer 20: CallsEdges, CallsKeeps.
-/
import Derived.Test.YthdidcnpiaeleaaFnCallsLaw
namespace Go.Proofs.Ythdidcnpiaeleaa
open Go.Fw Go.Pl

theorem callsEdges_calls {h : Heap} {g : Sl} {G : Graph} (hg : rdSl eInts h g G) :
    ACalls Try.prog F_lateenlaw20_CallsEdges [g.v] h (fun v h' => v = .bool true ∧ Old h h') := by
  refine lateenlaw20_CallsEdges_of ?_
  have hl := hg.lenEq
  unfold lateenlaw20_CallsEdges
  intro k hk
  refine awake20_calls.mono ?_
  rintro v h1 ⟨rfl, o1⟩
  refine ⟨_, rfl, ifB_false rfl ?_⟩
  have g1 := hg.old o1
  refine (few_calls g1 60).mono ?_
  rintro v h2 ⟨rfl, rfl⟩
  refine ⟨_, rfl, hk _ _ fun _ => ?_⟩
  refine ifB_intro (fun _ => awake20_end o1) (fun hc => ?_)
  have hfew : fewB G 60 = true := by simpa using hc
  have hn : G.length ≤ 1000 := by have := few_le hfew; omega
  refine (cparts_calls g1 hn).mono ?_
  rintro v h3 ⟨r1, rfl, S⟩
  refine ⟨r1, rfl, ?_⟩
  refine (cround_calls (g1.old S.old) hn).mono ?_
  rintro v h4 ⟨r2, rfl, T⟩
  refine ⟨r2, rfl, ?_⟩
  have S := S.frame T
  refine (ways_calls (g1.old S.old) hn).mono ?_
  rintro v h5 ⟨r3, rfl, T⟩
  refine ⟨r3, rfl, ?_⟩
  have S := S.frame T
  have hpl := partsF_len G
  have hrl := roundF_len G
  have hwl : (waysL G G.length).length = G.length := by simp [waysL]
  have hwr : ∀ a (ha : a < (waysL G G.length).length), (waysL G G.length)[a].length = G.length := fun a ha => by simp [waysL]
  have hwg : ∀ a b (ha : a < (waysL G G.length).length) (hb : b < (waysL G G.length)[a].length), (waysL G G.length)[a][b] = wayB G a b := fun a b ha hb => by simp [waysL, wayB]
  generalize waysL G G.length = W at S hwl hwr hwg
  have hR : ∀ i (hi : i < (roundF G).length), (roundF G)[i] = true ↔ Cyc G i := (roundF_P G).2
  have oS := o1.trans S.old
  refine loop_intro (fun m (t : Int) h6 => ∃ i : Nat, h6 = h5 ∧ t = i ∧ i ≤ G.length ∧ m = G.length - i) G.length ⟨0, rfl, rfl, by omega, by omega⟩ ?_
  rintro _ _ t h6 ⟨i, e6, rfl, hi, rfl⟩
  subst e6
  refine ifB_intro (fun hc => ?_) (fun hc => ⟨rfl, oS⟩)
  have hil : i < G.length := by rw [hl] at hc; simpa using hc
  have hiP : i < (partsF G).length := by omega
  have hiR : i < (roundF G).length := by omega
  have hiW : i < W.length := by omega
  intro k1 hk1
  have next : k1 false h6 := by
    refine hk1 _ _ fun _ => ifB_false rfl ?_
    refine loop_intro (fun m (t : Int) h7 => ∃ c : Nat, h7 = h6 ∧ t = c ∧ c ≤ G.length ∧ m = G.length - c) G.length ⟨0, rfl, rfl, by omega, by omega⟩ ?_
    rintro _ _ t h7 ⟨c, e7, rfl, hcn, rfl⟩
    subst e7
    refine ifB_intro (fun hc => ?_) (fun hc => ar_i64 (by omega) (by omega) ⟨G.length - (i + 1), by omega, i + 1, rfl, rfl, by omega, rfl⟩)
    have hcl : c < G.length := by rw [hl] at hc; simpa using hc
    have hcP : c < (partsF G).length := by omega
    have hcW : c < W.length := by omega
    intro k3 hk3
    have good : k3 false h7 := hk3 _ _ fun _ => ifB_false rfl (ar_i64 (by omega) (by omega) ⟨G.length - (c + 1), by omega, c + 1, rfl, rfl, by omega, rfl⟩)
    refine ifB_intro (fun hne => ?_) (fun he => ifB_false he good)
    have hne' : i ≠ c := fun e => by subst e; simp at hne
    have tail : ifB ((i : Int) != (c : Int)) (idx 1 r1 (i : Int) fun p_12 => ld (.int .i64) h7 p_12 fun (x_12 : Int) => idx 1 r1 (c : Int) fun p_13 => ld (.int .i64) h7 p_13 fun (x_13 : Int) =>
        ifB (x_12 == x_13) (idx 1 r2 (i : Int) fun p_14 => ld .bool h7 p_14 fun (x_14 : Bool) => k3 (!x_14) h7) (k3 false h7)) (k3 false h7) := by
      refine ifB_true hne ?_
      refine idx_rdN S.rot3.rd rfl hiP fun p _ hp => ld_one hp ?_
      refine idx_rdN S.rot3.rd rfl hcP fun p _ hp => ld_one hp ?_
      refine ifB_intro (fun he => ?_) (fun _ => good)
      refine idx_rdN S.swap.rd rfl hiR fun p _ hp => ld_one hp ?_
      have hm : Mut G i c := (parts_eq hiP hcP).1 (by simpa using he)
      rw [(hR i hiR).2 (mut_cyc hil hne' hm)]
      exact good
    refine idx_rdN S.rot3.rd rfl hiP fun p _ hp => ld_one hp ?_
    refine idx_rdN S.rot3.rd rfl hcP fun p _ hp => ld_one hp ?_
    refine idx_rdN S.rd rfl hiW fun p _ hp => ld_sl hp fun x hx => ?_
    refine idx_rdN hx rfl (show c < W[i].length by rw [hwr]; exact hcl) fun p _ hp => ld_one hp ?_
    rw [hwg]
    have hiff : ((partsF G)[i] == (partsF G)[c]) = (wayB G i c && wayB G c i) := by
      rw [Bool.eq_iff_iff, beq_iff_eq, Bool.and_eq_true, parts_eq hiP hcP, way_mut hil hcl hne']
    refine ifB_intro (fun hw => ?_) (fun hw => ?_)
    · refine idx_rdN S.rd rfl hcW fun p _ hp => ld_sl hp fun x hx => ?_
      refine idx_rdN hx rfl (show i < W[c].length by rw [hwr]; exact hil) fun p _ hp => ld_one hp ?_
      rw [hwg]
      refine ifB_false ?_ tail
      rw [hiff, hw, Bool.true_and]; simp
    · refine ifB_false ?_ tail
      rw [hiff, hw, Bool.false_and]; rfl
  have le : idx 1 r1 (i : Int) fun p_17 => ld (.int .i64) h6 p_17 fun (x_17 : Int) => k1 (decide (x_17 > (i : Int))) h6 := by
    refine idx_rdN S.rot3.rd rfl hiP fun p _ hp => ld_one hp ?_
    have := parts_le hiP
    rw [decide_eq_false (show ¬ ((partsF G)[i] > (i : Int)) by omega)]
    exact next
  refine (leads_calls (g1.old S.old) (a := (i : Int)) (b := (i : Int)) (by omega) (by omega)).mono ?_
  rintro v h8 ⟨rfl, rfl⟩
  refine ⟨_, rfl, ifB_intro (fun hlead => ?_) (fun _ => le)⟩
  rw [Int.toNat_natCast] at hlead
  refine idx_rdN S.swap.rd rfl hiR fun p _ hp => ld_one hp ?_
  rw [(hR i hiR).2 ⟨i, hlead, hil, .refl⟩]
  exact ifB_false rfl le

theorem callsKeeps_calls {h : Heap} {g : Sl} {G : Graph} (hg : rdSl eInts h g G) :
    ACalls Try.prog F_lateenlaw20_CallsKeeps [g.v] h (fun v h' => v = .bool true ∧ Old h h') := by
  refine lateenlaw20_CallsKeeps_of ?_
  unfold lateenlaw20_CallsKeeps
  have hl := hg.lenEq
  intro k hk
  refine awake20_calls.mono ?_
  rintro v h1 ⟨rfl, o1⟩
  refine ⟨_, rfl, ifB_false rfl ?_⟩
  have g1 := hg.old o1
  refine (few_calls g1 60).mono ?_
  rintro v h2 ⟨rfl, rfl⟩
  refine ⟨_, rfl, hk _ _ fun _ => ?_⟩
  refine ifB_intro (fun _ => awake20_end o1) (fun hc => ?_)
  have hfew : fewB G 60 = true := by simpa using hc
  have hn : G.length ≤ 1000 := by have := few_le hfew; omega
  refine loop_intro (fun m (t : Sl × Int) h3 => ∃ j : Nat, t.2 = j ∧ j ≤ G.length ∧ m = G.length - j ∧ Fw.Sep h2 h3 [ownSl si_LLint eInts t.1 (G.take j)]) G.length ⟨0, rfl, by omega, by omega, (Fw.Sep.start h2).nil rfl⟩ ?_
  rintro _ _ ⟨was, i⟩ h3 ⟨j, hj0, hj, rfl, S⟩
  simp only at hj0 S ⊢
  subst hj0
  refine ifB_intro (fun hc => ?_) (fun hc => ?_)
  · have hjl : j < G.length := by rw [hl] at hc; simpa using hc
    refine lit_ints [] S (by kernel_rfl) rfl (by decide) fun s h4 S4 => ?_
    refine idx_rdN g1 rfl hjl fun p _ hp => ld_slB hp S4.old fun x hx => ?_
    have hrow := few_row hfew hjl
    refine app_copy S4 flat_int (hx.old S4.old) (by simp only [si_Lint, List.length_nil]; omega) (by simp only [List.length_nil]; omega) fun s1 h5 S5 => ?_
    refine app1_rule (x := G[j]) (S5.toEl.swap) rfl (by decide) (by simp only [si_LLint, List.length_take]; omega) (by simp only [List.length_take]; omega) fun s3 h7 S7 => ?_
    refine ar_i64 (by omega) (by omega) ⟨G.length - (j + 1), by omega, j + 1, rfl, by omega, rfl, ?_⟩
    rw [List.take_succ_eq_append_getElem hjl]
    exact S7
  · have hjG : G.length = j := by rw [hl] at hc; simp at hc; omega
    rw [List.take_of_length_le (by omega)] at S
    refine (cparts_calls (g1.old S.old) hn).mono ?_
    rintro v h4 ⟨r1, rfl, T⟩
    refine ⟨r1, rfl, ?_⟩
    have S := S.frame T
    refine (corder_calls (g1.old S.old) hn).mono ?_
    rintro v h5 ⟨r2, rfl, T⟩
    refine ⟨r2, rfl, ?_⟩
    have S := S.frame T
    clear T
    have hpl := partsF_len G
    have hll := leftA_len G
    refine loop_intro (fun m (t : Int) h6 => ∃ (i : Nat) (P R : List Int), t = i ∧ i ≤ G.length ∧ P.length = G.length ∧ R.length = G.length ∧ m = G.length - i ∧
      Fw.Sep h2 h6 [ownSl si_Lint eInt r2 R, ownSl si_Lint eInt r1 P, ownSl si_LLint eInts was G]) G.length
      ⟨0, partsF G, leftA G, rfl, by omega, hpl, hll, by omega, S⟩ ?_
    clear S
    rintro _ _ t h6 ⟨i, P, R, rfl, hi, hP, hR, rfl, S⟩
    have hrl := S.swap.rd.lenEq
    refine ifB_intro (fun hc => ?_) (fun hc => ?_)
    · have hil : i < P.length := by rw [hrl] at hc; simpa using hc
      have hiR : i < R.length := by omega
      refine idx_rdN S.swap.rd rfl hil fun p hat _ => ?_
      refine st_flat S.swap (x := (-7 : Int)) (own_int _) hat rfl hil fun h7 S7 => ?_
      have S7 := S7.swap
      refine idx_rdN S7.rd rfl hiR fun p hat _ => ?_
      refine st_flat S7 (x := (-7 : Int)) (own_int _) hat rfl hiR fun h8 S8 => ?_
      exact ar_i64 (by omega) (by omega) ⟨G.length - (i + 1), by omega, i + 1, _, _, rfl, by omega, by simpa using hP, by simpa using hR, rfl, S8⟩
    · intro kk hkk
      have S := S.rot3
      refine (sameLists_calls (g1.old S.old) S.rd).mono ?_
      rintro v h8 ⟨rfl, rfl⟩
      refine ⟨_, rfl, ifB_true (by simp) ?_⟩
      refine (cparts_calls (g1.old S.old) hn).mono ?_
      rintro v h9 ⟨r5, rfl, T5⟩
      refine ⟨r5, rfl, ?_⟩
      have S5 := S.frame T5
      refine (refParts_calls (g1.old S5.old) hn).mono ?_
      rintro v h10 ⟨r6, rfl, T6⟩
      refine ⟨r6, rfl, ?_⟩
      have S6 := S5.frame T6
      refine (same_calls S6.swap.rd S6.rd).mono ?_
      rintro v h11 ⟨rfl, rfl⟩
      exact ⟨_, rfl, hkk _ _ fun _ => ⟨by simp, o1.trans S6.old⟩⟩

end Go.Proofs.Ythdidcnpiaeleaa
