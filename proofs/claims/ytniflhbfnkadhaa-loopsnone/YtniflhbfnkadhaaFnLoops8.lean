/-
  lateenref11: All.
-/
import Derived.Test.YtniflhbfnkadhaaFnLoops7
import Derived.Test.YtniflhbfnkadhaaFwBox2
namespace Go.Proofs.Ytniflhbfnkadhaa
open Go.Fw Go.Pl

theorem beqN (a b : Nat) : ((a : Int) == (b : Int)) = (a == b) := by
  rw [Bool.eq_iff_iff, beq_iff_eq, beq_iff_eq]
  constructor <;> intro h <;> omega
theorem bneN (a b : Nat) : ((a : Int) != (b : Int)) = (a != b) := by
  rw [Bool.eq_iff_iff, bne_iff_ne, bne_iff_ne]
  constructor <;> intro h <;> omega
theorem getm {A : As} {h0 h : Heap} : ∀ {L : List As}, Sep h0 h L → A ∈ L → ∃ f, A h f
  | _ :: _, S, .head _ => S.get
  | _ :: _, S, .tail _ hm => getm S.drop hm
theorem rdm {α : Type} {si : SlI} {E : Elem α} {s : Sl} {l : List α} {h0 h : Heap} {L : List As} (S : Sep h0 h L) (hm : ownSl si E s l ∈ L) : rdSl E h s l := by
  obtain ⟨f, o⟩ := getm S hm
  exact o.rd
theorem step_back {G : Graph} {h i : Nat} (hi : i < G.length) : (stepB G none i h && domB G h i) = backB G h i := by
  rw [Bool.eq_iff_iff, Bool.and_eq_true, stepB_iff, domB_iff hi, backB_iff hi]
  constructor
  · rintro ⟨⟨_, _, _, _, h5⟩, h6⟩; exact ⟨h5, h6⟩
  · rintro ⟨h5, h6⟩; exact ⟨⟨h6.2.1, h6.1, by simp, by simp, h5⟩, h6⟩

theorem refLoops_calls {h : Heap} {g : Sl} {G : Graph} (hg : rdSl eInts h g G) (hn : G.length ≤ 1000) (hrow : ∀ r ∈ G, r.length ≤ 1000) :
    ACalls Try.prog F_lateenref11_All [g.v] h (fun v h' => ∃ s : Sl, v = s.v ∧ Sep h h' [ownSl si_Llateenref11_Loop eLoop s (loopsF G)]) := by
  refine lateenref11_All_of ?_
  have hl := hg.lenEq
  unfold lateenref11_All
  refine (refAll_calls hg hn hrow).mono ?_
  rintro v h1 ⟨r, rfl, T1⟩
  refine ⟨r, rfl, ?_⟩
  refine (steps_calls (hg.old T1.old) hn none).mono ?_
  rintro v h2 ⟨r1, rfl, T2⟩
  refine ⟨r1, rfl, ?_⟩
  have hr := (T1.grow T2.old).rd
  have hr1 := T2.rd
  have o2 := T1.old.trans T2.old
  have hg2 := hg.old o2
  refine loop_intro (fun f (t : Sl × Int) h' => ∃ d : Nat, t.2 = d ∧ d ≤ G.length ∧ f = G.length - d ∧ Sep h2 h' [ownSl si_Llateenref11_Loop eLoop t.1 (loopsT G d)]) G.length ⟨0, rfl, by omega, by omega, (Sep.start h2).nil rfl⟩ ?_
  rintro _ _ ⟨out, d⟩ h4 ⟨d, hd0, hd, rfl, S⟩
  simp only at hd0 S ⊢
  subst hd0
  refine ifB_intro (fun hc => ?_) (fun hc => ?_)
  case refine_2 =>
    have : G.length = d := by rw [hl] at hc; simp at hc; omega
    subst this
    exact ⟨out, rfl, S.since o2⟩
  have hdl : d < G.length := by rw [hl] at hc; simpa using hc
  intro k hk
  have hlt := loopsT_len G d
  have fin : ∀ (s' : Sl) h', Sep h2 h' [ownSl si_Llateenref11_Loop eLoop s' (loopsT G (d + 1))] → k s' h' := fun s' h' S' => hk _ _ fun _ => ar_i64 (by omega) (by omega) ⟨G.length - (d + 1), by omega, d + 1, rfl, by omega, rfl, S'⟩
  rw [loopsT_succ] at fin
  refine ⟨#[.int .i64 (d : Int), .slice none 0 0, .slice none 0 0], by kernel_rfl, ?_⟩
  refine new_stR ((S.nil (si := si_Lint) (E := eInt) rfl).nil (si := si_Lint) (E := eInt) rfl) rfl rfl (by intro v hv; simp at hv; rcases hv with rfl | rfl <;> rfl) fun p h7 S7 => ?_
  clear S
  -- what leads back
  refine loop_intro (fun f (t : Int) h' => ∃ (i : Nat) (y : Sl), t = i ∧ i ≤ G.length ∧ f = G.length - i ∧
      Sep h2 h' [rawB p #[.int .i64 (d : Int), .slice none 0 0, y.v], ownSl si_Lint eInt y (ints ((List.range i).filter (backB G d))), ownSl si_Lint eInt ⟨none, 0, 0⟩ [], ownSl si_Llateenref11_Loop eLoop out (loopsT G d)]) G.length
    ⟨0, ⟨none, 0, 0⟩, rfl, by omega, by omega, S7⟩ ?_
  clear S7
  rintro _ _ t h8 ⟨i, y, rfl, hi, rfl, S⟩
  refine ifB_intro (fun hc => ?_) (fun hc => ?_)
  · have hil : i < G.length := by rw [hl] at hc; simpa using hc
    have hfl : ((List.range i).filter (backB G d)).length ≤ i := Nat.le_trans (List.length_filter_le _ _) (by simp)
    intro k1 hk1
    have nxt : ∀ (y' : Sl) h', Sep h2 h' [rawB p #[.int .i64 (d : Int), .slice none 0 0, y'.v], ownSl si_Lint eInt y' (ints ((List.range (i + 1)).filter (backB G d))), ownSl si_Lint eInt ⟨none, 0, 0⟩ [], ownSl si_Llateenref11_Loop eLoop out (loopsT G d)] → k1 () h' :=
      fun y' h' S' => hk1 _ _ fun _ => ar_i64 (by omega) (by omega) ⟨G.length - (i + 1), by omega, i + 1, y', rfl, by omega, rfl, S'⟩
    rw [List.range_succ, List.filter_append, ints_app] at nxt
    intro k2 hk2
    have key : ∀ t, t = backB G d i → k2 t h8 := fun t ht => hk2 _ _ fun _ => by
      refine ifB_intro (fun hb => ?_) (fun hb => ?_)
      · refine ld_rawB (i := 2) (k := .sl) (x := y) S rfl rfl ?_
        refine app1_flat S.swap (own_int (i : Int)) rfl (by decide) (by simp only [si_Lint, ints_len]; omega) (by rw [ints_len]; omega) fun y' h12 S12 => ?_
        refine st_rawB (i := 2) S12.swap (show 2 < 3 by decide) rfl fun h13 S13 => nxt y' h13 (S13.cast ?_)
        have hbb : backB G d i = true := by rw [← ht, hb]
        simp [ints, hbb]
      · refine nxt y h8 (S.cast ?_)
        have hbb : backB G d i = false := by rw [← ht, hb]
        simp [ints, hbb]
    refine tab_ld hr1 S.old hil hdl ?_
    rw [← step_back hil] at key
    refine ifB_intro (fun hb => ?_) (fun hb => key false (by rw [hb]; rfl))
    refine dom_ld hr S.old hdl hil ?_
    exact key _ (by rw [hb]; rfl)
  have hil : G.length = i := by rw [hl] at hc; simp at hc; omega
  subst hil
  change Sep h2 h8 [_, ownSl si_Lint eInt y (ints (backF G d)), _, _] at S
  have hyl := S.drop.rd.lenEq
  rw [ints_len] at hyl
  have hbl : (backF G d).length ≤ G.length := by unfold backF; exact Nat.le_trans (List.length_filter_le _ _) (by simp)
  refine ld_rawB (i := 2) (k := .sl) (x := y) S rfl rfl ?_
  refine ifB_intro (fun hc => ?_) (fun hc => ?_)
  · have he : (backF G d).isEmpty = true := by
      rw [List.isEmpty_iff_length_eq_zero]
      have : (y.len : Int) = 0 := by simpa using hc
      omega
    rw [he] at fin
    exact fin out h8 (S.drop.drop.drop.cast (by simp))
  have he : (backF G d).isEmpty = false := by
    have h0 : (y.len : Int) ≠ 0 := by simpa using hc
    cases e : backF G d with
    | nil => rw [e] at hyl; simp at hyl; omega
    | cons _ _ => rfl
  rw [he] at fin
  refine (steps_calls (hg2.old S.old) hn (some d)).mono ?_
  rintro v h14 ⟨r2, rfl, T14⟩
  refine ⟨r2, rfl, ?_⟩
  refine (ways_calls T14.rd hn).mono ?_
  rintro v h15 ⟨r3, rfl, T15⟩
  refine ⟨r3, rfl, ?_⟩
  have S15 : Sep h2 h15 [rawB p #[.int .i64 (d : Int), .slice none 0 0, y.v], ownSl si_Lint eInt ⟨none, 0, 0⟩ [], ownSl si_Lint eInt y (ints (backF G d)), ownSl si_Llateenref11_Loop eLoop out (loopsT G d), ownSl si_LLbool eBools r3 (tabL G.length (wT (stepB G (some d)) G.length))] := by
    have := (S.grow T14.old).frame T15
    refine this.perm ?_
    refine (List.perm_append_comm (l₁ := [_]) (l₂ := [_, _, _, _])).trans ?_
    exact (List.Perm.swap _ _ _).cons _
  clear S T14 T15
  refine loop_intro (fun f (t : Int) h' => ∃ (i : Nat) (z : Sl), t = i ∧ i ≤ G.length ∧ f = G.length - i ∧
      Sep h2 h' [rawB p #[.int .i64 (d : Int), z.v, y.v], ownSl si_Lint eInt z (ints ((List.range i).filter fun i => inB G d i)), ownSl si_Lint eInt y (ints (backF G d)), ownSl si_Llateenref11_Loop eLoop out (loopsT G d), ownSl si_LLbool eBools r3 (tabL G.length (wT (stepB G (some d)) G.length))]) G.length
    ⟨0, ⟨none, 0, 0⟩, rfl, by omega, by omega, S15⟩ ?_
  clear S15
  rintro _ _ t h16 ⟨i, z, rfl, hi, rfl, S⟩
  refine ifB_intro (fun hc => ?_) (fun hc => ?_)
  · have hil : i < G.length := by rw [hl] at hc; simpa using hc
    have hfl : ((List.range i).filter fun i => inB G d i).length ≤ i := Nat.le_trans (List.length_filter_le _ _) (by simp)
    intro k3 hk3
    have nxt : ∀ (z' : Sl) h', Sep h2 h' [rawB p #[.int .i64 (d : Int), z'.v, y.v], ownSl si_Lint eInt z' (ints ((List.range (i + 1)).filter fun i => inB G d i)), ownSl si_Lint eInt y (ints (backF G d)), ownSl si_Llateenref11_Loop eLoop out (loopsT G d), ownSl si_LLbool eBools r3 (tabL G.length (wT (stepB G (some d)) G.length))] → k3 () h' :=
      fun z' h' S' => hk3 _ _ fun _ => ar_i64 (by omega) (by omega) ⟨G.length - (i + 1), by omega, i + 1, z', rfl, by omega, rfl, S'⟩
    rw [List.range_succ, List.filter_append, ints_app] at nxt
    have hy := rdm S (.tail _ (.tail _ (.head _)))
    have hw := rdm S (.tail _ (.tail _ (.tail _ (.tail _ (.head _)))))
    refine loop_intro (fun f (t : Bool × Int) h' => ∃ j : Nat, t.2 = j ∧ h' = h16 ∧ j ≤ (backF G d).length ∧ f = (backF G d).length - j ∧
        t.1 = ((backF G d).take j).foldl (fun t b => t || ((b == i && b != d) || (i != d && wT (stepB G (some d)) G.length i b))) (i == d)) (backF G d).length
      ⟨0, rfl, rfl, by omega, by omega, by rw [beqN]; rfl⟩ ?_
    rintro _ _ ⟨inv, j⟩ h18 ⟨j, hj0, rfl, hj, rfl, hinv⟩
    simp only at hj0 hinv ⊢
    subst hj0
    refine ld_rawB (i := 2) (k := .sl) (x := y) S rfl rfl ?_
    refine ifB_intro (fun hc => ?_) (fun hc => ?_)
    · have hjl : j < (backF G d).length := by rw [hyl] at hc; simpa using hc
      have hjy : j < (ints (backF G d)).length := by rw [ints_len]; exact hjl
      have hbm := mem_backF.1 (List.getElem_mem hjl)
      intro k5 hk5
      refine ld_rawB (i := 2) (k := .sl) (x := y) S rfl rfl ?_
      refine idx_rdN hy rfl hjy fun p5 _ hp5 => ld_one hp5 ?_
      rw [show (ints (backF G d))[j] = (((backF G d)[j] : Nat) : Int) from by simp [ints]]
      have htk : (backF G d).take (j + 1) = (backF G d).take j ++ [(backF G d)[j]] := List.take_succ_eq_append_getElem hjl
      generalize (backF G d)[j] = b at hbm htk ⊢
      have nx : ∀ u, u = (inv || ((b == i && b != d) || (i != d && wT (stepB G (some d)) G.length i b))) → k5 u h18 := fun u hu => hk5 _ _ fun _ =>
        ar_i64 (by omega) (by omega) ⟨(backF G d).length - (j + 1), by omega, j + 1, rfl, rfl, by omega, rfl, by
          rw [htk, List.foldl_append, ← hinv]
          exact hu⟩
      have wld : b ≠ b + 1 → (b == i && b != d) = false → ∀ (h0 : inv = false), ifB (i != d) (idx 1 r3 (i : Int) fun p_8 => ld .sl h18 p_8 fun (x_11 : Sl) => idx 1 x_11 (b : Int) fun p_9 => ld .bool h18 p_9 fun (x_12 : Bool) => k5 x_12 h18) (k5 false h18) := fun _ he h0 => by
        refine ifB_intro (fun h1 => ?_) (fun h1 => nx false (by rw [h0, he, h1]; rfl))
        refine tab_ld hw (Old.refl _) hil hbm.1 (nx _ ?_)
        rw [h0, he, h1]; simp
      rw [beqN, bneN, bneN]
      refine ifB_intro (fun h0 => nx true (by rw [h0]; rfl)) (fun h0 => ?_)
      refine ifB_intro (fun h1 => ?_) (fun h1 => wld (by omega) (by rw [h1]; rfl) h0)
      refine ifB_intro (fun h2' => nx true (by rw [h0, h1, h2']; rfl)) (fun h2' => wld (by omega) (by rw [h1, h2']; rfl) h0)
    · have hjl : (backF G d).length ≤ j := by rw [hyl] at hc; simpa using hc
      rw [List.take_of_length_le hjl] at hinv
      change inv = inB G d i at hinv
      refine ifB_intro (fun hb => ?_) (fun hb => ?_)
      · refine ld_rawB (i := 1) (k := .sl) (x := z) S rfl rfl ?_
        refine app1_flat S.swap (own_int (i : Int)) rfl (by decide) (by simp only [si_Lint, ints_len]; omega) (by rw [ints_len]; omega) fun z' h12 S12 => ?_
        refine st_rawB (i := 1) S12.swap (show 1 < 3 by decide) rfl fun h13 S13 => nxt z' h13 (S13.cast ?_)
        simp [ints, ← hinv, hb]
      · refine nxt z h18 (S.cast ?_)
        simp [← hinv, hb, ints]
  have hil : G.length = i := by rw [hl] at hc; simp at hc; omega
  subst hil
  change Sep h2 h16 [_, ownSl si_Lint eInt z (ints (bodyF G d)), _, _, _] at S
  refine ld_rawAgg S rfl ?_
  have S1 := own_loop (a := (d : Int)) S.drop
  refine app1_rule (v := .agg #[.int .i64 (d : Int), z.v, y.v]) S1.swap rfl (by decide) (by simp only [si_Llateenref11_Loop]; omega) (by omega) fun s' h7 S7 => ?_
  exact fin s' h7 (S7.swap.drop)

end Go.Proofs.Ytniflhbfnkadhaa
