/-
  loops.body: the walk.
-/
import Derived.Test.YtniflhbfnkadhaaFnLoops3
namespace Go.Proofs.Ytniflhbfnkadhaa
open Go.Fw Go.Pl

theorem ints_len (l : List Nat) : (ints l).length = l.length := by simp [ints]
theorem ints_app (l m : List Nat) : ints (l ++ m) = ints l ++ ints m := by simp [ints]
theorem mlk_mkd {h : Heap} {m : Option Nat} {l : List (Int × Unit)} {k : Nat} {K : Bool → Prop} (r : I.rdM (fun _ => .bool true) h m l) (hK : K (mkd l k)) :
    mlk (.int .i64) m (.int .i64 (k : Int)) h fun r => as1 .bool (r.getD (.bool false)) fun y => K y := by
  refine I.mlk_rule r ?_
  unfold mkd at hK
  cases e : I.aget (k : Int) l with
  | none => rw [e] at hK; exact ⟨false, rfl, hK⟩
  | some x => rw [e] at hK; exact ⟨true, rfl, hK⟩

theorem body_calls {h : Heap} {preds come back : Sl} {G : Graph} {hd : Nat} (hp : rdSl eInts h preds (predsOf G)) (hc : rdSl eBool h come (comeOf G)) (hb : rdSl eInt h back (ints (backF G hd))) (hn : G.length ≤ 1000) (hh : hd < G.length) :
    ACalls Try.prog F_loops_body [preds.v, come.v, .int .i64 (hd : Int), back.v] h (fun v h' => ∃ s : Sl, v = s.v ∧ Sep h h' [ownSl si_Lint eInt s (ints (bodyF G hd))]) := by
  refine loops_body_of ?_
  unfold loops_body
  have hcl := come_len G
  have hcln := hc.lenEq
  have hbl : (backF G hd).length ≤ G.length := by unfold backF; exact Nat.le_trans (List.length_filter_le _ _) (by simp)
  refine I.mkm_rule (vf := fun _ : Unit => Value.bool true) (Sep.start h) fun m h1 _ S1 => ?_
  refine I.mup_rule (x := ()) S1 rfl fun h2 S2 => ?_
  refine (clone_calls (hb.old S2.old) (by rw [ints_len]; omega)).mono ?_
  rintro v h3 ⟨r, rfl, T⟩
  refine ⟨r, rfl, ?_⟩
  have S := S2.frame T
  clear S1 S2 T
  have hu : ∀ l, unm G.length l ≤ G.length := fun l => by unfold unm; exact Nat.le_trans (List.length_filter_le _ _) (by simp)
  refine loop_intro (fun f (todo : Sl) h4 => ∃ (l : List (Int × Unit)) (T : List Nat), f = (G.length + 1) * unm G.length l + T.length ∧ BI G hd l T ∧ T.length + G.length * unm G.length l ≤ 1001000 ∧ Sep h h4 [ownSl si_Lint eInt todo (ints T), ownU m l])
    ((G.length + 1) * unm G.length (I.aput (hd : Int) () []) + (backF G hd).length) ⟨_, backF G hd, rfl, ⟨by simp [mkd_put], fun k hk => ?_, fun t ht => ?_, fun b hb => .inr (mem_backF.2 ⟨hb.lt.2, hb⟩), fun k p hk hne _ _ => ?_⟩, ?_, S⟩ ?_
  · rw [mkd_put] at hk
    have : k = hd := by simpa [mkd, I.aget] using hk
    subst this
    exact ⟨hh, .head⟩
  · exact ⟨(mem_backF.1 ht).1, fun _ => .back (mem_backF.1 ht).2⟩
  · rw [mkd_put] at hk
    exact absurd (by simpa [mkd, I.aget] using hk) hne
  · have := Nat.mul_le_mul hn (Nat.le_trans (hu (I.aput (hd : Int) () [])) hn)
    omega
  clear S
  rintro _ _ todo h4 ⟨l, T, rfl, b, hsz, S⟩
  have htl := S.rd.lenEq
  rw [ints_len] at htl
  refine ifB_intro (fun hcc => ?_) (fun hcc => ?_)
  · have hpos : 0 < T.length := by have := of_decide_eq_true hcc; omega
    obtain ⟨T', x, rfl⟩ : ∃ T' x, T = T' ++ [x] := ⟨T.dropLast, T.getLast (by intro e; simp [e] at hpos), (List.dropLast_concat_getLast _).symm⟩
    rw [List.length_append, List.length_singleton] at htl hsz
    obtain ⟨hxn, hxi⟩ := b.todo x (by simp)
    refine ar_i64 (by omega) (by omega) ?_
    rw [show (todo.len : Int) - 1 = ((T'.length : Nat) : Int) from by omega]
    refine idx_rdN S.rd rfl (show T'.length < (ints (T' ++ [x])).length by rw [ints_len]; simp) fun p _ hp3 => ld_one hp3 ?_
    rw [show (ints (T' ++ [x]))[T'.length]'(by rw [ints_len]; simp) = (x : Int) from by simp [ints]]
    refine ar_i64 (by omega) (by omega) ?_
    refine slc_to S (by omega) (by rw [ints_len, List.length_append]; simp; omega) fun s S => ?_
    rw [Int.toNat_natCast, ints_app, List.take_append_of_le_length (by rw [ints_len]; omega), List.take_of_length_le (by rw [ints_len]; omega)] at S
    intro k hk
    have skip : mkd l x = true ∨ ¬ Rch G x → k true h4 := fun hs => hk _ _ fun _ => ⟨_, by simp, l, T', rfl, b.skip hs, by omega, S⟩
    refine mlk_mkd (I.rdM_of S.swap) ?_
    refine ifB_intro (fun hm => skip (.inl hm)) (fun hm => ?_)
    have hxc : x < (comeOf G).length := by omega
    refine idx_rdN hc rfl hxc fun p _ hp3 => ld_oneB hp3 S.old ?_
    have hcr := come_reach (G := G) (by omega) x
    rw [getD_lt hxc] at hcr
    cases hr : (comeOf G)[x] with
    | false => exact skip (.inr fun h => by rw [hcr.2 h] at hr; cases hr)
    | true =>
      refine hk _ _ fun _ => ?_
      refine ifB_false rfl ?_
      refine I.mup_rule (x := ()) S.swap rfl fun h6 S6 => ?_
      have hxp : x < (predsOf G).length := by rw [predsOf_len]; exact hxn
      refine idx_rdN hp rfl hxp fun p1 _ hp1 => ld_slB hp1 S6.old fun y hy => ?_
      rw [preds_row hxp] at hy
      have hpr := prs_len (G := G) (k := x)
      have hun := unm_put (n := G.length) hxn hm
      have hmul : G.length * unm G.length l = G.length * unm G.length (I.aput (x : Int) () l) + G.length := by rw [← hun, Nat.mul_succ]
      refine app_copy S6.swap flat_int (hy.old S6.old) (by simp only [si_Lint, ints_len, List.length_map]; omega) (by simp only [ints_len, List.length_map]; omega) fun s1 h7 S7 => ?_
      refine ⟨_, ?_, _, T' ++ prs G x, rfl, b.mark (hcr.1 hr) hm, by rw [List.length_append]; omega, by rw [ints_app]; exact S7⟩
      rw [← hun, Nat.mul_succ]; simp; omega
  · have h0 : T = [] := List.eq_nil_of_length_eq_zero (by have := of_decide_eq_false hcc; omega)
    subst h0
    have hbody : bodyF G hd = (List.range G.length).filter (mkd l) := by
      unfold bodyF
      refine List.filter_congr fun a _ => ?_
      rw [Bool.eq_iff_iff, inB_iff, b.fin]
    have S0 := S.drop
    refine loop_intro (fun f (t : Sl × Int) h5 => ∃ j : Nat, t.2 = j ∧ j ≤ G.length ∧ f = G.length - j ∧ Sep h h5 [ownSl si_Lint eInt t.1 (ints ((List.range j).filter (mkd l))), ownU m l]) G.length ⟨0, rfl, by omega, by omega, S0.nil rfl⟩ ?_
    rintro _ _ ⟨out, j⟩ h5 ⟨j, hj0, hj, rfl, S⟩
    simp only at hj0 S ⊢
    subst hj0
    refine ifB_intro (fun hcc => ?_) (fun hcc => ?_)
    · have hjl : j < G.length := by rw [hcln, hcl] at hcc; simpa using hcc
      have hfl : ((List.range j).filter (mkd l)).length ≤ j := Nat.le_trans (List.length_filter_le _ _) (by simp)
      intro k hk
      have fin : ∀ (s' : Sl) h', Sep h h' [ownSl si_Lint eInt s' (ints ((List.range (j + 1)).filter (mkd l))), ownU m l] → k s' h' := fun s' h' S' => hk _ _ fun _ => ar_i64 (by omega) (by omega) ⟨G.length - (j + 1), by omega, j + 1, rfl, by omega, rfl, S'⟩
      rw [List.range_succ, List.filter_append, ints_app] at fin
      refine mlk_mkd (I.rdM_of S.swap) ?_
      refine ifB_intro (fun hm => ?_) (fun hm => fin _ _ (S.cast (by simp [hm, ints])))
      refine app1_flat S (own_int (j : Int)) rfl (by decide) (by simp only [si_Lint, ints_len]; omega) (by rw [ints_len]; omega) fun s3 h7 S7 => ?_
      exact fin _ _ (S7.cast (by simp [hm, ints]))
    · have hjl : G.length = j := by rw [hcln, hcl] at hcc; simp at hcc; omega
      subst hjl
      rw [← hbody] at S
      exact ⟨out, rfl, S.swap.drop⟩

end Go.Proofs.Ytniflhbfnkadhaa
