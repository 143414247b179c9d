/-
  loops.All.
-/
import Derived.Test.YtniflhbfnkadhaaFnLoops4
namespace Go.Proofs.Ytniflhbfnkadhaa
open Go.Fw Go.Pl

abbrev eLoop : Elem (Int × List Int × List Int) := Elem.prod eInt (Elem.prod eInts eInts)
def loopsT (G : Graph) (k : Nat) : List (Int × List Int × List Int) := ((List.range k).filter fun h => !(backF G h).isEmpty).map fun (h : Nat) => ((h : Int), ints (bodyF G h), ints (backF G h))
theorem loopsT_len (G : Graph) (k : Nat) : (loopsT G k).length ≤ k := by
  unfold loopsT
  rw [List.length_map]
  exact Nat.le_trans (List.length_filter_le _ _) (by simp)
theorem loopsT_succ (G : Graph) (k : Nat) : loopsT G (k + 1) = loopsT G k ++ if (backF G k).isEmpty then [] else [((k : Int), ints (bodyF G k), ints (backF G k))] := by
  unfold loopsT
  rw [List.range_succ, List.filter_append, List.map_append]
  cases e : (backF G k).isEmpty <;> simp [e]
theorem own_loop {h0 h : Heap} {L : List As} {a : Int} {s t : Sl} {l m : List Int} (S : Sep h0 h (ownSl si_Lint eInt s l :: ownSl si_Lint eInt t m :: L)) : Sep h0 h (ownEl eLoop [.int .i64 a, s.v, t.v] (a, l, m) :: L) :=
  S.two loc_ownEl fun f g hA hB => ⟨[.int .i64 a], [s.v, t.v], [], f ++ g, rfl, rfl, own_int a h, [s.v], [t.v], f, g, rfl, rfl, ⟨s, rfl, hA⟩, ⟨t, rfl, hB⟩⟩

theorem loopsAll_calls {h : Heap} {g : Sl} {G : Graph} (hg : rdSl eInts h g G) (hn : G.length ≤ 1000) :
    ACalls Try.prog F_loops_All [g.v] h (fun v h' => ∃ s : Sl, v = s.v ∧ Sep h h' [ownSl si_Lloops_Loop eLoop s (loopsF G)]) := by
  refine loops_All_of ?_
  unfold loops_All
  refine (preds_calls hg hn).mono ?_
  rintro v h1 ⟨r, rfl, T1⟩
  refine ⟨r, rfl, ?_⟩
  refine (come_calls (hg.old T1.old) hn).mono ?_
  rintro v h2 ⟨r1, rfl, T2⟩
  refine ⟨r1, rfl, ?_⟩
  have hcome := T2.rd
  have hpreds := (T1.grow T2.old).rd
  have o2 := T1.old.trans T2.old
  refine (backs_calls (hg.old o2) hn).mono ?_
  rintro v h3 ⟨r2, rfl, S⟩
  refine ⟨r2, rfl, ?_⟩
  have hbl := backsL_len G
  have hrl := S.rd.lenEq
  have S := (Sep.raw.2 S).nil (si := si_Lloops_Loop) (E := eLoop) rfl
  refine loop_intro (fun f (t : Sl × Int) h4 => ∃ (k : Nat) (R : List (List Int ⊕ List Value)), t.2 = k ∧ k ≤ G.length ∧ f = G.length - k ∧ R.length = G.length ∧ (∀ a (ha : a < R.length), k ≤ a → R[a] = .inl (ints (backF G a))) ∧
      Sep h2 h4 [ownSl si_Lloops_Loop eLoop t.1 (loopsT G k), ownSl si_LLint (Elem.raw (Elem.sl si_Lint eInt)) r2 R]) G.length
    ⟨0, _, rfl, by omega, by omega, by simpa using hbl, fun a ha _ => by simp [backsL], S⟩ ?_
  clear S
  rintro _ _ ⟨out, k⟩ h4 ⟨k, R, hk0, hk, rfl, hR, hRa, S⟩
  simp only at hk0 S ⊢
  subst hk0
  refine ifB_intro (fun hc => ?_) (fun hc => ?_)
  · have hkl : k < G.length := by rw [hrl, hbl] at hc; simpa using hc
    have hkR : k < R.length := by omega
    intro k1 hk1
    have hlt := loopsT_len G k
    have fin : ∀ (s' : Sl) h' R', R'.length = G.length → (∀ a (ha : a < R'.length), k + 1 ≤ a → R'[a] = .inl (ints (backF G a))) → Sep h2 h' [ownSl si_Lloops_Loop eLoop s' (loopsT G (k + 1)), ownSl si_LLint (Elem.raw (Elem.sl si_Lint eInt)) r2 R'] → k1 s' h' :=
      fun s' h' R' h1 h2 S' => hk1 _ _ fun _ => ar_i64 (by omega) (by omega) ⟨G.length - (k + 1), by omega, k + 1, R', rfl, by omega, rfl, h1, h2, S'⟩
    rw [loopsT_succ] at fin
    refine idx_rdN S.swap.rd rfl hkR fun p hat _ => ?_
    obtain ⟨xs, hxc, S2⟩ := S.swap.away (i := k) (x := ints (backF G k)) hkR (hRa k hkR (Nat.le_refl _))
    obtain ⟨x, rfl, S3⟩ := S2.swap.ofEl
    clear S2
    refine ld_one (x := x) (by have := hxc p hat 0 x.v rfl; rwa [Addr.add_zero'] at this) ?_
    have hR1 : (R.set k (.inr [x.v])).length = G.length := by simpa using hR
    have hR2 : ∀ a (ha : a < (R.set k (.inr [x.v])).length), k + 1 ≤ a → (R.set k (.inr [x.v]))[a] = .inl (ints (backF G a)) := fun a ha h => by
      rw [List.getElem_set, if_neg (by omega)]
      exact hRa a (by simpa using ha) (by omega)
    have hxl := S3.rd.lenEq
    rw [ints_len] at hxl
    refine ifB_intro (fun hc => ?_) (fun hc => ?_)
    · have hne : (backF G k).isEmpty = false := by
        have := of_decide_eq_true hc
        cases e : backF G k with
        | nil => rw [e] at hxl; simp at hxl; omega
        | cons _ _ => rfl
      rw [hne] at fin
      refine (body_calls (hpreds.old S3.old) (hcome.old S3.old) S3.rd hn hkl).mono ?_
      rintro v h6 ⟨b, rfl, T⟩
      refine ⟨b, rfl, ?_⟩
      have S4 := own_loop (a := (k : Int)) (S3.frame T)
      refine ⟨#[.int .i64 (k : Int), b.v, x.v], by kernel_rfl, ?_⟩
      refine app1_rule (v := .agg #[.int .i64 (k : Int), b.v, x.v]) (S4.rot3) rfl (by decide) (by simp only [si_Lloops_Loop]; omega) (by omega) fun s' h7 S7 => ?_
      exact fin s' h7 _ hR1 hR2 S7
    · have he : (backF G k).isEmpty = true := by
        have := of_decide_eq_false hc
        rw [List.isEmpty_iff_length_eq_zero]
        omega
      rw [he] at fin
      exact fin out h4 _ hR1 hR2 (S3.drop.swap.cast (by simp))
  · have hkl : G.length = k := by rw [hrl, hbl] at hc; simp at hc; omega
    subst hkl
    exact ⟨out, rfl, S.swap.drop.since o2⟩

end Go.Proofs.Ytniflhbfnkadhaa
