/-
  lateenref20: down, Order, Ways, Parts, Round.
-/
import Derived.Test.YthdidcnpiaeleaaFnHelp
import Derived.Test.YthdidcnpiaeleaaFnCalls4
namespace Go.Proofs.Ythdidcnpiaeleaa
open Go.Fw Go.Pl

theorem partsF_P (G : Graph) : PartsP G (partsF G) := by
  refine ⟨by simp [partsF], fun v hv => ?_⟩
  have hv' : v < G.length := by simpa [partsF] using hv
  obtain ⟨h1, h2⟩ := lst_spec hv' v (Nat.le_refl _)
  exact ⟨lst G v v, by simp [partsF], h1, fun d hd => h2 d (by omega) (mut_lt hv' hd) hd⟩
theorem roundF_P (G : Graph) : RoundP G (roundF G) := by
  refine ⟨by simp [roundF], fun v hv => ?_⟩
  have hv' : v < G.length := by simpa [roundF] using hv
  rw [show (roundF G)[v] = wayB G v v from by simp [roundF]]
  exact way_cyc hv'
theorem cparts_calls {h : Heap} {g : Sl} {G : Graph} (hg : rdSl eInts h g G) (hn : G.length ≤ 1000) :
    ACalls Try.prog F_calls_Parts [g.v] h (fun v h' => ∃ s : Sl, v = s.v ∧ Fw.Sep h h' [ownSl si_Lint eInt s (partsF G)]) := by
  refine (parts_calls hg hn).mono ?_
  rintro v h1 ⟨s, Pt, rfl, hP, S⟩
  rw [hP.unique (partsF_P G)] at S
  exact ⟨s, rfl, S⟩
theorem cround_calls {h : Heap} {g : Sl} {G : Graph} (hg : rdSl eInts h g G) (hn : G.length ≤ 1000) :
    ACalls Try.prog F_calls_Round [g.v] h (fun v h' => ∃ s : Sl, v = s.v ∧ Fw.Sep h h' [ownSl si_Lbool eBool s (roundF G)]) := by
  refine (round_calls hg hn).mono ?_
  rintro v h1 ⟨s, Pt, rfl, hP, S⟩
  rw [hP.unique (roundF_P G)] at S
  exact ⟨s, rfl, S⟩

theorem st_row2 {α : Type} {si ri : SlI} {E : Elem α} {h0 h : Heap} {L : List As} {s x : Sl} {p : Addr} {ll : List (List α)} {i k m : Nat} {vs : List Value} {u : α} {K : Heap → Prop}
    (S : Fw.Sep h0 h (ownSl si (Elem.sl ri E) s ll :: L)) (hi : i < ll.length) (hk : k < ll[i].length) (hm : m = E.size) (hu : ∀ h, E.own vs u h []) (hat : At (Elem.sl ri E).size s i p) (hp : hcell h p = some x.v)
    (hK : ∀ h', Fw.Sep h0 h' (ownSl si (Elem.sl ri E) s (ll.set i (ll[i].set k u)) :: L) → K h') :
    idx m x (k : Int) fun p3 => st vs h p3 K := by
  obtain ⟨xs, hc, S2⟩ := (Sep.raw.2 S).away (i := i) (x := ll[i]) (by simpa using hi) (by simp)
  obtain ⟨y, rfl, S3⟩ := S2.swap.ofEl
  have e := hc p hat 0 y.v rfl
  rw [Addr.add_zero', hp] at e
  have e := Sl.v_inj (Option.some.inj e)
  subst e
  refine idx_rdN S3.rd hm hk fun p3 hat3 _ => ?_
  subst hm
  refine st_flat S3 hu hat3 rfl hk fun h' S4 => hK h' ?_
  have S5 := S4.toEl.swap.back (i := i) (by simpa using hi) (by simp; rfl)
  refine Sep.raw.1 (S5.cast ?_)
  congr 2
  rw [List.set_set, List.map_set]

theorem down20_calls {h0 : Heap} {g : Sl} {G : Graph} (hg : rdSl eInts h0 g G) (hn : G.length ≤ 1000) : ∀ (f : Nat) (h : Heap) (L : List As) (m left : Sl) (M : List Bool) (l : List Int) (a : Nat),
    Sep h0 h (ownSl si_Lint eInt left l :: L) → rdSl eBool h m M → M.length = G.length → a < G.length → M.getD a false = false → open' M ≤ f → l.length + open' M ≤ 1000 →
    ACalls Try.prog F_lateenref20_down [g.v, .int .i64 a, m.v, left.v] h (fun v h' => ∃ r1 r2 : Sl, v = .tuple #[r1.v, r2.v] ∧ Sep h0 h' (ownSl si_Lbool eBool r1 (dn G f a M l).1 :: ownSl si_Lint eInt r2 (dn G f a M l).2 :: L))
  | 0, h, L, m, left, M, l, a, S, hm, hM, ha, hma, hf, hsum => by
    have := count_set (M := M) (a := a) (by omega) (by simpa [List.getD_eq_getElem?_getD, show a < M.length by omega] using hma)
    omega
  | f + 1, h, L, m, left, M, l, a, S, hm, hM, ha, hma, hf, hsum => by
    have hc := count_set (M := M) (a := a) (by omega) (by simpa [List.getD_eq_getElem?_getD, show a < M.length by omega] using hma)
    refine lateenref20_down_of ?_
    have hl := hg.lenEq
    unfold lateenref20_down
    refine app_copy (S.nil (si := si_Lbool) (E := eBool) rfl) flat_bool hm (by simp only [si_Lbool, List.length_nil]; omega) (by simp only [List.length_nil]; omega) fun now h1 S1 => ?_
    simp only [List.nil_append] at S1
    refine idx_rdN S1.rd rfl (show a < M.length by omega) fun p hat _ => ?_
    refine st_flat S1 (own_bool true) hat rfl (by omega) fun h2 S2 => ?_
    obtain ⟨row, hrow0⟩ : ∃ row, G.getD a [] = row := ⟨_, rfl⟩
    refine loop_intro (fun m t h1 => ∃ i : Nat, t.2.2 = i ∧ i ≤ row.length ∧ m = row.length - i ∧
      Sep h0 h1 (ownSl si_Lbool eBool t.2.1 ((row.take i).foldl (stepDn G.length (dn G f)) (M.set a true, l)).1 :: ownSl si_Lint eInt t.1 ((row.take i).foldl (stepDn G.length (dn G f)) (M.set a true, l)).2 :: L)) row.length
      ⟨0, rfl, by omega, by omega, S2⟩ ?_
    clear S S1 S2 hat
    rintro _ _ ⟨left, now, i⟩ h3 ⟨i, hi0, hi, rfl, S⟩
    simp only at hi0 S
    subst hi0
    have hfs := fold_sum G f (row.take i) (M.set a true, l) (by simpa using hM)
    generalize hs : (row.take i).foldl (stepDn G.length (dn G f)) (M.set a true, l) = s at S hfs
    obtain ⟨f1, f2, f3⟩ := hfs
    simp only at f2 f3
    refine idx_rdN hg rfl ha fun p _ hp => ld_slB hp S.old fun x hx => ?_
    rw [row_eq, hrow0] at hx
    have hxl := hx.lenEq
    have hxb := hx.bound
    refine ifB_intro (fun hc => ?_) (fun hc => ?_)
    · have hil : i < row.length := by have := of_decide_eq_true hc; simp only at this; omega
      intro k1 hk1
      refine idx_rdN hg rfl ha fun p _ hp => ld_slB hp S.old fun y hy => ?_
      rw [row_eq, hrow0] at hy
      refine idx_rdN hy rfl hil fun p _ hp => ld_oneB hp S.old ?_
      have hstep : (row.take (i + 1)).foldl (stepDn G.length (dn G f)) (M.set a true, l) = stepDn G.length (dn G f) s row[i] := by
        rw [List.take_succ_eq_append_getElem hil, List.foldl_append, hs]; rfl
      have fin : ∀ (r2 r1 : Sl) h4, Sep h0 h4 (ownSl si_Lbool eBool r1 (stepDn G.length (dn G f) s row[i]).1 :: ownSl si_Lint eInt r2 (stepDn G.length (dn G f) s row[i]).2 :: L) → k1 (r2, r1) h4 := fun r2 r1 h4 S4 =>
        hk1 _ _ fun _ => ar_i64 (by simp only; omega) (by simp only; omega) ⟨row.length - (i + 1), by omega, i + 1, rfl, by omega, rfl, by rw [hstep]; exact S4⟩
      intro k2 hk2
      have skip : ¬ (0 ≤ row[i] ∧ row[i] < G.length ∧ s.1.getD row[i].toNat false = false) → k2 false h3 := fun hno =>
        hk2 _ _ fun _ => fin _ _ _ (by rw [show stepDn G.length (dn G f) s row[i] = s from if_neg hno]; exact S)
      refine ifB_intro (fun hc => ?_) (fun hc => skip fun hno => ?_)
      · refine ifB_intro (fun hc2 => ?_) (fun hc2 => skip fun hno => ?_)
        · have h1k := of_decide_eq_true hc
          have h2k := of_decide_eq_true hc2
          obtain ⟨k, hkx⟩ := Int.eq_ofNat_of_zero_le (a := row[i]) (by omega)
          have hkn : k < G.length := by omega
          have hkM : k < s.1.length := by omega
          rw [hkx]
          refine idx_rdN S.rd rfl hkM fun p _ hp => ld_one hp ?_
          cases hMk : s.1[k] with
          | true =>
            refine skip fun hno => ?_
            have := hno.2.2
            rw [hkx] at this
            simp [hkM, hMk] at this
          | false =>
            have hMk' : s.1.getD k false = false := by simp [hkM, hMk]
            refine hk2 _ _ fun _ => ?_
            simp only [Bool.not_false, ifB]
            rw [hkx]
            have IH := down20_calls hg hn f h3 (ownSl si_Lbool eBool now s.1 :: L) now left s.1 s.2 k S.swap S.rd f1 hkn hMk' (by omega) (by omega)
            refine IH.mono ?_
            rintro v h4 ⟨r1, r2, rfl, S4⟩
            refine ⟨r1, r2, rfl, fin _ _ _ ?_⟩
            have e : stepDn G.length (dn G f) s row[i] = dn G f k s.1 s.2 := by
              unfold stepDn
              rw [hkx, if_pos ⟨by omega, by omega, by simpa using hMk'⟩]
              simp
            rw [e]
            exact S4.rot3.drop
        · have := of_decide_eq_false hc2; omega
      · have := of_decide_eq_false hc; omega
    · have hil : i = row.length := by have := of_decide_eq_false hc; simp only at this; omega
      subst hil
      rw [List.take_length] at hs
      refine app1_flat S.swap (own_int a) rfl (by decide) (by simp only [si_Lint]; omega) (by omega) fun s2 h5 S5 => ?_
      refine ⟨now, s2, rfl, ?_⟩
      have e : dn G (f + 1) a M l = (s.1, s.2 ++ [(a : Int)]) := by
        unfold dn
        rw [hrow0, hs]
      rw [e]
      exact S5.swap


theorem refCorder_calls {h : Heap} {g : Sl} {G : Graph} (hg : rdSl eInts h g G) (hn : G.length ≤ 1000) :
    ACalls Try.prog F_lateenref20_Order [g.v] h (fun v h' => ∃ s : Sl, v = s.v ∧ Fw.Sep h h' [ownSl si_Lint eInt s (leftA G)]) := by
  refine lateenref20_Order_of ?_
  have hl := hg.lenEq
  unfold lateenref20_Order
  refine ⟨rfl, mk_rule (x := false) (E := eBool) (Fw.Sep.start h) rfl (own_bool false) (by omega) (by omega) (by simp only [si_Lbool]; omega) fun s h1 S => ?_⟩
  rw [hl, Int.toNat_natCast] at S
  have hop : open' (List.replicate G.length false) = G.length := by unfold open'; simp
  refine loop_intro (fun m (t : Sl × Sl × Int) h2 => ∃ (j : Nat) (M : List Bool) (l : List Int), t.2.2 = j ∧ j ≤ G.length ∧ m = G.length - j ∧ (M, l) = allDn G j ∧ M.length = G.length ∧ l.length + open' M = G.length ∧
      Fw.Sep h h2 [ownSl si_Lint eInt t.2.1 l, ownSl si_Lbool eBool t.1 M]) G.length
    ⟨0, _, _, rfl, by omega, by omega, rfl, by simp, by simpa using hop, S.nil rfl⟩ ?_
  clear S hop
  rintro _ _ ⟨mk, left, j⟩ h2 ⟨j, M, l, hj0, hj, rfl, hall, hM, hsum, S⟩
  simp only at hj0 S ⊢
  subst hj0
  refine ifB_intro (fun hc => ?_) (fun hc => ?_)
  · have hjl : j < G.length := by rw [hl] at hc; simpa using hc
    have e1 : (allDn G j).1 = M := by rw [← hall]
    have e2 : (allDn G j).2 = l := by rw [← hall]
    intro k hk
    refine idx_rdN S.swap.rd rfl (show j < M.length by omega) fun p _ hp => ld_one hp ?_
    refine ifB_intro (fun hm => ?_) (fun hm => ?_)
    · have hMj : M.getD j false = false := by
        rw [getD_lt (show j < M.length by omega)]
        simpa using hm
      have hop : open' M ≤ G.length := by unfold open'; exact Nat.le_trans List.count_le_length (by omega)
      refine (down20_calls hg hn G.length h2 _ mk left M l j S S.swap.rd hM hjl hMj hop (by omega)).mono ?_
      rintro v h3 ⟨r1, r2, rfl, S3⟩
      refine ⟨r1, r2, rfl, hk _ _ fun _ => ar_i64 (by omega) (by omega) ⟨G.length - (j + 1), by omega, j + 1, (dn G G.length j M l).1, (dn G G.length j M l).2, rfl, by omega, rfl, ?_, ?_, ?_, S3.rot3.drop.swap⟩⟩
      · rw [allDn_succ, e1, e2, if_pos hMj]
      · rw [(dn_grows G G.length j (M, l)).len]; exact hM
      · have := dn_sum G G.length j M l hM (by omega) hMj
        omega
    · refine hk _ _ fun _ => ar_i64 (by omega) (by omega) ⟨G.length - (j + 1), by omega, j + 1, M, l, rfl, by omega, rfl, ?_, hM, hsum, S⟩
      have hMj : ¬ M.getD j false = false := by
        rw [getD_lt (show j < M.length by omega)]
        simpa using hm
      rw [allDn_succ, e1, if_neg hMj]
      exact hall
  · have hjl : j = G.length := by rw [hl] at hc; simp at hc; omega
    subst hjl
    refine ⟨left, rfl, ?_⟩
    have : l = leftA G := by unfold leftA; rw [← hall]
    rw [← this]
    exact S.swap.drop

end Go.Proofs.Ythdidcnpiaeleaa
