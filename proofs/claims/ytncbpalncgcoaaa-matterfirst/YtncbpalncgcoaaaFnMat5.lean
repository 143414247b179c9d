/-
  matter.Order.
-/
import Derived.Test.YtncbpalncgcoaaaFnMat
import Derived.Test.YtncbpalncgcoaaaFwMapE
namespace Go.Proofs.Ytncbpalncgcoaaa
open Go.Fw Go.Fw.I Go.Pl.Api Go.Pl.Vst Go.Pl.Mat Go.Pl.Put Go.Pl

/-- The last ones of the parts, of the first so many. -/
structure LastP (f : Int → Int) (K : List Int) (i : Nat) (M : List (Int × Int)) : Prop where
  got : ∀ j (hj : j < K.length), j < i → ∃ j', ∃ hj' : j' < K.length, j ≤ j' ∧ j' < i ∧ aget (f K[j]) M = some K[j'] ∧ f K[j'] = f K[j] ∧ ∀ z (hz : z < K.length), j' < z → z < i → f K[z] ≠ f K[j]
theorem LastP.step {f : Int → Int} {K : List Int} {i : Nat} {M : List (Int × Int)} (P : LastP f K i M) (hi : i < K.length) : LastP f K (i + 1) (aput (f K[i]) K[i] M) := by
  refine ⟨fun j hj hji => ?_⟩
  by_cases e : f K[j] = f K[i]
  · exact ⟨i, hi, by omega, by omega, by rw [aget_put, if_pos e], e.symm, fun z hz h1 h2 => by omega⟩
  · have hji : j < i := by
      rcases Nat.lt_or_ge j i with h | h
      · exact h
      · have : j = i := by omega
        subst this
        exact absurd rfl e
    obtain ⟨j', hj', h1, h2, h3, h4, h5⟩ := P.got j hj hji
    refine ⟨j', hj', h1, by omega, by rw [aget_put, if_neg e]; exact h3, h4, fun z hz h6 h7 => ?_⟩
    rcases Nat.lt_or_ge z i with h | h
    · exact h5 z hz h6 h
    · have : z = i := by omega
      subst this
      exact fun h => e h.symm
theorem LastP.is {f : Int → Int} {K : List Int} {M : List (Int × Int)} (hn : K.Pairwise (· ≠ ·)) (P : LastP f K K.length M) {i : Nat} (hi : i < K.length) :
    ∃ y, aget (f K[i]) M = some y ∧ (y = K[i] ↔ (K.drop (i + 1)).all (fun y => f y != f K[i]) = true) := by
  obtain ⟨j, hj, h1, h2, h3, h4, h5⟩ := P.got i hi hi
  refine ⟨_, h3, fun e => ?_, fun h => ?_⟩
  · have : j = i := nodup_at hn hj hi e
    subst this
    rw [List.all_eq_true]
    intro y hy
    obtain ⟨z, hz, rfl⟩ := List.getElem_of_mem hy
    rw [List.getElem_drop, bne_iff_ne]
    exact h5 _ (by simp at hz; omega) (by omega) (by simp at hz; omega)
  · rcases Nat.lt_or_ge i j with hlt | hge
    · rw [List.all_eq_true] at h
      have := h K[j] (by rw [List.mem_iff_getElem]; exact ⟨j - (i + 1), by simp; omega, by rw [List.getElem_drop]; congr 1; omega⟩)
      rw [bne_iff_ne] at this
      exact absurd h4 this
    · have : j = i := by omega
      subst this
      rfl
def partOf (G : Graph) (ids : List Int) (k : Int) (j : Nat) : List Int := ((List.range j).filter fun (i : Nat) => prt G (i : Int) == prt G k).map fun (i : Nat) => ids.getD i 0
theorem partOf_succ (G : Graph) (ids : List Int) (k : Int) (j : Nat) : partOf G ids k (j + 1) = partOf G ids k j ++ if prt G (j : Int) = prt G k then [ids.getD j 0] else [] := by
  unfold partOf
  rw [List.range_succ, List.filter_append, List.map_append]
  by_cases e : prt G (j : Int) = prt G k
  · simp [e]
  · simp [e]
theorem partOf_len (G : Graph) (ids : List Int) (k : Int) (j : Nat) : (partOf G ids k j).length ≤ j := by
  unfold partOf
  rw [List.length_map]
  exact Nat.le_trans (List.length_filter_le _ _) (by simp)
theorem orderK_drop {G : Graph} {ids K : List Int} {i : Nat} (hi : i < K.length) : orderK G ids (K.drop i) = (if (K.drop (i + 1)).all (fun y => prt G y != prt G K[i]) then partOf G ids K[i] ids.length else []) ++ orderK G ids (K.drop (i + 1)) := by
  rw [List.drop_eq_getElem_cons hi]
  rfl
theorem parts_len (G : Graph) : (partsF G).length = G.length := by simp [partsF]
theorem ldP {h0 h : Heap} {L : List As} {t : Sl} {G : Graph} {k : Int} {K : Int → Prop} (S : Fw.Sep h0 h (ownSl si_Lint eInt t (partsF G) :: L)) (hk : ∃ i : Nat, k = (i : Int) ∧ i < G.length) (hK : K (prt G k)) :
    idx 1 t k fun p => ld (.int .i64) h p fun x => K x := by
  obtain ⟨i, rfl, hi⟩ := hk
  have hi2 : i < (partsF G).length := by rw [parts_len]; exact hi
  refine idx_rdN S.rd rfl hi2 fun p _ hp => ld_one (k := .int .i64) hp ?_
  unfold prt at hK
  rw [Int.toNat_natCast, getD_lt hi2] at hK
  exact hK
theorem prt_pos {G : Graph} {i : Nat} (hi : i < G.length) : -9223372036854775808 ≤ prt G (i : Int) := by
  rw [prt_eq hi]; omega

set_option maxHeartbeats 2000000 in
theorem order_calls {h : Heap} {s t : Sl} {l : List MObj} {A : List Int} (hs : rdSl rObj.el h s l) (ht : rdSl eInt h t A) (hr : Rising l) (hA : A.length ≤ 1000) (hln : l.length ≤ 1000) (hv : ∀ o ∈ l, o.vals.length ≤ 1000)
    (hid : ∀ o ∈ l, -9223372036854775808 ≤ o.id ∧ o.id ≤ 9223372036854775807) :
    ACalls Try.prog F_matter_Order [s.v, t.v] h (fun v h' => ∃ r : Sl, v = r.v ∧ Fw.Sep h h' [ownSl si_Lint64 eInt r (orderF l A)]) := by
  refine matter_Order_of ?_
  unfold matter_Order
  have htl := ht.lenEq
  have S0 : Fw.Sep h h [ownSl si_Lapi_Arg eArg ⟨none, 0, 0⟩ ((A.take 0).map toA)] := (Sep.start h).nil rfl
  refine loop_intro (fun n (q : Sl × Int) h' => ∃ i : Nat, q.2 = i ∧ i ≤ A.length ∧ n = A.length - i ∧ Fw.Sep h h' [ownSl si_Lapi_Arg eArg q.1 ((A.take i).map toA)]) A.length ⟨0, rfl, by omega, by omega, S0⟩ ?_
  clear S0
  rintro _ _ ⟨fr, i⟩ h1 ⟨i, hi0, hi, rfl, S⟩
  simp only at hi0 S ⊢
  subst hi0
  refine ifB_intro (fun hc => ?_) (fun hc => ?_)
  · have hil : i < A.length := by rw [htl] at hc; simpa using hc
    refine idx_rdN ht rfl hil fun p _ hp => ld_oneB (k := .int .i64) hp S.old ?_
    refine (mto_calls _).mono ?_
    rintro v h2 ⟨rfl, o2⟩
    refine ⟨_, rfl, ?_⟩
    refine app1_flat (x := toA A[i]) (S.grow o2) (fun _ => ⟨rfl, rfl⟩) rfl (by decide) (by simp only [List.length_map, List.length_take, si_Lapi_Arg]; omega) (by simp only [List.length_map, List.length_take]; omega) fun s' h' S' => ?_
    refine ar_i64 (by omega) (by omega) ⟨A.length - (i + 1), by omega, i + 1, rfl, by omega, rfl, ?_⟩
    rw [List.take_succ_eq_append_getElem hil, List.map_append]
    exact S'
  have hil : A.length ≤ i := by rw [htl] at hc; simpa using hc
  rw [List.take_of_length_le hil] at S
  clear hil hi hc i
  refine (vReach_calls (hs.old S.old) (rd_arg.1 S.rd) hr hln hv (by simpa using hA) hid).mono ?_
  rintro v h5 ⟨r1, rfl, S5⟩
  refine ⟨_, rfl, ?_⟩
  have S5 := (S.frame S5).swap.drop
  have P := ids_reach (A := A.map toA) hr
  have hlen : (reachF l (A.map toA)).length ≤ l.length := by
    classical
    unfold reachF
    rw [List.length_map]
    exact List.length_filter_le _ _
  have heq := orderF_eq hr A
  rw [heq]
  clear heq
  generalize reachF l (A.map toA) = ids at *
  refine (graph_calls (hs.old S5.old) S5.rd hr (up_ne P.up) (by omega) hln hv).mono ?_
  rintro v h6 ⟨r2, rfl, S6⟩
  refine ⟨_, rfl, ?_⟩
  have S6 := S5.frame S6
  have hGl := graph_len (l := l) (ids := ids)
  generalize graphF l ids = G at *
  refine (cparts_calls S6.rd (by omega)).mono ?_
  rintro v h7 ⟨r3, rfl, S7⟩
  refine ⟨_, rfl, ?_⟩
  have S7 := S6.frame S7
  refine mkm_rule (vf := vfI) S7 fun m h8 o8 S8 => ?_
  refine (corder_calls (Sep.pull [_, _] S8).rd (by omega)).mono ?_
  rintro v h9 ⟨r4, rfl, S9⟩
  refine ⟨_, rfl, ?_⟩
  have S9 : Fw.Sep h h9 [ownSl si_Lint eInt r4 (leftA G), ownM vfI m [], ownSl si_Lint eInt r3 (partsF G), ownSl si_LLint eInts r2 G, ownSl si_Lint64 eInt r1 ids] := S8.frame S9
  have hkn := (left_says G).2.2
  have hkp : ∀ k ∈ leftA G, ∃ i : Nat, k = (i : Int) ∧ i < G.length := left_pts G
  have hkl : (leftA G).length ≤ G.length := by
    have := List.Nodup.length_le_of_subset (l₁ := leftA G) (l₂ := (List.range G.length).map fun (i : Nat) => (i : Int)) hkn fun k hk => by
      obtain ⟨i, e, hi⟩ := hkp k hk
      exact List.mem_map.2 ⟨i, by simpa using hi, e.symm⟩
    simpa using this
  generalize leftA G = K at *
  clear S S5 S6 S7 S8
  have hl4 := S9.rd.lenEq
  refine loop_intro (fun n (q : Int) h' => ∃ (i : Nat) (M : List (Int × Int)), q = i ∧ i ≤ K.length ∧ n = K.length - i ∧ LastP (prt G) K i M ∧
      Fw.Sep h h' [ownSl si_Lint eInt r4 K, ownM vfI m M, ownSl si_Lint eInt r3 (partsF G), ownSl si_LLint eInts r2 G, ownSl si_Lint64 eInt r1 ids]) K.length
    ⟨0, [], rfl, by omega, by omega, ⟨fun j hj h => by omega⟩, S9⟩ ?_
  clear S9
  rintro _ _ _ h10 ⟨i, M, rfl, hi, rfl, LP, S⟩
  refine ifB_intro (fun hc => ?_) (fun hc => ?_)
  · have hil : i < K.length := by rw [hl4] at hc; simpa using hc
    refine idx_rdN S.rd rfl hil fun p _ hp => ld_one (k := .int .i64) hp ?_
    refine ldP (Sep.pull [_, _] S) (hkp _ (List.getElem_mem hil)) ?_
    refine mup_rule (x := K[i]) S.swap rfl fun h11 S11 => ?_
    exact ar_i64 (by omega) (by omega) ⟨K.length - (i + 1), by omega, i + 1, _, rfl, by omega, rfl, LP.step hil, S11.swap⟩
  have hil : i = K.length := by have hc : K.length ≤ i := by rw [hl4] at hc; simpa using hc
                                omega
  subst hil
  have S0 := Sep.nil (si := si_Lint64) (E := eInt) S rfl
  refine loop_intro (fun n (q : Sl × Int) h' => ∃ (i : Nat) (out : List Int), q.2 = i ∧ i ≤ K.length ∧ n = K.length - i ∧ out ++ orderK G ids (K.drop i) = orderK G ids K ∧ out.length ≤ i * 1000 ∧
      Fw.Sep h h' [ownSl si_Lint64 eInt q.1 out, ownSl si_Lint eInt r4 K, ownM vfI m M, ownSl si_Lint eInt r3 (partsF G), ownSl si_LLint eInts r2 G, ownSl si_Lint64 eInt r1 ids]) K.length
    ⟨0, [], rfl, by omega, by omega, by simp, by simp, S0⟩ ?_
  clear S S0
  rintro _ _ ⟨o, i⟩ h12 ⟨i, out, hi0, hi, rfl, hout, hol, S⟩
  simp only at hi0 S ⊢
  subst hi0
  refine ifB_intro (fun hc => ?_) (fun hc => ?_)
  · have hil : i < K.length := by rw [hl4] at hc; simpa using hc
    have hdr := orderK_drop (G := G) (ids := ids) hil
    intro k hk
    have fin : ∀ (o' : Sl) h' (out' : List Int), out' = out ++ (if (K.drop (i + 1)).all (fun y => prt G y != prt G K[i]) then partOf G ids K[i] ids.length else []) →
        Fw.Sep h h' [ownSl si_Lint64 eInt o' out', ownSl si_Lint eInt r4 K, ownM vfI m M, ownSl si_Lint eInt r3 (partsF G), ownSl si_LLint eInts r2 G, ownSl si_Lint64 eInt r1 ids] → k o' h' := fun o' h' out' e S' => by
      subst e
      refine hk _ _ fun _ => ar_i64 (by omega) (by omega) ⟨K.length - (i + 1), by omega, i + 1, _, rfl, by omega, rfl, ?_, ?_, S'⟩
      · rw [List.append_assoc, ← hdr]; exact hout
      · rw [List.length_append]
        have := partOf_len G ids K[i] ids.length
        split
        · omega
        · exact Nat.le_trans hol (Nat.mul_le_mul_right _ (Nat.le_succ i))
    have S' := S.drop
    have hr4 : rdSl eInt h12 r4 K := S'.rd
    refine idx_rdN hr4 rfl hil ?_
    intro p _ hp
    refine ld_one (k := .int .i64) hp ?_
    have hki := hkp _ (List.getElem_mem hil)
    refine ldP (Sep.pull [_, _, _] S) hki ?_
    obtain ⟨y, hy, hyi⟩ := LP.is hkn hil
    refine mlk_rule (rdM_of (Sep.pull [_, _] S)) ?_
    rw [hy]
    refine ⟨y, rfl, ?_⟩
    refine ifB_intro (fun hne => ?_) (fun he => ?_)
    · refine fin _ _ _ ?_ S
      have hne : y ≠ K[i] := by simpa using hne
      rw [if_neg fun h => hne (hyi.2 h), List.append_nil]
    · have he : y = K[i] := by simpa using he
      have hall := hyi.1 he
      have hl1 := (Sep.pull [_, _, _, _, _] S).rd.lenEq
      refine loop_intro (fun n (q : Sl × Int) h' => ∃ (j : Nat), q.2 = j ∧ j ≤ ids.length ∧ n = ids.length - j ∧
          Fw.Sep h h' [ownSl si_Lint64 eInt q.1 (out ++ partOf G ids K[i] j), ownSl si_Lint eInt r4 K, ownM vfI m M, ownSl si_Lint eInt r3 (partsF G), ownSl si_LLint eInts r2 G, ownSl si_Lint64 eInt r1 ids]) ids.length
        ⟨0, rfl, by omega, by omega, by rw [show partOf G ids K[i] 0 = [] from rfl, List.append_nil]; exact S⟩ ?_
      clear S
      rintro _ _ ⟨o2, j⟩ h14 ⟨j, hj0, hj, rfl, S⟩
      simp only at hj0 S ⊢
      subst hj0
      have hpl := partOf_len G ids K[i] j
      refine ifB_intro (fun hc => ?_) (fun hc => ?_)
      · have hjl : j < ids.length := by rw [hl1] at hc; simpa using hc
        intro k1 hk1
        have hsucc := partOf_succ G ids K[i] j
        have fin1 : ∀ (o' : Sl) h', Fw.Sep h h' [ownSl si_Lint64 eInt o' (out ++ partOf G ids K[i] (j + 1)), ownSl si_Lint eInt r4 K, ownM vfI m M, ownSl si_Lint eInt r3 (partsF G), ownSl si_LLint eInts r2 G, ownSl si_Lint64 eInt r1 ids] → k1 o' h' := fun o' h' S' =>
          hk1 _ _ fun _ => ar_i64 (by omega) (by omega) ⟨ids.length - (j + 1), by omega, j + 1, rfl, by omega, rfl, S'⟩
        refine idx_rdN (Sep.pull [_, _, _, _, _] S).rd rfl hjl fun p5 _ hp5 => ld_one (k := .int .i64) hp5 ?_
        refine ldP (Sep.pull [_, _, _] S) ⟨j, rfl, by omega⟩ ?_
        refine ldP (Sep.pull [_, _, _] S) hki ?_
        refine ifB_intro (fun hpe => ?_) (fun hpn => ?_)
        · have hpe : prt G (j : Int) = prt G K[i] := by simpa using hpe
          rw [if_pos hpe, getD_lt hjl] at hsucc
          refine app1_flat (x := ids[j]) S (fun _ => ⟨rfl, rfl⟩) rfl (by decide) (by simp only [List.length_append, si_Lint64]; omega) (by simp only [List.length_append]; omega) fun s' h' S' => ?_
          refine fin1 _ _ ?_
          rw [hsucc, ← List.append_assoc]
          exact S'
        · have hpn : prt G (j : Int) ≠ prt G K[i] := by simpa using hpn
          rw [if_neg hpn, List.append_nil] at hsucc
          exact fin1 _ _ (by rw [hsucc]; exact S)
      · have hjl : j = ids.length := by have hc : ids.length ≤ j := by rw [hl1] at hc; simpa using hc
                                        omega
        subst hjl
        exact fin _ _ _ (by rw [if_pos hall]) S
  · have hil : i = K.length := by have hc : K.length ≤ i := by rw [hl4] at hc; simpa using hc
                                  omega
    subst hil
    rw [List.drop_length, show orderK G ids [] = [] from rfl, List.append_nil] at hout
    rw [hout] at S
    exact ⟨o, rfl, Sep.dropLast (L := [_]) S⟩
end Go.Proofs.Ytncbpalncgcoaaa

/-
  The document's order: going down.
-/
namespace Go.Proofs.Ytncbpalncgcoaaa
open Go.Fw Go.Fw.I Go.Pl.Api Go.Pl.Vst Go.Pl.Mat Go.Pl.Put Go.Pl

theorem bld_none {α : Type} {si : SlI} {E : Elem α} {h0 h : Heap} {L : List As} {K : Sl → Heap → Prop} (S : Fw.Sep h0 h L) (hsz : si.size = E.size) (hz : si.zero.cells.size = si.size)
    (hK : ∀ s' h', Old h h' → Fw.Sep h0 h' (ownSl si E s' [] :: L) → K s' h') : bld si 0 [] h K := by
  refine ⟨madeCells si.zero.cells (0 * si.size), rfl, by omega, ?_⟩
  have hm : madeCells si.zero.cells (0 * si.size) = #[] := by
    apply Array.eq_empty_of_size_eq_zero
    rw [size_madeCells]
    omega
  rw [hm]
  refine hK _ _ (Old.push _ _) ?_
  refine Sep.step (M := []) (M' := [ownSl si E _ _]) S (fun A hA => by rw [List.mem_singleton.1 hA]; exact loc_ownSl) ?_
  rintro f rfl _ _
  refine ⟨[h.size], ⟨[h.size], [], rfl, ⟨hsz, [], [], ?_, rfl, by simp, ⟨rfl, rfl⟩, rfl⟩, rfl⟩, by simp, by simp, fun b hb _ => ?_, fun b hb => ?_⟩
  · exact hOwn_iff.2 ⟨by simp, .inr ⟨h.size, _, rfl, Array.getElem?_push_size, Nat.le_refl _, by simp [maxLen], by simp, by simp⟩⟩
  · rw [Array.getElem?_push_lt hb]; exact (Array.getElem?_eq_getElem hb).symm
  · simp at hb; subst hb; simp
/-- 'append([]T{}, s...)' -/
theorem copied_in {α : Type} {si : SlI} {E : Elem α} {h0 h : Heap} {L : List As} {t : Sl} {l : List α} {K : Sl → Heap → Prop} (S : Fw.Sep h0 h L) (hf : E.Flat) (ht : rdSl E h t l) (hsz : si.size = E.size) (hz : si.zero.cells.size = si.size)
    (hb : l.length * si.bytes ≤ 140737488355328) (hb1 : l.length ≤ 140737488355328) (hK : ∀ s' h', Fw.Sep h0 h' (ownSl si E s' l :: L) → K s' h') : bld si 0 [] h fun s h1 => app si s t h1 K := by
  refine bld_none S hsz hz fun s h1 o1 S1 => ?_
  refine app_copy S1 hf (ht.old o1) (by simp; exact hb) (by simp; exact hb1) fun s' h' S' => hK s' h' ?_
  simpa using S'
/-- 'append(append([]int64{}, l...), x)' -/
theorem copied_and {h0 h : Heap} {L : List As} {t : Sl} {l : List Int} {x : Int} {K : Sl → Heap → Prop} (S : Fw.Sep h0 h L) (ht : rdSl eInt h t l) (hb : l.length ≤ 1000000) (hK : ∀ s' h', Fw.Sep h0 h' (ownSl si_Lint64 eInt s' (l ++ [x]) :: L) → K s' h') :
    bld si_Lint64 0 [] h fun s h1 => app si_Lint64 s t h1 fun s2 h2 => bld si_Lint64 1 [(0, .int .i64 x)] h2 fun s3 h3 => app si_Lint64 s2 s3 h3 K := by
  refine copied_in S flat_int ht rfl rfl (by simp only [si_Lint64]; omega) (by omega) fun s' h' S' => ?_
  exact app1_flat (x := x) S' (fun _ => ⟨rfl, rfl⟩) rfl (by decide) (by simp only [si_Lint64]; omega) (by omega) hK

abbrev idOf (ids : List Int) : Int → Int := fun k => ids.getD k.toNat 0
/-- What is marked, as ids. -/
def Mks (ids : List Int) (M : List Bool) (mk : List Int) : Prop := ∀ i (hi : i < ids.length), M.getD i false = true ↔ ids[i] ∈ mk
set_option maxHeartbeats 1000000 in
theorem down24_calls {hb : Heap} {s t : Sl} {l : List MObj} {ids : List Int} (hs : rdSl rObj.el hb s l) (ht : rdSl eInt hb t ids) (hids : ids.Pairwise (· ≠ ·)) (hn : ids.length ≤ 1000) (hv : ∀ o ∈ l, o.vals.length ≤ 1000) :
    ∀ (f : Nat) (h : Heap) (mk md : Sl) (M : List Bool) (lf Mk : List Int) (a : Nat) (ha : a < ids.length), Old hb h → rdSl eInt h mk Mk → rdSl eInt h md (lf.map (idOf ids)) → Mks ids M Mk → M.length = ids.length → M.getD a false = false → open' M ≤ f → Mk.length + open' M ≤ 1000 → lf.length + open' M ≤ 1000 →
    ACalls Try.prog F_lateenref24_down [s.v, t.v, .int .i64 ids[a], mk.v, md.v] h (fun v h' => ∃ (r1 r2 : Sl) (Mk' : List Int), v = .tuple #[r1.v, r2.v] ∧ Old h h' ∧ rdSl eInt h' r1 Mk' ∧ rdSl eInt h' r2 ((dn (graphF l ids) f a M lf).2.map (idOf ids)) ∧
      Mks ids (dn (graphF l ids) f a M lf).1 Mk' ∧ Mk'.length + open' (dn (graphF l ids) f a M lf).1 = Mk.length + open' M)
  | 0, h, mk, md, M, lf, Mk, a, ha, o, hmk, hmd, hM, hMl, hma, hf, hs1, hs2 => by
    have := count_set (M := M) (a := a) (by omega) (by simpa [List.getD_eq_getElem?_getD, show a < M.length by omega] using hma)
    omega
  | f + 1, h, mk, md, M, lf, Mk, a, ha, o, hmk, hmd, hM, hMl, hma, hf, hs1, hs2 => by
    have hc := count_set (M := M) (a := a) (by omega) (by simpa [List.getD_eq_getElem?_getD, show a < M.length by omega] using hma)
    refine lateenref24_down_of ?_
    unfold lateenref24_down
    refine (rto_calls _).mono ?_
    rintro v h1 ⟨rfl, o1⟩
    refine ⟨_, rfl, ?_⟩
    refine (refFind_callsB (a := toA ids[a]) hs (o.trans o1) (rv_toA _)).mono ?_
    rintro v h2 ⟨ds, rfl, o2, hds⟩
    refine ⟨_, _, rfl, ?_⟩
    have o2 := o1.trans o2
    have hds : rObj.rv hb ds.toList (objF l ids[a]) := hds
    refine new_stB (Sep.start h2) hds rfl rfl fun p h4 S4 => ?_
    have o4 := o2.trans S4.old
    have hGl := graph_len (l := l) (ids := ids)
    have hvl := objF_vals hv ids[a]
    have hrow := graph_row (l := l) ha
    refine copied_and S4 (hmk.old o4) (by omega) fun s4 h8 S8 => ?_
    generalize hvs : (objF l ids[a]).vals = vals at *
    have hM0 : Mks ids (M.set a true) (Mk ++ [ids[a]]) := fun i hi => by
      rw [Pl.getD_set (by omega), List.mem_append, List.mem_singleton]
      by_cases e : a = i
      · subst e; simp
      · rw [if_neg e, hM i hi]
        constructor
        · exact .inl
        · rintro (h | h)
          · exact h
          · exact absurd (nodup_at hids hi ha h) fun h => e h.symm
    have o8 : Old h h8 := o2.trans S8.old
    refine loop_intro (fun m (q : Sl × Sl × Int) h' => ∃ (j : Nat) (st : List Bool × List Int) (Mk' : List Int), q.2.2 = j ∧ j ≤ vals.length ∧ m = vals.length - j ∧ Old h8 h' ∧ st = ((vals.take j).filterMap (refF ids)).foldl (stepDn ids.length (dn (graphF l ids) f)) (M.set a true, lf) ∧
        rdSl eInt h' q.1 Mk' ∧ rdSl eInt h' q.2.1 (st.2.map (idOf ids)) ∧ Mks ids st.1 Mk' ∧ Mk'.length + open' st.1 = Mk.length + open' M) vals.length
      ⟨0, _, Mk ++ [ids[a]], rfl, by omega, by omega, .refl _, rfl, S8.rd, hmd.old o8, hM0, by simp only [List.take_zero, List.filterMap_nil, List.foldl_nil, List.length_append, List.length_singleton]; omega⟩ ?_
    have hbx := S8.drop.bx
    clear S4
    rintro _ _ ⟨mk1, md1, j⟩ h9 ⟨j, st, Mk', hj0, hj, rfl, o9, hst, hmk1, hmd1, hMs, hMc⟩
    simp only at hj0 hmk1 hmd1 ⊢
    subst hj0
    have hfs := fold_sum (graphF l ids) f ((vals.take j).filterMap (refF ids)) (M.set a true, lf) (by simpa [hGl] using hMl)
    rw [hGl, ← hst] at hfs
    obtain ⟨f1, f2, f3⟩ := hfs
    simp only at f2 f3
    have hbx9 := RV.bx_old hbx o9
    refine ld_lstX (fld_oVals.bx hbx9) fun x hx => ?_
    have hx : rdSl rArg.el hb x vals := by rw [← hvs]; exact hx
    have hxl := hx.lenEq
    refine ifB_intro (fun hcc => ?_) (fun hcc => ?_)
    · have hjl : j < vals.length := by rw [hxl] at hcc; simpa using hcc
      intro k1 hk1
      have hstep : ((vals.take (j + 1)).filterMap (refF ids)).foldl (stepDn ids.length (dn (graphF l ids) f)) (M.set a true, lf) = (refF ids vals[j]).toList.foldl (stepDn ids.length (dn (graphF l ids) f)) st := by
        rw [List.take_succ_eq_append_getElem hjl, List.filterMap_append, fm_one, List.foldl_append, ← hst]
      have fin : ∀ (r1 r2 : Sl) h' (st' : List Bool × List Int) (Mk2 : List Int), Old h9 h' → st' = (refF ids vals[j]).toList.foldl (stepDn ids.length (dn (graphF l ids) f)) st → rdSl eInt h' r1 Mk2 → rdSl eInt h' r2 (st'.2.map (idOf ids)) → Mks ids st'.1 Mk2 →
          Mk2.length + open' st'.1 = Mk.length + open' M → k1 (r1, r2) h' := fun r1 r2 h' st' Mk2 o' e q1 q2 q3 q4 =>
        hk1 _ _ fun _ => ar_i64 (by omega) (by omega) ⟨vals.length - (j + 1), by omega, j + 1, st', Mk2, rfl, by omega, rfl, o9.trans o', by rw [hstep]; exact e, q1, q2, q3, q4⟩
      refine ld_lstX (fld_oVals.bx hbx9) fun y hy => ?_
      have hy : rdSl rArg.el hb y vals := by rw [← hvs]; exact hy
      have o09 : Old hb h9 := o.trans (o8.trans o9)
      refine idx_rdN hy rfl hjl fun p1 _ hp1 => ?_
      refine ld_agg hp1 o09.ext rfl fun cs hcs => ?_
      refine new_stX hcs o09.ext rfl rfl fun p2 h12 o12 hb2 => ?_
      intro k2 hk2
      have skip : ∀ h', Old h12 h' → (refF ids vals[j] = none ∨ ∃ k : Nat, refF ids vals[j] = some (k : Int) ∧ st.1.getD k false = true) → k2 false h' := fun h' o' hno => by
        refine hk2 _ _ fun _ => ifB_false rfl ?_
        have o' := o12.trans o'
        refine fin _ _ _ st Mk' o' ?_ (hmk1.old o') (hmd1.old o') hMs hMc
        rcases hno with e | ⟨k, e, hk⟩
        · rw [e]; rfl
        · rw [e]
          show st = stepDn ids.length (dn (graphF l ids) f) st (k : Int)
          unfold stepDn
          rw [if_neg]
          rintro ⟨_, _, h3⟩
          rw [Int.toNat_natCast, hk] at h3
          cases h3
      refine ld_intX (fld_argK.bx hb2) ?_
      by_cases h5 : vals[j].kind = 5
      · refine ifB_true (by simp [h5]) ?_
        refine ld_intX (fld_argN.bx hb2) ?_
        refine (in_calls (ht.old (o09.trans o12)) _).mono ?_
        rintro v h13 ⟨rfl, e⟩
        have e := e.symm
        subst e
        refine ⟨_, rfl, ?_⟩
        cases hat : Mat.atF ids vals[j].n with
        | none =>
          have e : inF ids vals[j].n = -1 := by unfold inF; rw [hat]
          rw [e]
          refine ifB_false rfl (skip _ (.refl _) (.inl ?_))
          unfold refF
          rw [if_pos h5, hat]
          rfl
        | some k =>
          have e : inF ids vals[j].n = (k : Int) := by unfold inF; rw [hat]
          obtain ⟨hk, ek⟩ := atF_some hat
          have href : refF ids vals[j] = some (k : Int) := by unfold refF; rw [if_pos h5, hat]; rfl
          rw [e]
          refine ifB_true (by simp) ?_
          refine ld_intX (fld_argN.bx hb2) ?_
          refine (in_calls (hmk1.old o12) _).mono ?_
          rintro v h13 ⟨rfl, e⟩
          have e := e.symm
          subst e
          refine ⟨_, rfl, ?_⟩
          show k2 (decide (inF Mk' vals[j].n < 0)) _
          by_cases hin : vals[j].n ∈ Mk'
          · rw [decide_eq_false (by have := inF_iff.2 hin; omega)]
            refine skip _ (.refl _) (.inr ⟨k, href, ?_⟩)
            rw [hMs k hk, ek]
            exact hin
          · rw [decide_eq_true (Int.not_le.1 fun h => hin (inF_iff.1 h))]
            refine hk2 _ _ fun _ => ifB_true rfl ?_
            refine ld_intX (fld_argN.bx hb2) ?_
            have hkM : st.1.getD k false = false := by
              cases h : st.1.getD k false with
              | false => rfl
              | true => exact absurd (by rw [← ek]; exact (hMs k hk).1 h) hin
            have IH := down24_calls hs ht hids hn hv f h12 mk1 md1 st.1 st.2 Mk' k hk (o09.trans o12) (hmk1.old o12) (hmd1.old o12) hMs (by rw [f1]) hkM (by omega) (by omega) (by omega)
            rw [ek] at IH
            refine IH.mono ?_
            rintro v h14 ⟨r1, r2, Mk2, rfl, o14, q1, q2, q3, q4⟩
            refine ⟨r1, r2, rfl, ?_⟩
            refine fin r1 r2 h14 (dn (graphF l ids) f k st.1 st.2) Mk2 (o12.trans o14) ?_ q1 q2 q3 (by omega)
            rw [href]
            show _ = stepDn ids.length (dn (graphF l ids) f) st (k : Int)
            unfold stepDn
            rw [if_pos ⟨by omega, by omega, by rw [Int.toNat_natCast]; exact hkM⟩, Int.toNat_natCast]
      · refine ifB_false (by simp [h5]) (skip _ (.refl _) (.inl ?_))
        unfold refF
        rw [if_neg h5]
    · have hjl : j = vals.length := by have hcc : vals.length ≤ j := by rw [hxl] at hcc; simpa using hcc
                                       omega
      subst hjl
      rw [List.take_length] at hst
      refine copied_and (Sep.start h9) hmd1 (by simp; omega) fun s8 h20 S20 => ?_
      have e : dn (graphF l ids) (f + 1) a M lf = (st.1, st.2 ++ [(a : Int)]) := by
        unfold dn
        rw [hrow, hGl, ← hst]
      rw [e]
      refine ⟨mk1, s8, Mk', rfl, o8.trans (o9.trans S20.old), hmk1.old S20.old, ?_, hMs, hMc⟩
      have : (st.2 ++ [(a : Int)]).map (idOf ids) = st.2.map (idOf ids) ++ [ids[a]] := by
        rw [List.map_append]
        simp [idOf, ha]
      rw [this]
      exact S20.rd
end Go.Proofs.Ytncbpalncgcoaaa

/-
  The document's order.
-/
namespace Go.Proofs.Ytncbpalncgcoaaa
open Go.Fw Go.Fw.I Go.Pl.Api Go.Pl.Vst Go.Pl.Mat Go.Pl.Put Go.Pl

theorem orderL_drop {l : List MObj} {all K : List Int} {i : Nat} (hi : i < K.length) : orderL l all (K.drop i) = (if (K.drop (i + 1)).all (fun y => !roundB l K[i] y) then all.filter (fun y => y == K[i] || roundB l K[i] y) else []) ++ orderL l all (K.drop (i + 1)) := by
  rw [List.drop_eq_getElem_cons hi]
  rfl
theorem left_len (G : Graph) : (leftA G).length ≤ G.length := by
  have := List.Nodup.length_le_of_subset (l₁ := leftA G) (l₂ := (List.range G.length).map fun (i : Nat) => (i : Int)) (left_says G).2.2 fun k hk => by
    obtain ⟨i, e, hi⟩ := left_pts G k hk
    exact List.mem_map.2 ⟨i, by simpa using hi, e.symm⟩
  simpa using this
set_option maxHeartbeats 2000000 in
theorem refOrder_calls {h : Heap} {s t : Sl} {l : List MObj} {A : List Int} (hs : rdSl rObj.el h s l) (ht : rdSl eInt h t A) (hr : Rising l) (hA : A.length ≤ 1000) (hln : l.length ≤ 500) (hv : ∀ o ∈ l, o.vals.length ≤ 1000) :
    ACalls Try.prog F_lateenref24_Order [s.v, t.v] h (fun v h' => ∃ r : Sl, v = r.v ∧ Old h h' ∧ rdSl eInt h' r (orderF l A)) := by
  refine lateenref24_Order_of ?_
  unfold lateenref24_Order
  have htl := ht.lenEq
  have S0 : Fw.Sep h h [ownSl si_Lapi_Arg eArg ⟨none, 0, 0⟩ ((A.take 0).map toA)] := (Sep.start h).nil rfl
  refine loop_intro (fun n (q : Sl × Int) h' => ∃ i : Nat, q.2 = i ∧ i ≤ A.length ∧ n = A.length - i ∧ Fw.Sep h h' [ownSl si_Lapi_Arg eArg q.1 ((A.take i).map toA)]) A.length ⟨0, rfl, by omega, by omega, S0⟩ ?_
  clear S0
  rintro _ _ ⟨fr, i⟩ h1 ⟨i, hi0, hi, rfl, S⟩
  simp only at hi0 S ⊢
  subst hi0
  refine ifB_intro (fun hc => ?_) (fun hc => ?_)
  · have hil : i < A.length := by rw [htl] at hc; simpa using hc
    refine idx_rdN ht rfl hil fun p _ hp => ld_oneB (k := .int .i64) hp S.old ?_
    refine (rto_calls _).mono ?_
    rintro v h2 ⟨rfl, o2⟩
    refine ⟨_, rfl, ?_⟩
    refine app1_flat (x := toA A[i]) (S.grow o2) (fun _ => ⟨rfl, rfl⟩) rfl (by decide) (by simp only [List.length_map, List.length_take, si_Lapi_Arg]; omega) (by simp only [List.length_map, List.length_take]; omega) fun s' h' S' => ?_
    refine ar_i64 (by omega) (by omega) ⟨A.length - (i + 1), by omega, i + 1, rfl, by omega, rfl, ?_⟩
    rw [List.take_succ_eq_append_getElem hil, List.map_append]
    exact S'
  have hil : A.length ≤ i := by rw [htl] at hc; simpa using hc
  rw [List.take_of_length_le hil] at S
  clear hil hi hc i
  refine (refReach_calls (hs.old S.old) (rd_arg.1 S.rd) (by omega)).mono ?_
  rintro v h5 ⟨r1, rfl, S5⟩
  refine ⟨_, rfl, ?_⟩
  have o5 : Old h h5 := S.old.trans S5.old
  have hr1 := S5.rd
  have P := ids_reach (A := A.map toA) hr
  have hlen : (reachF l (A.map toA)).length ≤ l.length := by
    classical
    unfold reachF
    rw [List.length_map]
    exact List.length_filter_le _ _
  unfold orderF leftI
  generalize reachF l (A.map toA) = ids at *
  have hids := up_ne P.up
  have hl1 := hr1.lenEq
  have hGl := graph_len (l := l) (ids := ids)
  have hs5 := hs.old o5
  clear S S5 hs
  refine loop_intro (fun n (q : Sl × Sl × Int) h' => ∃ (i : Nat) (Mk : List Int), q.2.2 = i ∧ i ≤ ids.length ∧ n = ids.length - i ∧ Old h5 h' ∧ rdSl eInt h' q.1 Mk ∧ rdSl eInt h' q.2.1 ((allDn (graphF l ids) i).2.map (idOf ids)) ∧ Mks ids (allDn (graphF l ids) i).1 Mk ∧
      Mk.length + open' (allDn (graphF l ids) i).1 = ids.length) ids.length
    ⟨0, [], rfl, by omega, by omega, .refl _, rd_nilSl, rd_nilSl, ?_, ?_⟩ ?_
  · intro i hi
    show (List.replicate (graphF l ids).length false).getD i false = true ↔ _
    simp [List.getD_eq_getElem?_getD, List.getElem?_replicate]
    split <;> simp
  · show 0 + open' (List.replicate (graphF l ids).length false) = _
    unfold open'
    rw [List.count_replicate_self, hGl]
    omega
  rintro _ _ ⟨mk1, md1, i⟩ h6 ⟨i, Mk, hi0, hi, rfl, o6, hmk, hmd, hMs, hMc⟩
  simp only at hi0 hmk hmd ⊢
  subst hi0
  obtain ⟨new, hLf, _⟩ := all_left (graphF l ids) i (by omega)
  have hlf : (allDn (graphF l ids) i).2.length + open' (allDn (graphF l ids) i).1 ≤ 1000 := by
    have h1 : (allDn (graphF l ids) i).2 = new := by rw [hLf.left]; simp
    rw [h1]
    have h2 : new.length ≤ (graphF l ids).length := by
      have := List.Nodup.length_le_of_subset (l₁ := new) (l₂ := (List.range (graphF l ids).length).map fun (i : Nat) => (i : Int)) hLf.nodup fun k hk => by
        obtain ⟨j, hj, e⟩ := List.getElem_of_mem hk
        obtain ⟨x, hx, hxn, _⟩ := hLf.post j hj
        exact List.mem_map.2 ⟨x, by simpa using hxn, by rw [← e, hx]⟩
      simpa using this
    have h3 : open' (allDn (graphF l ids) i).1 ≤ ids.length := by omega
    omega
  refine ifB_intro (fun hc => ?_) (fun hc => ?_)
  · have hil : i < ids.length := by rw [hl1] at hc; simpa using hc
    intro k hk
    have hsucc := allDn_succ (graphF l ids) i
    have fin : ∀ (r1 r2 : Sl) h' Mk2, Old h6 h' → rdSl eInt h' r1 Mk2 → rdSl eInt h' r2 ((allDn (graphF l ids) (i + 1)).2.map (idOf ids)) → Mks ids (allDn (graphF l ids) (i + 1)).1 Mk2 → Mk2.length + open' (allDn (graphF l ids) (i + 1)).1 = ids.length → k (r1, r2) h' := fun r1 r2 h' Mk2 o' q1 q2 q3 q4 =>
      hk _ _ fun _ => ar_i64 (by omega) (by omega) ⟨ids.length - (i + 1), by omega, i + 1, Mk2, rfl, by omega, rfl, o6.trans o', q1, q2, q3, q4⟩
    refine idx_rdN (hr1.old o6) rfl hil fun p _ hp => ld_one (k := .int .i64) hp ?_
    refine (in_calls hmk _).mono ?_
    rintro v h7 ⟨rfl, e⟩
    have e := e.symm
    subst e
    refine ⟨_, rfl, ?_⟩
    refine ifB_intro (fun hneg => ?_) (fun hpos => ?_)
    · have hneg := of_decide_eq_true hneg
      have hnot : ids[i] ∉ Mk := fun h => absurd (inF_iff.2 h) (Int.not_le.2 hneg)
      have hmf : (allDn (graphF l ids) i).1.getD i false = false := by
        cases hh : (allDn (graphF l ids) i).1.getD i false with
        | false => rfl
        | true => exact absurd ((hMs i hil).1 hh) hnot
      refine idx_rdN (hr1.old o6) rfl hil fun p2 _ hp2 => ld_one (k := .int .i64) hp2 ?_
      have hop : open' (allDn (graphF l ids) i).1 ≤ (graphF l ids).length := by omega
      rw [if_pos hmf] at hsucc
      refine (down24_calls hs5 hr1 hids (by omega) hv (graphF l ids).length h6 mk1 md1 (allDn (graphF l ids) i).1 (allDn (graphF l ids) i).2 Mk i hil o6 hmk hmd hMs (by rw [hLf.len, hGl]) hmf hop (by omega) hlf).mono ?_
      rintro v h9 ⟨q1, q2, Mk2, rfl, o9, hq1, hq2, hq3, hq4⟩
      rw [← hsucc] at hq2 hq3 hq4
      exact ⟨q1, q2, rfl, fin _ _ _ Mk2 o9 hq1 hq2 hq3 (by omega)⟩
    · have hpos := of_decide_eq_false hpos
      have hin : ids[i] ∈ Mk := inF_iff.1 (Int.not_lt.1 hpos)
      have hmt := (hMs i hil).2 hin
      rw [if_neg (by rw [hmt]; simp)] at hsucc
      exact fin _ _ _ Mk (.refl _) hmk (by rw [hsucc]; exact hmd) (by rw [hsucc]; exact hMs) (by rw [hsucc]; exact hMc)
  have hil : i = ids.length := by have hc : ids.length ≤ i := by rw [hl1] at hc; simpa using hc
                                  omega
  subst hil
  have eK : (leftA (graphF l ids)).map (fun k => ids.getD k.toNat 0) = (allDn (graphF l ids) ids.length).2.map (idOf ids) := by
    unfold leftA
    rw [hGl]
  rw [eK]
  have hKl : ((allDn (graphF l ids) ids.length).2.map (idOf ids)).length ≤ 1000 := by rw [List.length_map]; omega
  generalize (allDn (graphF l ids) ids.length).2.map (idOf ids) = K at *
  have hlK := hmd.lenEq
  clear hMs hMc hLf hlf eK hmk
  have S0 : Fw.Sep h6 h6 [ownSl si_Lint64 eInt ⟨none, 0, 0⟩ []] := (Sep.start h6).nil rfl
  refine loop_intro (fun n (q : Sl × Int) h' => ∃ (i : Nat) (out : List Int), q.2 = i ∧ i ≤ K.length ∧ n = K.length - i ∧ out ++ orderL l ids (K.drop i) = orderL l ids K ∧ out.length ≤ i * 1000 ∧ Fw.Sep h6 h' [ownSl si_Lint64 eInt q.1 out]) K.length
    ⟨0, [], rfl, by omega, by omega, by simp, by simp, S0⟩ ?_
  clear S0
  rintro _ _ ⟨o, i⟩ h10 ⟨i, out, hi0, hi, rfl, hout, hol, S⟩
  simp only at hi0 S ⊢
  subst hi0
  refine ifB_intro (fun hc => ?_) (fun hc => ?_)
  · have hil : i < K.length := by rw [hlK] at hc; simpa using hc
    have hdr := orderL_drop (l := l) (all := ids) hil
    refine ar_i64 (by omega) (by omega) ?_
    refine loop_intro (fun n (q : Bool × Int) h' => ∃ (j : Nat), q.2 = ((i + 1 + j : Nat) : Int) ∧ i + 1 + j ≤ K.length ∧ n = K.length - j ∧ q.1 = ((K.drop (i + 1)).take j).all (fun y => !roundB l K[i] y) ∧ Fw.Sep h6 h' [ownSl si_Lint64 eInt o out]) K.length
      ⟨0, by simp only [Nat.add_zero]; omega, by omega, rfl, by simp, S⟩ ?_
    clear S
    rintro _ _ ⟨la, jj⟩ h11 ⟨j, hj0, hj, rfl, hla, S⟩
    simp only at hj0 hla ⊢
    subst hj0
    have o11 : Old h5 h11 := o6.trans S.old
    refine ifB_intro (fun hcc => ?_) (fun hcc => ?_)
    · have hjl : i + 1 + j < K.length := by rw [hlK] at hcc; have := of_decide_eq_true hcc; omega
      intro k2 hk2
      have htk : ((K.drop (i + 1)).take (j + 1)).all (fun y => !roundB l K[i] y) = (((K.drop (i + 1)).take j).all (fun y => !roundB l K[i] y) && !roundB l K[i] K[i + 1 + j]) := by
        rw [List.take_succ_eq_append_getElem (by simp; omega), List.all_append]
        simp
      have fin : ∀ b h', b = ((K.drop (i + 1)).take (j + 1)).all (fun y => !roundB l K[i] y) → Old h11 h' → k2 b h' := fun b h' e o' =>
        hk2 _ _ fun _ => ar_i64 (by omega) (by omega) ⟨K.length - (j + 1), by omega, j + 1, by omega, by omega, rfl, e, S.grow o'⟩
      cases la with
      | false =>
        refine ifB_false rfl (fin _ _ ?_ (.refl _))
        rw [htk, ← hla, Bool.false_and]
      | true =>
        refine ifB_true rfl ?_
        refine idx_rdN (hmd.old S.old) rfl hil fun p3 _ hp3 => ld_one (k := .int .i64) hp3 ?_
        refine idx_rdN (hmd.old S.old) rfl hjl fun p4 _ hp4 => ld_one (k := .int .i64) hp4 ?_
        refine (round_calls (a := K[i]) (b := K[i + 1 + j]) (hs5.old o11) (by omega)).mono ?_
        rintro v h13 ⟨rfl, o13⟩
        refine ⟨_, rfl, fin _ _ ?_ o13⟩
        rw [htk, ← hla, Bool.true_and]
    · have hjl : K.length = i + 1 + j := by have hcc : K.length ≤ i + 1 + j := by rw [hlK] at hcc; have := of_decide_eq_false hcc; omega
                                            omega
      rw [List.take_of_length_le (by simp; omega)] at hla
      clear hcc hj
      refine loop_intro (fun n (q : Sl × Int) h' => ∃ (e : Nat), q.2 = e ∧ e ≤ ids.length ∧ n = ids.length - e ∧ (la = false → e = 0) ∧
          Fw.Sep h6 h' [ownSl si_Lint64 eInt q.1 (out ++ (ids.take e).filter (fun y => y == K[i] || roundB l K[i] y))]) ids.length
        ⟨0, rfl, by omega, by omega, fun _ => rfl, by simpa using S⟩ ?_
      clear S
      rintro _ _ ⟨o2, e⟩ h14 ⟨e, he0, he, rfl, hz, S⟩
      simp only at he0 S ⊢
      subst he0
      have o14 : Old h5 h14 := o6.trans S.old
      have hfl : ((ids.take e).filter (fun y => y == K[i] || roundB l K[i] y)).length ≤ e := Nat.le_trans (List.length_filter_le _ _) (by simp; omega)
      intro k4 hk4
      have done : (la = true → e = ids.length) → k4 false h14 := fun hd => by
        refine hk4 _ _ fun _ => ifB_false rfl ?_
        have hadd : (if (K.drop (i + 1)).all (fun y => !roundB l K[i] y) then ids.filter (fun y => y == K[i] || roundB l K[i] y) else []) = (ids.take e).filter (fun y => y == K[i] || roundB l K[i] y) := by
          rw [← hla]
          cases la with
          | true =>
            rw [if_pos rfl]
            have := hd rfl
            rw [this, List.take_length]
          | false =>
            rw [hz rfl]
            simp
        refine ar_i64 (by omega) (by omega) ⟨K.length - (i + 1), by omega, i + 1, _, by omega, by omega, rfl, ?_, ?_, S⟩
        · rw [hdr, hadd] at hout
          rw [List.append_assoc]
          exact hout
        · rw [List.length_append]
          have h2 := Nat.le_trans hfl he
          have h3 : ids.length ≤ 1000 := by omega
          have h4 := Nat.add_le_add hol (Nat.le_trans h2 h3)
          rw [Nat.add_mul]
          omega
      refine ifB_intro (fun hcc => ?_) (fun hcc => done fun _ => ?_)
      · have hel : e < ids.length := by rw [hl1] at hcc; simpa using hcc
        cases la with
        | false => exact done nofun
        | true =>
        refine hk4 _ _ fun _ => ifB_true rfl ?_
        intro k5 hk5
        have htk : (ids.take (e + 1)).filter (fun y => y == K[i] || roundB l K[i] y) = (ids.take e).filter (fun y => y == K[i] || roundB l K[i] y) ++ (if (ids[e] == K[i] || roundB l K[i] ids[e]) = true then [ids[e]] else []) := by
          rw [List.take_succ_eq_append_getElem hel, List.filter_append]
          congr 1
          rw [List.filter_cons]
          rfl
        have fin : ∀ (o' : Sl) h', Fw.Sep h6 h' [ownSl si_Lint64 eInt o' (out ++ (ids.take (e + 1)).filter (fun y => y == K[i] || roundB l K[i] y))] → k5 o' h' := fun o' h' S' =>
          hk5 _ _ fun _ => ar_i64 (by omega) (by omega) ⟨ids.length - (e + 1), by omega, e + 1, rfl, by omega, rfl, nofun, S'⟩
        have yes : ∀ h', Old h14 h' → (ids[e] == K[i] || roundB l K[i] ids[e]) = true → idx 1 r1 (e : Int) fun p_5 => ld (.int .i64) h' p_5 fun x_5 => bld si_Lint64 1 [(0, .int .i64 x_5)] h' fun s_3 h_18 => app si_Lint64 o2 s_3 h_18 fun s_4 h_19 => k5 s_4 h_19 := fun h' o' ht => by
          refine idx_rdN (hr1.old (o14.trans o')) rfl hel fun p5 _ hp5 => ld_one (k := .int .i64) hp5 ?_
          refine app1_flat (x := ids[e]) (S.grow o') (fun _ => ⟨rfl, rfl⟩) rfl (by decide) ?_ ?_ fun s' h2 S' => ?_
          · rw [List.length_append]
            have h4 : i * 1000 ≤ 1000 * 1000 := Nat.mul_le_mul_right _ (by omega)
            simp only [si_Lint64]
            omega
          · rw [List.length_append]
            have h4 : i * 1000 ≤ 1000 * 1000 := Nat.mul_le_mul_right _ (by omega)
            omega
          · refine fin _ _ ?_
            rw [htk, if_pos ht, ← List.append_assoc]
            exact S'
        have no : ∀ h', Old h14 h' → (ids[e] == K[i] || roundB l K[i] ids[e]) = false → k5 o2 h' := fun h' o' hf => by
          refine fin _ _ ?_
          rw [htk, if_neg (by rw [hf]; exact Bool.false_ne_true), List.append_nil]
          exact S.grow o'
        intro k6 hk6
        refine idx_rdN (hr1.old o14) rfl hel fun p6 _ hp6 => ld_one (k := .int .i64) hp6 ?_
        refine idx_rdN (hmd.old S.old) rfl hil fun p7 _ hp7 => ld_one (k := .int .i64) hp7 ?_
        refine ifB_intro (fun heq => ?_) (fun hne => ?_)
        · exact hk6 _ _ fun _ => ifB_true rfl (yes _ (.refl _) (by rw [heq]; rfl))
        · refine idx_rdN (hmd.old S.old) rfl hil fun p8 _ hp8 => ld_one (k := .int .i64) hp8 ?_
          refine idx_rdN (hr1.old o14) rfl hel fun p9 _ hp9 => ld_one (k := .int .i64) hp9 ?_
          refine (round_calls (a := K[i]) (b := ids[e]) (hs5.old o14) (by omega)).mono ?_
          rintro v h20 ⟨rfl, o20⟩
          refine ⟨_, rfl, o20.ext, hk6 _ _ fun _ => ?_⟩
          refine ifB_intro (fun hrt => yes _ o20 (by rw [hrt, Bool.or_true])) (fun hrf => no _ o20 (by rw [hne, hrf]; rfl))
      · have hcc : ids.length ≤ e := by rw [hl1] at hcc; simpa using hcc
        omega
  · have hil : i = K.length := by have hc : K.length ≤ i := by rw [hlK] at hc; simpa using hc
                                  omega
    subst hil
    rw [List.drop_length, show orderL l ids [] = [] from rfl, List.append_nil] at hout
    rw [hout] at S
    exact ⟨o, rfl, o5.trans (o6.trans S.old), S.rd⟩
end Go.Proofs.Ytncbpalncgcoaaa

/-
  Matter: an object is made.
-/
namespace Go.Proofs.Ytncbpalncgcoaaa
open Go.Fw Go.Fw.I Go.Pl.Api Go.Pl.Vst Go.Pl.Mat Go.Pl.Put Go.Pl

theorem Sep.dropAt {h0 h : Heap} {A : As} (L1 : List As) {L2 : List As} (S : Fw.Sep h0 h (L1 ++ A :: L2)) : Fw.Sep h0 h (L1 ++ L2) := (Sep.pull L1 S).drop
def vfS : ByteArray → Value := fun b => .string b
abbrev MLate := Int × Int × ByteArray
def lateC (x : MLate) : List Value := [.int .i64 x.1, .int .i64 x.2.1, .string x.2.2]
def eLate : Elem MLate where
  size := 3
  own xs x _ f := xs = lateC x ∧ f = []
  rd h p x := p.spot = none ∧ ∀ j v, (lateC x)[j]? = some v → hcell h (p.add j) = some v
  len o := by rw [o.1]; rfl
  one o v hv := by
    rw [o.1] at hv
    simp [lateC] at hv
    rcases hv with rfl | rfl | rfl <;> rfl
  loc o _ := o
  toRd o hs hc := ⟨hs, by rw [← o.1]; exact hc⟩
  ext r e := ⟨r.1, fun j v hj => e _ _ (r.2 j v hj)⟩
def objC (o : MObj) (x : Sl) : Array Value := #[.int .i64 o.id, .string o.cls, x.v, .int .i64 o.real.kind, .string o.real.s, .int .i64 o.real.n]
theorem one_objC (o : MObj) (x : Sl) : ∀ v ∈ (objC o x).toList, v.oneCell' = true := by
  intro v hv
  simp [objC] at hv
  rcases hv with rfl | rfl | rfl | rfl | rfl | rfl <;> rfl
def coderC (c0 c1 c2 c3 c4 : Value) (s : Sl) (nm md : Option Nat) (cd lt : Sl) : Array Value := #[c0, c1, c2, c3, c4, s.v, .map nm, .map md, cd.v, lt.v]
theorem ld_rawPart {h0 h : Heap} {p : Addr} {cs ds : Array Value} {L : List As} {n : Nat} {K : Array Value → Prop} (S : Fw.Sep h0 h (rawB p cs :: L)) (hn : ds.size = n) (hd : ∀ (j : Nat) (v : Value), ds[j]? = some v → cs[j]? = some v) (hK : K ds) : ld (.agg n) h (p.add 0) K := by
  obtain ⟨_, hc⟩ := rawB_cell S
  refine ⟨ds, ⟨hn, fun j v hj => ?_⟩, hK⟩
  rw [Go.Fw.Addr.add_zero', hc]
  exact hd j v hj
/-- What was found, as it is answered. -/
def fdV (o : MObj) (v : Value) : As := fun h f => ∃ (x : Sl) (b : Bool), v = .tuple #[.agg (objC o x), .bool b] ∧ ownSl si_Lapi_Arg eArg x o.vals h f
def specFd (o : MObj) : Fw.Spec := ⟨fun v => [fdV o v], fun v => ∃ (x : Sl) (b : Bool), v = .tuple #[.agg (objC o x), .bool b]⟩
theorem Sep.ofFd {h0 h : Heap} {L : List As} {o : MObj} {x : Sl} {b : Bool} (S : Fw.Sep h0 h (fdV o (.tuple #[.agg (objC o x), .bool b]) :: L)) : Fw.Sep h0 h (ownSl si_Lapi_Arg eArg x o.vals :: L) :=
  S.conv loc_ownSl fun f ⟨x', b', e, o1⟩ => ⟨f, List.Sublist.refl f, by
    have : x.v = x'.v := by
      simp only [objC, Value.tuple.injEq, Array.mk.injEq, List.cons.injEq, Value.agg.injEq] at e
      exact e.1.2.2.1
    rw [Sl.v_inj this]
    exact o1⟩
/-- A class, as it is answered. -/
def clsC (c : MClass) (x : Sl) : Array Value := #[.string c.name, x.v]
def specCl (hb : Heap) (c : MClass) : Fw.Spec := ⟨fun _ => [], fun v => ∃ (x : Sl) (b : Bool), v = .tuple #[.agg (clsC c x), .bool b] ∧ rdSl rVar.el hb x c.fields⟩
def specSt : List Value → Fw.Spec
  | [.pointer (some p), .agg r] => ⟨fun _ => [rawB p r], fun v => v = undef⟩
  | _ => Fw.Spec.val undef
theorem free_st {zs cs : Array Value} {n : Nat} {hb : Heap} {p : Addr} {K : Value → Prop} (hz : zs.size = n) (hc : cs.size = n) (h1 : ∀ v ∈ cs.toList, v.oneCell' = true) (hK : K undef) :
    freeW (Old hb) hb (specSt [.pointer (some p), .agg cs]) ([ptrV zs (.pointer (some p))] ++ ([] ++ [])) (fun h K => cs.size = n ∧ st cs.toList h p fun h' => K undef h') K :=
  ⟨⟨undef, rfl⟩, fun h X _ S => st_allB (Sep.ofP S) hz hc h1 fun h' S' => ⟨S'.old, rfl, S'⟩, fun v e => by rw [show v = undef from e]; exact hK⟩

theorem class_there {h : Heap} {cs : List Value} {p : MProg} {n : ByteArray} {c : MClass} (hp : rProg.rv h cs p) (hc : classF p n = some c) : ∃ x : Sl, rdSl rVar.el h x c.fields := by
  obtain ⟨c1, c2, rfl, _, c3, c4, rfl, ⟨s, rfl, hs⟩, _⟩ := hp
  obtain ⟨i, hi, e⟩ := List.getElem_of_mem (List.mem_of_find?_eq_some hc)
  have hs : rdSl rClass.el h s p.classes := hs
  obtain ⟨_, _, _, _, h5⟩ := hs
  rcases h5 with h5 | ⟨a, ha, _, h5⟩
  · rw [h5] at hi; simp at hi
  · obtain ⟨_, ds, _, hr⟩ := h5 i hi
    obtain ⟨x, _, hx⟩ := rv_class.1 hr
    rw [e] at hx
    exact ⟨x, hx⟩
variable {l : List MObj} {order : List Int} {names : List ByteArray}
/-- What the maps hold when the first so many are made. -/
structure NameM (order : List Int) (names : List ByteArray) (N : List (Int × ByteArray)) : Prop where
  get : ∀ z, aget z N = Option.map (fun (k : Nat) => names.getD k eS) (Mat.atF order z)
structure MadeM (order : List Int) (i : Nat) (M : List (Int × Bool)) : Prop where
  get : ∀ z, (aget z M).getD false = true ↔ ∃ q, Mat.atF order z = some q ∧ q < i
def lateE (order : List Int) (x : Nat × Nat × ByteArray) : MLate := (order.getD x.1 0, order.getD x.2.1 0, x.2.2)
def zI : Array Value := #[.int .i64 0, .string ⟨#[]⟩, .string ⟨#[]⟩, .slice none 0 0, .slice none 0 0, .slice none 0 0]
def insA (dst cls : ByteArray) (x : Sl) : Array Value := #[.int .i64 25, .string dst, .string cls, x.v, .slice none 0 0, .slice none 0 0]

set_option maxHeartbeats 4000000 in
theorem make_calls {h0 h : Heap} {X : List As} {s : Sl} {b : Addr} {c0 c1 c2 c3 c4 : Value} {p : MProg} {c : MClass} {nm md : Option Nat} {cd lt : Sl} {N : List (Int × ByteArray)} {M : List (Int × Bool)} {CD : List MInstr} {LT : List MLate} {i : Nat}
    (hs : rdSl rObj.el h0 s l) (hp : rProg.rv h0 [c0, c1, c2, c3, c4] p) (hr : Rising l) (hln : l.length ≤ 1000) (hv : ∀ o ∈ l, o.vals.length ≤ 1000) (hon : order.Pairwise (· ≠ ·)) (hi : i < order.length) (hon1 : order.length ≤ 1000)
    (hcl : classF p (objF l (order.getD i 0)).cls = some c) (hcf : (objF l (order.getD i 0)).vals.length ≤ c.fields.length) (hCD : CD.length ≤ 100000) (hLT : LT.length ≤ 10000000)
    (S : Fw.Sep h0 h (rawB b (coderC c0 c1 c2 c3 c4 s nm md cd lt) :: ownM vfS nm N :: ownM vfB md M :: ownSl si_Lapi_Instr (eIns si_Lapi_Arg) cd CD :: ownSl si_Lmatter_late eLate lt LT :: X)) (hN : NameM order names N) (hM : MadeM order i M) :
    ACalls Try.prog F_matter_coder_make [.pointer (some b), .int .i64 (order.getD i 0)] h (fun v h' => ∃ (cd' lt' : Sl) (M' : List (Int × Bool)), v = .tuple #[] ∧ MadeM order (i + 1) M' ∧
      Fw.Sep h0 h' (rawB b (coderC c0 c1 c2 c3 c4 s nm md cd' lt') :: ownM vfS nm N :: ownM vfB md M' :: ownSl si_Lapi_Instr (eIns si_Lapi_Arg) cd' (CD ++ [newI l order names i]) ::
        ownSl si_Lmatter_late eLate lt' (LT ++ (lates l order c.fields i (objF l (order.getD i 0)).vals.length).map (lateE order)) :: X)) := by
  refine matter_coder_make_of ?_
  unfold matter_coder_make
  generalize hz : order.getD i 0 = z at *
  generalize ho : objF l z = o at *
  refine ⟨Old h, h, [], fun n args => if n = 5 then Fw.Spec.val (.agg #[.int .i64 5, .string ⟨#[]⟩, .int .i64 z]) else if n = 6 then specFd o else if n = 10 then specP #[.int .i64 0, .string ⟨#[]⟩, .slice none 0 0, .int .i64 0, .string ⟨#[]⟩, .int .i64 0] else specSt args, .refl _, Sep.start _, ?_⟩
  refine nil_some ?_
  refine ldF_old (ld_rawB (i := 5) (x := s) S rfl rfl ?_)
  refine fcV (k := .agg 3) (x := #[.int .i64 5, .string ⟨#[]⟩, .int .i64 z]) (fun _ => rfl) (fun h' X' _ _ => mto_calls z) ⟨_, rfl, ?_⟩
  refine ⟨⟨.tuple #[.agg (objC o ⟨none, 0, 0⟩), .bool true], _, _, rfl⟩, fun h' X' o' S' => ?_, ?_⟩
  · refine (Find_calls (a := toA z) (hs.old (S.old.trans o')) (rv_toA _) hr (by omega) fun x hx => Nat.le_trans (hv x hx) (by omega)).mono ?_
    rintro v h2 ⟨ds, rfl, hds, S2⟩
    refine ⟨_, _, rfl, ?_⟩
    have S2 : Fw.Sep h' h2 [ownEl (eObj si_Lapi_Arg) ds.toList o] := by
      have e : (findF l (toA z)).getD zObj = o := ho
      rw [e] at S2
      exact S2
    obtain ⟨x, rfl, S3⟩ := own_found S2
    refine ⟨o'.trans S3.old, ⟨x, _, rfl⟩, ?_⟩
    have S4 := Sep.frame (Sep.dropLeft (L := [] ++ []) S') S3
    exact S4.conv (B := fdV o _) (by rintro h1 h2 f ⟨y, b', e, o1⟩ hb; exact ⟨y, b', e, loc_ownSl o1 hb⟩) fun f o1 => ⟨f, List.Sublist.refl f, x, _, rfl, o1⟩
  rintro v ⟨x, bb, rfl⟩
  refine ⟨_, _, rfl, ?_⟩
  refine free_new fun p2 => ⟨p2, rfl, ?_⟩
  refine free_st rfl rfl (one_objC o x) ?_
  intro h10 o10 S10
  have S10 : Fw.Sep h h10 [fdV o (.tuple #[.agg (objC o x), .bool bb]), rawB p2 (objC o x)] := S10
  have S11 := S.frame (Sep.ofFd S10)
  clear S10 o10
  refine ⟨Old h10, h10, [], fun n args => if n = 6 then specCl h0 c else if n = 10 then specP #[.string ⟨#[]⟩, .slice none 0 0] else specSt args, .refl _, Sep.start _, ?_⟩
  refine nil_some ?_
  have Sb : Fw.Sep h0 h10 (rawB b (coderC c0 c1 c2 c3 c4 s nm md cd lt) :: _) := Sep.pull [_, _] S11
  refine ldF_old (ld_rawPart (ds := #[c0, c1, c2, c3, c4]) Sb rfl (fun j v hj => ?_) ?_)
  · rcases j with _ | _ | _ | _ | _ | j <;> first | exact hj | (simp at hj)
  refine ldF_old (ld_rawB (i := 1) (x := o.cls) S11.swap rfl rfl ?_)
  refine ⟨?_, fun h' X' o' S' => ?_, ?_⟩
  · obtain ⟨y, hy⟩ := class_there hp hcl
    exact ⟨_, y, true, rfl, hy⟩
  · refine (tclass_calls (p := p) (n := o.cls) (hb := h0) hp (S11.old.trans o')).mono ?_
    rintro v h2 ⟨ds, rfl, hds, o2, hrv⟩
    refine ⟨_, _, rfl, o'.trans o2, ?_, Sep.grow S' o2⟩
    rw [hcl] at hrv
    obtain ⟨y, rfl, hy⟩ := arr_class hrv
    exact ⟨y, _, rfl, hy⟩
  rintro v ⟨y, b2, rfl, hy⟩
  refine ⟨_, _, rfl, ?_⟩
  refine free_new fun p5 => ⟨p5, rfl, ?_⟩
  refine free_st rfl rfl (by intro v hv; simp [clsC] at hv; rcases hv with rfl | rfl <;> rfl) ?_
  intro h18 o18 S18
  have S18 : Fw.Sep h10 h18 [rawB p5 (clsC c y)] := S18
  have S19 := S11.frame S18
  clear S18 o18 S11 Sb
  have hsz : ∀ v ∈ (clsC c y).toList, v.oneCell' = true := by intro v hv; simp [clsC] at hv; rcases hv with rfl | rfl <;> rfl
  have hnew : newI l order names i = ⟨25, names.getD i eS, o.cls, o.vals.map (argF l order names i), [], []⟩ := by unfold newI; rw [hz, ho]
  have hNz : aget z N = some (names.getD i eS) := by
    rw [hN.get z, ← hz, getD_lt hi, atF_of hon hi]
    rfl
  refine ⟨Old h18, h18, [], fun n args => if n = 5 then Fw.Spec.val (.string (names.getD i eS)) else specP zI, .refl _, Sep.start _, ?_⟩
  refine nil_some ?_
  have Sb : Fw.Sep h0 h18 (rawB b (coderC c0 c1 c2 c3 c4 s nm md cd lt) :: _) := Sep.pull [_, _, _] S19
  refine ldF_old (ld_rawB (i := 6) (x := nm) Sb rfl rfl ?_)
  refine ⟨⟨_, rfl⟩, fun h' X' o' S' => ?_, ?_⟩
  · have hrd : rdM vfS h18 nm N := rdM_of (Sep.pull [_, _, _, _] S19)
    refine mlk_rule (hrd.old o') ?_
    rw [hNz]
    exact ⟨_, rfl, o', rfl, S'⟩
  rintro v rfl
  refine ⟨_, rfl, ?_⟩
  refine ldF_old (ld_rawB (i := 1) (x := o.cls) (Sep.pull [_, _] S19) rfl rfl ?_)
  refine ⟨insA (names.getD i eS) o.cls ⟨none, 0, 0⟩, by kernel_rfl, ?_⟩
  refine free_new fun p8 => ⟨p8, rfl, ?_⟩
  intro h23 o23 S23
  have S23 : Fw.Sep h18 h23 [ptrV zI (.pointer (some p8))] := S23
  have S24 := S19.frame (Sep.ofP S23)
  clear S23 o23 S19 Sb
  have one_insA : ∀ (d e : ByteArray) (x : Sl), ∀ v ∈ (insA d e x).toList, v.oneCell' = true := by
    intro d e x v hv; simp [insA] at hv; rcases hv with rfl | rfl | rfl | rfl | rfl <;> rfl
  refine st_allB S24 rfl rfl (one_insA _ _ _) fun h24 S25 => ?_
  have S26 := Sep.push [_] (Sep.nil (si := si_Lapi_Arg) (E := eArg) S25 rfl)
  clear S24 S25
  have S26 : Fw.Sep h0 h24 (rawB p8 (insA (names.getD i eS) o.cls ⟨none, 0, 0⟩) :: ownSl si_Lapi_Arg eArg ⟨none, 0, 0⟩ [] :: rawB p5 (clsC c y) :: ownSl si_Lapi_Arg eArg x o.vals :: rawB p2 (objC o x) :: rawB b (coderC c0 c1 c2 c3 c4 s nm md cd lt) :: ownM vfS nm N :: ownM vfB md M :: ownSl si_Lapi_Instr (eIns si_Lapi_Arg) cd CD :: ownSl si_Lmatter_late eLate lt LT :: X) := S26
  refine ld_rawB (i := 2) (x := x) (Sep.pull [_, _, _, _] S26) rfl rfl ?_
  have hxl := (Sep.pull [_, _, _] S26).rd.lenEq
  have hvl : o.vals.length ≤ 1000 := by rw [← ho]; exact objF_vals_le hv z
  have hyl := hy.lenEq
  have hlsucc : ∀ j, lates l order c.fields i (j + 1) = lates l order c.fields i j ++ (lateO l order c.fields i o.vals j).toList := fun j => by
    unfold lates
    rw [List.range_succ, List.filterMap_append, fm_one, hz, ho]
  refine loop_intro (fun n (q : Int) h' => ∃ (j : Nat) (xs lt' : Sl), q = j ∧ j ≤ o.vals.length ∧ n = o.vals.length - j ∧ (lates l order c.fields i j).length ≤ j ∧
      Fw.Sep h0 h' (rawB p8 (insA (names.getD i eS) o.cls xs) :: ownSl si_Lapi_Arg eArg xs ((o.vals.take j).map (argF l order names i)) :: rawB p5 (clsC c y) :: ownSl si_Lapi_Arg eArg x o.vals :: rawB p2 (objC o x) :: rawB b (coderC c0 c1 c2 c3 c4 s nm md cd lt') :: ownM vfS nm N :: ownM vfB md M :: ownSl si_Lapi_Instr (eIns si_Lapi_Arg) cd CD ::
        ownSl si_Lmatter_late eLate lt' (LT ++ (lates l order c.fields i j).map (lateE order)) :: X)) o.vals.length
    ⟨0, _, lt, rfl, by omega, by omega, by simp [lates], by simpa [lates] using S26⟩ ?_
  clear S26
  rintro _ _ _ h25 ⟨j, xs, lt', rfl, hj, rfl, hlj, S⟩
  refine ifB_intro (fun hc => ?_) (fun hc => ?_)
  · have hjl : j < o.vals.length := by rw [hxl] at hc; simpa using hc
    have hpull3 := (Sep.pull [_, _, _] S).rd
    refine idx_rdN hpull3 rfl hjl fun p9 _ hp9 => ?_
    have hp9 : rArg.el.rd h25 p9 o.vals[j] := hp9
    refine ld_agg hp9 (hExt.refl _) rfl fun cs hcs => ?_
    refine new_stR S rfl (size_rv hcs) (one_arg hcs) fun p10 h27 S27 => ?_
    clear S
    refine nil_some ?_
    have Sb := Sep.pull [_, _, _, _, _, _] S27
    refine ld_rawB (i := 5) (x := s) Sb rfl rfl ?_
    refine ld_rawAgg S27 (size_rv hcs).symm ?_
    refine (really_calls (a := o.vals[j]) (hs.old S27.old) (rv_arg.2 (rv_arg.1 hcs)) hr (by omega)).mono ?_
    rintro v h28 ⟨ds, rfl, o28, hds⟩
    refine ⟨_, rfl, ?_⟩
    have S28 := S27.grow o28
    clear S27 Sb
    have eds := arr_arg hds
    refine st_allB S28 (size_rv hcs) (size_rv hds) (one_arg hds) fun h29 S29 => ?_
    clear S28
    generalize hra : reallyF l o.vals[j] = ra at *
    subst eds
    refine nil_some ?_
    refine ld_rawB (i := 6) (x := nm) (Sep.pull [_, _, _, _, _, _] S29) rfl rfl ?_
    refine ld_rawB (i := 2) (x := ra.n) S29 rfl rfl ?_
    refine mlk_rule (rdM_of (Sep.pull [_, _, _, _, _, _, _] S29)) ?_
    rw [hN.get]
    -- what the argument is to be
    have htgt : tgt l order o.vals[j] = if ra.kind = 5 then Mat.atF order ra.n else none := by unfold tgt; rw [hra]
    have htake : (o.vals.take (j + 1)).map (argF l order names i) = (o.vals.take j).map (argF l order names i) ++ [argF l order names i o.vals[j]] := by
      rw [List.take_succ_eq_append_getElem hjl, List.map_append]; rfl
    have hget : o.vals[j]? = some o.vals[j] := List.getElem?_eq_getElem hjl
    refine ⟨((Option.map (fun (k : Nat) => names.getD k eS) (Mat.atF order ra.n)).getD eS), by cases Mat.atF order ra.n <;> rfl, ?_⟩
    intro k hk
    have fin : ∀ (lt2 : Sl) (na : MArg) (add : List (Nat × Nat × ByteArray)) h', na = argF l order names i o.vals[j] → add = (lateO l order c.fields i o.vals j).toList →
        Fw.Sep h0 h' (rawB p10 (argC na).toArray :: rawB p8 (insA (names.getD i eS) o.cls xs) :: ownSl si_Lapi_Arg eArg xs ((o.vals.take j).map (argF l order names i)) :: rawB p5 (clsC c y) :: ownSl si_Lapi_Arg eArg x o.vals :: rawB p2 (objC o x) :: rawB b (coderC c0 c1 c2 c3 c4 s nm md cd lt2) :: ownM vfS nm N :: ownM vfB md M :: ownSl si_Lapi_Instr (eIns si_Lapi_Arg) cd CD ::
          ownSl si_Lmatter_late eLate lt2 (LT ++ (lates l order c.fields i j ++ add).map (lateE order)) :: X) → k () h' := fun lt2 na add h' e1 e2 S' => by
      refine hk _ _ fun _ => ?_
      refine ld_rawB (i := 3) (x := xs) S'.swap rfl rfl ?_
      refine ld_rawAgg (cs := (argC na).toArray) S' rfl ?_
      refine app1_flat (x := na) (Sep.pull [_, _] S') (fun _ => ⟨rfl, rfl⟩) rfl (by decide) ?_ ?_ fun xs' h31 S31 => ?_
      · simp only [List.length_map, List.length_take, si_Lapi_Arg]; omega
      · simp only [List.length_map, List.length_take]; omega
      refine st_rawB (i := 3) (Sep.pull [_, _] S31) (show 3 < 6 by decide) rfl fun h33 S33 => ?_
      refine ar_i64 (by omega) (by omega) ⟨o.vals.length - (j + 1), by omega, j + 1, xs', lt2, rfl, by omega, rfl, ?_, ?_⟩
      · rw [hlsucc, List.length_append]
        have : (lateO l order c.fields i o.vals j).toList.length ≤ 1 := by cases lateO l order c.fields i o.vals j <;> simp
        omega
      · rw [htake, hlsucc, ← e1, ← e2]
        exact Sep.dropAt [_, _] S33
    intro k1 hk1
    have keep : ra.kind ≠ 5 ∨ Mat.atF order ra.n = none → k1 true h29 := fun hno => by
      refine hk1 _ _ fun _ => ifB_true rfl ?_
      have ht : tgt l order o.vals[j] = none := by
        rw [htgt]
        rcases hno with h | h
        · rw [if_neg h]
        · rw [h]; split <;> rfl
      refine fin lt' ra [] h29 (by unfold argF; rw [ht]; exact hra.symm) (by unfold lateO; rw [hget]; simp [ht]) ?_
      rw [List.append_nil]
      exact S29
    refine ld_rawB (i := 0) (x := ra.kind) S29 rfl rfl ?_
    refine ifB_intro (fun hk5 => keep (.inl (by simpa using hk5))) (fun hk5 => ?_)
    have hk5 : ra.kind = 5 := by simpa using hk5
    rw [if_pos hk5] at htgt
    cases hat : Mat.atF order ra.n with
    | none => exact keep (.inr hat)
    | some q =>
    rw [hat] at htgt
    obtain ⟨hq, eq⟩ := atF_some hat
    refine hk1 _ _ fun _ => ifB_false rfl ?_
    refine nil_some ?_
    refine ld_rawB (i := 7) (x := md) (Sep.pull [_, _, _, _, _, _] S29) rfl rfl ?_
    refine ld_rawB (i := 2) (x := ra.n) S29 rfl rfl ?_
    refine mlk_rule (rdM_of (Sep.pull [_, _, _, _, _, _, _, _] S29)) ?_
    have hMq := hM.get ra.n
    rw [hat] at hMq
    refine ⟨(aget ra.n M).getD false, by cases aget ra.n M <;> rfl, ?_⟩
    refine ifB_intro (fun hmade => ?_) (fun hmade => ?_)
    · have hqi : q < i := by
        obtain ⟨q', e, h⟩ := hMq.1 hmade
        injection e with e
        omega
      refine (mvar_calls _).mono ?_
      rintro v h35 ⟨rfl, o35⟩
      refine ⟨_, rfl, ?_⟩
      refine st_allB (S29.grow o35) rfl rfl (by intro v hv; simp at hv; rcases hv with rfl | rfl | rfl <;> rfl) fun h36 S36 => ?_
      refine fin lt' (varA (names.getD q eS)) [] h36 (by unfold argF; rw [htgt]; simp only; rw [if_pos hqi]) ?_ ?_
      · unfold lateO
        rw [hget]
        simp only [htgt]
        rw [if_neg (by omega)]
        rfl
      · rw [List.append_nil]
        have hnm : (Option.map (fun (k : Nat) => names.getD k eS) (Mat.atF order ra.n)).getD eS = names.getD q eS := by rw [hat]; rfl
        rw [hnm] at S36
        exact S36
    · have hqi : i ≤ q := by
        rcases Nat.lt_or_ge q i with h | h
        · rw [hMq.2 ⟨q, rfl, h⟩] at hmade
          cases hmade
        · exact h
      refine nil_some ?_
      refine ld_rawB (i := 9) (x := lt') (Sep.pull [_, _, _, _, _, _] S29) rfl rfl ?_
      refine ld_rawB (i := 2) (x := ra.n) S29 rfl rfl ?_
      refine ld_rawB (i := 1) (x := y) (Sep.pull [_, _, _] S29) rfl rfl ?_
      have hjf : j < c.fields.length := by omega
      refine idx_rdN (hy.old S29.old) rfl hjf fun p15 _ hp15 => ?_
      refine ld_str (fld_vName.rd hp15) (hExt.refl _) ?_
      refine ⟨#[.int .i64 z, .int .i64 ra.n, .string c.fields[j].name], by kernel_rfl, ?_⟩
      have hle : lateE order (i, q, c.fields[j].name) = (z, ra.n, c.fields[j].name) := by
        unfold lateE
        simp only
        rw [hz, getD_lt hq, eq]
      have hlo : lateO l order c.fields i o.vals j = some (i, q, c.fields[j].name) := by
        unfold lateO
        rw [hget]
        simp only [htgt]
        rw [if_pos hqi, List.getElem?_eq_getElem hjf]
        rfl
      refine app1_flat (x := (z, ra.n, c.fields[j].name)) (Sep.pull [_, _, _, _, _, _, _, _, _, _] S29) (fun _ => ⟨rfl, rfl⟩) rfl (by decide) ?_ ?_ fun lt2 h38 S38 => ?_
      · simp only [List.length_append, List.length_map, si_Lmatter_late]; omega
      · simp only [List.length_append, List.length_map]; omega
      refine nil_some ?_
      refine st_rawB (i := 9) (Sep.pull [_, _, _, _, _, _, _] S38) (show 9 < 10 by decide) rfl fun h39 S39 => ?_
      refine ⟨#[.int .i64 4, .string ⟨#[]⟩, .int .i64 0], by kernel_rfl, ?_⟩
      have S40 := Sep.pull [_, _] S39
      refine st_allB S40 rfl rfl (by intro v hv; simp at hv; rcases hv with rfl | rfl | rfl <;> rfl) fun h40 S41 => ?_
      refine fin lt2 nulA [(i, q, c.fields[j].name)] h40 (by unfold argF; rw [htgt]; simp only; rw [if_neg (by omega)]) (by rw [hlo]; rfl) ?_
      rw [List.map_append, ← List.append_assoc]
      have hone : [(i, q, c.fields[j].name)].map (lateE order) = [(z, ra.n, c.fields[j].name)] := by simp [hle]
      rw [hone]
      exact Sep.push [_, _, _, _, _, _] (Sep.pull [_] (Sep.push [_, _, _, _, _, _, _, _, _, _] (Sep.pull [_, _] S41)))
  · have hjl : j = o.vals.length := by have hc : o.vals.length ≤ j := by rw [hxl] at hc; simpa using hc
                                       omega
    subst hjl
    rw [List.take_length] at S
    refine nil_some ?_
    refine ld_rawB (i := 8) (x := cd) (Sep.pull [_, _, _, _, _] S) rfl rfl ?_
    refine ld_rawAgg S rfl ?_
    have S2 : Fw.Sep h0 h25 (ownEl (eIns si_Lapi_Arg) (insA (names.getD i eS) o.cls xs).toList (newI l order names i) :: rawB p8 (insA (names.getD i eS) o.cls xs) :: rawB p5 (clsC c y) :: ownSl si_Lapi_Arg eArg x o.vals :: rawB p2 (objC o x) :: rawB b (coderC c0 c1 c2 c3 c4 s nm md cd lt') :: ownM vfS nm N :: ownM vfB md M :: ownSl si_Lapi_Instr (eIns si_Lapi_Arg) cd CD ::
        ownSl si_Lmatter_late eLate lt' (LT ++ (lates l order c.fields i o.vals.length).map (lateE order)) :: X) := S.swap.conv loc_ownEl fun f o1 => ⟨f, List.Sublist.refl f, xs, by rw [hnew]; rfl, by rw [hnew], by rw [hnew], by rw [hnew]; exact o1⟩
    have S3 := Sep.swap (Sep.pull [_, _, _, _, _, _, _, _] S2)
    refine app1_rule (x := newI l order names i) (Sep.swap S3) rfl (by decide) (by simp only [si_Lapi_Instr]; omega) (by omega) fun cd' h42 S42 => ?_
    refine nil_some ?_
    refine st_rawB (i := 8) (Sep.pull [_, _, _, _, _] S42) (show 8 < 10 by decide) rfl fun h43 S43 => ?_
    refine nil_some ?_
    refine ld_rawB (i := 7) (x := md) S43 rfl rfl ?_
    refine mup_rule (x := true) (Sep.pull [_, _, _, _, _, _, _] S43) rfl fun h44 S44 => ?_
    refine ⟨cd', lt', aput z true M, rfl, ⟨fun w => ?_⟩, ?_⟩
    · rw [aget_put]
      split
      · rename_i e
        refine ⟨fun _ => ⟨i, ?_, by omega⟩, fun _ => rfl⟩
        rw [e, ← hz, getD_lt hi, atF_of hon hi]
      · rename_i e
        rw [hM.get w]
        constructor
        · rintro ⟨q, h1, h2⟩; exact ⟨q, h1, by omega⟩
        · rintro ⟨q, h1, h2⟩
          refine ⟨q, h1, ?_⟩
          obtain ⟨hq, eq⟩ := atF_some h1
          have : q ≠ i := fun h => by
            subst h
            exact e (by rw [← eq, ← hz, getD_lt hq])
          omega
    · have T := Sep.dropAt [_, _, _] (Sep.dropAt [_, _, _] (Sep.dropAt [_, _, _] (Sep.dropAt [_, _, _] S44)))
      exact Sep.pull [_, _] (Sep.pull [_, _, _] T)
end Go.Proofs.Ytncbpalncgcoaaa
