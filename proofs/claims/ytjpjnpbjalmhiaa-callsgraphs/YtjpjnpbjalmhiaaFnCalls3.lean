/-
  calls: down.
-/
import Derived.Test.YtjpjnpbjalmhiaaFnCalls2
namespace Go.Proofs.Ytjpjnpbjalmhiaa
open Go.Fw Go.Pl
variable {h0 h : Heap} {p : Addr} {g r l pt o lf rd : Sl} {R L Pt O LF : List Int} {Rd : List Bool} {X : List As}

/-- All that the walk knows at the head of its loop. -/
structure DW (G : Graph) (f : Nat) (fin : List Bool × List Int) (T : TS) (R L Pt : List Int) (Rd M : List Bool) (LF : List Int) : Prop where
  ti : TI G T
  ws : WS G T R L Pt Rd M
  st : ∀ x ∈ T.st, x.1 < G.length ∧ x.2 ≤ (G.getD x.1 []).length
  un : unw G (f + 1) T.st (M, LF) = fin
  cnt : LF.length + T.st.length + open' M = G.length

theorem wdown_calls {LFz : List Int} {G : Graph} (hg : rdSl eInts h0 g G) (hn : G.length ≤ 1000) {T : TS} {M : List Bool} {frm : Nat} (S : Fw.Sep h0 h (WL p g r l pt o lf rd R L Pt (castL T.O) LFz Rd X)) (t : TI G T) (hst : T.st = []) (w : WS G T R L Pt Rd M)
    (hf : frm < G.length) (hf0 : T.rank frm = 0) (hcnt : LFz.length + open' M = G.length) :
    ACalls Try.prog F_calls_walker_down [.pointer (some p), .int .i64 (frm : Int), .int .i64 (T.m : Int)] h (fun v h' => ∃ (T' : TS) (R' L' Pt' LF' : List Int) (Rd' M' : List Bool) (o' lf' : Sl), v = .int .i64 (T'.m : Int) ∧
      TI G T' ∧ T'.st = [] ∧ WS G T' R' L' Pt' Rd' M' ∧ (M', LF') = dn G G.length frm M LFz ∧ LF'.length + open' M' = G.length ∧ Fw.Sep h0 h' (WL p g r l pt o' lf' rd R' L' Pt' (castL T'.O) LF' Rd' X)) := by
  refine calls_walker_down_of ?_
  unfold calls_walker_down
  obtain ⟨f, hGf⟩ : ∃ f, G.length = f + 1 := ⟨G.length - 1, by omega⟩
  have hgl := hg.lenEq
  have hop := w.op
  have hcn := w.cnt
  refine ar_i64 (by omega) (by omega) ?_
  rw [show (T.m : Int) + 1 = ((T.m + 1 : Nat) : Int) by omega]
  refine (mark_calls S (k := frm) (n := T.m + 1) (by rw [w.lR]; exact hf) (by rw [w.lL]; exact hf) (by simp; omega)).mono ?_
  rintro v h1 ⟨rfl, o1, S1⟩
  refine ⟨_, rfl, ?_⟩
  refine bld_one (si := si_Lcalls_step) (E := eStep) (x := ((frm : Int), (0 : Int))) (S1.nil rfl) (own_step _ _) rfl (by decide) fun s h2 S2 => ?_
  have hO1 : castL T.O ++ [(frm : Int)] = castL (T.O ++ [frm]) := by simp [castL]
  rw [hO1] at S2
  have hfM : frm < M.length := by rw [w.lM]; exact hf
  have hMf := (w.k frm hf).2 hf0
  have hc1 := count_set hfM (by rwa [getD_lt hfM] at hMf)
  have hempty := t.empty hst
  have D0 : DW G f (dn G G.length frm M LFz) ⟨upF T.rank frm (T.m + 1), upF T.low frm (T.m + 1), T.part, T.rnd, T.O ++ [frm], [(frm, 0)], T.m + 1⟩ (R.set frm ((T.m + 1 : Nat) : Int)) (L.set frm ((T.m + 1 : Nat) : Int)) Pt Rd (M.set frm true) LFz :=
    ⟨t.push (st' := []) hf hf0 (.inl ⟨hst, rfl⟩), w.push hf hf0 _, fun x hx => by
      rw [List.mem_singleton.1 hx]; exact ⟨hf, by simp⟩, by rw [hGf]; exact dn_unw hGf w.lM hf hMf (by omega), by simp; omega⟩
  refine loop_intro (fun m (q : Int × Sl) h' => ∃ (T : TS) (R L Pt LF : List Int) (Rd M' : List Bool) (o lf : Sl), q.1 = (T.m : Int) ∧ DW G f (dn G G.length frm M LFz) T R L Pt Rd M' LF ∧ m = todo G T.st M' ∧
      Fw.Sep h0 h' (ownSl si_Lcalls_step eStep q.2 (stk T.st) :: WL p g r l pt o lf rd R L Pt (castL T.O) LF Rd X)) _
    ⟨_, _, _, _, _, _, _, o1, lf, rfl, D0, rfl, S2⟩ ?_
  clear D0 S2 S1 S hempty hcnt hf0 hst t w hop hcn hc1 hMf hO1
  rintro _ _ ⟨mk, stack⟩ h3 ⟨T, R, L, Pt, LF, Rd, M', o, lf, hq1, D, rfl, S⟩
  simp only at hq1 S ⊢
  subst hq1
  have hsl := S.rd.lenEq
  rw [stk_len] at hsl
  have hcnt := D.cnt
  have w := D.ws
  have t := D.ti
  have hop := w.op
  have hcn := w.cnt
  refine ifB_intro (fun hc => ?_) (fun hc => ?_)
  case refine_2 =>
    have hnil : T.st = [] := List.length_eq_zero_iff.1 (by have := of_decide_eq_false hc; omega)
    have hun := D.un
    rw [hnil] at hun
    have hun : (M', LF) = dn G G.length frm M LFz := hun
    exact ⟨T, R, L, Pt, LF, Rd, M', o, lf, rfl, t, hnil, w, hun, by rw [hnil] at hcnt; simpa using hcnt, S.drop⟩
  obtain ⟨a, i, rr, hst⟩ : ∃ a i rr, T.st = (a, i) :: rr := by
    cases e : T.st with
    | nil => rw [e] at hsl; have := of_decide_eq_true hc; simp at hsl; omega
    | cons x rr => exact ⟨x.1, x.2, rr, rfl⟩
  obtain ⟨ha, hi⟩ := D.st (a, i) (by rw [hst]; simp)
  simp only at ha hi
  have haO : a ∈ T.O := t.onp a (by rw [hst]; simp)
  have har := (t.op a).1 haO
  have hsl' : stack.len = rr.length + 1 := by rw [hsl, hst]; simp
  refine ar_i64 (by omega) (by omega) ?_
  have e1 : (stack.len : Int) - 1 = ((rr.length : Nat) : Int) := by omega
  rw [e1]
  rw [hst] at S
  have hin : rr.length < (stk ((a, i) :: rr)).length := by rw [stk_len]; simp
  have htop : ∀ (a i : Nat) (rr : List (Nat × Nat)) (hin : rr.length < (stk ((a, i) :: rr)).length), (stk ((a, i) :: rr))[rr.length] = ((a : Int), (i : Int)) := fun a i rr hin => by
    simp only [stk_cons]; rw [List.getElem_append_right (by rw [stk_len]; exact Nat.le_refl _)]; simp
  refine idx_rdN S.rd rfl hin fun q hat hp => ?_
  rw [htop a i rr hin] at hp
  obtain ⟨hp1, hp2⟩ := hp
  have hp0 : holds h3 (q.add 0) (.int .i64) (a : Int) := by rw [Addr.add_zero']; exact hp1
  refine ld_one (k := .int .i64) hp2 ?_
  refine nilck_some ?_
  refine ld_rawB (x := g) (Sep.pull [_] S) rfl rfl ?_
  refine ld_one hp0 ?_
  refine idx_rdN hg rfl ha fun p2 _ hq => ld_slB hq S.old fun row hrow => ?_
  rw [row_eq] at hrow
  have hrl := hrow.lenEq
  have hrb := hrow.bound
  have haR : a < R.length := by rw [w.lR]; exact ha
  have haL : a < L.length := by rw [w.lL]; exact ha
  have hRa : R[a] = (T.rank a : Int) := by rw [← getD_lt haR, w.r a ha]
  have hLa : L[a] = (T.low a : Int) := by rw [← getD_lt haL, w.l a ha]
  refine ifB_intro (fun hc => ?_) (fun hc => ?_)
  · -- a point is left
    have hie : (G.getD a []).length = i := by
      have : (i : Int) = (row.len : Int) := by simpa using hc
      omega
    refine ld_one hp0 ?_
    refine ar_i64 (by omega) (by omega) ?_
    refine slc_to S (by omega) (by rw [stk_len]; simp; omega) fun s1 S1 => ?_
    have hstk : (stk ((a, i) :: rr)).take rr.length = stk rr := by rw [stk_cons, List.take_left' (stk_len rr)]
    rw [Int.toNat_natCast, hstk] at S1
    have S2 := Sep.push [_, _, _, _, _, _, _] S1
    obtain ⟨hcut, hcutk⟩ := t.cutSplit haO
    have hcutO : castL T.O = castL (T.O.filter fun x => decide (T.rank x < T.rank a)) ++ (cut T.rank a T.O).map fun (x : Nat) => (x : Int) := by
      conv => lhs; rw [hcut]
      simp [castL]
    have hcin : ∀ x ∈ cut T.rank a T.O, x < G.length := fun x hx => (t.vis x ((t.op x).1 (List.mem_filter.1 hx).1).1).1
    refine (leave_calls (k := a) S2 haR haL (by rw [hst] at hcnt; simp at hcnt; omega) hLa hRa hcutO ?_ hcutk (fun x hx => ⟨by rw [w.lP]; exact hcin x hx, by rw [w.lD]; exact hcin x hx⟩) (by simp; omega)).mono ?_
    · intro hm
      obtain ⟨x, hx, e⟩ := List.mem_map.1 hm
      have : x = a := by omega
      subst this
      have := of_decide_eq_true (List.mem_filter.1 hx).2
      omega
    rintro v h4 ⟨rfl, lf', hno, hyes⟩
    refine ⟨rfl, ?_⟩
    have hun : unw G (f + 1) rr (M', LF ++ [(a : Int)]) = dn G G.length frm M LFz := by
      rw [← D.un, hst, unw_pop (by omega)]
    have hcnt' : (LF ++ [(a : Int)]).length + rr.length + open' M' = G.length := by
      rw [hst] at hcnt; simp at hcnt ⊢; omega
    have hst' : ∀ x ∈ rr, x.1 < G.length ∧ x.2 ≤ (G.getD x.1 []).length := fun x hx => D.st x (by rw [hst]; simp [hx])
    have htodo : todo G rr M' < todo G T.st M' := by rw [hst]; exact todo_pop
    intro k1 hk1
    have fin : ∀ (T' : TS) (R' L' Pt' : List Int) (Rd' : List Bool) (o' : Sl) (h' : Heap), TI G T' → T'.st = rr → T'.m = T.m → WS G T' R' L' Pt' Rd' M' → Fw.Sep h0 h' (ownSl si_Lcalls_step eStep s1 (stk rr) :: WL p g r l pt o' lf' rd R' L' Pt' (castL T'.O) (LF ++ [(a : Int)]) Rd' X) → k1 () h' := fun T' R' L' Pt' Rd' o' h' t' e1 e2 w' S' => by
      refine hk1 _ _ fun _ => ⟨_, htodo, T', R', L', Pt', _, Rd', M', o', lf', by rw [e2], ⟨t', w', by rw [e1]; exact hst', by rw [e1]; exact hun, by rw [e1]; exact hcnt'⟩, by rw [e1], ?_⟩
      rw [e1]; exact S'
    have hs1l : s1.len = rr.length := by
      have := S1.rd.lenEq
      rw [this, stk_len]
    by_cases hlr : T.low a = T.rank a
    · -- a part is done
      obtain ⟨o', c, Pt', Rd', hcC, hcmin, hPl, hRl, hP, hR, S4⟩ := hyes (by rw [hlr])
      have S4 := Sep.pull [_, _, _, _, _, _, _] S4
      have hPlen : Pt'.length = G.length := by rw [hPl, w.lP]
      have hRlen : Rd'.length = G.length := by rw [hRl, w.lD]
      have t' := t.done (c := c) (part' := fun v => if v < G.length then Pt'.getD v (-1) else T.part v) (rnd' := fun v => if v < G.length then Rd'.getD v false else T.rnd v) hst (by omega) hlr hcC hcmin (fun v => ?_) (fun v => ?_)
      rotate_left
      · by_cases hv : v < G.length
        · rw [if_pos hv, getD_lt (by omega), hP v (by omega), w.p v hv]
        · rw [if_neg hv, if_neg fun h => hv (hcin v h)]
      · by_cases hv : v < G.length
        · rw [if_pos hv, getD_lt (by omega), hR v (by omega), w.d v hv]
        · rw [if_neg hv]
          exact ⟨.inl, fun h => h.elim id fun h => absurd (hcin v h.1) hv⟩
      have w' : WS G ⟨T.rank, T.low, fun v => if v < G.length then Pt'.getD v (-1) else T.part v, fun v => if v < G.length then Rd'.getD v false else T.rnd v, T.O.filter fun x => decide (T.rank x < T.rank a), rr, T.m⟩ R L Pt' Rd' M' :=
        ⟨w.lR, w.lL, hPlen, hRlen, w.lM, w.r, w.l, fun v hv => (if_pos hv).symm, fun v hv => (if_pos hv).symm, w.k, Nat.le_trans (List.length_filter_le _ _) hop, hcn⟩
      refine ifB_intro (fun hc2 => ?_) (fun hc2 => fin _ _ _ _ _ o' h4 t' rfl rfl w' S4)
      obtain ⟨v, j, r2, hr2⟩ : ∃ v j r2, rr = (v, j) :: r2 := by
        cases e : rr with
        | nil => rw [e] at hs1l; have := of_decide_eq_true hc2; simp at hs1l; omega
        | cons x r2 => exact ⟨x.1, x.2, r2, rfl⟩
      obtain ⟨hv, _⟩ := hst' (v, j) (by rw [hr2]; simp)
      simp only at hv
      refine ar_i64 (by omega) (by omega) ?_
      rw [hr2] at S4 hs1l
      rw [show (s1.len : Int) - 1 = ((r2.length : Nat) : Int) by rw [hs1l]; simp]
      have hin2 : r2.length < (stk ((v, j) :: r2)).length := by rw [stk_len]; simp
      refine idx_rdN S4.rd rfl hin2 fun q3 _ hq3 => ?_
      rw [htop v j r2 hin2] at hq3
      have hq30 : holds h4 (q3.add 0) (.int .i64) (v : Int) := by rw [Addr.add_zero']; exact hq3.1
      refine ld_one hq30 ?_
      have S5 := Sep.pull [_] S4
      refine nilck_some ?_
      refine ld_rawB (x := l) S5 rfl rfl ?_
      refine nilck_some ?_
      refine ld_rawB (x := l) S5 rfl rfl ?_
      have hvL : v < L.length := by rw [w.lL]; exact hv
      have hLv : L[v] = (T.low v : Int) := by rw [← getD_lt hvL, w.l v hv]
      refine idx_rdN (Sep.pull [_, _, _] S4).rd rfl hvL fun p6 _ hp6 => ld_one hp6 ?_
      refine nilck_some ?_
      refine ld_rawB (x := l) S5 rfl rfl ?_
      refine idx_rdN (Sep.pull [_, _, _] S4).rd rfl haL fun p8 _ hp8 => ld_one hp8 ?_
      refine idx_rdN (Sep.pull [_, _, _] S4).rd rfl hvL fun p9 hat9 _ => ?_
      rw [hLv, hLa]
      have hlow : T.low v ≤ T.low a := by
        have h1 := (t.low1 v (by rw [hst, hr2]; simp)).1
        have h2 := t.path
        rw [hst, hr2] at h2
        have := ((List.pairwise_cons.1 (show (a :: v :: pth r2).Pairwise _ from h2)).1 v (by simp)).1
        omega
      rw [if_neg (show ¬ ((T.low a : Int) < (T.low v : Int)) by omega)]
      refine st_flat (Sep.pull [_, _, _] S4) (x := (T.low v : Int)) (own_int _) hat9 rfl hvL fun h6 S6 => ?_
      have S6 := Sep.push [_, _, _] S6
      rw [← hLv, List.set_getElem_self] at S6
      rw [← hr2] at S6
      exact fin _ _ _ _ _ o' h6 t' rfl rfl w' S6
    · -- one can come back further
      have S4 := Sep.pull [_, _, _, _, _, _, _] (hno (by omega))
      obtain ⟨v, j, r2, hr2, t'⟩ := t.back hst (by omega) hlr
      have hs1l2 := hs1l
      rw [hr2] at hs1l2
      refine ifB_true (decide_eq_true (by rw [hs1l2]; simp)) ?_
      obtain ⟨hv, _⟩ := hst' (v, j) (by rw [hr2]; simp)
      simp only at hv
      refine ar_i64 (by omega) (by omega) ?_
      rw [show (s1.len : Int) - 1 = ((r2.length : Nat) : Int) by rw [hs1l2]; simp]
      have S4' := S4
      rw [hr2] at S4'
      have hin2 : r2.length < (stk ((v, j) :: r2)).length := by rw [stk_len]; simp
      refine idx_rdN S4'.rd rfl hin2 fun q3 _ hq3 => ?_
      rw [htop v j r2 hin2] at hq3
      have hq30 : holds h4 (q3.add 0) (.int .i64) (v : Int) := by rw [Addr.add_zero']; exact hq3.1
      refine ld_one hq30 ?_
      have S5 := Sep.pull [_] S4
      refine nilck_some ?_
      refine ld_rawB (x := l) S5 rfl rfl ?_
      refine nilck_some ?_
      refine ld_rawB (x := l) S5 rfl rfl ?_
      have hvL : v < L.length := by rw [w.lL]; exact hv
      have hLv : L[v] = (T.low v : Int) := by rw [← getD_lt hvL, w.l v hv]
      refine idx_rdN (Sep.pull [_, _, _] S4).rd rfl hvL fun p6 _ hp6 => ld_one hp6 ?_
      refine nilck_some ?_
      refine ld_rawB (x := l) S5 rfl rfl ?_
      refine idx_rdN (Sep.pull [_, _, _] S4).rd rfl haL fun p8 _ hp8 => ld_one hp8 ?_
      refine idx_rdN (Sep.pull [_, _, _] S4).rd rfl hvL fun p9 hat9 _ => ?_
      rw [hLv, hLa]
      have hmin : (if (T.low a : Int) < (T.low v : Int) then (T.low a : Int) else (T.low v : Int)) = ((min (T.low v) (T.low a) : Nat) : Int) := by
        split <;> omega
      rw [hmin]
      refine st_flat (Sep.pull [_, _, _] S4) (x := ((min (T.low v) (T.low a) : Nat) : Int)) (own_int _) hat9 rfl hvL fun h6 S6 => ?_
      have S6 := Sep.push [_, _, _] S6
      refine fin _ R (L.set v ((min (T.low v) (T.low a) : Nat) : Int)) Pt Rd o h6 t' rfl rfl ⟨w.lR, by simpa using w.lL, w.lP, w.lD, w.lM, w.r, fun u hu => ?_, w.p, w.d, w.k, hop, hcn⟩ S6
      rw [getD_setX hvL]
      show _ = ((upF T.low v _ u : Nat) : Int)
      unfold upF
      split
      · rfl
      · exact w.l u hu
  · -- the next one that it leads to
    have hil : i < (G.getD a []).length := by
      have : ¬ (i : Int) = (row.len : Int) := by simpa using hc
      omega
    refine nilck_some ?_
    refine ld_rawB (x := g) (Sep.pull [_] S) rfl rfl ?_
    refine ld_one hp0 ?_
    refine idx_rdN hg rfl ha fun p3 _ hq3 => ld_slB hq3 S.old fun row2 hrow2 => ?_
    rw [row_eq] at hrow2
    refine ld_one (k := .int .i64) hp2 ?_
    refine idx_rdN hrow2 rfl hil fun p4 _ hp4 => ld_oneB hp4 S.old ?_
    refine ld_one (k := .int .i64) hp2 ?_
    refine ar_i64 (by simp only; omega) (by simp only; omega) ?_
    obtain ⟨kx, hkx⟩ : ∃ kx, (G.getD a [])[i] = kx := ⟨_, rfl⟩
    have hkx' : (G.getD a [])[i]? = some kx := by rw [List.getElem?_eq_getElem hil, hkx]
    simp only [hkx]
    refine st_sub (x := ((a : Int), ((i + 1 : Nat) : Int))) S hat rfl hin (by intro v hv; simp at hv; rw [hv]; rfl) (Nat.le_refl 2) ?_ fun h5 S5 => ?_
    · intro h xs fx ho
      rw [htop a i rr hin] at ho
      obtain ⟨xs1, xs2, f1, f2, rfl, rfl, ⟨rfl, rfl⟩, ⟨rfl, rfl⟩⟩ := ho
      exact own_step _ _ _
    have hset : (stk ((a, i) :: rr)).set rr.length ((a : Int), ((i + 1 : Nat) : Int)) = stk ((a, i + 1) :: rr) := by
      rw [stk_cons, stk_cons, List.set_append_right _ _ (by rw [stk_len]; exact Nat.le_refl _), stk_len]
      simp
    rw [hset] at S5
    clear hp2 hp0 hp1
    have hin5 : rr.length < (stk ((a, i + 1) :: rr)).length := by rw [stk_len]; simp
    have hq5 : eStep.rd h5 q ((a : Int), ((i + 1 : Nat) : Int)) := by
      have h9 : rdSl eStep h5 stack (stk ((a, i + 1) :: rr)) := S5.rd
      obtain ⟨_, aa, haa, rfl⟩ := hat
      rcases h9.2.2.2.2 with h | ⟨a2, ha2, _, h⟩
      · rw [stk_cons] at h; simp at h
      · have e : aa = a2 := by rw [haa] at ha2; injection ha2
        have := h rr.length hin5
        rw [htop a (i + 1) rr hin5] at this
        rw [e]; exact this
    have hq50 : holds h5 (q.add 0) (.int .i64) (a : Int) := by rw [Addr.add_zero']; exact hq5.1
    have hst5 : ∀ x ∈ ((a, i + 1) :: rr), x.1 < G.length ∧ x.2 ≤ (G.getD x.1 []).length := fun x hx => by
      rcases List.mem_cons.1 hx with rfl | hx
      · exact ⟨ha, hil⟩
      · exact D.st x (by rw [hst]; simp [hx])
    have hskip : todo G ((a, i + 1) :: rr) M' < todo G T.st M' := by rw [hst]; exact todo_skip hil
    -- a step that leads to nothing new
    have old : ∀ (l' : Nat) (b' : Bool) (L' : List Int) (Rd' : List Bool) (h' : Heap), ¬ (0 ≤ kx ∧ kx < G.length ∧ M'.getD kx.toNat false = false) → (l' = T.low a ∨ (l' ≤ T.low a ∧ ∃ u : Nat, kx = u ∧ u ∈ T.O ∧ l' = T.rank u)) →
        (∀ u : Nat, kx = u → u ∈ T.O → l' ≤ T.rank u) → (b' = true ↔ (T.rnd a = true ∨ kx = (a : Int))) → L' = L.set a (l' : Int) → Rd' = Rd.set a b' →
        Fw.Sep h0 h' (ownSl si_Lcalls_step eStep stack (stk ((a, i + 1) :: rr)) :: WL p g r l pt o lf rd R L' Pt (castL T.O) LF Rd' X) →
        ∃ m, m < todo G T.st M' ∧ ∃ (T_1 : TS) (R L Pt LF : List Int) (Rd M' : List Bool) (o lf : Sl), (T.m : Int) = (T_1.m : Int) ∧ DW G f (dn G G.length frm M LFz) T_1 R L Pt Rd M' LF ∧ m = todo G T_1.st M' ∧
          Fw.Sep h0 h' (ownSl si_Lcalls_step eStep stack (stk T_1.st) :: WL p g r l pt o lf rd R L Pt (castL T_1.O) LF Rd X) := fun l' b' L' Rd' h' hno hl1 hl2 hb eL eR S' => by
      subst eL eR
      have haD : a < Rd.length := by rw [w.lD]; exact ha
      have t' := t.look hst hkx' (fun u hu hun hz => hno (by
        subst hu
        exact ⟨by omega, by omega, by rw [Int.toNat_natCast]; exact (w.k u hun).2 hz⟩)) hl1 hl2 hb
      refine ⟨_, hskip, ⟨T.rank, upF T.low a l', T.part, upF T.rnd a b', T.O, (a, i + 1) :: rr, T.m⟩, R, _, Pt, LF, _, M', o, lf, rfl, ⟨t', ⟨w.lR, by simpa using w.lL, w.lP, by simpa using w.lD, w.lM, w.r, fun u hu => ?_, w.p, fun u hu => ?_, w.k, hop, hcn⟩, hst5, ?_, ?_⟩, rfl, S'⟩
      · rw [getD_setX haL]
        show _ = ((upF T.low a _ u : Nat) : Int)
        unfold upF
        split
        · rfl
        · exact w.l u hu
      · rw [getD_setX haD]
        show _ = upF T.rnd a _ u
        unfold upF
        split
        · rfl
        · exact w.d u hu
      · rw [← D.un, hst]
        exact (unw_skip hil (by rw [hkx]; exact hno)).symm
      · rw [hst] at hcnt; simp at hcnt ⊢; omega
    have haD : a < Rd.length := by rw [w.lD]; exact ha
    have hDa : Rd[a] = T.rnd a := by rw [← getD_lt haD, w.d a ha]
    have same : ∀ h', ¬ (0 ≤ kx ∧ kx < G.length ∧ M'.getD kx.toNat false = false) → (∀ u : Nat, kx = u → u ∉ T.O) → Fw.Sep h0 h' (ownSl si_Lcalls_step eStep stack (stk ((a, i + 1) :: rr)) :: WL p g r l pt o lf rd R L Pt (castL T.O) LF Rd X) → _ := fun h' hno hnO S' =>
      old (T.low a) (T.rnd a) L Rd h' hno (.inl rfl) (fun u hu huO => absurd huO (hnO u hu)) ⟨.inl, fun h => h.elim id fun h => absurd haO (hnO a h)⟩ (by rw [← hLa, List.set_getElem_self]) (by rw [← hDa, List.set_getElem_self]) S'
    intro k1 hk1
    refine ifB_intro (fun hneg => ?_) (fun hneg => ?_)
    · refine hk1 _ _ fun _ => ifB_true rfl (same h5 (fun h => ?_) (fun u hu => ?_) S5)
      · have := of_decide_eq_true hneg; omega
      · have := of_decide_eq_true hneg; omega
    have hneg := of_decide_eq_false hneg
    refine nilck_some ?_
    refine ld_rawB (x := g) (Sep.pull [_] S5) rfl rfl ?_
    obtain ⟨k, rfl⟩ := Int.eq_ofNat_of_zero_le (a := kx) (by omega)
    cases hbig : decide ((k : Int) ≥ (g.len : Int)) with
    | true =>
      have hbig := of_decide_eq_true hbig
      refine hk1 _ _ fun _ => ifB_true rfl (same h5 (fun h => by omega) (fun u hu huO => ?_) S5)
      have := (t.vis u ((t.op u).1 huO).1).1
      omega
    | false =>
      have hbig := of_decide_eq_false hbig
      have hkn : k < G.length := by omega
      refine hk1 _ _ fun _ => ifB_false rfl ?_
      clear hk1 k1
      have hkR : k < R.length := by rw [w.lR]; exact hkn
      have hRk : R[k] = (T.rank k : Int) := by rw [← getD_lt hkR, w.r k hkn]
      refine nilck_some ?_
      refine ld_rawB (x := r) (Sep.pull [_] S5) rfl rfl ?_
      refine idx_rdN (Sep.pull [_, _] S5).rd rfl hkR fun p14 _ hp14 => ld_one hp14 ?_
      rw [hRk]
      refine ifB_intro (fun hz => ?_) (fun hnz => ?_)
      · -- a new one
        have hk0 : T.rank k = 0 := by
          have : (T.rank k : Int) = 0 := by simpa using hz
          omega
        have hMk := (w.k k hkn).2 hk0
        have hkM : k < M'.length := by rw [w.lM]; exact hkn
        have hcm := count_set hkM (by rwa [getD_lt hkM] at hMk)
        refine ar_i64 (by omega) (by omega) ?_
        rw [show (T.m : Int) + 1 = ((T.m + 1 : Nat) : Int) by omega]
        have S6 := Sep.push [_, _, _, _, _, _, _] S5
        refine (mark_calls S6 (k := k) (n := T.m + 1) hkR (by rw [w.lL]; exact hkn) (by simp; omega)).mono ?_
        rintro v h9 ⟨rfl, o', S9⟩
        refine ⟨_, rfl, ?_⟩
        have S9 := Sep.pull [_, _, _, _, _, _, _] S9
        refine app1_flat (x := ((k : Int), (0 : Int))) S9 (own_step _ _) rfl (by decide) (by rw [stk_len]; simp only [si_Lcalls_step, List.length_cons]; rw [hst] at hcnt; simp at hcnt; omega) (by rw [stk_len]; simp only [List.length_cons]; rw [hst] at hcnt; simp at hcnt; omega) fun s3 h11 S11 => ?_
        have hO1 : castL T.O ++ [(k : Int)] = castL (T.O ++ [k]) := by simp [castL]
        rw [hO1] at S11
        refine ⟨todo G ((k, 0) :: (a, i + 1) :: rr) (M'.set k true), by rw [hst]; exact todo_push hil hkn w.lM hMk, _, _, _, Pt, LF, Rd, M'.set k true, o', lf, rfl, ⟨t.push (st' := (a, i + 1) :: rr) hkn hk0 (.inr ⟨a, i, rr, hst, rfl, hkx'⟩), w.push hkn hk0 _, fun x hx => ?_, ?_, ?_⟩, rfl, ?_⟩
        · rcases List.mem_cons.1 hx with rfl | hx
          · exact ⟨hkn, by simp⟩
          · exact hst5 x hx
        · rw [← D.un, hst]
          exact (unw_push (s := (M', LF)) hil hkx hkn w.lM hMk (by simp only; omega)).symm
        · rw [hst] at hcnt; simp at hcnt ⊢; omega
        · have e : stk ((k, 0) :: (a, i + 1) :: rr) = stk ((a, i + 1) :: rr) ++ [((k : Int), (0 : Int))] := by rw [stk_cons k]; rfl
          rw [e]
          exact S11
      · have hk0 : T.rank k ≠ 0 := fun e => by rw [e] at hnz; simp at hnz
        have hno : ¬ (0 ≤ (k : Int) ∧ (k : Int) < G.length ∧ M'.getD (k : Int).toNat false = false) := fun h => by
          have h3 := h.2.2
          rw [Int.toNat_natCast] at h3
          exact hk0 ((w.k k hkn).1 h3)
        have hkP : k < Pt.length := by rw [w.lP]; exact hkn
        have hPk : Pt[k] = T.part k := by rw [← getD_lt hkP, w.p k hkn]
        refine nilck_some ?_
        refine ld_rawB (x := pt) (Sep.pull [_] S5) rfl rfl ?_
        refine idx_rdN (Sep.pull [_, _, _, _] S5).rd rfl hkP fun p16 _ hp16 => ld_one hp16 ?_
        rw [hPk]
        refine ifB_intro (fun hopen => ?_) (fun hdone => same h5 hno (fun u hu huO => ?_) S5)
        case refine_2 =>
          have : u = k := by omega
          subst this
          have := ((t.op u).1 huO).2
          have := of_decide_eq_false hdone
          omega
        have hkO : k ∈ T.O := (t.op k).2 ⟨hk0, of_decide_eq_true hopen⟩
        refine nilck_some ?_
        refine ld_rawB (x := l) (Sep.pull [_] S5) rfl rfl ?_
        refine ld_one hq50 ?_
        refine nilck_some ?_
        refine ld_rawB (x := l) (Sep.pull [_] S5) rfl rfl ?_
        refine ld_one hq50 ?_
        refine idx_rdN (Sep.pull [_, _, _] S5).rd rfl haL fun p19 _ hp19 => ld_one hp19 ?_
        refine nilck_some ?_
        refine ld_rawB (x := r) (Sep.pull [_] S5) rfl rfl ?_
        refine idx_rdN (Sep.pull [_, _] S5).rd rfl hkR fun p21 _ hp21 => ld_one hp21 ?_
        refine idx_rdN (Sep.pull [_, _, _] S5).rd rfl haL fun p22 hat22 _ => ?_
        rw [hRk, hLa]
        have hmin : (if (T.rank k : Int) < (T.low a : Int) then (T.rank k : Int) else (T.low a : Int)) = ((min (T.low a) (T.rank k) : Nat) : Int) := by
          split <;> omega
        rw [hmin]
        refine st_flat (Sep.pull [_, _, _] S5) (x := ((min (T.low a) (T.rank k) : Nat) : Int)) (own_int _) hat22 rfl haL fun h12 S12 => ?_
        have S12 := Sep.push [_, _, _] S12
        have hq12 : eStep.rd h12 q ((a : Int), ((i + 1 : Nat) : Int)) := by
          have h9 : rdSl eStep h12 stack (stk ((a, i + 1) :: rr)) := S12.rd
          obtain ⟨_, aa, haa, rfl⟩ := hat
          rcases h9.2.2.2.2 with h | ⟨a2, ha2, _, h⟩
          · rw [stk_cons] at h; simp at h
          · have e : aa = a2 := by rw [haa] at ha2; injection ha2
            have := h rr.length hin5
            rw [htop a (i + 1) rr hin5] at this
            rw [e]; exact this
        have hq120 : holds h12 (q.add 0) (.int .i64) (a : Int) := by rw [Addr.add_zero']; exact hq12.1
        refine nilck_some ?_
        refine ld_rawB (x := rd) (Sep.pull [_] S12) rfl rfl ?_
        refine ld_one hq120 ?_
        refine nilck_some ?_
        refine ld_rawB (x := rd) (Sep.pull [_] S12) rfl rfl ?_
        refine ld_one hq120 ?_
        refine idx_rdN (Sep.pull [_, _, _, _, _, _, _] S12).rd rfl haD fun p25 _ hp25 => ld_one hp25 ?_
        rw [hDa]
        have go : ∀ (b' : Bool) (h' : Heap), (b' = true ↔ (T.rnd a = true ∨ (k : Int) = (a : Int))) → Fw.Sep h0 h' (ownSl si_Lcalls_step eStep stack (stk ((a, i + 1) :: rr)) :: WL p g r l pt o lf rd R (L.set a ((min (T.low a) (T.rank k) : Nat) : Int)) Pt (castL T.O) LF (Rd.set a b') X) → _ := fun b' h' hb S' =>
          old (min (T.low a) (T.rank k)) b' _ _ h' hno (by
            rcases Nat.le_total (T.low a) (T.rank k) with h | h
            · left; exact Nat.min_eq_left h
            · right; exact ⟨Nat.min_le_left _ _, k, rfl, hkO, Nat.min_eq_right h⟩) (fun u hu _ => by
            have : u = k := by omega
            subst this
            exact Nat.min_le_right _ _) hb rfl rfl S'
        refine ifB_intro (fun hrt => ?_) (fun hrf => ?_)
        · refine idx_rdN (Sep.pull [_, _, _, _, _, _, _] S12).rd rfl haD fun p26 hat26 _ => ?_
          exact st_flat (Sep.pull [_, _, _, _, _, _, _] S12) (x := true) (own_bool true) hat26 rfl haD fun h13 S13 => go true h13 ⟨fun _ => .inl hrt, fun _ => rfl⟩ (Sep.push [_, _, _, _, _, _, _] S13)
        · refine ld_one hq120 ?_
          refine idx_rdN (Sep.pull [_, _, _, _, _, _, _] S12).rd rfl haD fun p27 hat27 _ => ?_
          refine st_flat (Sep.pull [_, _, _, _, _, _, _] S12) (x := ((k : Int) == (a : Int))) (own_bool _) hat27 rfl haD fun h14 S14 => go _ h14 ?_ (Sep.push [_, _, _, _, _, _, _] S14)
          rw [hrf, beq_iff_eq]
          exact ⟨.inr, fun h => h.elim (fun h => by cases h) id⟩

end Go.Proofs.Ytjpjnpbjalmhiaa
