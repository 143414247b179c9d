/-
  lateenref11: steps and ways.
-/
import Derived.Test.YtniflhbfnkadhaaFnLoops6
import Derived.Test.YtniflhbfnkadhaaPlLoops2
namespace Go.Proofs.Ytniflhbfnkadhaa
open Go.Fw Go.Pl

theorem ite_iff {P Q : Prop} [Decidable P] [Decidable Q] {a b : Bool} (h : P ↔ Q) : (if P then a else b) = if Q then a else b := by
  by_cases p : P
  · rw [if_pos p, if_pos (h.1 p)]
  · rw [if_neg p, if_neg fun q => p (h.2 q)]
theorem st_row2 {α : Type} {si ri : SlI} {E : Elem α} {h0 h : Heap} {L : List As} {s x : Sl} {p : Addr} {ll : List (List α)} {i k m : Nat} {vs : List Value} {u : α} {K : Heap → Prop}
    (S : Sep h0 h (ownSl si (Elem.sl ri E) s ll :: L)) (hi : i < ll.length) (hk : k < ll[i].length) (hm : m = E.size) (hu : ∀ h, E.own vs u h []) (hat : At (Elem.sl ri E).size s i p) (hp : hcell h p = some x.v)
    (hK : ∀ h', Sep h0 h' (ownSl si (Elem.sl ri E) s (ll.set i (ll[i].set k u)) :: L) → K h') :
    idx m x (k : Int) fun p3 => st vs h p3 K := by
  obtain ⟨xs, hc, S2⟩ := (Sep.raw.2 S).away (i := i) (x := ll[i]) (by simpa using hi) (by simp)
  obtain ⟨y, rfl, S3⟩ := S2.swap.ofEl
  have e := hc p hat 0 y.v rfl
  rw [Addr.add_zero', hp] at e
  have e := Sl.v_inj (Option.some.inj e)
  subst e
  refine idx_rdN S3.rd hm hk fun p3 hat3 _ => ?_
  subst hm
  refine st_flat S3 hu hat3 rfl hk fun h' S4 => hK h' ?_
  have S5 := S4.toEl.swap.back (i := i) (by simpa using hi) (by simp; rfl)
  refine Sep.raw.1 (S5.cast ?_)
  congr 2
  rw [List.set_set, List.map_set]

theorem tabL_len (n : Nat) (T : Nat → Nat → Bool) : (tabL n T).length = n := by simp [tabL]
theorem tabL_row {n : Nat} {T : Nat → Nat → Bool} {i : Nat} (h : i < (tabL n T).length) : (tabL n T)[i] = (List.range n).map fun k => T i k := by simp [tabL]
theorem tabL_rowlen {n : Nat} {T : Nat → Nat → Bool} {i : Nat} (h : i < (tabL n T).length) : (tabL n T)[i].length = n := by simp [tabL]
theorem tabL_get {n : Nat} {T : Nat → Nat → Bool} {i k : Nat} (h : i < (tabL n T).length) (hk : k < (tabL n T)[i].length) : (tabL n T)[i][k] = T i k := by simp [tabL]
theorem tab_ld {h h' : Heap} {r : Sl} {n : Nat} {T : Nat → Nat → Bool} (hr : rdSl eBools h r (tabL n T)) (o : Old h h') {a k : Nat} (ha : a < n) (hk : k < n) {K : Bool → Prop} (hK : K (T a k)) :
    idx 1 r (a : Int) fun p => ld .sl h' p fun x => idx 1 x (k : Int) fun p => ld .bool h' p K := by
  have hal : a < (tabL n T).length := by rw [tabL_len]; exact ha
  refine idx_rdN hr rfl hal fun p _ hp => ld_slB hp o fun x hx => ?_
  have hkl : k < (tabL n T)[a].length := by rw [tabL_rowlen]; exact hk
  refine idx_rdN hx rfl hkl fun p _ hp => ld_oneB hp o ?_
  rw [tabL_get]
  exact hK

/-- A table, some points taken in already. -/
structure WI (n : Nat) (T : Nat → Nat → Bool) (m i k : Nat) (W : List (List Bool)) : Prop where
  len : W.length = n
  row : ∀ a (ha : a < W.length), W[a].length = n
  get : ∀ a b (ha : a < W.length) (hb : b < W[a].length), W[a][b] = if a < i ∨ (a = i ∧ b < k) then wT T (m + 1) a b else wT T m a b
theorem WI.set {n m i k : Nat} {T : Nat → Nat → Bool} {W : List (List Bool)} (h : WI n T m i k W) (hi : i < W.length) (hk : k < W[i].length) {u : Bool} (hu : u = wT T (m + 1) i k) : WI n T m i (k + 1) (W.set i (W[i].set k u)) where
  len := by rw [List.length_set, h.len]
  row a ha := by
    rw [List.getElem_set]
    split
    · rw [List.length_set]; exact h.row i hi
    · exact h.row a (by simpa using ha)
  get a b ha hb := by
    have ha' : a < W.length := by simpa using ha
    by_cases e : i = a
    · subst e
      simp only [List.getElem_set_self] at hb ⊢
      rw [List.getElem_set]
      split
      · rename_i e; subst e; rw [if_pos (.inr ⟨trivial, by omega⟩)]; exact hu
      · rename_i e
        rw [h.get i b hi (by simpa using hb)]
        refine ite_iff ?_
        constructor
        · rintro (h | ⟨_, h⟩)
          · omega
          · exact .inr ⟨trivial, by omega⟩
        · rintro (h | ⟨_, h⟩)
          · omega
          · exact .inr ⟨rfl, by omega⟩
    · have e1 : (W.set i (W[i].set k u))[a] = W[a] := by rw [List.getElem_set, if_neg e]
      have hb' : b < W[a].length := by rw [e1] at hb; exact hb
      have : (W.set i (W[i].set k u))[a][b] = W[a][b] := by simp only [e1]
      rw [this, h.get a b ha' hb']
      have : (a < i ∨ a = i ∧ b < k) ↔ (a < i ∨ a = i ∧ b < k + 1) := by constructor <;> (intro h; omega)
      exact ite_iff this
theorem WI.nextRow {n m i : Nat} {T : Nat → Nat → Bool} {W : List (List Bool)} (h : WI n T m i n W) : WI n T m (i + 1) 0 W where
  len := h.len
  row := h.row
  get a b ha hb := by
    rw [h.get a b ha hb]
    have := h.row a ha
    have : (a < i ∨ a = i ∧ b < n) ↔ (a < i + 1 ∨ a = i + 1 ∧ b < 0) := by constructor <;> (intro h; omega)
    exact ite_iff this
theorem WI.nextAll {n m : Nat} {T : Nat → Nat → Bool} {W : List (List Bool)} (h : WI n T m n 0 W) : WI n T (m + 1) 0 0 W where
  len := h.len
  row := h.row
  get a b ha hb := by
    have := h.len
    rw [h.get a b ha hb, if_pos (.inl (by omega)), if_neg (by omega)]
theorem WI.all {n m : Nat} {T : Nat → Nat → Bool} {W : List (List Bool)} (h : WI n T m 0 0 W) : W = tabL n (wT T m) := by
  refine List.ext_getElem (by simp [tabL, h.len]) fun a h1 h2 => ?_
  refine List.ext_getElem (by simp [tabL, h.row a h1]) fun b h3 h4 => ?_
  rw [h.get a b h1 h3, if_neg (by omega)]
  simp [tabL]
theorem WI.of (n : Nat) (T : Nat → Nat → Bool) : WI n T 0 0 0 (tabL n T) where
  len := by simp [tabL]
  row a ha := by simp [tabL]
  get a b ha hb := by rw [if_neg (by omega)]; simp [tabL, wT]

theorem ways_calls {h : Heap} {g : Sl} {n : Nat} {T : Nat → Nat → Bool} (hg : rdSl eBools h g (tabL n T)) (hn : n ≤ 1000) :
    ACalls Try.prog F_lateenref11_ways [g.v] h (fun v h' => ∃ s : Sl, v = s.v ∧ Sep h h' [ownSl si_LLbool eBools s (tabL n (wT T n))]) := by
  refine lateenref11_ways_of ?_
  have hwl := tabL_len n T
  have hl := hg.lenEq
  rw [hwl] at hl
  unfold lateenref11_ways
  refine loop_intro (fun m (t : Sl × Int) h1 => ∃ j : Nat, t.2 = j ∧ j ≤ n ∧ m = n - j ∧ Sep h h1 [ownSl si_LLbool eBools t.1 ((tabL n T).take j)]) n
    ⟨0, rfl, by omega, by omega, (Sep.start h).nil rfl⟩ ?_
  rintro _ _ ⟨out, j⟩ h1 ⟨j, hj0, hj, rfl, S⟩
  simp only at hj0 S ⊢
  subst hj0
  refine ifB_intro (fun hc => ?_) (fun hc => ?_)
  · have hjl : j < n := by rw [hl] at hc; simpa using hc
    have hjt : j < (tabL n T).length := by rw [hwl]; exact hjl
    refine bld_rule (l := ([] : List Bool)) (si := si_Lbool) (S.rowNil (E := eBool)) (by kernel_rfl) rfl rfl (by decide) (by decide) fun s h2 S2 => ?_
    refine idx_rdN hg rfl hjt fun p _ hp => ld_slB hp S2.old fun x hx => ?_
    have hrl := tabL_rowlen hjt
    refine app_copy S2 flat_bool (hx.old S2.old) (by simp only [si_Lbool, List.length_nil]; omega) (by simp only [List.length_nil]; omega) fun s3 h3 S3 => ?_
    rw [List.nil_append] at S3
    refine app1_rule (x := (tabL n T)[j]) (S3.toEl.swap) rfl (by decide) (by simp only [si_LLbool, List.length_take]; omega) (by simp only [List.length_take]; omega) fun s4 h7 S7 => ?_
    refine ar_i64 (by omega) (by omega) ⟨n - (j + 1), by omega, j + 1, rfl, by omega, rfl, ?_⟩
    rw [List.take_succ_eq_append_getElem hjt]
    exact S7
  · have hjG : n = j := by rw [hl] at hc; simp at hc; omega
    rw [List.take_of_length_le (by omega)] at S
    clear hjG hc hj
    have hol := S.rd.lenEq
    rw [hwl] at hol
    refine loop_intro (fun f (t : Int) h2 => ∃ (m : Nat) (W : List (List Bool)), t = m ∧ m ≤ n ∧ f = n - m ∧ WI n T m 0 0 W ∧ Sep h h2 [ownSl si_LLbool eBools out W]) n
      ⟨0, _, rfl, by omega, by omega, WI.of n T, S⟩ ?_
    clear S
    rintro _ _ t h2 ⟨m, W, rfl, hm, rfl, w, S⟩
    refine ifB_intro (fun hc => ?_) (fun hc => ?_)
    · have hml : m < n := by rw [hol] at hc; simpa using hc
      refine loop_intro (fun f (t : Int) h3 => ∃ (i : Nat) (W : List (List Bool)), t = i ∧ i ≤ n ∧ f = n - i ∧ WI n T m i 0 W ∧ Sep h h3 [ownSl si_LLbool eBools out W]) n
        ⟨0, _, rfl, by omega, by omega, w, S⟩ ?_
      clear S w
      rintro _ _ t h3 ⟨i, W, rfl, hi, rfl, w, S⟩
      refine ifB_intro (fun hc => ?_) (fun hc => ?_)
      · have hil : i < n := by rw [hol] at hc; simpa using hc
        refine loop_intro (fun f (t : Int) h4 => ∃ (k : Nat) (W : List (List Bool)), t = k ∧ k ≤ n ∧ f = n - k ∧ WI n T m i k W ∧ Sep h h4 [ownSl si_LLbool eBools out W]) n
          ⟨0, _, rfl, by omega, by omega, w, S⟩ ?_
        clear S w
        rintro _ _ t h4 ⟨k, W, rfl, hk, rfl, w, S⟩
        refine ifB_intro (fun hc => ?_) (fun hc => ?_)
        · have hkl : k < n := by rw [hol] at hc; simpa using hc
          have hiW : i < W.length := by rw [w.len]; exact hil
          have hmW : m < W.length := by rw [w.len]; exact hml
          have hkW : k < W[i].length := by rw [w.row i hiW]; exact hkl
          have hmWi : m < W[i].length := by rw [w.row i hiW]; exact hml
          have hkWm : k < W[m].length := by rw [w.row m hmW]; exact hkl
          intro k2 hk2
          refine idx_rdN S.rd rfl hiW fun p1 hat1 hp1 => ?_
          obtain ⟨x, hcx, _⟩ := hp1
          refine ⟨x, hcx, ?_⟩
          have fin : ∀ u : Bool, u = wT T (m + 1) i k → idx 1 x (k : Int) fun p => st [.bool u] h4 p fun h' => k2 () h' := fun u hu =>
            st_row2 (u := u) S hiW hkW rfl (own_bool u) hat1 hcx fun h5 S5 => hk2 _ _ fun _ => ar_i64 (by omega) (by omega) ⟨n - (k + 1), by omega, k + 1, _, rfl, by omega, rfl, w.set hiW hkW hu, S5⟩
          refine idx_rdN S.rd rfl hiW fun p2 _ hp2 => ld_sl hp2 fun y hy => ?_
          refine idx_rdN hy rfl hkW fun p3 _ hp3 => ld_one hp3 ?_
          have e1 : W[i][k] = wT T m i k := by rw [w.get i k hiW hkW, if_neg (by omega)]
          rw [e1]
          have ex : wT T (m + 1) i k = (wT T m i k || (wT T m i m && wT T m m k)) := rfl
          refine ifB_intro (fun hc => fin _ (by rw [ex, hc]; rfl)) (fun hc => ?_)
          rw [hc, Bool.false_or] at ex
          refine idx_rdN S.rd rfl hiW fun p5 _ hp5 => ld_sl hp5 fun y2 hy2 => ?_
          refine idx_rdN hy2 rfl hmWi fun p6 _ hp6 => ld_one hp6 ?_
          have e2 : W[i][m] = wT T m i m := by
            rw [w.get i m hiW hmWi]
            split
            · exact wT_colm T m i
            · rfl
          rw [e2]
          refine ifB_intro (fun hc => ?_) (fun hc => fin _ (by rw [ex, hc]; rfl))
          rw [hc, Bool.true_and] at ex
          refine idx_rdN S.rd rfl hmW fun p7 _ hp7 => ld_sl hp7 fun y3 hy3 => ?_
          refine idx_rdN hy3 rfl hkWm fun p8 _ hp8 => ld_one hp8 ?_
          refine fin _ ?_
          rw [ex, w.get m k hmW hkWm]
          split
          · exact wT_rowm T m k
          · rfl
        · have hkl : n = k := by rw [hol] at hc; simp at hc; omega
          subst hkl
          exact ar_i64 (by omega) (by omega) ⟨n - (i + 1), by omega, i + 1, W, rfl, by omega, rfl, w.nextRow, S⟩
      · have hil : n = i := by rw [hol] at hc; simp at hc; omega
        subst hil
        exact ar_i64 (by omega) (by omega) ⟨n - (m + 1), by omega, m + 1, W, rfl, by omega, rfl, w.nextAll, S⟩
    · have hml : n = m := by rw [hol] at hc; simp at hc; omega
      subst hml
      rw [w.all] at S
      exact ⟨out, rfl, S⟩

/-- Less whom. -/
def lessI : Option Nat → Int
  | none => -1
  | some h => (h : Int)
theorem lessI_ne (less : Option Nat) (i : Nat) : ((i : Int) != lessI less) = decide (less ≠ some i) := by
  cases less with
  | none =>
    have h1 : ((i : Int) != lessI none) = true := by
      rw [bne_iff_ne]
      show (i : Int) ≠ -1
      omega
    rw [h1]
    exact (decide_eq_true (by simp)).symm
  | some a =>
    show ((i : Int) != (a : Int)) = _
    by_cases e : i = a
    · subst e; simp
    · have : ¬ a = i := fun h => e h.symm
      rw [decide_eq_true (by simpa using this), bne_iff_ne]
      omega

theorem steps_calls {h : Heap} {g : Sl} {G : Graph} (hg : rdSl eInts h g G) (hn : G.length ≤ 1000) (less : Option Nat) :
    ACalls Try.prog F_lateenref11_steps [g.v, .int .i64 (lessI less)] h (fun v h' => ∃ s : Sl, v = s.v ∧ Sep h h' [ownSl si_LLbool eBools s (tabL G.length (stepB G less))]) := by
  refine lateenref11_steps_of ?_
  have hl := hg.lenEq
  unfold lateenref11_steps
  refine (refCome_calls hg hn).mono ?_
  rintro v h1 ⟨r, rfl, T⟩
  refine ⟨r, rfl, ?_⟩
  have hr := T.rd
  have hcl := come_len G
  have hdl := tabL_len G.length (stepB G less)
  refine loop_intro (fun m (t : Sl × Int) h' => ∃ i : Nat, t.2 = i ∧ i ≤ G.length ∧ m = G.length - i ∧ Sep h1 h' [ownSl si_LLbool eBools t.1 ((tabL G.length (stepB G less)).take i)]) G.length ⟨0, rfl, by omega, by omega, (Sep.start h1).nil rfl⟩ ?_
  rintro _ _ ⟨out, i⟩ h2 ⟨i, hi0, hi, rfl, S⟩
  simp only at hi0 S ⊢
  subst hi0
  refine ifB_intro (fun hc => ?_) (fun hc => ?_)
  · have hlt : i < G.length := by simpa [hl] using hc
    refine ⟨trivial, ?_⟩
    refine mk_rule (x := false) (E := eBool) S rfl (fun h => own_bool false h) (by omega) (by omega) (by simp only [si_Lbool]; omega) fun s h4 S4 => ?_
    rw [hl, Int.toNat_natCast] at S4
    refine loop_intro (fun m (t : Int) h' => ∃ (k : Nat) (A : List Bool), t = k ∧ k ≤ G.length ∧ m = G.length - k ∧ A.length = G.length ∧ (∀ z (hz : z < A.length), z < k → A[z] = stepB G less i z) ∧ Sep h1 h' [ownSl si_Lbool eBool s A, ownSl si_LLbool eBools out ((tabL G.length (stepB G less)).take i)]) G.length
      ⟨0, _, rfl, by omega, by omega, by simp, fun z hz h => by omega, S4⟩ ?_
    clear S S4
    rintro _ _ t h5 ⟨k, A, rfl, hk, rfl, hA, hall, S⟩
    refine ifB_intro (fun hc => ?_) (fun hc => ?_)
    · have hkl : k < G.length := by simpa [hl] using hc
      have hkA : k < A.length := by omega
      have hic : i < (comeOf G).length := by omega
      have hkc : k < (comeOf G).length := by omega
      intro k1 hk1
      have put : ∀ (b : Bool), b = stepB G less i k → idx 1 s (k : Int) fun p => st [.bool b] h5 p fun h' => k1 () h' := fun b hb => by
        refine idx_rdN S.rd rfl hkA fun p hat _ => ?_
        refine st_flat S (x := b) (own_bool b) hat rfl hkA fun h' S' => ?_
        exact hk1 _ _ fun _ => ar_i64 (by omega) (by omega) ⟨G.length - (k + 1), by omega, k + 1, _, rfl, by omega, rfl, by simpa using hA, fun z hz hlt => by
          rw [List.getElem_set]
          split
          · rename_i e; subst e; exact hb
          · exact hall z (by simpa using hz) (by omega), S'⟩
      have e1 : (comeOf G).getD i false = (comeOf G)[i] := getD_lt hic
      have e2 : (comeOf G).getD k false = (comeOf G)[k] := getD_lt hkc
      refine idx_rdN hr rfl hic fun p _ hp => ld_oneB hp S.old ?_
      refine ifB_intro (fun h1' => ?_) (fun h1' => put false (by unfold stepB; rw [e1, h1']; rfl))
      refine idx_rdN hr rfl hkc fun p _ hp => ld_oneB hp S.old ?_
      refine ifB_intro (fun h2' => ?_) (fun h2' => put false (by unfold stepB; rw [e1, h1', e2, h2']; rfl))
      rw [lessI_ne, lessI_ne]
      refine ifB_intro (fun h3' => ?_) (fun h3' => put false (by unfold stepB; rw [e1, h1', e2, h2', h3']; rfl))
      refine ifB_intro (fun h4' => ?_) (fun h4' => put false (by unfold stepB; rw [e1, h1', e2, h2', h3', h4']; rfl))
      refine (leads_calls (hg.old (T.old.trans S.old)) (a := (i : Int)) (b := (k : Int)) (by omega) (by omega)).mono ?_
      rintro v h6 ⟨rfl, rfl⟩
      refine ⟨_, rfl, put _ ?_⟩
      unfold stepB; rw [e1, h1', e2, h2', h3', h4', Int.toNat_natCast]; rfl
    · have hkl : k = G.length := by have : G.length ≤ k := by simpa [hl] using hc
                                    omega
      subst hkl
      have hAe : A = (tabL G.length (stepB G less))[i]'(by omega) := by
        refine List.ext_getElem (by simp [tabL, hA]) fun z h1 h2 => ?_
        rw [hall z h1 (by omega)]
        simp [tabL]
      rw [hAe] at S
      refine app1_rule (S.toEl.swap) rfl (by decide) (by simp only [si_LLbool, List.length_take]; omega) (by simp only [List.length_take]; omega) fun s' h' S' => ?_
      refine ar_i64 (by omega) (by omega) ⟨G.length - (i + 1), by omega, i + 1, rfl, by omega, rfl, S'.cast ?_⟩
      rw [List.take_succ_eq_append_getElem (by omega)]
  · have hkl : G.length ≤ i := by simpa [hl] using hc
    rw [List.take_of_length_le (by omega)] at S
    exact ⟨out, rfl, S.since T.old⟩

end Go.Proofs.Ytniflhbfnkadhaa
