/-
  lateenref20: Ways, Parts, Round.
-/
import Derived.Test.YthdidcnpiaeleaaFnCalls5
namespace Go.Proofs.Ythdidcnpiaeleaa
open Go.Fw Go.Pl

theorem ite_iff {P Q : Prop} [Decidable P] [Decidable Q] {a b : Bool} (h : P ↔ Q) : (if P then a else b) = if Q then a else b := by
  by_cases p : P
  · rw [if_pos p, if_pos (h.1 p)]
  · rw [if_neg p, if_neg fun q => p (h.2 q)]
theorem ways_rowm (G : Graph) (m b : Nat) : waysT G (m + 1) m b = waysT G m m b := by
  conv => lhs; unfold waysT
  cases waysT G m m b <;> simp
theorem ways_colm (G : Graph) (m a : Nat) : waysT G (m + 1) a m = waysT G m a m := by
  conv => lhs; unfold waysT
  cases waysT G m a m <;> simp

/-- The ways, some points taken in already. -/
structure WI (G : Graph) (m i k : Nat) (W : List (List Bool)) : Prop where
  len : W.length = G.length
  row : ∀ a (ha : a < W.length), W[a].length = G.length
  get : ∀ a b (ha : a < W.length) (hb : b < W[a].length), W[a][b] = if a < i ∨ (a = i ∧ b < k) then waysT G (m + 1) a b else waysT G m a b
theorem WI.set {m i k : Nat} {G : Graph} {W : List (List Bool)} (h : WI G m i k W) (hi : i < W.length) (hk : k < W[i].length) {u : Bool} (hu : u = waysT G (m + 1) i k) : WI G m i (k + 1) (W.set i (W[i].set k u)) where
  len := by rw [List.length_set, h.len]
  row a ha := by
    rw [List.getElem_set]
    split
    · rw [List.length_set]; exact h.row i hi
    · exact h.row a (by simpa using ha)
  get a b ha hb := by
    have ha' : a < W.length := by simpa using ha
    by_cases e : i = a
    · subst e
      simp only [List.getElem_set_self] at hb ⊢
      rw [List.getElem_set]
      split
      · rename_i e; subst e; rw [if_pos (.inr ⟨trivial, by omega⟩)]; exact hu
      · rename_i e
        rw [h.get i b hi (by simpa using hb)]
        refine ite_iff ?_
        constructor
        · rintro (h | ⟨_, h⟩)
          · omega
          · exact .inr ⟨trivial, by omega⟩
        · rintro (h | ⟨_, h⟩)
          · omega
          · exact .inr ⟨rfl, by omega⟩
    · have e1 : (W.set i (W[i].set k u))[a] = W[a] := by rw [List.getElem_set, if_neg e]
      have hb' : b < W[a].length := by rw [e1] at hb; exact hb
      have : (W.set i (W[i].set k u))[a][b] = W[a][b] := by simp only [e1]
      rw [this, h.get a b ha' hb']
      have : (a < i ∨ a = i ∧ b < k) ↔ (a < i ∨ a = i ∧ b < k + 1) := by constructor <;> (intro h; omega)
      exact ite_iff this
theorem WI.nextRow {m i : Nat} {G : Graph} {W : List (List Bool)} (h : WI G m i G.length W) : WI G m (i + 1) 0 W where
  len := h.len
  row := h.row
  get a b ha hb := by
    rw [h.get a b ha hb]
    have := h.row a ha
    have : (a < i ∨ a = i ∧ b < G.length) ↔ (a < i + 1 ∨ a = i + 1 ∧ b < 0) := by constructor <;> (intro h; omega)
    exact ite_iff this
theorem WI.nextAll {m : Nat} {G : Graph} {W : List (List Bool)} (h : WI G m G.length 0 W) : WI G (m + 1) 0 0 W where
  len := h.len
  row := h.row
  get a b ha hb := by
    have := h.len
    rw [h.get a b ha hb, if_pos (.inl (by omega)), if_neg (by omega)]
theorem WI.all {m : Nat} {G : Graph} {W : List (List Bool)} (h : WI G m 0 0 W) : W = waysL G m := by
  refine List.ext_getElem (by simp [waysL, h.len]) fun a h1 h2 => ?_
  refine List.ext_getElem (by simp [waysL, h.row a h1]) fun b h3 h4 => ?_
  rw [h.get a b h1 h3, if_neg (by omega)]
  simp [waysL]
theorem WI.of {m : Nat} (G : Graph) : WI G m 0 0 (waysL G m) where
  len := by simp [waysL]
  row a ha := by simp [waysL]
  get a b ha hb := by rw [if_neg (by omega)]; simp [waysL]

theorem ways_calls {h : Heap} {g : Sl} {G : Graph} (hg : rdSl eInts h g G) (hn : G.length ≤ 1000) :
    ACalls Try.prog F_lateenref20_Ways [g.v] h (fun v h' => ∃ s : Sl, v = s.v ∧ Fw.Sep h h' [ownSl si_LLbool (Elem.sl si_Lbool eBool) s (waysL G G.length)]) := by
  refine lateenref20_Ways_of ?_
  have hl := hg.lenEq
  unfold lateenref20_Ways
  refine loop_intro (fun m (t : Sl × Int) h1 => ∃ j : Nat, t.2 = j ∧ j ≤ G.length ∧ m = G.length - j ∧ Fw.Sep h h1 [ownSl si_LLbool (Elem.sl si_Lbool eBool) t.1 ((waysL G 0).take j)]) G.length
    ⟨0, rfl, by omega, by omega, (Fw.Sep.start h).nil rfl⟩ ?_
  rintro _ _ ⟨out, j⟩ h1 ⟨j, hj0, hj, rfl, S⟩
  simp only at hj0 S ⊢
  subst hj0
  have hwl : (waysL G 0).length = G.length := by simp [waysL]
  refine ifB_intro (fun hc => ?_) (fun hc => ?_)
  · have hjl : j < G.length := by rw [hl] at hc; simpa using hc
    refine ⟨trivial, mk_rule (x := false) (E := eBool) S rfl (own_bool false) (by omega) (by omega) (by simp only [si_Lbool]; omega) fun s h2 S2 => ?_⟩
    rw [hl, Int.toNat_natCast] at S2
    refine loop_intro (fun m (t : Int) h3 => ∃ (b : Nat) (A : List Bool), t = b ∧ b ≤ G.length ∧ m = G.length - b ∧ A.length = G.length ∧ (∀ c (hc : c < A.length), c < b → A[c] = leadsB G j (c : Int)) ∧
        Fw.Sep h h3 [ownSl si_Lbool eBool s A, ownSl si_LLbool (Elem.sl si_Lbool eBool) out ((waysL G 0).take j)]) G.length
      ⟨0, _, rfl, by omega, by omega, by simp, fun c hc h => by omega, S2⟩ ?_
    clear S S2
    rintro _ _ t h3 ⟨b, A, rfl, hb, rfl, hA, hall, S⟩
    refine ifB_intro (fun hc => ?_) (fun hc => ?_)
    · have hbl : b < G.length := by rw [hl] at hc; simpa using hc
      refine (leads_calls (hg.old S.old) (a := (j : Int)) (b := (b : Int)) (by omega) (by omega)).mono ?_
      rintro v h4 ⟨rfl, rfl⟩
      refine ⟨_, rfl, ?_⟩
      refine idx_rdN S.rd rfl (show b < A.length by omega) fun p hat _ => ?_
      refine st_flat S (x := leadsB G j (b : Int)) (own_bool _) hat rfl (by omega) fun h5 S5 => ?_
      refine ar_i64 (by omega) (by omega) ⟨G.length - (b + 1), by omega, b + 1, _, rfl, by omega, rfl, by simpa using hA, fun c hc hlt => ?_, S5⟩
      rw [List.getElem_set]
      split
      · rename_i e; rw [e]
      · exact hall c (by simpa using hc) (by omega)
    · have hbl : G.length = b := by rw [hl] at hc; simp at hc; omega
      subst hbl
      have e : A = (waysL G 0)[j] := by
        refine List.ext_getElem (by simp [waysL, hA]) fun c h1 h2 => ?_
        rw [hall c h1 (by omega)]
        simp [waysL, waysT]
      rw [e] at S
      refine app1_rule (x := (waysL G 0)[j]) (S.toEl.swap) rfl (by decide) (by simp only [si_LLbool, List.length_take]; omega) (by simp only [List.length_take]; omega) fun s3 h7 S7 => ?_
      refine ar_i64 (by omega) (by omega) ⟨G.length - (j + 1), by omega, j + 1, rfl, by omega, rfl, ?_⟩
      rw [List.take_succ_eq_append_getElem (by omega)]
      exact S7
  · have hjG : G.length = j := by rw [hl] at hc; simp at hc; omega
    rw [List.take_of_length_le (by omega)] at S
    clear hjG hc hj
    refine loop_intro (fun f (t : Int) h2 => ∃ (m : Nat) (W : List (List Bool)), t = m ∧ m ≤ G.length ∧ f = G.length - m ∧ WI G m 0 0 W ∧ Fw.Sep h h2 [ownSl si_LLbool (Elem.sl si_Lbool eBool) out W]) G.length
      ⟨0, _, rfl, by omega, by omega, WI.of G, S⟩ ?_
    clear S
    rintro _ _ t h2 ⟨m, W, rfl, hm, rfl, w, S⟩
    refine ifB_intro (fun hc => ?_) (fun hc => ?_)
    · have hml : m < G.length := by rw [hl] at hc; simpa using hc
      refine loop_intro (fun f (t : Int) h3 => ∃ (i : Nat) (W : List (List Bool)), t = i ∧ i ≤ G.length ∧ f = G.length - i ∧ WI G m i 0 W ∧ Fw.Sep h h3 [ownSl si_LLbool (Elem.sl si_Lbool eBool) out W]) G.length
        ⟨0, _, rfl, by omega, by omega, w, S⟩ ?_
      clear S w
      rintro _ _ t h3 ⟨i, W, rfl, hi, rfl, w, S⟩
      refine ifB_intro (fun hc => ?_) (fun hc => ?_)
      · have hil : i < G.length := by rw [hl] at hc; simpa using hc
        refine loop_intro (fun f (t : Int) h4 => ∃ (k : Nat) (W : List (List Bool)), t = k ∧ k ≤ G.length ∧ f = G.length - k ∧ WI G m i k W ∧ Fw.Sep h h4 [ownSl si_LLbool (Elem.sl si_Lbool eBool) out W]) G.length
          ⟨0, _, rfl, by omega, by omega, w, S⟩ ?_
        clear S w
        rintro _ _ t h4 ⟨k, W, rfl, hk, rfl, w, S⟩
        refine ifB_intro (fun hc => ?_) (fun hc => ?_)
        · have hkl : k < G.length := by rw [hl] at hc; simpa using hc
          have hiW : i < W.length := by rw [w.len]; exact hil
          have hmW : m < W.length := by rw [w.len]; exact hml
          have hkW : k < W[i].length := by rw [w.row i hiW]; exact hkl
          have hmWi : m < W[i].length := by rw [w.row i hiW]; exact hml
          have hkWm : k < W[m].length := by rw [w.row m hmW]; exact hkl
          intro k2 hk2
          refine idx_rdN S.rd rfl hiW fun p1 hat1 hp1 => ?_
          obtain ⟨x, hcx, _⟩ := hp1
          refine ⟨x, hcx, ?_⟩
          have fin : ∀ u : Bool, u = waysT G (m + 1) i k → idx 1 x (k : Int) fun p => st [.bool u] h4 p fun h' => k2 () h' := fun u hu =>
            st_row2 (u := u) S hiW hkW rfl (own_bool u) hat1 hcx fun h5 S5 => hk2 _ _ fun _ => ar_i64 (by omega) (by omega) ⟨G.length - (k + 1), by omega, k + 1, _, rfl, by omega, rfl, w.set hiW hkW hu, S5⟩
          refine idx_rdN S.rd rfl hiW fun p2 _ hp2 => ld_sl hp2 fun y hy => ?_
          refine idx_rdN hy rfl hkW fun p3 _ hp3 => ld_one hp3 ?_
          have e1 : W[i][k] = waysT G m i k := by rw [w.get i k hiW hkW, if_neg (by omega)]
          rw [e1]
          have ex : waysT G (m + 1) i k = (waysT G m i k || (waysT G m i m && waysT G m m k)) := rfl
          refine ifB_intro (fun hc => fin _ (by rw [ex, hc]; rfl)) (fun hc => ?_)
          rw [hc, Bool.false_or] at ex
          refine idx_rdN S.rd rfl hiW fun p5 _ hp5 => ld_sl hp5 fun y2 hy2 => ?_
          refine idx_rdN hy2 rfl hmWi fun p6 _ hp6 => ld_one hp6 ?_
          have e2 : W[i][m] = waysT G m i m := by
            rw [w.get i m hiW hmWi]
            split
            · exact ways_colm G m i
            · rfl
          rw [e2]
          refine ifB_intro (fun hc => ?_) (fun hc => fin _ (by rw [ex, hc]; rfl))
          rw [hc, Bool.true_and] at ex
          refine idx_rdN S.rd rfl hmW fun p7 _ hp7 => ld_sl hp7 fun y3 hy3 => ?_
          refine idx_rdN hy3 rfl hkWm fun p8 _ hp8 => ld_one hp8 ?_
          refine fin _ ?_
          rw [ex, w.get m k hmW hkWm]
          split
          · exact ways_rowm G m k
          · rfl
        · have hkl : G.length = k := by rw [hl] at hc; simp at hc; omega
          subst hkl
          exact ar_i64 (by omega) (by omega) ⟨G.length - (i + 1), by omega, i + 1, W, rfl, by omega, rfl, w.nextRow, S⟩
      · have hil : G.length = i := by rw [hl] at hc; simp at hc; omega
        subst hil
        exact ar_i64 (by omega) (by omega) ⟨G.length - (m + 1), by omega, m + 1, W, rfl, by omega, rfl, w.nextAll, S⟩
    · have hml : G.length = m := by rw [hl] at hc; simp at hc; omega
      subst hml
      rw [w.all] at S
      exact ⟨out, rfl, S⟩

theorem refRound_calls {h : Heap} {g : Sl} {G : Graph} (hg : rdSl eInts h g G) (hn : G.length ≤ 1000) :
    ACalls Try.prog F_lateenref20_Round [g.v] h (fun v h' => ∃ s : Sl, v = s.v ∧ Fw.Sep h h' [ownSl si_Lbool eBool s (roundF G)]) := by
  refine lateenref20_Round_of ?_
  have hl := hg.lenEq
  unfold lateenref20_Round
  refine (ways_calls hg hn).mono ?_
  rintro v h1 ⟨r, rfl, S⟩
  refine ⟨r, rfl, ?_⟩
  have hrl : (roundF G).length = G.length := by simp [roundF]
  have hwl : (waysL G G.length).length = G.length := by simp [waysL]
  have hwr : ∀ a (ha : a < (waysL G G.length).length), (waysL G G.length)[a].length = G.length := fun a ha => by simp [waysL]
  have hwg : ∀ a b (ha : a < (waysL G G.length).length) (hb : b < (waysL G G.length)[a].length), (waysL G G.length)[a][b] = wayB G a b := fun a b ha hb => by simp [waysL, wayB]
  generalize waysL G G.length = W at S hwl hwr hwg
  refine loop_intro (fun m (t : Sl × Int) h2 => ∃ j : Nat, t.2 = j ∧ j ≤ G.length ∧ m = G.length - j ∧ Fw.Sep h h2 [ownSl si_Lbool eBool t.1 ((roundF G).take j), ownSl si_LLbool (Elem.sl si_Lbool eBool) r W]) G.length
    ⟨0, rfl, by omega, by omega, S.nil rfl⟩ ?_
  clear S
  rintro _ _ ⟨out, j⟩ h2 ⟨j, hj0, hj, rfl, S⟩
  simp only at hj0 S ⊢
  subst hj0
  refine ifB_intro (fun hc => ?_) (fun hc => ?_)
  · have hjl : j < G.length := by rw [hl] at hc; simpa using hc
    have hjW : j < W.length := by rw [hwl]; exact hjl
    have hjr : j < (roundF G).length := by rw [hrl]; exact hjl
    refine idx_rdN S.swap.rd rfl hjW fun p _ hp => ld_sl hp fun x hx => ?_
    refine idx_rdN hx rfl (show j < W[j].length by rw [hwr]; exact hjl) fun p _ hp => ld_one hp ?_
    rw [hwg, show wayB G j j = (roundF G)[j] from by simp [roundF]]
    refine app1_flat S (own_bool _) rfl (by decide) (by simp only [si_Lbool, List.length_take]; omega) (by simp only [List.length_take]; omega) fun s3 h3 S3 => ?_
    refine ar_i64 (by omega) (by omega) ⟨G.length - (j + 1), by omega, j + 1, rfl, by omega, rfl, ?_⟩
    rw [List.take_succ_eq_append_getElem (by omega)]
    exact S3
  · have hjG : G.length = j := by rw [hl] at hc; simp at hc; omega
    rw [List.take_of_length_le (by omega)] at S
    exact ⟨out, rfl, S.swap.drop⟩

theorem refParts_calls {h : Heap} {g : Sl} {G : Graph} (hg : rdSl eInts h g G) (hn : G.length ≤ 1000) :
    ACalls Try.prog F_lateenref20_Parts [g.v] h (fun v h' => ∃ s : Sl, v = s.v ∧ Fw.Sep h h' [ownSl si_Lint eInt s (partsF G)]) := by
  refine lateenref20_Parts_of ?_
  have hl := hg.lenEq
  unfold lateenref20_Parts
  refine (ways_calls hg hn).mono ?_
  rintro v h1 ⟨r, rfl, S⟩
  refine ⟨r, rfl, ?_⟩
  have hrl : (partsF G).length = G.length := by simp [partsF]
  have hwl : (waysL G G.length).length = G.length := by simp [waysL]
  have hwr : ∀ a (ha : a < (waysL G G.length).length), (waysL G G.length)[a].length = G.length := fun a ha => by simp [waysL]
  have hwg : ∀ a b (ha : a < (waysL G G.length).length) (hb : b < (waysL G G.length)[a].length), (waysL G G.length)[a][b] = wayB G a b := fun a b ha hb => by simp [waysL, wayB]
  generalize waysL G G.length = W at S hwl hwr hwg
  refine loop_intro (fun m (t : Sl × Int) h2 => ∃ j : Nat, t.2 = j ∧ j ≤ G.length ∧ m = G.length - j ∧ Fw.Sep h h2 [ownSl si_Lint eInt t.1 ((partsF G).take j), ownSl si_LLbool (Elem.sl si_Lbool eBool) r W]) G.length
    ⟨0, rfl, by omega, by omega, S.nil rfl⟩ ?_
  clear S
  rintro _ _ ⟨out, i⟩ h2 ⟨i, hi0, hi, rfl, S⟩
  simp only at hi0 S ⊢
  subst hi0
  refine ifB_intro (fun hc => ?_) (fun hc => ?_)
  · have hil : i < G.length := by rw [hl] at hc; simpa using hc
    refine ar_i64 (by omega) (by omega) ?_
    refine loop_intro (fun m (t : Int × Int) h3 => ∃ j : Nat, h3 = h2 ∧ t.1 = ((lst G i j : Nat) : Int) ∧ t.2 = (i : Int) - 1 - j ∧ j ≤ i ∧ m = i - j) i ⟨0, rfl, rfl, by omega, by omega, by omega⟩ ?_
    rintro _ _ ⟨c, k⟩ h3 ⟨j, e0, hc0, hk0, hj, rfl⟩
    subst e0
    simp only at hc0 hk0 ⊢
    subst hc0
    refine ifB_intro (fun hc => ?_) (fun hc => ?_)
    · have hji : j < i := by have := of_decide_eq_true hc; omega
      obtain ⟨d, hd⟩ : ∃ d : Nat, d = i - 1 - j := ⟨_, rfl⟩
      have hkd : k = (d : Int) := by omega
      subst hkd
      have hdl : d < G.length := by omega
      intro k1 hk1 k2 hk2
      have fin : ∀ t : Bool, t = (wayB G i d && wayB G d i) → k2 t h3 := fun t ht => by
        refine hk2 _ _ fun _ => ?_
        have hls : lst G i (j + 1) = if wayB G i d = true ∧ wayB G d i = true then d else lst G i j := by rw [hd]; rfl
        refine ifB_intro (fun hc => hk1 _ _ fun _ => ar_i64 (by omega) (by omega) ⟨i - (j + 1), by omega, j + 1, rfl, ?_, by omega, by omega, rfl⟩) (fun hc => hk1 _ _ fun _ => ar_i64 (by omega) (by omega) ⟨i - (j + 1), by omega, j + 1, rfl, ?_, by omega, by omega, rfl⟩)
        · rw [hls, if_pos (by rw [ht, Bool.and_eq_true] at hc; exact hc)]
        · rw [hls, if_neg (by rw [ht] at hc; rw [← Bool.and_eq_true, hc]; decide)]
      have hiW : i < W.length := by rw [hwl]; exact hil
      have hdW : d < W.length := by rw [hwl]; exact hdl
      refine idx_rdN S.swap.rd rfl hiW fun p _ hp => ld_sl hp fun x hx => ?_
      refine idx_rdN hx rfl (show d < W[i].length by rw [hwr]; exact hdl) fun p _ hp => ld_one hp ?_
      rw [hwg]
      refine ifB_intro (fun hc => ?_) (fun hc => fin _ (by rw [hc]; rfl))
      refine idx_rdN S.swap.rd rfl hdW fun p _ hp => ld_sl hp fun x hx => ?_
      refine idx_rdN hx rfl (show i < W[d].length by rw [hwr]; exact hil) fun p _ hp => ld_one hp ?_
      rw [hwg]
      exact fin _ (by rw [hc]; rfl)
    · have hji : j = i := by have := of_decide_eq_false hc; omega
      subst hji
      have hjr : j < (partsF G).length := by rw [hrl]; exact hil
      rw [show ((lst G j j : Nat) : Int) = (partsF G)[j] from by simp [partsF]]
      refine app1_flat S (own_int _) rfl (by decide) (by simp only [si_Lint, List.length_take]; omega) (by simp only [List.length_take]; omega) fun s3 h4 S4 => ?_
      refine ar_i64 (by omega) (by omega) ⟨G.length - (j + 1), by omega, j + 1, rfl, by omega, rfl, ?_⟩
      rw [List.take_succ_eq_append_getElem (by omega)]
      exact S4
  · have hjG : G.length = i := by rw [hl] at hc; simp at hc; omega
    rw [List.take_of_length_le (by omega)] at S
    exact ⟨out, rfl, S.swap.drop⟩

end Go.Proofs.Ythdidcnpiaeleaa
