/-
  lateenref11: Crossed.
-/
import Derived.Test.YtniflhbfnkadhaaFnLoops8
namespace Go.Proofs.Ytniflhbfnkadhaa
open Go.Fw Go.Pl

/-- A table that is rewritten cell by cell. -/
structure TI (n : Nat) (f g : Nat → Nat → Bool) (i k : Nat) (W : List (List Bool)) : Prop where
  len : W.length = n
  row : ∀ a (ha : a < W.length), W[a].length = n
  get : ∀ a b (ha : a < W.length) (hb : b < W[a].length), W[a][b] = if a < i ∨ (a = i ∧ b < k) then f a b else g a b
theorem TI.set {n i k : Nat} {f g : Nat → Nat → Bool} {W : List (List Bool)} (h : TI n f g i k W) (hi : i < W.length) (hk : k < W[i].length) {u : Bool} (hu : u = f i k) : TI n f g i (k + 1) (W.set i (W[i].set k u)) where
  len := by rw [List.length_set, h.len]
  row a ha := by
    rw [List.getElem_set]
    split
    · rw [List.length_set]; exact h.row i hi
    · exact h.row a (by simpa using ha)
  get a b ha hb := by
    have ha' : a < W.length := by simpa using ha
    by_cases e : i = a
    · subst e
      simp only [List.getElem_set_self] at hb ⊢
      rw [List.getElem_set]
      split
      · rename_i e; subst e; rw [if_pos (.inr ⟨trivial, by omega⟩)]; exact hu
      · rename_i e
        rw [h.get i b hi (by simpa using hb)]
        refine ite_iff ?_
        constructor
        · rintro (h | ⟨_, h⟩)
          · omega
          · exact .inr ⟨trivial, by omega⟩
        · rintro (h | ⟨_, h⟩)
          · omega
          · exact .inr ⟨rfl, by omega⟩
    · have e1 : (W.set i (W[i].set k u))[a] = W[a] := by rw [List.getElem_set, if_neg e]
      have hb' : b < W[a].length := by rw [e1] at hb; exact hb
      have : (W.set i (W[i].set k u))[a][b] = W[a][b] := by simp only [e1]
      rw [this, h.get a b ha' hb']
      have : (a < i ∨ a = i ∧ b < k) ↔ (a < i ∨ a = i ∧ b < k + 1) := by constructor <;> (intro h; omega)
      exact ite_iff this
theorem TI.nextRow {n i : Nat} {f g : Nat → Nat → Bool} {W : List (List Bool)} (h : TI n f g i n W) : TI n f g (i + 1) 0 W where
  len := h.len
  row := h.row
  get a b ha hb := by
    rw [h.get a b ha hb]
    have := h.row a ha
    have : (a < i ∨ a = i ∧ b < n) ↔ (a < i + 1 ∨ a = i + 1 ∧ b < 0) := by constructor <;> (intro h; omega)
    exact ite_iff this
theorem TI.all {n : Nat} {f g : Nat → Nat → Bool} {W : List (List Bool)} (h : TI n f g n 0 W) : W = tabL n f := by
  refine List.ext_getElem (by simp [tabL, h.len]) fun a h1 h2 => ?_
  refine List.ext_getElem (by simp [tabL, h.row a h1]) fun b h3 h4 => ?_
  have := h.len
  rw [h.get a b h1 h3, if_pos (.inl (by omega))]
  simp [tabL]
theorem TI.of (n : Nat) (f g : Nat → Nat → Bool) : TI n f g 0 0 (tabL n g) where
  len := by simp [tabL]
  row a ha := by simp [tabL]
  get a b ha hb := by rw [if_neg (by omega)]; simp [tabL]

theorem refCrossed_calls {h : Heap} {g : Sl} {G : Graph} (hg : rdSl eInts h g G) (hn : G.length ≤ 1000) (hrow : ∀ r ∈ G, r.length ≤ 1000) :
    ACalls Try.prog F_lateenref11_Crossed [g.v] h (fun v h' => v = .bool (crossB G) ∧ Old h h') := by
  refine lateenref11_Crossed_of ?_
  have hl := hg.lenEq
  unfold lateenref11_Crossed
  refine (refAll_calls hg hn hrow).mono ?_
  rintro v h1 ⟨r, rfl, T1⟩
  refine ⟨r, rfl, ?_⟩
  refine (steps_calls (hg.old T1.old) hn none).mono ?_
  rintro v h2 ⟨r1, rfl, T2⟩
  refine ⟨r1, rfl, ?_⟩
  have hr := T1.rd
  refine loop_intro (fun f (t : Int) h' => ∃ (i : Nat) (W : List (List Bool)), t = i ∧ i ≤ G.length ∧ f = G.length - i ∧ TI G.length (crossS G) (stepB G none) i 0 W ∧ Sep h1 h' [ownSl si_LLbool eBools r1 W]) G.length
    ⟨0, _, rfl, by omega, by omega, TI.of _ _ _, T2⟩ ?_
  clear T2
  rintro _ _ t h3 ⟨i, W, rfl, hi, rfl, w, S⟩
  refine ifB_intro (fun hc => ?_) (fun hc => ?_)
  · have hil : i < G.length := by rw [hl] at hc; simpa using hc
    refine loop_intro (fun f (t : Int) h' => ∃ (k : Nat) (W : List (List Bool)), t = k ∧ k ≤ G.length ∧ f = G.length - k ∧ TI G.length (crossS G) (stepB G none) i k W ∧ Sep h1 h' [ownSl si_LLbool eBools r1 W]) G.length
      ⟨0, _, rfl, by omega, by omega, w, S⟩ ?_
    clear S w
    rintro _ _ t h4 ⟨k, W, rfl, hk, rfl, w, S⟩
    refine ifB_intro (fun hc => ?_) (fun hc => ?_)
    · have hkl : k < G.length := by rw [hl] at hc; simpa using hc
      have hiW : i < W.length := by rw [w.len]; exact hil
      have hkW : k < W[i].length := by rw [w.row i hiW]; exact hkl
      intro k2 hk2
      refine idx_rdN S.rd rfl hiW fun p1 hat1 hp1 => ?_
      obtain ⟨x, hcx, _⟩ := hp1
      refine ⟨x, hcx, ?_⟩
      have fin : ∀ u : Bool, u = crossS G i k → idx 1 x (k : Int) fun p => st [.bool u] h4 p fun h' => k2 () h' := fun u hu =>
        st_row2 (u := u) S hiW hkW rfl (own_bool u) hat1 hcx fun h5 S5 => hk2 _ _ fun _ => ar_i64 (by omega) (by omega) ⟨G.length - (k + 1), by omega, k + 1, _, rfl, by omega, rfl, w.set hiW hkW hu, S5⟩
      refine idx_rdN S.rd rfl hiW fun p2 _ hp2 => ld_sl hp2 fun y hy => ?_
      refine idx_rdN hy rfl hkW fun p3 _ hp3 => ld_one hp3 ?_
      have e1 : W[i][k] = stepB G none i k := by rw [w.get i k hiW hkW, if_neg (by omega)]
      rw [e1]
      refine ifB_intro (fun hc => ?_) (fun hc => fin _ (by unfold crossS; rw [hc]; rfl))
      exact dom_ld hr S.old hkl hil (fin _ (by unfold crossS; rw [hc]; rfl))
    · have hkl : G.length = k := by rw [hl] at hc; simp at hc; omega
      subst hkl
      exact ar_i64 (by omega) (by omega) ⟨G.length - (i + 1), by omega, i + 1, W, rfl, by omega, rfl, w.nextRow, S⟩
  · have hil : G.length = i := by rw [hl] at hc; simp at hc; omega
    subst hil
    rw [w.all] at S
    refine (ways_calls S.rd hn).mono ?_
    rintro v h8 ⟨r2, rfl, T8⟩
    refine ⟨r2, rfl, ?_⟩
    have hw := T8.rd
    have o8 := T1.old.trans (S.old.trans T8.old)
    refine loop_intro (fun f (t : Int) h' => ∃ i : Nat, t = i ∧ h' = h8 ∧ i ≤ G.length ∧ f = G.length - i ∧ ∀ j, j < i → wT (crossS G) G.length j j = false) G.length
      ⟨0, rfl, rfl, by omega, by omega, fun j hj => by omega⟩ ?_
    rintro _ _ t h9 ⟨i, rfl, rfl, hi, rfl, hno⟩
    refine ifB_intro (fun hc => ?_) (fun hc => ?_)
    · have hil : i < G.length := by rw [hl] at hc; simpa using hc
      refine tab_ld hw (Old.refl _) hil hil ?_
      refine ifB_intro (fun hc => ⟨?_, o8⟩) (fun hc => ar_i64 (by omega) (by omega) ⟨G.length - (i + 1), by omega, i + 1, rfl, rfl, by omega, rfl, fun j hj => ?_⟩)
      · have : crossB G = true := by unfold crossB; rw [List.any_eq_true]; exact ⟨i, List.mem_range.2 hil, hc⟩
        rw [this]
      · by_cases e : j = i
        · subst e; exact hc
        · exact hno j (by omega)
    · have hil : G.length ≤ i := by rw [hl] at hc; simpa using hc
      have : crossB G = false := by
        unfold crossB
        rw [List.any_eq_false]
        intro j hj
        rw [hno j (by have := List.mem_range.1 hj; omega)]
        simp
      exact ⟨by rw [this], o8⟩

end Go.Proofs.Ytniflhbfnkadhaa
