/-
  Plain: graphs as lists, what leads to what, the search from a point, in the order in which it leaves points.
-/
namespace Go.Pl

abbrev Graph := List (List Int)

theorem getD_lt {α : Type} {l : List α} {i : Nat} {d : α} (h : i < l.length) : l.getD i d = l[i] := by simp [h]

def leadsB (G : Graph) (a : Nat) (b : Int) : Bool := (G.getD a []).contains b
def predsOf (G : Graph) : Graph := (List.range G.length).map fun (i : Nat) => ((List.range G.length).filter fun k => leadsB G k (i : Int)).map fun (k : Nat) => (k : Int)
def fewB (G : Graph) (most : Int) : Bool := decide ((G.length : Int) ≤ most) && G.all fun r => decide (r.length ≤ 20)

/-- One child of a point: gone down to, if it is a point, and not marked. -/
def stepDn (n : Nat) (go : Nat → List Bool → List Int → List Bool × List Int) (s : List Bool × List Int) (k : Int) : List Bool × List Int :=
  if 0 ≤ k ∧ k < n ∧ s.1.getD k.toNat false = false then go k.toNat s.1 s.2 else s
/-- Going down from a point: what is marked then, what was left, in order. -/
def dn (G : Graph) : Nat → Nat → List Bool → List Int → List Bool × List Int
  | 0, _, M, l => (M, l)
  | f + 1, a, M, l =>
    let r := (G.getD a []).foldl (stepDn G.length (dn G f)) (M.set a true, l)
    (r.1, r.2 ++ [(a : Int)])

/-- How many points aren't marked. -/
def open' (M : List Bool) : Nat := M.count false

theorem count_set {M : List Bool} {a : Nat} (ha : a < M.length) (h : M[a] = false) : open' (M.set a true) + 1 = open' M := by
  unfold open'
  rw [List.count_set ha]
  have hpos : 0 < M.count false := List.count_pos_iff.2 (by rw [← h]; exact List.getElem_mem ha)
  simp [h]
  omega

theorem stepDn_keep {n : Nat} {go : Nat → List Bool → List Int → List Bool × List Int} (R : List Bool × List Int → List Bool × List Int → Prop) (hr : ∀ s, R s s) (ht : ∀ a b c, R a b → R b c → R a c)
    (hg : ∀ k s, k < n → s.1.getD k false = false → R s (go k s.1 s.2)) : ∀ (l : List Int) (s : List Bool × List Int), R s (l.foldl (stepDn n go) s)
  | [], s => hr s
  | k :: l, s => by
    refine ht _ _ _ ?_ (stepDn_keep R hr ht hg l _)
    unfold stepDn
    split
    · rename_i h; exact hg _ _ (by omega) h.2.2
    · exact hr s

/-- Marks stay; as many marks as points. -/
structure Grows (s t : List Bool × List Int) : Prop where
  len : t.1.length = s.1.length
  mark : ∀ i, s.1.getD i false = true → t.1.getD i false = true
  op : open' t.1 ≤ open' s.1
theorem Grows.refl (s : List Bool × List Int) : Grows s s := ⟨rfl, fun _ h => h, Nat.le_refl _⟩
theorem Grows.trans {a b c : List Bool × List Int} (h : Grows a b) (k : Grows b c) : Grows a c := ⟨k.len.trans h.len, fun i hi => k.mark i (h.mark i hi), Nat.le_trans k.op h.op⟩
theorem getD_set {M : List Bool} {a i : Nat} (ha : a < M.length) : (M.set a true).getD i false = if a = i then true else M.getD i false := by
  rw [List.getD_eq_getElem?_getD, List.getD_eq_getElem?_getD, List.getElem?_set]
  split
  · rename_i h; subst h; simp
  · rfl

theorem open_set_le {M : List Bool} {a : Nat} : open' (M.set a true) ≤ open' M := by
  by_cases ha : a < M.length
  · by_cases h : M[a] = false
    · have := count_set ha h; omega
    · have hm : M[a] = true := by simpa using h
      have : M.set a true = M := by rw [← hm]; exact List.set_getElem_self ha
      rw [this]; exact Nat.le_refl _
  · rw [List.set_eq_of_length_le (by omega)]; exact Nat.le_refl _

theorem dn_grows (G : Graph) : ∀ (f a : Nat) (s : List Bool × List Int), Grows s (dn G f a s.1 s.2)
  | 0, _, s => Grows.refl s
  | f + 1, a, s => by
    have h1 : Grows s (s.1.set a true, s.2) := ⟨by simp, fun i hi => by
      by_cases ha : a < s.1.length
      · rw [getD_set ha]; split <;> simp_all
      · rw [List.set_eq_of_length_le (by omega)]; exact hi, open_set_le⟩
    have h2 := stepDn_keep (n := G.length) (go := dn G f) Grows Grows.refl (fun _ _ _ => Grows.trans) (fun k s _ _ => dn_grows G f k s) (G.getD a []) (s.1.set a true, s.2)
    have h3 := h1.trans h2
    exact ⟨h3.len, h3.mark, h3.op⟩

theorem foldl_congr_on {n : Nat} {go go' : Nat → List Bool → List Int → List Bool × List Int} (B : Nat) (hgr : ∀ (k : Nat) (s : List Bool × List Int), Grows s (go k s.1 s.2)) (len : Nat)
    (h : ∀ (k : Nat) (s : List Bool × List Int), k < n → s.1.length = len → s.1.getD k false = false → open' s.1 ≤ B → go k s.1 s.2 = go' k s.1 s.2) : ∀ (l : List Int) (s : List Bool × List Int), s.1.length = len → open' s.1 ≤ B →
    l.foldl (stepDn n go) s = l.foldl (stepDn n go') s
  | [], _, _, _ => rfl
  | k :: l, s, hl, hb => by
    have e : stepDn n go s k = stepDn n go' s k := by
      unfold stepDn
      split
      · rename_i hk; exact h _ _ (by omega) hl hk.2.2 hb
      · rfl
    have hg : Grows s (stepDn n go s k) := by
      unfold stepDn
      split
      · exact hgr _ _
      · exact Grows.refl s
    rw [List.foldl_cons, List.foldl_cons, e]
    rw [e] at hg
    exact foldl_congr_on B hgr len h l _ (hg.len.trans hl) (Nat.le_trans hg.op hb)

/-- How much is allowed means nothing, if it is enough. -/
theorem dn_fuel (G : Graph) : ∀ (f f' a : Nat) (M : List Bool) (l : List Int), M.length = G.length → a < M.length → M.getD a false = false → open' M ≤ f → open' M ≤ f' → dn G f a M l = dn G f' a M l
  | 0, _, a, M, l, hlen, ha, hm, h1, _ => by
    have := count_set ha (by simpa [List.getD_eq_getElem?_getD, ha] using hm)
    omega
  | f + 1, 0, a, M, l, hlen, ha, hm, _, h2 => by
    have := count_set ha (by simpa [List.getD_eq_getElem?_getD, ha] using hm)
    omega
  | f + 1, f' + 1, a, M, l, hlen, ha, hm, h1, h2 => by
    have hc := count_set ha (by simpa [List.getD_eq_getElem?_getD, ha] using hm)
    unfold dn
    have := foldl_congr_on (n := G.length) (go := dn G f) (go' := dn G f') (open' (M.set a true)) (fun k s => dn_grows G f k s) M.length
      (fun k s hk hsl hsm hb => dn_fuel G f f' k s.1 s.2 (by omega) (by omega) hsm (by omega) (by omega)) (G.getD a []) (M.set a true, l) (by simp) (Nat.le_refl _)
    simp only [this]

/-- As many are left as are marked. -/
theorem dn_sum (G : Graph) : ∀ (f a : Nat) (M : List Bool) (l : List Int), M.length = G.length → a < M.length → M.getD a false = false → (dn G f a M l).2.length + open' (dn G f a M l).1 = l.length + open' M
  | 0, _, _, _, _, _, _ => rfl
  | f + 1, a, M, l, hM, ha, hm => by
    have hc := count_set ha (by simpa [List.getD_eq_getElem?_getD, ha] using hm)
    have key : ∀ (w : List Int) (s : List Bool × List Int), s.1.length = G.length → (w.foldl (stepDn G.length (dn G f)) s).2.length + open' (w.foldl (stepDn G.length (dn G f)) s).1 = s.2.length + open' s.1 := by
      intro w
      induction w with
      | nil => intro s _; rfl
      | cons k w ih =>
        intro s hs
        rw [List.foldl_cons]
        have h1 : (stepDn G.length (dn G f) s k).1.length = G.length := by
          unfold stepDn; split
          · rw [(dn_grows G f _ s).len]; exact hs
          · exact hs
        rw [ih _ h1]
        unfold stepDn
        split
        · rename_i hk; exact dn_sum G f _ s.1 s.2 hs (by omega) hk.2.2
        · rfl
    unfold dn
    simp only [List.length_append, List.length_singleton]
    have := key (G.getD a []) (M.set a true, l) (by simpa using hM)
    simp only at this
    omega
theorem fold_sum (G : Graph) (f : Nat) (w : List Int) (s : List Bool × List Int) (hs : s.1.length = G.length) :
    (w.foldl (stepDn G.length (dn G f)) s).1.length = G.length ∧ (w.foldl (stepDn G.length (dn G f)) s).2.length + open' (w.foldl (stepDn G.length (dn G f)) s).1 = s.2.length + open' s.1 ∧ open' (w.foldl (stepDn G.length (dn G f)) s).1 ≤ open' s.1 := by
  have hg := stepDn_keep (n := G.length) (go := dn G f) Grows Grows.refl (fun _ _ _ => Grows.trans) (fun k s _ _ => dn_grows G f k s) w s
  refine ⟨hg.len.trans hs, ?_, hg.op⟩
  clear hg
  induction w generalizing s with
  | nil => rfl
  | cons k w ih =>
    rw [List.foldl_cons]
    have h1 : (stepDn G.length (dn G f) s k).1.length = G.length := by
      unfold stepDn; split
      · rw [(dn_grows G f _ s).len]; exact hs
      · exact hs
    rw [ih _ h1]
    unfold stepDn
    split
    · rename_i hk; exact dn_sum G f _ s.1 s.2 hs (by omega) hk.2.2
    · rfl

/-- The search from a point; what is left, in order. -/
def search (G : Graph) : List Bool × List Int := if G = [] then ([], []) else dn G G.length 0 (List.replicate G.length false) []
def comeOf (G : Graph) : List Bool := (search G).1
def orderOf (G : Graph) : List Int := (search G).2.reverse

/-! The search with a stack -/
/-- What is still to be done, of points under way (the last one first). -/
def unw (G : Graph) (f : Nat) : List (Nat × Nat) → List Bool × List Int → List Bool × List Int
  | [], s => s
  | (a, i) :: r, s =>
    let t := ((G.getD a []).drop i).foldl (stepDn G.length (dn G f)) s
    unw G f r (t.1, t.2 ++ [(a : Int)])
/-- How much is to be done at most. -/
def todo (G : Graph) (st : List (Nat × Nat)) (M : List Bool) : Nat :=
  (st.map fun x => (G.getD x.1 []).length - x.2 + 1).sum + (((List.range G.length).filter fun v => !M.getD v false).map fun v => (G.getD v []).length + 2).sum

theorem unw_pop {G : Graph} {f a i : Nat} {r : List (Nat × Nat)} {s : List Bool × List Int} (h : (G.getD a []).length ≤ i) : unw G f ((a, i) :: r) s = unw G f r (s.1, s.2 ++ [(a : Int)]) := by
  conv => lhs; unfold unw
  rw [List.drop_of_length_le h]
  rfl
theorem unw_skip {G : Graph} {f a i : Nat} {r : List (Nat × Nat)} {s : List Bool × List Int} (h : i < (G.getD a []).length)
    (hk : ¬ (0 ≤ (G.getD a [])[i] ∧ (G.getD a [])[i] < G.length ∧ s.1.getD (G.getD a [])[i].toNat false = false)) : unw G f ((a, i) :: r) s = unw G f ((a, i + 1) :: r) s := by
  conv => lhs; unfold unw
  conv => rhs; unfold unw
  rw [List.drop_eq_getElem_cons h, List.foldl_cons]
  rw [show stepDn G.length (dn G f) s (G.getD a [])[i] = s from if_neg hk]
theorem unw_push {G : Graph} {a i k : Nat} {r : List (Nat × Nat)} {s : List Bool × List Int} {f : Nat} (h : i < (G.getD a []).length) (hk : (G.getD a [])[i] = k) (hkn : k < G.length)
    (hlen : s.1.length = G.length) (hm : s.1.getD k false = false) (hf : open' s.1 ≤ f + 1) : unw G (f + 1) ((a, i) :: r) s = unw G (f + 1) ((k, 0) :: (a, i + 1) :: r) (s.1.set k true, s.2) := by
  have hc := count_set (M := s.1) (a := k) (by omega) (by simpa [List.getD_eq_getElem?_getD, show k < s.1.length by omega] using hm)
  conv => lhs; unfold unw
  conv => rhs; unfold unw; unfold unw
  rw [List.drop_eq_getElem_cons h, List.foldl_cons, hk]
  have e : stepDn G.length (dn G (f + 1)) s (k : Int) = dn G (f + 1) k s.1 s.2 := by
    unfold stepDn
    rw [if_pos ⟨by omega, by omega, by simpa using hm⟩]
    simp
  rw [e]
  have e2 := foldl_congr_on (n := G.length) (go := dn G (f + 1)) (go' := dn G f) (open' (s.1.set k true)) (fun k s => dn_grows G (f + 1) k s) s.1.length
    (fun j t hj htl htm hb => dn_fuel G (f + 1) f j t.1 t.2 (by omega) (by omega) htm (by omega) (by omega)) (G.getD k []) (s.1.set k true, s.2) (by simp) (Nat.le_refl _)
  simp only [List.drop_zero, e2]
  rfl

theorem unw_start {G : Graph} {f : Nat} (hn : G.length = f + 1) : unw G (f + 1) [(0, 0)] ((List.replicate (f + 1) false).set 0 true, []) = dn G (f + 1) 0 (List.replicate (f + 1) false) [] := by
  have ho : open' (List.replicate (f + 1) false) = f + 1 := by unfold open'; simp
  have hc := count_set (M := List.replicate (f + 1) false) (a := 0) (by simp) (by simp)
  have e2 := foldl_congr_on (n := G.length) (go := dn G (f + 1)) (go' := dn G f) (open' ((List.replicate (f + 1) false).set 0 true)) (fun k s => dn_grows G (f + 1) k s) (f + 1)
    (fun j t hj htl htm hb => dn_fuel G (f + 1) f j t.1 t.2 (by omega) (by omega) htm (by omega) (by omega)) (G.getD 0 []) ((List.replicate (f + 1) false).set 0 true, []) (by simp) (Nat.le_refl _)
  unfold unw unw
  conv => rhs; unfold dn
  simp only [List.drop_zero, e2]
theorem search_cons {G : Graph} {f : Nat} (hn : G.length = f + 1) : search G = dn G (f + 1) 0 (List.replicate (f + 1) false) [] := by
  unfold search
  rw [if_neg (by intro e; rw [e] at hn; simp at hn), hn]

theorem sum_filter_lt {p q : Nat → Bool} {w : Nat → Nat} : ∀ {l : List Nat} {k : Nat}, l.Nodup → k ∈ l → p k = true → q k = false → (∀ v, v ≠ k → q v = p v) → ((l.filter q).map w).sum + w k = ((l.filter p).map w).sum
  | [], _, _, h, _, _, _ => by simp at h
  | x :: l, k, hn, hk, hp, hq, he => by
    have hn' := List.nodup_cons.1 hn
    by_cases hx : x = k
    · subst hx
      have hrest : l.filter q = l.filter p := List.filter_congr fun v hv => he v fun e => hn'.1 (e ▸ hv)
      rw [List.filter_cons_of_neg (by simp [hq]), List.filter_cons_of_pos hp, hrest]
      simp [Nat.add_comm]
    · have hk' : k ∈ l := by simpa [Ne.symm hx] using hk
      have ih := sum_filter_lt (w := w) hn'.2 hk' hp hq he
      have hqx := he x hx
      by_cases hpx : p x = true
      · rw [List.filter_cons_of_pos (by rw [hqx]; exact hpx), List.filter_cons_of_pos hpx]
        simp only [List.map_cons, List.sum_cons]
        omega
      · rw [List.filter_cons_of_neg (by rw [hqx]; exact hpx), List.filter_cons_of_neg hpx]
        exact ih

theorem todo_pop {G : Graph} {a i : Nat} {r : List (Nat × Nat)} {M : List Bool} : todo G r M < todo G ((a, i) :: r) M := by
  unfold todo; simp only [List.map_cons, List.sum_cons]; omega
theorem todo_skip {G : Graph} {a i : Nat} {r : List (Nat × Nat)} {M : List Bool} (h : i < (G.getD a []).length) : todo G ((a, i + 1) :: r) M < todo G ((a, i) :: r) M := by
  unfold todo; simp only [List.map_cons, List.sum_cons]; omega
theorem todo_push {G : Graph} {a i k : Nat} {r : List (Nat × Nat)} {M : List Bool} (h : i < (G.getD a []).length) (hk : k < G.length) (hl : M.length = G.length) (hm : M.getD k false = false) :
    todo G ((k, 0) :: (a, i + 1) :: r) (M.set k true) < todo G ((a, i) :: r) M := by
  unfold todo
  simp only [List.map_cons, List.sum_cons]
  have := sum_filter_lt (p := fun v => !M.getD v false) (q := fun v => !(M.set k true).getD v false) (w := fun v => (G.getD v []).length + 2) (l := List.range G.length) (k := k)
    List.nodup_range (by simpa using hk) (by simp only [hm, Bool.not_false]) (by simp only [getD_set (show k < M.length by omega)]; simp) (fun v hv => by
      simp only [getD_set (show k < M.length by omega)]; rw [if_neg (Ne.symm hv)])
  omega


/-! What leads to each point, gathered row by row -/
theorem range_filter_succ (p : Nat → Bool) (k : Nat) : ((List.range (k + 1)).filter p).map (fun (k : Nat) => (k : Int)) = ((List.range k).filter p).map (fun (k : Nat) => (k : Int)) ++ (if p k then [(k : Int)] else []) := by
  rw [List.range_succ, List.filter_append, List.map_append]
  congr 1
  by_cases h : p k <;> simp [h]
def pre (G : Graph) (k i : Nat) : List Int := ((List.range k).filter fun r => leadsB G r (i : Int)).map fun (k : Nat) => (k : Int)
def rowsP (G : Graph) (k j : Nat) : Graph := (List.range G.length).map fun (i : Nat) => pre G k i ++ if ((G.getD k []).take j).contains (i : Int) then [(k : Int)] else []
theorem rowsP_len (G : Graph) (k j : Nat) : (rowsP G k j).length = G.length := by simp [rowsP]
theorem rowsP_get {G : Graph} {k j i : Nat} (hi : i < (rowsP G k j).length) : (rowsP G k j)[i] = pre G k i ++ if ((G.getD k []).take j).contains (i : Int) then [(k : Int)] else [] := by
  simp [rowsP]
theorem pre_lt {G : Graph} {k i : Nat} {x : Int} (h : x ∈ pre G k i) : x < k := by
  simp only [pre, List.mem_map, List.mem_filter, List.mem_range] at h
  obtain ⟨r, ⟨h, _⟩, rfl⟩ := h
  omega
theorem pre_len (G : Graph) (k i : Nat) : (pre G k i).length ≤ k := by
  unfold pre
  rw [List.length_map]
  exact Nat.le_trans (List.length_filter_le _ _) (by simp)
theorem rowsP_start (G : Graph) : rowsP G 0 0 = List.replicate G.length [] := by
  apply List.ext_getElem
  · simp [rowsP]
  · intro i h1 h2
    simp [rowsP, pre]
theorem rowsP_next {G : Graph} {k j : Nat} (hj : (G.getD k []).length ≤ j) : rowsP G k j = rowsP G (k + 1) 0 := by
  unfold rowsP
  apply List.map_congr_left
  intro i _
  rw [List.take_of_length_le hj]
  unfold pre
  rw [range_filter_succ]
  simp [leadsB]
theorem rowsP_end (G : Graph) : rowsP G G.length 0 = predsOf G := by
  unfold rowsP predsOf
  apply List.map_congr_left
  intro i _
  simp [pre]
theorem rowsP_has {G : Graph} {k j i : Nat} (hi : i < (rowsP G k j).length) : (rowsP G k j)[i].contains (k : Int) = ((G.getD k []).take j).contains (i : Int) := by
  rw [rowsP_get]
  have hk : ¬ (k : Int) ∈ pre G k i := fun h => by have := pre_lt h; omega
  by_cases hc : ((G.getD k []).take j).contains (i : Int) = true
  · rw [if_pos hc, hc]; simp
  · rw [if_neg hc]; simp at hc; simp [hk, hc]
theorem contains_take_succ {l : List Int} {j : Nat} (hj : j < l.length) (x : Int) : (l.take (j + 1)).contains x = ((l.take j).contains x || x == l[j]) := by
  rw [List.take_succ_eq_append_getElem hj]
  simp only [List.contains_eq_mem, List.mem_append, List.mem_singleton]
  rw [Bool.eq_iff_iff]
  simp
theorem rowsP_skip {G : Graph} {k j : Nat} (hj : j < (G.getD k []).length) (h : ∀ i : Nat, i < G.length → (G.getD k [])[j] = i → ((G.getD k []).take j).contains (i : Int) = true) : rowsP G k (j + 1) = rowsP G k j := by
  unfold rowsP
  apply List.map_congr_left
  intro i hi
  rw [List.mem_range] at hi
  rw [contains_take_succ hj]
  by_cases he : (G.getD k [])[j] = i
  · rw [h i hi he]; simp
  · have : ((i : Int) == (G.getD k [])[j]) = false := by simpa using Ne.symm he
    rw [this, Bool.or_false]
theorem rowsP_put {G : Graph} {k j i : Nat} (hj : j < (G.getD k []).length) (hi : i < G.length) (he : (G.getD k [])[j] = i) (hn : ((G.getD k []).take j).contains (i : Int) = false) :
    rowsP G k (j + 1) = (rowsP G k j).set i ((rowsP G k j)[i]'(by rw [rowsP_len]; exact hi) ++ [(k : Int)]) := by
  apply List.ext_getElem
  · simp [rowsP]
  · intro v h1 h2
    rw [List.getElem_set, rowsP_get, contains_take_succ hj, he]
    by_cases e : i = v
    · subst e
      rw [if_pos rfl, rowsP_get (show i < (rowsP G k j).length by rw [rowsP_len]; exact hi), hn]
      simp
    · rw [if_neg e, rowsP_get (show v < (rowsP G k j).length by simpa using h2)]
      have : ((v : Int) == (i : Int)) = false := by simp; omega
      rw [this, Bool.or_false]


/-! A list turned round from both ends -/
def revK (l : List Int) (k : Nat) : List Int := (List.range l.length).map fun v => if v < k ∨ l.length - k ≤ v then l.getD (l.length - 1 - v) 0 else l.getD v 0
theorem revK_len (l : List Int) (k : Nat) : (revK l k).length = l.length := by simp [revK]
theorem revK_get {l : List Int} {k v : Nat} (h : v < (revK l k).length) : (revK l k)[v] = if v < k ∨ l.length - k ≤ v then l.getD (l.length - 1 - v) 0 else l.getD v 0 := by simp [revK]
theorem revK_zero (l : List Int) : revK l 0 = l := by
  apply List.ext_getElem
  · exact revK_len l 0
  · intro v h1 h2
    rw [revK_get, if_neg (by omega)]
    simp [h2]
theorem revK_end {l : List Int} {k : Nat} (h : l.length ≤ 2 * k + 1) : revK l k = l.reverse := by
  apply List.ext_getElem
  · rw [revK_len]; simp
  · intro v h1 h2
    rw [revK_len] at h1
    rw [revK_get, List.getElem_reverse]
    split
    · rw [getD_lt (by omega)]
    · rw [getD_lt h1]
      congr 1
      omega
theorem revK_succ {l : List Int} {k : Nat} (h : k < l.length - 1 - k) : revK l (k + 1) = ((revK l k).set k (l.getD (l.length - 1 - k) 0)).set (l.length - 1 - k) (l.getD k 0) := by
  apply List.ext_getElem
  · simp [revK_len]
  · intro v h1 h2
    rw [revK_len] at h1
    rw [revK_get, List.getElem_set, List.getElem_set]
    by_cases e1 : l.length - 1 - k = v
    · rw [if_pos e1, if_pos (by omega)]
      congr 1
      omega
    · rw [if_neg e1]
      by_cases e2 : k = v
      · rw [if_pos e2, if_pos (by omega), e2]
      · rw [if_neg e2, revK_get]
        by_cases e3 : v < k ∨ l.length - k ≤ v
        · rw [if_pos e3, if_pos (by omega)]
        · rw [if_neg e3, if_neg (by omega)]

/-! Rows of 'predsOf' -/
theorem predsOf_len {G : Graph} : (predsOf G).length = G.length := by simp [predsOf]
theorem predsOf_row {G : Graph} {b : Nat} (hb : b < G.length) : (predsOf G).getD b [] = ((List.range G.length).filter fun k => leadsB G k (b : Int)).map fun (k : Nat) => (k : Int) := by
  rw [getD_lt (by rw [predsOf_len]; exact hb)]
  simp [predsOf]
theorem up_filter (p : Nat → Bool) (n : Nat) : (((List.range n).filter p).map fun (k : Nat) => (k : Int)).Pairwise (· < ·) := by
  rw [List.pairwise_map]
  exact (List.Pairwise.filter p List.pairwise_lt_range).imp (fun h => by omega)
theorem count_filter (p : Nat → Bool) (a : Nat) : ∀ n : Nat, (((List.range n).filter p).map fun (k : Nat) => (k : Int)).count (a : Int) = if a < n ∧ p a = true then 1 else 0
  | 0 => by simp
  | n + 1 => by
    rw [range_filter_succ, List.count_append, count_filter p a n]
    by_cases hn : a = n
    · subst hn
      cases hp : p a <;> simp
    · cases hp : p n
      · have e : (a < n + 1 ∧ p a = true) ↔ (a < n ∧ p a = true) := ⟨fun h => ⟨by omega, h.2⟩, fun h => ⟨by omega, h.2⟩⟩
        simp [e]
      · have e : (a < n + 1 ∧ p a = true) ↔ (a < n ∧ p a = true) := ⟨fun h => ⟨by omega, h.2⟩, fun h => ⟨by omega, h.2⟩⟩
        have hc : List.count (a : Int) [(n : Int)] = 0 := by
          rw [List.count_eq_zero]; simp; omega
        simp [e, hc]

end Go.Pl

/-
  Plain: what the search from the first point leaves.
-/
namespace Go.Pl

/-- Each is led to by a later one, or is a child. -/
def Led (G : Graph) (P : Nat → Prop) : List Nat → Prop
  | [] => True
  | x :: v => ((∃ y ∈ v, leadsB G y (x : Int) = true) ∨ P x) ∧ Led G P v
theorem Led.append {G : Graph} {P : Nat → Prop} : ∀ {u v : List Nat}, Led G P u → Led G P v → Led G P (u ++ v)
  | [], _, _, h => h
  | x :: u, v, h, k => by
    refine ⟨?_, Led.append h.2 k⟩
    rcases h.1 with ⟨y, hy, hl⟩ | hp
    · exact .inl ⟨y, by simp [hy], hl⟩
    · exact .inr hp
theorem Led.split {G : Graph} {P : Nat → Prop} : ∀ {u : List Nat} {x : Nat} {v : List Nat}, Led G P (u ++ x :: v) → (∃ y ∈ v, leadsB G y (x : Int) = true) ∨ P x
  | [], _, _, h => h.1
  | _ :: u, _, _, h => Led.split (u := u) h.2
theorem Led.into {G : Graph} {P Q : Nat → Prop} {a : Nat} : ∀ {u : List Nat}, Led G P u → (∀ x, P x → leadsB G a (x : Int) = true) → (Q a) → Led G Q (u ++ [a])
  | [], _, _, hq => ⟨.inr hq, trivial⟩
  | x :: u, h, hp, hq => by
    refine ⟨.inl ?_, Led.into h.2 hp hq⟩
    rcases h.1 with ⟨y, hy, hl⟩ | h1
    · exact ⟨y, by simp [hy], hl⟩
    · exact ⟨a, by simp, hp _ h1⟩

/-- What a search adds. -/
structure Adds (G : Graph) (P : Nat → Prop) (s t : List Bool × List Int) (new : List Nat) : Prop where
  left : t.2 = s.2 ++ new.map fun (k : Nat) => (k : Int)
  len : t.1.length = s.1.length
  marks : ∀ i, t.1.getD i false = (s.1.getD i false || new.contains i)
  nodup : new.Nodup
  fresh : ∀ i ∈ new, i < G.length ∧ s.1.getD i false = false
  close : ∀ i ∈ new, ∀ k : Nat, k < G.length → leadsB G i (k : Int) = true → t.1.getD k false = true
  led : Led G P new
theorem Adds.refl {G : Graph} {P : Nat → Prop} (s : List Bool × List Int) : Adds G P s s [] :=
  ⟨by simp, rfl, by simp, by simp, by simp, by simp, trivial⟩
theorem Adds.trans {G : Graph} {P : Nat → Prop} {s t u : List Bool × List Int} {n1 n2 : List Nat} (h : Adds G P s t n1) (k : Adds G P t u n2) : Adds G P s u (n1 ++ n2) := by
  refine ⟨by rw [k.left, h.left]; simp, k.len.trans h.len, fun i => ?_, ?_, ?_, ?_, h.led.append k.led⟩
  · rw [k.marks, h.marks]; simp [Bool.or_assoc, List.contains_eq_mem]
  · refine List.nodup_append.2 ⟨h.nodup, k.nodup, fun a ha b hb e => ?_⟩
    subst e
    have := (k.fresh a hb).2
    rw [h.marks] at this
    simp [List.contains_eq_mem, ha] at this
  · intro i hi
    rcases List.mem_append.1 hi with hi | hi
    · exact h.fresh i hi
    · have := k.fresh i hi
      refine ⟨this.1, ?_⟩
      have h2 := this.2
      rw [h.marks] at h2
      simp only [Bool.or_eq_false_iff] at h2
      exact h2.1
  · intro i hi k' hk hl
    rcases List.mem_append.1 hi with hi | hi
    · have := h.close i hi k' hk hl
      rw [k.marks, this]; rfl
    · exact k.close i hi k' hk hl

mutual
theorem dn_adds (G : Graph) (P : Nat → Prop) : ∀ (f a : Nat) (s : List Bool × List Int), s.1.length = G.length → a < G.length → s.1.getD a false = false → open' s.1 ≤ f → P a →
    ∃ new, Adds G P s (dn G f a s.1 s.2) (new ++ [a]) ∧ Led G (fun x => leadsB G a (x : Int) = true) new
  | 0, a, s, hlen, ha, hm, ho, _ => by
    have := count_set (M := s.1) (a := a) (by omega) (by simpa [List.getD_eq_getElem?_getD, show a < s.1.length by omega] using hm)
    omega
  | f + 1, a, s, hlen, ha, hm, ho, hp => by
    have hc := count_set (M := s.1) (a := a) (by omega) (by simpa [List.getD_eq_getElem?_getD, show a < s.1.length by omega] using hm)
    obtain ⟨new, hA, hw⟩ := fold_adds G f a (G.getD a []) (s.1.set a true, s.2) (by simpa using hlen) (by simp only; omega) (fun k hk => hk)
    have hna : a ∉ new := fun hin => by
      have := (hA.fresh a hin).2
      rw [getD_set (by omega)] at this
      simp at this
    refine ⟨new, ⟨?_, ?_, ?_, ?_, ?_, ?_, hA.led.into (fun _ h => h) hp⟩, hA.led⟩
    · unfold dn; simp only; rw [hA.left]; simp
    · unfold dn; simp only; rw [hA.len]; simp
    · intro i
      unfold dn
      simp only
      rw [hA.marks, getD_set (by omega)]
      by_cases hi : a = i
      · subst hi; simp
      · have hi' : ¬ i = a := fun e => hi e.symm
        simp [hi, hi', List.contains_eq_mem]
    · exact List.nodup_append.2 ⟨hA.nodup, by simp, fun x hx y hy e => by simp at hy; subst hy; subst e; exact hna hx⟩
    · intro i hi
      rcases List.mem_append.1 hi with hi | hi
      · have := hA.fresh i hi
        refine ⟨this.1, ?_⟩
        have h2 := this.2
        rw [getD_set (by omega)] at h2
        split at h2
        · cases h2
        · exact h2
      · simp at hi; subst hi; exact ⟨ha, hm⟩
    · intro i hi k hk hl
      unfold dn
      simp only
      rcases List.mem_append.1 hi with hi | hi
      · exact hA.close i hi k hk hl
      · simp at hi; subst hi
        have := hw (k : Int) (by simpa [leadsB, List.contains_eq_mem] using hl) (by omega) (by omega)
        simpa using this
termination_by f _ _ _ _ _ _ _ => (f, 0)
theorem fold_adds (G : Graph) (f a : Nat) : ∀ (w : List Int) (s : List Bool × List Int), s.1.length = G.length → open' s.1 ≤ f → (∀ k ∈ w, k ∈ G.getD a []) →
    ∃ new, Adds G (fun x => leadsB G a (x : Int) = true) s (w.foldl (stepDn G.length (dn G f)) s) new ∧ ∀ k ∈ w, 0 ≤ k → k < G.length → (w.foldl (stepDn G.length (dn G f)) s).1.getD k.toNat false = true
  | [], s, _, _, _ => ⟨[], Adds.refl s, by simp⟩
  | k :: w, s, hlen, ho, hw => by
    have one : ∃ n1, Adds G (fun x => leadsB G a (x : Int) = true) s (stepDn G.length (dn G f) s k) n1 ∧ (0 ≤ k → k < G.length → (stepDn G.length (dn G f) s k).1.getD k.toNat false = true) := by
      unfold stepDn
      split
      · rename_i hk
        have hka : leadsB G a ((k.toNat : Nat) : Int) = true := by
          have := hw k (by simp)
          rw [Int.toNat_of_nonneg hk.1]
          simpa [leadsB, List.contains_eq_mem] using this
        obtain ⟨new, hA, _⟩ := dn_adds G (fun x => leadsB G a (x : Int) = true) f k.toNat s hlen (by omega) hk.2.2 ho hka
        refine ⟨_, hA, fun _ _ => ?_⟩
        rw [hA.marks]; simp
      · rename_i hk
        refine ⟨[], Adds.refl s, fun h1 h2 => ?_⟩
        cases hg : s.1.getD k.toNat false with
        | true => rfl
        | false => exact absurd ⟨h1, h2, hg⟩ hk
    obtain ⟨n1, h1, h1k⟩ := one
    have ho2 : open' (stepDn G.length (dn G f) s k).1 ≤ f := by
      have := stepDn_keep (n := G.length) (go := dn G f) Grows Grows.refl (fun _ _ _ => Grows.trans) (fun k s _ _ => dn_grows G f k s) [k] s
      have := this.op
      simp only [List.foldl_cons, List.foldl_nil] at this
      omega
    obtain ⟨n2, h2, h2k⟩ := fold_adds G f a w _ (h1.len.trans hlen) ho2 (fun k hk => hw k (by simp [hk]))
    refine ⟨n1 ++ n2, h1.trans h2, fun j hj hj0 hjn => ?_⟩
    rw [List.foldl_cons]
    rcases List.mem_cons.1 hj with rfl | hj
    · rw [h2.marks, h1k hj0 hjn]; rfl
    · exact h2k j hj hj0 hjn
termination_by w _ _ _ _ => (f, w.length + 1)
end

/-- What the search from the first point leaves. -/
theorem search_says {G : Graph} (hG : 0 < G.length) : ∃ new : List Nat,
    orderOf G = 0 :: (new.map fun (k : Nat) => (k : Int)).reverse ∧ (new ++ [0]).Nodup ∧ (∀ i ∈ new, i < G.length) ∧ (comeOf G).length = G.length ∧
    (∀ i : Nat, (comeOf G).getD i false = (orderOf G).contains (i : Int)) ∧
    (∀ i k : Nat, (comeOf G).getD i false = true → k < G.length → leadsB G i (k : Int) = true → (comeOf G).getD k false = true) ∧ Led G (fun x => leadsB G 0 (x : Int) = true) new := by
  have hne : G ≠ [] := by intro e; rw [e] at hG; simp at hG
  obtain ⟨new, hA, hL⟩ := dn_adds G (fun _ => True) G.length 0 (List.replicate G.length false, []) (by simp) hG (by simp [List.getD_eq_getElem?_getD, List.getElem?_replicate]; split <;> rfl)
    (by unfold open'; simp) trivial
  have es : search G = dn G G.length 0 (List.replicate G.length false) [] := if_neg hne
  have eo : orderOf G = 0 :: (new.map fun (k : Nat) => (k : Int)).reverse := by
    unfold orderOf
    rw [es, hA.left]
    simp
  have hrep : ∀ i, (List.replicate G.length false).getD i false = false := fun i => by
    simp [List.getD_eq_getElem?_getD, List.getElem?_replicate]; split <;> rfl
  have ec : ∀ i : Nat, (comeOf G).getD i false = (orderOf G).contains (i : Int) := fun i => by
    unfold comeOf
    rw [es, hA.marks, hrep, eo]
    simp only [Bool.false_or, List.contains_eq_mem]
    refine decide_eq_decide.2 ?_
    simp
    have e : (∃ a, a ∈ new ∧ (a : Int) = (i : Int)) ↔ i ∈ new := by
      constructor
      · rintro ⟨a, h, e⟩
        have : a = i := by omega
        exact this ▸ h
      · exact fun h => ⟨i, h, rfl⟩
    rw [e]
    constructor
    · rintro (h | h)
      · exact .inr h
      · exact .inl (by omega)
    · rintro (h | h)
      · exact .inr (by omega)
      · exact .inl h
  refine ⟨new, eo, hA.nodup, fun i hi => (hA.fresh i (by simp [hi])).1, by unfold comeOf; rw [es, hA.len]; simp, ec, ?_, hL⟩
  intro i k hi hk hl
  have : i ∈ new ++ [0] := by
    unfold comeOf at hi
    rw [es, hA.marks, hrep] at hi
    simpa [List.contains_eq_mem] using hi
  unfold comeOf
  rw [es]
  exact hA.close i this k hk hl

theorem order_says {G : Graph} (hG : 0 < G.length) :
    (∀ i (hi : i < (orderOf G).length), ∃ x : Nat, (orderOf G)[i] = x ∧ x < G.length ∧ ((orderOf G).take i).contains (x : Int) = false ∧ (i = 0 → x = 0) ∧
      (0 < i → ((orderOf G).take i).any (fun y => leadsB G y.toNat (x : Int)) = true)) := by
  obtain ⟨new, eo, hnd, hlt, _, _, _, hL⟩ := search_says hG
  have hond : (orderOf G).Nodup := by
    rw [eo, ← List.map_reverse, show (0 : Int) = ((0 : Nat) : Int) from rfl, ← List.map_cons (f := fun (k : Nat) => (k : Int))]
    refine List.Pairwise.map _ (R := (· ≠ ·)) (fun a b h e => h (by omega)) ?_
    have : (0 :: new.reverse) = (new ++ [0]).reverse := by simp
    rw [this]
    exact List.pairwise_reverse.2 (hnd.imp fun h e => h e.symm)
  intro i hi
  have hnot : ∀ x : Int, (orderOf G)[i] = x → ((orderOf G).take i).contains x = false := fun x hx => by
    rw [List.contains_eq_mem]
    refine decide_eq_false fun hm => ?_
    obtain ⟨j, hj, e⟩ := List.getElem_of_mem hm
    rw [List.getElem_take] at e
    rw [List.length_take] at hj
    exact List.pairwise_iff_getElem.1 hond j i (by omega) hi (by omega) (e.trans hx.symm)
  cases i with
  | zero =>
    have e0 : (orderOf G)[0] = 0 := by simp [eo]
    exact ⟨0, e0, hG, hnot _ e0, fun _ => rfl, fun h => by omega⟩
  | succ i =>
    have hlen : (orderOf G).length = new.length + 1 := by rw [eo]; simp
    have hir : i < new.reverse.length := by simp; omega
    have hget : ∀ j (hj : j < new.reverse.length), (orderOf G)[j + 1]'(by rw [hlen]; simp at hj; omega) = ((new.reverse[j] : Nat) : Int) := fun j hj => by
      simp only [eo, List.getElem_cons_succ, ← List.map_reverse, List.getElem_map]
    refine ⟨new.reverse[i], hget i hir, hlt _ (List.mem_reverse.1 (List.getElem_mem hir)), hnot _ (hget i hir), fun h => by omega, fun _ => ?_⟩
    have hsp : new = (new.reverse.drop (i + 1)).reverse ++ new.reverse[i] :: (new.reverse.take i).reverse := by
      have gen : ∀ (r : List Nat) (h : i < r.length), r = r.take i ++ r[i] :: r.drop (i + 1) := fun r h => by simp
      have h1 := gen new.reverse hir
      have h2 := congrArg List.reverse h1
      rw [List.reverse_reverse, List.reverse_append, List.reverse_cons, List.append_assoc, List.singleton_append] at h2
      exact h2
    rw [hsp] at hL
    rw [List.any_eq_true]
    rcases hL.split with ⟨y, hy, hl⟩ | hp
    · rw [List.mem_reverse] at hy
      obtain ⟨j, hj, rfl⟩ := List.getElem_of_mem hy
      rw [List.length_take] at hj
      refine ⟨(orderOf G)[j + 1]'(by rw [hlen]; simp at hir; omega), ?_, ?_⟩
      · rw [List.mem_take_iff_getElem]
        exact ⟨j + 1, by omega, rfl⟩
      · rw [hget j (by omega)]
        rw [List.getElem_take] at hl
        simpa using hl
    · refine ⟨(orderOf G)[0], ?_, ?_⟩
      · rw [List.mem_take_iff_getElem]
        exact ⟨0, by omega, rfl⟩
      · simpa [eo] using hp

end Go.Pl
