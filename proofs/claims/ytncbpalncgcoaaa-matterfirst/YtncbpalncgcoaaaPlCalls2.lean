/-
  Plain: a step that is looked at; a point that is left.
-/
import Derived.Test.YtncbpalncgcoaaaPlCalls
namespace Go.Pl
variable {G : Graph}

theorem TI.top_notin {T : TS} (t : TI G T) {v i : Nat} {r : List (Nat × Nat)} (h : T.st = (v, i) :: r) : v ∉ pth r := fun hm => by
  have := t.path
  rw [h] at this
  exact absurd (List.pairwise_cons.1 this |>.1 v hm).1 (Nat.lt_irrefl _)

/-- A step is looked at that leads to what isn't new. -/
theorem TI.look {T : TS} (t : TI G T) {v i : Nat} {r : List (Nat × Nat)} {u0 : Int} {l' : Nat} {b' : Bool} (hst : T.st = (v, i) :: r) (hu : (G.getD v [])[i]? = some u0)
    (hseen : ∀ u : Nat, u0 = u → u < G.length → T.rank u ≠ 0) (hl1 : l' = T.low v ∨ (l' ≤ T.low v ∧ ∃ u : Nat, u0 = u ∧ u ∈ T.O ∧ l' = T.rank u)) (hl2 : ∀ u : Nat, u0 = u → u ∈ T.O → l' ≤ T.rank u)
    (hb : b' = true ↔ (T.rnd v = true ∨ u0 = (v : Int))) :
    TI G ⟨T.rank, upF T.low v l', T.part, upF T.rnd v b', T.O, (v, i + 1) :: r, T.m⟩ := by
  have hvr := t.top_notin hst
  have hps : pth ((v, i + 1) :: r) = pth T.st := by rw [hst]; rfl
  have hvO : v ∈ T.O := t.onp v (by rw [hst]; simp)
  have hex : ∀ w u, Ex G ((v, i + 1) :: r) w u ↔ Ex G T.st w u ∨ (w = v ∧ u0 = (u : Int)) := fun w u => by rw [hst]; exact ex_adv hvr hu w u
  have hlle : l' ≤ T.low v := hl1.elim (fun h => by omega) fun h => h.1
  have hlow : ∀ p, upF T.low v l' p ≤ T.low p := fun p => by
    unfold upF; split
    · rename_i e; subst e; exact hlle
    · exact Nat.le_refl _
  refine ⟨t.vis, t.inj, t.op, t.sorted, ?_, ?_, ?_, t.clos, ?_, ?_, ?_, ?_, ?_, ?_⟩
  · show (pth ((v, i + 1) :: r)).Pairwise _
    rw [hps]; exact t.path
  · intro p hp
    have hp : p ∈ pth ((v, i + 1) :: r) := hp
    rw [hps] at hp; exact t.onp p hp
  · intro w hw
    show ∃ p, Seg T.rank (pth ((v, i + 1) :: r)) w p ∧ _
    rw [hps]; exact t.seg w hw
  · intro w u hw hun he
    rcases (hex w u).1 he with h | ⟨rfl, h⟩
    · exact t.expl w u hw hun h
    · exact hseen u h hun
  · intro p hp
    have hp : p ∈ pth ((v, i + 1) :: r) := hp
    rw [hps] at hp
    obtain ⟨h1, u, h2, h3, h4⟩ := t.low1 p hp
    show upF T.low v l' p ≤ T.rank p ∧ ∃ u ∈ T.O, T.rank u = upF T.low v l' p ∧ _
    by_cases e : p = v
    · subst e
      rw [upF_same]
      refine ⟨Nat.le_trans hlle h1, ?_⟩
      rcases hl1 with e | ⟨_, u', e1, e2, e3⟩
      · rw [e]; exact ⟨u, h2, h3, h4⟩
      · refine ⟨u', e2, e3.symm, Ch.one ?_ ((t.vis u' ((t.op u').1 e2).1).1)⟩
        unfold leadsB
        rw [List.contains_eq_mem, ← e1]
        exact decide_eq_true (List.mem_of_getElem? hu)
    · rw [upF_ne e]; exact ⟨h1, u, h2, h3, h4⟩
  · intro w u p hw hu' he hs
    have hs2 : Seg T.rank (pth T.st) w p := by rw [← hps]; exact hs
    clear hs
    show upF T.low v l' p ≤ T.rank u
    rcases (hex w u).1 he with h | ⟨rfl, h⟩
    · have := t.low2 w u p hw hu' h hs2
      have := hlow p
      omega
    · have hpw : p = w := by
        have h1 := hs2.2.2 w (by rw [hst]; simp) (Nat.le_refl _)
        have h2 := hs2.2.1
        exact t.inj p w ((t.op p).1 (t.onp p hs2.1)).1 (by omega)
      subst hpw
      rw [upF_same]
      exact hl2 u h hu'
  · intro w hw
    show upF T.rnd v b' w = true ↔ Ex G ((v, i + 1) :: r) w w
    rw [hex w w]
    by_cases e : w = v
    · subst e
      rw [upF_same, hb, t.rnd w hw]
      exact or_congr_right ⟨fun h => ⟨rfl, h⟩, fun h => h.2⟩
    · rw [upF_ne e, t.rnd w hw]
      exact ⟨.inl, fun h => h.resolve_right fun h => e h.1⟩
  · intro w hw hp
    show _ ∧ (upF T.rnd v b' w = true ↔ _)
    have e : w ≠ v := fun e => by
      subst e
      have h := ((t.op w).1 hvO).2
      have hp : 0 ≤ T.part w := hp
      omega
    rw [upF_ne e]; exact t.good w hw hp
  · intro w hw
    show _ ∧ upF T.rnd v b' w = false
    have e : w ≠ v := fun e => by subst e; exact ((t.op w).1 hvO).1 hw
    rw [upF_ne e]; exact t.zero w hw

/-- The top point is done, and one can come back further. -/
theorem TI.back {T : TS} (t : TI G T) {k i : Nat} {r : List (Nat × Nat)} (hst : T.st = (k, i) :: r) (hi : (G.getD k []).length ≤ i) (hne : T.low k ≠ T.rank k) :
    ∃ v j r', r = (v, j) :: r' ∧ TI G ⟨T.rank, upF T.low v (min (T.low v) (T.low k)), T.part, T.rnd, T.O, r, T.m⟩ := by
  have hkp : k ∈ pth T.st := by rw [hst]; simp
  have hpath := t.path
  rw [hst] at hpath
  have hpath : (k :: pth r).Pairwise fun a b => T.rank b < T.rank a ∧ Ch G b a := hpath
  obtain ⟨htop, hpr⟩ := List.pairwise_cons.1 hpath
  have hps : pth T.st = k :: pth r := by rw [hst]; rfl
  obtain ⟨hlk, u, huO, hur, hku⟩ := t.low1 k hkp
  obtain ⟨p, hsp, hpu, hup⟩ := t.seg u huO
  have hpr' : p ∈ pth r := by
    have := hsp.1
    rw [hps] at this
    refine (List.mem_cons.1 this).resolve_left fun e => ?_
    subst e
    have := hsp.2.1
    omega
  cases hr : r with
  | nil => rw [hr] at hpr'; cases hpr'
  | cons x r' =>
    obtain ⟨v, j⟩ := x
    refine ⟨v, j, r', rfl, ?_⟩
    rw [← hr]
    have hvr : v ∈ pth r := by rw [hr]; simp
    have hvk := htop v hvr
    -- the new top is reached from each of the rest
    have hrv : ∀ q ∈ pth r, Ch G q v ∧ T.rank q ≤ T.rank v := fun q hq => by
      rw [hr] at hq hpr
      rcases List.mem_cons.1 (show q ∈ v :: pth r' from hq) with rfl | hq
      · exact ⟨.refl, Nat.le_refl _⟩
      · have := (List.pairwise_cons.1 (show (v :: pth r').Pairwise _ from hpr)).1 q hq
        exact ⟨this.2, by omega⟩
    have hkv : Ch G k v := hku.trans (hup.trans (hrv p hpr').1)
    have segR : ∀ w ∈ T.O, ∀ q, Seg T.rank (pth T.st) w q → (q ≠ k → Seg T.rank (pth r) w q) ∧ (q = k → Seg T.rank (pth r) w v) := fun w _ q hq => by
      obtain ⟨h1, h2, h3⟩ := hq
      rw [hps] at h1 h3
      refine ⟨fun e => ⟨(List.mem_cons.1 h1).resolve_left e, h2, fun z hz hzw => h3 z (List.mem_cons_of_mem _ hz) hzw⟩, fun e => ?_⟩
      subst e
      exact ⟨hvr, by have := hvk.1; omega, fun z hz _ => (hrv z hz).2⟩
    have segInv : ∀ w ∈ T.O, ∀ q, Seg T.rank (pth r) w q → Seg T.rank (pth T.st) w q ∨ (q = v ∧ Seg T.rank (pth T.st) w k) := fun w hw q hq => by
      obtain ⟨h1, h2, h3⟩ := hq
      by_cases e : T.rank k ≤ T.rank w
      · right
        refine ⟨?_, hkp, e, fun z hz hzw => ?_⟩
        · have h4 := h3 v hvr (by have := hvk.1; omega)
          have h5 := (hrv q h1).2
          exact t.inj q v ((t.op q).1 (t.onp q (by rw [hps]; exact List.mem_cons_of_mem _ h1))).1 (by omega)
        · rw [hps] at hz
          rcases List.mem_cons.1 hz with rfl | hz
          · exact Nat.le_refl _
          · have := (htop z hz).1; omega
      · left
        refine ⟨by rw [hps]; exact List.mem_cons_of_mem _ h1, h2, fun z hz hzw => ?_⟩
        rw [hps] at hz
        rcases List.mem_cons.1 hz with rfl | hz
        · exact absurd hzw e
        · exact h3 z hz hzw
    have hex : ∀ w u, Ex G r w u ↔ Ex G T.st w u := fun w u => by rw [hst]; exact (ex_pop hi w u).symm
    refine ⟨t.vis, t.inj, t.op, t.sorted, hpr, fun q hq => t.onp q (by rw [hps]; exact List.mem_cons_of_mem _ hq), ?_, t.clos, fun w z hw hz he => t.expl w z hw hz ((hex w z).1 he), ?_, ?_, fun w hw => (t.rnd w hw).trans (hex w w).symm, t.good, t.zero⟩
    · intro w hw
      obtain ⟨q, hq, h1, h2⟩ := t.seg w hw
      by_cases e : q = k
      · subst e
        exact ⟨v, (segR w hw q hq).2 rfl, hvk.2.trans h1, h2.trans hkv⟩
      · exact ⟨q, (segR w hw q hq).1 e, h1, h2⟩
    · intro q hq
      have hq : q ∈ pth r := hq
      obtain ⟨h1, z, h2, h3, h4⟩ := t.low1 q (by rw [hps]; exact List.mem_cons_of_mem _ hq)
      show upF T.low v _ q ≤ T.rank q ∧ ∃ z ∈ T.O, T.rank z = upF T.low v _ q ∧ _
      by_cases e : q = v
      · subst e
        rw [upF_same]
        refine ⟨by omega, ?_⟩
        rcases Nat.le_total (T.low q) (T.low k) with h | h
        · rw [Nat.min_eq_left h]; exact ⟨z, h2, h3, h4⟩
        · rw [Nat.min_eq_right h]; exact ⟨u, huO, hur, hvk.2.trans hku⟩
      · rw [upF_ne e]; exact ⟨h1, z, h2, h3, h4⟩
    · intro w z q hw hz he0 hs
      have he := (hex w z).1 he0
      clear he0
      show upF T.low v _ q ≤ T.rank z
      rcases segInv w hw q hs with h | ⟨rfl, h⟩
      · have h5 := t.low2 w z q hw hz he h
        unfold upF; split
        · rename_i e; subst e; exact Nat.le_trans (Nat.min_le_left _ _) h5
        · exact h5
      · have h5 := t.low2 w z k hw hz he h
        rw [upF_same]
        exact Nat.le_trans (Nat.min_le_right _ _) h5

/-- Which ones are a part. -/
def cut (rank : Nat → Nat) (k : Nat) (O : List Nat) : List Nat := O.filter fun x => decide (rank k ≤ rank x)
theorem TI.cutSplit {T : TS} (t : TI G T) {k : Nat} (hk : k ∈ T.O) : T.O = (T.O.filter fun x => decide (T.rank x < T.rank k)) ++ cut T.rank k T.O ∧ ∃ l, cut T.rank k T.O = k :: l := by
  have key : ∀ l : List Nat, l.Pairwise (fun a b => T.rank a < T.rank b) → l = (l.filter fun x => decide (T.rank x < T.rank k)) ++ l.filter fun x => decide (T.rank k ≤ T.rank x) := by
    intro l
    induction l with
    | nil => intro _; rfl
    | cons a l ih =>
      intro h
      obtain ⟨h1, h2⟩ := List.pairwise_cons.1 h
      by_cases e : T.rank a < T.rank k
      · rw [List.filter_cons_of_pos (by simpa using e), List.filter_cons_of_neg (by simp; omega), List.cons_append, ← ih h2]
      · have hall : l.filter (fun x => decide (T.rank x < T.rank k)) = [] := List.filter_eq_nil_iff.2 fun x hx => by have := h1 x hx; simp; omega
        have hall2 : l.filter (fun x => decide (T.rank k ≤ T.rank x)) = l := List.filter_eq_self.2 fun x hx => by have := h1 x hx; simp; omega
        rw [List.filter_cons_of_neg (by simpa using e), List.filter_cons_of_pos (by simp; omega), hall, hall2, List.nil_append]
  refine ⟨key T.O t.sorted, ?_⟩
  have hmem : k ∈ cut T.rank k T.O := List.mem_filter.2 ⟨hk, by simp⟩
  cases hc : cut T.rank k T.O with
  | nil => rw [hc] at hmem; cases hmem
  | cons a l =>
    have hpw : (cut T.rank k T.O).Pairwise fun a b => T.rank a < T.rank b := t.sorted.filter _
    rw [hc] at hmem hpw
    rcases List.mem_cons.1 hmem with rfl | h
    · exact ⟨l, rfl⟩
    · have h1 := (List.pairwise_cons.1 hpw).1 k h
      have h2 : a ∈ cut T.rank k T.O := by rw [hc]; simp
      have := of_decide_eq_true (List.mem_filter.1 h2).2
      omega

/-- The top point is done, and a part is. -/
theorem TI.done {T : TS} (t : TI G T) {k i : Nat} {r : List (Nat × Nat)} {c : Nat} {part' : Nat → Int} {rnd' : Nat → Bool} (hst : T.st = (k, i) :: r) (hi : (G.getD k []).length ≤ i) (hlow : T.low k = T.rank k)
    (hc : c ∈ cut T.rank k T.O) (hmin : ∀ x ∈ cut T.rank k T.O, c ≤ x)
    (hpart : ∀ v, part' v = if v ∈ cut T.rank k T.O then (c : Int) else T.part v) (hrnd : ∀ v, rnd' v = true ↔ T.rnd v = true ∨ (v ∈ cut T.rank k T.O ∧ 1 < (cut T.rank k T.O).length)) :
    TI G ⟨T.rank, T.low, part', rnd', T.O.filter fun x => decide (T.rank x < T.rank k), r, T.m⟩ := by
  have hkp : k ∈ pth T.st := by rw [hst]; simp
  have hkO := t.onp k hkp
  have hps : pth T.st = k :: pth r := by rw [hst]; rfl
  have hpath := t.path
  rw [hps] at hpath
  obtain ⟨htop, hpr⟩ := List.pairwise_cons.1 hpath
  have hin : ∀ x, x ∈ cut T.rank k T.O ↔ x ∈ T.O ∧ T.rank k ≤ T.rank x := fun x => by unfold cut; rw [List.mem_filter, decide_eq_true_eq]
  have hO' : ∀ x, x ∈ (T.O.filter fun x => decide (T.rank x < T.rank k)) ↔ x ∈ T.O ∧ T.rank x < T.rank k := fun x => by rw [List.mem_filter, decide_eq_true_eq]
  have hex : ∀ w u, Ex G r w u ↔ Ex G T.st w u := fun w u => by rw [hst]; exact (ex_pop hi w u).symm
  -- all of them stand behind the top
  have segK : ∀ x, x ∈ cut T.rank k T.O → Seg T.rank (pth T.st) x k := fun x hx => by
    refine ⟨hkp, ((hin x).1 hx).2, fun q hq _ => ?_⟩
    rw [hps] at hq
    rcases List.mem_cons.1 hq with rfl | hq
    · exact Nat.le_refl _
    · have := (htop q hq).1; omega
  have segU : ∀ x q q', Seg T.rank (pth T.st) x q → Seg T.rank (pth T.st) x q' → q = q' := fun x q q' h h' => by
    have h1 := h.2.2 q' h'.1 h'.2.1
    have h2 := h'.2.2 q h.1 h.2.1
    exact t.inj q q' ((t.op q).1 (t.onp q h.1)).1 (by omega)
  have mutK : ∀ x, x ∈ cut T.rank k T.O → Ch G k x ∧ Ch G x k := fun x hx => by
    obtain ⟨q, hq, h1, h2⟩ := t.seg x ((hin x).1 hx).1
    have := segU x q k hq (segK x hx)
    subst this
    exact ⟨h1, h2⟩
  -- each of their steps was looked at
  have full : ∀ x, x ∈ cut T.rank k T.O → ∀ u : Nat, leadsB G x (u : Int) = true → Ex G r x u := fun x hx u hl => by
    unfold leadsB at hl
    rw [List.contains_eq_mem] at hl
    obtain ⟨j, hj, e⟩ := List.getElem_of_mem (of_decide_eq_true hl)
    refine ⟨j, by rw [List.getElem?_eq_getElem hj, e], fun i' hi' => ?_⟩
    exfalso
    have hxr := pth_mem hi'
    have := (htop x hxr).1
    have := ((hin x).1 hx).2
    omega
  -- what they lead to is a part, or theirs
  have next : ∀ x, x ∈ cut T.rank k T.O → ∀ u : Nat, leadsB G x (u : Int) = true → u < G.length → T.rank u ≠ 0 ∧ (0 ≤ T.part u ∨ u ∈ cut T.rank k T.O) := fun x hx u hl hu => by
    have he := (hex x u).1 (full x hx u hl)
    have hxO := ((hin x).1 hx).1
    have hru := t.expl x u ((t.op x).1 hxO).1 hu he
    refine ⟨hru, ?_⟩
    by_cases hp : 0 ≤ T.part u
    · exact .inl hp
    · right
      have huO : u ∈ T.O := (t.op u).2 ⟨hru, by omega⟩
      have := t.low2 x u k hxO huO he (segK x hx)
      exact (hin u).2 ⟨huO, by omega⟩
  have allDone : ∀ x y, T.rank x ≠ 0 → 0 ≤ T.part x → Ch G x y → 0 ≤ T.part y ∧ T.rank y ≠ 0 := fun x y hx hp h => by
    induction h with
    | refl => exact ⟨hp, hx⟩
    | @step u w _ hl hw ih =>
      have := t.clos u w ih.2 ih.1 hl hw
      exact ⟨this.2, this.1⟩
  have stay : ∀ x y, x ∈ cut T.rank k T.O → Ch G x y → (0 ≤ T.part y ∧ T.rank y ≠ 0) ∨ y ∈ cut T.rank k T.O := fun x y hx h => by
    induction h with
    | refl => exact .inr hx
    | @step u w _ hl hw ih =>
      rcases ih with ⟨h1, h2⟩ | h1
      · have := t.clos u w h2 h1 hl hw
        exact .inl ⟨this.2, this.1⟩
      · obtain ⟨h2, h3⟩ := next u h1 w hl hw
        exact h3.imp (fun h => ⟨h, h2⟩) id
  have partNeg : ∀ x, x ∈ cut T.rank k T.O → T.part x < 0 := fun x hx => ((t.op x).1 ((hin x).1 hx).1).2
  have mutIn : ∀ x y, x ∈ cut T.rank k T.O → Ch G x y → Ch G y x → y ∈ cut T.rank k T.O := fun x y hx h1 h2 => by
    rcases stay x y hx h1 with ⟨h3, h4⟩ | h3
    · have := (allDone y x h4 h3 h2).1
      have := partNeg x hx
      omega
    · exact h3
  have pin : ∀ v, v ∈ cut T.rank k T.O → part' v = (c : Int) := fun v hv => by rw [hpart, if_pos hv]
  have pout : ∀ v, v ∉ cut T.rank k T.O → part' v = T.part v := fun v hv => by rw [hpart, if_neg hv]
  have rout : ∀ v, v ∉ cut T.rank k T.O → rnd' v = T.rnd v := fun v hv => by
    have h := hrnd v
    cases e : T.rnd v with
    | true => exact h.2 (.inl e)
    | false =>
      cases e2 : rnd' v with
      | false => rfl
      | true =>
        rcases h.1 e2 with h | h
        · rw [e] at h; cases h
        · exact absurd h.1 hv
  have rlow : ∀ q ∈ pth r, T.rank q < T.rank k := fun q hq => (htop q hq).1
  have segR : ∀ w, T.rank w < T.rank k → ∀ q, Seg T.rank (pth T.st) w q ↔ Seg T.rank (pth r) w q := fun w hw q => by
    unfold Seg
    rw [hps]
    constructor
    · rintro ⟨h1, h2, h3⟩
      refine ⟨(List.mem_cons.1 h1).resolve_left fun e => by subst e; omega, h2, fun z hz => h3 z (List.mem_cons_of_mem _ hz)⟩
    · rintro ⟨h1, h2, h3⟩
      refine ⟨List.mem_cons_of_mem _ h1, h2, fun z hz hzw => ?_⟩
      rcases List.mem_cons.1 hz with rfl | hz
      · omega
      · exact h3 z hz hzw
  refine ⟨t.vis, t.inj, ?_, t.sorted.filter _, hpr, ?_, ?_, ?_, fun w z hw hz he => t.expl w z hw hz ((hex w z).1 he), ?_, ?_, ?_, ?_, ?_⟩
  · intro v
    show v ∈ T.O.filter _ ↔ T.rank v ≠ 0 ∧ part' v < 0
    rw [hO']
    by_cases hv : v ∈ cut T.rank k T.O
    · rw [pin v hv]
      exact ⟨fun h => absurd ((hin v).1 hv).2 (by omega), fun h => absurd h.2 (by omega)⟩
    · rw [pout v hv, ← t.op v]
      refine ⟨fun h => h.1, fun h => ⟨h, ?_⟩⟩
      rcases Nat.lt_or_ge (T.rank v) (T.rank k) with h' | h'
      · exact h'
      · exact absurd ((hin v).2 ⟨h, h'⟩) hv
  · intro q hq
    exact (hO' q).2 ⟨t.onp q (by rw [hps]; exact List.mem_cons_of_mem _ hq), rlow q hq⟩
  · intro w hw
    obtain ⟨h1, h2⟩ := (hO' w).1 hw
    obtain ⟨q, hq, h3, h4⟩ := t.seg w h1
    exact ⟨q, (segR w h2 q).1 hq, h3, h4⟩
  · intro v u hv hp hl hu
    show T.rank u ≠ 0 ∧ 0 ≤ part' u
    have hu' : ∀ u, 0 ≤ T.part u ∨ u ∈ cut T.rank k T.O → 0 ≤ part' u := fun u h => by
      by_cases hc' : u ∈ cut T.rank k T.O
      · rw [pin u hc']; omega
      · rw [pout u hc']; exact h.resolve_right hc'
    by_cases hc' : v ∈ cut T.rank k T.O
    · obtain ⟨h1, h2⟩ := next v hc' u hl hu
      exact ⟨h1, hu' u h2⟩
    · have hp : 0 ≤ part' v := hp
      rw [pout v hc'] at hp
      obtain ⟨h1, h2⟩ := t.clos v u hv hp hl hu
      exact ⟨h1, hu' u (.inl h2)⟩
  · intro q hq
    obtain ⟨h1, u, h2, h3, h4⟩ := t.low1 q (by rw [hps]; exact List.mem_cons_of_mem _ hq)
    have := rlow q hq
    exact ⟨h1, u, (hO' u).2 ⟨h2, by omega⟩, h3, h4⟩
  · intro w z q hw hz he hs
    obtain ⟨h1, h2⟩ := (hO' w).1 hw
    exact t.low2 w z q h1 ((hO' z).1 hz).1 ((hex w z).1 he) ((segR w h2 q).2 hs)
  · intro w hw
    obtain ⟨h1, h2⟩ := (hO' w).1 hw
    show rnd' w = true ↔ Ex G r w w
    rw [rout w fun h => by have := ((hin w).1 h).2; omega, t.rnd w h1, hex]
  · intro v hv hp
    show (∃ d : Nat, part' v = d ∧ _ ∧ _) ∧ (rnd' v = true ↔ _)
    by_cases hc' : v ∈ cut T.rank k T.O
    · refine ⟨⟨c, pin v hc', ⟨(mutK v hc').2.trans (mutK c hc).1, (mutK c hc).2.trans (mutK v hc').1⟩, fun d hd => hmin d (mutIn v d hc' hd.1 hd.2)⟩, ?_⟩
      rw [hrnd v, t.rnd v ((hin v).1 hc').1]
      constructor
      · rintro (h | ⟨_, h⟩)
        · exact ⟨v, h.lead, (t.vis v hv).1, .refl⟩
        · obtain ⟨y, hy, hyv⟩ : ∃ y, y ∈ cut T.rank k T.O ∧ y ≠ v := by
            have hnd : (cut T.rank k T.O).Pairwise fun a b => T.rank a < T.rank b := t.sorted.filter _
            match hcc : cut T.rank k T.O, h with
            | a :: b :: l, _ =>
              rw [hcc] at hnd
              have hab := (List.pairwise_cons.1 hnd).1 b (by simp)
              by_cases e : a = v
              · exact ⟨b, by simp, fun e2 => by rw [e, e2] at hab; omega⟩
              · exact ⟨a, by simp, e⟩
          have h1 := (mutK v hc').2.trans (mutK y hy).1
          have h2 := (mutK y hy).2.trans (mutK v hc').1
          obtain ⟨z, hz1, hz2, hz3⟩ := h1.first (Ne.symm hyv)
          exact ⟨z, hz1, hz2, hz3.trans h2⟩
      · rintro ⟨y, hl, hy, hyv⟩
        have hyc := mutIn v y hc' (Ch.one hl hy) hyv
        by_cases e : y = v
        · subst e
          exact .inl ((hex y y).1 (full y hc' y hl))
        · right
          refine ⟨hc', ?_⟩
          match hcc : cut T.rank k T.O with
          | [] => rw [hcc] at hc'; cases hc'
          | [a] =>
            rw [hcc] at hc' hyc
            rw [List.mem_singleton.1 hc', List.mem_singleton.1 hyc] at e
            exact absurd rfl e
          | a :: b :: l => simp
    · have hp : 0 ≤ part' v := hp
      rw [pout v hc'] at hp
      rw [pout v hc', rout v hc']
      exact t.good v hv hp
  · intro v hv
    show part' v < 0 ∧ rnd' v = false
    have hc' : v ∉ cut T.rank k T.O := fun h => ((t.op v).1 ((hin v).1 h).1).1 hv
    rw [pout v hc', rout v hc']
    exact t.zero v hv

end Go.Pl
