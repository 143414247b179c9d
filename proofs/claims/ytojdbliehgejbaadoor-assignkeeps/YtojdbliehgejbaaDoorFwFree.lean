/-
  Rules for statements whose order is open, in which memory is laid.
-/
import Derived.Test.YtojdbliehgejbaaDoorFwBox
import Derived.Test.YtojdbliehgejbaaDoorFwMore
namespace Go.Fw

def ownV {α : Type} (si : SlI) (E : Elem α) (l : List α) (v : Value) : As := fun h f => ∃ s : Sl, v = s.v ∧ ownSl si E s l h f
def Spec.sl {α : Type} (si : SlI) (E : Elem α) (l : List α) : Spec := ⟨fun v => [ownV si E l v], fun v => ∃ s : Sl, v = s.v⟩
def Spec.val (v : Value) : Spec := ⟨fun _ => [], fun u => u = v⟩
theorem loc_ownV {α : Type} {si : SlI} {E : Elem α} {l : List α} {v : Value} : Loc (ownV si E l v) := by
  rintro h h' f ⟨s, e, o⟩ hb
  exact ⟨s, e, o.loc hb⟩
theorem Sep.ofV {α : Type} {si : SlI} {E : Elem α} {h0 h : Heap} {L : List As} {s : Sl} {l : List α} (S : Sep h0 h (ownV si E l s.v :: L)) : Sep h0 h (ownSl si E s l :: L) :=
  S.conv loc_ownSl fun f ⟨s', e, o⟩ => ⟨f, List.Sublist.refl f, by rw [Sl.v_inj e]; exact o⟩
theorem Sep.toV {α : Type} {si : SlI} {E : Elem α} {h0 h : Heap} {L : List As} {s : Sl} {l : List α} (S : Sep h0 h (ownSl si E s l :: L)) : Sep h0 h (ownV si E l s.v :: L) :=
  S.conv loc_ownV fun f o => ⟨f, List.Sublist.refl f, s, rfl, o⟩
theorem ldF_old {k : TK} {hb : Heap} {p : Addr} {K : k.T → Prop} (h : ld k hb p K) : ldF k (Old hb) p K := by
  obtain ⟨x, hx, hK⟩ := h
  exact ⟨x, fun h o => holds_ext o.ext hx, hK⟩
/-- What is laid is told by a rule that keeps what else is owned. -/
theorem free_sl {α : Type} {si : SlI} {E : Elem α} {l : List α} {hb : Heap} {pre : List As} {run : Heap → (Value → Heap → Prop) → Prop} {K : Value → Prop}
    (hrun : ∀ h X, Sep hb h (pre ++ X) → run h fun v h' => ∃ s : Sl, v = s.v ∧ Sep hb h' (ownSl si E s l :: X)) (hm : ∀ {h K K'}, run h K → (∀ v h', K v h' → K' v h') → run h K')
    (hK : ∀ s : Sl, K s.v) : freeW (Old hb) hb (Spec.sl si E l) pre run K :=
  ⟨⟨(⟨none, 0, 0⟩ : Sl).v, _, rfl⟩, fun h X _ S => hm (hrun h X S) fun v h' ⟨s, e, S'⟩ => ⟨S'.old, ⟨s, e⟩, by rw [e]; exact S'.toV⟩, fun v ⟨s, e⟩ => by rw [e]; exact hK s⟩
/-- A call that comes to one answer. -/
theorem free_val {u : Value} {hb : Heap} {run : Heap → (Value → Heap → Prop) → Prop} {K : Value → Prop}
    (hrun : ∀ h, Old hb h → run h fun v h' => v = u ∧ Old h h') (hm : ∀ {h K K'}, run h K → (∀ v h', K v h' → K' v h') → run h K')
    (hK : K u) : freeW (Old hb) hb (Spec.val u) [] run K :=
  ⟨⟨u, rfl⟩, fun h X o S => hm (hrun h o) fun v h' ⟨e, o'⟩ => ⟨o.trans o', e, S.grow o'⟩, fun v e => by rw [e]; exact hK⟩
theorem slc_upto {α : Type} {E : Elem α} {h : Heap} {s : Sl} {l : List α} (r : rdSl E h s l) {n k : Nat} {K : Sl → Prop} (h2 : k ≤ l.length)
    (hK : ∀ s', rdSl E h s' (l.take k) → K s') : slc n s none (some (k : Int)) K := by
  obtain ⟨r1, r2, r3, r5, r6⟩ := r
  refine ⟨by simp, by simp, by simp; omega, hK _ ⟨?_, ?_, ?_, ?_, ?_⟩⟩
  · simp; omega
  · simp; omega
  · simp; omega
  · intro e
    have : s.a = none := by
      simp at e
      split at e
      · exact e
      · simpa using e
    have := r5 this
    simp; omega
  · rcases r6 with r6 | ⟨a, ha, hs, r6⟩
    · left; rw [r6]; simp
    · by_cases hk : k = 0
      · left; subst hk; simp
      · right
        refine ⟨a, ?_, hs, fun i hi => ?_⟩
        · simp [ha, Addr.add_zero']
        · have := r6 i (by simp at hi; omega)
          simpa using this

end Go.Fw

/-
  Calls in statements whose order is open, in which memory is laid.
-/
namespace Go.Fw

theorem Sep.dropLeft {h0 h : Heap} {L M : List As} (S : Sep h0 h (L ++ M)) : Sep h0 h M := Sep.dropLast (S.perm List.perm_append_comm)
/-- A call that lays a slice. -/
theorem fcS {P : Program} {α : Type} {si : SlI} {E : Elem α} {l : List α} {hb : Heap} {pre : List As} {f : FuncId} {args : List Value} {K : Value → Prop}
    (hc : ∀ h X, Old hb h → Sep hb h (pre ++ X) → ACalls P f args h (fun v h' => ∃ s : Sl, v = s.v ∧ Sep hb h' (ownSl si E s l :: X))) (hK : ∀ s : Sl, K s.v) :
    freeW (Old hb) hb (Spec.sl si E l) pre (fun h Kv => ACalls P f args h fun v h' => as1 .sl v fun r => Kv r.v h') K :=
  ⟨⟨(⟨none, 0, 0⟩ : Sl).v, _, rfl⟩, fun h X o S => (hc h X o S).mono fun v h' ⟨s, e, S'⟩ => ⟨s, e, S'.old, ⟨s, rfl⟩, S'.toV⟩, fun v ⟨s, e⟩ => by rw [e]; exact hK s⟩
/-- A call that comes to one answer; what it looks at is let go. -/
theorem fcV {P : Program} {hb : Heap} {pre : List As} {f : FuncId} {args : List Value} {k : TK} {x : k.T} {g : k.T → Value} {K : Value → Prop} (hg : ∀ y, g y = k.val y)
    (hc : ∀ h X, Old hb h → Sep hb h (pre ++ X) → ACalls P f args h (fun v h' => v = k.val x ∧ Old h h')) (hK : K (k.val x)) :
    freeW (Old hb) hb (Spec.val (k.val x)) pre (fun h Kv => ACalls P f args h fun v h' => as1 k v fun r => Kv (g r) h') K :=
  ⟨⟨_, rfl⟩, fun h X o S => (hc h X o S).mono fun v h' ⟨e, o'⟩ => ⟨x, e, o.trans o', hg x, S.dropLeft.grow o'⟩, fun v e => by rw [e]; exact hK⟩

/-- A call that lays a slice, whatever it was given. -/
theorem fcN {P : Program} {α : Type} {si : SlI} {E : Elem α} {l : List α} {hb : Heap} {pre : List As} {f : FuncId} {args : List Value} {K : Value → Prop}
    (hc : ∀ h X, Old hb h → Sep hb h (pre ++ X) → ACalls P f args h (fun v h' => ∃ s : Sl, v = s.v ∧ Sep h h' [ownSl si E s l])) (hK : ∀ s : Sl, K s.v) :
    freeW (Old hb) hb (Spec.sl si E l) pre (fun h Kv => ACalls P f args h fun v h' => as1 .sl v fun r => Kv r.v h') K :=
  fcS (fun h X o S => (hc h X o S).mono fun _ _ ⟨s, e, S'⟩ => ⟨s, e, S.dropLeft.frame S'⟩) hK

/-- A list of one, built. -/
theorem free_bld {α : Type} {si : SlI} {E : Elem α} {x : α} {v : Value} {hb : Heap} {K : Value → Prop} (hsz : si.size = E.size) (hx : ∀ h, E.own v.cells.toList x h []) (hz : si.zero.cells.size = si.size) (hs24 : si.size ≤ 16777216)
    (hK : ∀ s : Sl, K s.v) : freeW (Old hb) hb (Spec.sl si E [x]) [] (fun h Kv => bld si 1 [(0, v)] h fun s h' => Kv s.v h') K :=
  ⟨⟨(⟨none, 0, 0⟩ : Sl).v, _, rfl⟩, fun h X _ S => bld_one (Sep.nil (L := X) S hsz) hx hz hs24 fun s h' S' => ⟨S'.old, ⟨s, rfl⟩, S'.toV⟩, fun v ⟨s, e⟩ => by rw [e]; exact hK s⟩

/-- 'append(s, t...)': t's elements go over. -/
theorem app_own {α : Type} {si : SlI} {E : Elem α} {h0 h : Heap} {L : List As} {s t : Sl} {l l' : List α} {K : Sl → Heap → Prop}
    (S : Sep h0 h (ownSl si E s l :: ownSl si E t l' :: L)) (hb : (l.length + l'.length) * si.bytes ≤ 140737488355328) (hb1 : l.length + l'.length ≤ 140737488355328)
    (hK : ∀ s' h', Sep h0 h' (ownSl si E s' (l ++ l') :: L) → K s' h') : app si s t h K := by
  obtain ⟨f, hsz, vs, f', ho, hl, hm, hrow, rfl⟩ := S.drop.get
  have S2 : Sep h0 h (ownSl si E s l :: ownRow E vs l' :: L) := Sep.swap (S.swap.conv loc_ownRow fun g o => by
    obtain ⟨_, vs2, f2, ho2, _, _, hr2, rfl⟩ := o
    have := hOwn_det ho ho2
    subst this
    exact ⟨f2, List.sublist_append_right _ _, hr2⟩)
  rcases hOwn_iff.1 ho with ⟨h1, h2 | ⟨g, cur, h2, h3, h4, h5, h6, h7⟩⟩
  · subst h2
    have : l' = [] := List.length_eq_zero_iff.1 hl.symm
    subst this
    have : vs = [] := List.length_eq_zero_iff.1 (by simpa using h1)
    subst this
    exact app_rule S2 ⟨by simp, .inl rfl⟩ rfl (by simp) hb hb1 hK
  · refine app_rule S2 ⟨by omega, .inr ⟨_, h2, fun j u hj => (hOwn_cells ho h2).2 j u hj⟩⟩ hl (by rw [h2]; simp) hb hb1 hK
/-- A list of one that owns, built. -/
theorem bld_own {α : Type} {si : SlI} {E : Elem α} {h0 h : Heap} {L : List As} {v : Value} {x : α} {K : Sl → Heap → Prop}
    (S : Sep h0 h (ownEl E v.cells.toList x :: L)) (hsz : si.size = E.size) (hz : si.zero.cells.size = si.size) (hs24 : si.size ≤ 16777216)
    (hK : ∀ s h', Sep h0 h' (ownSl si E s [x] :: L) → K s h') : bld si 1 [(0, v)] h K := by
  obtain ⟨f, ho⟩ := S.get
  have hlen := E.len ho
  have hv : v.cells.size = si.size := by simp at hlen; omega
  have S2 : Sep h0 h (ownRow E v.cells.toList [x] :: L) := S.conv loc_ownRow fun g o => ⟨g, List.Sublist.refl g, v.cells.toList, [], g, [], by simp, by simp, o, rfl, rfl⟩
  refine bld_rule (n := 1) S2 ?_ rfl hsz (by omega) (by decide) hK
  have := fill_one (size := si.size) (z := madeCells si.zero.cells (1 * si.size)) hv (by rw [size_madeCells]; omega)
  simpa using this

/-! Structs' rows by their bare cells -/
/-- Cells, and nothing else. -/
def eCells (n : Nat) (ok : List Value → Prop) : Elem (List Value) where
  size := n
  own xs x _ f := xs = x ∧ f = [] ∧ x.length = n ∧ (∀ v ∈ x, v.oneCell' = true) ∧ ok x
  rd h p x := p.spot = none ∧ ok x ∧ x.length = n ∧ (∀ v ∈ x, v.oneCell' = true) ∧ ∀ j v, x[j]? = some v → hcell h (p.add j) = some v
  len o := by rw [o.1]; exact o.2.2.1
  one o := by rw [o.1]; exact o.2.2.2.1
  loc o _ := o
  toRd o hs hc := ⟨hs, o.2.2.2.2, o.2.2.1, o.2.2.2.1, by rw [← o.1]; exact hc⟩
  ext r e := ⟨r.1, r.2.1, r.2.2.1, r.2.2.2.1, fun j v hj => e _ _ (r.2.2.2.2 j v hj)⟩
/-- What rows own besides their own cells. -/
def partsO {α : Type} (E : Elem α) : List (List Value) → List α → As
  | [], [], _, f => f = []
  | x :: L, a :: X, h, f => ∃ f1 f2, f = f1 ++ f2 ∧ E.own x a h f1 ∧ partsO E L X h f2
  | _, _, _, _ => False
theorem loc_partsO {α : Type} {E : Elem α} : ∀ {L : List (List Value)} {X : List α}, Loc (partsO E L X)
  | [], [], _, _, _, o, _ => o
  | [], _ :: _, _, _, _, o, _ => o.elim
  | _ :: _, [], _, _, _, o, _ => o.elim
  | x :: L, a :: X, _, _, _, o, hb => by
    obtain ⟨f1, f2, rfl, h1, h2⟩ := o
    exact ⟨f1, f2, rfl, E.loc h1 fun b h => hb b (by simp [h]), loc_partsO h2 fun b h => hb b (by simp [h])⟩
theorem row_parts {α : Type} {E : Elem α} {ok : List Value → Prop} (hok : ∀ {x a h f}, E.own x a h f → ok x) : ∀ {X : List α} {vs : List Value} {h : Heap} {f : List Nat}, Row E vs X h f →
    ∃ L, Row (eCells E.size ok) vs L h [] ∧ partsO E L X h f ∧ L.length = X.length
  | [], _, _, _, r => ⟨[], ⟨r.1, rfl⟩, r.2, rfl⟩
  | a :: X, _, _, _, r => by
    obtain ⟨x, vs', f1, f2, rfl, rfl, ho, hr⟩ := r
    obtain ⟨L, h1, h2, h3⟩ := row_parts hok hr
    exact ⟨x :: L, ⟨x, vs', [], [], rfl, rfl, ⟨rfl, rfl, E.len ho, E.one ho, hok ho⟩, h1⟩, ⟨f1, f2, rfl, ho, h2⟩, by simp [h3]⟩
theorem parts_row {α : Type} {E : Elem α} {ok : List Value → Prop} : ∀ {L : List (List Value)} {X : List α} {vs : List Value} {h : Heap} {f g : List Nat}, Row (eCells E.size ok) vs L h f → partsO E L X h g → f = [] ∧ Row E vs X h g ∧ L.length = X.length
  | [], [], _, _, _, _, r, p => ⟨r.2, ⟨r.1, p⟩, rfl⟩
  | [], _ :: _, _, _, _, _, _, p => p.elim
  | _ :: _, [], _, _, _, _, _, p => p.elim
  | x :: L, a :: X, _, _, _, _, r, p => by
    obtain ⟨x', vs', f1, f2, rfl, rfl, ⟨rfl, rfl, _, _, _⟩, hr⟩ := r
    obtain ⟨g1, g2, rfl, h1, h2⟩ := p
    obtain ⟨rfl, q2, q3⟩ := parts_row hr h2
    exact ⟨rfl, ⟨x', vs', g1, g2, rfl, rfl, h1, q2⟩, by simp [q3]⟩
/-- A list that owns: its cells, and what they own, apart. -/
theorem Sep.cells {α : Type} {si : SlI} {E : Elem α} {h0 h : Heap} {M : List As} {s : Sl} {X : List α} {ok : List Value → Prop} (hok : ∀ {x a h f}, E.own x a h f → ok x) (S : Sep h0 h (ownSl si E s X :: M)) :
    ∃ L, Sep h0 h (ownSl si (eCells E.size ok) s L :: partsO E L X :: M) ∧ L.length = X.length := by
  obtain ⟨f, ⟨f1, f2, rfl, ⟨hsz, vs, f', ho, hl, hm, hr, rfl⟩, ho2⟩, hn, hb⟩ := S.owns
  obtain ⟨L, q1, q2, q3⟩ := row_parts hok hr
  refine ⟨L, ⟨S.old, fun A hA => ?_, s.blk.toList ++ (f' ++ f2), ⟨s.blk.toList, f' ++ f2, rfl, ⟨hsz, vs, [], ho, by rw [hl, q3], by omega, q1, by simp⟩, f', f2, rfl, q2, ho2⟩, ?_, ?_⟩, q3⟩
  · rcases List.mem_cons.1 hA with rfl | hA
    · exact loc_ownSl
    · rcases List.mem_cons.1 hA with rfl | hA
      · exact loc_partsO
      · exact S.all A (by simp [hA])
  · rw [List.append_assoc] at hn; exact hn
  · rw [List.append_assoc] at hb; exact hb
/-- .. and together again, maybe in another list. -/
theorem Sep.whole {α : Type} {si : SlI} {E : Elem α} {h0 h : Heap} {M : List As} {s : Sl} {L : List (List Value)} {X : List α} {ok : List Value → Prop} (S : Sep h0 h (ownSl si (eCells E.size ok) s L :: partsO E L X :: M)) : Sep h0 h (ownSl si E s X :: M) :=
  S.two loc_ownSl fun f g h1 h2 => by
    obtain ⟨hsz, vs, f', ho, hl, hm, hr, rfl⟩ := h1
    obtain ⟨rfl, q2, q3⟩ := parts_row hr h2
    exact ⟨hsz, vs, g, ho, by rw [hl, q3], by omega, q2, by simp⟩

end Go.Fw
