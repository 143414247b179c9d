/-
  Writing into a row of one's own rows.
-/
import Derived.Test.YtojdbliehgejbaaDoorFwRules
namespace Go.Fw

/-- An element that is away for a while, its cells known. -/
def Elem.raw {α : Type} (E : Elem α) : Elem (α ⊕ List Value) where
  size := E.size
  own xs x h f := match x with
    | .inl x => E.own xs x h f
    | .inr ys => xs = ys ∧ xs.length = E.size ∧ (∀ v ∈ xs, v.oneCell' = true) ∧ f = []
  rd h p x := match x with
    | .inl x => E.rd h p x
    | .inr _ => True
  len := by rintro xs (x | x) h f o; exact E.len o; exact o.2.1
  one := by rintro xs (x | x) h f o; exact E.one o; exact o.2.2.1
  loc := by rintro xs (x | x) h f h' o hb; exact E.loc o hb; exact o
  toRd := by rintro xs (x | x) h f p o hs hc; exact E.toRd o hs hc; exact trivial
  ext := by rintro h h' p (x | x) r e; exact E.ext r e; exact trivial

theorem Row.inl_iff {α : Type} {E : Elem α} : ∀ {l : List α} {vs : List Value} {h : Heap} {f : List Nat}, Row E.raw vs (l.map .inl) h f ↔ Row E vs l h f
  | [], _, _, _ => Iff.rfl
  | x :: l, vs, h, f => by
    simp only [List.map_cons, Row]
    constructor
    · rintro ⟨xs, vs', f1, f2, e1, e2, ho, hr⟩; exact ⟨xs, vs', f1, f2, e1, e2, ho, Row.inl_iff.1 hr⟩
    · rintro ⟨xs, vs', f1, f2, e1, e2, ho, hr⟩; exact ⟨xs, vs', f1, f2, e1, e2, ho, Row.inl_iff.2 hr⟩
theorem ownSl_inl {α : Type} {si : SlI} {E : Elem α} {s : Sl} {l : List α} {h : Heap} {f : List Nat} : ownSl si E.raw s (l.map .inl) h f ↔ ownSl si E s l h f := by
  unfold ownSl
  constructor
  · rintro ⟨h1, vs, f', h2, h3, h4, h5, h6⟩; exact ⟨h1, vs, f', h2, by simpa using h3, by simpa using h4, Row.inl_iff.1 h5, h6⟩
  · rintro ⟨h1, vs, f', h2, h3, h4, h5, h6⟩; exact ⟨h1, vs, f', h2, by simpa using h3, by simpa using h4, Row.inl_iff.2 h5, h6⟩
theorem Sep.raw {α : Type} {si : SlI} {E : Elem α} {h0 h : Heap} {L : List As} {s : Sl} {l : List α} : Sep h0 h (ownSl si E.raw s (l.map .inl) :: L) ↔ Sep h0 h (ownSl si E s l :: L) :=
  ⟨fun S => S.conv loc_ownSl fun f o => ⟨f, List.Sublist.refl f, ownSl_inl.1 o⟩, fun S => S.conv loc_ownSl fun f o => ⟨f, List.Sublist.refl f, ownSl_inl.2 o⟩⟩

theorem Sep.away {α : Type} {si : SlI} {E : Elem α} {h0 h : Heap} {L : List As} {s : Sl} {l : List (α ⊕ List Value)} {i : Nat} {x : α} (S : Sep h0 h (ownSl si E.raw s l :: L)) (hi : i < l.length) (hx : l[i] = .inl x) :
    ∃ xs, (∀ p, At E.size s i p → ∀ j v, xs[j]? = some v → hcell h (p.add j) = some v) ∧ Sep h0 h (ownSl si E.raw s (l.set i (.inr xs)) :: ownEl E xs x :: L) := by
  obtain ⟨f, hsz, us, f', ho, hl, hm, hr, rfl⟩ := S.get
  have key : ∀ f', Row E.raw us l h f' → ∃ f1 f2 f3, f' = f1 ++ f2 ++ f3 ∧ E.own ((us.drop (i * E.size)).take E.size) x h f2 ∧ Row E.raw us (l.set i (.inr ((us.drop (i * E.size)).take E.size))) h (f1 ++ f3) := by
    intro f' hr
    have hsp : l = l.take i ++ l[i] :: l.drop (i + 1) := by simp
    rw [hsp] at hr
    obtain ⟨v1, v2, f1, f2, rfl, rfl, h1, h2⟩ := hr.split
    obtain ⟨ys, v3, f3, f4, rfl, rfl, h3, h4⟩ := h2
    have hv1 : v1.length = i * E.size := by rw [h1.len, List.length_take]; show min i l.length * E.size = _; congr 1; omega
    rw [hx] at h3
    have hys := E.len (x := x) h3
    have e1 : ((v1 ++ (ys ++ v3)).drop (i * E.size)).take E.size = ys := by
      rw [List.drop_left' hv1, List.take_left' hys]
    refine ⟨f1, f3, f4, by simp, by rw [e1]; exact h3, ?_⟩
    rw [e1]
    have : l.set i (.inr ys) = l.take i ++ .inr ys :: l.drop (i + 1) := by rw [List.set_eq_take_append_cons_drop, if_pos hi]
    rw [this]
    have h5 : Row E.raw (ys ++ v3) (.inr ys :: l.drop (i + 1)) h f4 := ⟨ys, v3, [], f4, rfl, rfl, ⟨rfl, hys, E.one (x := x) h3, rfl⟩, h4⟩
    exact h1.append h5
  refine ⟨(us.drop (i * E.size)).take E.size, fun p hat j v hj => ?_, ?_⟩
  · obtain ⟨_, a, ha, rfl⟩ := hat
    have hc := hOwn_cells ho ha
    rw [Addr.add_add _ _ _ hc.1]
    refine hc.2 _ _ ?_
    rw [List.getElem?_take] at hj
    split at hj
    · rwa [List.getElem?_drop] at hj
    · simp at hj
  · refine Sep.step (M := [ownSl si E.raw s l]) (M' := [ownSl si E.raw s (l.set i (.inr _)), ownEl E _ x]) S (fun A hA => ?_) ?_
    · rcases List.mem_cons.1 hA with rfl | hA
      · exact loc_ownSl
      · rw [List.mem_singleton.1 hA]; exact loc_ownEl
    · rintro q ⟨q1, q2, rfl, ⟨_, us', f'', ho2, _, _, hr2, rfl⟩, rfl⟩ hnd hlt
      have := hOwn_det ho ho2
      subst this
      obtain ⟨f1, f2, f3, rfl, hx2, hr3⟩ := key f'' hr2
      simp only [List.append_nil] at hnd hlt ⊢
      refine ⟨(s.blk.toList ++ (f1 ++ f3)) ++ f2, ⟨_, f2, rfl, ⟨hsz, us', _, ho2, by simpa using hl, by simpa using hm, hr3, rfl⟩, ⟨f2, [], (List.append_nil _).symm, hx2, rfl⟩⟩, ?_, Nat.le_refl _, by intros; trivial, ?_⟩
      · refine (List.Perm.nodup_iff ?_).2 hnd
        rw [List.append_assoc]
        refine List.Perm.append_left _ ?_
        rw [List.append_assoc, List.append_assoc]
        exact List.Perm.append_left _ List.perm_append_comm
      · intro b hb
        have hb' : b ∈ s.blk.toList ++ (f1 ++ f2 ++ f3) := by
          rcases List.mem_append.1 hb with h1 | h1
          · rcases List.mem_append.1 h1 with h1 | h1
            · simp [h1]
            · rcases List.mem_append.1 h1 with h1 | h1 <;> simp [h1]
          · simp [h1]
        exact ⟨.inl hb', hlt b hb'⟩

/-- Back again. -/
theorem Sep.back {α : Type} {si : SlI} {E : Elem α} {h0 h : Heap} {L : List As} {s : Sl} {l : List (α ⊕ List Value)} {i : Nat} {x : α} {xs : List Value} (S : Sep h0 h (ownSl si E.raw s l :: ownEl E xs x :: L)) (hi : i < l.length) (hx : l[i] = .inr xs) :
    Sep h0 h (ownSl si E.raw s (l.set i (.inl x)) :: L) := by
  refine Sep.step (M := [ownSl si E.raw s l, ownEl E xs x]) (M' := [ownSl si E.raw s (l.set i (.inl x))]) S (fun A hA => by rw [List.mem_singleton.1 hA]; exact loc_ownSl) ?_
  rintro q ⟨q1, q2, rfl, ⟨hsz, us, f', ho, hl, hm, hr, rfl⟩, q3, q4, rfl, hox, rfl⟩ hnd hlt
  have hsp : l = l.take i ++ l[i] :: l.drop (i + 1) := by simp
  rw [hsp] at hr
  obtain ⟨v1, v2, f1, f2, rfl, rfl, h1, h2⟩ := hr.split
  obtain ⟨ys, v3, f3, f4, rfl, rfl, h3, h4⟩ := h2
  rw [hx] at h3
  obtain ⟨rfl, hys, _, rfl⟩ := h3
  have e : l.set i (.inl x) = l.take i ++ .inl x :: l.drop (i + 1) := by rw [List.set_eq_take_append_cons_drop, if_pos hi]
  have h5 : Row E.raw (ys ++ v3) (.inl x :: l.drop (i + 1)) h (q3 ++ f4) := ⟨ys, v3, q3, f4, rfl, rfl, hox, h4⟩
  have h6 := h1.append h5
  rw [← e] at h6
  simp only [List.append_nil, List.nil_append] at hnd hlt ⊢
  refine ⟨s.blk.toList ++ (f1 ++ (q3 ++ f4)), ⟨_, [], (List.append_nil _).symm, ⟨hsz, _, _, ho, by simpa using hl, by simpa using hm, h6, rfl⟩, rfl⟩, ?_, Nat.le_refl _, by intros; trivial, ?_⟩
  · refine (List.Perm.nodup_iff ?_).2 hnd
    rw [List.append_assoc]
    refine List.Perm.append_left _ ?_
    rw [List.append_assoc]
    exact List.Perm.append_left _ List.perm_append_comm
  · intro b hb
    have hb' : b ∈ s.blk.toList ++ (f1 ++ f4) ++ q3 := by
      simp only [List.mem_append] at hb ⊢
      rcases hb with hb | hb | hb | hb <;> simp [hb]
    exact ⟨.inl hb', hlt b hb'⟩

/-- 'm[i][k] = x', x owning nothing. -/
theorem st_row {α : Type} {si ri : SlI} {E : Elem α} {h0 h : Heap} {L : List As} {s : Sl} {ll : List (List α)} {i k m : Nat} {vs : List Value} {x : α} {K : Heap → Prop}
    (S : Sep h0 h (ownSl si (Elem.sl ri E) s ll :: L)) (hi : i < ll.length) (hk : k < ll[i].length) (hm : m = E.size) (hx : ∀ h, E.own vs x h [])
    (hK : ∀ h', Sep h0 h' (ownSl si (Elem.sl ri E) s (ll.set i (ll[i].set k x)) :: L) → K h') :
    idx 1 s (i : Int) fun p => ld .sl h p fun y => idx m y (k : Int) fun p3 => st vs h p3 K := by
  refine idx_rdN S.rd rfl hi fun p hat _ => ?_
  obtain ⟨xs, hc, S2⟩ := (Sep.raw.2 S).away (i := i) (x := ll[i]) (by simpa using hi) (by simp)
  obtain ⟨y, rfl, S3⟩ := S2.swap.ofEl
  refine ld_one (x := y) ?_ ?_
  · have := hc p hat 0 y.v rfl
    rwa [Addr.add_zero'] at this
  · refine idx_rdN S3.rd hm hk fun p3 hat3 _ => ?_
    subst hm
    refine st_flat S3 hx hat3 rfl hk fun h' S4 => hK h' ?_
    have S5 := S4.toEl.swap.back (i := i) (by simpa using hi) (by simp; rfl)
    refine Sep.raw.1 (S5.cast ?_)
    congr 2
    rw [List.set_set, List.map_set]

end Go.Fw
