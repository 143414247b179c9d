/-
  What values read as, what a call owns, and the rules for the layer's words.
-/
import Derived.Test.YtojdbliehgejbaaDoorFwSound
namespace Go.Fw

theorem Addr.add_none (b o n : Nat) : (⟨b, o, none⟩ : Addr).add n = ⟨b, o + n, none⟩ := by
  unfold Addr.add; split <;> simp_all
theorem Addr.add_add (p : Addr) (n m : Nat) (h : p.spot = none) : (p.add n).add m = p.add (n + m) := by
  obtain ⟨b, o, s⟩ := p
  simp only at h
  subst h
  simp [Addr.add_none, Nat.add_assoc]
theorem Addr.add_zero' (p : Addr) : p.add 0 = p := by simp [Addr.add]

/-! ### Small rules -/

theorem ifB_intro {b : Bool} {t e : Prop} (h1 : b = true → t) (h2 : b = false → e) : ifB b t e := by
  cases b
  · exact h2 rfl
  · exact h1 rfl
theorem ifB_true {b : Bool} {t e : Prop} (h : b = true) (h1 : t) : ifB b t e := by subst h; exact h1
theorem ifB_false {b : Bool} {t e : Prop} (h : b = false) (h1 : e) : ifB b t e := by subst h; exact h1
theorem InK_i64 {n : Int} (h1 : -9223372036854775808 ≤ n) (h2 : n ≤ 9223372036854775807) : InK .i64 n := by
  unfold InK
  rw [IntKind.wrap_i64]
  omega
theorem ar_i64 {n : Int} {K : Int → Prop} (h1 : -9223372036854775808 ≤ n) (h2 : n ≤ 9223372036854775807) (h : K n) : ar .i64 n K := by
  unfold ar
  rw [show IntKind.i64.wrap n = n from InK_i64 h1 h2]
  exact h
theorem ar_any {k : IntKind} {n : Int} {K : Int → Prop} (h : K (k.wrap n)) : ar k n K := h
theorem loop_intro {T : Type} {body : Env → T → Heap → (T → Heap → Prop) → Prop} {t : T} {h : Heap} (I : Nat → T → Heap → Prop) (n : Nat) (h0 : I n t h)
    (hr : ∀ n junk t h, I n t h → body junk t h (fun t' h' => ∃ m, m < n ∧ I m t' h')) : loopW body t h := ⟨I, ⟨n, h0⟩, hr⟩

/-! ### Memory that stays -/

theorem hcell_block {h h' : Heap} {p : Addr} (e : h'[p.block]? = h[p.block]?) : hcell h' p = hcell h p := by unfold hcell; rw [e]
theorem lt_of_hcell {h : Heap} {p : Addr} {v : Value} (e : hcell h p = some v) : p.block < h.size := by
  unfold hcell at e
  cases hb : h[p.block]? with
  | none => rw [hb] at e; simp at e
  | some x => exact (Array.getElem?_eq_some_iff.1 hb).1
theorem Old.ext {h h' : Heap} (o : Old h h') : hExt h h' := fun p v e => by rw [hcell_block (o.block _ (lt_of_hcell e))]; exact e

/-! ### Elements -/

/-- How an element of a slice is laid: what its cells are and which blocks they own; and how it reads at a place. -/
structure Elem (α : Type) where
  size : Nat
  own : List Value → α → Heap → List Nat → Prop
  rd : Heap → Addr → α → Prop
  len : ∀ {xs x h f}, own xs x h f → xs.length = size
  one : ∀ {xs x h f}, own xs x h f → ∀ v ∈ xs, v.oneCell' = true
  loc : ∀ {xs x h f h'}, own xs x h f → (∀ b ∈ f, h'[b]? = h[b]?) → own xs x h' f
  toRd : ∀ {xs x h f p}, own xs x h f → p.spot = none → (∀ j v, xs[j]? = some v → hcell h (p.add j) = some v) → rd h p x
  ext : ∀ {h h' p x}, rd h p x → hExt h h' → rd h' p x

/-- A kind of one cell. -/
def Elem.cell {α : Type} (f : α → Value) (h1 : ∀ x, (f x).oneCell' = true) : Elem α where
  size := 1
  own xs x _ fp := xs = [f x] ∧ fp = []
  rd h p x := hcell h p = some (f x)
  len h := by rw [h.1]; rfl
  one h v hv := by rw [h.1] at hv; simp at hv; rw [hv]; exact h1 _
  loc h _ := h
  toRd {xs x h fp p} ho _ hc := by
    have := hc 0 (f x) (by rw [ho.1]; rfl)
    rwa [Addr.add_zero'] at this
  ext h e := e _ _ h
@[reducible] def eInt : Elem Int := .cell (fun n => .int .i64 n) (fun _ => rfl)
@[reducible] def eBool : Elem Bool := .cell (fun b => .bool b) (fun _ => rfl)
@[reducible] def eStr : Elem ByteArray := .cell (fun s => .string s) (fun _ => rfl)

theorem own_int (n : Int) (h : Heap) : eInt.own [.int .i64 n] n h [] := ⟨rfl, rfl⟩
theorem own_bool (b : Bool) (h : Heap) : eBool.own [.bool b] b h [] := ⟨rfl, rfl⟩
theorem own_str (s : ByteArray) (h : Heap) : eStr.own [.string s] s h [] := ⟨rfl, rfl⟩

/-- A slice that came in, or that one looks into. -/
def rdSl {α : Type} (E : Elem α) (h : Heap) (s : Sl) (l : List α) : Prop :=
  s.len = l.length ∧ s.len ≤ s.cap ∧ l.length ≤ 9223372036854775807 ∧ (s.a = none → s.cap = 0) ∧
  (l = [] ∨ ∃ a, s.a = some a ∧ a.spot = none ∧ ∀ i (hi : i < l.length), E.rd h (a.add (i * E.size)) l[i])
theorem rdSl.ext {α : Type} {E : Elem α} {h h' : Heap} {s : Sl} {l : List α} (r : rdSl E h s l) (e : hExt h h') : rdSl E h' s l := by
  obtain ⟨h1, h2, h3, h5, h6⟩ := r
  refine ⟨h1, h2, h3, h5, ?_⟩
  rcases h6 with h6 | ⟨a, ha, hs, h6⟩
  · exact .inl h6
  · exact .inr ⟨a, ha, hs, fun i hi => E.ext (h6 i hi) e⟩
theorem rdSl.old {α : Type} {E : Elem α} {h h' : Heap} {s : Sl} {l : List α} (r : rdSl E h s l) (o : Old h h') : rdSl E h' s l := r.ext o.ext

/-- A row of elements: their cells, the blocks that they own. -/
def Row {α : Type} (E : Elem α) : List Value → List α → Heap → List Nat → Prop
  | vs, [], _, f => vs = [] ∧ f = []
  | vs, x :: l, h, f => ∃ xs vs' f1 f2, vs = xs ++ vs' ∧ f = f1 ++ f2 ∧ E.own xs x h f1 ∧ Row E vs' l h f2
theorem Row.len {α : Type} {E : Elem α} : ∀ {l : List α} {vs : List Value} {h : Heap} {f : List Nat}, Row E vs l h f → vs.length = l.length * E.size
  | [], _, _, _, r => by rw [r.1]; simp
  | x :: l, _, _, _, r => by
    obtain ⟨xs, vs', f1, f2, rfl, rfl, ho, hr⟩ := r
    rw [List.length_append, E.len ho, hr.len, List.length_cons, Nat.succ_mul, Nat.add_comm]
theorem Row.one {α : Type} {E : Elem α} : ∀ {l : List α} {vs : List Value} {h : Heap} {f : List Nat}, Row E vs l h f → ∀ v ∈ vs, v.oneCell' = true
  | [], _, _, _, r => by rw [r.1]; simp
  | x :: l, _, _, _, r => by
    obtain ⟨xs, vs', f1, f2, rfl, rfl, ho, hr⟩ := r
    intro v hv
    rcases List.mem_append.1 hv with hv | hv
    · exact E.one ho v hv
    · exact hr.one v hv
theorem Row.loc {α : Type} {E : Elem α} : ∀ {l : List α} {vs : List Value} {h h' : Heap} {f : List Nat}, Row E vs l h f → (∀ b ∈ f, h'[b]? = h[b]?) → Row E vs l h' f
  | [], _, _, _, _, r, _ => r
  | x :: l, _, _, _, _, r, hb => by
    obtain ⟨xs, vs', f1, f2, rfl, rfl, ho, hr⟩ := r
    exact ⟨xs, vs', f1, f2, rfl, rfl, E.loc ho fun b h => hb b (by simp [h]), hr.loc fun b h => hb b (by simp [h])⟩
theorem Row.append {α : Type} {E : Elem α} : ∀ {l l' : List α} {vs vs' : List Value} {h : Heap} {f f' : List Nat}, Row E vs l h f → Row E vs' l' h f' → Row E (vs ++ vs') (l ++ l') h (f ++ f')
  | [], _, _, _, _, _, _, r, r' => by rw [r.1, r.2]; exact r'
  | x :: l, _, _, _, _, _, _, r, r' => by
    obtain ⟨xs, vs1, f1, f2, rfl, rfl, ho, hr⟩ := r
    exact ⟨xs, _, f1, _, by rw [List.append_assoc], by rw [List.append_assoc], ho, hr.append r'⟩
theorem Row.split {α : Type} {E : Elem α} : ∀ {l l' : List α} {vs : List Value} {h : Heap} {f : List Nat}, Row E vs (l ++ l') h f → ∃ v1 v2 f1 f2, vs = v1 ++ v2 ∧ f = f1 ++ f2 ∧ Row E v1 l h f1 ∧ Row E v2 l' h f2
  | [], _, vs, _, f, r => ⟨[], vs, [], f, rfl, rfl, ⟨rfl, rfl⟩, r⟩
  | x :: l, _, _, _, _, r => by
    obtain ⟨xs, vs1, f1, f2, rfl, rfl, ho, hr⟩ := r
    obtain ⟨v1, v2, g1, g2, rfl, rfl, h1, h2⟩ := hr.split
    exact ⟨xs ++ v1, v2, f1 ++ g1, g2, by simp, by simp, ⟨xs, v1, f1, g1, rfl, rfl, ho, h1⟩, h2⟩
theorem Row.rd {α : Type} {E : Elem α} : ∀ {l : List α} {vs : List Value} {h : Heap} {f : List Nat} {p : Addr}, Row E vs l h f → p.spot = none → (∀ j v, vs[j]? = some v → hcell h (p.add j) = some v) →
    ∀ i (hi : i < l.length), E.rd h (p.add (i * E.size)) l[i]
  | [], _, _, _, _, _, _, _ => fun i hi => by simp at hi
  | x :: l, _, _, _, p, r, hs, hc => by
    obtain ⟨xs, vs', f1, f2, rfl, rfl, ho, hr⟩ := r
    intro i hi
    have hl := E.len ho
    cases i with
    | zero =>
      simp only [Nat.zero_mul, Addr.add_zero']
      exact E.toRd ho hs fun j v hj => hc j v (by rw [List.getElem?_append_left (List.getElem?_eq_some_iff.1 hj).1]; exact hj)
    | succ i =>
      have := hr.rd (p := p.add E.size) (by obtain ⟨b, o, s⟩ := p; simp only at hs; subst hs; rw [Addr.add_none]) (fun j v hj => by
        rw [Addr.add_add _ _ _ hs]
        refine hc (E.size + j) v ?_
        rw [List.getElem?_append_right (by omega), hl]
        simpa using hj) i (by simpa using hi)
      rw [Addr.add_add _ _ _ hs] at this
      rw [Nat.succ_mul, Nat.add_comm]
      exact this

theorem hOwn_iff {h : Heap} {e size : Nat} {s : Sl} {xs : List Value} : hOwn h e size s xs ↔ xs.length = s.len * size ∧
    ((s = ⟨none, 0, 0⟩) ∨ ∃ g cur, s.a = some ⟨g, 0, none⟩ ∧ h[g]? = some (.cells cur e (0, 0)) ∧ s.len ≤ s.cap ∧ s.cap ≤ maxLen ∧ cur.size = s.cap * size ∧ cur.toList.take (s.len * size) = xs) := by
  unfold hOwn World.ownsRow
  obtain ⟨a, n, c⟩ := s
  simp only [Nat.zero_le, true_and]
  constructor
  · rintro ⟨h1, h2⟩
    refine ⟨h1, ?_⟩
    rcases h2 with ⟨h2, h3⟩ | ⟨g, cap, cur, h2, h3, h4, h5, h6, h7⟩
    · left
      simp at h2
      obtain ⟨rfl, rfl, rfl⟩ := h2
      rfl
    · right
      simp at h2
      obtain ⟨rfl, rfl⟩ := h2
      exact ⟨g, cur, rfl, h3, h4, h5, h6, h7⟩
  · rintro ⟨h1, h2⟩
    refine ⟨h1, ?_⟩
    rcases h2 with h2 | ⟨g, cur, h2, h3, h4, h5, h6, h7⟩
    · left
      simp at h2
      obtain ⟨rfl, rfl, rfl⟩ := h2
      exact ⟨rfl, rfl⟩
    · right
      subst h2
      exact ⟨g, c, cur, rfl, h3, h4, h5, h6, h7⟩

/-- A slice of the call's own. -/
def ownSl {α : Type} (si : SlI) (E : Elem α) (s : Sl) (l : List α) (h : Heap) (f : List Nat) : Prop :=
  si.size = E.size ∧ ∃ vs f', hOwn h si.e si.size s vs ∧ s.len = l.length ∧ l.length ≤ 140737488355328 ∧ Row E vs l h f' ∧ f = s.blk.toList ++ f'

theorem hOwn_cells {h : Heap} {e size : Nat} {s : Sl} {xs : List Value} (ho : hOwn h e size s xs) {a : Addr} (ha : s.a = some a) : a.spot = none ∧ ∀ j u, xs[j]? = some u → hcell h (a.add j) = some u := by
  rcases hOwn_iff.1 ho with ⟨h1, h2 | ⟨g, cur, h2, h3, h4, h5, h6, h7⟩⟩
  · rw [h2] at ha; simp at ha
  · rw [h2] at ha
    injection ha with ha
    subst ha
    refine ⟨rfl, fun j u hj => ?_⟩
    rw [Addr.add_none, Nat.zero_add]
    unfold hcell
    simp only [h3]
    rw [← h7, List.getElem?_take] at hj
    split at hj
    · simpa using hj
    · simp at hj

theorem ownSl.rd {α : Type} {si : SlI} {E : Elem α} {s : Sl} {l : List α} {h : Heap} {f : List Nat} (o : ownSl si E s l h f) : rdSl E h s l := by
  obtain ⟨hs, vs, f', ho, hl, hm, hr, rfl⟩ := o
  rcases hOwn_iff.1 ho with ⟨h1, h2 | ⟨g, cur, h2, h3, h4, h5, h6, h7⟩⟩
  · rw [h2] at hl ⊢
    have : l = [] := List.eq_nil_of_length_eq_zero (by simpa using hl.symm)
    subst this
    exact ⟨rfl, Nat.le_refl _, by simp, fun _ => rfl, .inl rfl⟩
  · have hc := hOwn_cells ho h2
    exact ⟨hl, h4, by omega, fun e => by rw [h2] at e; simp at e, .inr ⟨_, h2, rfl, hr.rd rfl hc.2⟩⟩
theorem ownSl.loc {α : Type} {si : SlI} {E : Elem α} {s : Sl} {l : List α} {h h' : Heap} {f : List Nat} (o : ownSl si E s l h f) (hb : ∀ b ∈ f, h'[b]? = h[b]?) : ownSl si E s l h' f := by
  obtain ⟨hs, vs, f', ho, hl, hm, hr, rfl⟩ := o
  refine ⟨hs, vs, f', ?_, hl, hm, hr.loc fun b h => hb b (by simp [h]), rfl⟩
  rcases hOwn_iff.1 ho with ⟨h1, h2 | ⟨g, cur, h2, h3, rest⟩⟩
  · exact hOwn_iff.2 ⟨h1, .inl h2⟩
  · refine hOwn_iff.2 ⟨h1, .inr ⟨g, cur, h2, ?_, rest⟩⟩
    rw [hb g (by simp [Sl.blk, h2])]
    exact h3

/-- An element that is a slice. -/
def Elem.sl {α : Type} (si : SlI) (E : Elem α) : Elem (List α) where
  size := 1
  own xs l h f := ∃ s : Sl, xs = [s.v] ∧ ownSl si E s l h f
  rd h p l := ∃ s : Sl, hcell h p = some s.v ∧ rdSl E h s l
  len := by rintro xs x h f ⟨s, rfl, _⟩; rfl
  one := by rintro xs x h f ⟨s, rfl, _⟩ v hv; simp at hv; rw [hv]; rfl
  loc := by rintro xs x h f h' ⟨s, e, o⟩ hb; exact ⟨s, e, o.loc hb⟩
  toRd := by
    rintro xs x h f p ⟨s, rfl, o⟩ _ hc
    refine ⟨s, ?_, o.rd⟩
    have := hc 0 s.v rfl
    rwa [Addr.add_zero'] at this
  ext := by rintro h h' p x ⟨s, hc, r⟩ e; exact ⟨s, e _ _ hc, r.ext e⟩

/-- Two, one behind the other. -/
def Elem.prod {α β : Type} (A : Elem α) (B : Elem β) : Elem (α × β) where
  size := A.size + B.size
  own xs x h f := ∃ xs1 xs2 f1 f2, xs = xs1 ++ xs2 ∧ f = f1 ++ f2 ∧ A.own xs1 x.1 h f1 ∧ B.own xs2 x.2 h f2
  rd h p x := A.rd h p x.1 ∧ B.rd h (p.add A.size) x.2
  len := by rintro xs x h f ⟨xs1, xs2, f1, f2, rfl, rfl, h1, h2⟩; rw [List.length_append, A.len h1, B.len h2]
  one := by
    rintro xs x h f ⟨xs1, xs2, f1, f2, rfl, rfl, h1, h2⟩ v hv
    rcases List.mem_append.1 hv with hv | hv
    · exact A.one h1 v hv
    · exact B.one h2 v hv
  loc := by rintro xs x h f h' ⟨xs1, xs2, f1, f2, rfl, rfl, h1, h2⟩ hb; exact ⟨xs1, xs2, f1, f2, rfl, rfl, A.loc h1 fun b h => hb b (by simp [h]), B.loc h2 fun b h => hb b (by simp [h])⟩
  toRd := by
    rintro xs x h f p ⟨xs1, xs2, f1, f2, rfl, rfl, h1, h2⟩ hs hc
    refine ⟨A.toRd h1 hs fun j v hj => hc j v (by rw [List.getElem?_append_left (List.getElem?_eq_some_iff.1 hj).1]; exact hj), B.toRd h2 ?_ fun j v hj => ?_⟩
    · obtain ⟨b, o, s⟩ := p; simp only at hs; subst hs; rw [Addr.add_none]
    · rw [Addr.add_add _ _ _ hs]
      refine hc (A.size + j) v ?_
      rw [List.getElem?_append_right (by rw [A.len h1]; omega), A.len h1]
      simpa using hj
  ext := by rintro h h' p x ⟨h1, h2⟩ e; exact ⟨A.ext h1 e, B.ext h2 e⟩
/-- Seen as another type. -/
def Elem.via {α β : Type} (A : Elem α) (g : β → α) : Elem β where
  size := A.size
  own xs x h f := A.own xs (g x) h f
  rd h p x := A.rd h p (g x)
  len := A.len
  one := A.one
  loc := A.loc
  toRd := A.toRd
  ext := A.ext

end Go.Fw
