/-
  What a call owns, all of it; the rules for making, appending, storing, cutting, calling.
-/
import Derived.Test.YtojdbliehgejbaaDoorFwRep
namespace Go.Fw

theorem Addr.spot_add (p : Addr) (n : Nat) (h : p.spot = none) : (p.add n).spot = none := by
  obtain ⟨b, o, s⟩ := p; simp only at h; subst h; rw [Addr.add_none]

/-! ### Reading -/

/-- A place is that of a slice's i-th element. -/
def At (n : Nat) (s : Sl) (i : Nat) (p : Addr) : Prop := p.spot = none ∧ ∃ a, s.a = some a ∧ p = a.add (i * n)
theorem idx_rd {α : Type} {E : Elem α} {h : Heap} {s : Sl} {l : List α} (r : rdSl E h s l) {n : Nat} (hn : n = E.size) {i : Int} {K : Addr → Prop} (h0 : 0 ≤ i) (h1 : i < l.length)
    (hK : ∀ p, At n s i.toNat p → E.rd h p (l[i.toNat]'(by omega)) → K p) : idx n s i K := by
  subst hn
  obtain ⟨r1, _, _, _, r6⟩ := r
  rcases r6 with r6 | ⟨a, ha, hs, r6⟩
  · subst r6; simp at h1; omega
  · exact ⟨a, ha, h0, by omega, hK _ ⟨Addr.spot_add _ _ hs, a, ha, rfl⟩ (r6 i.toNat (by omega))⟩
theorem idx_rdN {α : Type} {E : Elem α} {h : Heap} {s : Sl} {l : List α} (r : rdSl E h s l) {n : Nat} (hn : n = E.size) {i : Nat} {K : Addr → Prop} (h1 : i < l.length)
    (hK : ∀ p, At n s i p → E.rd h p l[i] → K p) : idx n s (i : Int) K :=
  idx_rd r hn (Int.natCast_nonneg _) (by omega) (fun p hs hp => hK p (by simpa using hs) (by simpa using hp))
theorem ld_one {h : Heap} {p : Addr} {k : TK} {x : k.T} {K : k.T → Prop} (hx : holds h p k x) (hK : K x) : ld k h p K := ⟨x, hx, hK⟩
theorem ld_sl {α : Type} {si : SlI} {E : Elem α} {h : Heap} {p : Addr} {l : List α} {K : Sl → Prop} (r : (Elem.sl si E).rd h p l) (hK : ∀ s, rdSl E h s l → K s) : ld .sl h p K := by
  obtain ⟨s, hc, r⟩ := r
  exact ⟨s, hc, hK s r⟩
/-- .. of what lies below: it reads as it did. -/
theorem ld_slB {α : Type} {si : SlI} {E : Elem α} {hb h : Heap} {p : Addr} {l : List α} {K : Sl → Prop} (r : (Elem.sl si E).rd hb p l) (o : Old hb h) (hK : ∀ s, rdSl E hb s l → K s) : ld .sl h p K := by
  obtain ⟨s, hc, r⟩ := r
  exact ⟨s, o.ext _ _ hc, hK s r⟩
theorem ld_oneB {hb h : Heap} {p : Addr} {k : TK} {x : k.T} {K : k.T → Prop} (hx : holds hb p k x) (o : Old hb h) (hK : K x) : ld k h p K := ⟨x, holds_ext o.ext hx, hK⟩
theorem rdSl.lenEq {α : Type} {E : Elem α} {h : Heap} {s : Sl} {l : List α} (r : rdSl E h s l) : s.len = l.length := r.1
theorem rdSl.bound {α : Type} {E : Elem α} {h : Heap} {s : Sl} {l : List α} (r : rdSl E h s l) : l.length ≤ 9223372036854775807 := r.2.2.1

/-! ### All that a call owns -/

/-- A step that turns the first ones' own blocks alone, and lays new ones. -/
theorem Sep.step {h0 h h' : Heap} {M M' L : List As} (s : Sep h0 h (M ++ L)) (hl : ∀ A ∈ M', Loc A)
    (H : ∀ f, Owns M h f → f.Nodup → (∀ b ∈ f, b < h.size) → ∃ g, Owns M' h' g ∧ g.Nodup ∧ h.size ≤ h'.size ∧ (∀ b, b < h.size → b ∉ f → h'[b]? = h[b]?) ∧ ∀ b ∈ g, (b ∈ f ∨ h.size ≤ b) ∧ b < h'.size) :
    Sep h0 h' (M' ++ L) := by
  obtain ⟨f, ho, hn, hb⟩ := s.owns
  have hsplit : ∀ {M L : List As} {f : List Nat}, Owns (M ++ L) h f → ∃ f1 f2, f = f1 ++ f2 ∧ Owns M h f1 ∧ Owns L h f2 := by
    intro M
    induction M with
    | nil => intro L f o; exact ⟨[], f, rfl, rfl, o⟩
    | cons A M ih =>
      rintro L f ⟨f1, f2, rfl, h1, h2⟩
      obtain ⟨g1, g2, rfl, o1, o2⟩ := ih h2
      exact ⟨f1 ++ g1, g2, by simp, ⟨f1, g1, rfl, h1, o1⟩, o2⟩
  obtain ⟨f1, f2, rfl, o1, o2⟩ := hsplit ho
  have hn' := List.nodup_append.1 hn
  obtain ⟨g, hg, gn, hsz, hfr, gb⟩ := H f1 o1 hn'.1 fun b h => (hb b (by simp [h])).2
  have hall : ∀ A ∈ L, Loc A := fun A hA => s.all A (by simp [hA])
  refine ⟨⟨Nat.le_trans s.old.size hsz, fun b hb' => ?_⟩, fun A hA => ?_, g ++ f2, hg.append (o2.loc hall fun b h => hfr b (hb b (by simp [h])).2 fun h' => hn'.2.2 b h' b h rfl), ?_, ?_⟩
  · have h1 : b < h.size := Nat.lt_of_lt_of_le hb' s.old.size
    have h2 : b ∉ f1 := fun h => by have := (hb b (by simp [h])).1; omega
    rw [hfr b h1 h2]
    exact s.old.block b hb'
  · rcases List.mem_append.1 hA with hA | hA
    · exact hl A hA
    · exact hall A hA
  · refine List.nodup_append.2 ⟨gn, hn'.2.1, fun a ha b hb' e => ?_⟩
    subst e
    rcases (gb a ha).1 with h1 | h1
    · exact hn'.2.2 a h1 a hb' rfl
    · have := (hb a (by simp [hb'])).2; omega
  · intro b hb'
    rcases List.mem_append.1 hb' with hb' | hb'
    · refine ⟨?_, (gb b hb').2⟩
      rcases (gb b hb').1 with h1 | h1
      · exact (hb b (by simp [h1])).1
      · exact Nat.le_trans s.old.size h1
    · exact ⟨(hb b (by simp [hb'])).1, Nat.lt_of_lt_of_le (hb b (by simp [hb'])).2 hsz⟩

theorem loc_ownSl {α : Type} {si : SlI} {E : Elem α} {s : Sl} {l : List α} : Loc (ownSl si E s l) := fun o hb => o.loc hb
def ownEl {α : Type} (E : Elem α) (xs : List Value) (x : α) : As := fun h f => E.own xs x h f
theorem loc_ownEl {α : Type} {E : Elem α} {xs : List Value} {x : α} : Loc (ownEl E xs x) := fun o hb => E.loc o hb

theorem Sep.rd {α : Type} {si : SlI} {E : Elem α} {s : Sl} {l : List α} {h0 h : Heap} {L : List As} (S : Sep h0 h (ownSl si E s l :: L)) : rdSl E h s l := by
  obtain ⟨f, o⟩ := S.get
  exact o.rd

/-! ### Making -/

theorem ownSl_nil {α : Type} (si : SlI) (E : Elem α) (hs : si.size = E.size) (h : Heap) : ownSl si E ⟨none, 0, 0⟩ [] h [] :=
  ⟨hs, [], [], hOwn_iff.2 ⟨by simp, .inl rfl⟩, rfl, by simp, ⟨rfl, rfl⟩, rfl⟩
theorem Sep.nil {α : Type} {si : SlI} {E : Elem α} {h0 h : Heap} {L : List As} (S : Sep h0 h L) (hs : si.size = E.size) : Sep h0 h (ownSl si E ⟨none, 0, 0⟩ [] :: L) :=
  S.free loc_ownSl (ownSl_nil si E hs h)

theorem madeCells_eq (z : Array Value) : ∀ (n : Nat), (madeCells z (n * z.size)).toList = (List.replicate n z.toList).flatten := by
  intro n
  apply List.ext_getElem?
  intro i
  have hlen : (List.replicate n z.toList).flatten.length = n * z.size := by
    induction n with
    | zero => simp
    | succ n ih => rw [List.replicate_succ, List.flatten_cons, List.length_append, ih, Nat.succ_mul]; simp [Nat.add_comm]
  have hget : ∀ i, i < n * z.size → (List.replicate n z.toList).flatten[i]? = z.toList[i % z.size]? := by
    clear hlen
    induction n with
    | zero => intro i hi; simp at hi
    | succ n ih =>
      intro i hi
      rw [List.replicate_succ, List.flatten_cons]
      by_cases h : i < z.size
      · rw [List.getElem?_append_left (by simpa using h), Nat.mod_eq_of_lt h]
      · rw [List.getElem?_append_right (by simpa using Nat.le_of_not_lt h)]
        rw [Array.length_toList, ih (i - z.size) (by rw [Nat.succ_mul] at hi; omega)]
        rw [Nat.mod_eq_sub_mod (Nat.le_of_not_lt h)]
  by_cases hi : i < n * z.size
  · rw [hget i hi]
    unfold madeCells
    have hz : 0 < z.size := by rcases Nat.eq_zero_or_pos z.size with h | h; rw [h] at hi; omega; exact h
    simp [hi, Nat.mod_lt _ hz]
  · rw [List.getElem?_eq_none (l := (List.replicate n z.toList).flatten) (by rw [hlen]; omega), List.getElem?_eq_none (by unfold madeCells; simp; omega)]

theorem Row.replicate {α : Type} {E : Elem α} {z : List Value} {x : α} {h : Heap} (hz : E.own z x h []) : ∀ n, Row E (List.replicate n z).flatten (List.replicate n x) h []
  | 0 => ⟨rfl, rfl⟩
  | n + 1 => ⟨z, _, [], [], rfl, rfl, hz, Row.replicate hz n⟩

theorem mk_rule {α : Type} {si : SlI} {E : Elem α} {h0 h : Heap} {L : List As} {n : Int} {x : α} {K : Sl → Heap → Prop} (S : Sep h0 h L) (hsz : si.size = E.size)
    (hz : ∀ h, E.own si.zero.cells.toList x h []) (h1 : 0 ≤ n) (h2 : n ≤ 140737488355328) (h3 : (si.bytes : Int) * n ≤ 281474976710656)
    (hK : ∀ s h', Sep h0 h' (ownSl si E s (List.replicate n.toNat x) :: L) → K s h') : mk si n h K := by
  refine ⟨h1, h3, by omega, hK _ _ ?_⟩
  have hzs : si.zero.cells.size = si.size := by have := E.len (hz h); simp at this; omega
  refine Sep.step (M := []) (M' := [ownSl si E _ _]) S (fun A hA => by rw [List.mem_singleton.1 hA]; exact loc_ownSl) ?_
  rintro f rfl _ _
  refine ⟨[h.size], ⟨[h.size], [], rfl, ⟨hsz, (List.replicate n.toNat si.zero.cells.toList).flatten, [], ?_, by simp, by simp; omega, Row.replicate (hz _) _, rfl⟩, rfl⟩, by simp, by simp, fun b hb _ => ?_, fun b hb => ?_⟩
  · have hm := madeCells_eq si.zero.cells n.toNat
    rw [hzs] at hm
    have hsz2 : (madeCells si.zero.cells (n.toNat * si.size)).size = n.toNat * si.size := size_madeCells _ _
    refine hOwn_iff.2 ⟨by rw [← hm, Array.length_toList, hsz2], .inr ⟨h.size, _, rfl, Array.getElem?_push_size, Nat.le_refl _, by simp only [maxLen]; omega, hsz2, ?_⟩⟩
    rw [← hm, List.take_of_length_le (by rw [Array.length_toList, hsz2]; exact Nat.le_refl _)]
  · rw [Array.getElem?_push_lt hb]; exact (Array.getElem?_eq_getElem hb).symm
  · simp at hb; subst hb; simp

/-! ### Appending -/
def ownRow {α : Type} (E : Elem α) (vs : List Value) (l : List α) : As := fun h f => Row E vs l h f
theorem loc_ownRow {α : Type} {E : Elem α} {vs : List Value} {l : List α} : Loc (ownRow E vs l) := fun r hb => Row.loc r hb

theorem app_rule {α : Type} {si : SlI} {E : Elem α} {h0 h : Heap} {L : List As} {s t : Sl} {l l' : List α} {news : List Value} {K : Sl → Heap → Prop}
    (S : Sep h0 h (ownSl si E s l :: ownRow E news l' :: L)) (hr : hRead h si.size t news) (ht : t.len = l'.length) (hnil : t.a = none → t.len = 0 ∧ t.cap = 0)
    (hb : (l.length + l'.length) * si.bytes ≤ 140737488355328) (hb1 : l.length + l'.length ≤ 140737488355328)
    (hK : ∀ s' h', Sep h0 h' (ownSl si E s' (l ++ l') :: L) → K s' h') : app si s t h K := by
  obtain ⟨f, ⟨f1, f2, rfl, o1, f3, f4, rfl, o2, o3⟩, hn, hbd⟩ := S.owns
  obtain ⟨hsz, vs, f', ho, hl, hm, hrow, rfl⟩ := o1
  refine ⟨vs, news, ho, hr, Row.one o2, hnil, by simp only [maxLen]; omega, by rw [hl, ht]; exact hb, fun s' h' ho' hl' hg hblk _ _ => hK s' h' ?_⟩
  refine Sep.step (M := [ownSl si E s l, ownRow E news l']) (M' := [ownSl si E s' (l ++ l')]) S (fun A hA => by rw [List.mem_singleton.1 hA]; exact loc_ownSl) ?_
  clear hn hbd o2 o3
  rintro g ⟨g1, g2, rfl, ⟨_, vs', f'', ho2, _, _, hrow', rfl⟩, g3, g4, rfl, o2, rfl⟩ hn hlt
  -- what the row holds is what it holds
  have hvs : vs' = vs := by
    rcases hOwn_iff.1 ho with ⟨e1, e2 | ⟨b, cur, e2, e3, e4, e5, e6, e7⟩⟩
    · rcases hOwn_iff.1 ho2 with ⟨d1, _⟩
      rw [e2] at e1 d1
      simp at e1 d1
      rw [e1, d1]
    · rcases hOwn_iff.1 ho2 with ⟨d1, d2 | ⟨b', cur', d2, d3, d4, d5, d6, d7⟩⟩
      · rw [d2] at e2; simp at e2
      · rw [e2] at d2
        simp at d2
        subst d2
        rw [e3] at d3
        simp at d3
        subst d3
        rw [← d7, e7]
  subst hvs
  simp only [List.append_nil] at hn hlt ⊢
  have hdis := List.nodup_append.1 hn
  have hd1 := List.nodup_append.1 hdis.1
  have keep : ∀ b, b ∈ f'' ++ g3 → h'[b]? = h[b]? := fun b hb' => by
    refine hg.block b (hlt b ?_) ?_
    · rcases List.mem_append.1 hb' with h1 | h1 <;> simp [h1]
    · intro e
      have hbs : b ∈ s.blk.toList := by rw [← e]; simp
      rcases List.mem_append.1 hb' with h1 | h1
      · exact hd1.2.2 b hbs b h1 rfl
      · exact hdis.2.2 b (by simp [hbs]) b h1 rfl
  have hrow2 : Row E (vs' ++ news) (l ++ l') h' (f'' ++ g3) :=
    (Row.loc hrow' fun b hb' => keep b (by simp [hb'])).append (Row.loc o2 fun b hb' => keep b (by simp [hb']))
  refine ⟨s'.blk.toList ++ (f'' ++ g3), ⟨_, [], by simp, ⟨hsz, _, _, ho', by rw [hl', ht, hl]; simp, by simp; omega, hrow2, rfl⟩, rfl⟩, ?_, hg.size, ?_, ?_⟩
  · refine List.nodup_append.2 ⟨by cases s'.blk <;> simp, List.nodup_append.2 ⟨hd1.2.1, hdis.2.1, fun a ha b hb' => hdis.2.2 a (by simp [ha]) b hb'⟩, fun a ha b hb' e => ?_⟩
    subst e
    have hlt' : a < h.size := by
      apply hlt
      rcases List.mem_append.1 hb' with h1 | h1 <;> simp [h1]
    rcases hblk with e | e
    · rw [e] at ha
      rcases List.mem_append.1 hb' with h1 | h1
      · exact hd1.2.2 a ha a h1 rfl
      · exact hdis.2.2 a (by simp [ha]) a h1 rfl
    · rw [e] at ha; simp at ha; omega
  · intro b hb' hnb
    exact hg.block b hb' fun e => hnb (by rw [← e]; simp)
  · intro b hb'
    rcases List.mem_append.1 hb' with h1 | h1
    · have hin : b < h'.size := by
        rcases hOwn_iff.1 ho' with ⟨_, e2 | ⟨b', cur, e2, e3, _⟩⟩
        · rw [e2] at h1; simp [Sl.blk] at h1
        · have : b = b' := by rw [Sl.blk, e2] at h1; simpa using h1
          subst this
          exact (Array.getElem?_eq_some_iff.1 e3).1
      refine ⟨?_, hin⟩
      rcases hblk with e | e
      · rw [e] at h1; left; simp [h1]
      · rw [e] at h1; simp at h1; right; omega
    · have hin : b ∈ s.blk.toList ++ f'' ++ g3 := by
        rcases List.mem_append.1 h1 with h2 | h2 <;> simp [h2]
      exact ⟨.inl (by simpa using hin), Nat.lt_of_lt_of_le (hlt b (by simpa using hin)) hg.size⟩

theorem fill_one {size : Nat} {z : Array Value} {v : Value} (hv : v.cells.size = size) (hz : z.size = size) :
    Instr.fill (fun i => some (i * size, size)) z [(0, v)] = some v.cells := by
  have key : ∀ (vs : List Value) (k : Nat) (z : Array Value), k + vs.length = z.size → (∀ j, j < k → z[j]? = v.cells[j]?) → (∀ j, vs[j]? = v.cells[k + j]?) → z.size = v.cells.size →
      (vs.zipIdx k).foldl (fun cs (x : Value × Nat) => cs.setIfInBounds (0 + x.2) x.1) z = v.cells := by
    intro vs
    induction vs with
    | nil =>
      intro k z hk h1 h2 h3
      simp only [List.zipIdx_nil, List.foldl_nil]
      apply Array.ext_getElem?
      intro i
      by_cases hi : i < k
      · exact h1 i hi
      · simp at hk; rw [Array.getElem?_eq_none (by omega), Array.getElem?_eq_none (by omega)]
    | cons x vs ih =>
      intro k z hk h1 h2 h3
      simp only [List.zipIdx_cons, List.foldl_cons, Nat.zero_add]
      have hk' : k < z.size := by simp at hk; omega
      have := ih (k + 1) (z.setIfInBounds k x) (by simp at hk ⊢; omega) (fun j hj => by
        rw [Array.getElem?_setIfInBounds]
        by_cases e : k = j
        · subst e
          have := h2 0
          simp at this
          simp [hk', this]
        · rw [if_neg e]; exact h1 j (by omega)) (fun j => by
          have := h2 (j + 1)
          simp at this
          rw [this]
          congr 1
          omega) (by simpa using h3)
      simpa using this
  have := key v.cells.toList 0 z (by simp; omega) (by simp) (by simp) (by omega)
  simp only [Nat.zero_add] at this
  simp only [Instr.fill, hv, hz, ne_eq, not_true_eq_false, decide_false, Bool.false_or, gt_iff_lt, Nat.zero_mul, Nat.zero_add, Nat.lt_irrefl, decide_false, Bool.false_eq_true, if_false]
  congr 1
  rw [← Array.foldl_toList]
  simp only [Array.toList_zipIdx]
  exact this

/-- 'append(s, v)': one element. -/
theorem app1_rule {α : Type} {si : SlI} {E : Elem α} {h0 h : Heap} {L : List As} {s : Sl} {l : List α} {v : Value} {x : α} {K : Sl → Heap → Prop}
    (S : Sep h0 h (ownSl si E s l :: ownEl E v.cells.toList x :: L)) (hz : si.zero.cells.size = si.size) (hs24 : si.size ≤ 16777216)
    (hb : (l.length + 1) * si.bytes ≤ 140737488355328) (hb1 : l.length + 1 ≤ 140737488355328)
    (hK : ∀ s' h', Sep h0 h' (ownSl si E s' (l ++ [x]) :: L) → K s' h') : bld si 1 [(0, v)] h fun t h => app si s t h K := by
  obtain ⟨_, ⟨hsz, _⟩⟩ := S.get
  have hv : v.cells.size = si.size := by
    obtain ⟨f, ho⟩ := S.drop.get
    have := E.len ho
    simp at this
    omega
  refine ⟨v.cells, ?_, by omega, ?_⟩
  · exact fill_one hv (by rw [size_madeCells]; omega)
  · have S2 : Sep h0 (h.push (.cells v.cells si.e)) (ownSl si E s l :: ownRow E v.cells.toList [x] :: L) := by
      have S1 := (S.grow (Old.push h (.cells v.cells si.e))).perm (List.Perm.swap _ _ _)
      refine Sep.perm (S1.conv loc_ownRow fun f ho => ⟨f, List.Sublist.refl f, ?_⟩) (List.Perm.swap _ _ _)
      exact ⟨v.cells.toList, [], f, [], by simp, by simp, ho, rfl, rfl⟩
    refine app_rule S2 ⟨by simp [hv], .inr ⟨⟨h.size, 0, none⟩, rfl, fun j u hj => ?_⟩⟩ rfl (by simp) hb hb1 hK
    rw [Addr.add_none, Nat.zero_add]
    unfold hcell
    simp only [Array.getElem?_push_size]
    simpa using hj
/-- .. that owns nothing. -/
theorem app1_flat {α : Type} {si : SlI} {E : Elem α} {h0 h : Heap} {L : List As} {s : Sl} {l : List α} {v : Value} {x : α} {K : Sl → Heap → Prop}
    (S : Sep h0 h (ownSl si E s l :: L)) (hx : ∀ h, E.own v.cells.toList x h []) (hz : si.zero.cells.size = si.size) (hs24 : si.size ≤ 16777216)
    (hb : (l.length + 1) * si.bytes ≤ 140737488355328) (hb1 : l.length + 1 ≤ 140737488355328)
    (hK : ∀ s' h', Sep h0 h' (ownSl si E s' (l ++ [x]) :: L) → K s' h') : bld si 1 [(0, v)] h fun t h => app si s t h K :=
  app1_rule ((S.free (A := ownEl E v.cells.toList x) loc_ownEl (hx h)).perm (List.Perm.swap _ _ _)) hz hs24 hb hb1 hK

/-- '[]T{v}': one element, for a nil slice that is own already. -/
theorem bld_one {α : Type} {si : SlI} {E : Elem α} {h0 h : Heap} {L : List As} {v : Value} {x : α} {K : Sl → Heap → Prop}
    (S : Sep h0 h (ownSl si E ⟨none, 0, 0⟩ [] :: L)) (hx : ∀ h, E.own v.cells.toList x h []) (hz : si.zero.cells.size = si.size) (hs24 : si.size ≤ 16777216)
    (hK : ∀ s' h', Sep h0 h' (ownSl si E s' [x] :: L) → K s' h') : bld si 1 [(0, v)] h K := by
  obtain ⟨_, ⟨hsz, _⟩⟩ := S.get
  have hv : v.cells.size = si.size := by
    have := E.len (hx h)
    simp at this
    omega
  refine ⟨v.cells, fill_one hv (by rw [size_madeCells]; omega), by omega, hK _ _ ?_⟩
  refine Sep.step (M := []) (M' := [ownSl si E _ _]) S.drop (fun A hA => by rw [List.mem_singleton.1 hA]; exact loc_ownSl) ?_
  rintro f rfl _ _
  refine ⟨[h.size], ⟨[h.size], [], rfl, ⟨hsz, v.cells.toList, [], ?_, rfl, by simp, ⟨v.cells.toList, [], [], [], by simp, rfl, hx _, rfl, rfl⟩, rfl⟩, rfl⟩, by simp, by simp, fun b hb _ => ?_, fun b hb => ?_⟩
  · exact hOwn_iff.2 ⟨by simp [hv], .inr ⟨h.size, _, rfl, Array.getElem?_push_size, Nat.le_refl _, by simp [maxLen], by simp [hv], List.take_of_length_le (by simp [hv])⟩⟩
  · rw [Array.getElem?_push_lt hb]; exact (Array.getElem?_eq_getElem hb).symm
  · simp at hb; subst hb; simp

/-- A slice of one's own, as an element. -/
theorem Sep.toEl {α : Type} {si : SlI} {E : Elem α} {h0 h : Heap} {L : List As} {s : Sl} {l : List α} (S : Sep h0 h (ownSl si E s l :: L)) :
    Sep h0 h (ownEl (Elem.sl si E) s.v.cells.toList l :: L) :=
  S.conv loc_ownEl fun f o => ⟨f, List.Sublist.refl f, s, rfl, o⟩
theorem Sep.swap {h0 h : Heap} {A B : As} {L : List As} (S : Sep h0 h (A :: B :: L)) : Sep h0 h (B :: A :: L) := S.perm (List.Perm.swap _ _ _)
theorem Sep.rot3 {h0 h : Heap} {A B C : As} {L : List As} (S : Sep h0 h (A :: B :: C :: L)) : Sep h0 h (C :: A :: B :: L) :=
  S.perm (((List.Perm.swap C B L).cons A).trans (List.Perm.swap C A (B :: L)))
theorem Sep.rot4 {h0 h : Heap} {A B C D : As} {L : List As} (S : Sep h0 h (A :: B :: C :: D :: L)) : Sep h0 h (D :: A :: B :: C :: L) :=
  S.perm (((((List.Perm.swap D C L).cons B).trans (List.Perm.swap D B (C :: L))).cons A).trans (List.Perm.swap D A (B :: C :: L)))
/-- Seen as longer or shorter lists that are the same. -/
theorem Sep.cast {h0 h : Heap} {L L' : List As} (S : Sep h0 h L) (e : L = L') : Sep h0 h L' := e ▸ S

/-! Literals -/
theorem Sep.rowNil {α : Type} {E : Elem α} {h0 h : Heap} {L : List As} (S : Sep h0 h L) : Sep h0 h (ownRow E [] ([] : List α) :: L) := S.free loc_ownRow ⟨rfl, rfl⟩
theorem Row.of_cells {α : Type} {f : α → Value} {h1 : ∀ x, (f x).oneCell' = true} {h : Heap} : ∀ (l : List α), Row (Elem.cell f h1) (l.map f) l h []
  | [] => ⟨rfl, rfl⟩
  | x :: l => ⟨[f x], l.map f, [], [], rfl, rfl, ⟨rfl, rfl⟩, Row.of_cells l⟩
theorem Sep.two {h0 h : Heap} {A B C : As} {L : List As} (S : Sep h0 h (A :: B :: L)) (hl : Loc C) (ha : ∀ f g, A h f → B h g → C h (f ++ g)) : Sep h0 h (C :: L) := by
  obtain ⟨f, ⟨f1, f2, rfl, h1, f3, f4, rfl, h2, ho⟩, hn, hb⟩ := S.owns
  refine ⟨S.old, fun D hD => ?_, f1 ++ (f3 ++ f4), ⟨f1 ++ f3, f4, by simp, ha _ _ h1 h2, ho⟩, hn, hb⟩
  rcases List.mem_cons.1 hD with rfl | hD
  · exact hl
  · exact S.all D (by simp [hD])
theorem Sep.rowCons {α : Type} {ri : SlI} {E : Elem α} {h0 h : Heap} {L : List As} {s : Sl} {l : List α} {us : List Value} {ll : List (List α)}
    (S : Sep h0 h (ownSl ri E s l :: ownRow (Elem.sl ri E) us ll :: L)) : Sep h0 h (ownRow (Elem.sl ri E) (s.v :: us) (l :: ll) :: L) :=
  S.two loc_ownRow fun f g h1 h2 => ⟨[s.v], us, f, g, rfl, rfl, ⟨s, rfl, h1⟩, h2⟩
theorem bld_rule {α : Type} {si : SlI} {E : Elem α} {h0 h : Heap} {L : List As} {n : Nat} {parts : List (Nat × Value)} {us : List Value} {l : List α} {K : Sl → Heap → Prop}
    (S : Sep h0 h (ownRow E us l :: L)) (hfill : Instr.fill (fun i => some (i * si.size, si.size)) (madeCells si.zero.cells (n * si.size)) parts = some us.toArray) (hl : l.length = n) (hsz : si.size = E.size)
    (hb : n * si.size ≤ 16777216) (hn : n ≤ 16777216) (hK : ∀ s h', Sep h0 h' (ownSl si E s l :: L) → K s h') : bld si n parts h K := by
  refine ⟨us.toArray, hfill, hb, hK _ _ ?_⟩
  refine Sep.step (M := [ownRow E us l]) (M' := [ownSl si E _ _]) S (fun A hA => by rw [List.mem_singleton.1 hA]; exact loc_ownSl) ?_
  rintro f ⟨f1, f2, rfl, hr, rfl⟩ hnd hlt
  simp only [List.append_nil] at hnd hlt
  have hus : us.length = n * si.size := by rw [Row.len hr, hl, hsz]
  have hne : ∀ b ∈ f1, b ≠ h.size := fun b hb e => by have := hlt b hb; omega
  have hr' : Row E us l (h.push (.cells us.toArray si.e)) f1 := Row.loc hr fun b hb => by rw [Array.getElem?_push_lt (hlt b hb)]; exact (Array.getElem?_eq_getElem (hlt b hb)).symm
  refine ⟨h.size :: f1, ⟨h.size :: f1, [], by simp, ⟨hsz, us, f1, ?_, hl.symm, by omega, hr', rfl⟩, rfl⟩, List.nodup_cons.2 ⟨fun hm => hne _ hm rfl, hnd⟩, by simp, fun b hb _ => ?_, fun b hb => ?_⟩
  · refine hOwn_iff.2 ⟨hus, .inr ⟨h.size, _, rfl, Array.getElem?_push_size, Nat.le_refl _, by simp [maxLen]; omega, by simpa using hus, ?_⟩⟩
    exact List.take_of_length_le (by simp [hus])
  · rw [Array.getElem?_push_lt hb]; exact (Array.getElem?_eq_getElem hb).symm
  · rcases List.mem_cons.1 hb with rfl | hb
    · simp
    · have := hlt b hb
      exact ⟨.inl (by simpa using hb), by simp; omega⟩

/-! ### Storing -/

def putAt (cur : Array Value) (o : Nat) : List Value → Array Value
  | [] => cur
  | v :: vs => putAt (cur.setIfInBounds o v) (o + 1) vs
theorem size_putAt : ∀ (vs : List Value) (cur : Array Value) (o : Nat), (putAt cur o vs).size = cur.size
  | [], _, _ => rfl
  | v :: vs, cur, o => by unfold putAt; rw [size_putAt]; simp
theorem putAt_eq : ∀ (vs : List Value) (cur : Array Value) (o : Nat), o + vs.length ≤ cur.size → (putAt cur o vs).toList = cur.toList.take o ++ vs ++ cur.toList.drop (o + vs.length)
  | [], cur, o, h => by simp [putAt]
  | v :: vs, cur, o, h => by
    unfold putAt
    simp at h
    rw [putAt_eq vs _ (o + 1) (by simp; omega)]
    simp only [Array.toList_setIfInBounds, List.length_cons]
    have ho : o < cur.toList.length := by simp; omega
    rw [List.take_add_one, List.getElem?_set_self ho]
    simp only [Option.toList_some]
    rw [List.take_set_of_le (Nat.le_refl _), List.drop_set_of_lt (by omega)]
    simp [Nat.add_assoc, Nat.add_comm 1]

theorem hsets_same {g e : Nat} {fr : Nat × Nat} : ∀ (vs : List Value) (h : Heap) (cur : Array Value) (o i : Nat), h[g]? = some (.cells cur e fr) →
    (hsets h ⟨g, o, none⟩ vs i)[g]? = some (.cells (putAt cur (o + i) vs) e fr)
  | [], _, _, _, _, hg => hg
  | v :: vs, h, cur, o, i, hg => by
    unfold hsets putAt
    rw [Addr.add_none]
    have : (hset h ⟨g, o + i, none⟩ v)[g]? = some (.cells (cur.setIfInBounds (o + i) v) e fr) := by
      unfold hset
      rw [Array.getElem?_modify]
      simp [hg]
    exact hsets_same vs _ _ o (i + 1) this
theorem hsets_other {p : Addr} : ∀ (vs : List Value) (h : Heap) (i : Nat) (b : Nat), b ≠ p.block → p.spot = none → (hsets h p vs i)[b]? = h[b]?
  | [], _, _, _, _, _ => rfl
  | v :: vs, h, i, b, hb, hs => by
    unfold hsets
    rw [hsets_other vs _ (i + 1) b hb hs]
    unfold hset
    rw [Array.getElem?_modify]
    obtain ⟨pb, o, s⟩ := p
    simp only at hs
    subst hs
    rw [Addr.add_none]
    rw [if_neg (by simpa using Ne.symm hb)]
theorem size_hsets {p : Addr} : ∀ (vs : List Value) (h : Heap) (i : Nat), (hsets h p vs i).size = h.size
  | [], _, _ => rfl
  | v :: vs, h, i => by unfold hsets; rw [size_hsets vs]; simp [hset]

theorem Row.set {α : Type} {E : Elem α} {l : List α} {vs : List Value} {h : Heap} {f : List Nat} (r : Row E vs l h f) {i : Nat} (hi : i < l.length) {xs : List Value} {x : α} {fx : List Nat} (ho : E.own xs x h fx) :
    ∃ f1 f2 f3, f = f1 ++ f2 ++ f3 ∧ Row E (vs.take (i * E.size) ++ xs ++ vs.drop (i * E.size + xs.length)) (l.set i x) h (f1 ++ fx ++ f3) := by
  have hl : l = l.take i ++ l[i] :: l.drop (i + 1) := by simp
  rw [hl] at r
  obtain ⟨v1, v2, f1, f2, rfl, rfl, h1, h2⟩ := r.split
  obtain ⟨ys, v3, f3, f4, rfl, rfl, h3, h4⟩ := h2
  refine ⟨f1, f3, f4, by simp, ?_⟩
  have hv1 : v1.length = i * E.size := by rw [h1.len, List.length_take]; congr 1; omega
  have hxs := E.len ho
  have hys := E.len h3
  rw [List.take_left' hv1, ← List.append_assoc v1 ys v3, List.drop_left' (by rw [List.length_append]; omega)]
  have : l.set i x = l.take i ++ x :: l.drop (i + 1) := by rw [List.set_eq_take_append_cons_drop, if_pos hi]
  rw [this, List.append_assoc, List.append_assoc]
  exact h1.append ⟨xs, v3, fx, f4, rfl, rfl, ho, h4⟩

theorem take_put (c vs : List Value) (o n : Nat) (h : o + vs.length ≤ n) (hn : n ≤ c.length) :
    (c.take o ++ vs ++ c.drop (o + vs.length)).take n = (c.take n).take o ++ vs ++ (c.take n).drop (o + vs.length) := by
  have h1 : (c.take o).length = o := by rw [List.length_take]; omega
  have h2 : (c.take o ++ vs).length = o + vs.length := by rw [List.length_append, h1]
  rw [List.take_append, List.take_of_length_le (by omega), h2, List.take_take, Nat.min_eq_left (by omega), List.drop_take]

/-- A store into a slice's own row: at whatever cells. -/
theorem st_raw {α : Type} {si : SlI} {E : Elem α} {h0 h : Heap} {L : List As} {M : As} {s : Sl} {l l' : List α} {a : Addr} {q : Nat} {vs : List Value} {K : Heap → Prop}
    (S : Sep h0 h (ownSl si E s l :: M :: L)) (ha : s.a = some a) (h1 : ∀ v ∈ vs, v.oneCell' = true) (hq : q + vs.length ≤ l.length * E.size) (hlen : l'.length = l.length)
    (hrow : ∀ us f fM, Row E us l h f → M h fM → ∃ g, Row E (us.take q ++ vs ++ us.drop (q + vs.length)) l' h g ∧ (∀ b ∈ g, b ∈ f ∨ b ∈ fM) ∧ ((f ++ fM).Nodup → g.Nodup))
    (hK : ∀ h', Sep h0 h' (ownSl si E s l' :: L) → K h') : st vs h (a.add q) K := by
  obtain ⟨f, ⟨f1, f2, rfl, o1, f3, f4, rfl, o2, o3⟩, hnd, hbd⟩ := S.owns
  obtain ⟨hsz, us, f', ho, hl, hm, hr, rfl⟩ := o1
  rcases hOwn_iff.1 ho with ⟨e1, e2 | ⟨g, cur, e2, e3, e4, e5, e6, e7⟩⟩
  · rw [e2] at ha; simp at ha
  · rw [e2] at ha
    injection ha with ha
    subst ha
    have hus : us.length = l.length * E.size := hr.len
    have hfit : q + vs.length ≤ cur.size := by
      rw [e6]
      refine Nat.le_trans hq ?_
      rw [hsz]
      exact Nat.mul_le_mul_right _ (by omega)
    rw [Addr.add_none, Nat.zero_add]
    refine ⟨fun j hj => ?_, h1, hK _ ?_⟩
    · rw [Addr.add_none]
      unfold hcell hfrozen
      simp only [e3]
      refine ⟨?_, ?_⟩
      · rw [show cur[q + j]? = some _ from Array.getElem?_eq_getElem (by omega)]; rfl
      · simp
    · refine Sep.step (M := [ownSl si E s l, M]) (M' := [ownSl si E s l']) S (fun A hA => by rw [List.mem_singleton.1 hA]; exact loc_ownSl) ?_
      clear hnd hbd o2 o3 hr
      rintro z ⟨q1, q2, rfl, ⟨_, us', f'', ho2, _, _, hrow', rfl⟩, q3, q4, rfl, o2, rfl⟩ hnd hlt
      have huse : us' = us := by
        rcases hOwn_iff.1 ho2 with ⟨d1, d2 | ⟨g', cur', d2, d3, d4, d5, d6, d7⟩⟩
        · rw [d2] at e2; simp at e2
        · rw [e2] at d2
          simp at d2
          subst d2
          rw [e3] at d3
          simp at d3
          subst d3
          rw [← d7, e7]
      subst huse
      have hblk : s.blk = some g := by rw [Sl.blk, e2]; rfl
      simp only [hblk, Option.toList_some, List.append_nil] at hnd hlt ⊢
      have hdis := List.nodup_append.1 hnd
      have hd1 := List.nodup_append.1 hdis.1
      have keep : ∀ b, b ≠ g → (hsets h ⟨g, q, none⟩ vs 0)[b]? = h[b]? := fun b hb => hsets_other vs h 0 b hb rfl
      have hg2 := hsets_same vs h cur q 0 e3
      rw [Nat.add_zero] at hg2
      obtain ⟨w, hw, hwm, hwn⟩ := hrow us' f'' q3 hrow' o2
      have hng : ∀ b ∈ w, b ≠ g := fun b hb e => by
        subst e
        rcases hwm b hb with h2 | h2
        · exact hd1.2.2 b (by simp) b h2 rfl
        · exact hdis.2.2 b (by simp) b h2 rfl
      have hrow3 := Row.loc (h' := hsets h ⟨g, q, none⟩ vs 0) hw fun b hb => keep b (hng b hb)
      refine ⟨[g] ++ w, ⟨[g] ++ w, [], (List.append_nil _).symm, ⟨hsz, _, _, hOwn_iff.2 ⟨?_, .inr ⟨g, _, e2, hg2, e4, e5, by rw [size_putAt, e6], ?_⟩⟩, by rw [hlen]; exact hl, by rw [hlen]; exact hm, hrow3, by rw [hblk]; rfl⟩, rfl⟩, ?_, by rw [size_hsets]; exact Nat.le_refl _, ?_, ?_⟩
      · simp only [List.length_append, List.length_take, List.length_drop]
        rw [← e1]
        omega
      · rw [putAt_eq vs cur _ hfit, ← e7]
        have hle : s.len * si.size ≤ cur.toList.length := by rw [Array.length_toList, e6]; exact Nat.mul_le_mul_right _ e4
        exact take_put cur.toList vs _ _ (by rw [← e1, hus]; exact hq) hle
      · refine List.nodup_append.2 ⟨by simp, hwn (List.nodup_append.2 ⟨hd1.2.1, hdis.2.1, fun a ha b hb => hdis.2.2 a (by simp [ha]) b hb⟩), fun a ha b hb e => ?_⟩
        simp at ha
        subst ha
        exact hng b hb e.symm
      · intro b _ hnb
        exact keep b fun e => hnb (by simp [e])
      · intro b hb
        rw [size_hsets]
        have hin : b ∈ [g] ++ f'' ++ q3 := by
          rcases List.mem_append.1 hb with h2 | h2
          · simp at h2; simp [h2]
          · rcases hwm b h2 with h3 | h3 <;> simp [h3]
        exact ⟨.inl hin, hlt b hin⟩

/-- A store of an element. -/
theorem st_rule {α : Type} {si : SlI} {E : Elem α} {h0 h : Heap} {L : List As} {s : Sl} {l : List α} {p : Addr} {n i : Nat} {vs : List Value} {x : α} {K : Heap → Prop}
    (S : Sep h0 h (ownSl si E s l :: ownEl E vs x :: L)) (hp : At n s i p) (hn : n = E.size) (hi : i < l.length)
    (hK : ∀ h', Sep h0 h' (ownSl si E s (l.set i x) :: L) → K h') : st vs h p K := by
  obtain ⟨hs, a, ha, rfl⟩ := hp
  subst hn
  obtain ⟨fx, hox⟩ := S.drop.get
  have hvl : vs.length = E.size := E.len hox
  refine st_raw S ha (E.one hox) ?_ (by simp) ?_ hK
  · rw [hvl, ← Nat.succ_mul]; exact Nat.mul_le_mul_right _ (by omega)
  · intro us f fM hr hM
    obtain ⟨w1, w2, w3, rfl, hrow2⟩ := hr.set hi hM
    refine ⟨_, hrow2, fun b hb => ?_, fun hnd => ?_⟩
    · rcases List.mem_append.1 hb with hb | hb
      · rcases List.mem_append.1 hb with hb | hb <;> simp [hb]
      · simp [hb]
    · have hd := List.nodup_append.1 hnd
      have hw := List.nodup_append.1 hd.1
      have hw1 := List.nodup_append.1 hw.1
      refine List.nodup_append.2 ⟨List.nodup_append.2 ⟨hw1.1, hd.2.1, fun a ha b hb => hd.2.2 a (by simp [ha]) b hb⟩, hw.2.1, fun a ha b hb => ?_⟩
      rcases List.mem_append.1 ha with ha | ha
      · exact hw.2.2 a (by simp [ha]) b hb
      · exact fun e => hd.2.2 b (by simp [hb]) a ha e.symm

theorem Row.sub {α : Type} {E : Elem α} {l : List α} {us : List Value} {h : Heap} {f : List Nat} (r : Row E us l h f) {i : Nat} (hi : i < l.length) {vs : List Value} {x : α} {o : Nat} (ho : o + vs.length ≤ E.size)
    (hx : ∀ xs fx, E.own xs l[i] h fx → E.own (xs.take o ++ vs ++ xs.drop (o + vs.length)) x h fx) :
    Row E (us.take (i * E.size + o) ++ vs ++ us.drop (i * E.size + o + vs.length)) (l.set i x) h f := by
  have hl : l = l.take i ++ l[i] :: l.drop (i + 1) := by simp
  rw [hl] at r
  obtain ⟨v1, v2, f1, f2, rfl, rfl, h1, h2⟩ := r.split
  obtain ⟨ys, v3, f3, f4, rfl, rfl, h3, h4⟩ := h2
  have hv1 : v1.length = i * E.size := by rw [h1.len, List.length_take]; congr 1; omega
  have hys := E.len h3
  have e1 : (v1 ++ (ys ++ v3)).take (i * E.size + o) = v1 ++ ys.take o := by
    rw [List.take_append, List.take_of_length_le (by omega), hv1, Nat.add_sub_cancel_left, List.take_append, show o - ys.length = 0 from by omega]
    simp
  have e2 : (v1 ++ (ys ++ v3)).drop (i * E.size + o + vs.length) = ys.drop (o + vs.length) ++ v3 := by
    rw [List.drop_append, List.drop_of_length_le (by omega), hv1, show i * E.size + o + vs.length - i * E.size = o + vs.length from by omega, List.drop_append, show o + vs.length - ys.length = 0 from by omega]
    simp
  have : l.set i x = l.take i ++ x :: l.drop (i + 1) := by rw [List.set_eq_take_append_cons_drop, if_pos hi]
  rw [this, e1, e2]
  have hn := hx ys f3 h3
  have := h1.append (l' := x :: l.drop (i + 1)) (vs' := (ys.take o ++ vs ++ ys.drop (o + vs.length)) ++ v3) ⟨_, v3, f3, f4, rfl, rfl, hn, h4⟩
  simpa using this

/-- A store into a part of an element: what it owns stays. -/
theorem st_sub {α : Type} {si : SlI} {E : Elem α} {h0 h : Heap} {L : List As} {s : Sl} {l : List α} {p : Addr} {n i o : Nat} {vs : List Value} {x : α} {K : Heap → Prop}
    (S : Sep h0 h (ownSl si E s l :: L)) (hp : At n s i p) (hn : n = E.size) (hi : i < l.length) (h1 : ∀ v ∈ vs, v.oneCell' = true) (ho : o + vs.length ≤ E.size)
    (hx : ∀ h xs fx, E.own xs l[i] h fx → E.own (xs.take o ++ vs ++ xs.drop (o + vs.length)) x h fx)
    (hK : ∀ h', Sep h0 h' (ownSl si E s (l.set i x) :: L) → K h') : st vs h (p.add o) K := by
  obtain ⟨hs, a, ha, rfl⟩ := hp
  subst hn
  have has : a.spot = none := by
    obtain ⟨f, hsz, us, f', ho2, _⟩ := S.get
    exact (hOwn_cells ho2 ha).1
  rw [Addr.add_add _ _ _ has]
  have hloc : Loc (fun _ f => f = []) := fun h _ => h
  refine st_raw (M := fun _ f => f = []) ((S.free (A := fun _ f => f = []) hloc rfl).perm (List.Perm.swap _ _ _)) ha h1 ?_ (by simp) ?_ hK
  · have : (i + 1) * E.size ≤ l.length * E.size := Nat.mul_le_mul_right _ (by omega)
    rw [Nat.succ_mul] at this
    omega
  · rintro us f fM hr rfl
    exact ⟨f, hr.sub hi ho fun xs fx => hx h xs fx, fun b hb => .inl hb, fun hnd => by simpa using hnd⟩

/-- .. of an element that owns nothing. -/
theorem st_flat {α : Type} {si : SlI} {E : Elem α} {h0 h : Heap} {L : List As} {s : Sl} {l : List α} {p : Addr} {n i : Nat} {vs : List Value} {x : α} {K : Heap → Prop}
    (S : Sep h0 h (ownSl si E s l :: L)) (hx : ∀ h, E.own vs x h []) (hp : At n s i p) (hn : n = E.size) (hi : i < l.length)
    (hK : ∀ h', Sep h0 h' (ownSl si E s (l.set i x) :: L) → K h') : st vs h p K :=
  st_rule ((S.free (A := ownEl E vs x) loc_ownEl (hx h)).perm (List.Perm.swap _ _ _)) hp hn hi hK

/-! An element taken out for a while -/
def Elem.opt {α : Type} (E : Elem α) : Elem (Option α) where
  size := E.size
  own xs x h f := match x with
    | some x => E.own xs x h f
    | none => xs.length = E.size ∧ (∀ v ∈ xs, v.oneCell' = true) ∧ f = []
  rd h p x := match x with
    | some x => E.rd h p x
    | none => True
  len := by rintro xs (_ | x) h f o; exact o.1; exact E.len o
  one := by rintro xs (_ | x) h f o; exact o.2.1; exact E.one o
  loc := by rintro xs (_ | x) h f h' o hb; exact o; exact E.loc o hb
  toRd := by rintro xs (_ | x) h f p o hs hc; exact trivial; exact E.toRd o hs hc
  ext := by rintro h h' p (_ | x) r e; exact trivial; exact E.ext r e

theorem Row.some_iff {α : Type} {E : Elem α} : ∀ {l : List α} {vs : List Value} {h : Heap} {f : List Nat}, Row E.opt vs (l.map some) h f ↔ Row E vs l h f
  | [], _, _, _ => Iff.rfl
  | x :: l, vs, h, f => by
    simp only [List.map_cons, Row]
    constructor
    · rintro ⟨xs, vs', f1, f2, e1, e2, ho, hr⟩; exact ⟨xs, vs', f1, f2, e1, e2, ho, Row.some_iff.1 hr⟩
    · rintro ⟨xs, vs', f1, f2, e1, e2, ho, hr⟩; exact ⟨xs, vs', f1, f2, e1, e2, ho, Row.some_iff.2 hr⟩
theorem ownSl_some {α : Type} {si : SlI} {E : Elem α} {s : Sl} {l : List α} {h : Heap} {f : List Nat} : ownSl si E.opt s (l.map some) h f ↔ ownSl si E s l h f := by
  unfold ownSl
  constructor
  · rintro ⟨h1, vs, f', h2, h3, h4, h5, h6⟩; exact ⟨h1, vs, f', h2, by simpa using h3, by simpa using h4, Row.some_iff.1 h5, h6⟩
  · rintro ⟨h1, vs, f', h2, h3, h4, h5, h6⟩; exact ⟨h1, vs, f', h2, by simpa using h3, by simpa using h4, Row.some_iff.2 h5, h6⟩
theorem Sep.opt {α : Type} {si : SlI} {E : Elem α} {h0 h : Heap} {L : List As} {s : Sl} {l : List α} : Sep h0 h (ownSl si E.opt s (l.map some) :: L) ↔ Sep h0 h (ownSl si E s l :: L) :=
  ⟨fun S => S.conv loc_ownSl fun f o => ⟨f, List.Sublist.refl f, ownSl_some.1 o⟩, fun S => S.conv loc_ownSl fun f o => ⟨f, List.Sublist.refl f, ownSl_some.2 o⟩⟩

theorem hOwn_det {h : Heap} {e size : Nat} {s : Sl} {us us' : List Value} (h1 : hOwn h e size s us) (h2 : hOwn h e size s us') : us' = us := by
  rcases hOwn_iff.1 h1 with ⟨e1, e2 | ⟨g, cur, e2, e3, e4, e5, e6, e7⟩⟩
  · rcases hOwn_iff.1 h2 with ⟨d1, _⟩
    rw [e2] at e1 d1
    simp at e1 d1
    rw [e1, d1]
  · rcases hOwn_iff.1 h2 with ⟨d1, d2 | ⟨g', cur', d2, d3, d4, d5, d6, d7⟩⟩
    · rw [d2] at e2; simp at e2
    · rw [e2] at d2
      simp at d2
      subst d2
      rw [e3] at d3
      simp at d3
      subst d3
      rw [← d7, e7]

theorem Sep.takeOut {α : Type} {si : SlI} {E : Elem α} {h0 h : Heap} {L : List As} {s : Sl} {l : List (Option α)} {i : Nat} {x : α} (S : Sep h0 h (ownSl si E.opt s l :: L)) (hi : i < l.length) (hx : l[i] = some x) :
    ∃ xs, (∀ p, At E.size s i p → ∀ j v, xs[j]? = some v → hcell h (p.add j) = some v) ∧ Sep h0 h (ownSl si E.opt s (l.set i none) :: ownEl E xs x :: L) := by
  obtain ⟨f, hsz, us, f', ho, hl, hm, hr, rfl⟩ := S.get
  have key : ∀ f', Row E.opt us l h f' → ∃ f1 f2 f3, f' = f1 ++ f2 ++ f3 ∧ E.own ((us.drop (i * E.size)).take E.size) x h f2 ∧ Row E.opt us (l.set i none) h (f1 ++ f3) := by
    intro f' hr
    have hsp : l = l.take i ++ l[i] :: l.drop (i + 1) := by simp
    rw [hsp] at hr
    obtain ⟨v1, v2, f1, f2, rfl, rfl, h1, h2⟩ := hr.split
    obtain ⟨ys, v3, f3, f4, rfl, rfl, h3, h4⟩ := h2
    have hv1 : v1.length = i * E.size := by rw [h1.len, List.length_take]; show min i l.length * E.size = _; congr 1; omega
    rw [hx] at h3
    have hys := E.len (x := x) h3
    have e1 : ((v1 ++ (ys ++ v3)).drop (i * E.size)).take E.size = ys := by
      rw [List.drop_left' hv1, List.take_left' hys]
    refine ⟨f1, f3, f4, by simp, by rw [e1]; exact h3, ?_⟩
    have : l.set i none = l.take i ++ none :: l.drop (i + 1) := by rw [List.set_eq_take_append_cons_drop, if_pos hi]
    rw [this]
    have h5 : Row E.opt (ys ++ v3) (none :: l.drop (i + 1)) h f4 := ⟨ys, v3, [], f4, rfl, rfl, ⟨hys, E.one (x := x) h3, rfl⟩, h4⟩
    exact h1.append h5
  refine ⟨(us.drop (i * E.size)).take E.size, fun p hat j v hj => ?_, ?_⟩
  · obtain ⟨_, a, ha, rfl⟩ := hat
    have hc := hOwn_cells ho ha
    rw [Addr.add_add _ _ _ hc.1]
    refine hc.2 _ _ ?_
    rw [List.getElem?_take] at hj
    split at hj
    · rwa [List.getElem?_drop] at hj
    · simp at hj
  · refine Sep.step (M := [ownSl si E.opt s l]) (M' := [ownSl si E.opt s (l.set i none), ownEl E _ x]) S (fun A hA => ?_) ?_
    · rcases List.mem_cons.1 hA with rfl | hA
      · exact loc_ownSl
      · rw [List.mem_singleton.1 hA]; exact loc_ownEl
    · rintro q ⟨q1, q2, rfl, ⟨_, us', f'', ho2, _, _, hr2, rfl⟩, rfl⟩ hnd hlt
      have := hOwn_det ho ho2
      subst this
      obtain ⟨f1, f2, f3, rfl, hx2, hr3⟩ := key f'' hr2
      simp only [List.append_nil] at hnd hlt ⊢
      refine ⟨(s.blk.toList ++ (f1 ++ f3)) ++ f2, ⟨_, f2, rfl, ⟨hsz, us', _, ho2, by simpa using hl, by simpa using hm, hr3, rfl⟩, ⟨f2, [], (List.append_nil _).symm, hx2, rfl⟩⟩, ?_, Nat.le_refl _, by intros; trivial, ?_⟩
      · refine (List.Perm.nodup_iff ?_).2 hnd
        rw [List.append_assoc]
        refine List.Perm.append_left _ ?_
        rw [List.append_assoc, List.append_assoc]
        exact List.Perm.append_left _ List.perm_append_comm
      · intro b hb
        have hb' : b ∈ s.blk.toList ++ (f1 ++ f2 ++ f3) := by
          rcases List.mem_append.1 hb with h1 | h1
          · rcases List.mem_append.1 h1 with h1 | h1
            · simp [h1]
            · rcases List.mem_append.1 h1 with h1 | h1 <;> simp [h1]
          · simp [h1]
        exact ⟨.inl hb', hlt b hb'⟩

theorem Sl.v_inj {s t : Sl} (h : s.v = t.v) : s = t := by
  obtain ⟨a, n, c⟩ := s
  obtain ⟨a', n', c'⟩ := t
  simp at h
  obtain ⟨rfl, rfl, rfl⟩ := h
  rfl
/-- An element that is a slice, as a slice. -/
theorem Sep.ofEl {α : Type} {ri : SlI} {E : Elem α} {h0 h : Heap} {L : List As} {xs : List Value} {l : List α} (S : Sep h0 h (ownEl (Elem.sl ri E) xs l :: L)) : ∃ s : Sl, xs = [s.v] ∧ Sep h0 h (ownSl ri E s l :: L) := by
  obtain ⟨f, s, rfl, _⟩ := S.get
  refine ⟨s, rfl, S.conv loc_ownSl fun g o => ?_⟩
  obtain ⟨s', e, o⟩ := o
  have : s'.v = s.v := by simpa using e.symm
  have := Sl.v_inj this
  subst this
  exact ⟨g, List.Sublist.refl g, o⟩

/-- 'm[i] = append(m[i], x)', x owning nothing. -/
theorem app_row {α : Type} {si ri : SlI} {E : Elem α} {h0 h : Heap} {L : List As} {s : Sl} {ll : List (List α)} {i : Nat} {v : Value} {x : α} {K : Heap → Prop}
    (S : Sep h0 h (ownSl si (Elem.sl ri E) s ll :: L)) (hi : i < ll.length) (hx : ∀ h, E.own v.cells.toList x h []) (hz : ri.zero.cells.size = ri.size) (hs24 : ri.size ≤ 16777216)
    (hb : (ll[i].length + 1) * ri.bytes ≤ 140737488355328) (hb1 : ll[i].length + 1 ≤ 140737488355328)
    (hK : ∀ h', Sep h0 h' (ownSl si (Elem.sl ri E) s (ll.set i (ll[i] ++ [x])) :: L) → K h') :
    idx 1 s (i : Int) fun p => ld .sl h p fun y => bld ri 1 [(0, v)] h fun t h1 => app ri y t h1 fun y' h2 => idx 1 s (i : Int) fun p2 => st [y'.v] h2 p2 fun h3 => K h3 := by
  have hrd := S.rd
  refine idx_rdN hrd rfl hi fun p hat _ => ?_
  obtain ⟨xs, hc, S2⟩ := (Sep.opt.2 S).takeOut (i := i) (x := ll[i]) (by simpa using hi) (by simp)
  obtain ⟨y, rfl, S3⟩ := S2.swap.ofEl
  refine ld_one (x := y) ?_ ?_
  · have := hc p hat 0 y.v rfl
    rwa [Addr.add_zero'] at this
  · refine app1_flat S3 hx hz hs24 hb hb1 fun y' h' S4 => ?_
    have hrd4 := S4.swap.rd
    refine idx_rdN (i := i) hrd4 rfl (show i < ((ll.map some).set i none).length by simpa using hi) fun p2 hat2 _ => ?_
    have S5 : Sep h0 h' (ownSl si (Elem.opt (Elem.sl ri E)) s ((ll.map some).set i none) :: ownEl (Elem.opt (Elem.sl ri E)) [y'.v] (some (ll[i] ++ [x])) :: L) := S4.toEl.swap
    refine st_rule S5 hat2 rfl (by simpa using hi) fun h'' S6 => hK h'' ?_
    refine Sep.opt.1 (S6.cast ?_)
    congr 2
    rw [List.set_set, List.map_set]

/-! ### Cutting, copying -/

/-- 's[:k]' of one's own, whose elements own nothing. -/
theorem slc_to {α : Type} {si : SlI} {E : Elem α} {h0 h : Heap} {L : List As} {s : Sl} {l : List α} {n : Nat} {k : Int} {K : Sl → Prop}
    (S : Sep h0 h (ownSl si E s l :: L)) (h1 : 0 ≤ k) (h2 : k ≤ l.length)
    (hK : ∀ s', Sep h0 h (ownSl si E s' (l.take k.toNat) :: L) → K s') : slc n s none (some k) K := by
  have hrd := S.rd
  obtain ⟨r1, r2, _⟩ := hrd
  refine ⟨by simp, by simpa using h1, by simp; omega, hK _ (S.conv loc_ownSl ?_)⟩
  rintro f ⟨hsz, us, f', ho, hl, hm, hr, rfl⟩
  have hsplit : l = l.take k.toNat ++ l.drop k.toNat := by simp
  rw [hsplit] at hr
  obtain ⟨v1, v2, g1, g2, rfl, rfl, hr1, hr2⟩ := hr.split
  have hv1 : v1.length = k.toNat * E.size := by rw [hr1.len, List.length_take]; congr 1; omega
  simp only [Option.getD_none, Option.getD_some, Int.toNat_zero, Nat.zero_mul, Nat.sub_zero]
  refine ⟨s.blk.toList ++ g1, ?_, hsz, v1, g1, ?_, by simp; omega, by simp; omega, hr1, ?_⟩
  · exact (List.Sublist.refl _).append (List.sublist_append_left _ _)
  · rcases hOwn_iff.1 ho with ⟨e1, e2 | ⟨g, cur, e2, e3, e4, e5, e6, e7⟩⟩
    · rw [e2] at hl e1 ⊢
      have hk0 : k.toNat = 0 := by simp at hl; omega
      refine hOwn_iff.2 ⟨by rw [hv1, hk0]; simp, .inl ?_⟩
      simp [hk0]
    · refine hOwn_iff.2 ⟨by rw [hv1, hsz], .inr ⟨g, cur, ?_, e3, ?_, e5, e6, ?_⟩⟩
      · simp [e2]; intro _; rw [Addr.add_none]
      · show k.toNat ≤ s.cap; omega
      · show cur.toList.take (k.toNat * si.size) = v1
        have := congrArg (List.take (k.toNat * si.size)) e7
        rw [List.take_take] at this
        rw [Nat.min_eq_left (Nat.mul_le_mul_right _ (by omega))] at this
        rw [this, List.take_left' (by rw [hv1, hsz])]
  · congr 1
    unfold Sl.blk
    simp only
    split
    · rfl
    · cases s.a <;> simp [Addr.add]

/-- An element that owns nothing can be copied: its cells say all. -/
structure Elem.Flat {α : Type} (E : Elem α) : Prop where
  cells : ∀ {h p x}, E.rd h p x → p.spot = none → ∃ xs, (∀ h', E.own xs x h' []) ∧ ∀ j v, xs[j]? = some v → hcell h (p.add j) = some v
theorem Elem.cell_flat {α : Type} (f : α → Value) (h1 : ∀ x, (f x).oneCell' = true) : (Elem.cell f h1).Flat :=
  ⟨fun {h p x} hr _ => ⟨[f x], fun _ => ⟨rfl, rfl⟩, fun j v hj => by
    cases j with
    | zero => simp at hj; subst hj; rw [Addr.add_zero']; exact hr
    | succ j => simp at hj⟩⟩
theorem flat_row {α : Type} {E : Elem α} (hf : E.Flat) {h : Heap} : ∀ {l : List α} {p : Addr}, p.spot = none → (∀ i (hi : i < l.length), E.rd h (p.add (i * E.size)) l[i]) →
    ∃ vs, (∀ h', Row E vs l h' []) ∧ ∀ j v, vs[j]? = some v → hcell h (p.add j) = some v
  | [], _, _, _ => ⟨[], fun _ => ⟨rfl, rfl⟩, by simp⟩
  | x :: l, p, hs, hr => by
    have h0 := hr 0 (by simp)
    simp only [Nat.zero_mul, Addr.add_zero', List.getElem_cons_zero] at h0
    obtain ⟨xs, hx, hc⟩ := hf.cells h0 hs
    have hlen := E.len (hx h)
    obtain ⟨vs, hv, hcv⟩ := flat_row hf (p := p.add E.size) (l := l) (Addr.spot_add _ _ hs) fun i hi => by
      have := hr (i + 1) (by simpa using hi)
      rw [Addr.add_add _ _ _ hs, Nat.add_comm, ← Nat.succ_mul]
      simpa using this
    refine ⟨xs ++ vs, fun h' => ⟨xs, vs, [], [], rfl, rfl, hx h', hv h'⟩, fun j v hj => ?_⟩
    by_cases hjl : j < xs.length
    · rw [List.getElem?_append_left hjl] at hj; exact hc j v hj
    · rw [List.getElem?_append_right (by omega)] at hj
      have := hcv _ _ hj
      rw [Addr.add_add _ _ _ hs] at this
      rw [← this]
      congr 2
      omega

/-- 'append(s, t...)' of elements that own nothing. -/
theorem app_copy {α : Type} {si : SlI} {E : Elem α} {h0 h : Heap} {L : List As} {s t : Sl} {l l' : List α} {K : Sl → Heap → Prop}
    (S : Sep h0 h (ownSl si E s l :: L)) (hf : E.Flat) (hr : rdSl E h t l') (hb : (l.length + l'.length) * si.bytes ≤ 140737488355328) (hb1 : l.length + l'.length ≤ 140737488355328)
    (hK : ∀ s' h', Sep h0 h' (ownSl si E s' (l ++ l') :: L) → K s' h') : app si s t h K := by
  obtain ⟨_, hsz, _⟩ := S.get
  obtain ⟨r1, r2, r3, r5, r6⟩ := hr
  have hnil : t.a = none → t.len = 0 ∧ t.cap = 0 := fun e => by have := r5 e; omega
  rcases r6 with r6 | ⟨a, ha, hs, r6⟩
  · subst r6
    have S2 := (S.free (A := ownRow E [] ([] : List α)) loc_ownRow ⟨rfl, rfl⟩).perm (List.Perm.swap _ _ _)
    exact app_rule S2 ⟨by rw [r1]; simp, .inl rfl⟩ r1 hnil hb hb1 hK
  · obtain ⟨vs, hv, hc⟩ := flat_row hf hs r6
    have S2 := (S.free (A := ownRow E vs l') loc_ownRow (hv h)).perm (List.Perm.swap _ _ _)
    exact app_rule S2 ⟨by rw [(hv h).len, r1, hsz], .inr ⟨a, ha, hc⟩⟩ r1 hnil hb hb1 hK
end Go.Fw
