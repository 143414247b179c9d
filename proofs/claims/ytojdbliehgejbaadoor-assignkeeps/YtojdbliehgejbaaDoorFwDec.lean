/-
  Data that comes in: structs, slices of them, as they read.
-/
import Derived.Test.YtojdbliehgejbaaDoorFwRow
import Derived.Test.YtojdbliehgejbaaDoorFwLaw
namespace Go.Fw
open Go.ChangeShapes Go.WideShapes Go.Deep

/-- How data reads from its cells. -/
structure RV (α : Type) where
  size : Nat
  rv : Heap → List Value → α → Prop
  len : ∀ {h cs x}, rv h cs x → cs.length = size
  one : ∀ {h cs x}, rv h cs x → ∀ v ∈ cs, v.oneCell' = true
  ext : ∀ {h h' cs x}, rv h cs x → hExt h h' → rv h' cs x

/-- As an element of a slice that is only read. -/
def RV.el {α : Type} (E : RV α) : Elem α where
  size := E.size
  own _ _ _ _ := False
  rd h p x := p.spot = none ∧ ∃ cs, (∀ j v, cs[j]? = some v → hcell h (p.add j) = some v) ∧ E.rv h cs x
  len o := o.elim
  one o := o.elim
  loc o _ := o.elim
  toRd o := o.elim
  ext r e := ⟨r.1, by obtain ⟨cs, h1, h2⟩ := r.2; exact ⟨cs, fun j v hj => e _ _ (h1 j v hj), E.ext h2 e⟩⟩

def RV.cell {α : Type} (f : α → Value) (h1 : ∀ x, (f x).oneCell' = true) : RV α where
  size := 1
  rv _ cs x := cs = [f x]
  len h := by rw [h]; rfl
  one h v hv := by rw [h] at hv; simp at hv; rw [hv]; exact h1 _
  ext h _ := h
@[reducible] def rInt : RV Int := .cell (fun n => .int .i64 n) (fun _ => rfl)
@[reducible] def rBool : RV Bool := .cell (fun b => .bool b) (fun _ => rfl)
@[reducible] def rStr : RV ByteArray := .cell (fun s => .string s) (fun _ => rfl)
def RV.sl {α : Type} (E : RV α) : RV (List α) where
  size := 1
  rv h cs l := ∃ s : Sl, cs = [s.v] ∧ rdSl E.el h s l
  len h := by obtain ⟨s, rfl, _⟩ := h; rfl
  one h v hv := by obtain ⟨s, rfl, _⟩ := h; simp at hv; rw [hv]; rfl
  ext h e := by obtain ⟨s, h1, h2⟩ := h; exact ⟨s, h1, h2.ext e⟩
def RV.unit : RV Unit where
  size := 0
  rv _ cs _ := cs = []
  len h := by rw [h]; rfl
  one h v hv := by rw [h] at hv; simp at hv
  ext h _ := h
def RV.two {α β : Type} (A : RV α) (B : RV β) : RV (α × β) where
  size := A.size + B.size
  rv h cs x := ∃ c1 c2, cs = c1 ++ c2 ∧ A.rv h c1 x.1 ∧ B.rv h c2 x.2
  len h := by obtain ⟨c1, c2, rfl, h1, h2⟩ := h; rw [List.length_append, A.len h1, B.len h2]
  one h v hv := by
    obtain ⟨c1, c2, rfl, h1, h2⟩ := h
    rcases List.mem_append.1 hv with hv | hv
    · exact A.one h1 v hv
    · exact B.one h2 v hv
  ext h e := by obtain ⟨c1, c2, h0, h1, h2⟩ := h; exact ⟨c1, c2, h0, A.ext h1 e, B.ext h2 e⟩
def RV.via {α β : Type} (E : RV α) (f : β → α) : RV β where
  size := E.size
  rv h cs y := E.rv h cs (f y)
  len h := E.len h
  one h := E.one h
  ext h e := E.ext h e

/-! ### Fields -/
structure Fld {α β : Type} (E : RV α) (A : RV β) (o : Nat) (g : α → β) : Prop where
  get : ∀ {h : Heap} {cs : List Value} {x : α}, E.rv h cs x → ∃ c, (∀ j v, c[j]? = some v → cs[o + j]? = some v) ∧ A.rv h c (g x)
theorem Fld.fst {α β : Type} {A : RV α} {B : RV β} : Fld (A.two B) A 0 Prod.fst := by
  constructor
  rintro h cs x ⟨c1, c2, rfl, h1, h2⟩
  exact ⟨c1, fun j v hj => by rw [Nat.zero_add, List.getElem?_append_left (List.getElem?_eq_some_iff.1 hj).1]; exact hj, h1⟩
theorem Fld.snd {α β : Type} {A : RV α} {B : RV β} : Fld (A.two B) B A.size Prod.snd := by
  constructor
  rintro h cs x ⟨c1, c2, rfl, h1, h2⟩
  exact ⟨c2, fun j v hj => by rw [List.getElem?_append_right (by rw [A.len h1]; omega), A.len h1, Nat.add_sub_cancel_left]; exact hj, h2⟩
theorem Fld.trans {α β γ : Type} {E : RV α} {A : RV β} {B : RV γ} {o o' n : Nat} {g : α → β} {g' : β → γ} (h : Fld E A o g) (k : Fld A B o' g') (hn : n = o + o') : Fld E B n (fun x => g' (g x)) := by
  subst hn
  constructor
  intro hp cs x hx
  obtain ⟨c, h1, h2⟩ := h.get hx
  obtain ⟨d, h3, h4⟩ := k.get h2
  exact ⟨d, fun j v hj => by rw [Nat.add_assoc]; exact h1 _ _ (h3 j v hj), h4⟩
theorem Fld.via {α β γ : Type} {E : RV α} {A : RV β} {o : Nat} {g : α → β} {f : γ → α} (h : Fld E A o g) : Fld (E.via f) A o (fun y => g (f y)) := ⟨fun hx => h.get hx⟩
theorem Fld.refl {α : Type} {E : RV α} : Fld E E 0 (fun x => x) := ⟨fun hx => ⟨_, fun j v hj => by rw [Nat.zero_add]; exact hj, hx⟩⟩

/-- A field reads at its place. -/
theorem Fld.rd {α β : Type} {E : RV α} {A : RV β} {o : Nat} {g : α → β} (f : Fld E A o g) {h : Heap} {p : Addr} {x : α} (r : E.el.rd h p x) : A.el.rd h (p.add o) (g x) := by
  obtain ⟨hs, cs, hc, hx⟩ := r
  obtain ⟨c, h1, h2⟩ := f.get hx
  refine ⟨Addr.spot_add p o hs, c, fun j v hj => ?_, h2⟩
  rw [Addr.add_add _ _ _ hs]
  exact hc _ _ (h1 j v hj)
theorem el_two {α : Type} {E : RV α} {h : Heap} {p : Addr} {x : α} {a b : Nat} (hs : p.spot = none) (r : E.el.rd h (p.add (a + b)) x) : E.el.rd h ((p.add a).add b) x := by
  rw [Addr.add_add _ _ _ hs]; exact r

theorem ld_int {hb h : Heap} {p : Addr} {n : Int} {K : Int → Prop} (r : rInt.el.rd hb p n) (e : hExt hb h) (hK : K n) : ld (.int .i64) h p K := by
  obtain ⟨hs, cs, hc, rfl⟩ := r
  have := hc 0 _ rfl
  rw [Addr.add_zero'] at this
  exact ⟨n, e _ _ this, hK⟩
theorem ld_bool {hb h : Heap} {p : Addr} {n : Bool} {K : Bool → Prop} (r : rBool.el.rd hb p n) (e : hExt hb h) (hK : K n) : ld .bool h p K := by
  obtain ⟨hs, cs, hc, rfl⟩ := r
  have := hc 0 _ rfl
  rw [Addr.add_zero'] at this
  exact ⟨n, e _ _ this, hK⟩
theorem ld_str {hb h : Heap} {p : Addr} {n : ByteArray} {K : ByteArray → Prop} (r : rStr.el.rd hb p n) (e : hExt hb h) (hK : K n) : ld .str h p K := by
  obtain ⟨hs, cs, hc, rfl⟩ := r
  have := hc 0 _ rfl
  rw [Addr.add_zero'] at this
  exact ⟨n, e _ _ this, hK⟩
theorem ld_lst {α : Type} {E : RV α} {hb h : Heap} {p : Addr} {l : List α} {K : Sl → Prop} (r : (RV.sl E).el.rd hb p l) (e : hExt hb h) (hK : ∀ s, rdSl E.el hb s l → K s) : ld .sl h p K := by
  obtain ⟨hs, cs, hc, s, rfl, hr⟩ := r
  have := hc 0 _ rfl
  rw [Addr.add_zero'] at this
  exact ⟨s, e _ _ this, hK s hr⟩
theorem ld_agg {α : Type} {E : RV α} {hb h : Heap} {p : Addr} {n : Nat} {x : α} {K : Array Value → Prop} (r : E.el.rd hb p x) (e : hExt hb h) (hn : n = E.size) (hK : ∀ cs : Array Value, E.rv hb cs.toList x → K cs) : ld (.agg n) h p K := by
  obtain ⟨hs, cs, hc, hx⟩ := r
  refine ⟨cs.toArray, ⟨by simp [E.len hx, hn], fun j v hj => e _ _ (hc j v (by simpa using hj))⟩, hK _ (by simpa using hx)⟩

/-- A box for a value. -/
theorem new_rv {α : Type} {E : RV α} {h : Heap} {t : TypeId} {cs : Array Value} {x : α} {K : Addr → Heap → Prop} (r : E.rv h cs.toList x) (hK : ∀ p h', Old h h' → E.el.rd h' p x → K p h') : new t cs h K := by
  refine hK _ _ (Old.push _ _) ⟨rfl, cs.toList, fun j v hj => ?_, E.ext r (Old.push _ _).ext⟩
  rw [Addr.add_none, Nat.zero_add]
  unfold hcell
  simp only [Array.getElem?_push_size]
  simpa using hj

/-- A box for a value, laid out of zeros, filled then. -/
theorem new_st {α : Type} {E : RV α} {h : Heap} {t : TypeId} {zs cs : Array Value} {x : α} {n : Nat} {K : Addr → Heap → Prop} (r : E.rv h cs.toList x) (hz : zs.size = E.size) (hn : n = E.size) (hK : ∀ p h', Old h h' → E.el.rd h' p x → K p h') :
    new t zs h fun p h1 => cs.size = n ∧ st cs.toList h1 p fun h2 => K p h2 := by
  have hcs : cs.size = E.size := by have := E.len r; simpa using this
  refine ⟨by rw [hcs, hn], fun j hj => ?_, E.one r, hK _ _ ?_ ?_⟩
  · rw [Addr.add_none, Nat.zero_add]
    unfold hcell hfrozen
    simp only [Array.getElem?_push_size]
    have : j < zs.size := by rw [hz, ← hcs]; simpa using hj
    simp [this]
  · refine ⟨by rw [size_hsets]; simp, fun b hb => ?_⟩
    rw [hsets_other _ _ _ _ (show b ≠ h.size by omega) rfl]
    exact (Old.push h _).block b hb
  · have hold : Old h (hsets (h.push (.cells zs t)) ⟨h.size, 0, none⟩ cs.toList 0) := by
      refine ⟨by rw [size_hsets]; simp, fun b hb => ?_⟩
      rw [hsets_other _ _ _ _ (show b ≠ h.size by omega) rfl]
      exact (Old.push h _).block b hb
    refine ⟨rfl, cs.toList, fun j v hj => ?_, E.ext r hold.ext⟩
    have := hsets_same (g := h.size) (e := t) cs.toList (h.push (.cells zs t)) zs 0 0 Array.getElem?_push_size
    rw [Nat.add_zero] at this
    rw [Addr.add_none, Nat.zero_add]
    unfold hcell
    rw [this]
    have hp := putAt_eq cs.toList zs 0 (by simp [hcs, hz])
    simp only [List.take_zero, List.nil_append, Nat.zero_add] at hp
    simp only [Option.isSome_none, Bool.false_eq_true, if_false]
    rw [← Array.getElem?_toList, hp, List.getElem?_append_left (List.getElem?_eq_some_iff.1 hj).1]
    exact hj

/-- A box, what it holds being told of an older memory. -/
def RV.bx {α : Type} (E : RV α) (hb h : Heap) (p : Addr) (x : α) : Prop := p.spot = none ∧ ∃ cs, (∀ j v, cs[j]? = some v → hcell h (p.add j) = some v) ∧ E.rv hb cs x
theorem Fld.bx {α β : Type} {E : RV α} {A : RV β} {o : Nat} {g : α → β} (f : Fld E A o g) {hb h : Heap} {p : Addr} {x : α} (r : E.bx hb h p x) : A.bx hb h (p.add o) (g x) := by
  obtain ⟨hs, cs, hc, hx⟩ := r
  obtain ⟨c, h1, h2⟩ := f.get hx
  refine ⟨Addr.spot_add p o hs, c, fun j v hj => ?_, h2⟩
  rw [Addr.add_add _ _ _ hs]
  exact hc _ _ (h1 j v hj)
theorem RV.bx_old {α : Type} {E : RV α} {hb h h' : Heap} {p : Addr} {x : α} (r : E.bx hb h p x) (o : Old h h') : E.bx hb h' p x := by
  obtain ⟨hs, cs, hc, hx⟩ := r
  exact ⟨hs, cs, fun j v hj => o.ext _ _ (hc j v hj), hx⟩
theorem bx_two {α : Type} {E : RV α} {hb h : Heap} {p : Addr} {x : α} {a b : Nat} (hs : p.spot = none) (r : E.bx hb h (p.add (a + b)) x) : E.bx hb h ((p.add a).add b) x := by
  rw [Addr.add_add _ _ _ hs]; exact r
theorem ld_lstX {α : Type} {E : RV α} {hb h : Heap} {p : Addr} {l : List α} {K : Sl → Prop} (r : (RV.sl E).bx hb h p l) (hK : ∀ s, rdSl E.el hb s l → K s) : ld .sl h p K := by
  obtain ⟨hs, cs, hc, s, rfl, hr⟩ := r
  have := hc 0 _ rfl
  rw [Addr.add_zero'] at this
  exact ⟨s, this, hK s hr⟩
theorem ld_strX {hb h : Heap} {p : Addr} {n : ByteArray} {K : ByteArray → Prop} (r : rStr.bx hb h p n) (hK : K n) : ld .str h p K := by
  obtain ⟨hs, cs, hc, rfl⟩ := r
  have := hc 0 _ rfl
  rw [Addr.add_zero'] at this
  exact ⟨n, this, hK⟩
theorem ld_intX {hb h : Heap} {p : Addr} {n : Int} {K : Int → Prop} (r : rInt.bx hb h p n) (hK : K n) : ld (.int .i64) h p K := by
  obtain ⟨hs, cs, hc, rfl⟩ := r
  have := hc 0 _ rfl
  rw [Addr.add_zero'] at this
  exact ⟨n, this, hK⟩
theorem new_stX {α : Type} {E : RV α} {hb h : Heap} {t : TypeId} {zs cs : Array Value} {x : α} {n : Nat} {K : Addr → Heap → Prop} (r : E.rv hb cs.toList x) (_e : hExt hb h) (hz : zs.size = E.size) (hn : n = E.size) (hK : ∀ p h', Old h h' → E.bx hb h' p x → K p h') :
    new t zs h fun p h1 => cs.size = n ∧ st cs.toList h1 p fun h2 => K p h2 := by
  have hcs : cs.size = E.size := by have := E.len r; simpa using this
  refine ⟨by rw [hcs, hn], fun j hj => ?_, E.one r, hK _ _ ?_ ?_⟩
  · rw [Addr.add_none, Nat.zero_add]
    unfold hcell hfrozen
    simp only [Array.getElem?_push_size]
    have : j < zs.size := by rw [hz, ← hcs]; simpa using hj
    simp [this]
  · refine ⟨by rw [size_hsets]; simp, fun b hb => ?_⟩
    rw [hsets_other _ _ _ _ (show b ≠ h.size by omega) rfl]
    exact (Old.push h _).block b hb
  · refine ⟨rfl, cs.toList, fun j v hj => ?_, r⟩
    have := hsets_same (g := h.size) (e := t) cs.toList (h.push (.cells zs t)) zs 0 0 Array.getElem?_push_size
    rw [Nat.add_zero] at this
    rw [Addr.add_none, Nat.zero_add]
    unfold hcell
    rw [this]
    have hp := putAt_eq cs.toList zs 0 (by simp [hcs, hz])
    simp only [List.take_zero, List.nil_append, Nat.zero_add] at hp
    simp only [Option.isSome_none, Bool.false_eq_true, if_false]
    rw [← Array.getElem?_toList, hp, List.getElem?_append_left (List.getElem?_eq_some_iff.1 hj).1]
    exact hj

/-- The start of what is made may lie further back. -/
theorem Sep.since {h0 h1 h : Heap} {L : List As} (S : Sep h1 h L) (o : Old h0 h1) : Sep h0 h L :=
  ⟨o.trans S.old, S.all, by obtain ⟨f, h2, h3, h4⟩ := S.owns; exact ⟨f, h2, h3, fun b hb => ⟨Nat.le_trans o.size (h4 b hb).1, (h4 b hb).2⟩⟩⟩

/-! ### What the statement tells of arguments -/
def Dec {α : Type} (H : Type) (enc : TypeId × Value → H) (P : Program) (w : World) (t : TypeId) (E : RV α) : Prop :=
  ∀ {fuel : Nat} {cs : List Value} {x : DataW H × List MemPlace}, DataW.trod enc P w 0 (fun _ => true) true fuel t cs = some x → ∃ y, E.rv w.heap cs y

variable {H : Type} {enc : TypeId × Value → H} {P : Program} {w : World}
theorem Dec.int {t : TypeId} (ht : P.underlying t = some (.int .i64)) : Dec H enc P w t rInt := fun h => by
  obtain ⟨n, rfl, _⟩ := DataW.trod_int ht h
  exact ⟨n, rfl⟩
theorem Dec.str {t : TypeId} (ht : P.underlying t = some .string) : Dec H enc P w t rStr := by
  intro fuel cs x h
  cases fuel with
  | zero => simp [DataW.trod] at h
  | succ n =>
    unfold DataW.trod at h
    rw [ht] at h
    split at h <;> simp_all
    exact ⟨_, rfl⟩
theorem Dec.bool {t : TypeId} (ht : P.underlying t = some .bool) : Dec H enc P w t rBool := by
  intro fuel cs x h
  cases fuel with
  | zero => simp [DataW.trod] at h
  | succ n =>
    unfold DataW.trod at h
    rw [ht] at h
    split at h
    case h_1 b e1 => exact ⟨b, rfl⟩
    all_goals simp_all

theorem list_of {α : Type} {R : Nat → α → Prop} : ∀ (n : Nat), (∀ i, i < n → ∃ y, R i y) → ∃ l : List α, l.length = n ∧ ∀ i (hi : i < l.length), R i l[i]
  | 0, _ => ⟨[], rfl, by simp⟩
  | n + 1, h => by
    obtain ⟨l, hl, hr⟩ := list_of n fun i hi => h i (by omega)
    obtain ⟨y, hy⟩ := h n (by omega)
    refine ⟨l ++ [y], by simp [hl], fun i hi => ?_⟩
    rw [List.getElem_append]
    split
    · exact hr i _
    · rename_i hx
      have : i = n := by simp at hi; omega
      subst this
      simpa using hy

theorem Dec.sl {α : Type} {E : RV α} {t e : TypeId} (ht : P.underlying t = some (.slice e)) (he : P.cellsOf e = E.size) (hz : 0 < E.size) (d : Dec H enc P w e E) : Dec H enc P w t E.sl := by
  intro fuel cs x h
  rcases DataW.trod_slice ht h with ⟨rfl, _⟩ | ⟨a, len, cap, elems, rest, n, _, rfl, _, _, hl, hm, hlen, hel, _, _⟩
  · exact ⟨[], ⟨none, 0, 0⟩, rfl, rfl, Nat.le_refl _, by simp, fun _ => rfl, .inl rfl⟩
  · have key : ∀ i, i < len → ∃ y, ∃ cs, cs.length = E.size ∧ (∀ j, j < E.size → w.cell? ((a.add (i * E.size)).add j) = cs[j]?) ∧ E.rv w.heap cs y := fun i hi => by
      have h1 := hel i hi
      have h2 : elems[i]? = some (elems[i]'(by omega)) := List.getElem?_eq_getElem _
      rw [h2] at h1
      simp only [Option.bind_eq_some_iff] at h1
      obtain ⟨cs', hc, hd⟩ := h1
      obtain ⟨_, hcl, hcc⟩ := World.cells?_some hc
      obtain ⟨y, hy⟩ := d hd
      rw [he] at hcl hcc
      exact ⟨y, cs', hcl, hcc, hy⟩
    obtain ⟨l, hll, hr⟩ := list_of (R := fun i y => ∃ cs, cs.length = E.size ∧ (∀ j, j < E.size → w.cell? ((a.add (i * E.size)).add j) = cs[j]?) ∧ E.rv w.heap cs y) len key
    have hm' : cap ≤ 9223372036854775807 := by simpa [maxLen] using hm
    refine ⟨l, ⟨some a, len, cap⟩, rfl, hll.symm, hl, by omega, by simp, ?_⟩
    by_cases h0 : l = []
    · exact .inl h0
    · have hlp : 0 < l.length := List.length_pos_iff.2 h0
      have hspot : a.spot = none := by
        obtain ⟨cs', h1, h2, _⟩ := hr 0 hlp
        have := h2 0 hz
        rw [Nat.zero_mul, Addr.add_zero', Addr.add_zero', List.getElem?_eq_getElem (by omega)] at this
        exact World.cell?_spot this
      refine .inr ⟨a, rfl, hspot, fun i hi => ?_⟩
      obtain ⟨cs', h1, h2, h3⟩ := hr i hi
      refine ⟨Addr.spot_add _ _ hspot, cs', fun j v hj => ?_, h3⟩
      have hj' := (List.getElem?_eq_some_iff.1 hj).1
      rw [← cell_eq]
      show w.cell? ((a.add (i * E.size)).add j) = some v
      rw [h2 j (by omega), hj]

/-- Fields, from an offset on. -/
def DecF {α : Type} (H : Type) (enc : TypeId × Value → H) (P : Program) (w : World) (fs : List Field) (o : Nat) (E : RV α) : Prop :=
  ∀ {n : Nat} {cs : List Value}, (∀ f ∈ fs, ∃ y, DataW.trod enc P w 0 (fun _ => true) true n f.type ((cs.drop f.offset).take (P.cellsOf f.type)) = some y) → cs.length = o + E.size → ∃ y, E.rv w.heap (cs.drop o) y
theorem DecF.nil {o : Nat} : DecF H enc P w [] o RV.unit := fun _ hl => ⟨(), by show _ = []; exact List.drop_of_length_le (by rw [hl]; exact Nat.le_refl _)⟩
theorem DecF.cons {α β : Type} {A : RV α} {B : RV β} {f : Field} {fs : List Field} {o : Nat} (ho : f.offset = o) (hs : P.cellsOf f.type = A.size) (d : Dec H enc P w f.type A) (ds : DecF H enc P w fs (o + A.size) B) :
    DecF H enc P w (f :: fs) o (A.two B) := by
  intro n cs h hl
  obtain ⟨y, hy⟩ := h f (by simp)
  obtain ⟨x, hx⟩ := d hy
  obtain ⟨z, hz⟩ := ds (fun g hg => h g (by simp [hg])) (by rw [hl]; show o + (A.size + B.size) = _; omega)
  refine ⟨(x, z), (cs.drop o).take A.size, cs.drop (o + A.size), ?_, ?_, hz⟩
  · rw [← List.drop_drop, List.take_append_drop]
  · rw [ho, hs] at hx; exact hx
theorem Dec.struct {α : Type} {E : RV α} {t : TypeId} {fs : Array Field} (ht : P.underlying t = some (.struct fs)) (hc : P.cellsOf t = E.size) (d : DecF H enc P w fs.toList 0 E) : Dec H enc P w t E := by
  intro fuel cs x h
  obtain ⟨xs, n, _, _, hl, hxl, hf⟩ := DataW.trod_struct ht h
  obtain ⟨y, hy⟩ := d (n := n) (cs := cs) (fun f hm => by
    obtain ⟨i, hi, rfl⟩ := List.getElem_of_mem hm
    rw [Array.length_toList] at hi
    have := hf i fs[i] (by simp [hi])
    rw [List.getElem?_eq_getElem (by omega)] at this
    exact ⟨_, by simpa using this⟩) (by rw [hl, hc]; omega)
  exact ⟨y, by simpa using hy⟩
theorem Dec.via {α β : Type} {E : RV α} {t : TypeId} {f : β → α} (g : α → β) (hg : ∀ x, f (g x) = x) (d : Dec H enc P w t E) : Dec H enc P w t (E.via f) := fun h => by
  obtain ⟨y, hy⟩ := d h
  exact ⟨g y, by show E.rv _ _ (f (g y)); rw [hg]; exact hy⟩

end Go.Fw
