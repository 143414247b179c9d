/-
  Plain: what can be come to, as the least set; right shapes.
-/
import Derived.Test.YtojdbliehgejbaaDoorPlFlow
import Derived.Test.YtojdbliehgejbaaDoorPlApi
namespace Go.Pl
open Go.Pl.Api

/-- Come to from the first point. -/
inductive Rch (G : Graph) : Nat → Prop where
  | zero (h : 0 < G.length) : Rch G 0
  | step {i k : Nat} (h : Rch G i) (hl : leadsB G i (k : Int) = true) (hk : k < G.length) : Rch G k
theorem Rch.lt {G : Graph} {k : Nat} (h : Rch G k) : k < G.length := by cases h <;> assumption

theorem come_reach {G : Graph} (hG : 0 < G.length) (k : Nat) : (comeOf G).getD k false = true ↔ Rch G k := by
  obtain ⟨_, eo, _, _, _, hcome, hclose, _⟩ := search_says hG
  have hsay := order_says hG
  have all : ∀ i (hi : i < (orderOf G).length), ∃ x : Nat, (orderOf G)[i] = x ∧ Rch G x := by
    intro i
    induction i using Nat.strongRecOn with
    | _ i ih =>
      intro hi
      obtain ⟨x, hx, hxn, _, h0, hl⟩ := hsay i hi
      refine ⟨x, hx, ?_⟩
      rcases Nat.eq_zero_or_pos i with h | h
      · have := h0 h; subst this; exact .zero hG
      · obtain ⟨y, hy, hly⟩ := List.any_eq_true.1 (hl h)
        obtain ⟨j, hj, rfl⟩ := List.getElem_of_mem hy
        rw [List.length_take] at hj
        rw [List.getElem_take] at hly
        obtain ⟨z, hz, hr⟩ := ih j (by omega) (by omega)
        rw [hz] at hly
        exact .step hr (by simpa using hly) hxn
  constructor
  · intro h
    rw [hcome, List.contains_eq_mem] at h
    obtain ⟨i, hi, e⟩ := List.getElem_of_mem (of_decide_eq_true h)
    obtain ⟨x, hx, hr⟩ := all i hi
    rw [hx] at e
    have : x = k := by omega
    exact this ▸ hr
  · intro h
    induction h with
    | zero h => rw [hcome, eo]; simp
    | step _ hl hk ih => exact hclose _ _ ih hk hl

theorem come_len (G : Graph) : (comeOf G).length = G.length := by
  rcases Nat.eq_zero_or_pos G.length with h | h
  · have : G = [] := List.length_eq_zero_iff.1 h
    subst this; rfl
  · obtain ⟨_, _, _, _, hl, _⟩ := search_says h
    exact hl
theorem come_unique {G : Graph} {B : List Bool} (hl : B.length = G.length) (h : ∀ k, k < G.length → (B.getD k false = true ↔ Rch G k)) : B = comeOf G := by
  refine List.ext_getElem (by rw [hl, come_len]) fun i h1 h2 => ?_
  have h3 := h i (by omega)
  have h4 := come_reach (G := G) (by omega) i
  rw [getD_lt h1] at h3
  rw [getD_lt h2] at h4
  have : (B[i] = true) ↔ ((comeOf G)[i] = true) := h3.trans h4.symm
  cases e1 : B[i] <;> cases e2 : (comeOf G)[i] <;> simp_all

/-! Functions of the program's data -/
def rowF (f : MFunc) (l : List ByteArray) : List Int := l.filterMap fun t => (place f t).map fun (k : Nat) => (k : Int)
def graphF (f : MFunc) : Graph := f.blocks.map fun b => rowF f b.term.to
def leadsF (f : MFunc) (a : Nat) (b : Int) : Bool := ((f.blocks[a]?).map fun x => x.term.to.any fun t => match place f t with
  | some k => (k : Int) == b
  | none => false).getD false
theorem graphF_len (f : MFunc) : (graphF f).length = f.blocks.length := by simp [graphF]
theorem leadsF_eq {f : MFunc} {a : Nat} (b : Int) : leadsF f a b = leadsB (graphF f) a b := by
  unfold leadsF leadsB graphF
  rw [List.getD_eq_getElem?_getD, List.getElem?_map]
  cases f.blocks[a]? with
  | none => rfl
  | some x =>
    simp only [Option.map_some, Option.getD_some]
    unfold rowF
    induction x.term.to with
    | nil => rfl
    | cons t l ih =>
      rw [List.any_cons, ih, List.filterMap_cons]
      cases place f t with
      | none => simp
      | some k => simp only [Option.map_some, List.contains_cons]; congr 1; exact Bool.beq_comm

def namesB (f : MFunc) : Bool := (List.range f.blocks.length).all fun i => match f.blocks[i]? with
  | some b => place f b.name == some i
  | none => true
def endB (f : MFunc) (l : List ByteArray) : Bool := (l.all fun t => match place f t with
  | some k => k != 0
  | none => false) && decide (l.Pairwise (· ≠ ·))
def rightB (f : MFunc) : Bool := decide (0 < f.blocks.length) && namesB f && (f.blocks.all fun b => endB f b.term.to) && (comeOf (graphF f)).all id

structure RightP (f : MFunc) : Prop where
  pos : 0 < f.blocks.length
  names : ∀ i (hi : i < f.blocks.length), place f f.blocks[i].name = some i
  ends : ∀ i (hi : i < f.blocks.length), (∀ t ∈ f.blocks[i].term.to, ∃ k, place f t = some k ∧ k ≠ 0) ∧ f.blocks[i].term.to.Pairwise (· ≠ ·)
  come : ∀ b ∈ comeOf (graphF f), b = true

theorem rightB_iff {f : MFunc} : rightB f = true ↔ RightP f := by
  unfold rightB
  simp only [Bool.and_eq_true, decide_eq_true_eq]
  have h1 : namesB f = true ↔ ∀ i (hi : i < f.blocks.length), place f f.blocks[i].name = some i := by
    unfold namesB
    rw [List.all_eq_true]
    constructor
    · intro h i hi
      have := h i (List.mem_range.2 hi)
      rw [List.getElem?_eq_getElem hi] at this
      simpa using this
    · intro h i hi
      have hi := List.mem_range.1 hi
      rw [List.getElem?_eq_getElem hi]
      simpa using h i hi
  have h2 : ∀ l, endB f l = true ↔ (∀ t ∈ l, ∃ k, place f t = some k ∧ k ≠ 0) ∧ l.Pairwise (· ≠ ·) := by
    intro l
    unfold endB
    rw [Bool.and_eq_true, List.all_eq_true, decide_eq_true_eq]
    refine and_congr_left fun _ => forall_congr' fun t => forall_congr' fun _ => ?_
    cases place f t with
    | none => simp
    | some k => simp
  rw [h1, List.all_eq_true, List.all_eq_true]
  constructor
  · rintro ⟨⟨⟨a, b⟩, c⟩, d⟩
    exact ⟨a, b, fun i hi => (h2 _).1 (c _ (List.getElem_mem hi)), fun b hb => by simpa using d b hb⟩
  · intro r
    refine ⟨⟨⟨r.pos, r.names⟩, fun x hx => ?_⟩, fun b hb => by simpa using r.come b hb⟩
    obtain ⟨i, hi, rfl⟩ := List.getElem_of_mem hx
    exact (h2 _).2 (r.ends i hi)

theorem place_self {f : MFunc} {i : Nat} (hi : i < f.blocks.length) : ∃ k, place f f.blocks[i].name = some k ∧ k ≤ i := by
  unfold place
  cases h : f.blocks.findIdx? (fun b => b.name.toList == f.blocks[i].name.toList) with
  | none =>
    have := List.findIdx?_eq_none_iff.1 h _ (List.getElem_mem hi)
    simp at this
  | some k =>
    refine ⟨k, rfl, ?_⟩
    obtain ⟨hk, _, h2⟩ := List.findIdx?_eq_some_iff_getElem.1 h
    rcases Nat.lt_or_ge i k with hlt | hge
    · have := h2 i hlt; simp at this
    · exact hge

end Go.Pl
