/-
  States of objects: what is found, put in, set, reached.
-/
import Derived.Test.YtncbpalncgcoaaaPlApi
import Derived.Test.YtncbpalncgcoaaaPlGraph
namespace Go.Pl.Vst
open Go.Pl.Api

deriving instance DecidableEq for MArg
structure MObj where
  id : Int
  cls : ByteArray
  vals : List MArg
  real : MArg
  deriving DecidableEq
def zArg : MArg := ⟨0, ⟨#[]⟩, 0⟩
def zObj : MObj := ⟨0, ⟨#[]⟩, [], zArg⟩
def Rising (l : List MObj) : Prop := l.Pairwise fun a b => a.id < b.id
instance (l : List MObj) : Decidable (Rising l) := inferInstanceAs (Decidable (l.Pairwise _))
def findF (l : List MObj) (a : MArg) : Option MObj := if a.kind = 5 then l.find? fun o => o.id == a.n else none
def virtF (l : List MObj) (a : MArg) : Bool := match findF l a with
  | some o => o.real.kind == 0
  | none => false
def reallyF (l : List MObj) (a : MArg) : MArg := match findF l a with
  | some o => if o.real.kind = 0 then a else o.real
  | none => a
def objOk (l : List MObj) (o : MObj) : Bool := o.real.kind != 5 && o.vals.all fun a => a.kind != 5 || (findF l a).isSome
def headOk : List MObj → Bool
  | [] => true
  | o :: _ => decide (0 ≤ o.id)
def rightF (l : List MObj) : Bool := decide (Rising l) && headOk l && l.all (objOk l)
def fewF (l : List MObj) : Bool := decide (l.length ≤ 40) && l.all fun o => decide (o.vals.length ≤ 20)
def addF (l : List MObj) (o : MObj) : List MObj := l.filter (fun x => decide (x.id < o.id)) ++ o :: l.filter (fun x => decide (o.id < x.id))
def setF (l : List MObj) (a : MArg) (at' : Int) (v : MArg) : Option (List MObj) := match findF l a with
  | some o => if o.real.kind = 0 ∧ 0 ≤ at' ∧ at' < o.vals.length then some (addF l { o with vals := o.vals.set at'.toNat v }) else none
  | none => none

theorem rising_get {l : List MObj} (h : Rising l) {i j : Nat} (hij : i < j) (hj : j < l.length) : l[i].id < l[j].id := List.pairwise_iff_getElem.1 h i j (by omega) hj hij
theorem rising_iff {l : List MObj} : Rising l ↔ ∀ i, (hi : i + 1 < l.length) → l[i].id < l[i + 1].id := by
  constructor
  · intro h i hi
    exact rising_get h (by omega) hi
  · intro h
    refine List.pairwise_iff_getElem.2 fun i j hi hj hij => ?_
    induction j with
    | zero => omega
    | succ j ih =>
      by_cases e : i = j
      · subst e; exact h i hj
      · exact Int.lt_trans (ih (by omega) (by omega)) (h j hj)
/-- Where an Id stands, or would. -/
structure PlaceF (l : List MObj) (id : Int) (r : Nat) : Prop where
  le : r ≤ l.length
  low : ∀ k (hk : k < l.length), k < r → l[k].id < id
  high : ∀ k (hk : k < l.length), r ≤ k → id ≤ l[k].id
def hitF (l : List MObj) (id : Int) (r : Nat) : Bool := match l[r]? with
  | some o => o.id == id
  | none => false
theorem find_place {l : List MObj} (hr : Rising l) {id : Int} {r : Nat} (p : PlaceF l id r) : (l.find? fun o => o.id == id) = if hitF l id r then l[r]? else none := by
  by_cases hl : r < l.length
  · have e : l[r]? = some l[r] := List.getElem?_eq_getElem hl
    unfold hitF
    rw [e]
    simp only
    by_cases h : l[r].id = id
    · rw [if_pos (by simpa using h)]
      rw [List.find?_eq_some_iff_getElem]
      refine ⟨by simpa using h, r, hl, rfl, fun j hj => ?_⟩
      have := p.low j (by omega) hj
      simp
      omega
    · rw [if_neg (by simpa using h)]
      rw [List.find?_eq_none]
      intro x hx
      obtain ⟨j, hj, rfl⟩ := List.getElem_of_mem hx
      simp only [beq_iff_eq]
      rcases Nat.lt_trichotomy j r with h1 | h1 | h1
      · have := p.low j hj h1; omega
      · subst h1; exact h
      · have := rising_get hr h1 hj
        have := p.high r hl (Nat.le_refl _)
        omega
  · have e : l[r]? = none := List.getElem?_eq_none (by omega)
    unfold hitF
    rw [e]
    simp only [Bool.false_eq_true, if_false]
    rw [List.find?_eq_none]
    intro x hx
    obtain ⟨j, hj, rfl⟩ := List.getElem_of_mem hx
    have := p.low j hj (by omega)
    simp only [beq_iff_eq]
    omega
theorem hit_get {l : List MObj} {id : Int} {r : Nat} (h : hitF l id r = true) : ∃ hr : r < l.length, l[r].id = id := by
  unfold hitF at h
  split at h
  · rename_i o ho
    obtain ⟨hr, rfl⟩ := List.getElem?_eq_some_iff.1 ho
    exact ⟨hr, by simpa using h⟩
  · cases h

end Go.Pl.Vst

/-
  What is reached of a state.
-/
namespace Go.Pl.Vst
open Go.Pl.Api

inductive Rch (l : List MObj) (A : List MArg) : MObj → Prop
  | base {o : MObj} {a : MArg} : o ∈ l → o.real.kind = 0 → a ∈ A → a.kind = 5 → a.n = o.id → Rch l A o
  | step {p o : MObj} {a : MArg} : Rch l A p → o ∈ l → o.real.kind = 0 → a ∈ p.vals → a.kind = 5 → a.n = o.id → Rch l A o
theorem Rch.mem {l : List MObj} {A : List MArg} {o : MObj} (h : Rch l A o) : o ∈ l ∧ o.real.kind = 0 := by
  cases h <;> exact ⟨by assumption, by assumption⟩
open Classical in
noncomputable def reachF (l : List MObj) (A : List MArg) : List Int := (l.filter fun o => decide (Rch l A o)).map (·.id)
theorem mem_reachF {l : List MObj} {A : List MArg} {z : Int} : z ∈ reachF l A ↔ ∃ o, Rch l A o ∧ o.id = z := by
  classical
  unfold reachF
  simp only [List.mem_map, List.mem_filter, decide_eq_true_eq]
  constructor
  · rintro ⟨o, ⟨_, h⟩, e⟩; exact ⟨o, h, e⟩
  · rintro ⟨o, h, e⟩; exact ⟨o, ⟨h.mem.1, h⟩, e⟩
theorem reach_up {l : List MObj} {A : List MArg} (hr : Rising l) : (reachF l A).Pairwise (· < ·) := by
  classical
  unfold reachF
  exact List.pairwise_map.2 (List.Pairwise.filter _ hr)
theorem reach_eq {l : List MObj} {A : List MArg} {m : List Int} (hr : Rising l) (hm : m.Pairwise (· < ·)) (hmem : ∀ z, z ∈ m ↔ ∃ o, Rch l A o ∧ o.id = z) : m = reachF l A :=
  Go.Pl.up_eq hm (reach_up hr) fun z => by rw [hmem, mem_reachF]
theorem rising_id {l : List MObj} (hr : Rising l) {o p : MObj} (ho : o ∈ l) (hp : p ∈ l) (e : o.id = p.id) : o = p := by
  obtain ⟨i, hi, rfl⟩ := List.getElem_of_mem ho
  obtain ⟨j, hj, rfl⟩ := List.getElem_of_mem hp
  rcases Nat.lt_trichotomy i j with h | h | h
  · have := rising_get hr h hj; omega
  · subst h; rfl
  · have := rising_get hr h hi; omega

/-! The work list -/
def done (l : List MObj) (ks : List Int) (a : MArg) : Prop := a.kind = 5 → ∀ o ∈ l, o.id = a.n → o.real.kind = 0 → o.id ∈ ks
structure RInv (l : List MObj) (A t : List MArg) (ks : List Int) : Prop where
  nodup : ks.Nodup
  sound : ∀ z ∈ ks, ∃ o, Rch l A o ∧ o.id = z
  todo : ∀ a ∈ t, a ∈ A ∨ ∃ p, Rch l A p ∧ a ∈ p.vals
  args : ∀ a ∈ A, a ∈ t ∨ done l ks a
  vals : ∀ p ∈ l, p.real.kind = 0 → p.id ∈ ks → ∀ a ∈ p.vals, a ∈ t ∨ done l ks a
theorem RInv.start (l : List MObj) (A : List MArg) : RInv l A A [] := ⟨by simp, by simp, fun a h => .inl h, fun a h => .inl h, fun _ _ _ h => by simp at h⟩
theorem done_mono {l : List MObj} {ks ks' : List Int} {a : MArg} (h : done l ks a) (hk : ∀ z ∈ ks, z ∈ ks') : done l ks' a := fun h1 o h2 h3 h4 => hk _ (h h1 o h2 h3 h4)
theorem RInv.skip {l : List MObj} {A t : List MArg} {ks : List Int} {a : MArg} (r : RInv l A (t ++ [a]) ks) (hd : done l ks a) : RInv l A t ks where
  nodup := r.nodup
  sound := r.sound
  todo b hb := r.todo b (by simp [hb])
  args b hb := by
    rcases r.args b hb with h | h
    · rcases List.mem_append.1 h with h | h
      · exact .inl h
      · simp at h; subst h; exact .inr hd
    · exact .inr h
  vals p hp hv hk b hb := by
    rcases r.vals p hp hv hk b hb with h | h
    · rcases List.mem_append.1 h with h | h
      · exact .inl h
      · simp at h; subst h; exact .inr hd
    · exact .inr h
theorem findF_some {l : List MObj} {a : MArg} {o : MObj} (h : findF l a = some o) : a.kind = 5 ∧ o ∈ l ∧ o.id = a.n := by
  unfold findF at h
  split at h
  · rename_i h5
    exact ⟨h5, List.mem_of_find?_eq_some h, by simpa using List.find?_some h⟩
  · cases h
theorem findF_of {l : List MObj} (hr : Rising l) {a : MArg} {o : MObj} (h5 : a.kind = 5) (ho : o ∈ l) (e : o.id = a.n) : findF l a = some o := by
  unfold findF
  rw [if_pos h5]
  cases hf : l.find? fun o => o.id == a.n with
  | none =>
    rw [List.find?_eq_none] at hf
    exact absurd (by simpa using e) (hf o ho)
  | some p =>
    have h1 := List.mem_of_find?_eq_some hf
    have h2 : p.id = a.n := by simpa using List.find?_some hf
    rw [rising_id hr h1 ho (by rw [h2, e])]
theorem done_none {l : List MObj} (hr : Rising l) {ks : List Int} {a : MArg} (h : ∀ o, findF l a = some o → o.real.kind = 0 → o.id ∈ ks) : done l ks a := fun h5 o ho e hv => h o (findF_of hr h5 ho e) hv
theorem RInv.add {l : List MObj} {A t : List MArg} {ks : List Int} {a : MArg} {o : MObj} (hr : Rising l) (r : RInv l A (t ++ [a]) ks) (hf : findF l a = some o) (hv : o.real.kind = 0) (hn : o.id ∉ ks) : RInv l A (t ++ o.vals) (ks ++ [o.id]) := by
  obtain ⟨h5, ho, e⟩ := findF_some hf
  have hrch : Rch l A o := by
    rcases r.todo a (by simp) with h | ⟨p, h, h'⟩
    · exact .base ho hv h h5 e.symm
    · exact .step h ho hv h' h5 e.symm
  have hda : done l (ks ++ [o.id]) a := done_none hr fun o' ho' _ => by rw [hf] at ho'; injection ho' with ho'; subst ho'; simp
  have up : ∀ b, b ∈ t ++ [a] ∨ done l ks b → b ∈ t ++ o.vals ∨ done l (ks ++ [o.id]) b := fun b hb => by
    rcases hb with h | h
    · rcases List.mem_append.1 h with h | h
      · exact .inl (by simp [h])
      · simp at h; subst h; exact .inr hda
    · exact .inr (done_mono h fun z hz => by simp [hz])
  refine ⟨List.nodup_append.2 ⟨r.nodup, by simp, fun x hx y hy exy => ?_⟩, fun z hz => ?_, fun b hb => ?_, fun b hb => up b (r.args b hb), fun p hp hpv hpk b hb => ?_⟩
  · simp at hy; subst hy; subst exy; exact hn hx
  · rcases List.mem_append.1 hz with h | h
    · exact r.sound z h
    · simp at h; exact ⟨o, hrch, h.symm⟩
  · rcases List.mem_append.1 hb with h | h
    · exact r.todo b (by simp [h])
    · exact .inr ⟨o, hrch, h⟩
  · rcases List.mem_append.1 hpk with h | h
    · exact up b (r.vals p hp hpv h b hb)
    · simp at h
      have := rising_id hr hp ho h
      subst this
      exact .inl (by simp [hb])
theorem RInv.fin {l : List MObj} {A : List MArg} {ks : List Int} (r : RInv l A [] ks) (z : Int) : z ∈ ks ↔ ∃ o, Rch l A o ∧ o.id = z := by
  constructor
  · exact r.sound z
  · rintro ⟨o, h, rfl⟩
    induction h with
    | base ho hv ha h5 e =>
      rcases r.args _ ha with h | h
      · simp at h
      · exact h h5 _ ho e.symm hv
    | step hp ho hv ha h5 e ih =>
      rcases r.vals _ hp.mem.1 hp.mem.2 ih _ ha with h | h
      · simp at h
      · exact h h5 _ ho e.symm hv
theorem sort_up {m ks : List Int} (hp : m.Perm ks) (hn : ks.Nodup) : (m.mergeSort fun x y => decide (x ≤ y)).Pairwise (· < ·) := by
  have h1 := List.pairwise_mergeSort (le := fun (x y : Int) => decide (x ≤ y)) (fun a b c h1 h2 => by simp at h1 h2 ⊢; omega) (fun a b => by simp; omega) m
  have h2 : (m.mergeSort fun x y => decide (x ≤ y)).Nodup := ((List.mergeSort_perm m _).trans hp).nodup_iff.2 hn
  have := h1.and h2
  exact this.imp fun {a b} ⟨h, h'⟩ => by have : a ≤ b := by simpa using h
                                         have : a ≠ b := h'
                                         omega
theorem RInv.result {l : List MObj} {A : List MArg} {ks m : List Int} (hr : Rising l) (r : RInv l A [] ks) (hp : m.Perm ks) : (m.mergeSort fun x y => decide (x ≤ y)) = reachF l A :=
  reach_eq hr (sort_up hp r.nodup) fun z => by rw [← r.fin z, (List.mergeSort_perm m _).mem_iff, hp.mem_iff]

/-! Round by round -/
def hits (o : MObj) (l : List MArg) : Bool := l.any fun a => a.kind == 5 && a.n == o.id
abbrev on (I : List Bool) (i : Nat) : Prop := I.getD i false = true
def Sound (l : List MObj) (A : List MArg) (I : List Bool) : Prop := ∀ i (hi : i < l.length), on I i → Rch l A l[i]
def Compl (l : List MObj) (A : List MArg) (I : List Bool) : Prop := ∀ i (hi : i < l.length), Rch l A l[i] → on I i
/-- In a round, behind point i. 'I0': at the round's start. -/
structure Rnd (l : List MObj) (A : List MArg) (I0 : List Bool) (i : Nat) (I : List Bool) : Prop where
  len : I.length = l.length
  sound : Sound l A I
  more : ∀ j, on I0 j → on I j
  all : ∀ k (hk : k < l.length), k < i → ¬ on I k → l[k].real.kind = 0 → hits l[k] A = false ∧ ∀ j (hj : j < l.length), on I0 j → hits l[k] l[j].vals = false
theorem hits_mem {o : MObj} {l : List MArg} {a : MArg} (ha : a ∈ l) (h5 : a.kind = 5) (e : a.n = o.id) : hits o l = true := by
  unfold hits
  rw [List.any_eq_true]
  exact ⟨a, ha, by simp [h5, e]⟩
theorem hits_some {o : MObj} {l : List MArg} (h : hits o l = true) : ∃ a ∈ l, a.kind = 5 ∧ a.n = o.id := by
  unfold hits at h
  rw [List.any_eq_true] at h
  obtain ⟨a, ha, h⟩ := h
  simp at h
  exact ⟨a, ha, h.1, h.2⟩
theorem Rnd.closed {l : List MObj} {A : List MArg} {I0 I : List Bool} (r : Rnd l A I0 l.length I) (hs : ∀ j, on I j → on I0 j) : Compl l A I := by
  have key : ∀ o, Rch l A o → ∀ i (hi : i < l.length), l[i] = o → on I i := by
    intro o h
    induction h with
    | @base o a ho hv ha h5 e =>
      intro i hi he
      by_cases c : on I i
      · exact c
      · have := (r.all i hi hi c (by rw [he]; exact hv)).1
        rw [he, hits_mem ha h5 e] at this
        cases this
    | @step p o a hp ho hv ha h5 e ih =>
      intro i hi he
      by_cases c : on I i
      · exact c
      · obtain ⟨j, hj, hje⟩ := List.getElem_of_mem hp.mem.1
        have := (r.all i hi hi c (by rw [he]; exact hv)).2 j hj (hs j (ih j hj hje))
        rw [he, hje, hits_mem ha h5 e] at this
        cases this
  exact fun i hi h => key _ h i hi rfl
theorem count_le : ∀ {I I' : List Bool}, I.length = I'.length → (∀ j, on I j → on I' j) → I.count true ≤ I'.count true ∧ ((∀ j, on I' j → on I j) ∨ I.count true + 1 ≤ I'.count true)
  | [], [], _, _ => ⟨Nat.le_refl _, .inl fun j h => by simp [on] at h⟩
  | [], _ :: _, h, _ => by simp at h
  | _ :: _, [], h, _ => by simp at h
  | a :: I, b :: I', hl, hm => by
    have ⟨h1, h2⟩ := count_le (I := I) (I' := I') (by simpa using hl) fun j h => by simpa [on] using hm (j + 1) (by simpa [on] using h)
    have h0 := hm 0
    simp only [on, List.getD_cons_zero] at h0
    rw [List.count_cons, List.count_cons]
    cases a <;> cases b
    · refine ⟨by simpa using h1, ?_⟩
      rcases h2 with h2 | h2
      · exact .inl fun j h => by cases j with
          | zero => simp [on] at h
          | succ j => simpa [on] using h2 j (by simpa [on] using h)
      · exact .inr (by simpa using h2)
    · exact ⟨by simp; omega, .inr (by simp; omega)⟩
    · exact absurd (h0 rfl) (by simp)
    · refine ⟨by simp; omega, ?_⟩
      rcases h2 with h2 | h2
      · exact .inl fun j h => by cases j with
          | zero => simp [on]
          | succ j => simpa [on] using h2 j (by simpa [on] using h)
      · exact .inr (by simp; omega)
/-- Between rounds. -/
structure RndN (l : List MObj) (A : List MArg) (n : Nat) (I : List Bool) : Prop where
  len : I.length = l.length
  sound : Sound l A I
  prog : Compl l A I ∨ n ≤ I.count true
theorem RndN.start (l : List MObj) (A : List MArg) : RndN l A 0 (List.replicate l.length false) := ⟨by simp, fun i hi h => by
  simp only [on, List.getD_eq_getElem?_getD, List.getElem?_replicate] at h
  split at h <;> simp at h, .inr (Nat.zero_le _)⟩
theorem RndN.enter {l : List MObj} {A : List MArg} {n : Nat} {I : List Bool} (r : RndN l A n I) : Rnd l A I 0 I := ⟨r.len, r.sound, fun _ h => h, fun k _ h => by omega⟩
theorem RndN.next {l : List MObj} {A : List MArg} {n : Nat} {I I' : List Bool} (r : RndN l A n I) (q : Rnd l A I l.length I') : RndN l A (n + 1) I' := by
  refine ⟨q.len, q.sound, ?_⟩
  rcases r.prog with h | h
  · exact .inl fun i hi hh => q.more i (h i hi hh)
  · rcases (count_le (I := I) (I' := I') (by rw [r.len, q.len]) q.more).2 with h2 | h2
    · exact .inl (q.closed h2)
    · exact .inr (by omega)
theorem RndN.fin {l : List MObj} {A : List MArg} {I : List Bool} (r : RndN l A (l.length + 1) I) (i : Nat) (hi : i < l.length) : on I i ↔ Rch l A l[i] := by
  refine ⟨r.sound i hi, fun h => ?_⟩
  rcases r.prog with hc | hc
  · exact hc i hi h
  · have := List.count_le_length (a := true) (l := I)
    have := r.len
    omega
/-- In a point's turn: 'x' is what is known of it. -/
structure Turn (l : List MObj) (A : List MArg) (I : List Bool) (i : Nat) (hi : i < l.length) (k j : Nat) (x : Bool) : Prop where
  sound : x = true → Rch l A l[i]
  args : x = false → hits l[i] (A.take k) = false
  vals : x = false → ∀ z (hz : z < l.length), z < j → on I z → hits l[i] l[z].vals = false
theorem getD_set {I : List Bool} {i : Nat} (hi : i < I.length) (x : Bool) (j : Nat) : (I.set i x).getD j false = if j = i then x else I.getD j false := by
  rw [List.getD_eq_getElem?_getD, List.getElem?_set, List.getD_eq_getElem?_getD]
  by_cases e : i = j
  · subst e; simp [hi]
  · simp [e, show ¬ j = i from fun h => e h.symm]
theorem Rnd.skip {l : List MObj} {A : List MArg} {I0 I : List Bool} {i : Nat} (r : Rnd l A I0 i I) (hi : i < l.length) (h : l[i].real.kind ≠ 0 ∨ on I i) : Rnd l A I0 (i + 1) I :=
  ⟨r.len, r.sound, r.more, fun k hk hlt hno hv => by
    by_cases e : k = i
    · subst e
      rcases h with h | h
      · exact absurd hv h
      · exact absurd h hno
    · exact r.all k hk (by omega) hno hv⟩
theorem Rnd.turn {l : List MObj} {A : List MArg} {I0 I : List Bool} {i : Nat} {hi : i < l.length} {x : Bool} (r : Rnd l A I0 i I) (hno : ¬ on I i) (t : Turn l A I i hi A.length l.length x) : Rnd l A I0 (i + 1) (I.set i x) := by
  have hil : i < I.length := by rw [r.len]; exact hi
  refine ⟨by rw [List.length_set]; exact r.len, fun j hj h => ?_, fun j h => ?_, fun k hk hlt hnk hv => ?_⟩
  · simp only [on, getD_set hil] at h
    split at h
    · rename_i e; subst e; exact t.sound h
    · exact r.sound j hj h
  · have := r.more j h
    simp only [on, getD_set hil]
    split
    · rename_i e; subst e; exact absurd this hno
    · exact this
  · simp only [on, getD_set hil] at hnk
    split at hnk
    · rename_i e
      subst e
      have hx : x = false := by simpa using hnk
      have h1 := t.args hx
      rw [List.take_length] at h1
      exact ⟨h1, fun j hj h => t.vals hx j hj hj (r.more j h)⟩
    · exact r.all k hk (by omega) hnk hv

end Go.Pl.Vst
