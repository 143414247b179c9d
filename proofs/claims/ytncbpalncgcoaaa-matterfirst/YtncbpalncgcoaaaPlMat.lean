/-
  Plain: objects that mean one another, as a graph; the order in which they are made.
-/
import Derived.Test.YtncbpalncgcoaaaPlVst
import Derived.Test.YtncbpalncgcoaaaPlLeft
namespace Go.Pl.Mat
open Go.Pl.Api Go.Pl.Vst Go.Pl

def toA (z : Int) : MArg := ⟨5, ⟨#[]⟩, z⟩
def atF (ids : List Int) (z : Int) : Option Nat := ids.findIdx? fun x => x == z
def objF (l : List MObj) (z : Int) : MObj := (findF l (toA z)).getD zObj
def refF (ids : List Int) (a : MArg) : Option Int := if a.kind = 5 then Option.map (fun (k : Nat) => (k : Int)) (atF ids a.n) else none
def graphF (l : List MObj) (ids : List Int) : Graph := ids.map fun z => (objF l z).vals.filterMap (refF ids)

theorem atF_some {ids : List Int} {z : Int} {k : Nat} (h : atF ids z = some k) : ∃ hk : k < ids.length, ids[k] = z := by
  unfold atF at h
  rw [List.findIdx?_eq_some_iff_getElem] at h
  obtain ⟨hk, h1, _⟩ := h
  exact ⟨hk, by simpa using h1⟩
theorem atF_none {ids : List Int} {z : Int} (h : atF ids z = none) : z ∉ ids := by
  unfold atF at h
  rw [List.findIdx?_eq_none_iff] at h
  intro hz
  have := h z hz
  simp at this
theorem nodup_at {ids : List Int} (hn : ids.Pairwise (· ≠ ·)) {i j : Nat} (hi : i < ids.length) (hj : j < ids.length) (e : ids[i] = ids[j]) : i = j := by
  rcases Nat.lt_trichotomy i j with h | h | h
  · exact absurd e (List.pairwise_iff_getElem.1 hn i j hi hj h)
  · exact h
  · exact absurd e.symm (List.pairwise_iff_getElem.1 hn j i hj hi h)
theorem atF_of {ids : List Int} (hn : ids.Pairwise (· ≠ ·)) {k : Nat} (hk : k < ids.length) : atF ids ids[k] = some k := by
  cases h : atF ids ids[k] with
  | none => exact absurd (List.getElem_mem hk) (atF_none h)
  | some j =>
    obtain ⟨hj, e⟩ := atF_some h
    rw [nodup_at hn hj hk e]
theorem up_ne {ids : List Int} (h : ids.Pairwise (· < ·)) : ids.Pairwise (· ≠ ·) := h.imp fun h => by omega

/-- What the ids are: of a state whose ids rise, all that is reached. -/
structure IdsP (l : List MObj) (ids : List Int) : Prop where
  ris : Rising l
  up : ids.Pairwise (· < ·)
  obj : ∀ z ∈ ids, ∃ o ∈ l, o.id = z ∧ o.real.kind = 0
  closed : ∀ z ∈ ids, ∀ a ∈ (objF l z).vals, a.kind = 5 → ∀ o ∈ l, o.id = a.n → o.real.kind = 0 → o.id ∈ ids
theorem objF_of {l : List MObj} (hr : Rising l) {o : MObj} (ho : o ∈ l) : objF l o.id = o := by
  unfold objF
  rw [findF_of hr (a := toA o.id) rfl ho rfl]
  rfl
theorem ids_reach {l : List MObj} {A : List MArg} (hr : Rising l) : IdsP l (reachF l A) := by
  refine ⟨hr, reach_up hr, fun z hz => ?_, fun z hz a ha h5 o ho he hv => ?_⟩
  · obtain ⟨o, h, e⟩ := mem_reachF.1 hz
    exact ⟨o, h.mem.1, e, h.mem.2⟩
  · obtain ⟨p, h, e⟩ := mem_reachF.1 hz
    subst e
    rw [objF_of hr h.mem.1] at ha
    exact mem_reachF.2 ⟨o, .step h ho hv ha h5 he.symm, rfl⟩

variable {l : List MObj} {ids : List Int}
theorem graph_len : (graphF l ids).length = ids.length := by simp [graphF]
theorem graph_row {i : Nat} (hi : i < ids.length) : (graphF l ids).getD i [] = (objF l ids[i]).vals.filterMap (refF ids) := by
  rw [getD_lt (by simpa [graphF] using hi)]
  simp [graphF]
theorem leads_iff {i : Nat} (hi : i < ids.length) {k : Nat} (hn : ids.Pairwise (· ≠ ·)) : leadsB (graphF l ids) i (k : Int) = true ↔ ∃ hk : k < ids.length, ∃ a ∈ (objF l ids[i]).vals, a.kind = 5 ∧ a.n = ids[k] := by
  unfold leadsB
  rw [graph_row hi, List.contains_eq_mem, decide_eq_true_eq, List.mem_filterMap]
  constructor
  · rintro ⟨a, ha, h⟩
    unfold refF at h
    split at h
    · rename_i h5
      obtain ⟨j, hj, e⟩ := Option.map_eq_some_iff.1 h
      obtain ⟨hj, e2⟩ := atF_some hj
      have : j = k := by omega
      subst this
      exact ⟨hj, a, ha, h5, e2.symm⟩
    · cases h
  · rintro ⟨hk, a, ha, h5, e⟩
    refine ⟨a, ha, ?_⟩
    unfold refF
    rw [if_pos h5, e, atF_of hn hk]
    rfl

theorem ch_rch (P : IdsP l ids) {i j : Nat} (hi : i < ids.length) (h : Ch (graphF l ids) i j) : ∃ hj : j < ids.length, ids[j] ∈ reachF l [toA ids[i]] := by
  have hn := up_ne P.up
  induction h with
  | refl =>
    obtain ⟨o, ho, e, hv⟩ := P.obj _ (List.getElem_mem hi)
    exact ⟨hi, mem_reachF.2 ⟨o, .base ho hv (List.mem_singleton.2 rfl) rfl e.symm, e⟩⟩
  | @step u w _ hl hw ih =>
    obtain ⟨hu, ih⟩ := ih
    obtain ⟨hk, a, ha, h5, e⟩ := (leads_iff hu hn).1 hl
    obtain ⟨p, hp, he⟩ := mem_reachF.1 ih
    obtain ⟨o, ho, e2, hv⟩ := P.obj _ (List.getElem_mem hk)
    refine ⟨hk, mem_reachF.2 ⟨o, .step hp ho hv ?_ h5 (e.trans e2.symm), e2⟩⟩
    rw [← he, objF_of P.ris hp.mem.1] at ha
    exact ha
theorem rch_ch (P : IdsP l ids) {i : Nat} (hi : i < ids.length) {o : MObj} (h : Rch l [toA ids[i]] o) : ∃ j, ∃ hj : j < ids.length, ids[j] = o.id ∧ Ch (graphF l ids) i j := by
  have hn := up_ne P.up
  induction h with
  | base ho hv ha h5 e =>
    rw [List.mem_singleton] at ha
    subst ha
    exact ⟨i, hi, e, .refl⟩
  | @step p o a hp ho hv ha h5 e ih =>
    obtain ⟨j, hj, e2, hc⟩ := ih
    have hobj : objF l ids[j] = p := by rw [e2]; exact objF_of P.ris hp.mem.1
    have hin := P.closed _ (List.getElem_mem hj) a (by rw [hobj]; exact ha) h5 o ho e.symm hv
    obtain ⟨k, hk, e3⟩ := List.getElem_of_mem hin
    refine ⟨k, hk, e3, .step hc ((leads_iff hj hn).2 ⟨hk, a, by rw [hobj]; exact ha, h5, by rw [e3]; exact e⟩) (by rw [graph_len]; exact hk)⟩
theorem reach_iff (P : IdsP l ids) {i j : Nat} (hi : i < ids.length) (hj : j < ids.length) : ids[j] ∈ reachF l [toA ids[i]] ↔ Ch (graphF l ids) i j := by
  constructor
  · intro h
    obtain ⟨o, ho, e⟩ := mem_reachF.1 h
    obtain ⟨k, hk, e2, hc⟩ := rch_ch P hi ho
    rw [nodup_at (up_ne P.up) hj hk (e.symm.trans e2.symm)]
    exact hc
  · intro h
    exact (ch_rch P hi h).2

/-- Can one come from each of two to the other one? -/
noncomputable def roundB (l : List MObj) (a b : Int) : Bool := decide (b ∈ reachF l [toA a]) && decide (a ∈ reachF l [toA b])
theorem round_iff (P : IdsP l ids) {i j : Nat} (hi : i < ids.length) (hj : j < ids.length) : roundB l ids[i] ids[j] = true ↔ Mut (graphF l ids) i j := by
  unfold roundB Mut
  rw [Bool.and_eq_true, decide_eq_true_eq, decide_eq_true_eq, reach_iff P hi hj, reach_iff P hj hi]

/-- The order, of the ids in the order in which they are left. -/
noncomputable def orderL (l : List MObj) (all : List Int) : List Int → List Int
  | [] => []
  | z :: r => (if r.all (fun y => !roundB l z y) then all.filter fun y => y == z || roundB l z y else []) ++ orderL l all r
def leftI (l : List MObj) (ids : List Int) : List Int := (leftA (graphF l ids)).map fun k => ids.getD k.toNat 0
noncomputable def orderF (l : List MObj) (A : List Int) : List Int := orderL l (reachF l (A.map toA)) (leftI l (reachF l (A.map toA)))

/-! By parts -/
variable {G : Graph}
theorem Mut.symm {a b : Nat} (h : Mut G a b) : Mut G b a := ⟨h.2, h.1⟩
theorem Mut.trans {a b c : Nat} (h : Mut G a b) (k : Mut G b c) : Mut G a c := ⟨Ch.trans h.1 k.1, Ch.trans k.2 h.2⟩
theorem part_eq {i j : Nat} (hi : i < G.length) (hj : j < G.length) : lst G i i = lst G j j ↔ Mut G i j := by
  obtain ⟨m1, l1⟩ := lst_spec hi i (Nat.le_refl _)
  obtain ⟨m2, l2⟩ := lst_spec hj j (Nat.le_refl _)
  constructor
  · intro e
    rw [← e] at m2
    exact Mut.trans m1 (Mut.symm m2)
  · intro h
    have h1 := l1 _ (by omega) (mut_lt hj m2) (Mut.trans h m2)
    have h2 := l2 _ (by omega) (mut_lt hi m1) (Mut.trans (Mut.symm h) m1)
    omega
def prt (G : Graph) (k : Int) : Int := (partsF G).getD k.toNat 0
theorem prt_eq {i : Nat} (hi : i < G.length) : prt G (i : Int) = ((lst G i i : Nat) : Int) := by
  unfold prt
  rw [Int.toNat_natCast, getD_lt (by simpa [partsF] using hi)]
  simp [partsF]
theorem prt_iff {i j : Nat} (hi : i < G.length) (hj : j < G.length) : prt G (i : Int) = prt G (j : Int) ↔ Mut G i j := by
  rw [prt_eq hi, prt_eq hj, ← part_eq hi hj]
  omega
/-- As the program has it: by the parts' numbers. -/
def orderK (G : Graph) (ids : List Int) : List Int → List Int
  | [] => []
  | k :: r => (if r.all (fun y => prt G y != prt G k) then ((List.range ids.length).filter fun (i : Nat) => prt G (i : Int) == prt G k).map fun (i : Nat) => ids.getD i 0 else []) ++ orderK G ids r
theorem filter_range {p : Int → Bool} : ids.filter p = ((List.range ids.length).filter fun (i : Nat) => p (ids.getD i 0)).map fun (i : Nat) => ids.getD i 0 := by
  have e : ids = (List.range ids.length).map fun i => ids.getD i 0 := List.ext_getElem (by simp) fun i h1 h2 => by simp [h1]
  conv => lhs; rw [e]
  rw [List.filter_map]
  rfl
theorem order_eq (P : IdsP l ids) : ∀ (ks : List Int), ks.Pairwise (· ≠ ·) → (∀ k ∈ ks, ∃ i : Nat, k = (i : Int) ∧ i < ids.length) →
    orderL l ids (ks.map fun k => ids.getD k.toNat 0) = orderK (graphF l ids) ids ks
  | [], _, _ => rfl
  | k :: r, hp, hk => by
    obtain ⟨hp1, hp2⟩ := List.pairwise_cons.1 hp
    obtain ⟨i, rfl, hi⟩ := hk k (by simp)
    have hgi : i < (graphF l ids).length := by rw [graph_len]; exact hi
    have ei : ids.getD ((i : Int).toNat) 0 = ids[i] := by rw [Int.toNat_natCast, getD_lt hi]
    simp only [List.map_cons, orderL, orderK]
    rw [order_eq P r hp2 fun x hx => hk x (List.mem_cons_of_mem _ hx), ei]
    have e1 : ((r.map fun k => ids.getD k.toNat 0).all fun y => !roundB l ids[i] y) = r.all fun y => prt (graphF l ids) y != prt (graphF l ids) (i : Int) := by
      rw [List.all_map, Bool.eq_iff_iff, List.all_eq_true, List.all_eq_true]
      refine forall_congr' fun y => forall_congr' fun hy => ?_
      obtain ⟨j, rfl, hj⟩ := hk y (List.mem_cons_of_mem _ hy)
      have hgj : j < (graphF l ids).length := by rw [graph_len]; exact hj
      simp only [Function.comp, Int.toNat_natCast]
      rw [getD_lt hj, bne_iff_ne, Bool.not_eq_true', Ne, prt_iff hgj hgi, ← Bool.not_eq_true, round_iff P hi hj]
      exact ⟨fun h k => h (Mut.symm k), fun h k => h (Mut.symm k)⟩
    have e2 : (ids.filter fun y => y == ids[i] || roundB l ids[i] y) = ((List.range ids.length).filter fun (j : Nat) => prt (graphF l ids) (j : Int) == prt (graphF l ids) (i : Int)).map fun (j : Nat) => ids.getD j 0 := by
      rw [filter_range]
      congr 1
      refine List.filter_congr fun j hj => ?_
      have hj : j < ids.length := by simpa using hj
      have hgj : j < (graphF l ids).length := by rw [graph_len]; exact hj
      rw [getD_lt hj, Bool.eq_iff_iff, Bool.or_eq_true, beq_iff_eq, beq_iff_eq, prt_iff hgj hgi, round_iff P hi hj]
      constructor
      · rintro (h | h)
        · rw [nodup_at (up_ne P.up) hj hi h]; exact ⟨.refl, .refl⟩
        · exact Mut.symm h
      · exact fun h => .inr (Mut.symm h)
    rw [e1, e2]
theorem left_pts (G : Graph) : ∀ k ∈ leftA G, ∃ i : Nat, k = (i : Int) ∧ i < G.length := fun k hk => by
  obtain ⟨j, hj, e⟩ := List.getElem_of_mem hk
  obtain ⟨x, hx, hxn, _⟩ := (left_says G).1 j hj
  exact ⟨x, by rw [← e, hx], hxn⟩
theorem orderF_eq (hr : Rising l) (A : List Int) : orderF l A = orderK (graphF l (reachF l (A.map toA))) (reachF l (A.map toA)) (leftA (graphF l (reachF l (A.map toA)))) := by
  unfold orderF leftI
  refine order_eq (ids_reach hr) _ (left_says _).2.2 fun k hk => ?_
  obtain ⟨i, e, hi⟩ := left_pts _ k hk
  exact ⟨i, e, by rwa [graph_len] at hi⟩

end Go.Pl.Mat

/-
  Plain: the code that makes objects, and the state behind it.
-/
namespace Go.Pl.Mat
open Go.Pl.Api Go.Pl.Vst Go.Pl

def varA (b : ByteArray) : MArg := ⟨1, b, 0⟩
def nulA : MArg := ⟨4, ⟨#[]⟩, 0⟩
def eS : ByteArray := ⟨#[]⟩
/-- Which object of the order an argument means. -/
def tgt (l : List MObj) (order : List Int) (a : MArg) : Option Nat := if (reallyF l a).kind = 5 then atF order (reallyF l a).n else none
def argF (l : List MObj) (order : List Int) (names : List ByteArray) (i : Nat) (a : MArg) : MArg := match tgt l order a with
  | some q => if q < i then varA (names.getD q eS) else nulA
  | none => reallyF l a
def newI (l : List MObj) (order : List Int) (names : List ByteArray) (i : Nat) : MInstr :=
  ⟨25, names.getD i eS, (objF l (order.getD i 0)).cls, (objF l (order.getD i 0)).vals.map (argF l order names i), [], []⟩
def stI (names : List ByteArray) (i q : Nat) (field : ByteArray) : MInstr := ⟨27, eS, field, [varA (names.getD i eS), varA (names.getD q eS)], [], []⟩
/-- What is filled late, of an object's first so many fields. -/
def lateO (l : List MObj) (order : List Int) (fields : List MVar) (i : Nat) (vals : List MArg) (k : Nat) : Option (Nat × Nat × ByteArray) := match vals[k]? with
  | some a => match tgt l order a with
    | some q => if i ≤ q then some (i, q, ((fields[k]?).map (·.name)).getD eS) else none
    | none => none
  | none => none
def lates (l : List MObj) (order : List Int) (fields : List MVar) (i k : Nat) : List (Nat × Nat × ByteArray) := (List.range k).filterMap (lateO l order fields i (objF l (order.getD i 0)).vals)
def latesTo (l : List MObj) (order : List Int) (fields : List MVar) (n : Nat) : List (Nat × Nat × ByteArray) := (List.range n).flatMap fun i => lates l order fields i (objF l (order.getD i 0)).vals.length
def newsTo (l : List MObj) (order : List Int) (names : List ByteArray) (n : Nat) : List MInstr := (List.range n).map (newI l order names)
def storesOf (names : List ByteArray) (L : List (Nat × Nat × ByteArray)) : List MInstr := L.map fun x => stI names x.1 x.2.1 x.2.2
def codeF (l : List MObj) (order : List Int) (fields : List MVar) (names : List ByteArray) : List MInstr := newsTo l order names order.length ++ storesOf names (latesTo l order fields order.length)
def stateTo (l : List MObj) (order : List Int) (names : List ByteArray) : Nat → List MObj
  | 0 => l
  | n + 1 => addF (stateTo l order names n) { objF l (order.getD n 0) with real := varA (names.getD n eS) }

theorem addF_rising {l : List MObj} (hr : Rising l) (o : MObj) : Rising (addF l o) := by
  unfold addF Rising at *
  refine List.pairwise_append.2 ⟨List.Pairwise.filter _ hr, List.pairwise_cons.2 ⟨fun x hx => ?_, List.Pairwise.filter _ hr⟩, fun x hx y hy => ?_⟩
  · have := (List.mem_filter.1 hx).2
    exact of_decide_eq_true this
  · have hx := of_decide_eq_true (List.mem_filter.1 hx).2
    rcases List.mem_cons.1 hy with rfl | hy
    · exact hx
    · have hy := of_decide_eq_true (List.mem_filter.1 hy).2
      omega
theorem mem_addF {l : List MObj} {o x : MObj} : x ∈ addF l o ↔ x = o ∨ (x ∈ l ∧ x.id ≠ o.id) := by
  unfold addF
  rw [List.mem_append, List.mem_cons, List.mem_filter, List.mem_filter, decide_eq_true_eq, decide_eq_true_eq]
  constructor
  · rintro (⟨h1, h2⟩ | h | ⟨h1, h2⟩)
    · exact .inr ⟨h1, by omega⟩
    · exact .inl h
    · exact .inr ⟨h1, by omega⟩
  · rintro (h | ⟨h1, h2⟩)
    · exact .inr (.inl h)
    · rcases Int.lt_or_gt_of_ne h2 with h | h
      · exact .inl ⟨h1, h⟩
      · exact .inr (.inr ⟨h1, h⟩)
theorem find_addF {l : List MObj} (hr : Rising l) {o : MObj} {b : MArg} : findF (addF l o) b = if b.kind = 5 ∧ b.n = o.id then some o else findF l b := by
  by_cases h5 : b.kind = 5
  · by_cases e : b.n = o.id
    · rw [if_pos ⟨h5, e⟩]
      exact findF_of (addF_rising hr o) h5 (mem_addF.2 (.inl rfl)) e.symm
    · rw [if_neg fun h => e h.2]
      cases h : findF l b with
      | some x =>
        obtain ⟨_, hx, he⟩ := findF_some h
        exact findF_of (addF_rising hr o) h5 (mem_addF.2 (.inr ⟨hx, by omega⟩)) he
      | none =>
        cases h2 : findF (addF l o) b with
        | none => rfl
        | some x =>
          obtain ⟨_, hx, he⟩ := findF_some h2
          rcases mem_addF.1 hx with rfl | ⟨hx, _⟩
          · exact absurd he.symm e
          · rw [findF_of hr h5 hx he] at h; cases h
  · rw [if_neg fun h => h5 h.1]
    unfold findF
    rw [if_neg h5, if_neg h5]

variable {l : List MObj} {order : List Int} {names : List ByteArray}
theorem objF_id {z : Int} (h : ∃ o ∈ l, o.id = z) (hr : Rising l) : (objF l z).id = z ∧ objF l z ∈ l := by
  obtain ⟨o, ho, e⟩ := h
  subst e
  rw [objF_of hr ho]
  exact ⟨rfl, ho⟩
theorem state_rising (hr : Rising l) : ∀ n, Rising (stateTo l order names n)
  | 0 => hr
  | n + 1 => addF_rising (state_rising hr n) _
theorem atF_iff (hn : order.Pairwise (· ≠ ·)) {z : Int} {i : Nat} : atF order z = some i ↔ ∃ hi : i < order.length, order[i] = z :=
  ⟨atF_some, fun ⟨hi, e⟩ => by rw [← e]; exact atF_of hn hi⟩
/-- What stands there for what was made. -/
def madeO (l : List MObj) (order : List Int) (names : List ByteArray) (i : Nat) : MObj := { objF l (order.getD i 0) with real := varA (names.getD i eS) }
theorem madeO_id (hr : Rising l) (hobj : ∀ z ∈ order, ∃ o ∈ l, o.id = z) {i : Nat} (hi : i < order.length) : (madeO l order names i).id = order[i] := by
  unfold madeO
  rw [getD_lt hi]
  exact (objF_id (hobj _ (List.getElem_mem hi)) hr).1
theorem state_find (hr : Rising l) (hn : order.Pairwise (· ≠ ·)) (hobj : ∀ z ∈ order, ∃ o ∈ l, o.id = z) : ∀ (n : Nat), n ≤ order.length → ∀ (b : MArg), b.kind = 5 → findF (stateTo l order names n) b = match atF order b.n with
    | some i => if i < n then some (madeO l order names i) else findF l b
    | none => findF l b
  | 0, _, b, h5 => by
    simp only [stateTo]
    split <;> simp
  | n + 1, hl, b, h5 => by
    have hid := madeO_id (names := names) hr hobj (show n < order.length by omega)
    show findF (addF (stateTo l order names n) (madeO l order names n)) b = _
    rw [find_addF (state_rising hr n), hid, state_find hr hn hobj n (by omega) b h5]
    by_cases e : b.n = order[n]
    · rw [if_pos ⟨h5, e⟩, e, atF_of hn (by omega)]
      simp
    · rw [if_neg fun h => e h.2]
      cases h : atF order b.n with
      | none => rfl
      | some i =>
        obtain ⟨hi, e2⟩ := atF_some h
        simp only
        by_cases hin : i < n
        · rw [if_pos hin, if_pos (by omega)]
        · have : i ≠ n := fun h => by subst h; exact e e2.symm
          rw [if_neg hin, if_neg (by omega)]
theorem state_len (hr : Rising l) (hobj : ∀ z ∈ order, ∃ o ∈ l, o.id = z) : ∀ (n : Nat), n ≤ order.length → (stateTo l order names n).length ≤ l.length ∧ ∀ z, (∃ o ∈ l, o.id = z) → ∃ o ∈ stateTo l order names n, o.id = z
  | 0, _ => ⟨Nat.le_refl _, fun _ h => h⟩
  | n + 1, hl => by
    obtain ⟨h1, h2⟩ := state_len hr hobj n (by omega)
    have hid := madeO_id (names := names) hr hobj (show n < order.length by omega)
    obtain ⟨o, ho, e⟩ := h2 _ (hobj _ (List.getElem_mem (show n < order.length by omega)))
    refine ⟨Nat.le_trans ?_ h1, fun z hz => ?_⟩
    · show (addF (stateTo l order names n) (madeO l order names n)).length ≤ _
      generalize stateTo l order names n = st at *
      have hsum : ∀ (m : List MObj) (c : Int), (m.filter fun x => decide (x.id < c)).length + (m.filter fun x => decide (c < x.id)).length + (m.filter fun x => decide (x.id = c)).length = m.length := by
        intro m c
        induction m with
        | nil => rfl
        | cons x m ih =>
          simp only [List.filter_cons, List.length_cons]
          rcases Int.lt_trichotomy x.id c with h | h | h
          · rw [if_pos (by simpa using h), if_neg (by simp; omega), if_neg (by simp; omega)]
            simp only [List.length_cons]; omega
          · rw [if_neg (by simp; omega), if_neg (by simp; omega), if_pos (by simpa using h)]
            simp only [List.length_cons]; omega
          · rw [if_neg (by simp; omega), if_pos (by simpa using h), if_neg (by simp; omega)]
            simp only [List.length_cons]; omega
      have hs := hsum st (madeO l order names n).id
      have hpos : 0 < (st.filter fun x => decide (x.id = (madeO l order names n).id)).length := List.length_pos_of_mem (List.mem_filter.2 ⟨ho, by simp [hid, e]⟩)
      unfold addF
      simp only [List.length_append, List.length_cons]
      omega
    · obtain ⟨x, hx, ex⟩ := h2 z hz
      show ∃ o ∈ addF (stateTo l order names n) (madeO l order names n), o.id = z
      by_cases e2 : x.id = (madeO l order names n).id
      · exact ⟨_, mem_addF.2 (.inl rfl), by omega⟩
      · exact ⟨x, mem_addF.2 (.inr ⟨hx, e2⟩), ex⟩
theorem objF_vals_le {n : Nat} (hv : ∀ o ∈ l, o.vals.length ≤ n) (z : Int) : (objF l z).vals.length ≤ n := by
  unfold objF
  cases h : findF l (toA z) with
  | none => simp [zObj]
  | some o => exact hv o (findF_some h).2.1
theorem state_vals {m : Nat} (hv : ∀ o ∈ l, o.vals.length ≤ m) : ∀ (n : Nat), ∀ o ∈ stateTo l order names n, o.vals.length ≤ m
  | 0, o, h => hv o h
  | n + 1, o, h => by
    rcases mem_addF.1 h with rfl | ⟨h, _⟩
    · exact objF_vals_le hv _
    · exact state_vals hv n o h

end Go.Pl.Mat

/-
  Plain: numbers as texts, as the document writes them.
-/
namespace Go.Pl.Put

/-- Digits ahead of what is there already. -/
def digs : Nat → Nat → List UInt8 → List UInt8
  | 0, _, acc => acc
  | f + 1, m, acc => if m / 10 = 0 then UInt8.ofNat (48 + m % 10) :: acc else digs f (m / 10) (UInt8.ofNat (48 + m % 10) :: acc)
def putF (n : Int) : ByteArray := if n < 0 then ⟨#[45]⟩ ++ ⟨(digs 20 n.natAbs []).toArray⟩ else ⟨(digs 20 n.natAbs []).toArray⟩
theorem digs_len : ∀ (f m : Nat) (acc : List UInt8), (digs f m acc).length ≤ f + acc.length
  | 0, _, acc => by simp [digs]
  | f + 1, m, acc => by
    unfold digs
    split
    · simp only [List.length_cons]; omega
    · have := digs_len f (m / 10) (UInt8.ofNat (48 + m % 10) :: acc)
      simp only [List.length_cons] at this
      omega
theorem put_size (n : Int) : (putF n).size ≤ 21 := by
  have h := digs_len 20 n.natAbs []
  simp only [List.length_nil] at h
  unfold putF
  split
  · rw [ByteArray.size_append]
    show 1 + (digs 20 n.natAbs []).length ≤ 21
    omega
  · show (digs 20 n.natAbs []).length ≤ 21
    omega

end Go.Pl.Put

/-
  Plain: the order in which points are left, more of it: what is left by a time, with what leads on from it.
-/
namespace Go.Pl.Mat
open Go.Pl.Api Go.Pl.Vst Go.Pl
variable {G : Graph}

/-- What is left by a time leads to what is left by then, or to what leads to the one that is just left. -/
def Post2 (G : Graph) (l new : List Int) : Prop := ∀ j (hj : j < new.length), ∀ u w : Nat, (u : Int) ∈ l ++ new.take (j + 1) → w < G.length → leadsB G u (w : Int) = true → (w : Int) ∈ l ++ new.take (j + 1) ∨ ∃ x : Nat, new[j] = (x : Int) ∧ Ch G w x
def Sucs (G : Graph) (s : List Bool × List Int) : Prop := ∀ u w : Nat, (u : Int) ∈ s.2 → w < G.length → leadsB G u (w : Int) = true → s.1.getD w false = true
theorem Post2.append {l a b : List Int} (h : Post2 G l a) (k : Post2 G (l ++ a) b) : Post2 G l (a ++ b) := by
  intro j hj u w hu hw hl
  rcases Nat.lt_or_ge j a.length with hlt | hge
  · rw [List.take_append_of_le_length (by omega)] at hu ⊢
    rw [List.getElem_append_left hlt]
    exact h j hlt u w hu hw hl
  · have e : l ++ (a ++ b).take (j + 1) = l ++ a ++ b.take (j - a.length + 1) := by
      rw [List.take_append, List.take_of_length_le (by omega), List.append_assoc, show j + 1 - a.length = j - a.length + 1 by omega]
    rw [e] at hu ⊢
    rw [List.getElem_append_right hge]
    exact k (j - a.length) (by rw [List.length_append] at hj; omega) u w hu hw hl
mutual
theorem dn_post : ∀ (f a : Nat) (s : List Bool × List Int), s.1.length = G.length → a < G.length → s.1.getD a false = false → open' s.1 ≤ f → (∀ v, v < G.length → s.1.getD v false = true → (v : Int) ∈ s.2 ∨ Ch G v a) → Sucs G s →
    ∃ new, Lft G s (dn G f a s.1 s.2) new ∧ (a : Int) ∈ new ∧ Post2 G s.2 new ∧ Sucs G (dn G f a s.1 s.2)
  | 0, a, s, hlen, ha, hm, ho, _, _ => by
    have := count_set (M := s.1) (a := a) (by omega) (by simpa [List.getD_eq_getElem?_getD, show a < s.1.length by omega] using hm)
    omega
  | f + 1, a, s, hlen, ha, hm, ho, hs, hq => by
    obtain ⟨new2, hL2, hin⟩ := dn_left (f + 1) a s hlen ha hm ho hs
    have hal : a < s.1.length := by omega
    have hc := count_set (M := s.1) (a := a) hal (by simpa [List.getD_eq_getElem?_getD, hal] using hm)
    have hset : ∀ v, (s.1.set a true).getD v false = true ↔ v = a ∨ s.1.getD v false = true := fun v => by
      rw [getD_set hal]
      by_cases e : a = v
      · subst e; simp
      · have : ¬ v = a := fun h => e h.symm
        simp [e, this]
    obtain ⟨new, hA, hw, hP, hQ⟩ := fold_post f a ha (G.getD a []) (s.1.set a true, s.2) (by simpa using hlen) (by simp only; omega) (fun k hk => hk) (fun v hv hmv => by
      rcases (hset v).1 hmv with h | h
      · subst h; exact .inr .refl
      · exact hs v hv h) (fun u w hu hw hl => (hset w).2 (.inr (hq u w hu hw hl)))
    have hres : (dn G (f + 1) a s.1 s.2).2 = s.2 ++ (new ++ [(a : Int)]) := by unfold dn; simp only; rw [hA.left]; simp
    have hres1 : (dn G (f + 1) a s.1 s.2).1 = ((G.getD a []).foldl (stepDn G.length (dn G f)) (s.1.set a true, s.2)).1 := by unfold dn; rfl
    have hnew : new2 = new ++ [(a : Int)] := by
      have := hL2.left
      rw [hres] at this
      exact (List.append_cancel_left this).symm
    subst hnew
    -- the successors of all that is left by then are marked
    have hall : ∀ u w : Nat, (u : Int) ∈ s.2 ++ (new ++ [(a : Int)]) → w < G.length → leadsB G u (w : Int) = true → ((G.getD a []).foldl (stepDn G.length (dn G f)) (s.1.set a true, s.2)).1.getD w false = true := fun u w hu hwn hl => by
      rw [← List.append_assoc, List.mem_append, List.mem_singleton] at hu
      rcases hu with hu | hu
      · exact hQ u w (by rw [hA.left]; exact hu) hwn hl
      · have : u = a := by omega
        subst this
        have := hw (w : Int) (by simpa [leadsB, List.contains_eq_mem] using hl) (by omega) (by omega)
        rwa [Int.toNat_natCast] at this
    refine ⟨_, hL2, hin, ?_, ?_⟩
    · refine hP.append fun j hj u w hu hwn hl => ?_
      have hj : j = 0 := by simpa using hj
      subst hj
      have hm2 := hall u w (by rw [← List.append_assoc]; simpa using hu) hwn hl
      rw [hA.mark w hwn] at hm2
      rcases hm2 with h1 | h1
      · rcases (hset w).1 h1 with h2 | h2
        · subst h2; exact .inl (by simp)
        · rcases hs w hwn h2 with h3 | h3
          · exact .inl (List.mem_append.2 (.inl (List.mem_append.2 (.inl h3))))
          · exact .inr ⟨a, rfl, h3⟩
      · exact .inl (List.mem_append.2 (.inl (List.mem_append.2 (.inr h1))))
    · intro u w hu hwn hl
      rw [hres1]
      rw [hres] at hu
      exact hall u w hu hwn hl
termination_by f _ _ _ _ _ _ _ _ => (f, 0)
theorem fold_post (f a : Nat) (ha : a < G.length) : ∀ (w : List Int) (s : List Bool × List Int), s.1.length = G.length → open' s.1 ≤ f → (∀ k ∈ w, k ∈ G.getD a []) → (∀ v, v < G.length → s.1.getD v false = true → (v : Int) ∈ s.2 ∨ Ch G v a) → Sucs G s →
    ∃ new, Lft G s (w.foldl (stepDn G.length (dn G f)) s) new ∧ (∀ k ∈ w, 0 ≤ k → k < G.length → (w.foldl (stepDn G.length (dn G f)) s).1.getD k.toNat false = true) ∧ Post2 G s.2 new ∧ Sucs G (w.foldl (stepDn G.length (dn G f)) s)
  | [], s, hlen, _, _, _, hq => ⟨[], Lft.refl hlen, by simp, fun j hj => by simp at hj, hq⟩
  | k :: w, s, hlen, ho, hw, hs, hq => by
    have one : ∃ n1, Lft G s (stepDn G.length (dn G f) s k) n1 ∧ (0 ≤ k → k < G.length → (stepDn G.length (dn G f) s k).1.getD k.toNat false = true) ∧ Post2 G s.2 n1 ∧ Sucs G (stepDn G.length (dn G f) s k) := by
      unfold stepDn
      split
      · rename_i hk
        have hka : leadsB G a ((k.toNat : Nat) : Int) = true := by
          have := hw k (by simp)
          rw [Int.toNat_of_nonneg hk.1]
          simpa [leadsB, List.contains_eq_mem] using this
        have hkn : k.toNat < G.length := by omega
        obtain ⟨new, hA, hin, hP, hQ⟩ := dn_post f k.toNat s hlen hkn hk.2.2 ho (fun v hv hm => (hs v hv hm).imp id fun h => h.trans (Ch.one hka hkn)) hq
        exact ⟨new, hA, fun _ _ => (hA.mark _ hkn).2 (.inr hin), hP, hQ⟩
      · rename_i hk
        refine ⟨[], Lft.refl hlen, fun h1 h2 => ?_, fun j hj => by simp at hj, hq⟩
        cases hg : s.1.getD k.toNat false with
        | true => rfl
        | false => exact absurd ⟨h1, h2, hg⟩ hk
    obtain ⟨n1, h1, h1k, p1, q1⟩ := one
    have hg := stepDn_keep (n := G.length) (go := dn G f) Grows Grows.refl (fun _ _ _ => Grows.trans) (fun k s _ _ => dn_grows G f k s) [k] s
    have ho2 : open' (stepDn G.length (dn G f) s k).1 ≤ f := by
      have := hg.op
      simp only [List.foldl_cons, List.foldl_nil] at this
      omega
    obtain ⟨n2, h2, h2k, p2, q2⟩ := fold_post f a ha w _ h1.len ho2 (fun k hk => hw k (by simp [hk])) (fun v hv hm => by
      rw [h1.left]
      rcases (h1.mark v hv).1 hm with h | h
      · exact (hs v hv h).imp (fun h => List.mem_append.2 (.inl h)) id
      · exact .inl (List.mem_append.2 (.inr h))) q1
    refine ⟨n1 ++ n2, h1.trans h2, fun j hj hj0 hjn => ?_, p1.append (by rw [← h1.left]; exact p2), q2⟩
    rw [List.foldl_cons]
    rcases List.mem_cons.1 hj with rfl | hj
    · exact (h2.mark _ (by omega)).2 (.inl (h1k hj0 hjn))
    · exact h2k j hj hj0 hjn
termination_by w _ _ _ _ _ _ => (f, w.length + 1)
end
theorem all_post (G : Graph) : ∀ k, k ≤ G.length → ∃ new, Lft G (List.replicate G.length false, []) (allDn G k) new ∧ Post2 G [] new ∧ Sucs G (allDn G k)
  | 0, _ => ⟨[], Lft.refl (by simp), fun j hj => by simp at hj, fun u w hu => by simp [allDn] at hu⟩
  | k + 1, hk => by
    obtain ⟨new, hA, hP, hQ⟩ := all_post G k (by omega)
    have hrep : ∀ v, (List.replicate G.length false).getD v false = false := fun v => by
      simp [List.getD_eq_getElem?_getD, List.getElem?_replicate]; split <;> rfl
    have hm : ∀ v, v < G.length → ((allDn G k).1.getD v false = true ↔ (v : Int) ∈ new) := fun v hv => by
      rw [hA.mark v hv, hrep]; simp
    have hl : (allDn G k).2 = new := by rw [hA.left]; simp
    rw [allDn_succ]
    split
    · rename_i h
      have hop : open' (allDn G k).1 ≤ G.length := by
        unfold open'
        exact Nat.le_trans List.count_le_length (by rw [hA.len]; exact Nat.le_refl _)
      obtain ⟨n2, h2, _, p2, q2⟩ := dn_post G.length k (allDn G k) hA.len (by omega) h hop (fun v hv hmv => .inl (by rw [hl]; exact (hm v hv).1 hmv)) hQ
      refine ⟨new ++ n2, hA.trans h2, hP.append (by rw [List.nil_append, ← hl]; exact p2), q2⟩
    · exact ⟨new, hA, hP, hQ⟩
theorem left_post (G : Graph) : Post2 G [] (leftA G) := by
  obtain ⟨new, hA, hP, _⟩ := all_post G G.length (Nat.le_refl _)
  have hl : leftA G = new := by unfold leftA; rw [hA.left]; simp
  rw [hl]
  exact hP

/-- All that the last one left of a part leads to is left by then. -/
theorem last_closed {j : Nat} (hj : j < (leftA G).length) {k : Nat} (hk : (leftA G)[j] = (k : Int)) (hlast : ((leftA G).drop (j + 1)).all (fun y => prt G y != prt G (k : Int)) = true) {v : Nat} (h : Ch G k v) : (v : Int) ∈ (leftA G).take (j + 1) := by
  have hkn : k < G.length := by
    obtain ⟨i, e, hi⟩ := left_pts G _ (List.getElem_mem hj)
    rw [hk] at e
    omega
  induction h with
  | refl =>
    have : (leftA G)[j] ∈ (leftA G).take (j + 1) := by rw [List.mem_iff_getElem]; exact ⟨j, by simp; omega, by simp⟩
    rwa [hk] at this
  | @step u w hu hl hw ih =>
    have hp := left_post G j hj u w (by simpa using ih) hw hl
    rcases hp with hp | ⟨x, hx, hc⟩
    · simpa using hp
    · have hxk : x = k := by rw [hk] at hx; omega
      subst hxk
      have hmut : Mut G x w := ⟨Ch.step hu hl hw, hc⟩
      have hin := (left_says G).2.1 w hw
      rw [← List.take_append_drop (j + 1) (leftA G), List.mem_append] at hin
      rcases hin with hin | hin
      · exact hin
      · have := List.all_eq_true.1 hlast _ hin
        rw [bne_iff_ne] at this
        exact absurd ((prt_iff hw hkn).2 (Mut.symm hmut)) this

/-! The order -/
variable {l : List MObj} {ids : List Int}
/-- Of two in the order the one ahead is of the same part and less, or leads not to the other one. -/
def Ahead (G : Graph) (ids : List Int) (z w : Int) : Prop := ∀ (i j : Nat) (hi : i < ids.length) (hj : j < ids.length), z = ids[i] → w = ids[j] → (prt G (i : Int) = prt G (j : Int) ∧ z < w) ∨ ¬ Ch G i j
theorem mem_partOf {k : Int} {z : Int} : z ∈ ((List.range ids.length).filter fun (i : Nat) => prt G (i : Int) == prt G k).map (fun (i : Nat) => ids.getD i 0) ↔ ∃ i, ∃ hi : i < ids.length, prt G (i : Int) = prt G k ∧ z = ids[i] := by
  simp only [List.mem_map, List.mem_filter, List.mem_range, beq_iff_eq]
  constructor
  · rintro ⟨i, ⟨hi, h⟩, e⟩
    exact ⟨i, hi, h, by rw [← e, getD_lt hi]⟩
  · rintro ⟨i, hi, h, e⟩
    exact ⟨i, ⟨hi, h⟩, by rw [e, getD_lt hi]⟩
theorem mem_orderK : ∀ {K : List Int} {z : Int}, z ∈ orderK G ids K → ∃ i, ∃ hi : i < ids.length, z = ids[i] ∧ ∃ y ∈ K, prt G (i : Int) = prt G y
  | [], _, h => by cases h
  | k :: r, z, h => by
    rcases List.mem_append.1 (show z ∈ _ ++ orderK G ids r from h) with h | h
    · split at h
      · obtain ⟨i, hi, hp, e⟩ := mem_partOf.1 h
        exact ⟨i, hi, e, k, by simp, hp⟩
      · cases h
    · obtain ⟨i, hi, e, y, hy, hp⟩ := mem_orderK h
      exact ⟨i, hi, e, y, List.mem_cons_of_mem _ hy, hp⟩
theorem orderK_all {i : Nat} (hi : i < ids.length) : ∀ {K : List Int}, (∃ y ∈ K, prt G (i : Int) = prt G y) → ids[i] ∈ orderK G ids K
  | [], h => by obtain ⟨y, hy, _⟩ := h; cases hy
  | k :: r, h => by
    show ids[i] ∈ _ ++ orderK G ids r
    by_cases hr : ∃ y ∈ r, prt G (i : Int) = prt G y
    · exact List.mem_append.2 (.inr (orderK_all hi hr))
    · obtain ⟨y, hy, hp⟩ := h
      have hyk : y = k := by
        rcases List.mem_cons.1 hy with h | h
        · exact h
        · exact absurd ⟨y, h, hp⟩ hr
      subst hyk
      refine List.mem_append.2 (.inl ?_)
      rw [if_pos, mem_partOf]
      · exact ⟨i, hi, hp, rfl⟩
      · rw [List.all_eq_true]
        intro x hx
        rw [bne_iff_ne]
        exact fun e => hr ⟨x, hx, hp.trans e.symm⟩
theorem orderK_ahead (hup : ids.Pairwise (· < ·)) (hGl : G.length = ids.length) : ∀ (n : Nat), n ≤ (leftA G).length → (orderK G ids ((leftA G).drop ((leftA G).length - n))).Pairwise (Ahead G ids)
  | 0, _ => by simp [orderK]
  | n + 1, hn => by
    have ih := orderK_ahead hup hGl n (by omega)
    have hj : (leftA G).length - (n + 1) < (leftA G).length := by omega
    rw [List.drop_eq_getElem_cons hj]
    have e : (leftA G).length - (n + 1) + 1 = (leftA G).length - n := by omega
    obtain ⟨k, hk, hkn⟩ := left_pts G _ (List.getElem_mem hj)
    have hne := up_ne hup
    show (_ ++ orderK G ids _).Pairwise _
    refine List.pairwise_append.2 ⟨?_, by rw [e]; exact ih, ?_⟩
    · split
      · rw [List.pairwise_map]
        refine List.Pairwise.imp_of_mem (R := fun (a b : Nat) => a < b) ?_ (List.Pairwise.filter _ List.pairwise_lt_range)
        intro a b ha hb hab i j hi hj' e1 e2
        simp only [List.mem_filter, List.mem_range, beq_iff_eq] at ha hb
        rw [getD_lt ha.1] at e1
        rw [getD_lt hb.1] at e2
        have h1 := nodup_at hne ha.1 hi e1
        have h2 := nodup_at hne hb.1 hj' e2
        subst h1 h2
        left
        refine ⟨ha.2.trans hb.2.symm, ?_⟩
        rw [getD_lt ha.1, getD_lt hb.1]
        exact List.pairwise_iff_getElem.1 hup _ _ _ _ hab
      · exact List.Pairwise.nil
    · intro z hz w hw i j hi hj' e1 e2
      split at hz
      · rename_i hlast
        obtain ⟨i', hi', hp, e3⟩ := mem_partOf.1 hz
        have := nodup_at hne hi hi' (e1.symm.trans e3)
        subst this
        obtain ⟨j', hj2, e4, y, hy, hp2⟩ := mem_orderK hw
        have := nodup_at hne hj' hj2 (e2.symm.trans e4)
        subst this
        right
        intro hc
        obtain ⟨y', ey, hyn⟩ := left_pts G y (List.mem_of_mem_drop hy)
        rw [hk] at hp hlast
        have m1 := (prt_iff (by omega) hkn).1 hp
        rw [ey] at hp2
        have m2 := (prt_iff (by omega) hyn).1 hp2
        have hcy : Ch G k y' := Ch.trans m1.2 (Ch.trans hc m2.1)
        have hin := last_closed hj hk hlast hcy
        rw [ey] at hy
        -- left twice
        have hnd := (left_says G).2.2
        rw [← List.take_append_drop ((leftA G).length - (n + 1) + 1) (leftA G)] at hnd
        exact (List.pairwise_append.1 hnd).2.2 _ hin _ hy rfl
      · cases hz

/-! What is known of the order of a state. -/
structure OrdP (l : List MObj) (A : List Int) : Prop where
  once : (orderF l A).Pairwise (· ≠ ·)
  mem : ∀ z, z ∈ orderF l A ↔ z ∈ reachF l (A.map toA)
  ahead : (orderF l A).Pairwise (Ahead (graphF l (reachF l (A.map toA))) (reachF l (A.map toA)))
theorem ord_is (hr : Rising l) (A : List Int) : OrdP l A := by
  have P := ids_reach (A := A.map toA) hr
  have e := orderF_eq hr A
  have hGl := graph_len (l := l) (ids := reachF l (A.map toA))
  have hmem : ∀ z, z ∈ orderF l A ↔ z ∈ reachF l (A.map toA) := fun z => by
    rw [e]
    constructor
    · intro h
      obtain ⟨i, hi, e2, _⟩ := mem_orderK h
      rw [e2]
      exact List.getElem_mem hi
    · intro h
      obtain ⟨i, hi, e2⟩ := List.getElem_of_mem h
      rw [← e2]
      exact orderK_all hi ⟨(i : Int), (left_says _).2.1 i (by omega), rfl⟩
  have hah : (orderF l A).Pairwise (Ahead (graphF l (reachF l (A.map toA))) (reachF l (A.map toA))) := by
    rw [e]
    have := orderK_ahead (G := graphF l (reachF l (A.map toA))) P.up hGl _ (Nat.le_refl _)
    rwa [Nat.sub_self, List.drop_zero] at this
  refine ⟨?_, hmem, hah⟩
  refine List.Pairwise.imp_of_mem (fun {z w} hz hw h hzw => ?_) hah
  obtain ⟨i, hi, e2⟩ := List.getElem_of_mem ((hmem z).1 hz)
  rcases h i i hi hi e2.symm (by rw [← hzw]; exact e2.symm) with ⟨_, h⟩ | h
  · omega
  · exact h .refl

end Go.Pl.Mat

/-
  Plain: behind the code all is made; what is filled late leads round.
-/
namespace Go.Pl.Mat
open Go.Pl.Api Go.Pl.Vst Go.Pl

variable {l : List MObj} {order : List Int} {names : List ByteArray}
theorem findF_self (hr : Rising l) {o : MObj} (ho : o ∈ l) : findF l (toA o.id) = some o := findF_of hr rfl ho rfl
/-- What is found behind the code. -/
theorem state_all (hr : Rising l) (hn : order.Pairwise (· ≠ ·)) (hobj : ∀ z ∈ order, ∃ o ∈ l, o.id = z) {o : MObj} (ho : o ∈ l) :
    ∃ x, findF (stateTo l order names order.length) (toA o.id) = some x ∧ x.vals = o.vals ∧ (o.id ∈ order → x.real.kind ≠ 0) ∧ (o.id ∉ order → x.real = o.real) := by
  rw [state_find hr hn hobj order.length (Nat.le_refl _) (toA o.id) rfl]
  show ∃ x, (match atF order o.id with | some i => if i < order.length then some (madeO l order names i) else findF l (toA o.id) | none => findF l (toA o.id)) = some x ∧ _
  cases h : atF order o.id with
  | none =>
    exact ⟨o, findF_self hr ho, rfl, fun h2 => absurd h2 (atF_none h), fun _ => rfl⟩
  | some i =>
    obtain ⟨hi, e⟩ := atF_some h
    refine ⟨madeO l order names i, by simp only [if_pos hi], ?_, fun _ => by simp [madeO, varA], fun h2 => absurd (by rw [← e]; exact List.getElem_mem hi) h2⟩
    show (objF l (order.getD i 0)).vals = o.vals
    rw [getD_lt hi, e, objF_of hr ho]
theorem state_none (hr : Rising l) {A : List Int} (O : OrdP l A) {z : Int} (hz : z ∈ A) : virtF (stateTo l (orderF l A) names (orderF l A).length) (toA z) = false := by
  have hobj : ∀ z ∈ orderF l A, ∃ o ∈ l, o.id = z := fun z hz => by
    obtain ⟨o, ho, e⟩ := mem_reachF.1 ((O.mem z).1 hz)
    exact ⟨o, ho.mem.1, e⟩
  unfold virtF
  rw [state_find hr O.once hobj _ (Nat.le_refl _) (toA z) rfl]
  show (match (match atF (orderF l A) z with | some i => if i < (orderF l A).length then some (madeO l (orderF l A) names i) else findF l (toA z) | none => findF l (toA z)) with | some o => o.real.kind == 0 | none => false) = false
  cases h : atF (orderF l A) z with
  | some i =>
    obtain ⟨hi, e⟩ := atF_some h
    simp only [if_pos hi, madeO, varA]
    rfl
  | none =>
    simp only
    cases h2 : findF l (toA z) with
    | none => rfl
    | some o =>
      obtain ⟨_, ho, e⟩ := findF_some h2
      simp only
      by_cases h0 : o.real.kind = 0
      · exfalso
        refine atF_none h ((O.mem z).2 (mem_reachF.2 ⟨o, .base ho h0 (List.mem_map.2 ⟨z, hz, rfl⟩) rfl e.symm, e⟩))
      · simpa using h0

/-! What leads round -/
/-- A state whose real objects are no objects that are meant. -/
def RealOk (l : List MObj) : Prop := ∀ o ∈ l, o.real.kind ≠ 5
theorem tgt_iff (hr : Rising l) (hk : RealOk l) {A : List Int} (O : OrdP l A) {a : MArg} {q : Nat} : tgt l (orderF l A) a = some q ↔ virtF l a = true ∧ ∃ hq : q < (orderF l A).length, a.n = (orderF l A)[q] := by
  have hv : ∀ q (hq : q < (orderF l A).length), ∃ o ∈ l, o.id = (orderF l A)[q] ∧ o.real.kind = 0 := fun q hq => by
    obtain ⟨o, ho, e⟩ := mem_reachF.1 ((O.mem _).1 (List.getElem_mem hq))
    exact ⟨o, ho.mem.1, e, ho.mem.2⟩
  unfold tgt
  constructor
  · intro h
    split at h
    · rename_i h5
      obtain ⟨hq, e⟩ := atF_some h
      obtain ⟨o, ho, eo, h0⟩ := hv q hq
      have hra : reallyF l a = a := by
        unfold reallyF at h5 ⊢
        cases hf : findF l a with
        | none => rfl
        | some p =>
          rw [hf] at h5
          simp only at h5 ⊢
          split
          · rfl
          · rename_i hp
            rw [if_neg hp] at h5
            exact absurd h5 (hk p (findF_some hf).2.1)
      rw [hra] at h5 e
      refine ⟨?_, hq, e.symm⟩
      unfold virtF
      rw [findF_of hr h5 ho (eo.trans e)]
      simpa using h0
    · cases h
  · rintro ⟨h, hq, e⟩
    unfold virtF at h
    split at h
    · rename_i p hp
      obtain ⟨h5, hpl, _⟩ := findF_some hp
      have hra : reallyF l a = a := by
        unfold reallyF
        rw [hp]
        simp only
        rw [if_pos (by simpa using h)]
      rw [hra, if_pos h5, e]
      exact atF_of O.once hq
    · cases h
/-- A field that means an object which stands no earlier leads back, and to no lesser one. -/
theorem late_round (hr : Rising l) {A : List Int} (O : OrdP l A) {i q : Nat} (hi : i < (orderF l A).length) (hq : q < (orderF l A).length) (hiq : i ≤ q) {a : MArg} (ha : a ∈ (objF l (orderF l A)[i]).vals) (hv : virtF l a = true) (e : a.n = (orderF l A)[q]) :
    (orderF l A)[i] ∈ reachF l [a] ∧ (orderF l A)[i] ≤ a.n := by
  have P := ids_reach (A := A.map toA) hr
  have hGl := graph_len (l := l) (ids := reachF l (A.map toA))
  have h5 : a.kind = 5 := by
    unfold virtF at hv
    split at hv
    · rename_i p hp
      exact (findF_some hp).1
    · cases hv
  have hsame : reachF l [a] = reachF l [toA a.n] := by
    have : ∀ {b c : MArg}, b.kind = 5 → c.kind = 5 → b.n = c.n → ∀ o, Rch l [b] o → Rch l [c] o := by
      intro b c hb hc e o h
      induction h with
      | base ho hv ha h5 e2 =>
        rw [List.mem_singleton] at ha
        subst ha
        exact .base ho hv (List.mem_singleton.2 rfl) hc (e.symm.trans e2)
      | step _ ho hv ha h5 e2 ih => exact .step ih ho hv ha h5 e2
    unfold reachF
    congr 1
    refine List.filter_congr fun o _ => ?_
    rw [decide_eq_decide]
    exact ⟨this (b := a) (c := toA a.n) h5 rfl rfl o, this (b := toA a.n) (c := a) rfl h5 rfl o⟩
  obtain ⟨i', hi', ei⟩ := List.getElem_of_mem ((O.mem _).1 (List.getElem_mem hi))
  obtain ⟨q', hq', eq⟩ := List.getElem_of_mem ((O.mem _).1 (List.getElem_mem hq))
  have hone : Ch (graphF l (reachF l (A.map toA))) i' q' := by
    refine .step .refl ((leads_iff hi' (up_ne P.up)).2 ⟨hq', a, by rw [ei]; exact ha, h5, e.trans eq.symm⟩) (by rw [hGl]; exact hq')
  rw [hsame, e, ← eq, ← ei]
  rcases Nat.lt_or_ge i q with hlt | hge
  · rcases (List.pairwise_iff_getElem.1 O.ahead i q hi hq hlt) i' q' hi' hq' ei.symm eq.symm with ⟨hp, hz⟩ | hn
    · have hm := (prt_iff (by rw [hGl]; exact hi') (by rw [hGl]; exact hq')).1 hp
      refine ⟨(reach_iff P hq' hi').2 hm.2, ?_⟩
      rw [ei, eq]
      omega
    · exact absurd hone hn
  · have : i = q := by omega
    subst this
    have : i' = q' := nodup_at (up_ne P.up) hi' hq' (ei.trans eq.symm)
    subst this
    exact ⟨(reach_iff P hi' hi').2 .refl, Int.le_refl _⟩

/-! How many fields mean no lesser one -/
def upB (l : List MObj) (z : Int) (a : MArg) : Bool := virtF l a && decide (z ≤ a.n)
def upO (l : List MObj) (order : List Int) (i k : Nat) : Nat := ((objF l (order.getD i 0)).vals.take k).countP (upB l (order.getD i 0))
def upTo (l : List MObj) (order : List Int) : Nat → Nat
  | 0 => 0
  | n + 1 => upTo l order n + upO l order n (objF l (order.getD n 0)).vals.length
theorem lateO_some {fs : List MVar} (hr : Rising l) (hk : RealOk l) {A : List Int} (O : OrdP l A) {i k : Nat} (hi : i < (orderF l A).length) (hkl : k < (objF l ((orderF l A).getD i 0)).vals.length) {x : Nat × Nat × ByteArray}
    (h : lateO l (orderF l A) fs i (objF l ((orderF l A).getD i 0)).vals k = some x) : upB l ((orderF l A).getD i 0) (objF l ((orderF l A).getD i 0)).vals[k] = true ∧ ∃ q, ∃ hq : q < (orderF l A).length, i ≤ q ∧ virtF l (objF l ((orderF l A).getD i 0)).vals[k] = true ∧ (objF l ((orderF l A).getD i 0)).vals[k].n = (orderF l A)[q] := by
  unfold lateO at h
  rw [List.getElem?_eq_getElem hkl] at h
  simp only at h
  split at h
  · rename_i q ht
    split at h
    · rename_i hiq
      obtain ⟨hv, hq, e⟩ := (tgt_iff hr hk O).1 ht
      have hm : (objF l ((orderF l A).getD i 0)).vals[k] ∈ (objF l (orderF l A)[i]).vals := by rw [← getD_lt (d := (0 : Int)) hi]; exact List.getElem_mem hkl
      obtain ⟨h1, h2⟩ := late_round hr O hi hq hiq hm hv e
      refine ⟨?_, q, hq, hiq, hv, e⟩
      unfold upB
      rw [hv, Bool.true_and, decide_eq_true_eq]
      have e3 := getD_lt (d := (0 : Int)) hi
      omega
    · cases h
  · cases h
theorem lates_up {fs : List MVar} (hr : Rising l) (hk : RealOk l) {A : List Int} (O : OrdP l A) {i : Nat} (hi : i < (orderF l A).length) : ∀ k, k ≤ (objF l ((orderF l A).getD i 0)).vals.length → (lates l (orderF l A) fs i k).length ≤ upO l (orderF l A) i k
  | 0, _ => by simp [lates]
  | k + 1, h => by
    have ih := lates_up (fs := fs) hr hk O hi k (by omega)
    have e : (lates l (orderF l A) fs i (k + 1)).length = (lates l (orderF l A) fs i k).length + (lateO l (orderF l A) fs i (objF l ((orderF l A).getD i 0)).vals k).toList.length := by
      unfold lates
      rw [List.range_succ, List.filterMap_append, List.length_append]
      simp only [List.filterMap_cons, List.filterMap_nil]
      cases lateO l (orderF l A) fs i (objF l ((orderF l A).getD i 0)).vals k <;> rfl
    have e2 : upO l (orderF l A) i (k + 1) = upO l (orderF l A) i k + (if upB l ((orderF l A).getD i 0) (objF l ((orderF l A).getD i 0)).vals[k] then 1 else 0) := by
      unfold upO
      rw [List.take_succ_eq_append_getElem (show k < _ by omega), List.countP_append, List.countP_singleton]
    rw [e, e2]
    cases h2 : lateO l (orderF l A) fs i (objF l ((orderF l A).getD i 0)).vals k with
    | none => simp; omega
    | some x =>
      rw [(lateO_some hr hk O hi (by omega) h2).1]
      simp; omega
theorem latesTo_up {fs : List MVar} (hr : Rising l) (hk : RealOk l) {A : List Int} (O : OrdP l A) : ∀ n, n ≤ (orderF l A).length → (latesTo l (orderF l A) fs n).length ≤ upTo l (orderF l A) n
  | 0, _ => by simp [latesTo]
  | n + 1, h => by
    have ih := latesTo_up (fs := fs) hr hk O n (by omega)
    have e : latesTo l (orderF l A) fs (n + 1) = latesTo l (orderF l A) fs n ++ lates l (orderF l A) fs n (objF l ((orderF l A).getD n 0)).vals.length := by simp [latesTo, List.range_succ]
    rw [e, List.length_append]
    have := lates_up (fs := fs) hr hk O (i := n) (by omega) _ (Nat.le_refl _)
    show _ ≤ upTo l (orderF l A) n + _
    omega
theorem upO_le (i k : Nat) : upO l order i k ≤ k := by
  unfold upO
  exact Nat.le_trans List.countP_le_length (by simp; omega)
theorem upTo_le (order : List Int) {m : Nat} (hv : ∀ o ∈ l, o.vals.length ≤ m) : ∀ n, upTo l order n ≤ n * m
  | 0 => by simp [upTo]
  | n + 1 => by
    have := upTo_le order hv n
    have h2 := upO_le (l := l) (order := order) n (objF l (order.getD n 0)).vals.length
    have h3 := objF_vals_le hv (order.getD n 0)
    show upTo l order n + _ ≤ _
    rw [Nat.succ_mul]
    omega
/-- Does a field mean an object that stands no earlier? -/
def LateAt (l : List MObj) (order : List Int) (i : Nat) (a : MArg) : Prop := ∃ q, ∃ hq : q < order.length, i ≤ q ∧ virtF l a = true ∧ a.n = order[q]
theorem lates_none {fs : List MVar} (hr : Rising l) (hk : RealOk l) {A : List Int} (O : OrdP l A) {n : Nat} (hn : n ≤ (orderF l A).length)
    (h : ∀ i, i < n → ∀ a ∈ (objF l ((orderF l A).getD i 0)).vals, ¬ LateAt l (orderF l A) i a) : latesTo l (orderF l A) fs n = [] := by
  unfold latesTo
  rw [List.flatMap_eq_nil_iff]
  intro i hi
  have hi : i < n := by simpa using hi
  unfold lates
  rw [List.filterMap_eq_nil_iff]
  intro k hkk
  have hkl : k < (objF l ((orderF l A).getD i 0)).vals.length := by simpa using hkk
  cases h2 : lateO l (orderF l A) fs i (objF l ((orderF l A).getD i 0)).vals k with
  | none => rfl
  | some x =>
    obtain ⟨_, q, hq, hiq, hv, e⟩ := lateO_some hr hk O (by omega) hkl h2
    exact absurd ⟨q, hq, hiq, hv, e⟩ (h i hi _ (List.getElem_mem hkl))
end Go.Pl.Mat
