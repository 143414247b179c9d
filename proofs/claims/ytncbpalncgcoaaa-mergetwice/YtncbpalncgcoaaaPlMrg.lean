/-
  States where ways meet: what is needed, what is merged.
-/
import Derived.Test.YtncbpalncgcoaaaPlVst
import Derived.Test.YtncbpalncgcoaaaFwMapI
namespace Go.Pl.Mrg
open Go.Pl.Api Go.Pl.Vst Go.Fw.I

def toA (id : Int) : MArg := ⟨5, ⟨#[]⟩, id⟩
def openA : MArg := ⟨1, ⟨#[95]⟩, 0⟩
abbrev Ways := List (List MObj)
abbrev Need := List (List (Int × Bool))
structure GPhi where
  id : Int
  field : Int
  ins : List MArg
  deriving DecidableEq
structure MPlan where
  need : List (List Int)
  state : List MObj
  phis : List GPhi
  alias' : List MArg
  deriving DecidableEq
def formsF (l : Ways) (id : Int) : List MObj := l.map fun s => (findF s (toA id)).getD zObj
def commonF (l : Ways) (id : Int) : Bool := l.all fun s => (findF s (toA id)).isSome
def virtN (fs : List MObj) : Nat := fs.countP fun o => decide (o.real.kind = 0)
def oneF (v : List MArg) : Bool := v.all fun a => decide (a = v.headD zArg)
def reallyL (l : Ways) (v : List MArg) : List MArg := List.zipWith reallyF l v
def fieldL (l : Ways) (fs : List MObj) (at' : Nat) : List MArg := reallyL l (fs.map fun o => o.vals.getD at' zArg)
def wantsF (l : Ways) (N : Need) (way : Nat) (a : MArg) : Need := if virtF (l.getD way []) a then N.set way (aput a.n true (N.getD way [])) else N
def wantUp (l : Ways) (v : List MArg) : Nat → Need → Need
  | 0, N => N
  | i + 1, N => wantsF l (wantUp l v i N) i (v.getD i zArg)
def fieldsUp (l : Ways) (fs : List MObj) : Nat → Need → Need
  | 0, N => N
  | at' + 1, N => if oneF (fieldL l fs at') then fieldsUp l fs at' N else wantUp l (fieldL l fs at') (fieldL l fs at').length (fieldsUp l fs at' N)
def objectF (l : Ways) (fs : List MObj) (N : Need) : Need :=
  if virtN fs < fs.length then wantUp l (fs.map fun o => toA o.id) fs.length N else fieldsUp l fs (fs.headD zObj).vals.length N
def aliasB (l : Ways) (row : List MArg) : Bool := decide (∀ i, i < row.length → row.getD i zArg = row.headD zArg ∧ virtF (l.getD i []) (row.getD i zArg) = true)
def rowWant (l : Ways) (row : List MArg) (N : Need) : Need := if aliasB l row then N else wantUp l row row.length N
def rowsUp (l : Ways) (rows : List (List MArg)) : Nat → Need → Need
  | 0, N => N
  | i + 1, N => rowWant l (rows.getD i []) (rowsUp l rows i N)
def commonUp (l : Ways) (objs : List MObj) : Nat → Need → List (List MObj) × Need
  | 0, N => ([], N)
  | i + 1, N => if commonF l (objs.getD i zObj).id then ((commonUp l objs i N).1 ++ [formsF l (objs.getD i zObj).id], objectF l (formsF l (objs.getD i zObj).id) (commonUp l objs i N).2) else commonUp l objs i N
def phiF (id field : Int) (v : List MArg) (P : List GPhi) : MArg × List GPhi := if oneF v then (v.headD zArg, P) else (openA, P ++ [⟨id, field, v⟩])
def valsUp (l : Ways) (fs : List MObj) : Nat → List GPhi → List MArg × List GPhi
  | 0, P => ([], P)
  | at' + 1, P => ((valsUp l fs at' P).1 ++ [(phiF (fs.headD zObj).id at' (fieldL l fs at') (valsUp l fs at' P).2).1], (phiF (fs.headD zObj).id at' (fieldL l fs at') (valsUp l fs at' P).2).2)
def mergedF (l : Ways) (fs : List MObj) (P : List GPhi) : MObj × List GPhi :=
  if virtN fs < fs.length then ({ fs.headD zObj with real := (phiF (fs.headD zObj).id (-1) (fs.map fun o => o.real) P).1 }, (phiF (fs.headD zObj).id (-1) (fs.map fun o => o.real) P).2)
  else ({ fs.headD zObj with vals := (valsUp l fs (fs.headD zObj).vals.length P).1 }, (valsUp l fs (fs.headD zObj).vals.length P).2)
def stateUp (l : Ways) (C : List (List MObj)) : Nat → List MObj × List GPhi
  | 0 => ([], [])
  | i + 1 => ((stateUp l C i).1 ++ [(mergedF l (C.getD i []) (stateUp l C i).2).1], (mergedF l (C.getD i []) (stateUp l C i).2).2)
def needF (l : Ways) (rows : List (List MArg)) : Need := rowsUp l rows rows.length (commonUp l (l.headD []) (l.headD []).length (l.map fun _ => [])).2
def forms (l : Ways) : List (List MObj) := (commonUp l (l.headD []) (l.headD []).length []).1
def keysF (M : List (Int × Bool)) : List Int := (M.map Prod.fst).mergeSort fun x y => decide (x ≤ y)
def planF (l : Ways) (rows : List (List MArg)) : MPlan :=
  if (needF l rows).any fun M => !M.isEmpty then ⟨(needF l rows).map keysF, [], [], []⟩
  else ⟨(needF l rows).map keysF, (stateUp l (forms l) (forms l).length).1, (stateUp l (forms l) (forms l).length).2, rows.map fun r => if aliasB l r then r.headD zArg else zArg⟩

/-- What is asked of states and rows. -/
structure Fit (l : Ways) (rows : List (List MArg)) : Prop where
  some : 0 < l.length
  six : l.length ≤ 6
  twenty : rows.length ≤ 20
  few : ∀ s ∈ l, fewF s = true
  right : ∀ s ∈ l, rightF s = true
  zero : ∀ s ∈ l, ∀ o ∈ s, o.real.kind = 0 → o.real = zArg
  len : ∀ s ∈ l, ∀ t ∈ l, ∀ o p id, findF s (toA id) = Option.some o → findF t (toA id) = Option.some p → o.vals.length = p.vals.length
  row : ∀ r ∈ rows, r.length = l.length
  plainR : ∀ r ∈ rows, ∀ a ∈ r, a.kind = 5 → a.s = ⟨#[]⟩
  plainV : ∀ s ∈ l, ∀ o ∈ s, ∀ a ∈ o.vals, a.kind = 5 → a.s = ⟨#[]⟩

end Go.Pl.Mrg

/-
  Of what is needed: how much, and which keys.
-/
namespace Go.Pl.Mrg
open Go.Pl.Api Go.Pl.Vst Go.Fw.I

theorem aput_len {k : Int} {x : Bool} : ∀ {l : List (Int × Bool)}, (aput k x l).length ≤ l.length + 1
  | [] => Nat.le_refl _
  | p :: l => by
    unfold aput
    split
    · simp
    · have := @aput_len k x l
      simp only [List.length_cons]
      omega
theorem aput_mem {k : Int} {x : Bool} {q : Int × Bool} : ∀ {l : List (Int × Bool)}, q ∈ aput k x l → q = (k, x) ∨ q ∈ l
  | [], h => by simp [aput] at h; exact .inl h
  | p :: l, h => by
    unfold aput at h
    split at h
    · rcases List.mem_cons.1 h with h | h
      · exact .inl h
      · exact .inr (List.mem_cons_of_mem _ h)
    · rcases List.mem_cons.1 h with h | h
      · exact .inr (by simp [h])
      · rcases aput_mem h with h | h
        · exact .inl h
        · exact .inr (List.mem_cons_of_mem _ h)
theorem keys_aput {k z : Int} {x : Bool} : ∀ {l : List (Int × Bool)}, z ∈ (aput k x l).map Prod.fst ↔ z = k ∨ z ∈ l.map Prod.fst
  | [] => by simp [aput]
  | p :: l => by
    unfold aput
    split
    · rename_i e
      simp only [List.map_cons, List.mem_cons, e]
      constructor
      · rintro (h | h)
        · exact .inl h
        · exact .inr (.inr h)
      · rintro (h | h | h)
        · exact .inl h
        · exact .inl h
        · exact .inr h
    · simp only [List.map_cons, List.mem_cons, keys_aput]
      constructor
      · rintro (h | h | h)
        · exact .inr (.inl h)
        · exact .inl h
        · exact .inr (.inr h)
      · rintro (h | h | h)
        · exact .inr (.inl h)
        · exact .inl h
        · exact .inr (.inr h)
theorem aput_nodup {k : Int} {x : Bool} : ∀ {l : List (Int × Bool)}, (l.map Prod.fst).Nodup → ((aput k x l).map Prod.fst).Nodup
  | [], _ => by simp [aput]
  | p :: l, h => by
    rw [List.map_cons, List.nodup_cons] at h
    unfold aput
    split
    · rename_i e
      rw [List.map_cons, List.nodup_cons]
      exact ⟨by simp only [e]; exact h.1, h.2⟩
    · rename_i e
      rw [List.map_cons, List.nodup_cons]
      refine ⟨fun hm => ?_, aput_nodup h.2⟩
      rcases keys_aput.1 hm with h1 | h1
      · exact e h1.symm
      · exact h.1 h1

def inR (n : Int) : Prop := -9223372036854775808 ≤ n ∧ n ≤ 9223372036854775807
/-- Not too many, all of them numbers; each once. -/
def NOk (b : Nat) (N : Need) : Prop := ∀ M ∈ N, M.length ≤ b ∧ (∀ x ∈ M, inR x.1) ∧ (M.map Prod.fst).Nodup
def IdsR (l : Ways) : Prop := ∀ s ∈ l, ∀ o ∈ s, inR o.id
theorem NOk.mono {a b : Nat} {N : Need} (h : NOk a N) (hab : a ≤ b) : NOk b N := fun M hM => ⟨Nat.le_trans (h M hM).1 hab, (h M hM).2⟩
theorem wantsF_ok {l : Ways} {N : Need} {w : Nat} {a : MArg} {b : Nat} (hl : IdsR l) (h : NOk b N) : NOk (b + 1) (wantsF l N w a) := by
  unfold wantsF
  split
  · rename_i hv
    intro M hM
    rcases List.mem_or_eq_of_mem_set hM with hM | rfl
    · exact ⟨Nat.le_succ_of_le (h M hM).1, (h M hM).2⟩
    · have hw : ∃ s ∈ l, l.getD w [] = s ∧ ∃ o ∈ s, o.id = a.n := by
        unfold virtF at hv
        cases hf : findF (l.getD w []) a with
        | none => rw [hf] at hv; cases hv
        | some o =>
          unfold findF at hf
          split at hf
          · have h1 := List.mem_of_find?_eq_some hf
            have h2 := List.find?_some hf
            refine ⟨l.getD w [], ?_, rfl, o, h1, by simpa using h2⟩
            rw [List.getD_eq_getElem?_getD] at h1 ⊢
            cases he : l[w]? with
            | none => rw [he] at h1; simp at h1
            | some s => exact List.mem_of_getElem? he
          · cases hf
      obtain ⟨s, hs, _, o, ho, hid⟩ := hw
      have hr : inR a.n := hid ▸ hl s hs o ho
      have key : (N.getD w []).length ≤ b ∧ (∀ x ∈ N.getD w [], inR x.1) ∧ ((N.getD w []).map Prod.fst).Nodup := by
        rw [List.getD_eq_getElem?_getD]
        cases he : N[w]? with
        | none => simp
        | some M => exact h M (List.mem_of_getElem? he)
      refine ⟨Nat.le_trans aput_len (Nat.succ_le_succ key.1), fun x hx => ?_, aput_nodup key.2.2⟩
      rcases aput_mem hx with rfl | hx
      · exact hr
      · exact key.2.1 x hx
  · exact h.mono (Nat.le_succ _)
theorem wantUp_ok {l : Ways} {v : List MArg} (hl : IdsR l) {N : Need} {b : Nat} (h : NOk b N) : ∀ {i : Nat}, NOk (b + i) (wantUp l v i N)
  | 0 => h
  | i + 1 => by
    unfold wantUp
    exact wantsF_ok hl (wantUp_ok hl h)
theorem fieldsUp_ok {l : Ways} {fs : List MObj} (hl : IdsR l) {N : Need} {b : Nat} (h : NOk b N) (h6 : l.length ≤ 6) : ∀ {i : Nat}, NOk (b + 6 * i) (fieldsUp l fs i N)
  | 0 => h
  | i + 1 => by
    unfold fieldsUp
    split
    · exact (fieldsUp_ok hl h h6).mono (by omega)
    · have : (fieldL l fs i).length ≤ 6 := by unfold fieldL reallyL; rw [List.length_zipWith]; omega
      exact (wantUp_ok hl (fieldsUp_ok hl h h6)).mono (by omega)
theorem objectF_ok {l : Ways} {fs : List MObj} (hl : IdsR l) {N : Need} {b : Nat} (h : NOk b N) (h6 : l.length ≤ 6) (hf : fs.length ≤ 6) (hn : (fs.headD zObj).vals.length ≤ 20) : NOk (b + 120) (objectF l fs N) := by
  unfold objectF
  split
  · exact (wantUp_ok hl h).mono (by omega)
  · exact (fieldsUp_ok hl h h6).mono (by omega)
theorem rowsUp_ok {l : Ways} {rows : List (List MArg)} (hl : IdsR l) {N : Need} {b : Nat} (h : NOk b N) (hr : ∀ r ∈ rows, r.length ≤ 6) : ∀ {i : Nat}, NOk (b + 6 * i) (rowsUp l rows i N)
  | 0 => h
  | i + 1 => by
    unfold rowsUp rowWant
    split
    · exact (rowsUp_ok hl h hr).mono (by omega)
    · have : (rows.getD i []).length ≤ 6 := by
        rw [List.getD_eq_getElem?_getD]
        cases he : rows[i]? with
        | none => simp
        | some r => exact hr r (List.mem_of_getElem? he)
      exact (wantUp_ok hl (rowsUp_ok hl h hr)).mono (by omega)
theorem commonUp_fst {l : Ways} {objs : List MObj} {N N' : Need} : ∀ {i : Nat}, (commonUp l objs i N).1 = (commonUp l objs i N').1
  | 0 => rfl
  | i + 1 => by
    unfold commonUp
    split
    · simp only [commonUp_fst (N := N) (N' := N') (i := i)]
    · exact commonUp_fst
theorem commonUp_mem {l : Ways} {objs : List MObj} {N : Need} {fs : List MObj} : ∀ {i : Nat}, fs ∈ (commonUp l objs i N).1 → ∃ id, commonF l id = true ∧ fs = formsF l id
  | 0, h => by simp [commonUp] at h
  | i + 1, h => by
    unfold commonUp at h
    split at h
    · rename_i hc
      rcases List.mem_append.1 h with h | h
      · exact commonUp_mem h
      · simp at h
        exact ⟨_, hc, h⟩
    · exact commonUp_mem h
theorem commonUp_len {l : Ways} {objs : List MObj} {N : Need} : ∀ {i : Nat}, (commonUp l objs i N).1.length ≤ i
  | 0 => Nat.le_refl _
  | i + 1 => by
    unfold commonUp
    have := @commonUp_len l objs N i
    split
    · simp; omega
    · omega
theorem sort_perm {a b : List Int} (h : a.Perm b) : (a.mergeSort fun x y => decide (x ≤ y)) = b.mergeSort fun x y => decide (x ≤ y) := by
  have hp := fun m => List.pairwise_mergeSort (le := fun (x y : Int) => decide (x ≤ y)) (fun a b c h1 h2 => by simp at h1 h2 ⊢; omega) (fun a b => by simp; omega) m
  refine List.Perm.eq_of_pairwise (le := fun (x y : Int) => decide (x ≤ y) = true) (fun x y _ _ h1 h2 => by simp at h1 h2; omega) (hp a) (hp b) ?_
  exact (List.mergeSort_perm a _).trans (h.trans (List.mergeSort_perm b _).symm)
theorem forms_len {l : Ways} {id : Int} : (formsF l id).length = l.length := by simp [formsF]
theorem stateUp_len {l : Ways} {C : List (List MObj)} : ∀ {i : Nat}, (stateUp l C i).1.length = i
  | 0 => rfl
  | i + 1 => by unfold stateUp; simp [stateUp_len]

end Go.Pl.Mrg

/-
  Where nothing is needed: what is merged means what it meant.
-/
namespace Go.Pl.Mrg
open Go.Pl.Api Go.Pl.Vst Go.Fw.I

def Empty (N : Need) : Prop := ∀ M ∈ N, M = []
theorem aput_ne {k : Int} {x : Bool} {l : List (Int × Bool)} : aput k x l ≠ [] := by
  cases l with
  | nil => simp [aput]
  | cons p l => unfold aput; split <;> simp
theorem wantsF_empty {l : Ways} {N : Need} {w : Nat} {a : MArg} (hw : w < N.length) (h : Empty (wantsF l N w a)) : Empty N ∧ virtF (l.getD w []) a = false := by
  unfold wantsF at h
  split at h
  · exact absurd (h _ (List.mem_iff_getElem.2 ⟨w, by simpa using hw, List.getElem_set_self _⟩)) aput_ne
  · rename_i hv
    exact ⟨h, by simpa using hv⟩
theorem wantsF_len {l : Ways} {N : Need} {i : Nat} {a : MArg} : (wantsF l N i a).length = N.length := by unfold wantsF; split <;> simp
theorem wantUp_len {l : Ways} {v : List MArg} : ∀ {i : Nat} {N : Need}, (wantUp l v i N).length = N.length
  | 0, _ => rfl
  | i + 1, N => by unfold wantUp; rw [wantsF_len, wantUp_len]
theorem fieldsUp_len {l : Ways} {fs : List MObj} : ∀ {i : Nat} {N : Need}, (fieldsUp l fs i N).length = N.length
  | 0, _ => rfl
  | i + 1, N => by
    unfold fieldsUp
    split
    · exact fieldsUp_len
    · rw [wantUp_len, fieldsUp_len]
theorem objectF_len {l : Ways} {fs : List MObj} {N : Need} : (objectF l fs N).length = N.length := by
  unfold objectF
  split
  · exact wantUp_len
  · exact fieldsUp_len
theorem wantUp_empty {l : Ways} {v : List MArg} {N : Need} : ∀ {n : Nat}, n ≤ N.length → Empty (wantUp l v n N) → Empty N ∧ ∀ i, i < n → virtF (l.getD i []) (v.getD i zArg) = false
  | 0, _, h => ⟨h, fun i hi => by omega⟩
  | n + 1, hn, h => by
    unfold wantUp at h
    obtain ⟨h1, h2⟩ := wantsF_empty (by rw [wantUp_len]; omega) h
    obtain ⟨h3, h4⟩ := wantUp_empty (by omega) h1
    refine ⟨h3, fun i hi => ?_⟩
    by_cases e : i = n
    · subst e; exact h2
    · exact h4 i (by omega)
theorem fieldL_le {l : Ways} {fs : List MObj} {at' : Nat} : (fieldL l fs at').length ≤ l.length := by
  unfold fieldL reallyL
  rw [List.length_zipWith]
  omega
theorem fieldsUp_empty {l : Ways} {fs : List MObj} {N : Need} (hN : N.length = l.length) : ∀ {n : Nat}, Empty (fieldsUp l fs n N) → Empty N ∧ ∀ at', at' < n → oneF (fieldL l fs at') = false → ∀ i, i < (fieldL l fs at').length → virtF (l.getD i []) ((fieldL l fs at').getD i zArg) = false
  | 0, h => ⟨h, fun i hi => by omega⟩
  | n + 1, h => by
    unfold fieldsUp at h
    split at h
    · rename_i h1
      obtain ⟨h3, h4⟩ := fieldsUp_empty hN h
      refine ⟨h3, fun a ha ho => ?_⟩
      by_cases e : a = n
      · subst e; rw [h1] at ho; cases ho
      · exact h4 a (by omega) ho
    · obtain ⟨h1, h2⟩ := wantUp_empty (by rw [fieldsUp_len, hN]; exact fieldL_le) h
      obtain ⟨h3, h4⟩ := fieldsUp_empty hN h1
      refine ⟨h3, fun a ha ho => ?_⟩
      by_cases e : a = n
      · subst e; exact h2
      · exact h4 a (by omega) ho
/-- What an object that needs nothing is. -/
def Calm (l : Ways) (fs : List MObj) : Prop :=
  (virtN fs < fs.length → ∀ i, i < fs.length → virtF (l.getD i []) (toA (fs.getD i zObj).id) = false) ∧
  (¬ virtN fs < fs.length → ∀ at', at' < (fs.headD zObj).vals.length → oneF (fieldL l fs at') = false → ∀ i, i < (fieldL l fs at').length → virtF (l.getD i []) ((fieldL l fs at').getD i zArg) = false)
theorem objectF_empty {l : Ways} {fs : List MObj} {N : Need} (hN : N.length = l.length) (hf : fs.length ≤ l.length) (h : Empty (objectF l fs N)) : Empty N ∧ Calm l fs := by
  unfold objectF at h
  split at h
  · rename_i hv
    obtain ⟨h1, h2⟩ := wantUp_empty (by omega) h
    refine ⟨h1, fun _ i hi => ?_, fun hn => absurd hv hn⟩
    have := h2 i hi
    have e1 : (List.map (fun o : MObj => toA o.id) fs).getD i zArg = toA fs[i].id := by rw [List.getD_eq_getElem?_getD, List.getElem?_map, List.getElem?_eq_getElem hi]; rfl
    have e2 : fs.getD i zObj = fs[i] := by rw [List.getD_eq_getElem?_getD, List.getElem?_eq_getElem hi]; rfl
    rw [e1] at this
    rw [e2]
    exact this
  · rename_i hv
    obtain ⟨h1, h2⟩ := fieldsUp_empty hN h
    exact ⟨h1, fun hn => absurd hn hv, fun _ => h2⟩
theorem commonUp_len2 {l : Ways} {objs : List MObj} {N : Need} : ∀ {i : Nat}, (commonUp l objs i N).2.length = N.length
  | 0 => rfl
  | i + 1 => by
    unfold commonUp
    split
    · simp only; rw [objectF_len, commonUp_len2]
    · exact commonUp_len2
theorem commonUp_empty {l : Ways} {objs : List MObj} {N : Need} (hN : N.length = l.length) : ∀ {n : Nat}, Empty (commonUp l objs n N).2 → Empty N ∧ ∀ fs ∈ (commonUp l objs n N).1, Calm l fs
  | 0, h => ⟨h, fun fs hf => by simp [commonUp] at hf⟩
  | n + 1, h => by
    unfold commonUp at h ⊢
    split at h
    · rename_i hc
      rw [if_pos hc]
      obtain ⟨h1, h2⟩ := objectF_empty (by rw [commonUp_len2]; exact hN) (by rw [forms_len]; exact Nat.le_refl _) h
      obtain ⟨h3, h4⟩ := commonUp_empty hN h1
      refine ⟨h3, fun fs hf => ?_⟩
      rcases List.mem_append.1 hf with hf | hf
      · exact h4 fs hf
      · simp at hf; subst hf; exact h2
    · rename_i hc
      rw [if_neg hc]
      exact commonUp_empty hN h
theorem rowsUp_len {l : Ways} {rows : List (List MArg)} {N : Need} : ∀ {n : Nat}, (rowsUp l rows n N).length = N.length
  | 0 => rfl
  | n + 1 => by
    unfold rowsUp rowWant
    split
    · exact rowsUp_len
    · rw [wantUp_len]; exact rowsUp_len
theorem rowsUp_empty {l : Ways} {rows : List (List MArg)} {N : Need} (hr : ∀ r ∈ rows, r.length ≤ N.length) : ∀ {n : Nat}, Empty (rowsUp l rows n N) → Empty N
  | 0, h => h
  | n + 1, h => by
    unfold rowsUp rowWant at h
    split at h
    · exact rowsUp_empty hr h
    · have : (rows.getD n []).length ≤ N.length := by
        rw [List.getD_eq_getElem?_getD]
        cases he : rows[n]? with
        | none => simp
        | some r => exact hr r (List.mem_of_getElem? he)
      exact rowsUp_empty hr (wantUp_empty (by rw [rowsUp_len]; exact this) h).1
theorem need_len {l : Ways} {rows : List (List MArg)} : (needF l rows).length = l.length := by
  unfold needF
  rw [rowsUp_len, commonUp_len2, List.length_map]
theorem calm {l : Ways} {rows : List (List MArg)} (hr : ∀ r ∈ rows, r.length ≤ l.length) (h : Empty (needF l rows)) : ∀ fs ∈ forms l, Calm l fs := by
  unfold needF at h
  have h1 := rowsUp_empty (by rw [commonUp_len2, List.length_map]; exact hr) h
  have h2 := (commonUp_empty (by rw [List.length_map]) h1).2
  unfold forms
  rw [commonUp_fst (N := []) (N' := l.map fun _ => [])]
  exact h2
theorem forms_mem {l : Ways} {fs : List MObj} (h : fs ∈ forms l) : ∃ id, commonF l id = true ∧ fs = formsF l id := commonUp_mem h

/-! Phis, and what is merged -/
def phiL (id field : Int) (v : List MArg) : List GPhi := if oneF v then [] else [⟨id, field, v⟩]
def phiA (v : List MArg) : MArg := if oneF v then v.headD zArg else openA
theorem phiF_eq {id field : Int} {v : List MArg} {P : List GPhi} : phiF id field v P = (phiA v, P ++ phiL id field v) := by
  unfold phiF phiA phiL
  split <;> simp
theorem valsUp_eq {l : Ways} {fs : List MObj} {P : List GPhi} : ∀ {n : Nat}, valsUp l fs n P = ((List.range n).map fun a => phiA (fieldL l fs a), P ++ (List.range n).flatMap fun (a : Nat) => phiL (fs.headD zObj).id (a : Int) (fieldL l fs a))
  | 0 => by simp [valsUp]
  | n + 1 => by
    unfold valsUp
    rw [valsUp_eq, phiF_eq, List.range_succ, List.map_append, List.flatMap_append]
    simp
def ownPhis (l : Ways) (fs : List MObj) : List GPhi := if virtN fs < fs.length then phiL (fs.headD zObj).id (-1) (fs.map fun o => o.real) else (List.range (fs.headD zObj).vals.length).flatMap fun (a : Nat) => phiL (fs.headD zObj).id (a : Int) (fieldL l fs a)
def mergedO (l : Ways) (fs : List MObj) : MObj := if virtN fs < fs.length then { fs.headD zObj with real := phiA (fs.map fun o => o.real) } else { fs.headD zObj with vals := (List.range (fs.headD zObj).vals.length).map fun a => phiA (fieldL l fs a) }
theorem mergedF_eq {l : Ways} {fs : List MObj} {P : List GPhi} : mergedF l fs P = (mergedO l fs, P ++ ownPhis l fs) := by
  unfold mergedF mergedO ownPhis
  split
  · rw [phiF_eq]
  · rw [valsUp_eq]
theorem stateUp_eq {l : Ways} {C : List (List MObj)} : ∀ {n : Nat}, n ≤ C.length → stateUp l C n = ((C.take n).map (mergedO l), (C.take n).flatMap (ownPhis l))
  | 0, _ => by simp [stateUp]
  | n + 1, h => by
    unfold stateUp
    have hg : C.getD n [] = C[n] := by rw [List.getD_eq_getElem?_getD, List.getElem?_eq_getElem (by omega)]; rfl
    rw [stateUp_eq (by omega), mergedF_eq, hg, List.take_succ_eq_append_getElem (by omega), List.map_append, List.flatMap_append]
    simp
theorem state_eq {l : Ways} : stateUp l (forms l) (forms l).length = ((forms l).map (mergedO l), (forms l).flatMap (ownPhis l)) := by
  rw [stateUp_eq (Nat.le_refl _), List.take_length]

end Go.Pl.Mrg

/-
  Where nothing is needed: what is merged means what it meant (2).
-/
namespace Go.Pl.Mrg
open Go.Pl.Api Go.Pl.Vst Go.Fw.I

def meantF (P : List GPhi) (id field : Int) (a : MArg) (w : Nat) : MArg := match P.find? (fun q => q.id == id && q.field == field) with
  | some q => q.ins.getD w zArg
  | none => a
theorem oneF_get {v : List MArg} (h : oneF v = true) {w : Nat} (hw : w < v.length) : v.getD w zArg = v.headD zArg := by
  have := List.all_eq_true.1 h _ (List.getElem_mem hw)
  rw [List.getD_eq_getElem?_getD, List.getElem?_eq_getElem hw]
  simpa using this
theorem meant_of {P : List GPhi} {id field : Int} {V : List MArg} {w : Nat} (h1 : ∀ q ∈ P, q.id = id → q.field = field → q.ins = V) (h2 : oneF V = false → ∃ q ∈ P, q.id = id ∧ q.field = field) (hw : w < V.length) :
    meantF P id field (phiA V) w = V.getD w zArg := by
  unfold meantF
  cases hf : P.find? (fun q => q.id == id && q.field == field) with
  | some q =>
    have hm := List.mem_of_find?_eq_some hf
    have hp := List.find?_some hf
    simp at hp
    simp only
    rw [h1 q hm hp.1 hp.2]
  | none =>
    have hno := List.find?_eq_none.1 hf
    have h : oneF V = true := by
      cases e : oneF V with
      | true => rfl
      | false =>
        obtain ⟨q, hq, e1, e2⟩ := h2 e
        have := hno q hq
        simp [e1, e2] at this
    simp only
    unfold phiA
    rw [if_pos h, oneF_get h hw]
theorem findF_mem {s : List MObj} {a : MArg} {o : MObj} (h : findF s a = some o) : a.kind = 5 ∧ o ∈ s ∧ o.id = a.n := by
  unfold findF at h
  split at h
  · rename_i h5
    exact ⟨h5, List.mem_of_find?_eq_some h, by simpa using List.find?_some h⟩
  · cases h
theorem forms_get {l : Ways} {id : Int} (hc : commonF l id = true) {w : Nat} (hw : w < l.length) : ∃ o, findF l[w] (toA id) = some o ∧ (formsF l id).getD w zObj = o := by
  have h1 := List.all_eq_true.1 hc _ (List.getElem_mem hw)
  cases hf : findF l[w] (toA id) with
  | none => rw [hf] at h1; cases h1
  | some o =>
    refine ⟨o, rfl, ?_⟩
    unfold formsF
    rw [List.getD_eq_getElem?_getD, List.getElem?_map, List.getElem?_eq_getElem hw]
    simp [hf]
theorem headD_getD {α : Type} {l : List α} {d : α} : l.headD d = l.getD 0 d := by cases l <;> rfl
theorem forms_id {l : Ways} (h0 : 0 < l.length) {fs : List MObj} (h : fs ∈ forms l) : commonF l (fs.headD zObj).id = true ∧ fs = formsF l (fs.headD zObj).id := by
  obtain ⟨id, hc, rfl⟩ := forms_mem h
  obtain ⟨o, hf, hg⟩ := forms_get hc h0
  have : ((formsF l id).headD zObj).id = id := by
    rw [headD_getD, hg]
    exact (findF_mem hf).2.2
  rw [this]
  exact ⟨hc, rfl⟩
abbrev phisOf (l : Ways) : List GPhi := (forms l).flatMap (ownPhis l)
theorem ownPhis_mem {l : Ways} {fs : List MObj} {q : GPhi} (h : q ∈ ownPhis l fs) : q.id = (fs.headD zObj).id ∧ oneF q.ins = false ∧
    ((virtN fs < fs.length ∧ q.field = -1 ∧ q.ins = fs.map fun o => o.real) ∨ (¬ virtN fs < fs.length ∧ ∃ a : Nat, a < (fs.headD zObj).vals.length ∧ q.field = a ∧ q.ins = fieldL l fs a)) := by
  unfold ownPhis at h
  have key : ∀ {id field : Int} {v : List MArg}, q ∈ phiL id field v → q = ⟨id, field, v⟩ ∧ oneF v = false := fun {id field v} hq => by
    unfold phiL at hq
    split at hq
    · simp at hq
    · rename_i e
      simp at hq
      exact ⟨hq, by simpa using e⟩
  split at h
  · rename_i hv
    obtain ⟨rfl, e⟩ := key h
    exact ⟨rfl, e, .inl ⟨hv, rfl, rfl⟩⟩
  · rename_i hv
    obtain ⟨a, ha, hq⟩ := List.mem_flatMap.1 h
    obtain ⟨rfl, e⟩ := key hq
    exact ⟨rfl, e, .inr ⟨hv, a, List.mem_range.1 ha, rfl, rfl⟩⟩
theorem virtN_all {fs : List MObj} (h : ¬ virtN fs < fs.length) : ∀ o ∈ fs, o.real.kind = 0 := by
  have h1 : virtN fs = fs.length := Nat.le_antisymm List.countP_le_length (by omega)
  have := List.countP_eq_length.1 h1
  intro o ho
  simpa using this o ho
theorem real_virt {s : List MObj} {a : MArg} (h : a.kind ≠ 5) : virtF s a = false := by
  unfold virtF findF
  rw [if_neg h]
theorem rightF_real {s : List MObj} (h : rightF s = true) : ∀ o ∈ s, o.real.kind ≠ 5 := by
  intro o ho
  unfold rightF at h
  simp only [Bool.and_eq_true] at h
  have := List.all_eq_true.1 h.2 o ho
  unfold objOk at this
  simp only [Bool.and_eq_true] at this
  simpa using this.1
theorem reallyL_getD {l : Ways} {v : List MArg} {w : Nat} (hl : w < l.length) (hv : w < v.length) : (reallyL l v).getD w zArg = reallyF l[w] v[w] := by
  unfold reallyL
  rw [List.getD_eq_getElem?_getD, List.getElem?_zipWith, List.getElem?_eq_getElem hl, List.getElem?_eq_getElem hv]
  rfl
theorem fieldL_getD {l : Ways} {fs : List MObj} {a w : Nat} (hl : w < l.length) (hf : w < fs.length) : (fieldL l fs a).getD w zArg = reallyF l[w] (fs[w].vals.getD a zArg) := by
  unfold fieldL
  rw [reallyL_getD hl (by simpa using hf), List.getElem_map]
theorem fieldL_eq {l : Ways} {fs : List MObj} {a : Nat} (h : fs.length = l.length) : (fieldL l fs a).length = l.length := by
  unfold fieldL reallyL
  rw [List.length_zipWith, List.length_map, h, Nat.min_self]

/-- What the law asks of each merged object, on each way. -/
structure Meant (l : Ways) (P : List GPhi) (o : MObj) (w : Nat) (was : MObj) : Prop where
  found : findF (l.getD w []) (toA o.id) = some was
  virt : was.real.kind = 0 ↔ o.real.kind = 0
  len : was.vals.length = o.vals.length
  real : o.real.kind ≠ 0 → meantF P o.id (-1) o.real w = was.real
  field : o.real.kind = 0 → ∀ a, a < o.vals.length → meantF P o.id a (o.vals.getD a zArg) w = reallyF (l.getD w []) (was.vals.getD a zArg)

theorem means_state {l : Ways} {rows : List (List MArg)} (ok : Fit l rows) (he : Empty (needF l rows)) {fs : List MObj} (hfs : fs ∈ forms l) {w : Nat} (hw : w < l.length) : ∃ was, Meant l (phisOf l) (mergedO l fs) w was := by
  have hcalm := calm (fun r hr => by rw [ok.row r hr]; exact Nat.le_refl _) he fs hfs
  obtain ⟨hc, heq⟩ := forms_id ok.some hfs
  have hlen : fs.length = l.length := by rw [heq]; exact forms_len
  have h0 : 0 < fs.length := by rw [hlen]; exact ok.some
  have hwf : w < fs.length := by omega
  have hgw : l.getD w [] = l[w] := by rw [List.getD_eq_getElem?_getD, List.getElem?_eq_getElem hw]; rfl
  obtain ⟨was, hwas, hg⟩ := forms_get hc hw
  rw [← heq] at hg
  have hfw : fs[w] = was := by rw [List.getD_eq_getElem?_getD, List.getElem?_eq_getElem hwf] at hg; exact hg
  obtain ⟨o0, ho0, hg0⟩ := forms_get hc ok.some
  rw [← heq, ← headD_getD] at hg0
  have hvl : was.vals.length = (fs.headD zObj).vals.length := by
    rw [hg0]
    exact ok.len _ (List.getElem_mem hw) _ (List.getElem_mem ok.some) _ _ _ hwas ho0
  have uniq : ∀ q ∈ phisOf l, q.id = (fs.headD zObj).id → q ∈ ownPhis l fs := fun q hq hid => by
    obtain ⟨gs, hgs, hq'⟩ := List.mem_flatMap.1 hq
    have h1 := (ownPhis_mem hq').1
    have h2 := (forms_id ok.some hgs).2
    rw [← h1, hid, ← heq] at h2
    rw [← h2]
    exact hq'
  have inP : ∀ q ∈ ownPhis l fs, q ∈ phisOf l := fun q hq => List.mem_flatMap.2 ⟨fs, hfs, hq⟩
  by_cases hv : virtN fs < fs.length
  · have hm : mergedO l fs = { fs.headD zObj with real := phiA (fs.map fun o => o.real) } := by unfold mergedO; rw [if_pos hv]
    have hreal : ∀ i (hi : i < fs.length), fs[i].real.kind ≠ 0 := fun i hi => by
      have hil : i < l.length := by omega
      have hx := hcalm.1 hv i hi
      obtain ⟨o, ho, hgo⟩ := forms_get hc hil
      rw [← heq] at hgo
      rw [hgo] at hx
      have hgi : l.getD i [] = l[i] := by rw [List.getD_eq_getElem?_getD, List.getElem?_eq_getElem hil]; rfl
      have hoid : o.id = (fs.headD zObj).id := (findF_mem ho).2.2
      rw [hgi, hoid] at hx
      unfold virtF at hx
      rw [ho] at hx
      have : fs[i] = o := by rw [List.getD_eq_getElem?_getD, List.getElem?_eq_getElem hi] at hgo; exact hgo
      rw [this]
      simpa using hx
    have hwr : was.real.kind ≠ 0 := by rw [← hfw]; exact hreal w hwf
    have hor : (phiA (fs.map fun o => o.real)).kind ≠ 0 := by
      unfold phiA
      split
      · have : (fs.map fun o : MObj => o.real).headD zArg = fs[0].real := by
          rw [headD_getD, List.getD_eq_getElem?_getD, List.getElem?_map, List.getElem?_eq_getElem h0]
          rfl
        rw [this]
        exact hreal 0 h0
      · decide
    rw [hm]
    refine ⟨was, by rw [hgw]; exact hwas, ⟨fun h => absurd h hwr, fun h => absurd h hor⟩, hvl, fun _ => ?_, fun h => absurd h hor⟩
    have := meant_of (P := phisOf l) (id := (fs.headD zObj).id) (field := -1) (V := fs.map fun o => o.real) (w := w) (fun q hq e1 e2 => ?_) (fun h1 => ?_) (by simpa using hwf)
    · rw [this, List.getD_eq_getElem?_getD, List.getElem?_map, List.getElem?_eq_getElem hwf, hfw]
      rfl
    · rcases (ownPhis_mem (uniq q hq e1)).2.2 with ⟨_, _, h3⟩ | ⟨_, a, _, h3, _⟩
      · exact h3
      · rw [e2] at h3; omega
    · refine ⟨⟨(fs.headD zObj).id, -1, fs.map fun o => o.real⟩, inP _ ?_, rfl, rfl⟩
      unfold ownPhis phiL
      rw [if_pos hv, if_neg (by rw [h1]; decide)]
      simp
  · have hm : mergedO l fs = { fs.headD zObj with vals := (List.range (fs.headD zObj).vals.length).map fun a => phiA (fieldL l fs a) } := by unfold mergedO; rw [if_neg hv]
    have hz := virtN_all hv
    have hwz : was.real.kind = 0 := by rw [← hfw]; exact hz _ (List.getElem_mem hwf)
    have h0z : (fs.headD zObj).real.kind = 0 := by
      have : fs.headD zObj = fs[0] := by rw [headD_getD, List.getD_eq_getElem?_getD, List.getElem?_eq_getElem h0]; rfl
      rw [this]
      exact hz _ (List.getElem_mem h0)
    rw [hm]
    refine ⟨was, by rw [hgw]; exact hwas, ⟨fun _ => h0z, fun _ => hwz⟩, by simpa using hvl, fun h => absurd h0z h, fun _ a ha => ?_⟩
    have ha : a < (fs.headD zObj).vals.length := by simpa using ha
    have hval : ((List.range (fs.headD zObj).vals.length).map fun a => phiA (fieldL l fs a)).getD a zArg = phiA (fieldL l fs a) := by
      rw [List.getD_eq_getElem?_getD, List.getElem?_map, List.getElem?_range ha]
      rfl
    have := meant_of (P := phisOf l) (id := (fs.headD zObj).id) (field := a) (V := fieldL l fs a) (w := w) (fun q hq e1 e2 => ?_) (fun h1 => ?_) (by rw [fieldL_eq hlen]; exact hw)
    · simp only
      rw [hval, this, fieldL_getD hw hwf, hgw, hfw]
    · rcases (ownPhis_mem (uniq q hq e1)).2.2 with ⟨h3, _, _⟩ | ⟨_, b, _, h3, h4⟩
      · exact absurd h3 hv
      · rw [e2] at h3
        have : a = b := by omega
        subst this
        exact h4
    · refine ⟨⟨(fs.headD zObj).id, a, fieldL l fs a⟩, inP _ ?_, rfl, rfl⟩
      unfold ownPhis phiL
      rw [if_neg hv]
      exact List.mem_flatMap.2 ⟨a, List.mem_range.2 ha, by rw [if_neg (by rw [h1]; decide)]; simp⟩

theorem means_phi {l : Ways} {rows : List (List MArg)} (ok : Fit l rows) (he : Empty (needF l rows)) {q : GPhi} (hq : q ∈ phisOf l) : q.ins.length = l.length ∧ oneF q.ins = false ∧ ∀ w, w < l.length → virtF (l.getD w []) (q.ins.getD w zArg) = false := by
  obtain ⟨fs, hfs, hq⟩ := List.mem_flatMap.1 hq
  have hcalm := calm (fun r hr => by rw [ok.row r hr]; exact Nat.le_refl _) he fs hfs
  obtain ⟨hc, heq⟩ := forms_id ok.some hfs
  have hlen : fs.length = l.length := by rw [heq]; exact forms_len
  obtain ⟨_, h1, h2⟩ := ownPhis_mem hq
  rcases h2 with ⟨_, _, h3⟩ | ⟨hv, a, ha, _, h3⟩
  · refine ⟨by rw [h3, List.length_map, hlen], h1, fun w hw => ?_⟩
    have hwf : w < fs.length := by omega
    obtain ⟨o, ho, hgo⟩ := forms_get hc hw
    rw [← heq] at hgo
    have hfw : fs[w] = o := by rw [List.getD_eq_getElem?_getD, List.getElem?_eq_getElem hwf] at hgo; exact hgo
    have : q.ins.getD w zArg = o.real := by
      rw [h3, List.getD_eq_getElem?_getD, List.getElem?_map, List.getElem?_eq_getElem hwf, hfw]
      rfl
    rw [this]
    exact real_virt (rightF_real (ok.right _ (List.getElem_mem hw)) o (findF_mem ho).2.1)
  · rw [h3] at h1 ⊢
    have hfl := fieldL_eq (a := a) hlen
    exact ⟨hfl, h1, fun w hw => hcalm.2 hv a ha h1 w (by omega)⟩

end Go.Pl.Mrg

/-
  What is come to twice in the same way is merged as once.
-/
namespace Go.Pl.Mrg
open Go.Pl.Api Go.Pl.Vst Go.Fw.I

/-- The first one once more, at the end. -/
def dup {α : Type} (d : α) (l : List α) : List α := l ++ [l.headD d]
theorem dup_len {α : Type} {d : α} {l : List α} : (dup d l).length = l.length + 1 := by simp [dup]
theorem dup_head {α : Type} {d : α} {l : List α} : (dup d l).headD d = l.headD d := by cases l <;> simp [dup]
theorem dup_getD {α : Type} {d : α} {l : List α} {i : Nat} (h : i < l.length) : (dup d l).getD i d = l.getD i d := by
  unfold dup
  rw [List.getD_eq_getElem?_getD, List.getD_eq_getElem?_getD, List.getElem?_append_left h]
theorem dup_last {α : Type} {d : α} {l : List α} : (dup d l).getD l.length d = l.headD d := by
  unfold dup
  rw [List.getD_eq_getElem?_getD, List.getElem?_append_right (Nat.le_refl _)]
  simp
theorem dup_mem {α : Type} {d : α} {l : List α} (h : 0 < l.length) {x : α} : x ∈ dup d l ↔ x ∈ l := by
  cases l with
  | nil => simp at h
  | cons a l =>
    simp only [dup, List.mem_append, List.mem_cons, List.headD_cons, List.not_mem_nil, or_false]
    constructor
    · rintro ((h | h) | h)
      · exact .inl h
      · exact .inr h
      · exact .inl h
    · exact fun h => .inl h
theorem dup_map {α β : Type} {d : α} {e : β} {f : α → β} {l : List α} (h : 0 < l.length) : (dup d l).map f = dup e (l.map f) := by
  cases l with
  | nil => simp at h
  | cons a l => simp [dup]
theorem dup_all {α : Type} {d : α} {l : List α} (h : 0 < l.length) {p : α → Bool} : (dup d l).all p = l.all p := by
  cases l with
  | nil => simp at h
  | cons a l =>
    simp only [dup, List.all_append, List.all_cons, List.headD_cons, List.all_nil, Bool.and_true]
    cases p a <;> simp
theorem oneF_dup {v : List MArg} (h : 0 < v.length) : oneF (dup zArg v) = oneF v := by
  unfold oneF
  rw [dup_head, dup_all h]
theorem commonF_dup {l : Ways} (h : 0 < l.length) {id : Int} : commonF (dup [] l) id = commonF l id := dup_all h
theorem formsF_dup {l : Ways} (h : 0 < l.length) {id : Int} : formsF (dup [] l) id = dup zObj (formsF l id) := dup_map h
theorem virtN_dup {fs : List MObj} (h : 0 < fs.length) : virtN (dup zObj fs) < (dup zObj fs).length ↔ virtN fs < fs.length := by
  have h1 : ∀ (gs : List MObj), virtN gs < gs.length ↔ ¬ ∀ o ∈ gs, o.real.kind = 0 := fun gs => by
    constructor
    · intro hv ha
      have : virtN gs = gs.length := List.countP_eq_length.2 fun o ho => by simpa using ha o ho
      omega
    · intro hn
      have hle : virtN gs ≤ gs.length := List.countP_le_length
      rcases Nat.lt_or_ge (virtN gs) gs.length with h | h
      · exact h
      · exact absurd (virtN_all (by omega)) hn
  rw [h1, h1]
  exact not_congr ⟨fun ha o ho => ha o ((dup_mem h).2 ho), fun ha o ho => ha o ((dup_mem h).1 ho)⟩
theorem reallyL_dup {l : Ways} {v : List MArg} (h : 0 < l.length) (he : v.length = l.length) : reallyL (dup [] l) (dup zArg v) = dup zArg (reallyL l v) := by
  cases l with
  | nil => simp at h
  | cons s l =>
    cases v with
    | nil => simp at he
    | cons a v =>
      have : List.length v = List.length l := by simpa using he
      simp only [dup, reallyL, List.headD_cons, List.cons_append, List.zipWith_cons_cons]
      rw [List.zipWith_append this.symm]
      simp
theorem fieldL_dup {l : Ways} {fs : List MObj} {a : Nat} (h : 0 < l.length) (he : fs.length = l.length) : fieldL (dup [] l) (dup zObj fs) a = dup zArg (fieldL l fs a) := by
  unfold fieldL
  rw [dup_map (e := zArg) (by omega)]
  exact reallyL_dup h (by simpa using he)
theorem set_app {N : Need} {M x : List (Int × Bool)} {i : Nat} (h : i < N.length) : (N ++ [M]).set i x = N.set i x ++ [M] := List.set_append_left _ _ h
theorem wantsF_app {l : Ways} {N : Need} {M : List (Int × Bool)} {i : Nat} {a : MArg} (h : i < N.length) (hl : N.length = l.length) : wantsF (dup [] l) (N ++ [M]) i a = wantsF l N i a ++ [M] := by
  unfold wantsF
  rw [dup_getD (by omega)]
  have : (N ++ [M]).getD i [] = N.getD i [] := by rw [List.getD_eq_getElem?_getD, List.getD_eq_getElem?_getD, List.getElem?_append_left h]
  rw [this]
  split
  · exact set_app h
  · rfl
theorem wantUp_app {l : Ways} {v : List MArg} {N : Need} {M : List (Int × Bool)} (hl : N.length = l.length) (hv : v.length = l.length) : ∀ {n : Nat}, n ≤ l.length → wantUp (dup [] l) (dup zArg v) n (N ++ [M]) = wantUp l v n N ++ [M]
  | 0, _ => rfl
  | n + 1, h => by
    unfold wantUp
    rw [wantUp_app hl hv (by omega), dup_getD (by omega), wantsF_app (by rw [wantUp_len]; omega) (by rw [wantUp_len]; exact hl)]
theorem wantUp_head {l : Ways} {v : List MArg} {N : Need} (hl : N.length = l.length) : ∀ {n : Nat}, 0 < n → n ≤ l.length → (wantUp l v n N).headD [] = if virtF (l.headD []) (v.headD zArg) then aput (v.headD zArg).n true (N.headD []) else N.headD []
  | 0, h, _ => by omega
  | 1, _, hn => by
    unfold wantUp wantUp wantsF
    rw [← headD_getD, ← headD_getD, ← headD_getD]
    split
    · cases N with
      | nil => simp at hl; omega
      | cons M N => simp
    · rfl
  | n + 2, _, hn => by
    unfold wantUp
    have ih := wantUp_head (v := v) hl (show 0 < n + 1 by omega) (by omega)
    rw [← ih]
    unfold wantsF
    split
    · have hlen : (wantUp l v (n + 1) N).length = l.length := by rw [wantUp_len, hl]
      generalize wantUp l v (n + 1) N = W at *
      cases W with
      | nil => simp
      | cons M W => simp
    · rfl
theorem wantUp_dup {l : Ways} {v : List MArg} {N : Need} (h0 : 0 < l.length) (hl : N.length = l.length) (hv : v.length = l.length) : wantUp (dup [] l) (dup zArg v) (l.length + 1) (dup [] N) = dup [] (wantUp l v l.length N) := by
  have e0 : wantUp (dup [] l) (dup zArg v) (l.length + 1) (dup [] N) = wantsF (dup [] l) (wantUp (dup [] l) (dup zArg v) l.length (dup [] N)) l.length ((dup zArg v).getD l.length zArg) := rfl
  rw [e0]
  have e : dup [] N = N ++ [N.headD []] := rfl
  rw [e, wantUp_app hl hv (Nat.le_refl _)]
  have e2 : (dup zArg v).getD l.length zArg = v.headD zArg := by rw [← hv]; exact dup_last
  rw [e2]
  unfold wantsF
  rw [dup_last]
  have hW : (wantUp l v l.length N).length = l.length := by rw [wantUp_len, hl]
  have hh := wantUp_head (v := v) hl h0 (Nat.le_refl _)
  have eg : (wantUp l v l.length N ++ [N.headD []]).getD l.length [] = N.headD [] := by
    rw [List.getD_eq_getElem?_getD, List.getElem?_append_right (by omega), hW]
    simp
  rw [eg]
  show _ = wantUp l v l.length N ++ [(wantUp l v l.length N).headD []]
  rw [hh]
  split
  · rw [List.set_append_right _ _ (by omega), hW]
    simp
  · rfl
theorem fieldsUp_dup {l : Ways} {fs : List MObj} {N : Need} (h0 : 0 < l.length) (hl : N.length = l.length) (hf : fs.length = l.length) : ∀ {n : Nat}, fieldsUp (dup [] l) (dup zObj fs) n (dup [] N) = dup [] (fieldsUp l fs n N)
  | 0 => rfl
  | n + 1 => by
    unfold fieldsUp
    have hfl := fieldL_eq (a := n) hf
    rw [fieldL_dup h0 hf, oneF_dup (by omega), fieldsUp_dup h0 hl hf]
    split
    · rfl
    · rw [dup_len, hfl, wantUp_dup h0 (by rw [fieldsUp_len, hl]) hfl]
theorem objectF_dup {l : Ways} {fs : List MObj} {N : Need} (h0 : 0 < l.length) (hl : N.length = l.length) (hf : fs.length = l.length) : objectF (dup [] l) (dup zObj fs) (dup [] N) = dup [] (objectF l fs N) := by
  unfold objectF
  by_cases hv : virtN fs < fs.length
  · rw [if_pos hv, if_pos ((virtN_dup (by omega)).2 hv), dup_len, hf, dup_map (e := zArg) (by omega), wantUp_dup h0 hl (by simpa using hf)]
  · rw [if_neg hv, if_neg (fun h => hv ((virtN_dup (by omega)).1 h)), dup_head, fieldsUp_dup h0 hl hf]
theorem aliasB_dup {l : Ways} {r : List MArg} (h0 : 0 < l.length) (hr : r.length = l.length) : aliasB (dup [] l) (dup zArg r) = aliasB l r := by
  unfold aliasB
  refine decide_eq_decide.2 ⟨fun h i hi => ?_, fun h i hi => ?_⟩
  · have := h i (by rw [dup_len]; omega)
    rwa [dup_getD hi, dup_getD (by omega), dup_head] at this
  · rw [dup_len] at hi
    rw [dup_head]
    by_cases e : i < r.length
    · rw [dup_getD e, dup_getD (by omega)]
      exact h i e
    · have e : i = r.length := by omega
      subst e
      have h1 := h 0 (by omega)
      rw [dup_last, hr, dup_last]
      rw [← headD_getD, ← headD_getD] at h1
      exact ⟨rfl, h1.2⟩
theorem rowWant_dup {l : Ways} {r : List MArg} {N : Need} (h0 : 0 < l.length) (hl : N.length = l.length) (hr : r.length = l.length) : rowWant (dup [] l) (dup zArg r) (dup [] N) = dup [] (rowWant l r N) := by
  unfold rowWant
  rw [aliasB_dup h0 hr]
  split
  · rfl
  · rw [dup_len, hr, wantUp_dup h0 hl hr]
theorem rowsUp_dup {l : Ways} {rows : List (List MArg)} {N : Need} (h0 : 0 < l.length) (hl : N.length = l.length) (hr : ∀ r ∈ rows, r.length = l.length) : ∀ {n : Nat}, n ≤ rows.length → rowsUp (dup [] l) (rows.map (dup zArg)) n (dup [] N) = dup [] (rowsUp l rows n N)
  | 0, _ => rfl
  | n + 1, h => by
    unfold rowsUp
    have e1 : (rows.map (dup zArg)).getD n [] = dup zArg rows[n] := by rw [List.getD_eq_getElem?_getD, List.getElem?_map, List.getElem?_eq_getElem (by omega)]; rfl
    have e2 : rows.getD n [] = rows[n] := by rw [List.getD_eq_getElem?_getD, List.getElem?_eq_getElem (by omega)]; rfl
    rw [e1, e2, rowsUp_dup h0 hl hr (by omega), rowWant_dup h0 (by rw [rowsUp_len, hl]) (hr _ (List.getElem_mem _))]
theorem commonUp_dup {l : Ways} {objs : List MObj} {N : Need} (h0 : 0 < l.length) (hl : N.length = l.length) : ∀ {n : Nat}, commonUp (dup [] l) objs n (dup [] N) = ((commonUp l objs n N).1.map (dup zObj), dup [] (commonUp l objs n N).2)
  | 0 => rfl
  | n + 1 => by
    unfold commonUp
    rw [commonF_dup h0, commonUp_dup h0 hl]
    split
    · simp only [formsF_dup h0, List.map_append, List.map_cons, List.map_nil]
      rw [objectF_dup h0 (by rw [commonUp_len2, hl]) forms_len]
    · rfl
theorem dup_const {l : Ways} (h0 : 0 < l.length) : ((dup [] l).map fun _ => ([] : List (Int × Bool))) = dup [] (l.map fun _ => []) := dup_map h0
theorem needF_dup {l : Ways} {rows : List (List MArg)} (h0 : 0 < l.length) (hr : ∀ r ∈ rows, r.length = l.length) : needF (dup [] l) (rows.map (dup zArg)) = dup [] (needF l rows) := by
  unfold needF
  rw [dup_head, dup_const h0, commonUp_dup h0 (by simp), List.length_map]
  exact rowsUp_dup h0 (by rw [commonUp_len2, List.length_map]) hr (Nat.le_refl _)
theorem forms_dup {l : Ways} (h0 : 0 < l.length) : forms (dup [] l) = (forms l).map (dup zObj) := by
  unfold forms
  rw [dup_head, commonUp_fst (N := []) (N' := dup [] (l.map fun _ => [])), commonUp_dup h0 (by simp)]
  simp only
  rw [commonUp_fst (N := l.map fun _ => []) (N' := [])]
theorem phiA_dup {v : List MArg} (h : 0 < v.length) : phiA (dup zArg v) = phiA v := by
  unfold phiA
  rw [oneF_dup h, dup_head]
theorem mergedO_dup {l : Ways} {fs : List MObj} (h0 : 0 < l.length) (hf : fs.length = l.length) : mergedO (dup [] l) (dup zObj fs) = mergedO l fs := by
  unfold mergedO
  have hf0 : 0 < fs.length := by omega
  by_cases hv : virtN fs < fs.length
  · rw [if_pos hv, if_pos ((virtN_dup hf0).2 hv), dup_head, dup_map (e := zArg) hf0, phiA_dup (by simpa using hf0)]
  · rw [if_neg hv, if_neg (fun h => hv ((virtN_dup hf0).1 h)), dup_head]
    have e : ((List.range (fs.headD zObj).vals.length).map fun a => phiA (fieldL (dup [] l) (dup zObj fs) a)) = (List.range (fs.headD zObj).vals.length).map fun a => phiA (fieldL l fs a) :=
      List.map_congr_left fun a _ => by rw [fieldL_dup h0 hf, phiA_dup (by rw [fieldL_eq hf]; exact h0)]
    rw [e]
theorem phiL_dup {id field : Int} {v : List MArg} (h : 0 < v.length) : (phiL id field (dup zArg v)).length = (phiL id field v).length := by
  unfold phiL
  rw [oneF_dup h]
  split <;> rfl
theorem flatLen {α β : Type} {f g : α → List β} {L : List α} (h : ∀ x ∈ L, (f x).length = (g x).length) : (L.flatMap f).length = (L.flatMap g).length := by
  induction L with
  | nil => rfl
  | cons a L ih =>
    rw [List.flatMap_cons, List.flatMap_cons, List.length_append, List.length_append, h a (by simp), ih fun x hx => h x (by simp [hx])]
theorem ownPhis_dup {l : Ways} {fs : List MObj} (h0 : 0 < l.length) (hf : fs.length = l.length) : (ownPhis (dup [] l) (dup zObj fs)).length = (ownPhis l fs).length := by
  unfold ownPhis
  have hf0 : 0 < fs.length := by omega
  by_cases hv : virtN fs < fs.length
  · rw [if_pos hv, if_pos ((virtN_dup hf0).2 hv), dup_head, dup_map (e := zArg) hf0, phiL_dup (by simpa using hf0)]
  · rw [if_neg hv, if_neg (fun h => hv ((virtN_dup hf0).1 h)), dup_head]
    refine flatLen fun a _ => ?_
    rw [fieldL_dup h0 hf, phiL_dup (by rw [fieldL_eq hf]; exact h0)]
theorem any_dup {N : Need} (h : 0 < N.length) : ((dup [] N).any fun M => !M.isEmpty) = N.any fun M => !M.isEmpty := by
  cases N with
  | nil => simp at h
  | cons M N =>
    simp only [dup, List.any_append, List.any_cons, List.headD_cons, List.any_nil, Bool.or_false]
    cases (!M.isEmpty) <;> simp

/-- Of the two plans. -/
structure Twice (p q : MPlan) (n : Nat) : Prop where
  need : q.need = dup [] p.need
  len : p.need.length = n
  state : q.state = p.state
  phis : q.phis.length = p.phis.length
  als : q.alias' = p.alias'
theorem twice {l : Ways} {rows : List (List MArg)} (h0 : 0 < l.length) (hr : ∀ r ∈ rows, r.length = l.length) : Twice (planF l rows) (planF (dup [] l) (rows.map (dup zArg))) l.length := by
  have hn := needF_dup h0 hr
  have hnl := need_len (l := l) (rows := rows)
  have hmap : (needF (dup [] l) (rows.map (dup zArg))).map keysF = dup [] ((needF l rows).map keysF) := by rw [hn]; exact dup_map (by omega)
  unfold planF
  rw [hmap, hn, any_dup (by omega)]
  split
  · exact ⟨rfl, by rw [List.length_map, hnl], rfl, rfl, rfl⟩
  · rw [state_eq, state_eq, forms_dup h0]
    have hfl : ∀ fs ∈ forms l, fs.length = l.length := fun fs hfs => by
      obtain ⟨id, _, rfl⟩ := forms_mem hfs
      exact forms_len
    refine ⟨rfl, by rw [List.length_map, hnl], ?_, ?_, ?_⟩
    · simp only [List.map_map]
      exact List.map_congr_left fun fs hfs => mergedO_dup h0 (hfl fs hfs)
    · simp only [List.flatMap_map]
      exact flatLen fun fs hfs => ownPhis_dup h0 (hfl fs hfs)
    · simp only [List.map_map]
      refine List.map_congr_left fun r hr' => ?_
      simp only [Function.comp]
      rw [aliasB_dup h0 (hr r hr'), dup_head]

end Go.Pl.Mrg
