/-
  merge.Of.
-/
import Derived.Test.YtncbpalncgcoaaaFnMrg
import Derived.Test.YtncbpalncgcoaaaFnKeys
import Derived.Test.YtncbpalncgcoaaaPlMrg
namespace Go.Proofs.Ytncbpalncgcoaaa
open Go.Fw Go.Pl.Api Go.Pl.Vst Go.Pl.Mrg

theorem keys_own {h : Heap} {m : Option Nat} :
    ACalls Try.prog F_maps_Keys [.map m] h (fun v h' => ∃ b, v = .func (.func 98) #[] #[.pointer (some ⟨b, 0, none⟩)] ∧ Fw.Sep h h' [rawB ⟨b, 0, none⟩ #[.map m]]) := by
  refine maps_Keys_of ?_
  unfold maps_Keys
  refine new_rawB (Sep.start h) fun p h1 o1 S1 => ?_
  obtain ⟨f, _, h2, h3, _⟩ := S1.get
  obtain ⟨b, o, s⟩ := p
  simp only at h2 h3
  subst h2 h3
  exact ⟨b, rfl, S1⟩

def zPlan : Array Value := #[.slice none 0 0, .slice none 0 0, .slice none 0 0, .slice none 0 0]
abbrev nSl : Sl := ⟨none, 0, 0⟩
abbrev eLL : Elem (List MObj) := Elem.sl si_Lvstate_Obj eO
abbrev eLI : Elem (List Int) := Elem.sl si_Lint64 eInt
/-- What is asked where Of is called. -/
structure OkOf (l : Ways) (rows : List (List MArg)) : Prop where
  some : 0 < l.length
  six : l.length ≤ 6
  twenty : rows.length ≤ 20
  rise : ∀ s ∈ l, Rising s
  forty : ∀ s ∈ l, s.length ≤ 40
  vals : ∀ s ∈ l, ∀ o ∈ s, o.vals.length ≤ 20
  len : ∀ s ∈ l, ∀ t ∈ l, ∀ o p id, findF s (toA id) = Option.some o → findF t (toA id) = Option.some p → o.vals.length = p.vals.length
  row : ∀ r ∈ rows, r.length = l.length
  ids : IdsR l
theorem OkOf.okL {l : Ways} {rows : List (List MArg)} (ok : OkOf l rows) : OkL l :=
  ⟨ok.rise, fun s hs => Nat.le_trans (ok.forty s hs) (by decide), fun s hs o ho => Nat.le_trans (ok.vals s hs o ho) (by decide), Nat.le_trans ok.six (by decide)⟩
theorem forms_vals {l : Ways} {rows : List (List MArg)} (ok : OkOf l rows) {id : Int} (hc : commonF l id = true) : (∀ o ∈ formsF l id, o.vals.length = ((formsF l id).headD zObj).vals.length) ∧ ((formsF l id).headD zObj).vals.length ≤ 20 := by
  have each : ∀ o ∈ formsF l id, ∃ s ∈ l, findF s (toA id) = Option.some o := fun o ho => by
    obtain ⟨s, hs, rfl⟩ := List.mem_map.1 ho
    have := List.all_eq_true.1 hc s hs
    cases hf : findF s (toA id) with
    | none => rw [hf] at this; cases this
    | some p => exact ⟨s, hs, hf⟩
  have h0 : 0 < (formsF l id).length := by rw [forms_len]; exact ok.some
  rw [head_get h0]
  obtain ⟨s, hs, hf⟩ := each _ (List.getElem_mem h0)
  refine ⟨fun o ho => ?_, ok.vals s hs _ (findF_some hf).2.1⟩
  obtain ⟨t, ht, hg⟩ := each o ho
  exact ok.len t ht s hs _ _ _ hg hf

theorem mergedF_phis {l : Ways} {fs : List MObj} {P : List GPhi} (hn : (fs.headD zObj).vals.length ≤ 20) : (mergedF l fs P).2.length ≤ P.length + 20 := by
  unfold mergedF
  split
  · have := @phiF_len (fs.headD zObj).id (-1) (fs.map fun o => o.real) P
    simp only
    omega
  · have := @valsUp_phis l fs (fs.headD zObj).vals.length P
    simp only
    omega
theorem stateUp_phis {l : Ways} {C : List (List MObj)} (hC : ∀ fs ∈ C, (fs.headD zObj).vals.length ≤ 20) : ∀ {i : Nat}, (stateUp l C i).2.length ≤ 20 * i
  | 0 => Nat.le_refl _
  | i + 1 => by
    unfold stateUp
    have h1 := @stateUp_phis l C hC i
    have h2 := @mergedF_phis l (C.getD i []) (stateUp l C i).2 (by
      rw [List.getD_eq_getElem?_getD]
      cases he : C[i]? with
      | none => simp [zObj]
      | some fs => exact hC fs (List.mem_of_getElem? he))
    simp only
    omega

/-- What stands behind a map's keys, told. -/
def ownKey (b : Nat) (v : Value) : As := fun h f => ∃ b' : Nat, v = .func (.func 98) #[] #[.pointer (some ⟨b', 0, none⟩)] ∧ rawB ⟨b', 0, none⟩ #[.map (some b)] h f
theorem loc_ownKey {b : Nat} {v : Value} : Fw.Loc (ownKey b v) := by
  rintro h h' f ⟨b', e, o⟩ hb
  exact ⟨b', e, loc_rawB o hb⟩
def rawN (N : Need) (i b : Nat) (nd : Sl) : As := ownSl si_Lmap_int64_bool (Elem.raw eN) nd ((N.map .inl).set i (.inr [.map (some b)]))
def spN (b : Nat) (M : List (Int × Bool)) (Q : List (List Int)) (T T' : List As) : Specs := fun n _ => if n = 7 then ⟨fun v => ownKey b v :: T, fun v => ∃ b' : Nat, v = .func (.func 98) #[] #[.pointer (some ⟨b', 0, none⟩)]⟩
  else if n = 8 then ⟨fun v => ownV si_Lint64 eInt (keysF M) v :: T, fun v => ∃ s : Sl, v = s.v⟩ else if n = 9 then ⟨fun v => ownV si_LLint64 eLI [keysF M] v :: T, fun v => ∃ s : Sl, v = s.v⟩
  else ⟨fun v => ownV si_LLint64 eLI (Q ++ [keysF M]) v :: T', fun v => ∃ s : Sl, v = s.v⟩
/-- An object, told. -/
def ownObj (o : MObj) (v : Value) : As := fun h f => ∃ cs : Array Value, v = .agg cs ∧ eO.own cs.toList o h f
theorem loc_ownObj {o : MObj} {v : Value} : Fw.Loc (ownObj o v) := by
  rintro h h' f ⟨cs, e, q⟩ hb
  exact ⟨cs, e, eO.loc q hb⟩
def spS (o : MObj) (st : List MObj) (T T' : List As) : Specs := fun n _ => if n = 8 then ⟨fun v => ownObj o v :: T, fun v => ∃ cs : Array Value, v = .agg cs ∧ cs.size = 6⟩
  else if n = 9 then ⟨fun v => ownV si_Lvstate_Obj eO [o] v :: T, fun v => ∃ s : Sl, v = s.v⟩ else ⟨fun v => ownV si_Lvstate_Obj eO (st ++ [o]) v :: T', fun v => ∃ s : Sl, v = s.v⟩

set_option maxHeartbeats 4000000 in
theorem Of_calls {h : Heap} {ls rs : Sl} {l : Ways} {rows : List (List MArg)} (hl : rdSl rObj.sl.el h ls l) (hrs : rdSl rArg.sl.el h rs rows) (ok : OkOf l rows) :
    ACalls Try.prog F_merge_Of [ls.v, rs.v] h (fun u h' => ∃ n st ph al : Sl, u = .agg #[n.v, st.v, ph.v, al.v] ∧
      Fw.Sep h h' [ownSl si_LLint64 eLI n (planF l rows).need, ownSl si_Lvstate_Obj eO st (planF l rows).state, ownSl si_Lmerge_Phi ePhi ph (planF l rows).phis, ownSl si_Lapi_Arg eArg al (planF l rows).alias']) := by
  refine merge_Of_of ?_
  unfold merge_Of
  have hll := hl.lenEq
  have hrl := hrs.lenEq
  have okL := ok.okL
  have h6 := ok.six
  have hl0 := ok.some
  have h20 := ok.twenty
  refine new_rawB (Sep.start h) fun p h1 o1 S1 => ?_
  refine ⟨mCells ls nSl nSl nSl nSl nSl, by kernel_rfl, ?_⟩
  refine new_rawB S1 fun m h2 o2 S2 => ?_
  -- the maps
  refine loop_intro (fun k (q : Int) h' => ∃ i : Nat, q = i ∧ i ≤ l.length ∧ k = l.length - i ∧ ∃ nd : Sl, Fw.Sep h h' [rawB m (mCells ls nd nSl nSl nSl nSl), ownSl si_Lmap_int64_bool eN nd (List.replicate i []), rawB p zPlan]) l.length
    ⟨0, rfl, by omega, by omega, nSl, (S2.nil (si := si_Lmap_int64_bool) (E := eN) rfl).swap⟩ ?_
  clear S1 S2 o1 o2
  rintro _ _ _ h3 ⟨i, rfl, hi, rfl, nd, S3⟩
  refine ifB_intro (fun hc => ?_) (fun hc => ?_)
  · have hil : i < l.length := by rw [hll] at hc; simpa using hc
    refine ld_one (k := .sl) (x := nd) (m_cell S3 rfl) ?_
    refine I.mkm_rule (vf := vfB) S3 fun mp h4 o4 S4 => ?_
    have S5 : Fw.Sep h h4 (ownSl si_Lmap_int64_bool eN nd (List.replicate i []) :: ownEl eN (Value.map mp).cells.toList [] :: rawB m (mCells ls nd nSl nSl nSl nSl) :: [rawB p zPlan]) :=
      (S4.conv (loc_ownEl (E := eN) (xs := [.map mp]) (x := [])) fun f o => by
        obtain ⟨b, es, clock, rfl, ho⟩ := o
        exact ⟨f, .refl f, b, rfl, b, es, clock, rfl, ho⟩).rot3
    refine app1_rule S5 rfl (by decide) (by simp only [List.length_replicate, si_Lmap_int64_bool]; omega) (by simp only [List.length_replicate]; omega) fun nd' h6 S6 => ?_
    refine st_rawB (i := 1) (v := nd'.v) S6.swap (by simp [mCells]) rfl fun h7 S7 => ?_
    refine ar_i64 (by omega) (by omega) ⟨l.length - (i + 1), by omega, i + 1, rfl, by omega, rfl, nd', ?_⟩
    rw [List.replicate_succ']
    exact S7
  have hil : i = l.length := by rw [hll] at hc; have := of_decide_eq_false hc; omega
  subst hil
  clear hc hi
  have hN0 : List.replicate l.length ([] : List (Int × Bool)) = l.map fun _ => [] := by rw [List.map_const']
  rw [hN0] at S3
  clear hN0
  -- the common objects
  refine idx_rdN hl rfl hl0 fun p2 _ hp2 => ?_
  refine ld_lst hp2 S3.old.ext fun x1 hx1 => ?_
  have hx1l := hx1.lenEq
  have hx1b := hx1.bound
  have hhead : l.headD [] = l[0] := head_get hl0
  have hm0 : l[0] ∈ l := List.getElem_mem hl0
  have h40 := ok.forty _ hm0
  have hNok0 : NOk 0 (l.map fun _ => ([] : List (Int × Bool))) := fun M hM => by
    obtain ⟨s, _, rfl⟩ := List.mem_map.1 hM
    simp
  refine loop_intro (fun k (q : Sl × Int) h' => ∃ i : Nat, q.2 = i ∧ i ≤ l[0].length ∧ k = l[0].length - i ∧ Fw.Sep h h' [rawB m (mCells ls nd nSl nSl nSl nSl), ownSl si_Lmap_int64_bool eN nd (commonUp l l[0] i (l.map fun _ => [])).2, ownSl si_LLvstate_Obj eLL q.1 (commonUp l l[0] i (l.map fun _ => [])).1, rawB p zPlan] ∧
      NOk (120 * i) (commonUp l l[0] i (l.map fun _ => [])).2 ∧ (commonUp l l[0] i (l.map fun _ => [])).2.length = l.length) l[0].length
    ⟨0, rfl, by omega, by omega, (S3.nil (si := si_LLvstate_Obj) (E := eLL) rfl).swap.perm (List.Perm.cons _ (List.Perm.swap _ _ _)), hNok0, by simp [commonUp]⟩ ?_
  clear S3
  rintro _ _ ⟨cm, i⟩ h8 ⟨i, hi0, hi, rfl, S8, hN8, hNl⟩
  simp only at hi0 S8 ⊢
  subst hi0
  have hClen := @commonUp_len l l[0] (l.map fun _ => []) i
  refine ifB_intro (fun hc => ?_) (fun hc => ?_)
  · have hil : i < l[0].length := by rw [hx1l] at hc; simpa using hc
    intro k hk
    have hgetD : l[0].getD i zObj = l[0][i] := by simp [List.getElem?_eq_getElem hil]
    refine idx_rdN hx1 rfl hil fun p3 _ hp3 => ?_
    refine ld_agg hp3 S8.old.ext rfl fun x2 hx2 => ?_
    refine new_stX hx2 S8.old.ext rfl rfl fun p4 h11 o11 hb4 => ?_
    refine ld_intX (fld_oId.bx hb4) ?_
    have S11 := S8.grow o11
    refine (of_calls (m_cell S11 rfl) hl S11.old okL l[0][i].id).mono ?_
    rintro u h12 ⟨r, rfl, S12⟩
    refine ⟨_, _, rfl, ?_⟩
    have next : ∀ s' h', Fw.Sep h h' [rawB m (mCells ls nd nSl nSl nSl nSl), ownSl si_Lmap_int64_bool eN nd (commonUp l l[0] (i + 1) (l.map fun _ => [])).2, ownSl si_LLvstate_Obj eLL s' (commonUp l l[0] (i + 1) (l.map fun _ => [])).1, rawB p zPlan] →
        NOk (120 * (i + 1)) (commonUp l l[0] (i + 1) (l.map fun _ => [])).2 → (commonUp l l[0] (i + 1) (l.map fun _ => [])).2.length = l.length → k s' h' := fun s' h' S' q1 q2 => hk _ _ fun _ => ar_i64 (by omega) (by omega) ⟨l[0].length - (i + 1), by omega, i + 1, rfl, by omega, rfl, S', q1, q2⟩
    have hstep : commonUp l l[0] (i + 1) (l.map fun _ => []) = if commonF l l[0][i].id then ((commonUp l l[0] i (l.map fun _ => [])).1 ++ [formsF l l[0][i].id], objectF l (formsF l l[0][i].id) (commonUp l l[0] i (l.map fun _ => [])).2) else commonUp l l[0] i (l.map fun _ => []) := by
      rw [commonUp, hgetD]
    rw [hstep] at next
    generalize commonUp l l[0] i (l.map fun _ => []) = C at *
    clear hstep
    cases hcm : commonF l l[0][i].id with
    | false =>
      rw [hcm] at next
      exact ifB_false rfl (next cm h12 (S11.grow S12.old) (hN8.mono (by omega)) hNl)
    | true =>
      rw [hcm, if_pos rfl] at next S12
      obtain ⟨hat, hn20⟩ := forms_vals ok hcm
      have hfl : (formsF l l[0][i].id).length = l.length := forms_len
      generalize formsF l l[0][i].id = fs at *
      refine ifB_true rfl ?_
      have S13 := S11.frame S12
      have S14 : Fw.Sep h h12 (ownSl si_LLvstate_Obj (Elem.raw eLL) cm (C.1.map .inl) :: ownEl (Elem.raw eLL) (Value.slice r.a r.len r.cap).cells.toList (.inr [r.v]) :: [ownSl si_Lvstate_Obj eO r fs, rawB m (mCells ls nd nSl nSl nSl nSl), ownSl si_Lmap_int64_bool eN nd C.2, rawB p zPlan]) :=
        ((Sep.raw.2 S13.rot4).free (A := ownEl (Elem.raw eLL) (Value.slice r.a r.len r.cap).cells.toList (.inr [r.v])) loc_ownEl ⟨rfl, rfl, fun v hv => by simp [Value.cells] at hv; subst hv; rfl, rfl⟩).swap
      refine app1_rule S14 rfl (by decide) (by simp only [List.length_map, si_LLvstate_Obj]; omega) (by simp only [List.length_map]; omega) fun cm' h14 S15 => ?_
      refine (object_calls (fs := fs) S15.rot3.rot4.swap hl okL hNl S15.swap.rd (by omega) (by omega) hat).mono ?_
      rintro u h15 ⟨rfl, _, S16⟩
      refine ⟨rfl, next cm' h15 ?_ ?_ ?_⟩
      · have S17 := (Sep.toEl S16.rot4).rot4.back (i := C.1.length) (by simp) (by simp [Value.cells])
        have e18 : (C.1.map Sum.inl ++ [Sum.inr [r.v]] : List (List MObj ⊕ List Value)).set C.1.length (.inl fs) = (C.1 ++ [fs]).map Sum.inl := by simp
        rw [e18] at S17
        have S18 := Sep.raw.1 S17
        exact S18.rot3.rot3
      · exact (objectF_ok ok.ids hN8 h6 (by omega) hn20).mono (by omega)
      · rw [objectF_len]
        exact hNl
  have hil : i = l[0].length := Nat.le_antisymm hi (by rw [hx1l] at hc; simpa using hc)
  subst hil
  clear hc hi
  have hforms : (commonUp l l[0] l[0].length (l.map fun _ => [])).1 = forms l := by
    unfold forms
    rw [hhead]
    exact commonUp_fst
  have hneed : needF l rows = rowsUp l rows rows.length (commonUp l l[0] l[0].length (l.map fun _ => [])).2 := by
    unfold needF
    rw [hhead]
  have hCmem : ∀ fs ∈ forms l, ∃ id, commonF l id = true ∧ fs = formsF l id := fun fs hfs => by
    rw [← hforms] at hfs
    exact commonUp_mem hfs
  rw [hforms] at S8 hClen
  generalize (commonUp l l[0] l[0].length (l.map fun _ => [])).2 = N1 at *
  have hrows6 : ∀ r ∈ rows, r.length ≤ 6 := fun r hr => by rw [ok.row r hr]; exact h6
  have hNokF : NOk (120 * l[0].length + 6 * rows.length) (needF l rows) := by
    rw [hneed]
    exact rowsUp_ok ok.ids hN8 hrows6
  -- the rows
  refine loop_intro (fun k (q : Int) h' => ∃ i : Nat, q = i ∧ i ≤ rows.length ∧ k = rows.length - i ∧ (rowsUp l rows i N1).length = l.length ∧ Fw.Sep h h' [rawB m (mCells ls nd nSl nSl nSl nSl), ownSl si_Lmap_int64_bool eN nd (rowsUp l rows i N1), ownSl si_LLvstate_Obj eLL cm (forms l), rawB p zPlan]) rows.length
    ⟨0, rfl, by omega, by omega, hNl, S8⟩ ?_
  clear S8
  rintro _ _ _ h16 ⟨i, rfl, hi, rfl, hRl, S16⟩
  refine ifB_intro (fun hc => ?_) (fun hc => ?_)
  · have hil : i < rows.length := by rw [hrl] at hc; simpa using hc
    have hrlen := ok.row _ (List.getElem_mem hil)
    refine idx_rdN hrs rfl hil fun p5 _ hp5 => ?_
    refine ld_lst hp5 S16.old.ext fun x4 hx4 => ?_
    refine (row_calls S16 hl okL hRl hx4 (by omega) (by omega)).mono ?_
    rintro u h17 ⟨rfl, S17⟩
    refine ⟨rfl, ar_i64 (by omega) (by omega) ⟨rows.length - (i + 1), by omega, i + 1, rfl, by omega, rfl, ?_, ?_⟩⟩
    · rw [rowsUp, rowWant_len]
      exact hRl
    · have e : rowsUp l rows (i + 1) N1 = rowWant l rows[i] (rowsUp l rows i N1) := by
        rw [rowsUp]
        simp [List.getElem?_eq_getElem hil]
      rw [e]
      exact S17
  have hil : i = rows.length := Nat.le_antisymm hi (by rw [hrl] at hc; simpa using hc)
  subst hil
  clear hc hi
  rw [← hneed] at S16 hRl
  clear hneed hNl hN8
  generalize hN : needF l rows = N at *
  -- what is needed is told
  refine ld_one (k := .sl) (x := nd) (m_cell S16 rfl) ?_
  have hndl := S16.swap.rd.lenEq
  refine loop_intro (fun k (q : Bool × Int) h' => ∃ i : Nat, q.2 = i ∧ i ≤ N.length ∧ k = N.length - i ∧ q.1 = ((N.take i).any fun M => !M.isEmpty) ∧ ∃ q1 : Sl, Fw.Sep h h' [rawB m (mCells ls nd q1 nSl nSl nSl), ownSl si_Lmap_int64_bool eN nd N, ownSl si_LLint64 eLI q1 ((N.map keysF).take i), ownSl si_LLvstate_Obj eLL cm (forms l), rawB p zPlan]) N.length
    ⟨0, rfl, by omega, by omega, rfl, nSl, ?_⟩ ?_
  · exact (S16.nil (si := si_LLint64) (E := eLI) rfl).swap.perm (List.Perm.cons _ (List.Perm.swap _ _ _))
  clear S16
  rintro _ _ ⟨sm, i⟩ h18 ⟨i, hi0, hi, rfl, hsm, q1, S18⟩
  simp only at hi0 hsm S18 ⊢
  subst hi0
  refine ifB_intro (fun hc => ?_) (fun hc => ?_)
  · have hil : i < N.length := by rw [hndl] at hc; simpa using hc
    intro k hk
    obtain ⟨b, hb, Sm, hback⟩ := map_at S18.swap hil
    refine idx_rdN S18.swap.rd rfl hil fun p6 hp6 _ => ?_
    refine ld_one (k := .map) (x := some b) (hb p6 hp6) ?_
    have hNi := hNokF _ (List.getElem_mem hil)
    have hNi5 : N[i].length ≤ 1000000 := by have := hNi.1; omega
    have hq1 : hcell h18 ((m.add 2).add 0) = some q1.v := by rw [Addr.add_add]; exact m_cell S18 rfl
    refine ⟨fun h' => Old h h' ∧ hcell h' ((m.add 2).add 0) = some q1.v, h, [I.ownM vfB (some b) N[i], rawN N i b nd, rawB m (mCells ls nd q1 nSl nSl nSl), ownSl si_LLint64 eLI q1 ((N.map keysF).take i), ownSl si_LLvstate_Obj eLL cm (forms l), rawB p zPlan],
      spN b N[i] ((N.map keysF).take i) [I.ownM vfB (some b) N[i], rawN N i b nd, rawB m (mCells ls nd q1 nSl nSl nSl), ownSl si_LLint64 eLI q1 ((N.map keysF).take i), ownSl si_LLvstate_Obj eLL cm (forms l), rawB p zPlan]
        [I.ownM vfB (some b) N[i], rawN N i b nd, rawB m (mCells ls nd q1 nSl nSl nSl), ownSl si_LLvstate_Obj eLL cm (forms l), rawB p zPlan], ⟨S18.old, hq1⟩, Sm, ?_⟩
    refine ⟨q1, fun h' hR => hR.2, ?_⟩
    refine ⟨⟨.func (.func 98) #[] #[.pointer (some ⟨0, 0, none⟩)], 0, rfl⟩, fun h' Y hR S => ?_, ?_⟩
    · rw [List.append_nil] at S
      refine keys_own.mono ?_
      rintro u h'' ⟨b', rfl, S2⟩
      exact ⟨_, rfl, ⟨hR.1.trans S2.old, S2.old.ext _ _ hR.2⟩, ⟨b', rfl⟩, (S.frame S2).conv loc_ownKey fun f o => ⟨f, .refl f, b', rfl, o⟩⟩
    rintro _ ⟨b', rfl⟩
    refine ⟨_, rfl, ?_⟩
    refine ⟨⟨nSl.v, nSl, rfl⟩, fun h' Y hR S => ?_, ?_⟩
    · rw [List.append_nil] at S
      have S2 : Fw.Sep h h' (rawB ⟨b', 0, none⟩ #[.map (some b)] :: I.ownM vfB (some b) N[i] :: _) := Sep.conv (A := ownKey b (.func (.func 98) #[] #[.pointer (some ⟨b', 0, none⟩)])) S loc_rawB fun f ⟨b2, e, o⟩ => by
        injection e with _ _ e
        simp at e
        subst e
        exact ⟨f, .refl f, o⟩
      have hcl := (rawB_cell S2).2 0
      have hblk : b' < h'.size := by
        obtain ⟨f, ⟨f1, f2, rfl, ⟨rfl, _⟩, _⟩, _, hbd⟩ := S2.owns
        exact (hbd b' (by simp)).2
      refine (sorted_calls S2.drop hblk (by rw [Addr.add_zero'] at hcl; exact hcl) hNi5 (fun x hx => hNi.2.1 x hx)).mono ?_
      rintro u h'' ⟨s', ss, rfl, hperm, S3⟩
      rw [sort_perm hperm] at S3
      exact ⟨s', rfl, ⟨hR.1.trans S3.old, S3.old.ext _ _ hR.2⟩, ⟨s', rfl⟩, (S2.drop.frame S3).toV⟩
    rintro _ ⟨s1, rfl⟩
    refine ⟨s1, rfl, ?_⟩
    refine ⟨⟨nSl.v, nSl, rfl⟩, fun h' Y hR S => ?_, ?_⟩
    · rw [List.append_nil] at S
      have S2 := Sep.toEl (Sep.ofV (si := si_Lint64) (E := eInt) (l := keysF N[i]) S)
      refine bld_own (v := s1.v) S2 rfl rfl (by decide) fun s2 h'' S3 => ?_
      exact ⟨⟨S3.old, by rw [Addr.add_add]; exact m_cell (Sep.rot4 S3) rfl⟩, ⟨s2, rfl⟩, S3.toV⟩
    rintro _ ⟨s2, rfl⟩
    refine ⟨s2, rfl, ?_⟩
    refine ⟨⟨nSl.v, nSl, rfl⟩, fun h' Y hR S => ?_, ?_⟩
    · rw [List.append_nil] at S
      have S2 := rot5 (Sep.ofV (si := si_LLint64) (E := eLI) (l := [keysF N[i]]) S)
      refine app_own (si := si_LLint64) (E := eLI) S2 (by simp only [List.length_take, List.length_map, List.length_singleton, si_LLint64]; omega) (by simp only [List.length_take, List.length_map, List.length_singleton]; omega) fun s3 h'' S3 => ?_
      exact ⟨⟨S3.old, by rw [Addr.add_add]; exact m_cell (Sep.rot4 S3) rfl⟩, ⟨s3, rfl⟩, S3.toV⟩
    rintro _ ⟨s3, rfl⟩
    refine ⟨s3, rfl, ?_⟩
    intro h29 _ S29
    rw [List.append_nil] at S29
    have S30 : Fw.Sep h h29 (ownSl si_LLint64 eLI s3 ((N.map keysF).take i ++ [keysF N[i]]) :: I.ownM vfB (some b) N[i] :: ownSl si_Lmap_int64_bool (Elem.raw eN) nd ((N.map .inl).set i (.inr [.map (some b)])) :: rawB m (mCells ls nd q1 nSl nSl nSl) :: ownSl si_LLvstate_Obj eLL cm (forms l) :: rawB p zPlan :: []) := Sep.ofV S29
    rw [Addr.add_add]
    refine st_rawB (i := 2) (v := s3.v) S30.rot4 (by simp [mCells]) rfl fun h31 S31 => ?_
    have etake : (N.map keysF).take (i + 1) = (N.map keysF).take i ++ [keysF N[i]] := by
      rw [List.take_succ_eq_append_getElem (by simpa using hil), List.getElem_map]
    rw [← etake] at S31
    have S32 : Fw.Sep h h31 [rawB m (mCells ls nd s3 nSl nSl nSl), ownSl si_Lmap_int64_bool eN nd N, ownSl si_LLint64 eLI s3 ((N.map keysF).take (i + 1)), ownSl si_LLvstate_Obj eLL cm (forms l), rawB p zPlan] := by
      have q := hback h31 _ N[i] S31.rot3.rot4.swap
      rw [List.set_getElem_self] at q
      exact q.swap
    have next : ∀ sm', sm' = ((N.take (i + 1)).any fun M => !M.isEmpty) → k sm' h31 := fun sm' e => hk _ _ fun _ => ar_i64 (by omega) (by have := S32.swap.rd.bound; omega) ⟨N.length - (i + 1), by omega, i + 1, rfl, by omega, rfl, e, s3, S32⟩
    have hany : ((N.take (i + 1)).any fun M => !M.isEmpty) = (((N.take i).any fun M => !M.isEmpty) || !N[i].isEmpty) := by
      rw [List.take_succ_eq_append_getElem hil, List.any_append]
      simp
    refine ifB_intro (fun hs => next _ ?_) (fun hs => ?_)
    · rw [hany, ← hsm, hs]
      rfl
    · refine mln_rule (S31.rot3 : Fw.Sep h h31 (I.ownM vfB (some b) N[i] :: _)) (next _ ?_)
      rw [hany, ← hsm, hs, Bool.false_or]
      cases N[i] with
      | nil => rfl
      | cons x M => simp
  have hil : i = N.length := Nat.le_antisymm hi (by rw [hndl] at hc; simpa using hc)
  subst hil
  clear hc hi
  rw [List.take_of_length_le (by simp)] at hsm S18
  refine ifB_intro (fun hs => ?_) (fun hs => ?_)
  · have hplan : planF l rows = ⟨N.map keysF, [], [], []⟩ := by
      unfold planF
      rw [hN, if_pos (by rw [← hsm]; exact hs)]
    rw [hplan]
    refine ld_rawSub (i := 2) (ds := #[q1.v, nSl.v, nSl.v, nSl.v]) S18 rfl rfl ?_
    refine st_allB (rot5 S18) rfl rfl (fun v hv => by simp at hv; rcases hv with rfl | rfl | rfl | rfl <;> rfl) fun h31 S31 => ld_rawAgg S31 rfl ?_
    refine ⟨q1, nSl, nSl, nSl, rfl, ?_⟩
    have S32 := S31.drop.drop.drop.swap.drop
    exact (((S32.nil (si := si_Lapi_Arg) (E := eArg) rfl).swap.nil (si := si_Lmerge_Phi) (E := ePhi) rfl).swap.nil (si := si_Lvstate_Obj) (E := eO) rfl).swap
  have hplan : planF l rows = ⟨N.map keysF, (stateUp l (forms l) (forms l).length).1, (stateUp l (forms l) (forms l).length).2, rows.map fun r => if aliasB l r then r.headD zArg else zArg⟩ := by
    unfold planF
    rw [hN, if_neg (by rw [← hsm, hs]; simp)]
  rw [hplan]
  clear hplan
  generalize forms l = C at *
  have hC20 : ∀ fs ∈ C, (fs.headD zObj).vals.length ≤ 20 := fun fs hfs => by
    obtain ⟨id, hid, rfl⟩ := hCmem fs hfs
    exact (forms_vals ok hid).2
  have hCb : C.length ≤ 40 := by omega
  -- the state
  refine loop_intro (fun k (q : Int) h' => ∃ i : Nat, q = i ∧ i ≤ C.length ∧ k = C.length - i ∧ ∃ q2 : Sl, Fw.Sep h h' [mPhis m ls nd q1 q2 nSl (stateUp l C i).2, ownSl si_Lvstate_Obj eO q2 (stateUp l C i).1, ownSl si_LLvstate_Obj (Elem.opt eLL) cm (List.replicate i none ++ (C.drop i).map some), ownSl si_LLint64 eLI q1 (N.map keysF), rawB p zPlan]) C.length
    ⟨0, rfl, by omega, by omega, nSl, ?_⟩ ?_
  · have S19 := phis_close ((S18.nil (si := si_Lmerge_Phi) (E := ePhi) rfl).swap)
    have S20 := (S19.nil (si := si_Lvstate_Obj) (E := eO) rfl).swap
    -- [mPhis, st, nd, q1, cm, p]
    have S21 := Sep.opt.2 (rot5 S20)
    exact S21.rot4.drop.perm (((List.Perm.swap _ _ _).trans (List.Perm.cons _ (List.Perm.swap _ _ _))).trans (List.Perm.refl _))
  clear S18
  rintro _ _ _ h32 ⟨i, rfl, hi, rfl, q2, S32⟩
  have hcl := S32.rot3.rd.lenEq
  rw [List.length_append, List.length_replicate, List.length_map, List.length_drop] at hcl
  have hPl := @stateUp_phis l C hC20 i
  have hSl := @stateUp_len l C i
  refine ifB_intro (fun hc => ?_) (fun hc => ?_)
  · have hil : i < C.length := by rw [hcl] at hc; have := of_decide_eq_true hc; omega
    obtain ⟨id, hid, hCi⟩ := hCmem _ (List.getElem_mem hil)
    obtain ⟨hat, hn20⟩ := forms_vals ok hid
    rw [← hCi] at hat hn20
    have hfl : C[i].length = l.length := by rw [hCi]; exact forms_len
    have hio : i < (List.replicate i none ++ (C.drop i).map some : List (Option (List MObj))).length := by rw [List.length_append, List.length_replicate, List.length_map, List.length_drop]; omega
    have hget : (List.replicate i none ++ (C.drop i).map some : List (Option (List MObj)))[i] = some C[i] := by
      rw [List.getElem_append_right (by simp)]
      simp
    have hset : (List.replicate i none ++ (C.drop i).map some : List (Option (List MObj))).set i none = List.replicate (i + 1) none ++ (C.drop (i + 1)).map some := by
      rw [List.set_append_right _ _ (by simp), List.length_replicate, Nat.sub_self, List.drop_eq_getElem_cons hil, List.map_cons, List.set_cons_zero, List.replicate_succ', List.append_assoc]
      rfl
    have hstep : stateUp l C (i + 1) = ((stateUp l C i).1 ++ [(mergedF l C[i] (stateUp l C i).2).1], (mergedF l C[i] (stateUp l C i).2).2) := by
      rw [stateUp]
      simp [List.getElem?_eq_getElem hil]
    refine idx_rdN S32.rot3.rd rfl hio fun p7 hp7 _ => ?_
    obtain ⟨xs, hxc, S33⟩ := Sep.takeOut S32.rot3 hio hget
    obtain ⟨s7, rfl, S34⟩ := Sep.ofEl S33.swap
    rw [hset] at S34
    refine ld_one (k := .sl) (x := s7) (by have := hxc p7 hp7 0 _ rfl; rwa [Addr.add_zero'] at this) ?_
    generalize stateUp l C i = F at *
    generalize hO : mergedF l C[i] F.2 = O at *
    have S35 : Fw.Sep h h32 [mPhis m ls nd q1 q2 nSl F.2, ownSl si_Lvstate_Obj eO s7 C[i], ownSl si_Lvstate_Obj eO q2 F.1, ownSl si_LLvstate_Obj (Elem.opt eLL) cm (List.replicate (i + 1) none ++ (C.drop (i + 1)).map some), ownSl si_LLint64 eLI q1 (N.map keysF), rawB p zPlan] :=
      S34.rot3.perm (List.Perm.cons _ (List.Perm.cons _ (List.Perm.swap _ _ _)))
    have hq2 : hcell h32 ((m.add 2).add 1) = some q2.v := by
      obtain ⟨q, Sq⟩ := phis_open S35
      rw [Addr.add_add]
      exact m_cell Sq rfl
    refine ⟨fun h' => Old h h' ∧ hcell h' ((m.add 2).add 1) = some q2.v, h, [mPhis m ls nd q1 q2 nSl F.2, ownSl si_Lvstate_Obj eO s7 C[i], ownSl si_Lvstate_Obj eO q2 F.1, ownSl si_LLvstate_Obj (Elem.opt eLL) cm (List.replicate (i + 1) none ++ (C.drop (i + 1)).map some), ownSl si_LLint64 eLI q1 (N.map keysF), rawB p zPlan],
      spS O.1 F.1 [mPhis m ls nd q1 q2 nSl O.2, ownSl si_Lvstate_Obj eO q2 F.1, ownSl si_LLvstate_Obj (Elem.opt eLL) cm (List.replicate (i + 1) none ++ (C.drop (i + 1)).map some), ownSl si_LLint64 eLI q1 (N.map keysF), rawB p zPlan]
        [mPhis m ls nd q1 q2 nSl O.2, ownSl si_LLvstate_Obj (Elem.opt eLL) cm (List.replicate (i + 1) none ++ (C.drop (i + 1)).map some), ownSl si_LLint64 eLI q1 (N.map keysF), rawB p zPlan], ⟨S35.old, hq2⟩, S35, ?_⟩
    refine ⟨q2, fun h' hR => hR.2, ?_⟩
    have keep : ∀ {h' : Heap} {X : List As} {P : List GPhi}, Fw.Sep h h' (mPhis m ls nd q1 q2 nSl P :: X) → hcell h' ((m.add 2).add 1) = some q2.v := fun Sx => by
      obtain ⟨q, Sq⟩ := phis_open Sx
      rw [Addr.add_add]
      exact m_cell Sq rfl
    refine ⟨⟨.agg #[.int .i64 0, .int .i64 0, .int .i64 0, .int .i64 0, .int .i64 0, .int .i64 0], _, rfl, rfl⟩, fun h' Y hR S => ?_, ?_⟩
    · rw [List.append_nil] at S
      have S := (S : Fw.Sep h h' (mPhis m ls nd q1 q2 nSl F.2 :: ownSl si_Lvstate_Obj eO s7 C[i] :: _))
      refine (merged_calls S hl okL hfl (by omega) hat (by omega) (by omega)).mono ?_
      rintro u h'' ⟨cs, rfl, hcs, S2⟩
      rw [hO] at S2
      exact ⟨cs, rfl, ⟨S2.old, keep S2⟩, ⟨cs, rfl, hcs⟩, S2.swap.conv loc_ownObj fun f o => ⟨f, .refl f, cs, rfl, o⟩⟩
    rintro _ ⟨r9, rfl, hr9⟩
    refine ⟨r9, rfl, ?_⟩
    refine ⟨⟨nSl.v, nSl, rfl⟩, fun h' Y hR S => ?_, ?_⟩
    · rw [List.append_nil] at S
      have S2 := Sep.conv (A := ownObj O.1 (.agg r9)) S (loc_ownEl (E := eO) (xs := (Value.agg r9).cells.toList) (x := O.1)) fun f ⟨cs, e, o⟩ => by
        injection e with e
        subst e
        exact ⟨f, .refl f, o⟩
      refine bld_own (v := .agg r9) S2 rfl rfl (by decide) fun s2 h'' S3 => ?_
      exact ⟨⟨S3.old, keep (Sep.swap S3)⟩, ⟨s2, rfl⟩, S3.toV⟩
    rintro _ ⟨s2, rfl⟩
    refine ⟨s2, rfl, ?_⟩
    refine ⟨⟨nSl.v, nSl, rfl⟩, fun h' Y hR S => ?_, ?_⟩
    · rw [List.append_nil] at S
      have S2 := Sep.rot3 (Sep.ofV (si := si_Lvstate_Obj) (E := eO) (l := [O.1]) S)
      refine app_own (si := si_Lvstate_Obj) (E := eO) S2 (by simp only [List.length_singleton, si_Lvstate_Obj]; omega) (by simp only [List.length_singleton]; omega) fun s3 h'' S3 => ?_
      exact ⟨⟨S3.old, keep (Sep.swap S3)⟩, ⟨s3, rfl⟩, S3.toV⟩
    rintro _ ⟨s3, rfl⟩
    refine ⟨s3, rfl, ?_⟩
    intro h40 _ S40
    rw [List.append_nil] at S40
    have S41 : Fw.Sep h h40 (ownSl si_Lvstate_Obj eO s3 (F.1 ++ [O.1]) :: mPhis m ls nd q1 q2 nSl O.2 :: ownSl si_LLvstate_Obj (Elem.opt eLL) cm (List.replicate (i + 1) none ++ (C.drop (i + 1)).map some) :: ownSl si_LLint64 eLI q1 (N.map keysF) :: rawB p zPlan :: []) := Sep.ofV S40
    obtain ⟨q, S42⟩ := phis_open S41.swap
    rw [Addr.add_add]
    refine st_rawB (i := 3) (v := s3.v) S42 (by simp [mCells]) rfl fun h41 S43 => ?_
    refine ar_i64 (by omega) (by omega) ⟨C.length - (i + 1), by omega, i + 1, rfl, by omega, rfl, s3, ?_⟩
    rw [hstep]
    exact phis_close (q2 := s3) (q := q) S43
  have hil : i = C.length := Nat.le_antisymm hi (by rw [hcl] at hc; have := of_decide_eq_false hc; omega)
  subst hil
  clear hc hi hcl hPl hSl
  generalize stateUp l C C.length = F at *
  -- the rows that are one object's
  refine loop_intro (fun k (q : Int) h' => ∃ i : Nat, q = i ∧ i ≤ rows.length ∧ k = rows.length - i ∧ ∃ q4 : Sl, Fw.Sep h h' [mPhis m ls nd q1 q2 q4 F.2, ownSl si_Lapi_Arg eArg q4 ((rows.take i).map fun r => if aliasB l r then r.headD zArg else zArg), ownSl si_Lvstate_Obj eO q2 F.1, ownSl si_LLint64 eLI q1 (N.map keysF), rawB p zPlan]) rows.length
    ⟨0, rfl, by omega, by omega, nSl, ?_⟩ ?_
  · exact (((S32.rot3.drop).nil (si := si_Lapi_Arg) (E := eArg) rfl).swap)
  clear S32
  rintro _ _ _ h42 ⟨i, rfl, hi, rfl, q4, S42⟩
  obtain ⟨q3, S43⟩ := phis_open S42
  refine ifB_intro (fun hc => ?_) (fun hc => ?_)
  · have hil : i < rows.length := by rw [hrl] at hc; simpa using hc
    have hrlen := ok.row _ (List.getElem_mem hil)
    refine idx_rdN hrs rfl hil fun p8 _ hp8 => ?_
    refine ld_lst hp8 S42.old.ext fun x12 hx12 => ?_
    refine (alias_calls (m_cell S43 rfl) hl S43.old okL (hx12.old S43.old) (by omega) (by omega)).mono ?_
    rintro u h43 ⟨rfl, o43⟩
    refine ⟨_, _, rfl, ?_⟩
    refine new_stR (S43.grow o43) rfl rfl arg_one fun p9 h45 S45 => ?_
    refine ld_one (k := .sl) (x := q4) (by rw [Addr.add_add]; exact m_cell S45.drop rfl) ?_
    refine ld_rawAgg S45 rfl ?_
    have S46 := S45.drop.rot3
    refine app1_flat (v := .agg (argC (if aliasB l rows[i] then rows[i].headD zArg else zArg)).toArray) (x := if aliasB l rows[i] then rows[i].headD zArg else zArg) S46 (fun h => own_arg _ h) rfl (by decide) (by simp only [List.length_map, List.length_take, si_Lapi_Arg]; omega) (by simp only [List.length_map, List.length_take]; omega) fun s9 h47 S47 => ?_
    rw [Addr.add_add]
    refine st_rawB (i := 5) (v := s9.v) S47.swap (by simp [mCells]) rfl fun h48 S48 => ?_
    refine ar_i64 (by omega) (by omega) ⟨rows.length - (i + 1), by omega, i + 1, rfl, by omega, rfl, s9, ?_⟩
    have e : (rows.take (i + 1)).map (fun r => if aliasB l r then r.headD zArg else zArg) = (rows.take i).map (fun r => if aliasB l r then r.headD zArg else zArg) ++ [if aliasB l rows[i] then rows[i].headD zArg else zArg] := by
      rw [List.take_succ_eq_append_getElem hil, List.map_append]
      rfl
    rw [e]
    exact phis_close (q := q3) (q4 := s9) (S48.rot3.swap)
  have hil : i = rows.length := Nat.le_antisymm hi (by rw [hrl] at hc; simpa using hc)
  subst hil
  rw [List.take_length] at S43
  refine ld_rawSub (i := 2) (ds := #[q1.v, q2.v, q3.v, q4.v]) S43 rfl rfl ?_
  refine st_allB (rot6 S43) rfl rfl (fun v hv => by simp at hv; rcases hv with rfl | rfl | rfl | rfl <;> rfl) fun h49 S49 => ld_rawAgg S49 rfl ?_
  refine ⟨q1, q2, q3, q4, rfl, ?_⟩
  -- [p, m, ph, al, st, need]
  exact (S49.drop.drop.rot3.rot4)

end Go.Proofs.Ytncbpalncgcoaaa
