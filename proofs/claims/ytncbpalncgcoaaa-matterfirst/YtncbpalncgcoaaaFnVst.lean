/-
  vstate: what is found.
-/
import Derived.Test.YtncbpalncgcoaaaGen
import Derived.Test.YtncbpalncgcoaaaFwVst
namespace Go.Proofs.Ytncbpalncgcoaaa
open Go.Fw Go.Pl.Api Go.Pl.Vst

theorem mid_eq {i j : Nat} (h : i + j ≤ 9223372036854775807) : IntKind.i64.wrap (Int.fdiv (IntKind.u64.wrap ((i : Int) + j)) (2 ^ min (Int.toNat 1) (IntKind.bits .u64))) = ((i + j) / 2 : Nat) := by
  have h1 : IntKind.u64.wrap ((i : Int) + j) = (i : Int) + j := by
    simp [IntKind.wrap, IntKind.bits, IntKind.signed]
    omega
  rw [h1]
  have h2 : (2 : Int) ^ min (Int.toNat 1) (IntKind.bits .u64) = 2 := by decide
  rw [h2, Int.fdiv_eq_ediv_of_nonneg _ (by decide), IntKind.wrap_i64]
  omega

/-- sort.Search, of a function that only reads. -/
theorem search_calls {h : Heap} {n : Nat} {g : FuncId} {caps : Array Value} {p : Nat → Bool} (hn : n ≤ 4611686018427387903) (hg : FnOk Try.prog g)
    (hf : ∀ i, i < n → ACalls Try.prog g ([.int .i64 (i : Int)] ++ caps.toList) h (fun v h' => v = .bool (p i) ∧ h' = h))
    (mono : ∀ a b, a ≤ b → b < n → p a = true → p b = true) :
    ACalls Try.prog F_sort_Search [.int .i64 (n : Int), .func (.func g) #[] caps] h (fun v h' => ∃ r : Nat, v = .int .i64 (r : Int) ∧ h' = h ∧ r ≤ n ∧ (∀ k, k < r → p k = false) ∧ ∀ k, r ≤ k → k < n → p k = true) := by
  refine sort_Search_of ?_
  unfold sort_Search
  refine loop_intro (fun m (q : Int × Int) h' => ∃ i j : Nat, q = ((i : Int), (j : Int)) ∧ i ≤ j ∧ j ≤ n ∧ m = j - i ∧ h' = h ∧ (∀ k, k < i → p k = false) ∧ ∀ k, j ≤ k → k < n → p k = true) n
    ⟨0, n, rfl, by omega, by omega, by omega, rfl, fun k hk => by omega, fun k h1 h2 => by omega⟩ ?_
  rintro _ _ _ h1 ⟨i, j, rfl, hij, hjn, rfl, rfl, lo, hi⟩
  simp only
  refine ifB_intro (fun hc => ?_) (fun hc => ?_)
  · have hlt : i < j := by have := of_decide_eq_true hc; omega
    refine ar_i64 (by omega) (by omega) ⟨by decide, ?_⟩
    rw [mid_eq (by omega)]
    refine ⟨g, caps, rfl, hg, (hf ((i + j) / 2) (by omega)).mono ?_⟩
    rintro v h2 ⟨rfl, rfl⟩
    refine ⟨_, rfl, ?_⟩
    refine ifB_intro (fun hp => ?_) (fun hp => ?_)
    · have hp : p ((i + j) / 2) = false := by simpa using hp
      refine ar_i64 (by omega) (by omega) ⟨j - ((i + j) / 2 + 1), by omega, (i + j) / 2 + 1, j, rfl, by omega, hjn, rfl, rfl, fun k hk => ?_, hi⟩
      cases e : p k with
      | false => rfl
      | true =>
        have := mono k ((i + j) / 2) (by omega) (by omega) e
        rw [hp] at this
        cases this
    · have hp : p ((i + j) / 2) = true := by simpa using hp
      refine ⟨(i + j) / 2 - i, by omega, i, (i + j) / 2, rfl, by omega, by omega, rfl, rfl, lo, fun k h1 h2 => ?_⟩
      exact mono _ k h1 h2 hp
  · have hlt : j = i := by have := of_decide_eq_false hc; omega
    subst hlt
    exact ⟨j, rfl, trivial, hjn, lo, hi⟩

theorem place1_calls {h : Heap} {p p1 : Addr} {s : Sl} {l : List MObj} {id : Int} {i : Nat} (hp : hcell h p = some s.v) (hp1 : hcell h p1 = some (.int .i64 id)) (hs : rdSl rObj.el h s l) (hi : i < l.length) :
    ACalls Try.prog F_vstate_place_1 [.int .i64 (i : Int), .pointer (some p), .pointer (some p1)] h (fun v h' => v = .bool (decide (id ≤ l[i].id)) ∧ h' = h) := by
  refine vstate_place_1_of ?_
  unfold vstate_place_1
  refine ld_one (k := .sl) (x := s) hp ?_
  refine idx_rdN hs rfl hi fun p2 _ hp2 => ?_
  refine ld_int (fld_oId.rd hp2) (hExt.refl h) ?_
  exact ld_one (k := .int .i64) (x := id) hp1 ⟨rfl, rfl⟩

theorem place_calls {h : Heap} {s : Sl} {l : List MObj} (hs : rdSl rObj.el h s l) (hr : Rising l) (id : Int) (hn : l.length ≤ 4611686018427387903) :
    ACalls Try.prog F_vstate_place [s.v, .int .i64 id] h (fun v h' => ∃ r : Nat, v = .tuple #[.int .i64 (r : Int), .bool (hitF l id r)] ∧ Old h h' ∧ PlaceF l id r) := by
  refine vstate_place_of ?_
  unfold vstate_place
  refine new_rawB (Sep.start h) fun p h1 o1 S1 => ?_
  refine new_rawB S1 fun p1 h2 o2 S2 => ?_
  have hp : hcell h2 p = some s.v := by have := (rawB_cell S2.swap).2 0; rwa [Go.Fw.Addr.add_zero'] at this
  have hp1 : hcell h2 p1 = some (.int .i64 id) := by have := (rawB_cell S2).2 0; rwa [Go.Fw.Addr.add_zero'] at this
  have hs2 := hs.old S2.old
  have hl := hs.lenEq
  refine ld_one (k := .sl) (x := s) hp ?_
  rw [hl]
  refine (search_calls (p := fun i => match l[i]? with | some o => decide (id ≤ o.id) | none => true) hn (by unfold FnOk; kernel_rfl) (fun i hi => ?_) (fun a b hab hb ha => ?_)).mono ?_
  · have := place1_calls hp hp1 hs2 hi
    rw [List.getElem?_eq_getElem hi]
    exact this
  · rw [List.getElem?_eq_getElem (by omega)] at ha ⊢
    have ha := of_decide_eq_true ha
    refine decide_eq_true ?_
    by_cases e : a = b
    · subst e; exact ha
    · have := rising_get hr (show a < b by omega) hb
      omega
  · rintro v h3 ⟨r, rfl, rfl, hrn, lo, hi⟩
    refine ⟨_, rfl, ?_⟩
    have pl : PlaceF l id r := ⟨hrn, fun k hk h => by
        have := lo k h
        rw [List.getElem?_eq_getElem hk] at this
        have := of_decide_eq_false this
        omega, fun k hk h => by
        have := hi k h hk
        rw [List.getElem?_eq_getElem hk] at this
        exact of_decide_eq_true this⟩
    intro k hk
    have fin : k ((r : Int), hitF l id r) h3 := hk _ _ fun _ => ⟨r, rfl, S2.old, pl⟩
    refine ld_one (k := .sl) (x := s) hp ?_
    refine ifB_intro (fun hc => ?_) (fun hc => ?_)
    · have hrl : r < l.length := by rw [hl] at hc; simpa using hc
      refine ld_one (k := .sl) (x := s) hp ?_
      refine idx_rdN hs2 rfl hrl fun p2 _ hp2 => ?_
      refine ld_int (fld_oId.rd hp2) (hExt.refl _) ?_
      refine ld_one (k := .int .i64) (x := id) hp1 ?_
      have : hitF l id r = (l[r].id == id) := by unfold hitF; rw [List.getElem?_eq_getElem hrl]
      rw [← this]
      exact fin
    · have hrl : l.length ≤ r := by rw [hl] at hc; simpa using hc
      have : hitF l id r = false := by unfold hitF; rw [List.getElem?_eq_none hrl]
      rw [← this]
      exact fin

/-- A result's variable, laid out of zeros, filled, told. -/
theorem new_out {α : Type} {E : RV α} {hb h : Heap} {t : TypeId} {zs cs : Array Value} {x : α} {n : Nat} {K : Array Value → Heap → Prop} (r : E.rv hb cs.toList x) (hz : zs.size = n) (hn : n = E.size)
    (hK : ∀ h', Old h h' → K cs h') : new t zs h fun p h1 => cs.size = n ∧ st cs.toList h1 p fun h2 => ld (.agg n) h2 p fun x => K x h2 := by
  have hcs : cs.size = n := by have := E.len r; simp at this; omega
  exact new_stR (Sep.start h) hz hcs (fun v hv => E.one r v hv) fun p h' S' => ld_rawAgg S' hcs.symm (hK h' S'.old)

end Go.Proofs.Ytncbpalncgcoaaa

/-
  vstate: find, Find, Virtual, Really; the document's.
-/
namespace Go.Proofs.Ytncbpalncgcoaaa
open Go.Fw Go.Pl.Api Go.Pl.Vst

theorem rd_cell {α : Type} {E : RV α} {h : Heap} {p : Addr} {x : α} (r : E.el.rd h p x) : E.el.rd h (p.add 0) x := by rw [Go.Fw.Addr.add_zero']; exact r

theorem find_callsB {hb h : Heap} {s : Sl} {l : List MObj} {cs : Array Value} {a : MArg} (hs : rdSl rObj.el hb s l) (ob : Old hb h) (ha : rArg.rv h cs.toList a) (hr : Rising l) (hn : l.length ≤ 4611686018427387903) :
    ACalls Try.prog F_vstate_find [s.v, .agg cs] h (fun v h' => ∃ ds : Array Value, v = .tuple #[.agg ds, .bool (findF l a).isSome] ∧ Old h h' ∧ rObj.rv hb ds.toList ((findF l a).getD zObj)) := by
  refine vstate_find_of ?_
  unfold vstate_find
  refine new_rv ha fun p h1 o1 hp => ?_
  refine new_rawB (Sep.start h1) fun p1 h2 o2 S2 => ?_
  refine ld_int (fld_argKind.rd hp) o2.ext ?_
  have z1 : ∀ v ∈ (#[Value.int .i64 0, .string ⟨#[]⟩, .slice none 0 0, .int .i64 0, .string ⟨#[]⟩, .int .i64 0] : Array Value).toList, v.oneCell' = true := fun v hv => RV.one _ (rv_zObj (h := h)) v hv
  have none_ : ∀ (h4 : Heap), Sep h1 h4 [rawB p1 #[Value.int .i64 0, .string ⟨#[]⟩, .slice none 0 0, .int .i64 0, .string ⟨#[]⟩, .int .i64 0]] → findF l a = none →
      bst [(0, 1), (1, 1), (2, 1), (3, 3)] #[.int .i64 0, .string ⟨#[]⟩, .slice none 0 0, .int .i64 0, .string ⟨#[]⟩, .int .i64 0] [] fun c_1 =>
        c_1.size = 6 ∧ st c_1.toList h4 p1 fun h_5 => ld (.agg 6) h_5 p1 fun (x_3 : Array Value) => (∃ ds : Array Value, Value.tuple #[.agg x_3, .bool false] = .tuple #[.agg ds, .bool (findF l a).isSome] ∧ Old h h_5 ∧ rObj.rv hb ds.toList ((findF l a).getD zObj)) := fun h4 S4 hf =>
    ⟨_, rfl, st_allB S4 rfl rfl z1 fun h5 S5 => ld_rawAgg S5 rfl ⟨_, by rw [hf]; rfl, o1.trans S5.old, by rw [hf]; exact rv_zObj⟩⟩
  refine ifB_intro (fun hc => ?_) (fun hc => ?_)
  · have hk : a.kind ≠ 5 := by simpa using hc
    exact none_ h2 S2 (by unfold findF; rw [if_neg hk])
  have hk : a.kind = 5 := by simpa using hc
  refine ld_int (fld_argN.rd hp) o2.ext ?_
  have hs2 := hs.old (ob.trans (o1.trans o2))
  refine (place_calls hs2 hr a.n hn).mono ?_
  rintro v h4 ⟨r, rfl, o4, pl⟩
  refine ⟨_, _, rfl, ?_⟩
  have S4 := S2.grow o4
  have hfp : findF l a = if hitF l a.n r then l[r]? else none := by unfold findF; rw [if_pos hk, find_place hr pl]
  refine ifB_intro (fun hc => ?_) (fun hc => ?_)
  · have hh : hitF l a.n r = false := by simpa using hc
    exact none_ h4 S4 (by rw [hfp, hh]; rfl)
  · have hh : hitF l a.n r = true := by simpa using hc
    obtain ⟨hrl, _⟩ := hit_get hh
    have hfs : findF l a = some l[r] := by rw [hfp, if_pos hh, List.getElem?_eq_getElem hrl]
    refine idx_rdN hs rfl hrl fun p2 _ hp2 => ?_
    refine ld_agg hp2 (ob.trans (o1.trans (o2.trans o4))).ext rfl fun ds hds => ?_
    refine st_allB S4 rfl (size_rv hds) (fun v hv => RV.one _ hds v hv) fun h6 S6 => ?_
    refine ld_rawAgg S6 (size_rv hds).symm ⟨ds, by rw [hfs]; rfl, o1.trans S6.old, by rw [hfs]; exact hds⟩

theorem find_calls {h : Heap} {s : Sl} {l : List MObj} {cs : Array Value} {a : MArg} (hs : rdSl rObj.el h s l) (ha : rArg.rv h cs.toList a) (hr : Rising l) (hn : l.length ≤ 4611686018427387903) :
    ACalls Try.prog F_vstate_find [s.v, .agg cs] h (fun v h' => ∃ ds : Array Value, v = .tuple #[.agg ds, .bool (findF l a).isSome] ∧ Old h h' ∧ rObj.rv h ds.toList ((findF l a).getD zObj)) := find_callsB hs (.refl _) ha hr hn

theorem virt_calls {h : Heap} {s : Sl} {l : List MObj} {cs : Array Value} {a : MArg} (hs : rdSl rObj.el h s l) (ha : rArg.rv h cs.toList a) (hr : Rising l) (hn : l.length ≤ 4611686018427387903) :
    ACalls Try.prog F_vstate_Virtual [s.v, .agg cs] h (fun v h' => v = .bool (virtF l a) ∧ Old h h') := by
  refine vstate_Virtual_of ?_
  unfold vstate_Virtual
  refine new_rv ha fun p h1 o1 hp => ?_
  refine ld_agg hp (hExt.refl _) rfl fun cs1 hcs1 => ?_
  refine (find_calls (hs.old o1) hcs1 hr hn).mono ?_
  rintro v h2 ⟨ds, rfl, o2, hds⟩
  refine ⟨_, _, rfl, ?_⟩
  refine new_stX hds o2.ext rfl rfl fun p1 h4 o4 hp1 => ?_
  intro k hk
  have ho := o1.trans (o2.trans o4)
  cases hf : findF l a with
  | none =>
    refine ifB_false rfl (hk _ _ fun _ => ⟨by unfold virtF; rw [hf], ho⟩)
  | some o =>
    rw [hf] at hp1
    refine ifB_true rfl ?_
    refine ld_intX (fld_argKind.bx (fld_oReal.bx hp1)) (hk _ _ fun _ => ⟨by unfold virtF; rw [hf]; rfl, ho⟩)

theorem really_calls {h : Heap} {s : Sl} {l : List MObj} {cs : Array Value} {a : MArg} (hs : rdSl rObj.el h s l) (ha : rArg.rv h cs.toList a) (hr : Rising l) (hn : l.length ≤ 4611686018427387903) :
    ACalls Try.prog F_vstate_Really [s.v, .agg cs] h (fun v h' => ∃ ds : Array Value, v = .agg ds ∧ Old h h' ∧ rArg.rv h ds.toList (reallyF l a)) := by
  refine vstate_Really_of ?_
  unfold vstate_Really
  refine new_rv ha fun p h1 o1 hp => ?_
  refine new_rawB (Sep.start h1) fun p1 h2 o2 S2 => ?_
  refine ld_agg hp o2.ext rfl fun cs1 hcs1 => ?_
  refine (find_calls (hs.old (o1.trans o2)) (rArg.ext hcs1 o2.ext) hr hn).mono ?_
  rintro v h3 ⟨ds, rfl, o3, hds⟩
  refine ⟨_, _, rfl, ?_⟩
  refine new_stB (S2.grow o3) hds rfl rfl fun p2 h5 S5 => ?_
  have hb := S5.bx
  have hpo := S5.old
  intro k hk
  have fin : ∀ (x : Array Value), rArg.rv h x.toList (reallyF l a) → x.size = 3 ∧ st x.toList h5 p1 fun h7 => ld (.agg 3) h7 p1 fun (x_2 : Array Value) => ∃ ds : Array Value, Value.agg x_2 = .agg ds ∧ Old h h7 ∧ rArg.rv h ds.toList (reallyF l a) := fun x hx =>
    st_allB S5.swap rfl (size_rv hx) (fun v hv => RV.one _ hx v hv) fun h7 S7 => ld_rawAgg S7 (size_rv hx).symm ⟨x, rfl, o1.trans S7.old, hx⟩
  have own : reallyF l a = a → k false h5 := fun e => hk _ _ fun _ => ifB_false rfl <| ld_agg hp hpo.ext rfl fun x hx => fin x (by rw [e]; exact rv_arg.2 (rv_arg.1 hx))
  cases hf : findF l a with
  | none =>
    refine ifB_false rfl (own (by unfold reallyF; rw [hf]))
  | some o =>
    rw [hf] at hb
    refine ifB_true rfl ?_
    refine ld_intX (fld_argKind.bx (fld_oReal.bx hb)) ?_
    by_cases h0 : o.real.kind = 0
    · have : (((Option.some o).getD zObj).real.kind != 0) = false := by simpa using h0
      rw [this]
      exact own (by unfold reallyF; rw [hf]; simp [h0])
    · have : (((Option.some o).getD zObj).real.kind != 0) = true := by simpa using h0
      rw [this]
      refine hk _ _ fun _ => ifB_true rfl ?_
      obtain ⟨_, c, hc, hv⟩ := fld_oReal.bx hb
      have hv := rv_arg.1 hv
      refine ⟨c.toArray, ⟨by rw [hv]; rfl, fun j v hj => hc j v (by simpa using hj)⟩, fin _ (rv_arg.2 ?_)⟩
      have : reallyF l a = o.real := by unfold reallyF; rw [hf]; simp [h0]
      rw [this]
      simpa using hv

end Go.Proofs.Ytncbpalncgcoaaa

/-
  vstate: copies; Find.
-/
namespace Go.Proofs.Ytncbpalncgcoaaa
open Go.Fw Go.Pl.Api Go.Pl.Vst

theorem clone_calls {h : Heap} {s : Sl} {l : List MArg} (hs : rdSl rArg.el h s l) (hn : l.length ≤ 1000000) :
    ACalls Try.prog F_slices_Clone [s.v] h (fun v h' => ∃ s' : Sl, v = s'.v ∧ Sep h h' [ownSl si_Lapi_Arg eArg s' l]) := by
  refine slices_Clone_of ?_
  unfold slices_Clone
  have hl := hs.lenEq
  refine ifB_intro (fun hc => ?_) (fun hc => ?_)
  · obtain ⟨h1, h2, h3, h4, h5⟩ := hs
    have ha : s.a = none := by simpa using hc
    have := h4 ha
    have : l = [] := List.length_eq_zero_iff.1 (by omega)
    subst this
    exact ⟨_, rfl, (Sep.start h).nil rfl⟩
  · refine bld_rule (E := eArg) (us := []) (l := []) (Sep.start h).rowNil (by simp [Instr.fill, madeCells]) rfl rfl (by decide) (by decide) fun s1 h1 S1 => ?_
    refine app_copy S1 flat_arg (rd_arg.2 (hs.old S1.old)) (by simp only [List.length_nil, si_Lapi_Arg]; omega) (by simp only [List.length_nil]; omega) fun s2 h2 S2 => ?_
    exact ⟨_, rfl, S2⟩

theorem objCopied_calls {h : Heap} {cs : Array Value} {o : MObj} (ho : rObj.rv h cs.toList o) (hn : o.vals.length ≤ 1000000) :
    ACalls Try.prog F_vstate_Obj_copied [.agg cs] h (fun v h' => ∃ ds : Array Value, v = .agg ds ∧ ds.size = 6 ∧ Sep h h' [ownEl (eObj si_Lapi_Arg) ds.toList o]) := by
  refine vstate_Obj_copied_of ?_
  unfold vstate_Obj_copied
  obtain ⟨s, rfl, hs⟩ := arr_obj ho
  refine new_rawB (Sep.start h) fun p h1 o1 S1 => ?_
  refine new_rawB S1 fun p1 h2 o2 S2 => ?_
  refine ld_rawB (i := 2) (k := .sl) (x := s) S2.swap rfl rfl ?_
  refine (clone_calls (hs.old S2.old) hn).mono ?_
  rintro v h3 ⟨s', rfl, S3⟩
  refine ⟨_, rfl, ?_⟩
  have S := (S2.frame S3).rot3
  refine st_rawB S (by simp) rfl fun h4 S4 => ?_
  refine ld_rawAgg S4 rfl ?_
  refine st_allB S4.rot3 rfl rfl (fun v hv => ?_) fun h5 S5 => ?_
  · simp at hv
    rcases hv with rfl | rfl | rfl | rfl | rfl | rfl <;> rfl
  · refine ld_rawAgg S5 rfl ⟨_, rfl, rfl, ?_⟩
    exact S5.drop.drop.conv loc_ownEl fun f hf => ⟨f, List.Sublist.refl f, s', rfl, hf⟩

theorem copied_calls {h : Heap} {s : Sl} {l : List MObj} (hs : rdSl rObj.el h s l) (hn : l.length ≤ 1000000) (hv : ∀ o ∈ l, o.vals.length ≤ 1000000) :
    ACalls Try.prog F_vstate_copied [s.v] h (fun v h' => ∃ s' : Sl, v = s'.v ∧ Sep h h' [ownSl si_Lvstate_Obj (eObj si_Lapi_Arg) s' l]) := by
  refine vstate_copied_of ?_
  unfold vstate_copied
  have hl := hs.lenEq
  refine loop_intro (fun m (q : Sl × Int) h' => ∃ i : Nat, q.2 = i ∧ i ≤ l.length ∧ m = l.length - i ∧ Sep h h' [ownSl si_Lvstate_Obj (eObj si_Lapi_Arg) q.1 (l.take i)]) l.length
    ⟨0, rfl, by omega, by omega, (Sep.start h).nil rfl⟩ ?_
  rintro _ _ ⟨out, i⟩ h1 ⟨i, hi0, hi, rfl, S⟩
  simp only at hi0 S ⊢
  subst hi0
  refine ifB_intro (fun hc => ?_) (fun hc => ?_)
  · have hil : i < l.length := by rw [hl] at hc; simpa using hc
    refine idx_rdN hs rfl hil fun p _ hp => ?_
    refine ld_agg hp S.old.ext rfl fun cs hcs => ?_
    refine new_stB S hcs rfl rfl fun p1 h3 S3 => ?_
    have hbx := S3.bx
    obtain ⟨hsp, c, hc1, hc2⟩ := hbx
    refine ⟨c.toArray, ⟨by simp [rObj.len hc2]; rfl, fun j v hj => hc1 j v (by simpa using hj)⟩, ?_⟩
    refine (objCopied_calls (o := l[i]) (h := h3) (by simpa using rObj.ext hc2 S3.old.ext) (hv _ (List.getElem_mem hil))).mono ?_
    rintro v h4 ⟨ds, rfl, hds, S4⟩
    refine ⟨_, rfl, ?_⟩
    have S5 : Sep h h4 (ownSl si_Lvstate_Obj (eObj si_Lapi_Arg) out (l.take i) :: ownEl (eObj si_Lapi_Arg) (Value.agg ds).cells.toList l[i] :: [boxA rObj h p1 l[i]]) := (S3.frame S4).rot3
    refine app1_rule S5 rfl (by decide) (by simp only [List.length_take, si_Lvstate_Obj]; omega) (by simp only [List.length_take]; omega) fun s' h' S' => ?_
    refine ar_i64 (by omega) (by have := hs.bound; omega) ⟨l.length - (i + 1), by omega, i + 1, rfl, by omega, rfl, ?_⟩
    rw [List.take_succ_eq_append_getElem hil]
    exact S'.swap.drop
  · have hil : l.length ≤ i := by rw [hl] at hc; simpa using hc
    rw [List.take_of_length_le hil] at S
    exact ⟨out, rfl, S⟩

theorem Find_calls {h : Heap} {s : Sl} {l : List MObj} {cs : Array Value} {a : MArg} (hs : rdSl rObj.el h s l) (ha : rArg.rv h cs.toList a) (hr : Rising l) (hn : l.length ≤ 4611686018427387903) (hv : ∀ o ∈ l, o.vals.length ≤ 1000000) :
    ACalls Try.prog F_vstate_Find [s.v, .agg cs] h (fun v h' => ∃ ds : Array Value, v = .tuple #[.agg ds, .bool (findF l a).isSome] ∧ ds.size = 6 ∧ Sep h h' [ownEl (eObj si_Lapi_Arg) ds.toList ((findF l a).getD zObj)]) := by
  refine vstate_Find_of ?_
  unfold vstate_Find
  refine new_rv ha fun p h1 o1 hp => ?_
  refine new_rawB (Sep.start h1) fun p1 h2 o2 S2 => ?_
  refine ld_agg hp o2.ext rfl fun cs1 hcs1 => ?_
  refine (find_calls (hs.old (o1.trans o2)) (rArg.ext hcs1 o2.ext) hr hn).mono ?_
  rintro v h3 ⟨ds, rfl, o3, hds⟩
  refine ⟨_, _, rfl, ?_⟩
  refine new_stX hds o3.ext rfl rfl fun p2 h5 o5 hb5 => ?_
  obtain ⟨hsp, c, hc1, hc2⟩ := hb5
  refine ⟨c.toArray, ⟨by simp [rObj.len hc2]; rfl, fun j v hj => hc1 j v (by simpa using hj)⟩, ?_⟩
  have hb : ((findF l a).getD zObj).vals.length ≤ 1000000 := by
    cases hf : findF l a with
    | none => simp [zObj]
    | some o =>
      refine hv _ ?_
      unfold findF at hf
      split at hf
      · exact List.mem_of_find?_eq_some hf
      · cases hf
  have o35 := o3.trans o5
  refine (objCopied_calls (h := h5) (by simpa using rObj.ext hc2 o35.ext) hb).mono ?_
  rintro v h6 ⟨es, rfl, hes, S6⟩
  refine ⟨_, rfl, ?_⟩
  have S7 := ((S2.grow o35).frame S6).swap
  refine st_allB S7 rfl hes (fun v hv => ?_) fun h7 S8 => ?_
  · obtain ⟨f, ho⟩ := S6.get
    exact (eObj si_Lapi_Arg).one ho v hv
  · refine ld_rawAgg S8 hes.symm ⟨es, rfl, hes, ?_⟩
    exact S8.drop.since o1

end Go.Proofs.Ytncbpalncgcoaaa

/-
  The document's side of states: Find, Virtual, Really, Rising, SameArgs, Same, Few; one, There, Back, to.
-/
namespace Go.Proofs.Ytncbpalncgcoaaa
open Go.Fw Go.Pl.Api Go.Pl.Vst

/-- Some cells of a box, as a value. -/
theorem ld_rawSub {h0 h : Heap} {p : Addr} {cs ds : Array Value} {L : List As} {i n : Nat} {K : Array Value → Prop} (S : Sep h0 h (rawB p cs :: L)) (hd : ds.toList = (cs.toList.drop i).take n) (hn : ds.size = n) (hK : K ds) : ld (.agg n) h (p.add i) K := by
  refine ⟨ds, ⟨hn, fun j v hj => ?_⟩, hK⟩
  have hc := rawB_cell S
  rw [Go.Fw.Addr.add_add _ _ _ hc.1, hc.2, ← Array.getElem?_toList]
  rw [← Array.getElem?_toList, hd, List.getElem?_take] at hj
  split at hj
  · rw [List.getElem?_drop] at hj; exact hj
  · cases hj

theorem refFind_callsB {hb h : Heap} {s : Sl} {l : List MObj} {cs : Array Value} {a : MArg} (hs : rdSl rObj.el hb s l) (ob : Old hb h) (ha : rArg.rv h cs.toList a) :
    ACalls Try.prog F_lateenref22_Find [s.v, .agg cs] h (fun v h' => ∃ ds : Array Value, v = .tuple #[.agg ds, .bool (findF l a).isSome] ∧ Old h h' ∧ rObj.rv hb ds.toList ((findF l a).getD zObj)) := by
  refine lateenref22_Find_of ?_
  unfold lateenref22_Find
  refine new_rv ha fun p h1 o1 hp => ?_
  refine new_rawB (Sep.start h1) fun p1 h2 o2 S2 => ?_
  have hl := hs.lenEq
  have z1 : ∀ v ∈ (#[Value.int .i64 0, .string ⟨#[]⟩, .slice none 0 0, .int .i64 0, .string ⟨#[]⟩, .int .i64 0] : Array Value).toList, v.oneCell' = true := fun v hv => RV.one _ (rv_zObj (h := h)) v hv
  refine loop_intro (fun m (q : Int) h' => ∃ i : Nat, q = i ∧ i ≤ l.length ∧ m = l.length - i ∧ h' = h2 ∧ (a.kind = 5 → ∀ k (hk : k < l.length), k < i → l[k].id ≠ a.n)) l.length
    ⟨0, rfl, by omega, by omega, rfl, fun _ k _ h => by omega⟩ ?_
  rintro _ _ _ h3 ⟨i, rfl, hi, rfl, rfl, hno⟩
  intro k hk
  have nope : findF l a = none → k false h3 := fun hf => hk _ _ fun _ => ifB_false rfl
    ⟨_, rfl, st_allB S2 rfl rfl z1 fun h5 S5 => ld_rawAgg S5 rfl ⟨_, by rw [hf]; rfl, o1.trans S5.old, by rw [hf]; exact rv_zObj⟩⟩
  refine ifB_intro (fun hc => ?_) (fun hc => ?_)
  · have hil : i < l.length := by rw [hl] at hc; simpa using hc
    refine ld_int (fld_argKind.rd hp) o2.ext ?_
    by_cases h5 : a.kind = 5
    · have : (a.kind == 5) = true := by simpa using h5
      rw [this]
      refine hk _ _ fun _ => ifB_true rfl ?_
      refine idx_rdN hs rfl hil fun p2 _ hp2 => ?_
      refine ld_int (fld_oId.rd hp2) (ob.trans (o1.trans o2)).ext ?_
      refine ld_int (fld_argN.rd hp) o2.ext ?_
      refine ifB_intro (fun he => ?_) (fun he => ?_)
      · have he : l[i].id = a.n := by simpa using he
        have hf : findF l a = some l[i] := by
          unfold findF
          rw [if_pos h5, List.find?_eq_some_iff_getElem]
          refine ⟨by simpa using he, i, hil, rfl, fun j hj => ?_⟩
          simpa using hno h5 j (by omega) hj
        refine idx_rdN hs rfl hil fun p3 _ hp3 => ?_
        refine ld_agg hp3 (ob.trans (o1.trans o2)).ext rfl fun ds hds => ?_
        refine st_allB S2 rfl (size_rv hds) (fun v hv => RV.one _ hds v hv) fun h6 S6 => ?_
        refine ld_rawAgg S6 (size_rv hds).symm ⟨ds, by rw [hf]; rfl, o1.trans S6.old, by rw [hf]; exact hds⟩
      · have he : l[i].id ≠ a.n := by simpa using he
        refine ar_i64 (by omega) (by have := hs.bound; omega) ⟨l.length - (i + 1), by omega, i + 1, rfl, by omega, rfl, rfl, fun h5 k hk hlt => ?_⟩
        by_cases e : k = i
        · subst e; exact he
        · exact hno h5 k hk (by omega)
    · have : (a.kind == 5) = false := by simpa using h5
      rw [this]
      exact nope (by unfold findF; rw [if_neg h5])
  · have hil : l.length ≤ i := by rw [hl] at hc; simpa using hc
    refine nope ?_
    unfold findF
    split
    · rename_i h5
      rw [List.find?_eq_none]
      intro x hx
      obtain ⟨j, hj, rfl⟩ := List.getElem_of_mem hx
      simpa using hno h5 j hj (by omega)
    · rfl
theorem refFind_calls {h : Heap} {s : Sl} {l : List MObj} {cs : Array Value} {a : MArg} (hs : rdSl rObj.el h s l) (ha : rArg.rv h cs.toList a) :
    ACalls Try.prog F_lateenref22_Find [s.v, .agg cs] h (fun v h' => ∃ ds : Array Value, v = .tuple #[.agg ds, .bool (findF l a).isSome] ∧ Old h h' ∧ rObj.rv h ds.toList ((findF l a).getD zObj)) := refFind_callsB hs (.refl h) ha

theorem refVirt_calls {h : Heap} {s : Sl} {l : List MObj} {cs : Array Value} {a : MArg} (hs : rdSl rObj.el h s l) (ha : rArg.rv h cs.toList a) :
    ACalls Try.prog F_lateenref22_Virtual [s.v, .agg cs] h (fun v h' => v = .bool (virtF l a) ∧ Old h h') := by
  refine lateenref22_Virtual_of ?_
  unfold lateenref22_Virtual
  refine new_rv ha fun p h1 o1 hp => ?_
  refine ld_agg hp (hExt.refl _) rfl fun cs1 hcs1 => ?_
  refine (refFind_calls (hs.old o1) hcs1).mono ?_
  rintro v h2 ⟨ds, rfl, o2, hds⟩
  refine ⟨_, _, rfl, ?_⟩
  refine new_stX hds o2.ext rfl rfl fun p1 h4 o4 hp1 => ?_
  intro k hk
  have ho := o1.trans (o2.trans o4)
  cases hf : findF l a with
  | none =>
    refine ifB_false rfl (hk _ _ fun _ => ⟨by unfold virtF; rw [hf], ho⟩)
  | some o =>
    rw [hf] at hp1
    refine ifB_true rfl ?_
    refine ld_intX (fld_argKind.bx (fld_oReal.bx hp1)) (hk _ _ fun _ => ⟨by unfold virtF; rw [hf]; rfl, ho⟩)

theorem refReally_calls {h : Heap} {s : Sl} {l : List MObj} {cs : Array Value} {a : MArg} (hs : rdSl rObj.el h s l) (ha : rArg.rv h cs.toList a) :
    ACalls Try.prog F_lateenref22_Really [s.v, .agg cs] h (fun v h' => ∃ ds : Array Value, v = .agg ds ∧ Old h h' ∧ rArg.rv h ds.toList (reallyF l a)) := by
  refine lateenref22_Really_of ?_
  unfold lateenref22_Really
  refine new_rv ha fun p h1 o1 hp => ?_
  refine new_rawB (Sep.start h1) fun p1 h2 o2 S2 => ?_
  refine ld_agg hp o2.ext rfl fun cs1 hcs1 => ?_
  refine (refFind_calls (hs.old (o1.trans o2)) (rArg.ext hcs1 o2.ext)).mono ?_
  rintro v h3 ⟨ds, rfl, o3, hds⟩
  refine ⟨_, _, rfl, ?_⟩
  refine new_stB (S2.grow o3) hds rfl rfl fun p2 h5 S5 => ?_
  have hb := S5.bx
  have hpo := S5.old
  intro k hk
  have fin : ∀ (x : Array Value), rArg.rv h x.toList (reallyF l a) → x.size = 3 ∧ st x.toList h5 p1 fun h7 => ld (.agg 3) h7 p1 fun (x_2 : Array Value) => ∃ ds : Array Value, Value.agg x_2 = .agg ds ∧ Old h h7 ∧ rArg.rv h ds.toList (reallyF l a) := fun x hx =>
    st_allB S5.swap rfl (size_rv hx) (fun v hv => RV.one _ hx v hv) fun h7 S7 => ld_rawAgg S7 (size_rv hx).symm ⟨x, rfl, o1.trans S7.old, hx⟩
  have own : reallyF l a = a → k false h5 := fun e => hk _ _ fun _ => ifB_false rfl <| ld_agg hp hpo.ext rfl fun x hx => fin x (by rw [e]; exact rv_arg.2 (rv_arg.1 hx))
  cases hf : findF l a with
  | none =>
    refine ifB_false rfl (own (by unfold reallyF; rw [hf]))
  | some o =>
    rw [hf] at hb
    refine ifB_true rfl ?_
    refine ld_intX (fld_argKind.bx (fld_oReal.bx hb)) ?_
    by_cases h0 : o.real.kind = 0
    · have : (((Option.some o).getD zObj).real.kind != 0) = false := by simpa using h0
      rw [this]
      exact own (by unfold reallyF; rw [hf]; simp [h0])
    · have : (((Option.some o).getD zObj).real.kind != 0) = true := by simpa using h0
      rw [this]
      refine hk _ _ fun _ => ifB_true rfl ?_
      obtain ⟨_, c, hc, hv⟩ := fld_oReal.bx hb
      have hv := rv_arg.1 hv
      refine ⟨c.toArray, ⟨by rw [hv]; rfl, fun j v hj => hc j v (by simpa using hj)⟩, fin _ (rv_arg.2 ?_)⟩
      have : reallyF l a = o.real := by unfold reallyF; rw [hf]; simp [h0]
      rw [this]
      simpa using hv

theorem rising_calls {h : Heap} {s : Sl} {l : List MObj} (hs : rdSl rObj.el h s l) :
    ACalls Try.prog F_lateenref22_Rising [s.v] h (fun v h' => v = .bool (decide (Rising l)) ∧ h' = h) := by
  refine lateenref22_Rising_of ?_
  unfold lateenref22_Rising
  have hl := hs.lenEq
  refine loop_intro (fun m (q : Int) h' => ∃ i : Nat, q = i ∧ 1 ≤ i ∧ m = l.length + 1 - i ∧ h' = h ∧ ∀ k (hk : k + 1 < l.length), k + 1 < i → l[k].id < l[k + 1].id) (l.length)
    ⟨1, rfl, by omega, by omega, rfl, fun k _ h => by omega⟩ ?_
  rintro _ _ _ h3 ⟨i, rfl, hi, rfl, rfl, hno⟩
  refine ifB_intro (fun hc => ?_) (fun hc => ?_)
  · have hil : i < l.length := by rw [hl] at hc; simpa using hc
    obtain ⟨j, rfl⟩ : ∃ j, i = j + 1 := ⟨i - 1, by omega⟩
    refine idx_rdN hs rfl hil fun p2 _ hp2 => ?_
    refine ld_int (fld_oId.rd hp2) (hExt.refl _) ?_
    have hbd := hs.bound
    refine ar_i64 (by omega) (by omega) ?_
    rw [show ((j + 1 : Nat) : Int) - 1 = (j : Int) by omega]
    refine idx_rdN hs rfl (show j < l.length by omega) fun p3 _ hp3 => ?_
    refine ld_int (fld_oId.rd hp3) (hExt.refl _) ?_
    refine ifB_intro (fun he => ?_) (fun he => ?_)
    · have he := of_decide_eq_true he
      refine ⟨congrArg Value.bool (decide_eq_false fun hr => ?_).symm, rfl⟩
      have := rising_iff.1 hr j hil
      omega
    · have he := of_decide_eq_false he
      refine ar_i64 (by omega) (by have := hs.bound; omega) ⟨l.length + 1 - (j + 1 + 1), by omega, j + 1 + 1, rfl, by omega, rfl, rfl, fun k hk hlt => ?_⟩
      by_cases e : k = j
      · subst e; omega
      · exact hno k hk (by omega)
  · have hil : l.length ≤ i := by rw [hl] at hc; simpa using hc
    exact ⟨congrArg Value.bool (decide_eq_true (rising_iff.2 fun k hk => hno k hk (by omega))).symm, rfl⟩

theorem sameArgs_calls {h : Heap} {a b : Sl} {A B : List MArg} (ha : rdSl rArg.el h a A) (hb : rdSl rArg.el h b B) :
    ACalls Try.prog F_lateenref22_SameArgs [a.v, b.v] h (fun v h' => v = .bool (decide (A = B)) ∧ h' = h) := by
  refine lateenref22_SameArgs_of ?_
  unfold lateenref22_SameArgs
  have hla := ha.lenEq
  have hlb := hb.lenEq
  refine ifB_intro (fun hc => ?_) (fun hc => ?_)
  · refine ⟨congrArg Value.bool (decide_eq_false fun e => ?_).symm, rfl⟩
    subst e
    rw [hla, hlb] at hc
    simp at hc
  have hAB : A.length = B.length := by rw [hla, hlb] at hc; simp at hc; omega
  refine loop_intro (fun m (q : Int) h' => ∃ i : Nat, q = i ∧ i ≤ A.length ∧ m = A.length - i ∧ h' = h ∧ A.take i = B.take i) A.length
    ⟨0, rfl, by omega, by omega, rfl, rfl⟩ ?_
  rintro _ _ _ h3 ⟨i, rfl, hi, rfl, rfl, hsame⟩
  refine ifB_intro (fun hc => ?_) (fun hc => ?_)
  · have hil : i < A.length := by rw [hla] at hc; simpa using hc
    have hib : i < B.length := by omega
    refine idx_rdN ha rfl hil fun p2 _ hp2 => ?_
    refine ld_agg hp2 (hExt.refl _) rfl fun cs hcs => ?_
    refine idx_rdN hb rfl hib fun p3 _ hp3 => ?_
    refine ld_agg hp3 (hExt.refl _) rfl fun ds hds => ?_
    refine eq_arg hcs hds ?_
    refine ifB_intro (fun he => ?_) (fun he => ?_)
    · have he : A[i] ≠ B[i] := by simpa using he
      refine ⟨congrArg Value.bool (decide_eq_false fun e => he ?_).symm, rfl⟩
      subst e; rfl
    · have he : A[i] = B[i] := by simpa using he
      refine ar_i64 (by omega) (by have := ha.bound; omega) ⟨A.length - (i + 1), by omega, i + 1, rfl, by omega, rfl, rfl, ?_⟩
      rw [List.take_succ_eq_append_getElem hil, List.take_succ_eq_append_getElem hib, hsame, he]
  · have hil : A.length ≤ i := by rw [hla] at hc; simpa using hc
    rw [List.take_of_length_le hil, List.take_of_length_le (by omega)] at hsame
    exact ⟨congrArg Value.bool (decide_eq_true hsame).symm, rfl⟩

theorem few_calls {h : Heap} {s : Sl} {l : List MObj} (hs : rdSl rObj.el h s l) :
    ACalls Try.prog F_lateenref22_Few [s.v] h (fun v h' => v = .bool (fewF l) ∧ h' = h) := by
  refine lateenref22_Few_of ?_
  unfold lateenref22_Few
  have hl := hs.lenEq
  refine ifB_intro (fun hc => ?_) (fun hc => ?_)
  · refine ⟨?_, rfl⟩
    have : ¬ l.length ≤ 40 := by rw [hl] at hc; have := of_decide_eq_true hc; omega
    simp [fewF, this]
  have h40 : l.length ≤ 40 := by rw [hl] at hc; have := of_decide_eq_false hc; omega
  refine loop_intro (fun m (q : Int) h' => ∃ i : Nat, q = i ∧ i ≤ l.length ∧ m = l.length - i ∧ h' = h ∧ ∀ k (hk : k < l.length), k < i → l[k].vals.length ≤ 20) l.length
    ⟨0, rfl, by omega, by omega, rfl, fun k _ h => by omega⟩ ?_
  rintro _ _ _ h3 ⟨i, rfl, hi, rfl, rfl, hno⟩
  refine ifB_intro (fun hc => ?_) (fun hc => ?_)
  · have hil : i < l.length := by rw [hl] at hc; simpa using hc
    refine idx_rdN hs rfl hil fun p2 _ hp2 => ?_
    refine ld_lst (fld_oVals.rd hp2) (hExt.refl _) fun t ht => ?_
    have htl := ht.lenEq
    refine ifB_intro (fun he => ?_) (fun he => ?_)
    · have he : ¬ l[i].vals.length ≤ 20 := by rw [htl] at he; have := of_decide_eq_true he; omega
      refine ⟨?_, rfl⟩
      have : (l.all fun o => decide (o.vals.length ≤ 20)) = false := by
        rw [List.all_eq_false]
        exact ⟨l[i], List.getElem_mem hil, by simpa using he⟩
      simp [fewF, this]
    · have he : l[i].vals.length ≤ 20 := by rw [htl] at he; have := of_decide_eq_false he; omega
      refine ar_i64 (by omega) (by have := hs.bound; omega) ⟨l.length - (i + 1), by omega, i + 1, rfl, by omega, rfl, rfl, fun k hk hlt => ?_⟩
      by_cases e : k = i
      · subst e; exact he
      · exact hno k hk (by omega)
  · have hil : l.length ≤ i := by rw [hl] at hc; simpa using hc
    refine ⟨?_, rfl⟩
    have : (l.all fun o => decide (o.vals.length ≤ 20)) = true := by
      rw [List.all_eq_true]
      intro x hx
      obtain ⟨j, hj, rfl⟩ := List.getElem_of_mem hx
      exact decide_eq_true (hno j hj (by omega))
    simp [fewF, this, h40]
theorem few_iff {l : List MObj} (h : fewF l = true) : l.length ≤ 40 ∧ ∀ o ∈ l, o.vals.length ≤ 20 := by
  unfold fewF at h
  simpa using h

end Go.Proofs.Ytncbpalncgcoaaa

/-
  Right, Same, one, There, Back, to.
-/
namespace Go.Proofs.Ytncbpalncgcoaaa
open Go.Fw Go.Pl.Api Go.Pl.Vst

theorem rightF_obj {l : List MObj} (hr : Rising l) (h0 : headOk l = true) : rightF l = l.all (objOk l) := by simp [rightF, hr, h0]

theorem refRight_calls {h : Heap} {s : Sl} {l : List MObj} (hs : rdSl rObj.el h s l) :
    ACalls Try.prog F_lateenref22_Right [s.v] h (fun v h' => v = .bool (rightF l) ∧ Old h h') := by
  refine lateenref22_Right_of ?_
  unfold lateenref22_Right
  have hl := hs.lenEq
  intro k hk
  have bad : rightF l = false → k true h := fun e => hk _ _ fun _ => ifB_true rfl ⟨by rw [e], .refl _⟩
  have go : Rising l → headOk l = true → k false h := fun hr h0 => hk _ _ fun _ => ifB_false rfl <| by
    rw [rightF_obj hr h0]
    refine loop_intro (fun m (q : Int) h' => ∃ i : Nat, q = i ∧ i ≤ l.length ∧ m = l.length - i ∧ Old h h' ∧ ∀ k (hk : k < l.length), k < i → objOk l l[k] = true) l.length
      ⟨0, rfl, by omega, by omega, .refl _, fun k _ h => by omega⟩ ?_
    rintro _ _ _ h2 ⟨i, rfl, hi, rfl, o2, hno⟩
    refine ifB_intro (fun hc => ?_) (fun hc => ?_)
    · have hil : i < l.length := by rw [hl] at hc; simpa using hc
      have stop : ∀ h', Old h2 h' → objOk l l[i] = false → (Value.bool false = .bool (l.all (objOk l)) ∧ Old h h') := fun h' o e => by
        have : l.all (objOk l) = false := by rw [List.all_eq_false]; exact ⟨l[i], List.getElem_mem hil, by simp [e]⟩
        exact ⟨by rw [this], o2.trans o⟩
      refine idx_rdN hs rfl hil fun p _ hp => ?_
      refine ld_int (fld_argKind.rd (fld_oReal.rd hp)) o2.ext ?_
      refine ifB_intro (fun he => ?_) (fun he => ?_)
      · have he : l[i].real.kind = 5 := by simpa using he
        exact stop h2 (.refl _) (by simp [objOk, he])
      have he : l[i].real.kind ≠ 5 := by simpa using he
      refine loop_intro (fun m (q : Int) h' => ∃ j : Nat, q = j ∧ j ≤ l[i].vals.length ∧ m = l[i].vals.length - j ∧ Old h h' ∧ ∀ k (hk : k < l[i].vals.length), k < j → (l[i].vals[k].kind != 5 || (findF l l[i].vals[k]).isSome) = true) l[i].vals.length
        ⟨0, rfl, by omega, by omega, o2, fun k _ h => by omega⟩ ?_
      rintro _ _ _ h3 ⟨j, rfl, hj, rfl, o3, hno2⟩
      refine idx_rdN hs rfl hil fun p1 _ hp1 => ?_
      refine ld_lst (fld_oVals.rd hp1) o3.ext fun t ht => ?_
      have htl := ht.lenEq
      refine ifB_intro (fun hc2 => ?_) (fun hc2 => ?_)
      · have hjl : j < l[i].vals.length := by rw [htl] at hc2; simpa using hc2
        refine idx_rdN hs rfl hil fun p2 _ hp2 => ?_
        refine ld_lst (fld_oVals.rd hp2) o3.ext fun t2 ht2 => ?_
        refine idx_rdN ht2 rfl hjl fun p3 _ hp3 => ?_
        refine ld_agg hp3 o3.ext rfl fun cs hcs => ?_
        refine (refFind_calls (hs.old o3) (rArg.ext hcs o3.ext)).mono ?_
        rintro v h4 ⟨ds, rfl, o4, hds⟩
        refine ⟨_, _, rfl, ?_⟩
        refine new_stX hds o4.ext rfl rfl fun p4 h6 o6 _ => ?_
        have o36 := o3.trans (o4.trans o6)
        intro k2 hk2
        refine idx_rdN hs rfl hil fun p5 _ hp5 => ?_
        refine ld_lst (fld_oVals.rd hp5) o36.ext fun t3 ht3 => ?_
        refine idx_rdN ht3 rfl hjl fun p6 _ hp6 => ?_
        refine ld_int (fld_argKind.rd hp6) o36.ext ?_
        have next : (l[i].vals[j].kind != 5 || (findF l l[i].vals[j]).isSome) = true → k2 false h6 := fun e => hk2 _ _ fun _ => ifB_false rfl <|
          ar_i64 (by omega) (by have := ht.bound; omega) ⟨l[i].vals.length - (j + 1), by omega, j + 1, rfl, by omega, rfl, o36, fun k hk hlt => by
            by_cases ek : k = j
            · subst ek; exact e
            · exact hno2 k hk (by omega)⟩
        refine ifB_intro (fun h5 => ?_) (fun h5 => ?_)
        · cases hf : findF l l[i].vals[j] with
          | none =>
            refine hk2 _ _ fun _ => ifB_true rfl ?_
            have h5 : l[i].vals[j].kind = 5 := by simpa using h5
            have : objOk l l[i] = false := by
              unfold objOk
              rw [Bool.and_eq_false_iff]
              right
              rw [List.all_eq_false]
              exact ⟨_, List.getElem_mem hjl, by simp [h5, hf]⟩
            have q : l.all (objOk l) = false := by rw [List.all_eq_false]; exact ⟨l[i], List.getElem_mem hil, by simp [this]⟩
            exact ⟨by rw [q], o36⟩
          | some o => exact next (by rw [hf]; simp)
        · exact next (by rw [Bool.or_eq_true]; left; simpa using h5)
      · have hjl : l[i].vals.length ≤ j := by rw [htl] at hc2; simpa using hc2
        refine ar_i64 (by omega) (by have := hs.bound; omega) ⟨l.length - (i + 1), by omega, i + 1, rfl, by omega, rfl, o3, fun k hk hlt => ?_⟩
        by_cases ek : k = i
        · subst ek
          unfold objOk
          rw [Bool.and_eq_true]
          refine ⟨by simpa using he, List.all_eq_true.2 fun x hx => ?_⟩
          obtain ⟨z, hz, rfl⟩ := List.getElem_of_mem hx
          exact hno2 z hz (by omega)
        · exact hno k hk (by omega)
    · have hil : l.length ≤ i := by rw [hl] at hc; simpa using hc
      have : l.all (objOk l) = true := List.all_eq_true.2 fun x hx => by
        obtain ⟨z, hz, rfl⟩ := List.getElem_of_mem hx
        exact hno z hz (by omega)
      exact ⟨by rw [this], o2⟩
  refine (rising_calls hs).mono ?_
  rintro v h8 ⟨rfl, rfl⟩
  refine ⟨_, rfl, ?_⟩
  refine ifB_intro (fun hc => ?_) (fun hc => ?_)
  · have hc : ¬ Rising l := by simpa using hc
    exact bad (by simp [rightF, hc])
  have hr : Rising l := by simpa using hc
  refine ifB_intro (fun hc => ?_) (fun hc => ?_)
  · have h0 : 0 < l.length := by rw [hl] at hc; simpa using hc
    refine idx_rdN (i := 0) hs rfl h0 fun p7 _ hp7 => ?_
    refine ld_int (fld_oId.rd hp7) (hExt.refl _) ?_
    obtain ⟨o, l', rfl⟩ : ∃ o l', l = o :: l' := by cases l with
      | nil => simp at h0
      | cons o l' => exact ⟨o, l', rfl⟩
    show k (decide (o.id < 0)) h8
    by_cases ho : o.id < 0
    · rw [decide_eq_true ho]
      exact bad (by simp [rightF, headOk, show ¬ (0 ≤ o.id) by omega])
    · rw [decide_eq_false ho]
      exact go hr (by simp [headOk]; omega)
  · have h0 : l = [] := by rw [hl] at hc; simpa using hc
    subst h0
    exact go hr rfl

theorem vRight_calls {h : Heap} {s : Sl} {l : List MObj} (hs : rdSl rObj.el h s l) (hn : l.length ≤ 1000000) :
    ACalls Try.prog F_vstate_Right [s.v] h (fun v h' => v = .bool (rightF l) ∧ Old h h') := by
  refine vstate_Right_of ?_
  unfold vstate_Right
  have hl := hs.lenEq
  have allFalse : ∀ {i : Nat} (hi : i < l.length), objOk l l[i] = false → rightF l = false := fun {i} hi e => by
    have : l.all (objOk l) = false := by rw [List.all_eq_false]; exact ⟨l[i], List.getElem_mem hi, by simp [e]⟩
    simp [rightF, this]
  refine loop_intro (fun m (q : Int × Int) h' => ∃ i : Nat, q.2 = i ∧ i ≤ l.length ∧ m = l.length - i ∧ Old h h' ∧ (q.1 = match i with | 0 => (-1 : Int) | j + 1 => (l[j]?.map (·.id)).getD 0) ∧
      (∀ k (hk : k + 1 < l.length), k + 1 < i → l[k].id < l[k + 1].id) ∧ (0 < i → headOk l = true) ∧ ∀ k (hk : k < l.length), k < i → l[k].real.kind ≠ 5) l.length
    ⟨0, rfl, by omega, by omega, .refl _, rfl, fun k _ h => by omega, fun h => by omega, fun k _ h => by omega⟩ ?_
  rintro _ _ ⟨last, i⟩ h1 ⟨i, hi0, hi, rfl, o1, hlast, hris, hhead, hreal⟩
  simp only at hi0 hlast ⊢
  subst hi0
  refine ifB_intro (fun hc => ?_) (fun hc => ?_)
  · have hil : i < l.length := by rw [hl] at hc; simpa using hc
    refine idx_rdN hs rfl hil fun p _ hp => ?_
    refine ld_agg hp o1.ext rfl fun cs hcs => ?_
    refine new_stX hcs o1.ext rfl rfl fun p1 h3 o3 hb => ?_
    intro k hk
    refine ld_intX (fld_oId.bx hb) ?_
    refine ifB_intro (fun he => ?_) (fun he => ?_)
    · refine hk _ _ fun _ => ifB_true rfl ⟨?_, o1.trans o3⟩
      have he : l[i].id ≤ last := of_decide_eq_true he
      have : rightF l = false := by
        cases i with
        | zero =>
          simp only at hlast
          have : headOk l = false := by
            cases l with
            | nil => simp at hil
            | cons o l' => simp only [List.getElem_cons_zero] at he; simp [headOk]; omega
          simp [rightF, this]
        | succ j =>
          simp only [List.getElem?_eq_getElem (show j < l.length by omega), Option.map_some, Option.getD_some] at hlast
          have : ¬ Rising l := fun hr => by
            have := rising_iff.1 hr j hil
            omega
          simp [rightF, this]
      rw [this]
    have he : last < l[i].id := by have := of_decide_eq_false he; omega
    refine ld_intX (fld_argKind.bx (fld_oReal.bx hb)) ?_
    by_cases h5 : l[i].real.kind = 5
    · have : (l[i].real.kind == 5) = true := by simpa using h5
      rw [this]
      refine hk _ _ fun _ => ifB_true rfl ⟨?_, o1.trans o3⟩
      rw [allFalse hil (by simp [objOk, h5])]
    · have : (l[i].real.kind == 5) = false := by simpa using h5
      rw [this]
      refine hk _ _ fun _ => ifB_false rfl ?_
      refine ld_intX (fld_oId.bx hb) ?_
      refine ar_i64 (by omega) (by omega) ⟨l.length - (i + 1), by omega, i + 1, rfl, by omega, rfl, o1.trans o3, ?_, fun z hz hlt => ?_, fun _ => ?_, fun z hz hlt => ?_⟩
      · simp [List.getElem?_eq_getElem hil]
      · by_cases ez : z + 1 = i
        · subst ez
          simp only [List.getElem?_eq_getElem (show z < l.length by omega), Option.map_some, Option.getD_some] at hlast
          omega
        · exact hris z hz (by omega)
      · by_cases e0 : i = 0
        · subst e0
          simp only at hlast
          cases l with
          | nil => rfl
          | cons o l' => simp only [List.getElem_cons_zero] at he; simp [headOk]; omega
        · exact hhead (by omega)
      · by_cases ez : z = i
        · subst ez; exact h5
        · exact hreal z hz (by omega)
  have hil : i = l.length := by rw [hl] at hc; have : l.length ≤ i := by simpa using hc
                                omega
  subst hil
  have hr : Rising l := rising_iff.2 fun k hk => hris k hk hk
  have h0 : headOk l = true := by
    cases l with
    | nil => rfl
    | cons o l' => exact hhead (by simp)
  rw [rightF_obj hr h0]
  refine loop_intro (fun m (q : Int) h' => ∃ i : Nat, q = i ∧ i ≤ l.length ∧ m = l.length - i ∧ Old h h' ∧ ∀ k (hk : k < l.length), k < i → objOk l l[k] = true) l.length
    ⟨0, rfl, by omega, by omega, o1, fun k _ h => by omega⟩ ?_
  clear hlast hc o1
  rintro _ _ _ h5 ⟨i, rfl, hi, rfl, o5, hno⟩
  refine ifB_intro (fun hc => ?_) (fun hc => ?_)
  · have hil : i < l.length := by rw [hl] at hc; simpa using hc
    refine idx_rdN hs rfl hil fun p _ hp => ?_
    refine ld_agg hp o5.ext rfl fun cs hcs => ?_
    refine new_stX hcs o5.ext rfl rfl fun p3 h7 o7 hb => ?_
    refine ld_lstX (fld_oVals.bx hb) fun t ht => ?_
    have htl := ht.lenEq
    refine loop_intro (fun m (q : Int) h' => ∃ j : Nat, q = j ∧ j ≤ l[i].vals.length ∧ m = l[i].vals.length - j ∧ Old h h' ∧ ∀ k (hk : k < l[i].vals.length), k < j → (l[i].vals[k].kind != 5 || (findF l l[i].vals[k]).isSome) = true) l[i].vals.length
      ⟨0, rfl, by omega, by omega, o5.trans o7, fun k _ h => by omega⟩ ?_
    rintro _ _ _ h8 ⟨j, rfl, hj, rfl, o8, hno2⟩
    refine ifB_intro (fun hc2 => ?_) (fun hc2 => ?_)
    · have hjl : j < l[i].vals.length := by rw [htl] at hc2; simpa using hc2
      refine idx_rdN ht rfl hjl fun p4 _ hp4 => ?_
      refine ld_agg hp4 o8.ext rfl fun ds hds => ?_
      refine new_stX hds o8.ext rfl rfl fun p5 h10 o10 hb5 => ?_
      obtain ⟨_, c, hc1, hc2⟩ := hb5
      refine ⟨c.toArray, ⟨by simp [rArg.len hc2]; rfl, fun j v hj => hc1 j v (by simpa using hj)⟩, ?_⟩
      refine (find_calls (a := l[i].vals[j]) (hs.old (o8.trans o10)) (by simpa using rv_arg.2 (rv_arg.1 hc2)) hr (by omega)).mono ?_
      rintro v h11 ⟨es, rfl, o11, hes⟩
      refine ⟨_, _, rfl, ?_⟩
      refine new_stX hes o11.ext rfl rfl fun p6 h13 o13 _ => ?_
      have o10' := o10.trans (o11.trans o13)
      intro k2 hk2
      have hkind : hcell h13 (p5.add 0) = some (.int .i64 l[i].vals[j].kind) := by
        have := hc1 0 (.int .i64 l[i].vals[j].kind) (by rw [rv_arg.1 hc2]; rfl)
        exact (o11.trans o13).ext _ _ this
      refine ld_one (k := .int .i64) (x := l[i].vals[j].kind) hkind ?_
      have next : (l[i].vals[j].kind != 5 || (findF l l[i].vals[j]).isSome) = true → k2 false h13 := fun e => hk2 _ _ fun _ => ifB_false rfl <|
        ar_i64 (by omega) (by have := ht.bound; omega) ⟨l[i].vals.length - (j + 1), by omega, j + 1, rfl, by omega, rfl, o8.trans o10', fun k hk hlt => by
          by_cases ek : k = j
          · subst ek; exact e
          · exact hno2 k hk (by omega)⟩
      refine ifB_intro (fun h5 => ?_) (fun h5 => ?_)
      · cases hf : findF l l[i].vals[j] with
        | none =>
          refine hk2 _ _ fun _ => ifB_true rfl ?_
          have h5 : l[i].vals[j].kind = 5 := by simpa using h5
          have : objOk l l[i] = false := by
            unfold objOk
            rw [Bool.and_eq_false_iff]
            right
            rw [List.all_eq_false]
            exact ⟨_, List.getElem_mem hjl, by simp [h5, hf]⟩
          have q : l.all (objOk l) = false := by rw [List.all_eq_false]; exact ⟨l[i], List.getElem_mem hil, by simp [this]⟩
          exact ⟨by rw [q], o8.trans o10'⟩
        | some o => exact next (by rw [hf]; simp)
      · exact next (by rw [Bool.or_eq_true]; left; simpa using h5)
    · have hjl : l[i].vals.length ≤ j := by rw [htl] at hc2; simpa using hc2
      refine ar_i64 (by omega) (by have := hs.bound; omega) ⟨l.length - (i + 1), by omega, i + 1, rfl, by omega, rfl, o8, fun k hk hlt => ?_⟩
      by_cases ek : k = i
      · subst ek
        unfold objOk
        rw [Bool.and_eq_true]
        refine ⟨by simpa using hreal k hk hk, List.all_eq_true.2 fun x hx => ?_⟩
        obtain ⟨z, hz, rfl⟩ := List.getElem_of_mem hx
        exact hno2 z hz (by omega)
      · exact hno k hk (by omega)
  · have hil : l.length ≤ i := by rw [hl] at hc; simpa using hc
    have : l.all (objOk l) = true := List.all_eq_true.2 fun x hx => by
      obtain ⟨z, hz, rfl⟩ := List.getElem_of_mem hx
      exact hno z hz (by omega)
    exact ⟨by rw [this], o5⟩

end Go.Proofs.Ytncbpalncgcoaaa

/-
  Same, one, There, Back, to; the program's Same.
-/
namespace Go.Proofs.Ytncbpalncgcoaaa
open Go.Fw Go.Pl.Api Go.Pl.Vst

theorem obj_ext {a b : MObj} (h1 : a.id = b.id) (h2 : a.cls = b.cls) (h3 : a.vals = b.vals) (h4 : a.real = b.real) : a = b := by
  obtain ⟨_, _, _, _⟩ := a
  obtain ⟨_, _, _, _⟩ := b
  simp_all

theorem refSame_calls {h : Heap} {s t : Sl} {A B : List MObj} (ha : rdSl rObj.el h s A) (hb : rdSl rObj.el h t B) :
    ACalls Try.prog F_lateenref22_Same [s.v, t.v] h (fun v h' => v = .bool (decide (A = B)) ∧ h' = h) := by
  refine lateenref22_Same_of ?_
  unfold lateenref22_Same
  have hla := ha.lenEq
  have hlb := hb.lenEq
  refine ifB_intro (fun hc => ?_) (fun hc => ?_)
  · refine ⟨congrArg Value.bool (decide_eq_false fun e => ?_).symm, rfl⟩
    subst e
    rw [hla, hlb] at hc
    simp at hc
  have hAB : A.length = B.length := by rw [hla, hlb] at hc; simp at hc; omega
  refine loop_intro (fun m (q : Int) h' => ∃ i : Nat, q = i ∧ i ≤ A.length ∧ m = A.length - i ∧ h' = h ∧ A.take i = B.take i) A.length
    ⟨0, rfl, by omega, by omega, rfl, rfl⟩ ?_
  rintro _ _ _ h3 ⟨i, rfl, hi, rfl, rfl, hsame⟩
  refine ifB_intro (fun hc => ?_) (fun hc => ?_)
  · have hil : i < A.length := by rw [hla] at hc; simpa using hc
    have hib : i < B.length := by omega
    have e3 := hExt.refl h3
    intro k hk
    have bad : A[i] ≠ B[i] → k true h3 := fun he => hk _ _ fun _ => ifB_true rfl ⟨congrArg Value.bool (decide_eq_false fun e => he (by subst e; rfl)).symm, rfl⟩
    have good : A[i] = B[i] → k false h3 := fun he => hk _ _ fun _ => ifB_false rfl <|
      ar_i64 (by omega) (by have := ha.bound; omega) ⟨A.length - (i + 1), by omega, i + 1, rfl, by omega, rfl, rfl, by
        rw [List.take_succ_eq_append_getElem hil, List.take_succ_eq_append_getElem hib, hsame, he]⟩
    refine idx_rdN ha rfl hil fun p _ hp => ld_int (fld_oId.rd hp) e3 ?_
    refine idx_rdN hb rfl hib fun p1 _ hp1 => ld_int (fld_oId.rd hp1) e3 ?_
    refine ifB_intro (fun he => bad fun e => ?_) (fun he => ?_)
    · rw [e] at he; simp at he
    have e1 : A[i].id = B[i].id := by simpa using he
    refine idx_rdN ha rfl hil fun p2 _ hp2 => ld_str (fld_oCls.rd hp2) e3 ?_
    refine idx_rdN hb rfl hib fun p3 _ hp3 => ld_str (fld_oCls.rd hp3) e3 ?_
    rw [toList_beq]
    refine ifB_intro (fun he => bad fun e => ?_) (fun he => ?_)
    · rw [e] at he; simp at he
    have e2 : A[i].cls = B[i].cls := by simpa using he
    refine idx_rdN ha rfl hil fun p4 _ hp4 => ld_agg (fld_oReal.rd hp4) e3 rfl fun cs hcs => ?_
    refine idx_rdN hb rfl hib fun p5 _ hp5 => ld_agg (fld_oReal.rd hp5) e3 rfl fun ds hds => ?_
    refine eq_arg hcs hds ?_
    refine ifB_intro (fun he => bad fun e => ?_) (fun he => ?_)
    · rw [e] at he; simp at he
    have e4 : A[i].real = B[i].real := by simpa using he
    refine idx_rdN ha rfl hil fun p6 _ hp6 => ld_lst (fld_oVals.rd hp6) e3 fun x hx => ?_
    refine idx_rdN hb rfl hib fun p7 _ hp7 => ld_lst (fld_oVals.rd hp7) e3 fun y hy => ?_
    refine (sameArgs_calls hx hy).mono ?_
    rintro v h4 ⟨rfl, rfl⟩
    refine ⟨_, rfl, hExt.refl _, ?_⟩
    by_cases e : A[i].vals = B[i].vals
    · rw [decide_eq_true e]
      exact good (obj_ext e1 e2 e e4)
    · rw [decide_eq_false e]
      exact bad fun h => e (by rw [h])
  · have hil : A.length ≤ i := by rw [hla] at hc; simpa using hc
    rw [List.take_of_length_le hil, List.take_of_length_le (by omega)] at hsame
    exact ⟨congrArg Value.bool (decide_eq_true hsame).symm, rfl⟩

theorem one_calls {h : Heap} {cs : Array Value} {o : MObj} (ho : rObj.rv h cs.toList o) :
    ACalls Try.prog F_lateenlaw22_one [.agg cs] h (fun v h' => v = .agg cs ∧ Old h h') := by
  refine lateenlaw22_one_of ?_
  unfold lateenlaw22_one
  obtain ⟨s, rfl, hs⟩ := arr_obj ho
  refine new_rawB (Sep.start h) fun p h1 o1 S1 => ?_
  refine new_rawB S1 fun p1 h2 o2 S2 => ?_
  refine ld_rawB (i := 0) (k := .int .i64) (x := o.id) S2.swap rfl rfl ?_
  refine ld_rawB (i := 1) (k := .str) (x := o.cls) S2.swap rfl rfl ?_
  refine ld_rawB (i := 2) (k := .sl) (x := s) S2.swap rfl rfl ?_
  refine ld_rawSub (i := 3) (ds := #[.int .i64 o.real.kind, .string o.real.s, .int .i64 o.real.n]) S2.swap rfl rfl ?_
  refine bst_obj ?_
  refine st_allB S2 rfl rfl (fun v hv => RV.one _ ho v hv) fun h3 S3 => ?_
  exact ld_rawAgg S3 rfl ⟨rfl, S3.old⟩

theorem there_callsB {hb h : Heap} {s : Sl} {l : List MObj} (hs : rdSl rObj.el hb s l) (ob : Old hb h) (hn : l.length ≤ 1000000) :
    ACalls Try.prog F_lateenlaw22_There [s.v] h (fun v h' => ∃ s' : Sl, v = s'.v ∧ Sep h h' [ownSl si_Lvstate_Obj (rObj.fl hb) s' l]) := by
  refine lateenlaw22_There_of ?_
  unfold lateenlaw22_There
  have hl := hs.lenEq
  refine loop_intro (fun m (q : Sl × Int) h' => ∃ i : Nat, q.2 = i ∧ i ≤ l.length ∧ m = l.length - i ∧ Sep h h' [ownSl si_Lvstate_Obj (rObj.fl hb) q.1 (l.take i)]) l.length
    ⟨0, rfl, by omega, by omega, (Sep.start h).nil rfl⟩ ?_
  rintro _ _ ⟨out, i⟩ h1 ⟨i, hi0, hi, rfl, S⟩
  simp only at hi0 S ⊢
  subst hi0
  refine ifB_intro (fun hc => ?_) (fun hc => ?_)
  · have hil : i < l.length := by rw [hl] at hc; simpa using hc
    refine idx_rdN hs rfl hil fun p _ hp => ?_
    refine ld_agg hp (ob.trans S.old).ext rfl fun cs hcs => ?_
    refine (one_calls (rObj.ext hcs (ob.trans S.old).ext)).mono ?_
    rintro v h2 ⟨rfl, o2⟩
    refine ⟨_, rfl, ?_⟩
    refine app1_flat (v := .agg cs) (x := l[i]) (S.grow o2) (fun _ => ⟨hcs, rfl⟩) rfl (by decide) (by simp only [List.length_take, si_Lvstate_Obj]; omega) (by simp only [List.length_take]; omega) fun s' h' S' => ?_
    refine ar_i64 (by omega) (by have := hs.bound; omega) ⟨l.length - (i + 1), by omega, i + 1, rfl, by omega, rfl, ?_⟩
    rw [List.take_succ_eq_append_getElem hil]
    exact S'
  · have hil : l.length ≤ i := by rw [hl] at hc; simpa using hc
    rw [List.take_of_length_le hil] at S
    exact ⟨out, rfl, S⟩
theorem there_calls {h : Heap} {s : Sl} {l : List MObj} (hs : rdSl rObj.el h s l) (hn : l.length ≤ 1000000) :
    ACalls Try.prog F_lateenlaw22_There [s.v] h (fun v h' => ∃ s' : Sl, v = s'.v ∧ Sep h h' [ownSl si_Lvstate_Obj (rObj.fl h) s' l]) := there_callsB hs (.refl h) hn

theorem back_callsB {hb h : Heap} {s : Sl} {l : List MObj} (hs : rdSl rObj.el hb s l) (ob : Old hb h) (hn : l.length ≤ 1000000) :
    ACalls Try.prog F_lateenlaw22_Back [s.v] h (fun v h' => ∃ s' : Sl, v = s'.v ∧ Sep h h' [ownSl si_Llateenref22_Obj (rObj.fl hb) s' l]) := by
  refine lateenlaw22_Back_of ?_
  unfold lateenlaw22_Back
  have hl := hs.lenEq
  refine loop_intro (fun m (q : Sl × Int) h' => ∃ i : Nat, q.2 = i ∧ i ≤ l.length ∧ m = l.length - i ∧ Sep h h' [ownSl si_Llateenref22_Obj (rObj.fl hb) q.1 (l.take i)]) l.length
    ⟨0, rfl, by omega, by omega, (Sep.start h).nil rfl⟩ ?_
  rintro _ _ ⟨out, i⟩ h1 ⟨i, hi0, hi, rfl, S⟩
  simp only at hi0 S ⊢
  subst hi0
  refine ifB_intro (fun hc => ?_) (fun hc => ?_)
  · have hil : i < l.length := by rw [hl] at hc; simpa using hc
    have e := (ob.trans S.old).ext
    refine idx_rdN hs rfl hil fun p _ hp => ld_int (fld_oId.rd hp) e ?_
    refine idx_rdN hs rfl hil fun p1 _ hp1 => ld_str (fld_oCls.rd hp1) e ?_
    refine idx_rdN hs rfl hil fun p2 _ hp2 => ld_lst (fld_oVals.rd hp2) e fun x hx => ?_
    refine idx_rdN hs rfl hil fun p3 _ hp3 => ld_agg (fld_oReal.rd hp3) e rfl fun cs hcs => ?_
    rw [arr_arg hcs]
    refine bst_obj ?_
    refine app1_flat (v := .agg _) (x := l[i]) S (fun _ => ⟨rv_obj.2 ⟨x, rfl, hx⟩, rfl⟩) rfl (by decide) (by simp only [List.length_take, si_Llateenref22_Obj]; omega) (by simp only [List.length_take]; omega) fun s' h' S' => ?_
    refine ar_i64 (by omega) (by have := hs.bound; omega) ⟨l.length - (i + 1), by omega, i + 1, rfl, by omega, rfl, ?_⟩
    rw [List.take_succ_eq_append_getElem hil]
    exact S'
  · have hil : l.length ≤ i := by rw [hl] at hc; simpa using hc
    rw [List.take_of_length_le hil] at S
    exact ⟨out, rfl, S⟩
theorem back_calls {h : Heap} {s : Sl} {l : List MObj} (hs : rdSl rObj.el h s l) (hn : l.length ≤ 1000000) :
    ACalls Try.prog F_lateenlaw22_Back [s.v] h (fun v h' => ∃ s' : Sl, v = s'.v ∧ Sep h h' [ownSl si_Llateenref22_Obj (rObj.fl h) s' l]) := back_callsB hs (.refl h) hn
theorem fl_rd {h h' : Heap} {si : SlI} {s : Sl} {l : List MObj} {L : List As} (S : Sep h h' (ownSl si (rObj.fl h) s l :: L)) : rdSl rObj.el h' s l := RV.fl_el S.rd S.old.ext

theorem to_calls {h : Heap} (n : Int) : ACalls Try.prog F_lateenlaw22_to [.int .i64 n] h (fun v h' => v = .agg #[.int .i64 5, .string ⟨#[]⟩, .int .i64 n] ∧ Old h h') := by
  refine lateenlaw22_to_of ?_
  unfold lateenlaw22_to
  refine new_rawB (Sep.start h) fun p h1 o1 S1 => ?_
  refine bst_ref ?_
  refine st_allB S1 rfl rfl (fun v hv => ?_) fun h2 S2 => ld_rawAgg S2 rfl ⟨rfl, S2.old⟩
  simp at hv
  rcases hv with rfl | rfl | rfl <;> rfl
theorem rv_to {h : Heap} (n : Int) : rArg.rv h (#[Value.int .i64 5, .string ⟨#[]⟩, .int .i64 n] : Array Value).toList ⟨5, ⟨#[]⟩, n⟩ := rv_arg.2 rfl

theorem sameI_calls {h : Heap} {a b : Sl} {A B : List Int} (ha : rdSl eInt h a A) (hb : rdSl eInt h b B) :
    ACalls Try.prog F_lateenlaw22_same [a.v, b.v] h (fun v h' => v = .bool (decide (A = B)) ∧ h' = h) := by
  refine lateenlaw22_same_of ?_
  unfold lateenlaw22_same
  have hla := ha.lenEq
  have hlb := hb.lenEq
  refine ifB_intro (fun hc => ?_) (fun hc => ?_)
  · refine ⟨congrArg Value.bool (decide_eq_false fun e => ?_).symm, rfl⟩
    subst e
    rw [hla, hlb] at hc
    simp at hc
  have hAB : A.length = B.length := by rw [hla, hlb] at hc; simp at hc; omega
  refine loop_intro (fun m (q : Int) h' => ∃ i : Nat, q = i ∧ i ≤ A.length ∧ m = A.length - i ∧ h' = h ∧ A.take i = B.take i) A.length
    ⟨0, rfl, by omega, by omega, rfl, rfl⟩ ?_
  rintro _ _ _ h3 ⟨i, rfl, hi, rfl, rfl, hsame⟩
  refine ifB_intro (fun hc => ?_) (fun hc => ?_)
  · have hil : i < A.length := by rw [hla] at hc; simpa using hc
    have hib : i < B.length := by omega
    refine idx_rdN ha rfl hil fun p2 _ hp2 => ld_one hp2 ?_
    refine idx_rdN hb rfl hib fun p3 _ hp3 => ld_one hp3 ?_
    refine ifB_intro (fun he => ?_) (fun he => ?_)
    · have he : A[i] ≠ B[i] := by simpa using he
      refine ⟨congrArg Value.bool (decide_eq_false fun e => he ?_).symm, rfl⟩
      subst e; rfl
    · have he : A[i] = B[i] := by simpa using he
      refine ar_i64 (by omega) (by have := ha.bound; omega) ⟨A.length - (i + 1), by omega, i + 1, rfl, by omega, rfl, rfl, ?_⟩
      rw [List.take_succ_eq_append_getElem hil, List.take_succ_eq_append_getElem hib, hsame, he]
  · have hil : A.length ≤ i := by rw [hla] at hc; simpa using hc
    rw [List.take_of_length_le hil, List.take_of_length_le (by omega)] at hsame
    exact ⟨congrArg Value.bool (decide_eq_true hsame).symm, rfl⟩

theorem has_calls {h : Heap} {a : Sl} {A : List Int} (ha : rdSl eInt h a A) (n : Int) :
    ACalls Try.prog F_lateenlaw22_has [a.v, .int .i64 n] h (fun v h' => v = .bool (decide (n ∈ A)) ∧ h' = h) := by
  refine lateenlaw22_has_of ?_
  unfold lateenlaw22_has
  have hla := ha.lenEq
  refine loop_intro (fun m (q : Int) h' => ∃ i : Nat, q = i ∧ i ≤ A.length ∧ m = A.length - i ∧ h' = h ∧ ∀ k (hk : k < A.length), k < i → A[k] ≠ n) A.length
    ⟨0, rfl, by omega, by omega, rfl, fun k _ h => by omega⟩ ?_
  rintro _ _ _ h3 ⟨i, rfl, hi, rfl, rfl, hno⟩
  refine ifB_intro (fun hc => ?_) (fun hc => ?_)
  · have hil : i < A.length := by rw [hla] at hc; simpa using hc
    refine idx_rdN ha rfl hil fun p2 _ hp2 => ld_one hp2 ?_
    refine ifB_intro (fun he => ?_) (fun he => ?_)
    · have he : A[i] = n := by simpa using he
      exact ⟨congrArg Value.bool (decide_eq_true (he ▸ List.getElem_mem hil)).symm, rfl⟩
    · have he : A[i] ≠ n := by simpa using he
      refine ar_i64 (by omega) (by have := ha.bound; omega) ⟨A.length - (i + 1), by omega, i + 1, rfl, by omega, rfl, rfl, fun k hk hlt => ?_⟩
      by_cases ek : k = i
      · subst ek; exact he
      · exact hno k hk (by omega)
  · have hil : A.length ≤ i := by rw [hla] at hc; simpa using hc
    refine ⟨congrArg Value.bool (decide_eq_false fun hm => ?_).symm, rfl⟩
    obtain ⟨z, hz, rfl⟩ := List.getElem_of_mem hm
    exact hno z hz (by omega) rfl

/-! The program's Same -/
theorem equal_calls {h : Heap} {a b : Sl} {A B : List MArg} (ha : rdSl rArg.el h a A) (hb : rdSl rArg.el h b B) :
    ACalls Try.prog F_slices_Equal [a.v, b.v] h (fun v h' => v = .bool (decide (A = B)) ∧ h' = h) := by
  refine slices_Equal_of ?_
  unfold slices_Equal
  have hla := ha.lenEq
  have hlb := hb.lenEq
  refine ifB_intro (fun hc => ?_) (fun hc => ?_)
  · refine ⟨congrArg Value.bool (decide_eq_false fun e => ?_).symm, rfl⟩
    subst e
    rw [hla, hlb] at hc
    simp at hc
  have hAB : A.length = B.length := by rw [hla, hlb] at hc; simp at hc; omega
  refine loop_intro (fun m (q : Int) h' => ∃ i : Nat, q = i ∧ i ≤ A.length ∧ m = A.length - i ∧ h' = h ∧ A.take i = B.take i) A.length
    ⟨0, rfl, by omega, by omega, rfl, rfl⟩ ?_
  rintro _ _ _ h3 ⟨i, rfl, hi, rfl, rfl, hsame⟩
  refine ifB_intro (fun hc => ?_) (fun hc => ?_)
  · have hil : i < A.length := by rw [hla] at hc; simpa using hc
    have hib : i < B.length := by omega
    refine idx_rdN ha rfl hil fun p2 _ hp2 => ?_
    refine ld_agg hp2 (hExt.refl _) rfl fun cs hcs => ?_
    refine idx_rdN hb rfl hib fun p3 _ hp3 => ?_
    refine ld_agg hp3 (hExt.refl _) rfl fun ds hds => ?_
    refine eq_arg hcs hds ?_
    refine ifB_intro (fun he => ?_) (fun he => ?_)
    · have he : A[i] ≠ B[i] := by simpa using he
      refine ⟨congrArg Value.bool (decide_eq_false fun e => he ?_).symm, rfl⟩
      subst e; rfl
    · have he : A[i] = B[i] := by simpa using he
      refine ar_i64 (by omega) (by have := ha.bound; omega) ⟨A.length - (i + 1), by omega, i + 1, rfl, by omega, rfl, rfl, ?_⟩
      rw [List.take_succ_eq_append_getElem hil, List.take_succ_eq_append_getElem hib, hsame, he]
  · have hil : A.length ≤ i := by rw [hla] at hc; simpa using hc
    rw [List.take_of_length_le hil, List.take_of_length_le (by omega)] at hsame
    exact ⟨congrArg Value.bool (decide_eq_true hsame).symm, rfl⟩

theorem vsame_calls {h : Heap} {c d : Array Value} {a b : MObj} (ha : rObj.rv h c.toList a) (hb : rObj.rv h d.toList b) :
    ACalls Try.prog F_vstate_same [.agg c, .agg d] h (fun v h' => v = .bool (decide (a = b)) ∧ Old h h') := by
  refine vstate_same_of ?_
  unfold vstate_same
  refine new_rv ha fun p h1 o1 hp => ?_
  refine new_rv (rObj.ext hb o1.ext) fun p1 h2 o2 hp1 => ?_
  have e2 := o2.ext
  have r2 := hExt.refl h2
  have oo := o1.trans o2
  intro k hk
  have bad : a ≠ b → k false h2 := fun he => hk _ _ fun _ => ⟨congrArg Value.bool (decide_eq_false he).symm, oo⟩
  refine ld_int (fld_oId.rd hp) e2 ?_
  refine ld_int (fld_oId.rd hp1) r2 ?_
  refine ifB_intro (fun he => ?_) (fun he => bad fun e => by rw [e] at he; simp at he)
  have q1 : a.id = b.id := by simpa using he
  refine ld_str (fld_oCls.rd hp) e2 ?_
  refine ld_str (fld_oCls.rd hp1) r2 ?_
  rw [toList_beq]
  refine ifB_intro (fun he => ?_) (fun he => bad fun e => by rw [e] at he; simp at he)
  have q2 : a.cls = b.cls := by simpa using he
  refine ld_agg (fld_oReal.rd hp) e2 rfl fun cs hcs => ?_
  refine ld_agg (fld_oReal.rd hp1) r2 rfl fun ds hds => ?_
  refine eq_arg hcs hds ?_
  refine ifB_intro (fun he => ?_) (fun he => bad fun e => by rw [e] at he; simp at he)
  have q4 : a.real = b.real := by simpa using he
  refine ld_lst (fld_oVals.rd hp) e2 fun x hx => ?_
  refine ld_lst (fld_oVals.rd hp1) r2 fun y hy => ?_
  refine (equal_calls (hx.old o2) hy).mono ?_
  rintro v h4 ⟨rfl, rfl⟩
  refine ⟨_, rfl, hk _ _ fun _ => ⟨congrArg Value.bool ?_, oo⟩⟩
  by_cases e : a.vals = b.vals
  · rw [decide_eq_true e, decide_eq_true (obj_ext q1 q2 e q4)]
  · rw [decide_eq_false e, decide_eq_false fun h => e (by rw [h])]

theorem vSame_calls {h : Heap} {s t : Sl} {A B : List MObj} (ha : rdSl rObj.el h s A) (hb : rdSl rObj.el h t B) :
    ACalls Try.prog F_vstate_Same [s.v, t.v] h (fun v h' => v = .bool (decide (A = B)) ∧ Old h h') := by
  refine vstate_Same_of ?_
  unfold vstate_Same
  have core : ACalls Try.prog F_slices_EqualFunc [s.v, t.v, .func (.func F_vstate_same) #[] #[]] h (fun v h' => v = .bool (decide (A = B)) ∧ Old h h') := by
    refine slices_EqualFunc_of ?_
    unfold slices_EqualFunc
    have hla := ha.lenEq
    have hlb := hb.lenEq
    refine ifB_intro (fun hc => ?_) (fun hc => ?_)
    · refine ⟨congrArg Value.bool (decide_eq_false fun e => ?_).symm, .refl _⟩
      subst e
      rw [hla, hlb] at hc
      simp at hc
    have hAB : A.length = B.length := by rw [hla, hlb] at hc; simp at hc; omega
    refine loop_intro (fun m (q : Int) h' => ∃ i : Nat, q = i ∧ i ≤ A.length ∧ m = A.length - i ∧ Old h h' ∧ A.take i = B.take i) A.length
      ⟨0, rfl, by omega, by omega, .refl _, rfl⟩ ?_
    rintro _ _ _ h3 ⟨i, rfl, hi, rfl, o3, hsame⟩
    refine ifB_intro (fun hc => ?_) (fun hc => ?_)
    · have hil : i < A.length := by rw [hla] at hc; simpa using hc
      have hib : i < B.length := by omega
      refine idx_rdN ha rfl hil fun p _ hp => ld_agg hp o3.ext rfl fun cs hcs => ?_
      refine new_stX hcs o3.ext rfl rfl fun p1 h4 o4 hb1 => ?_
      refine idx_rdN hb rfl hib fun p2 _ hp2 => ld_agg hp2 (o3.trans o4).ext rfl fun ds hds => ?_
      refine new_stX hds (o3.trans o4).ext rfl rfl fun p3 h5 o5 hb3 => ?_
      have oo := o3.trans (o4.trans o5)
      obtain ⟨_, c, hc1, hc2⟩ := RV.bx_old hb1 o5
      obtain ⟨_, d, hd1, hd2⟩ := hb3
      refine ⟨c.toArray, ⟨by simp [rObj.len hc2]; rfl, fun j v hj => hc1 j v (by simpa using hj)⟩, ?_⟩
      refine ⟨d.toArray, ⟨by simp [rObj.len hd2]; rfl, fun j v hj => hd1 j v (by simpa using hj)⟩, ?_⟩
      refine ⟨_, _, rfl, by unfold FnOk; kernel_rfl, ?_⟩
      refine (vsame_calls (h := h5) (c := c.toArray) (d := d.toArray) (by simpa using rObj.ext hc2 oo.ext) (by simpa using rObj.ext hd2 oo.ext)).mono ?_
      rintro v h6 ⟨rfl, o6⟩
      refine ⟨_, rfl, ?_⟩
      refine ifB_intro (fun he => ?_) (fun he => ?_)
      · have he : A[i] ≠ B[i] := by simpa using he
        refine ⟨congrArg Value.bool (decide_eq_false fun e => he ?_).symm, oo.trans o6⟩
        subst e; rfl
      · have he : A[i] = B[i] := by simpa using he
        refine ar_i64 (by omega) (by have := ha.bound; omega) ⟨A.length - (i + 1), by omega, i + 1, rfl, by omega, rfl, oo.trans o6, ?_⟩
        rw [List.take_succ_eq_append_getElem hil, List.take_succ_eq_append_getElem hib, hsame, he]
    · have hil : A.length ≤ i := by rw [hla] at hc; simpa using hc
      rw [List.take_of_length_le hil, List.take_of_length_le (by omega)] at hsame
      exact ⟨congrArg Value.bool (decide_eq_true hsame).symm, o3⟩
  refine core.mono ?_
  rintro v h1 ⟨rfl, o1⟩
  exact ⟨_, rfl, rfl, o1⟩

end Go.Proofs.Ytncbpalncgcoaaa
