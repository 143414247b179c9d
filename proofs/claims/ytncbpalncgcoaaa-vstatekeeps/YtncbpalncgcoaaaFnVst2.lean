/-
  vstate: find, Find, Virtual, Really; the document's.
-/
import Derived.Test.YtncbpalncgcoaaaFnVst
namespace Go.Proofs.Ytncbpalncgcoaaa
open Go.Fw Go.Pl.Api Go.Pl.Vst

theorem rd_cell {α : Type} {E : RV α} {h : Heap} {p : Addr} {x : α} (r : E.el.rd h p x) : E.el.rd h (p.add 0) x := by rw [Go.Fw.Addr.add_zero']; exact r

theorem find_callsB {hb h : Heap} {s : Sl} {l : List MObj} {cs : Array Value} {a : MArg} (hs : rdSl rObj.el hb s l) (ob : Old hb h) (ha : rArg.rv h cs.toList a) (hr : Rising l) (hn : l.length ≤ 4611686018427387903) :
    ACalls Try.prog F_vstate_find [s.v, .agg cs] h (fun v h' => ∃ ds : Array Value, v = .tuple #[.agg ds, .bool (findF l a).isSome] ∧ Old h h' ∧ rObj.rv hb ds.toList ((findF l a).getD zObj)) := by
  refine vstate_find_of ?_
  unfold vstate_find
  refine new_rv ha fun p h1 o1 hp => ?_
  refine new_rawB (Sep.start h1) fun p1 h2 o2 S2 => ?_
  refine ld_int (fld_argKind.rd hp) o2.ext ?_
  have z1 : ∀ v ∈ (#[Value.int .i64 0, .string ⟨#[]⟩, .slice none 0 0, .int .i64 0, .string ⟨#[]⟩, .int .i64 0] : Array Value).toList, v.oneCell' = true := fun v hv => RV.one _ (rv_zObj (h := h)) v hv
  have none_ : ∀ (h4 : Heap), Sep h1 h4 [rawB p1 #[Value.int .i64 0, .string ⟨#[]⟩, .slice none 0 0, .int .i64 0, .string ⟨#[]⟩, .int .i64 0]] → findF l a = none →
      bst [(0, 1), (1, 1), (2, 1), (3, 3)] #[.int .i64 0, .string ⟨#[]⟩, .slice none 0 0, .int .i64 0, .string ⟨#[]⟩, .int .i64 0] [] fun c_1 =>
        c_1.size = 6 ∧ st c_1.toList h4 p1 fun h_5 => ld (.agg 6) h_5 p1 fun (x_3 : Array Value) => (∃ ds : Array Value, Value.tuple #[.agg x_3, .bool false] = .tuple #[.agg ds, .bool (findF l a).isSome] ∧ Old h h_5 ∧ rObj.rv hb ds.toList ((findF l a).getD zObj)) := fun h4 S4 hf =>
    ⟨_, rfl, st_allB S4 rfl rfl z1 fun h5 S5 => ld_rawAgg S5 rfl ⟨_, by rw [hf]; rfl, o1.trans S5.old, by rw [hf]; exact rv_zObj⟩⟩
  refine ifB_intro (fun hc => ?_) (fun hc => ?_)
  · have hk : a.kind ≠ 5 := by simpa using hc
    exact none_ h2 S2 (by unfold findF; rw [if_neg hk])
  have hk : a.kind = 5 := by simpa using hc
  refine ld_int (fld_argN.rd hp) o2.ext ?_
  have hs2 := hs.old (ob.trans (o1.trans o2))
  refine (place_calls hs2 hr a.n hn).mono ?_
  rintro v h4 ⟨r, rfl, o4, pl⟩
  refine ⟨_, _, rfl, ?_⟩
  have S4 := S2.grow o4
  have hfp : findF l a = if hitF l a.n r then l[r]? else none := by unfold findF; rw [if_pos hk, find_place hr pl]
  refine ifB_intro (fun hc => ?_) (fun hc => ?_)
  · have hh : hitF l a.n r = false := by simpa using hc
    exact none_ h4 S4 (by rw [hfp, hh]; rfl)
  · have hh : hitF l a.n r = true := by simpa using hc
    obtain ⟨hrl, _⟩ := hit_get hh
    have hfs : findF l a = some l[r] := by rw [hfp, if_pos hh, List.getElem?_eq_getElem hrl]
    refine idx_rdN hs rfl hrl fun p2 _ hp2 => ?_
    refine ld_agg hp2 (ob.trans (o1.trans (o2.trans o4))).ext rfl fun ds hds => ?_
    refine st_allB S4 rfl (size_rv hds) (fun v hv => RV.one _ hds v hv) fun h6 S6 => ?_
    refine ld_rawAgg S6 (size_rv hds).symm ⟨ds, by rw [hfs]; rfl, o1.trans S6.old, by rw [hfs]; exact hds⟩

theorem find_calls {h : Heap} {s : Sl} {l : List MObj} {cs : Array Value} {a : MArg} (hs : rdSl rObj.el h s l) (ha : rArg.rv h cs.toList a) (hr : Rising l) (hn : l.length ≤ 4611686018427387903) :
    ACalls Try.prog F_vstate_find [s.v, .agg cs] h (fun v h' => ∃ ds : Array Value, v = .tuple #[.agg ds, .bool (findF l a).isSome] ∧ Old h h' ∧ rObj.rv h ds.toList ((findF l a).getD zObj)) := find_callsB hs (.refl _) ha hr hn

theorem virt_calls {h : Heap} {s : Sl} {l : List MObj} {cs : Array Value} {a : MArg} (hs : rdSl rObj.el h s l) (ha : rArg.rv h cs.toList a) (hr : Rising l) (hn : l.length ≤ 4611686018427387903) :
    ACalls Try.prog F_vstate_Virtual [s.v, .agg cs] h (fun v h' => v = .bool (virtF l a) ∧ Old h h') := by
  refine vstate_Virtual_of ?_
  unfold vstate_Virtual
  refine new_rv ha fun p h1 o1 hp => ?_
  refine ld_agg hp (hExt.refl _) rfl fun cs1 hcs1 => ?_
  refine (find_calls (hs.old o1) hcs1 hr hn).mono ?_
  rintro v h2 ⟨ds, rfl, o2, hds⟩
  refine ⟨_, _, rfl, ?_⟩
  refine new_stX hds o2.ext rfl rfl fun p1 h4 o4 hp1 => ?_
  intro k hk
  have ho := o1.trans (o2.trans o4)
  cases hf : findF l a with
  | none =>
    refine ifB_false rfl (hk _ _ fun _ => ⟨by unfold virtF; rw [hf], ho⟩)
  | some o =>
    rw [hf] at hp1
    refine ifB_true rfl ?_
    refine ld_intX (fld_argKind.bx (fld_oReal.bx hp1)) (hk _ _ fun _ => ⟨by unfold virtF; rw [hf]; rfl, ho⟩)

theorem really_calls {h : Heap} {s : Sl} {l : List MObj} {cs : Array Value} {a : MArg} (hs : rdSl rObj.el h s l) (ha : rArg.rv h cs.toList a) (hr : Rising l) (hn : l.length ≤ 4611686018427387903) :
    ACalls Try.prog F_vstate_Really [s.v, .agg cs] h (fun v h' => ∃ ds : Array Value, v = .agg ds ∧ Old h h' ∧ rArg.rv h ds.toList (reallyF l a)) := by
  refine vstate_Really_of ?_
  unfold vstate_Really
  refine new_rv ha fun p h1 o1 hp => ?_
  refine new_rawB (Sep.start h1) fun p1 h2 o2 S2 => ?_
  refine ld_agg hp o2.ext rfl fun cs1 hcs1 => ?_
  refine (find_calls (hs.old (o1.trans o2)) (rArg.ext hcs1 o2.ext) hr hn).mono ?_
  rintro v h3 ⟨ds, rfl, o3, hds⟩
  refine ⟨_, _, rfl, ?_⟩
  refine new_stB (S2.grow o3) hds rfl rfl fun p2 h5 S5 => ?_
  have hb := S5.bx
  have hpo := S5.old
  intro k hk
  have fin : ∀ (x : Array Value), rArg.rv h x.toList (reallyF l a) → x.size = 3 ∧ st x.toList h5 p1 fun h7 => ld (.agg 3) h7 p1 fun (x_2 : Array Value) => ∃ ds : Array Value, Value.agg x_2 = .agg ds ∧ Old h h7 ∧ rArg.rv h ds.toList (reallyF l a) := fun x hx =>
    st_allB S5.swap rfl (size_rv hx) (fun v hv => RV.one _ hx v hv) fun h7 S7 => ld_rawAgg S7 (size_rv hx).symm ⟨x, rfl, o1.trans S7.old, hx⟩
  have own : reallyF l a = a → k false h5 := fun e => hk _ _ fun _ => ifB_false rfl <| ld_agg hp hpo.ext rfl fun x hx => fin x (by rw [e]; exact rv_arg.2 (rv_arg.1 hx))
  cases hf : findF l a with
  | none =>
    refine ifB_false rfl (own (by unfold reallyF; rw [hf]))
  | some o =>
    rw [hf] at hb
    refine ifB_true rfl ?_
    refine ld_intX (fld_argKind.bx (fld_oReal.bx hb)) ?_
    by_cases h0 : o.real.kind = 0
    · have : (((Option.some o).getD zObj).real.kind != 0) = false := by simpa using h0
      rw [this]
      exact own (by unfold reallyF; rw [hf]; simp [h0])
    · have : (((Option.some o).getD zObj).real.kind != 0) = true := by simpa using h0
      rw [this]
      refine hk _ _ fun _ => ifB_true rfl ?_
      obtain ⟨_, c, hc, hv⟩ := fld_oReal.bx hb
      have hv := rv_arg.1 hv
      refine ⟨c.toArray, ⟨by rw [hv]; rfl, fun j v hj => hc j v (by simpa using hj)⟩, fin _ (rv_arg.2 ?_)⟩
      have : reallyF l a = o.real := by unfold reallyF; rw [hf]; simp [h0]
      rw [this]
      simpa using hv

end Go.Proofs.Ytncbpalncgcoaaa
