/-
  The document's Set.
-/
import Derived.Test.YtncbpalncgcoaaaFnSet
namespace Go.Proofs.Ytncbpalncgcoaaa
open Go.Fw Go.Pl.Api Go.Pl.Vst

set_option maxHeartbeats 1000000 in
theorem refSet_calls {h : Heap} {s : Sl} {l : List MObj} {cs ds : Array Value} {a v : MArg} {at' : Int} (hs : rdSl rObj.el h s l) (ha : rArg.rv h cs.toList a) (hv : rArg.rv h ds.toList v) (hr : Rising l) (hn : l.length ≤ 100000) (hvs : ∀ x ∈ l, x.vals.length ≤ 1000000) :
    ACalls Try.prog F_lateenref22_Set [s.v, .agg cs, .int .i64 at', .agg ds] h (fun u h' => ∃ s' : Sl, u = .tuple #[s'.v, .bool (setF l a at' v).isSome] ∧ Old h h' ∧ rdSl rObj.el h' s' ((setF l a at' v).getD l)) := by
  refine lateenref22_Set_of ?_
  unfold lateenref22_Set
  refine new_rv ha fun p h1 o1 hp => ?_
  refine new_rv (rArg.ext hv o1.ext) fun p1 h2 o2 hp1 => ?_
  have o12 := o1.trans o2
  refine ld_agg hp o2.ext rfl fun c hc => ?_
  refine (refFind_calls (a := a) (hs.old o12) (rv_arg.2 (rv_arg.1 hc))).mono ?_
  rintro u h3 ⟨es, rfl, o3, hes⟩
  refine ⟨_, _, rfl, ?_⟩
  refine new_stR (Sep.start h3) rfl (size_rv hes) (fun v hv => RV.one _ hes v hv) fun p2 h5 S5 => ?_
  intro k hk
  have oh5 := o12.trans (o3.trans S5.old)
  have bad : ∀ h', Old h5 h' → setF l a at' v = none → k true h' := fun h' o e => hk _ _ fun _ => ifB_true rfl ⟨s, by rw [e]; rfl, oh5.trans o, by rw [e]; exact hs.old (oh5.trans o)⟩
  refine ld_agg hp (o2.trans (o3.trans S5.old)).ext rfl fun c4 hc4 => ?_
  refine (refVirt_calls (a := a) (hs.old oh5) (rv_arg.2 (rv_arg.1 hc4))).mono ?_
  rintro u h11 ⟨rfl, o11⟩
  refine ⟨_, rfl, ?_⟩
  refine ifB_intro (fun hc => bad h11 o11 ?_) (fun hc => ?_)
  · have hc : virtF l a = false := by simpa using hc
    unfold virtF at hc
    unfold setF
    cases hf : findF l a with
    | none => rfl
    | some o =>
      rw [hf] at hc
      have : o.real.kind ≠ 0 := by simpa using hc
      simp [this]
  have hc : virtF l a = true := by simpa using hc
  obtain ⟨o, hf, hvirt⟩ : ∃ o, findF l a = some o ∧ o.real.kind = 0 := by
    unfold virtF at hc
    cases hf : findF l a with
    | none => rw [hf] at hc; cases hc
    | some o => rw [hf] at hc; exact ⟨o, rfl, by simpa using hc⟩
  obtain ⟨h5, hol, hoid⟩ := findF_some hf
  rw [hf] at hes
  have hes : rObj.rv h2 es.toList o := hes
  obtain ⟨sl, rfl, hsl⟩ := arr_obj hes
  refine ifB_intro (fun hc => bad h11 o11 ?_) (fun hc => ?_)
  · have hc := of_decide_eq_true hc
    unfold setF; rw [hf]; simp only; rw [if_neg (by omega)]
  have hat0 : 0 ≤ at' := by have := of_decide_eq_false hc; omega
  have S11 := S5.grow o11
  refine ld_rawB (i := 2) (k := .sl) (x := sl) S11 rfl rfl ?_
  have hsll : sl.len = o.vals.length := hsl.lenEq
  by_cases hge : (o.vals.length : Int) ≤ at'
  · rw [hsll, decide_eq_true (show at' ≥ (o.vals.length : Int) from hge)]
    exact bad h11 o11 (by unfold setF; rw [hf]; simp only; rw [if_neg (by omega)])
  rw [hsll, decide_eq_false (show ¬ at' ≥ (o.vals.length : Int) from hge)]
  have hset : setF l a at' v = some (addF l { o with vals := o.vals.set at'.toNat v }) := by unfold setF; rw [hf]; simp only; rw [if_pos ⟨hvirt, hat0, by omega⟩]
  obtain ⟨j, rfl⟩ : ∃ j : Nat, at' = j := ⟨at'.toNat, by omega⟩
  refine hk _ _ fun _ => ifB_false rfl ?_
  refine ld_rawB (i := 2) (k := .sl) (x := sl) S11 rfl rfl ?_
  have hov := hvs o hol
  refine app_copy (S11.nil rfl) flat_arg (rd_arg.2 (hsl.old (o3.trans S11.old))) (by simp only [List.length_nil, si_Lapi_Arg]; omega) (by simp only [List.length_nil]; omega) fun s1 h7 S7 => ?_
  simp only [List.nil_append] at S7
  refine ld_agg hp1 (o3.trans S7.old).ext rfl fun c2 hc2 => ?_
  refine idx_rdN S7.rd rfl (show j < o.vals.length by omega) fun p3 hat3 _ => ?_
  refine ⟨size_rv hc2, ?_⟩
  rw [rv_arg.1 hc2]
  refine st_flat S7 (x := v) (own_arg v) hat3 rfl (by omega) fun h8 S8 => ?_
  refine st_rawB S8.swap (i := 2) (by simp) rfl fun h9 S9 => ?_
  refine ld_rawAgg S9 rfl ?_
  have hrd : rdSl rArg.el h9 s1 (o.vals.set j v) := rd_arg.1 S9.swap.rd
  have o9 := o12.trans (o3.trans S9.old)
  refine (refAdd_calls (o := { o with vals := o.vals.set j v }) (hs.old o9) (rv_obj.2 ⟨s1, rfl, hrd⟩) hr hn).mono ?_
  rintro u h10 ⟨s', rfl, S10⟩
  refine ⟨_, rfl, s', by rw [hset]; rfl, o9.trans S10.old, ?_⟩
  rw [hset]
  exact fl_rd S10

end Go.Proofs.Ytncbpalncgcoaaa
