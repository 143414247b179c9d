/-
  Set, on both sides.
-/
import Derived.Test.YtncbpalncgcoaaaFnAdd2
import Derived.Test.YtncbpalncgcoaaaFwRow
namespace Go.Proofs.Ytncbpalncgcoaaa
open Go.Fw Go.Pl.Api Go.Pl.Vst

theorem el_slice {h0 h : Heap} {L : List As} {xs : List Value} {o : MObj} (S : Fw.Sep h0 h (ownEl eO xs o :: L)) :
    ∃ s : Sl, xs = [.int .i64 o.id, .string o.cls, s.v, .int .i64 o.real.kind, .string o.real.s, .int .i64 o.real.n] ∧ Fw.Sep h0 h (ownSl si_Lapi_Arg eArg s o.vals :: L) := by
  obtain ⟨f, s, hxs, _⟩ := S.get
  refine ⟨s, hxs, S.conv loc_ownSl fun f hf => ?_⟩
  obtain ⟨s2, h2, h3⟩ := hf
  rw [hxs] at h2
  injection h2 with _ h2
  injection h2 with _ h2
  injection h2 with h2 _
  have := Sl.v_inj h2
  subst this
  exact ⟨f, List.Sublist.refl f, h3⟩
theorem slice_el {h0 h : Heap} {L : List As} {o : MObj} {s : Sl} (S : Fw.Sep h0 h (ownSl si_Lapi_Arg eArg s o.vals :: L)) :
    Fw.Sep h0 h (ownEl eO [.int .i64 o.id, .string o.cls, s.v, .int .i64 o.real.kind, .string o.real.s, .int .i64 o.real.n] o :: L) :=
  S.conv loc_ownEl fun f hf => ⟨f, List.Sublist.refl f, s, rfl, hf⟩

/-- A field of an object of one's own is written. -/
theorem setVal {h0 h : Heap} {L : List As} {out : Sl} {l : List MObj} {k j : Nat} {v : MArg} (S : Fw.Sep h0 h (ownSl si_Lvstate_Obj eO out l :: L)) (hk : k < l.length) (hj : j < l[k].vals.length) :
    ∃ x : Sl, (∀ p, At 6 out k p → hcell h (p.add 2) = some x.v) ∧ rdSl eArg h x l[k].vals ∧ ∀ (ds : Array Value) (K : Heap → Prop), ds.toList = argC v → (∀ h', Fw.Sep h0 h' (ownSl si_Lvstate_Obj eO out (l.set k { l[k] with vals := l[k].vals.set j v }) :: L) → K h') →
      ∀ p, At 3 x j p → ds.size = 3 ∧ st ds.toList h p K := by
  obtain ⟨xs, hxc, S2⟩ := (Sep.raw.2 S).away (i := k) (x := l[k]) (by simpa using hk) (by simp)
  obtain ⟨s, rfl, S3⟩ := el_slice S2.swap
  refine ⟨s, fun p hp => hxc p hp 2 s.v rfl, S3.rd, fun ds K hds hK p hp => ⟨by have := congrArg List.length hds; simpa [argC] using this, ?_⟩⟩
  rw [hds]
  refine st_flat S3 (x := v) (own_arg v) hp rfl hj fun h' S4 => hK h' ?_
  have S5 := (slice_el (o := { l[k] with vals := l[k].vals.set j v }) S4).swap
  have S6 := S5.back (i := k) (by simpa using hk) (by simp)
  refine Sep.raw.1 (S6.cast ?_)
  congr 2
  rw [List.set_set, List.map_set]

theorem setF_place {l : List MObj} (hr : Rising l) {o : MObj} {r : Nat} (p : PlaceF l o.id r) (ho : o ∈ l) (o' : MObj) (hid : o'.id = o.id) : ∃ hrl : r < l.length, l[r] = o ∧ addF l o' = l.set r o' := by
  obtain ⟨z, hz, rfl⟩ := List.getElem_of_mem ho
  have hzr : z = r := by
    rcases Nat.lt_trichotomy z r with h | h | h
    · have := p.low z hz h; omega
    · exact h
    · have hrl : r < l.length := by omega
      have h1 := rising_get hr h hz
      have h2 := p.high r hrl (Nat.le_refl _)
      omega
  subst hzr
  refine ⟨hz, rfl, addF_hit hr (by rw [hid]; exact p) ?_⟩
  unfold hitF
  rw [List.getElem?_eq_getElem hz]
  simp [hid]

set_option maxHeartbeats 1000000 in
theorem vSet_calls {h : Heap} {s : Sl} {l : List MObj} {cs ds : Array Value} {a v : MArg} {at' : Int} (hs : rdSl rObj.el h s l) (ha : rArg.rv h cs.toList a) (hv : rArg.rv h ds.toList v) (hr : Rising l) (hn : l.length ≤ 100000) (hvs : ∀ x ∈ l, x.vals.length ≤ 1000000) :
    ACalls Try.prog F_vstate_Set [s.v, .agg cs, .int .i64 at', .agg ds] h (fun u h' => ∃ s' : Sl, u = .tuple #[s'.v, .bool (setF l a at' v).isSome] ∧ Fw.Sep h h' [ownSl si_Lvstate_Obj eO s' ((setF l a at' v).getD l)]) := by
  refine vstate_Set_of ?_
  unfold vstate_Set
  refine new_rv ha fun p h1 o1 hp => ?_
  refine new_rv (rArg.ext hv o1.ext) fun p1 h2 o2 hp1 => ?_
  have o12 := o1.trans o2
  refine (copied_calls (hs.old o12) (by omega) hvs).mono ?_
  rintro u h3 ⟨out, rfl, S3⟩
  refine ⟨_, rfl, ?_⟩
  refine ld_agg hp (o2.trans S3.old).ext rfl fun c hc => ?_
  refine (find_callsB (a := a) hs (o12.trans S3.old) (rv_arg.2 (rv_arg.1 hc)) hr (by omega)).mono ?_
  rintro u h4 ⟨es, rfl, o4, hes⟩
  refine ⟨_, _, rfl, ?_⟩
  refine new_stX hes (o12.trans (S3.old.trans o4)).ext rfl rfl fun p2 h6 o6 hb => ?_
  have S6 := S3.grow (o4.trans o6)
  intro k hk
  have bad : setF l a at' v = none → k true h6 := fun e => hk _ _ fun _ => ifB_true rfl ⟨out, by rw [e]; rfl, by rw [e]; exact S6.since o12⟩
  cases hf : findF l a with
  | none => exact ifB_true rfl (bad (by unfold setF; rw [hf]))
  | some o =>
    obtain ⟨h5, hol, hoid⟩ := findF_some hf
    rw [hf] at hb
    refine ifB_false rfl ?_
    refine ld_intX (fld_argKind.bx (fld_oReal.bx hb)) ?_
    refine ifB_intro (fun hc => bad ?_) (fun hc => ?_)
    · have hc : o.real.kind ≠ 0 := by simpa using hc
      unfold setF; rw [hf]; simp [hc]
    have hvirt : o.real.kind = 0 := by simpa using hc
    refine ifB_intro (fun hc => bad ?_) (fun hc => ?_)
    · have hc := of_decide_eq_true hc
      unfold setF; rw [hf]; simp only; rw [if_neg (by omega)]
    have hat0 : 0 ≤ at' := by have := of_decide_eq_false hc; omega
    refine ld_lstX (fld_oVals.bx hb) fun x5 hx5 => ?_
    have hx5l : x5.len = o.vals.length := hx5.lenEq
    by_cases hge : (o.vals.length : Int) ≤ at'
    · rw [hx5l, decide_eq_true (show at' ≥ (o.vals.length : Int) from hge)]
      exact bad (by unfold setF; rw [hf]; simp only; rw [if_neg (by omega)])
    rw [hx5l, decide_eq_false (show ¬ at' ≥ (o.vals.length : Int) from hge)]
    have hset : setF l a at' v = some (addF l { o with vals := o.vals.set at'.toNat v }) := by unfold setF; rw [hf]; simp only; rw [if_pos ⟨hvirt, hat0, by omega⟩]
    refine hk _ _ fun _ => ifB_false rfl ?_
    refine ld_intX (fld_oId.bx hb) ?_
    refine (place_calls (rd_obj.1 S6.rd) hr o.id (by omega)).mono ?_
    rintro u h8 ⟨r, rfl, o8, pl⟩
    refine ⟨_, _, rfl, ?_⟩
    obtain ⟨hrl, hre, hadd⟩ := setF_place hr pl hol { o with vals := o.vals.set at'.toNat v } rfl
    have S8 := S6.grow o8
    obtain ⟨j, rfl⟩ : ∃ j : Nat, at' = j := ⟨at'.toNat, by omega⟩
    obtain ⟨x, hx1, hx2, hx3⟩ := setVal (v := v) S8 hrl (j := j) (by rw [hre]; omega)
    refine idx_rdN S8.rd rfl hrl fun p3 hat _ => ?_
    refine ld_one (k := .sl) (x := x) (hx1 p3 hat) ?_
    refine ld_agg hp1 (S8.old).ext rfl fun c3 hc3 => ?_
    refine idx_rdN hx2 rfl (by rw [hre]; omega) fun p4 hat4 _ => ?_
    refine hx3 c3 _ (rv_arg.1 hc3) (fun h9 S9 => ?_) p4 hat4
    refine ⟨out, by rw [hset]; rfl, ?_⟩
    rw [hset]
    simp only [Option.getD_some]
    rw [hadd]
    simp only [Int.toNat_natCast]
    rw [hre] at S9
    exact S9.since o12

end Go.Proofs.Ytncbpalncgcoaaa
