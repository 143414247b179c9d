/-
  lateenlaw13.AssignKeeps.
-/
import Derived.Test.YtojdbliehgejbaaDoorFnKeepL
import Derived.Test.YtojdbliehgejbaaDoorFnAwake13
namespace Go.Proofs.YtojdbliehgejbaaDoor
open Go.Fw Go.Pl Go.Pl.Api Go.Pl.Set Go.Pl.Live Go.Pl.Put Go.Pl.Lines

theorem assignKeeps_calls {h : Heap} {cs : Array Value} {f : MFunc} (hf : rFunc.rv h cs.toList f) (hb : bFunc f) (hW : WordsIn h) :
    ACalls Tryd.prog F_lateenlaw13_AssignKeeps [.agg cs] h (fun v h' => v = .bool true ∧ Old h h') := by
  refine lateenlaw13_AssignKeeps_of ?_
  unfold lateenlaw13_AssignKeeps
  refine new_rv hf fun p h1 o1 hp => ?_
  have hW := hW.old o1
  intro k hk
  have aw : ∀ h', Old h1 h' → k true h' := fun h' o => hk _ _ fun _ => ifB_true rfl (awake13_calls.mono fun v h'' ⟨e, o'⟩ => ⟨true, e, rfl, o1.trans (o.trans o')⟩)
  refine awake13_calls.mono ?_
  rintro v h2 ⟨rfl, o2⟩
  refine ⟨true, rfl, ifB_false rfl ?_⟩
  refine ld_agg hp o2.ext rfl fun c1 hc1 => ?_
  refine (few13_calls (rFunc.ext hc1 o2.ext) hb).mono ?_
  rintro v h3 ⟨b, rfl, o3, hF⟩
  have o3 := o2.trans o3
  refine ⟨b, rfl, ?_⟩
  cases b with
  | false => exact aw _ o3
  | true =>
  have F := hF rfl
  have A := F.asg hb
  refine hk _ _ fun _ => ifB_false rfl ?_
  clear hF hk aw
  have hn30 := F.n30
  refine ld_agg hp o3.ext rfl fun c4 hc4 => ?_
  have hc4 := rFunc.ext hc4 o3.ext
  refine bld_one (E := rFunc.fl h3) (v := .agg c4) (x := f) ((Sep.start h3).nil rfl) (fun _ => ⟨hc4, rfl⟩) rfl (by decide) fun s h4 S4 => ?_
  refine ⟨progC s, by kernel_rfl, ?_⟩
  refine new_stR S4 rfl rfl one_prog fun p1 h6 S6 => ?_
  have hs6 : rdSl rFunc.el h6 s [f] := RV.fl_el S6.swap.rd S6.old.ext
  refine ld_rawAgg S6 rfl ?_
  refine (textOf_calls hs6 hb (hW.old (o3.trans S6.old)) F.cnt).mono ?_
  rintro v h7 ⟨rfl, o7⟩
  refine ⟨_, rfl, ?_⟩
  have S7 := S6.grow o7
  refine ld_agg hp (o3.trans S7.old).ext rfl fun c7 hc7 => ?_
  refine (asgIns_calls (rFunc.ext hc7 (o3.trans S7.old).ext) A).mono ?_
  rintro v h8 ⟨r2, ll, rfl, hll, _, S8⟩
  refine ⟨_, rfl, ?_⟩
  have S9 := S7.frame S8
  refine spoilNames S9 (by omega) fun h9 S10 => ?_
  clear S4 S6 S7 S8 S9 hs6
  have S10 : Fw.Sep h3 h9 [rawB p1 (progC s), ownSl si_Lapi_Func (rFunc.fl h3) s [f]] := S10
  have o9 := o3.trans S10.old
  refine ld_agg hp o9.ext rfl fun c9 hc9 => ?_
  refine (asgRight_calls (rFunc.ext hc9 o9.ext) A F.right.names (F.us hb)).mono ?_
  rintro v h12 ⟨t, rfl, _, o12⟩
  refine ⟨t, rfl, ?_⟩
  have S12 := S10.grow o12
  have hs12 : rdSl rFunc.el h12 s [f] := RV.fl_el S12.swap.rd S12.old.ext
  refine ld_rawAgg S12 rfl ?_
  refine (textOf_calls hs12 hb (hW.old (o3.trans S12.old)) F.cnt).mono ?_
  rintro v h13 ⟨rfl, o13⟩
  exact ⟨_, rfl, by simp, o1.trans (o3.trans (S12.old.trans o13))⟩
end Go.Proofs.YtojdbliehgejbaaDoor
