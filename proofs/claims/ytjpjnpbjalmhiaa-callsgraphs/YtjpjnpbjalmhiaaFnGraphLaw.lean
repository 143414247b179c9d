/-
  lateenlaw20.CallsGraphs.
-/
import Derived.Test.YtjpjnpbjalmhiaaFnGraph2
import Derived.Test.YtjpjnpbjalmhiaaFnCallsLaw
import Derived.Test.YtjpjnpbjalmhiaaFnFew
namespace Go.Proofs.Ytjpjnpbjalmhiaa
open Go.Fw Go.Pl Go.Pl.Api

theorem callsGraphs_calls {h : Heap} {cs : Array Value} {p : MProg} (hx : rProg.rv h cs.toList p) (hb : bProg p) :
    ACalls Try.prog F_lateenlaw20_CallsGraphs [.agg cs] h (fun v h' => v = .bool true ∧ Old h h') := by
  refine lateenlaw20_CallsGraphs_of ?_
  unfold lateenlaw20_CallsGraphs
  refine new_rv hx fun p1 h1 o1 hp => ?_
  intro k hk
  refine awake20_calls.mono ?_
  rintro v h2 ⟨rfl, o2⟩
  refine ⟨_, rfl, ?_⟩
  refine ifB_false rfl ?_
  refine ld_agg hp o2.ext rfl fun cs2 hcs2 => ?_
  have hx2 := rProg.ext hcs2 o2.ext
  refine (few06_calls hx2 hb).mono ?_
  rintro v h3 ⟨b, rfl, o3, hfew⟩
  refine ⟨_, rfl, hk _ _ fun _ => ?_⟩
  have o13 := o2.trans o3
  refine ifB_intro (fun hc => awake20_end (o1.trans o13)) (fun hc => ?_)
  have hf := hfew (by simpa using hc)
  refine ld_agg hp o13.ext rfl fun cs3 hcs3 => ?_
  refine (graph_calls (rProg.ext hcs3 o13.ext) hf).mono ?_
  rintro v h4 ⟨s, rfl, S4⟩
  refine ⟨_, rfl, S4.old.ext, ?_⟩
  have o14 := o13.trans S4.old
  refine ld_agg hp o13.ext rfl fun cs4 hcs4 => ?_
  refine (refGraph_calls (rProg.ext (rProg.ext hcs4 o13.ext) S4.old.ext) hf.funcs).mono ?_
  rintro v h5 ⟨s2, rfl, S5⟩
  refine ⟨_, rfl, S5.old.ext, ?_⟩
  have T := S4.frame S5
  refine (sameLists_calls T.swap.rd T.rd).mono ?_
  rintro v h6 ⟨rfl, rfl⟩
  exact ⟨_, rfl, .refl _, by simp, o1.trans (o14.trans S5.old)⟩

end Go.Proofs.Ytjpjnpbjalmhiaa
