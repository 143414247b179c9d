/-
  The document's graph; FlowGraphs' walk.
-/
import Derived.Test.YthdidcnpiaeleaaFnFunc3
namespace Go.Proofs.Ythdidcnpiaeleaa
open Go.Fw Go.Pl Go.Pl.Api

def placeN (f : MFunc) (t : ByteArray) : Int := match place f t with | some k => (k : Int) | none => 0
def graphR (f : MFunc) : Graph := f.blocks.map fun b => b.term.to.map (placeN f)
theorem graph_same {f : MFunc} (h : ∀ b ∈ f.blocks, Placed f b.term.to) : graphF f = graphR f := by
  unfold graphF graphR
  refine List.map_congr_left fun b hb => ?_
  have hp := h b hb
  unfold rowF
  generalize b.term.to = l at hp
  induction l with
  | nil => rfl
  | cons t l ih =>
    obtain ⟨k, hk⟩ := hp t (by simp)
    rw [List.filterMap_cons, hk]
    simp only [Option.map_some, List.map_cons]
    rw [ih fun t ht => hp t (by simp [ht])]
    congr 1
    unfold placeN
    rw [hk]

theorem refOf_calls {h : Heap} {cs : Array Value} {f : MFunc} (hf : rFunc.rv h cs.toList f) (hn : f.blocks.length ≤ 1000) (hto : ∀ b ∈ f.blocks, b.term.to.length ≤ 1000) :
    ACalls Try.prog F_lateenref09_Of [.agg cs] h (fun v h' => ∃ s : Sl, v = s.v ∧ Sep h h' [ownSl si_LLint eInts s (graphR f)]) := by
  refine lateenref09_Of_of ?_
  unfold lateenref09_Of
  refine new_rv hf fun p h1 o1 hp => ?_
  have hb := fld_blocks.rd hp
  have hgl : (graphR f).length = f.blocks.length := by simp [graphR]
  refine loop_intro (fun m t h' => ∃ i : Nat, t.2 = i ∧ i ≤ f.blocks.length ∧ m = f.blocks.length - i ∧ Sep h1 h' [ownSl si_LLint eInts t.1 ((graphR f).take i)]) f.blocks.length
    ⟨0, rfl, by omega, by omega, (Sep.start h1).nil rfl⟩ ?_
  rintro m _ ⟨out, i⟩ h2 ⟨i, hi0, hi, rfl, S⟩
  simp only at hi0 S ⊢
  subst hi0
  refine ld_lst hb S.old.ext fun x hx => ?_
  have hxl := hx.lenEq
  refine ifB_intro (fun hc => ?_) (fun hc => ⟨out, rfl, (S.since o1).cast ?_⟩)
  · have hil : i < f.blocks.length := by rw [hxl] at hc; simpa using hc
    have hx3b := hto _ (List.getElem_mem hil)
    refine loop_intro (fun m t h' => ∃ j : Nat, t.2 = j ∧ j ≤ f.blocks[i].term.to.length ∧ m = f.blocks[i].term.to.length - j ∧ Sep h1 h' [ownSl si_Lint eInt t.1 ((f.blocks[i].term.to.take j).map (placeN f)), ownSl si_LLint eInts out ((graphR f).take i)]) f.blocks[i].term.to.length
      ⟨0, rfl, by omega, by omega, S.nil rfl⟩ ?_
    clear S
    rintro m _ ⟨l, j⟩ h3 ⟨j, hj0, hj, rfl, S⟩
    simp only at hj0 S ⊢
    subst hj0
    refine ld_lst hb S.old.ext fun x1 hx1 => ?_
    refine idx_rdN hx1 rfl hil fun p1 _ hp1 => ?_
    refine ld_lst (to_rd hp1) S.old.ext fun x2 hx2 => ?_
    have hx2l := hx2.lenEq
    refine ifB_intro (fun hc => ?_) (fun hc => ?_)
    · have hjl : j < f.blocks[i].term.to.length := by rw [hx2l] at hc; simpa using hc
      refine ld_agg hp S.old.ext rfl fun cs3 hcs3 => ?_
      refine ld_lst hb S.old.ext fun x4 hx4 => ?_
      refine idx_rdN hx4 rfl hil fun p2 _ hp2 => ?_
      refine ld_lst (to_rd hp2) S.old.ext fun x5 hx5 => ?_
      refine idx_rdN hx5 rfl hjl fun p3 _ hp3 => ?_
      refine ld_str hp3 S.old.ext ?_
      refine (refPlace_calls (rFunc.ext hcs3 S.old.ext) _).mono ?_
      rintro v h4 ⟨rfl, o4⟩
      have S4 := S.grow o4
      have go : ∀ (r : Int), placeN f f.blocks[i].term.to[j] = r → bld si_Lint 1 [(0, .int .i64 r)] h4 fun s h_4 =>
          app si_Lint l s h_4 fun s_1 h_5 => ar .i64 ((j : Int) + 1) fun n => ∃ m, m < f.blocks[i].term.to.length - j ∧ ∃ j : Nat, n = j ∧ j ≤ f.blocks[i].term.to.length ∧ m = f.blocks[i].term.to.length - j ∧ Sep h1 h_5 [ownSl si_Lint eInt s_1 ((f.blocks[i].term.to.take j).map (placeN f)), ownSl si_LLint eInts out ((graphR f).take i)] := by
        intro r hr
        refine app1_flat (x := r) S4 (fun _ => ⟨rfl, rfl⟩) rfl (by decide) (by simp only [si_Lint, List.length_map, List.length_take]; omega) (by simp only [List.length_map, List.length_take]; omega) fun s' h' S' => ?_
        refine ar_i64 (by omega) (by omega) ⟨f.blocks[i].term.to.length - (j + 1), by omega, j + 1, rfl, by omega, rfl, S'.cast ?_⟩
        congr 2
        rw [List.take_succ_eq_append_getElem hjl, List.map_append, ← hr]
        rfl
      refine place_as (fun q hq => ⟨o4.ext, go _ (by unfold placeN; rw [hq])⟩) (fun hq => ⟨o4.ext, go _ (by unfold placeN; rw [hq])⟩)
    · have hjl : f.blocks[i].term.to.length ≤ j := by rw [hx2l] at hc; simpa using hc
      rw [List.take_of_length_le hjl] at S
      refine app1_rule (x := f.blocks[i].term.to.map (placeN f)) (S.toEl.swap) rfl (by decide) (by simp only [si_LLint, List.length_take]; omega) (by simp only [List.length_take]; omega) fun s' h' S' => ?_
      refine ar_i64 (by omega) (by omega) ⟨f.blocks.length - (i + 1), by omega, i + 1, rfl, by omega, rfl, S'.cast ?_⟩
      congr 2
      rw [List.take_succ_eq_append_getElem (by omega)]
      simp [graphR]
  · have hil : f.blocks.length ≤ i := by rw [hxl] at hc; simpa using hc
    rw [List.take_of_length_le (by omega)]

theorem flowGraphs_calls {h : Heap} {cs : Array Value} {f : MFunc} (hf : rFunc.rv h cs.toList f) :
    ACalls Try.prog F_lateenlaw09_FlowGraphs [.agg cs] h (fun v h' => v = .bool true ∧ Old h h') := by
  refine lateenlaw09_FlowGraphs_of ?_
  unfold lateenlaw09_FlowGraphs
  refine new_rv hf fun p h1 o1 hp => ?_
  intro k hk
  refine awake_calls.mono ?_
  rintro v h2 ⟨rfl, o2⟩
  refine ⟨_, rfl, ifB_false rfl ?_⟩
  have out : ∀ h', Old h1 h' → k true h' := fun h' o => hk _ _ fun _ => ifB_true rfl (awake_end (o1.trans o))
  refine ld_agg hp o2.ext rfl fun cs2 hcs2 => ?_
  refine (refFew_calls (rFunc.ext hcs2 o2.ext)).mono ?_
  rintro v h3 ⟨b, rfl, o3, hfew⟩
  refine ⟨_, rfl, ?_⟩
  have o13 := o2.trans o3
  cases b with
  | false => exact ifB_true rfl (out _ o13)
  | true =>
    have few := hfew rfl
    refine ifB_false rfl ?_
    refine ld_agg hp o13.ext rfl fun cs3 hcs3 => ?_
    refine (refRight_weak (rFunc.ext hcs3 o13.ext) (by have := few.blocks; omega)).mono ?_
    rintro v h4 ⟨b, rfl, o4, hright⟩
    refine ⟨_, rfl, ?_⟩
    have o14 := o13.trans o4
    cases b with
    | false => exact out _ o14
    | true =>
      have hpl := hright rfl
      refine hk _ _ fun _ => ifB_false rfl ?_
      have hn : f.blocks.length ≤ 1000 := by have := few.blocks; omega
      have hto : ∀ b ∈ f.blocks, b.term.to.length ≤ 1000 := fun b hb => by have := few.to b hb; omega
      refine ld_agg hp o14.ext rfl fun cs4 hcs4 => ?_
      refine (flowOf_calls (rFunc.ext hcs4 o14.ext) hn hto).mono ?_
      rintro v h5 ⟨r1, rfl, T1⟩
      refine ⟨_, rfl, T1.old.ext, ?_⟩
      refine ld_agg hp o14.ext rfl fun cs5 hcs5 => ?_
      refine (refOf_calls (rFunc.ext hcs5 (o14.trans T1.old).ext) hn hto).mono ?_
      rintro v h6 ⟨r2, rfl, T2⟩
      refine ⟨_, rfl, T2.old.ext, ?_⟩
      have S := T1.frame T2
      refine (sameLists_calls S.swap.rd S.rd).mono ?_
      rintro v h7 ⟨rfl, rfl⟩
      refine ⟨_, rfl, hExt.refl _, by rw [graph_same hpl]; simp, (o1.trans o14).trans S.old⟩

end Go.Proofs.Ythdidcnpiaeleaa
