/-
  shape.come, shape.Right.
-/
import Derived.Test.YtgdfpdfkghmdpaaFnShape2
namespace Go.Proofs.Ytgdfpdfkghmdpaa
open Go.Fw Go.Pl Go.Pl.Api

theorem shCome_calls {h : Heap} {cs : Array Value} {f : MFunc} (hf : rFunc.rv h cs.toList f) (hn : f.blocks.length ≤ 1000) (hpos : 0 < f.blocks.length) {m : Option Nat} {l : List (ByteArray × Int)} (hm : rdM vfI h m l) (hget : ∀ k, aget k l = (place f k).map fun (n : Nat) => (n : Int)) :
    ACalls Try.prog F_shape_come [.agg cs, .map m] h (fun v h' => ∃ s : Sl, v = s.v ∧ Sep h h' [ownSl si_Lbool eBool s (comeOf (graphF f))]) := by
  refine shape_come_of ?_
  unfold shape_come
  refine new_rv hf fun p h1 o1 hp => ?_
  have hb := fld_blocks.rd hp
  have hm1 := hm.old o1
  refine ld_lst hb (hExt.refl _) fun x hx => ?_
  have hxl := hx.lenEq
  refine ⟨rfl, ?_⟩
  refine mk_rule (x := false) (E := eBool) (Sep.start h1) rfl (fun h => own_bool false h) (by omega) (by omega) (by simp only [si_Lbool]; omega) fun s h2 S => ?_
  rw [hxl, Int.toNat_natCast] at S
  have hgl := graphF_len f
  have hrep : ∀ i, (List.replicate f.blocks.length false).getD i false = false := fun i => by
    simp [List.getD_eq_getElem?_getD, List.getElem?_replicate]; split <;> rfl
  have h0 : 0 < (List.replicate f.blocks.length false).length := by simpa using hpos
  refine idx_rdN S.rd rfl h0 fun p1 hat _ => ?_
  refine st_flat S (x := true) (own_bool true) hat rfl h0 fun h3 S3 => ?_
  clear S
  have S3' := S3.rowNil (E := eInt)
  refine bld_rule (l := [(0 : Int)]) (us := [.int .i64 0]) ((S3.free (A := ownRow eInt [.int .i64 0] [(0 : Int)]) loc_ownRow (Row.of_cells [0]))) (by kernel_rfl) rfl rfl (by decide) (by decide) fun s1 h4 S4 => ?_
  clear S3' S3
  refine loop_intro (fun q t h' => ∃ (M : List Bool) (st : List Nat), M.length = f.blocks.length ∧ q = 2 * open' M + st.length ∧ st.length + open' M ≤ f.blocks.length ∧ (∀ k, M.getD k false = true → Rch (graphF f) k) ∧ M.getD 0 false = true ∧ (∀ i ∈ st, M.getD i false = true) ∧
      (∀ i, M.getD i false = true → i ∉ st → ∀ k : Nat, k < f.blocks.length → leadsF f i k = true → M.getD k false = true) ∧
      Sep h1 h' [ownSl si_Lint eInt t (st.map fun (k : Nat) => (k : Int)), ownSl si_Lbool eBool s M]) _
    ⟨(List.replicate f.blocks.length false).set 0 true, [0], by simp, rfl, ?_, ?_, ?_, ?_, ?_, S4⟩ ?_
  · have := count_set h0 (by simp)
    have h5 : open' (List.replicate f.blocks.length false) = f.blocks.length := by unfold open'; simp
    simp only [List.length_singleton]
    omega
  · intro k hk
    rw [getD_set h0, hrep] at hk
    split at hk
    · rename_i e; subst e; exact .zero (by omega)
    · cases hk
  · rw [getD_set h0]; simp
  · intro i hi
    simp at hi; subst hi
    rw [getD_set h0]; simp
  · intro i hi hns
    rw [getD_set h0, hrep] at hi
    split at hi
    · rename_i e; subst e; simp at hns
    · cases hi
  clear S4
  rintro q _ t h5 ⟨M, st, hM, rfl, hroom, hs, hz, hst, hcl, S⟩
  have htl := S.rd.lenEq
  rw [List.length_map] at htl
  have hslen := S.swap.rd.lenEq
  refine ifB_intro (fun hc => ?_) (fun hc => ?_)
  · have hstp : 0 < st.length := by rw [htl] at hc; have := of_decide_eq_true hc; omega
    obtain ⟨st', b, rfl⟩ : ∃ st' b, st = st' ++ [b] := ⟨st.dropLast, st.getLast (List.ne_nil_of_length_pos hstp), (List.dropLast_concat_getLast _).symm⟩
    simp only [List.length_append, List.length_singleton] at htl hroom
    have hbM := hst b (by simp)
    have hbr := hs b hbM
    have hbn : b < f.blocks.length := by have := hbr.lt; omega
    refine ld_lst hb S.old.ext fun x1 hx1 => ?_
    refine ar_i64 (by omega) (by omega) ?_
    rw [htl, show ((st'.length + 1 : Nat) : Int) - 1 = (st'.length : Int) by omega]
    refine idx_rdN S.rd rfl (i := st'.length) (by simp) fun p2 _ hp2 => ld_one hp2 ?_
    have e1 : ((st' ++ [b]).map fun (k : Nat) => (k : Int))[st'.length]'(by simp) = (b : Int) := by simp
    rw [e1]
    refine idx_rdN hx1 rfl hbn fun p3 _ hp3 => ?_
    refine ld_agg hp3 S.old.ext rfl fun cs3 hcs3 => ?_
    refine new_stX hcs3 S.old.ext rfl rfl fun p4 h7 o7 hp4 => ?_
    have S7 := S.grow o7
    refine ar_i64 (by omega) (by omega) ?_
    refine slc_to S7 (by omega) (by simp; omega) fun s2 S8 => ?_
    rw [Int.toNat_natCast] at S8
    have e2 : ((st' ++ [b]).map fun (k : Nat) => (k : Int)).take st'.length = st'.map fun (k : Nat) => (k : Int) := by
      rw [← List.map_take, List.take_left]
    rw [e2] at S8
    refine ld_lstX (bx_two hp4.1 ((Fld.trans fld_term fld_to rfl).bx hp4)) fun x4 hx4 => ?_
    have hx4l := hx4.lenEq
    have hx4b := hx4.bound
    refine loop_intro (fun q t h' => ∃ (j : Nat) (N : List Bool) (su : List Nat), t.2 = j ∧ j ≤ f.blocks[b].term.to.length ∧ q = f.blocks[b].term.to.length - j ∧ N.length = f.blocks.length ∧ su.length + 2 * open' N ≤ st'.length + 2 * open' M ∧ su.length + open' N ≤ st'.length + open' M ∧ (∀ k, N.getD k false = true → Rch (graphF f) k) ∧ N.getD 0 false = true ∧ (∀ i ∈ su, N.getD i false = true) ∧
        (∀ i, N.getD i false = true → i ∉ su → i ≠ b → ∀ k : Nat, k < f.blocks.length → leadsF f i k = true → N.getD k false = true) ∧ (∀ t ∈ f.blocks[b].term.to.take j, ∀ k, place f t = some k → N.getD k false = true) ∧
        Sep h1 h' [ownSl si_Lint eInt t.1 (su.map fun (k : Nat) => (k : Int)), ownSl si_Lbool eBool s N]) f.blocks[b].term.to.length
      ⟨0, M, st', rfl, by omega, by omega, hM, by omega, by omega, hs, hz, (fun i hi => hst i (by simp [hi])), (fun i hi hns hne k hk hl => hcl i hi (by simp [hns, hne]) k hk hl), by simp, S8⟩ ?_
    clear S S7 S8
    rintro q _ ⟨todo, j⟩ h8 ⟨j, N, su, hj0, hj, rfl, hN, hm1', hm2', hsN, hzN, hsu, hclN, hdone, S⟩
    simp only at hj0 S ⊢
    subst hj0
    refine ifB_intro (fun hc => ?_) (fun hc => ?_)
    · have hjl : j < f.blocks[b].term.to.length := by rw [hx4l] at hc; simpa using hc
      have htk : f.blocks[b].term.to.take (j + 1) = f.blocks[b].term.to.take j ++ [f.blocks[b].term.to[j]] := List.take_succ_eq_append_getElem hjl
      intro k hk
      refine idx_rdN hx4 rfl hjl fun p5 _ hp5 => ?_
      refine ld_str hp5 S.old.ext ?_
      refine mlk_rule (hm1.old S.old) ?_
      rw [hget]
      have same : N.getD ((place f f.blocks[b].term.to[j]).getD 0) false = true → k todo h8 := fun hyes =>
        hk _ _ fun _ => ar_i64 (by omega) (by omega) ⟨f.blocks[b].term.to.length - (j + 1), by omega, j + 1, N, su, rfl, by omega, rfl, hN, hm1', hm2', hsN, hzN, hsu, hclN, (fun t ht k' hk' => by
          rw [htk] at ht
          rcases List.mem_append.1 ht with ht | ht
          · exact hdone t ht k' hk'
          · simp at ht; subst ht; rw [hk'] at hyes; exact hyes), S⟩
      cases hpt : place f f.blocks[b].term.to[j] with
      | none =>
        refine ⟨0, rfl, ?_⟩
        have h0N : 0 < N.length := by omega
        refine idx_rd S.swap.rd rfl (i := (0 : Int)) (by omega) (by omega) fun p6 _ hp6 => ld_one hp6 ?_
        refine ifB_false ?_ (same (by rw [hpt]; exact hzN))
        have : N[0] = true := by rw [← getD_lt (d := false) h0N]; exact hzN
        simpa using this
      | some n =>
        refine ⟨(n : Int), rfl, ?_⟩
        have hnn := place_lt hpt
        have hnN : n < N.length := by omega
        refine idx_rdN S.swap.rd rfl hnN fun p6 _ hp6 => ld_one hp6 ?_
        refine ifB_intro (fun hno => ?_) (fun hyes => same (by rw [hpt]; show N.getD n false = true; rw [getD_lt hnN]; simpa using hyes))
        have hfalse : N[n] = false := by simpa using hno
        have hcs := count_set hnN hfalse
        refine idx_rdN S.swap.rd rfl hnN fun p7 hat7 _ => ?_
        refine st_flat S.swap (x := true) (own_bool true) hat7 rfl hnN fun h10 S10 => ?_
        refine app1_flat (x := (n : Int)) S10.swap (fun _ => ⟨rfl, rfl⟩) rfl (by decide) (by simp only [si_Lint, List.length_map]; omega) (by simp only [List.length_map]; omega) fun s4 h12 S12 => ?_
        have hlead : leadsF f b n = true := by
          unfold leadsF
          rw [List.getElem?_eq_getElem hbn]
          simp only [Option.map_some, Option.getD_some]
          exact List.any_eq_true.2 ⟨_, List.getElem_mem hjl, by rw [hpt]; simp⟩
        have grow : ∀ i, N.getD i false = true → (N.set n true).getD i false = true := fun i hi => by
          rw [getD_set hnN]; split
          · rfl
          · exact hi
        refine hk _ _ fun _ => ar_i64 (by omega) (by omega) ⟨f.blocks[b].term.to.length - (j + 1), by omega, j + 1, N.set n true, su ++ [n], rfl, by omega, rfl, by simpa using hN, by simp only [List.length_append, List.length_singleton]; omega, by simp only [List.length_append, List.length_singleton]; omega, ?_, grow 0 hzN, ?_, ?_, ?_, S12.cast ?_⟩
        · intro z hzz
          rw [getD_set hnN] at hzz
          split at hzz
          · rename_i e; subst e; exact .step hbr (by rw [← leadsF_eq]; exact hlead) (by omega)
          · exact hsN z hzz
        · intro i hi
          rcases List.mem_append.1 hi with hi | hi
          · exact grow i (hsu i hi)
          · simp at hi; subst hi; rw [getD_set hnN]; simp
        · intro i hi hns hne z hz1 hz2
          have hns' : i ∉ su := fun h => hns (List.mem_append.2 (.inl h))
          have hni : ¬ n = i := fun e => hns (List.mem_append.2 (.inr (by simp [e])))
          rw [getD_set hnN, if_neg hni] at hi
          exact grow z (hclN i hi hns' hne z hz1 hz2)
        · intro t ht z hz1
          rw [htk] at ht
          rcases List.mem_append.1 ht with ht | ht
          · exact grow z (hdone t ht z hz1)
          · simp at ht; subst ht
            rw [hpt] at hz1; injection hz1 with hz1; subst hz1
            rw [getD_set hnN]; simp
        · simp
    · have hjl : f.blocks[b].term.to.length ≤ j := by rw [hx4l] at hc; simpa using hc
      rw [List.take_of_length_le hjl] at hdone
      refine ⟨2 * open' N + su.length, ?_, N, su, hN, rfl, by omega, hsN, hzN, hsu, fun i hi hns z hz1 hz2 => ?_, S⟩
      · simp only [List.length_append, List.length_singleton]; omega
      · by_cases e : i = b
        · subst e
          unfold leadsF at hz2
          rw [List.getElem?_eq_getElem hbn] at hz2
          simp only [Option.map_some, Option.getD_some] at hz2
          obtain ⟨t, ht, hk⟩ := List.any_eq_true.1 hz2
          cases hpt : place f t with
          | none => rw [hpt] at hk; cases hk
          | some n =>
            rw [hpt] at hk
            have : (n : Int) = z := by simpa using hk
            have : n = z := by omega
            subst this
            exact hdone t ht n hpt
        · exact hclN i hi hns e z hz1 hz2
  · have hst0 : st = [] := List.length_eq_zero_iff.1 (by rw [htl] at hc; have := of_decide_eq_false hc; omega)
    subst hst0
    refine ⟨s, rfl, (S.drop.since o1).cast ?_⟩
    congr 2
    refine come_unique (by omega) fun k hk => ⟨hs k, fun hr => ?_⟩
    induction hr with
    | zero _ => exact hz
    | step hi hl hk2 ih => exact hcl _ (ih hi.lt) (by simp) _ (by omega) (by rw [leadsF_eq]; exact hl)

end Go.Proofs.Ytgdfpdfkghmdpaa
