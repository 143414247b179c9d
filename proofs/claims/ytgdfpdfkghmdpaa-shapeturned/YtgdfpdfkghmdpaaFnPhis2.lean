/-
  shape.phi, shape.Phis.
-/
import Derived.Test.YtgdfpdfkghmdpaaFnPhis
import Derived.Test.YtgdfpdfkghmdpaaFwMap3
namespace Go.Proofs.Ytgdfpdfkghmdpaa
open Go.Fw Go.Pl Go.Pl.Api

structure PhiP (x : MPhi) (l : List ByteArray) : Prop where
  len : x.ins.length = l.length
  mem : ∀ i ∈ x.ins, i.block ∈ l
  dis : (x.ins.map fun i => i.block).Pairwise (· ≠ ·)

theorem phi_calls {h : Heap} {cs : Array Value} {x : MPhi} (hx : rPhi.rv h cs.toList x) {s : Sl} {l : List ByteArray} (hl : rdSl eStr h s l) :
    ACalls Try.prog F_shape_phi [.agg cs, s.v] h (fun v h' => ∃ b, v = .bool b ∧ Old h h' ∧ (b = true ↔ PhiP x l)) := by
  refine shape_phi_of ?_
  unfold shape_phi
  refine new_rv hx fun p h1 o1 hp => ?_
  have hl1 := hl.old o1
  have hll := hl1.lenEq
  have hlb := hl1.bound
  refine ld_lst (fld_ins.rd hp) (hExt.refl _) fun x1 hx1 => ?_
  have hx1l := hx1.lenEq
  have no : ∀ h', Old h1 h' → ¬ PhiP x l → ∃ b, (Value.bool false) = .bool b ∧ Old h h' ∧ (b = true ↔ PhiP x l) := fun h' o hr => ⟨false, rfl, o1.trans o, fun h => (by cases h), fun h => absurd h hr⟩
  refine ifB_intro (fun hc => no _ (.refl _) fun r => ?_) (fun hc => ?_)
  · rw [hx1l, hll, r.len] at hc; simp at hc
  have hlen : x.ins.length = l.length := by
    have : (x1.len : Int) = s.len := by simpa using hc
    omega
  refine mkm_rule (vf := vfB) (Sep.start h1) fun m h2 _ S => ?_
  refine loop_intro (fun q t h' => ∃ (j : Nat) (kl : List (ByteArray × Bool)), t = j ∧ j ≤ l.length ∧ q = l.length - j ∧ Once kl ∧ (∀ k, (k ∈ l.take j → aget k kl = some true) ∧ (k ∉ l.take j → aget k kl = none)) ∧ Sep h1 h' [ownM vfB m kl]) l.length
    ⟨0, [], rfl, by omega, by omega, List.Pairwise.nil, (fun k => ⟨by simp, fun _ => rfl⟩), S⟩ ?_
  clear S
  rintro q _ t h3 ⟨j, kl, rfl, hj, rfl, honce, hkl, S⟩
  refine ifB_intro (fun hc => ?_) (fun hc => ?_)
  · have hjl : j < l.length := by rw [hll] at hc; simpa using hc
    refine idx_rdN hl1 rfl hjl fun p1 _ hp1 => ld_oneB hp1 S.old ?_
    refine mup_rule S (x := true) rfl fun h4 S4 => ?_
    refine ar_i64 (by omega) (by omega) ⟨l.length - (j + 1), by omega, j + 1, _, rfl, by omega, rfl, once_put honce, fun k => ?_, S4⟩
    rw [aget_put, List.take_succ_eq_append_getElem hjl]
    by_cases e : k = l[j]
    · rw [if_pos e]
      exact ⟨fun _ => rfl, fun hn => absurd (List.mem_append.2 (.inr (by rw [e]; exact List.mem_singleton.2 rfl))) hn⟩
    · rw [if_neg e]
      refine ⟨fun hk => (hkl k).1 ?_, fun hk => (hkl k).2 fun h => hk (List.mem_append.2 (.inl h))⟩
      rcases List.mem_append.1 hk with hk | hk
      · exact hk
      · simp at hk; exact absurd hk e
  · have hjl : l.length ≤ j := by rw [hll] at hc; simpa using hc
    rw [List.take_of_length_le hjl] at hkl
    refine ld_lst (fld_ins.rd hp) S.old.ext fun x3 hx3 => ?_
    have hx3l := hx3.lenEq
    have hx3b := hx3.bound
    refine loop_intro (fun q t h' => ∃ (j : Nat) (kl : List (ByteArray × Bool)), t = j ∧ j ≤ x.ins.length ∧ q = x.ins.length - j ∧ Once kl ∧ (∀ k, (k ∈ l → (k ∉ (x.ins.take j).map fun i => i.block) → aget k kl = some true) ∧ (k ∉ l → aget k kl = none) ∧ ((k ∈ (x.ins.take j).map fun i => i.block) → aget k kl = none)) ∧
        (∀ i ∈ x.ins.take j, i.block ∈ l) ∧ ((x.ins.take j).map fun i => i.block).Pairwise (· ≠ ·) ∧ Sep h1 h' [ownM vfB m kl]) x.ins.length
      ⟨0, kl, rfl, by omega, by omega, honce, (fun k => ⟨fun h _ => (hkl k).1 h, (hkl k).2, by simp⟩), by simp, by simp, S⟩ ?_
    clear S honce hkl
    rintro q _ t h5 ⟨j, kl, rfl, hj, rfl, honce, hkl, hmem, hdis, S⟩
    refine ifB_intro (fun hc => ?_) (fun hc => ?_)
    · have hjl : j < x.ins.length := by rw [hx3l] at hc; simpa using hc
      refine idx_rdN hx3 rfl hjl fun p2 _ hp2 => ?_
      refine ld_agg hp2 S.old.ext rfl fun cs4 hcs4 => ?_
      refine new_stB S hcs4 rfl rfl fun p3 h7 S7 => ?_
      refine ld_strX (fld_inblock.bx S7.bx) ?_
      refine mlk_rule S7.swap.rdM ?_
      have hmj : x.ins[j].block ∈ x.ins.map fun i => i.block := List.mem_map.2 ⟨_, List.getElem_mem hjl, rfl⟩
      have htk : x.ins.take (j + 1) = x.ins.take j ++ [x.ins[j]] := List.take_succ_eq_append_getElem hjl
      by_cases hin : x.ins[j].block ∈ l
      · by_cases hold : x.ins[j].block ∈ (x.ins.take j).map fun i => i.block
        · rw [(hkl _).2.2 hold]
          refine ⟨false, rfl, ifB_true rfl (no _ S7.old fun r => ?_)⟩
          obtain ⟨z, hz1, hz2⟩ := List.getElem_of_mem hold
          simp only [List.length_map, List.length_take] at hz1
          simp only [List.getElem_map, List.getElem_take] at hz2
          have := List.pairwise_iff_getElem.1 r.dis z j (by simp; omega) (by simpa using hjl) (by omega)
          simp only [List.getElem_map] at this
          exact this hz2
        · rw [(hkl _).1 hin hold]
          refine ⟨true, rfl, ifB_false rfl ?_⟩
          refine ld_strX (fld_inblock.bx S7.bx) ?_
          refine mdl_rule S7.swap fun h8 S8 => ?_
          refine ar_i64 (by omega) (by omega) ⟨x.ins.length - (j + 1), by omega, j + 1, _, rfl, by omega, rfl, once_del honce, fun k => ?_, ?_, ?_, S8.swap.drop⟩
          · rw [aget_del _ _ honce, htk, List.map_append]
            by_cases e : k = x.ins[j].block
            · rw [if_pos e]
              exact ⟨fun _ hn => absurd (List.mem_append.2 (.inr (by simp [e]))) hn, fun _ => rfl, fun _ => rfl⟩
            · rw [if_neg e]
              refine ⟨fun h1 h2 => (hkl k).1 h1 fun h => h2 (List.mem_append.2 (.inl h)), (hkl k).2.1, fun h1 => (hkl k).2.2 ?_⟩
              rcases List.mem_append.1 h1 with h1 | h1
              · exact h1
              · simp at h1; exact absurd h1 e
          · rw [htk]
            intro i hi
            rcases List.mem_append.1 hi with hi | hi
            · exact hmem i hi
            · simp at hi; subst hi; exact hin
          · rw [htk, List.map_append]
            refine List.pairwise_append.2 ⟨hdis, by simp, fun a ha b hb e => ?_⟩
            simp at hb; subst hb; subst e; exact hold ha
      · rw [(hkl _).2.1 hin]
        exact ⟨false, rfl, ifB_true rfl (no _ S7.old fun r => hin (r.mem _ (List.getElem_mem hjl)))⟩
    · have hjl : x.ins.length ≤ j := by rw [hx3l] at hc; simpa using hc
      rw [List.take_of_length_le hjl] at hmem hdis
      exact ⟨true, rfl, o1.trans S.old, fun _ => ⟨hlen, hmem, hdis⟩, fun _ => rfl⟩

end Go.Proofs.Ytgdfpdfkghmdpaa
