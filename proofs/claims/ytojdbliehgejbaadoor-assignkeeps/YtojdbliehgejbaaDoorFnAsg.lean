/-
  assign: sets.
-/
import Derived.Test.YtojdbliehgejbaaDoorPlAsg
import Derived.Test.YtojdbliehgejbaaDoorLayE
import Derived.Test.YtojdbliehgejbaaDoorFwRange2
import Derived.Shelf.SlMaps.Clone
import Derived.Test.YtojdbliehgejbaaDoorFnRef12
namespace Go.Proofs.YtojdbliehgejbaaDoor
open Go.Fw Go.Pl Go.Pl.Api Go.Pl.Set Go.Pl.Live

theorem clone_calls {h : Heap} {m : Option Nat} {M : MSet} (R : rdG vfB h m M) :
    ACalls Tryd.prog F_maps_Clone [.map m] h (fun v h' => ∃ c, v = .map (some c) ∧ Fw.Sep h h' [ownM vfB (some c) M]) := by
  intro w hw
  obtain ⟨b, es, clock, rfl, hb, he, hst⟩ := R
  have c := AnyW.maps_Clone layClone b es clock w (by rw [hw]; exact hb)
  change Calls Tryd.prog 54 _ _ _ at c
  refine c.mono ?_
  rintro e w' ⟨rfl, rfl⟩
  refine ⟨_, rfl, ⟨rfl, rfl, rfl⟩, w.heap.size, rfl, ?_⟩
  have e2 : (w.alloc (.map es clock)).heap = h.push (.map es clock) := by rw [← hw]; rfl
  rw [e2, hw]
  refine Sep.step (M := []) (M' := [ownM vfB (some h.size) M]) (Fw.Sep.start h) (fun A hA => by rw [List.mem_singleton.1 hA]; exact loc_ownM) ?_
  rintro f rfl _ _
  refine ⟨[h.size], ⟨[h.size], [], rfl, ⟨h.size, es, clock, rfl, Array.getElem?_push_size, he, hst, rfl⟩, rfl⟩, by simp, by simp, fun b hb _ => (Old.push h _).block b hb, fun b hb => ?_⟩
  simp at hb
  subst hb
  simp

theorem params_calls {h : Heap} {cs : Array Value} {f : MFunc} (hf : rFunc.rv h cs.toList f) :
    ACalls Tryd.prog F_assign_params [.agg cs] h (fun v h' => ∃ b M, v = .map (some b) ∧ IsSet M (parV f) ∧ Fw.Sep h h' [ownM vfB (some b) M]) := by
  refine assign_params_of ?_
  unfold assign_params
  refine new_rv hf fun p h1 o1 hp => ?_
  refine mkm_rule (vf := vfB) (Fw.Sep.start h1) fun m h2 o2 S2 => ?_
  obtain ⟨_, m, _, _, rfl, _⟩ := S2.get
  refine ld_lst (fld_fParams.rd hp) o2.ext fun la hla => ?_
  have hlal := hla.lenEq
  have hlab := hla.bound
  refine loop_intro (fun n (q : Int) h' => ∃ i : Nat, q = i ∧ i ≤ f.params.length ∧ n = f.params.length - i ∧ hExt h1 h' ∧ ∃ M, IsSet M (fun v => ∃ p ∈ f.params.take i, p.name = v) ∧ Fw.Sep h1 h' [ownM vfB (some m) M]) f.params.length
    ⟨0, rfl, by omega, by omega, o2.ext, [], IsSet.nil.iff fun v => by simp, S2⟩ ?_
  clear S2
  rintro _ _ _ h3 ⟨i, rfl, hi, rfl, e3, M, hM, S⟩
  refine ifB_intro (fun hc => ?_) (fun hc => ?_)
  · have hil : i < f.params.length := by rw [hlal] at hc; simpa using hc
    refine idx_rdN hla rfl hil fun p1 _ hp1 => ld_agg hp1 e3 rfl fun c1 hc1 => ?_
    refine new_stX hc1 e3 rfl rfl fun p2 h5 o5 hb2 => ?_
    refine ld_strX (fld_vName.bx hb2) ?_
    refine mup_set (S.grow o5) hM fun h6 M' e6 hM' S6 => ?_
    refine ar_i64 (by omega) (by omega) ⟨f.params.length - (i + 1), by omega, i + 1, rfl, by omega, rfl, ext_tr e3 (ext_tr o5.ext e6), M', hM'.iff fun v => ?_, S6⟩
    rw [take_ex hil]
    exact or_congr eq_comm Iff.rfl
  · have hil : f.params.length ≤ i := by rw [hlal] at hc; simpa using hc
    rw [List.take_of_length_le hil] at hM
    exact ⟨m, M, rfl, hM, S.since o1⟩

theorem setPhis_calls {h : Heap} {s : Option Nat} {M : MSet} {P : VSet} {cb : Array Value} {B : MBlock} (R : rdG vfB h s M) (hM : IsSet M P) (hB : rBlock.rv h cb.toList B) :
    ACalls Tryd.prog F_assign_set_phis [.map s, .agg cb] h (fun v h' => ∃ b M', v = .map (some b) ∧ IsSet M' (fun v => madeV B v ∨ P v) ∧ Fw.Sep h h' [ownM vfB (some b) M']) := by
  refine assign_set_phis_of ?_
  unfold assign_set_phis
  refine new_rv hB fun p h1 o1 hp => ?_
  refine (clone_calls (R.old o1)).mono ?_
  rintro v h2 ⟨m, rfl, S2⟩
  refine ⟨_, rfl, ?_⟩
  have o2 := S2.old
  refine ld_lst (fld_phis.rd hp) o2.ext fun la hla => ?_
  have hlal := hla.lenEq
  have hlab := hla.bound
  refine loop_intro (fun n (q : Int) h' => ∃ i : Nat, q = i ∧ i ≤ B.phis.length ∧ n = B.phis.length - i ∧ hExt h1 h' ∧ ∃ M, IsSet M (fun v => (∃ p ∈ B.phis.take i, p.dst = v) ∨ P v) ∧ Fw.Sep h1 h' [ownM vfB (some m) M]) B.phis.length
    ⟨0, rfl, by omega, by omega, o2.ext, M, hM.iff fun v => by simp, S2⟩ ?_
  clear S2 hM M R
  rintro _ _ _ h3 ⟨i, rfl, hi, rfl, e3, M, hM, S⟩
  refine ifB_intro (fun hc => ?_) (fun hc => ?_)
  · have hil : i < B.phis.length := by rw [hlal] at hc; simpa using hc
    refine idx_rdN hla rfl hil fun p1 _ hp1 => ld_agg hp1 e3 rfl fun c1 hc1 => ?_
    refine new_stX hc1 e3 rfl rfl fun p2 h5 o5 hb2 => ?_
    refine ld_strX (fld_dst.bx hb2) ?_
    refine mup_set (S.grow o5) hM fun h6 M' e6 hM' S6 => ?_
    refine ar_i64 (by omega) (by omega) ⟨B.phis.length - (i + 1), by omega, i + 1, rfl, by omega, rfl, ext_tr e3 (ext_tr o5.ext e6), M', hM'.iff fun v => ?_, S6⟩
    rw [take_ex hil, or_assoc]
    exact or_congr eq_comm Iff.rfl
  · have hil : B.phis.length ≤ i := by rw [hlal] at hc; simpa using hc
    rw [List.take_of_length_le hil] at hM
    exact ⟨m, M, rfl, hM, S.since o1⟩

theorem codeV_take {l : List MInstr} {i : Nat} (hi : i < l.length) {v : ByteArray} : codeV (l.take (i + 1)) v ↔ ((v ≠ nmE ∧ l[i].dst = v) ∨ codeV (l.take i) v) := by
  unfold codeV
  rw [take_ex hi, and_or_left]

theorem setOver_calls {h : Heap} {s : Option Nat} {M : MSet} {P : VSet} {cb : Array Value} {B : MBlock} (R : rdG vfB h s M) (hM : IsSet M P) (hB : rBlock.rv h cb.toList B) :
    ACalls Tryd.prog F_assign_set_over [.map s, .agg cb] h (fun v h' => ∃ b M', v = .map (some b) ∧ IsSet M' (fun v => P v ∨ codeV B.code v) ∧ Fw.Sep h h' [ownM vfB (some b) M']) := by
  refine assign_set_over_of ?_
  unfold assign_set_over
  refine new_rv hB fun p h1 o1 hp => ?_
  refine (clone_calls (R.old o1)).mono ?_
  rintro v h2 ⟨m, rfl, S2⟩
  refine ⟨_, rfl, ?_⟩
  have o2 := S2.old
  refine ld_lst (fld_code.rd hp) o2.ext fun la hla => ?_
  have hlal := hla.lenEq
  have hlab := hla.bound
  refine loop_intro (fun n (q : Int) h' => ∃ i : Nat, q = i ∧ i ≤ B.code.length ∧ n = B.code.length - i ∧ hExt h1 h' ∧ ∃ M, IsSet M (fun v => P v ∨ codeV (B.code.take i) v) ∧ Fw.Sep h1 h' [ownM vfB (some m) M]) B.code.length
    ⟨0, rfl, by omega, by omega, o2.ext, M, hM.iff fun v => by simp [codeV], S2⟩ ?_
  clear S2 hM M R
  rintro _ _ _ h3 ⟨i, rfl, hi, rfl, e3, M, hM, S⟩
  refine ifB_intro (fun hc => ?_) (fun hc => ?_)
  · have hil : i < B.code.length := by rw [hlal] at hc; simpa using hc
    intro k hk
    refine idx_rdN hla rfl hil fun p1 _ hp1 => ld_agg hp1 e3 rfl fun c1 hc1 => ?_
    refine new_stX hc1 e3 rfl rfl fun p2 h5 o5 hb2 => ?_
    have next : ∀ h' M', hExt h5 h' → IsSet M' (fun v => P v ∨ codeV (B.code.take (i + 1)) v) → Fw.Sep h1 h' [ownM vfB (some m) M'] → k () h' := fun h' M' e' hM' S' => hk _ _ fun _ =>
      ar_i64 (by omega) (by omega) ⟨B.code.length - (i + 1), by omega, i + 1, rfl, by omega, rfl, ext_tr e3 (ext_tr o5.ext e'), M', hM', S'⟩
    refine ld_strX (fld_iDst.bx hb2) ?_
    rw [toList_beq]
    by_cases e : B.code[i].dst = nmE
    · rw [decide_eq_true e]
      refine ifB_false rfl (next h5 M (hExt.refl _) (hM.iff fun v => ?_) (S.grow o5))
      rw [codeV_take hil]
      refine or_congr Iff.rfl ⟨.inr, fun h => h.elim (fun ⟨h1, h2⟩ => absurd (h2.symm.trans e) h1) id⟩
    · rw [decide_eq_false e]
      refine ifB_true rfl ?_
      refine ld_strX (fld_iDst.bx hb2) ?_
      refine mup_set (S.grow o5) hM fun h6 M' e6 hM' S6 => next h6 M' e6 (hM'.iff fun v => ?_) S6
      rw [codeV_take hil]
      constructor
      · rintro (rfl | h | h)
        · exact .inr (.inl ⟨e, rfl⟩)
        · exact .inl h
        · exact .inr (.inr h)
      · rintro (h | ⟨_, h⟩ | h)
        · exact .inr (.inl h)
        · exact .inl h.symm
        · exact .inr (.inr h)
  · have hil : B.code.length ≤ i := by rw [hlal] at hc; simpa using hc
    rw [List.take_of_length_le hil] at hM
    exact ⟨m, M, rfl, hM, S.since o1⟩

theorem get_set {M : MSet} {P : VSet} (h : IsSet M P) (k : ByteArray) : ∃ y : Bool, ((aget k M).map vfB).getD (.bool false) = .bool y ∧ (y = true ↔ P k) := by
  rcases h.get k with ⟨h1, h2⟩ | ⟨h1, h2⟩
  · exact ⟨true, by rw [h1]; rfl, by simp [h2]⟩
  · exact ⟨false, by rw [h1]; rfl, by simp [h2]⟩

/-- What two sets have in common. -/
theorem meet_calls {h : Heap} {a b : Option Nat} {A B : MSet} {P Q : VSet} (Ra : rdG vfB h a A) (hA : IsSet A P) (Rb : rdG vfB h b B) (hB : IsSet B Q) :
    ACalls Tryd.prog F_assign_meet [.map a, .map b] h (fun v h' => ∃ m M, v = .map (some m) ∧ IsSet M (fun v => P v ∧ Q v) ∧ Fw.Sep h h' [ownM vfB (some m) M]) := by
  refine assign_meet_of ?_
  unfold assign_meet
  obtain ⟨a, _, _, rfl, _⟩ := id Ra
  refine ifB_false rfl ?_
  refine mkm_rule (vf := vfB) (Fw.Sep.start h) fun m h1 o1 S1 => ?_
  obtain ⟨_, m, _, _, rfl, _⟩ := S1.get
  refine rng_read S1 Ra fun r h2 o2 S2 => ?_
  refine loop_intro (fun n (_ : Unit) h' => ∃ V M, n = A.length - V.length ∧ (∀ v ∈ V, v ∈ A.map Prod.fst) ∧ IsSet M (fun v => v ∈ V ∧ Q v) ∧ Fw.Sep h h' [ownG vfB r a h V, ownM vfB (some m) M]) A.length
    ⟨[], [], by simp, by simp, IsSet.nil.iff fun v => by simp, S2⟩ ?_
  clear S1 S2
  rintro _ _ _ h3 ⟨V, M, rfl, hV, hM, S⟩
  refine nxt_read S Ra (fun hall => ?_) fun k x h4 hkx hkV hlt e4 S4 => ?_
  · refine ⟨m, M, rfl, hM.iff fun v => ?_, S.drop⟩
    have : v ∈ V ↔ P v := by
      rw [← hA.mem]
      exact ⟨hV v, fun h => by
        obtain ⟨p, hp, rfl⟩ := List.mem_map.1 h
        exact hall p hp⟩
    rw [this]
  · refine ent_read S4 Ra fun x' _ => ?_
    have o4 := S4.old
    refine mlk_rule (Rb.old o4).rd ?_
    have hlen : (V ++ [k]).length = V.length + 1 := by simp
    have hV' : ∀ v ∈ V ++ [k], v ∈ A.map Prod.fst := fun v hv => by
      rcases List.mem_append.1 hv with h | h
      · exact hV v h
      · simp at h; subst h; exact List.mem_map.2 ⟨_, hkx, rfl⟩
    obtain ⟨y, hy, hyQ⟩ := get_set hB k
    refine ⟨y, hy, ifB_intro (fun hc => ?_) (fun hc => ?_)⟩
    · refine mup_set S4.swap hM fun h5 M' e5 hM' S5 => ⟨A.length - (V.length + 1), by omega, V ++ [k], M', by rw [hlen], hV', hM'.iff fun v => ?_, S5.swap⟩
      have hQ := hyQ.1 hc
      rw [List.mem_append, List.mem_singleton]
      constructor
      · rintro (rfl | ⟨h1, h2⟩)
        · exact ⟨.inr rfl, hQ⟩
        · exact ⟨.inl h1, h2⟩
      · rintro ⟨h1 | rfl, h2⟩
        · exact .inr ⟨h1, h2⟩
        · exact .inl rfl
    · refine ⟨A.length - (V.length + 1), by omega, V ++ [k], M, by rw [hlen], hV', hM.iff fun v => ?_, S4⟩
      have hQ : ¬ Q k := fun h => by rw [hyQ.2 h] at hc; cases hc
      rw [List.mem_append, List.mem_singleton]
      constructor
      · rintro ⟨h1, h2⟩
        exact ⟨.inl h1, h2⟩
      · rintro ⟨h1 | rfl, h2⟩
        · exact ⟨h1, h2⟩
        · exact absurd h2 hQ

end Go.Proofs.YtojdbliehgejbaaDoor

/-
  assign.all.
-/
namespace Go.Proofs.YtojdbliehgejbaaDoor
open Go.Fw Go.Pl Go.Pl.Api Go.Pl.Set Go.Pl.Live

abbrev siA := si_Lassign_set
theorem meet_none {h : Heap} {b : Option Nat} : ACalls Tryd.prog F_assign_meet [.map none, .map b] h (fun v h' => v = .map b ∧ h' = h) := by
  refine assign_meet_of ?_
  unfold assign_meet
  exact ifB_true rfl ⟨rfl, rfl⟩
theorem mln_read {h : Heap} {m : Option Nat} {M : MSet} {K : Int → Prop} (R : rdG vfB h m M) (hK : K M.length) : mln m h K := by
  obtain ⟨b, es, clock, rfl, hb, he, _⟩ := R
  have : es.size = M.length := by have := congrArg List.length he; simpa using this
  exact ⟨es, clock, hb, by rw [this]; exact hK⟩
/-- Which lead to a point. -/
def rowN (f : MFunc) (k : Nat) : List Nat := (List.range (graphF f).length).filter fun p => leadsB (graphF f) p (k : Int)
theorem mem_rowN {f : MFunc} {k p : Nat} : p ∈ rowN f k ↔ leadsB (graphF f) p (k : Int) = true := by
  unfold rowN
  rw [List.mem_filter, List.mem_range, graphF_len]
  exact ⟨fun h => h.2, fun h => ⟨leads_lt h, h⟩⟩
theorem toElN {h0 h : Heap} {L : List As} {b : Nat} {M : MSet} (S : Fw.Sep h0 h (ownM vfB (some b) M :: L)) : Fw.Sep h0 h (ownEl (eMN vfB) [.map (some b)] (some M) :: L) := S.conv loc_ownEl fun f' o => ⟨f', List.Sublist.refl f', b, rfl, o⟩

/-- A block's way in. -/
def InV (f : MFunc) (Os : OMs) (x : Nat) (ps : List Nat) : VSet := fun v => (x = 0 → parV f v) ∧ ∀ p ∈ ps, kn Os p → oV Os p v
theorem InV_all {f : MFunc} {Os : OMs} {x : Nat} {v : ByteArray} : InV f Os x (rowN f x) v ↔ meetV f Os x v := by
  unfold InV meetV
  exact and_congr Iff.rfl ⟨fun h p hp => h p (mem_rowN.2 hp), fun h p hp => h p (mem_rowN.1 hp)⟩
def InS (f : MFunc) (Os : OMs) (x : Nat) (ps : List Nat) (inv : Option Nat) (h : Heap) : Prop :=
  (inv = none ∧ x ≠ 0 ∧ ∀ p ∈ ps, ¬ kn Os p) ∨ (∃ M, rdG vfB h inv M ∧ IsSet M (InV f Os x ps))

theorem fixAll_start {f : MFunc} : AI f (List.replicate f.blocks.length none) (List.replicate f.blocks.length none) := by
  have hno : ∀ k M, (List.replicate f.blocks.length (none : Option MSet))[k]? ≠ some (some M) := fun k M h => by
    have := List.mem_of_getElem? h
    rw [List.mem_replicate] at this
    cases this.2
  have hkn : ∀ k, ¬ kn (List.replicate f.blocks.length none) k := fun k ⟨M, h⟩ => hno k M h
  exact ⟨by simp, by simp, fun k M h => absurd h (hno k M), fun k M h => absurd h (hno k M), fun k => Iff.rfl, fun k b _ h => absurd h (hkn k), fun k v h => absurd h (hkn k), fun k b _ h => absurd h (hkn k), fun k v ⟨M, h, _⟩ => absurd h (hno k M)⟩

def FixAt (f : MFunc) (Is Os : OMs) (k : Nat) : Prop := ∀ b, f.blocks[k]? = some b → kn Is k ∧ ∀ v, oV Is k v → madeV b v ∨ meetV f Os k v

set_option maxHeartbeats 4000000 in
theorem asgAll_calls {h : Heap} {cs : Array Value} {f : MFunc} (hf : rFunc.rv h cs.toList f) (hbl : f.blocks.length ≤ 1000) (hto : ∀ b ∈ f.blocks, b.term.to.length ≤ 1000) (hpos : 0 < f.blocks.length) (hcome : ∀ b ∈ comeOf (graphF f), b = true) :
    ACalls Tryd.prog F_assign_all [.agg cs] h (fun v h' => ∃ s Ms, v = s.v ∧ Ms.length = f.blocks.length ∧ (∀ k (hk : k < Ms.length), IsSet Ms[k] (fun v => ¬ Bare f v k)) ∧ Fw.Sep h h' [ownSl si_Lassign_set (eMS vfB) s Ms]) := by
  refine assign_all_of ?_
  unfold assign_all
  refine new_rv hf fun p h1 o1 hp => ?_
  refine ld_agg hp (hExt.refl _) rfl fun c1 hc1 => ?_
  have hGl := graphF_len f
  refine (flowOf_calls hc1 hbl hto).mono ?_
  rintro v h2 ⟨g, rfl, Sg⟩
  refine ⟨g, rfl, ?_⟩
  have hg := Sg.rd
  refine (preds_calls hg (by omega)).mono ?_
  rintro v h3 ⟨pr, rfl, Sp⟩
  refine ⟨pr, rfl, ?_⟩
  refine (order_calls (hg.old Sp.old) (by omega)).mono ?_
  rintro v h4 ⟨od, rfl, So⟩
  refine ⟨od, rfl, ?_⟩
  have hpr := Sp.rd.old So.old
  have hod := So.rd
  have o14 := (Sg.old.trans Sp.old).trans So.old
  clear Sg Sp So hg hc1
  have hodl := hod.lenEq
  have hodb := hod.bound
  have hsay := order_says (G := graphF f) (by omega)
  refine ld_lst (fld_blocks.rd hp) o14.ext fun la hla => ?_
  rw [hla.lenEq]
  refine ⟨rfl, mk_rule (x := none) (E := eMN vfB) (Fw.Sep.start h4) rfl (fun h => ⟨rfl, rfl⟩) (by omega) (by omega) (by simp only [si_Lassign_set]; omega) fun s h5 S => ?_⟩
  rw [Int.toNat_natCast] at S
  refine ld_lst (fld_blocks.rd hp) (o14.trans S.old).ext fun la2 hla2 => ?_
  rw [hla2.lenEq]
  refine ⟨rfl, mk_rule (x := none) (E := eMN vfB) S rfl (fun h => ⟨rfl, rfl⟩) (by omega) (by omega) (by simp only [si_Lassign_set]; omega) fun s1 h6 S => ?_⟩
  rw [Int.toNat_natCast] at S
  clear hla hla2 la la2
  refine loop_intro (fun m (c : Bool) h' => ∃ Is Os, AI f Is Os ∧ m = 2 * totO (setsN f).length Is + (if c then 1 else 0) ∧ (c = false → ∀ k, FixAt f Is Os k) ∧ Fw.Sep h4 h' [ownSl si_Lassign_set (eMN vfB) s Is, ownSl si_Lassign_set (eMN vfB) s1 Os]) _
    ⟨_, _, fixAll_start, rfl, nofun, S.swap⟩ ?_
  clear S
  rintro _ _ c h7 ⟨Is, Os, A, rfl, hfix, S⟩
  refine ifB_intro (fun hc => ?_) (fun hc => ?_)
  · subst hc
    refine loop_intro (fun m (q : Bool × Int) h' => ∃ (j : Nat) (Is' Os' : OMs), q.2 = j ∧ j ≤ (orderOf (graphF f)).length ∧ m = (orderOf (graphF f)).length - j ∧ AI f Is' Os' ∧ totO (setsN f).length Is' ≤ totO (setsN f).length Is ∧ (q.1 = true → totO (setsN f).length Is' < totO (setsN f).length Is) ∧
        (∀ k : Nat, (k : Int) ∈ (orderOf (graphF f)).take j → kn Is' k) ∧ (q.1 = false → ∀ k : Nat, (k : Int) ∈ (orderOf (graphF f)).take j → FixAt f Is' Os' k) ∧
        Fw.Sep h4 h' [ownSl si_Lassign_set (eMN vfB) s Is', ownSl si_Lassign_set (eMN vfB) s1 Os']) (orderOf (graphF f)).length
      ⟨0, Is, Os, rfl, by omega, by omega, A, Nat.le_refl _, nofun, by simp, by simp, S⟩ ?_
    clear S
    rintro _ _ ⟨c', q⟩ h8 ⟨j, Is', Os', hq, hj, rfl, A', hle, hlt, hkn, hfx, S⟩
    simp only at hq hlt hfx ⊢
    subst hq
    refine ifB_intro (fun hc => ?_) (fun hc => ?_)
    · have hjl : j < (orderOf (graphF f)).length := by rw [hodl] at hc; simpa using hc
      obtain ⟨x, hx, hxn, _, h0, hl⟩ := hsay j hjl
      have hxb : x < f.blocks.length := by omega
      have hB : f.blocks[x]? = some f.blocks[x] := List.getElem?_eq_getElem hxb
      have hreach : x = 0 ∨ ∃ p : Nat, leadsB (graphF f) p (x : Int) = true ∧ kn Os' p := by
        rcases Nat.eq_zero_or_pos j with e | e
        · exact .inl (h0 e)
        · obtain ⟨y, hy, hly⟩ := List.any_eq_true.1 (hl e)
          obtain ⟨i, hi, hyi⟩ := List.getElem_of_mem hy
          rw [List.getElem_take] at hyi
          rw [List.length_take] at hi
          obtain ⟨z, hz, _⟩ := hsay i (by omega)
          rw [hz] at hyi
          subst hyi
          exact .inr ⟨z, by simpa using hly, (A'.both z).1 (hkn z hy)⟩
      refine idx_rdN (hod.old S.old) rfl hjl fun p1 _ hp1 => ld_one (k := .int .i64) (x := (x : Int)) (by rw [← hx]; exact hp1) ?_
      have o18 := o14.trans S.old
      have hxs : ∀ k : Nat, (k : Int) ∈ (orderOf (graphF f)).take (j + 1) ↔ (k = x ∨ (k : Int) ∈ (orderOf (graphF f)).take j) := fun k => by
        rw [List.take_succ_eq_append_getElem hjl, List.mem_append, List.mem_singleton, hx, or_comm]
        exact or_congr ⟨fun h => by omega, fun h => by omega⟩ Iff.rfl
      intro k hk
      have main : ∀ inv h9, Old h8 h9 → InS f Os' x [] inv h9 → k inv h9 := fun inv h9 o9 hin => hk _ _ fun _ => by
        have S9 := S.grow o9
        have hrowl : x < (predsOf (graphF f)).length := by rw [predsOf_len]; omega
        have hrow : (predsOf (graphF f))[x] = (rowN f x).map fun (k : Nat) => (k : Int) := by
          have := predsOf_row (G := graphF f) (b := x) (by omega)
          rw [getD_lt hrowl] at this
          exact this
        refine idx_rdN (hpr.old S9.old) rfl hrowl fun p2 _ hp2 => ld_slB hp2 (.refl _) fun x4 hx4 => ?_
        rw [hrow] at hx4
        have hx4l := hx4.lenEq
        have hx4b := hx4.bound
        rw [List.length_map] at hx4l hx4b
        refine loop_intro (fun m (t : Option Nat × Int) h' => ∃ (i : Nat), t.2 = i ∧ i ≤ (rowN f x).length ∧ m = (rowN f x).length - i ∧ Old h9 h' ∧ InS f Os' x ((rowN f x).take i) t.1 h') (rowN f x).length
          ⟨0, rfl, by omega, by omega, .refl _, hin⟩ ?_
        rintro _ _ ⟨inv, _⟩ h10 ⟨i, hq, hi, rfl, o10, hin⟩
        simp only at hq hin ⊢
        subst hq
        have S10 := S9.grow o10
        refine ifB_intro (fun hc => ?_) (fun hc => ?_)
        · have hil : i < (rowN f x).length := by rw [hx4l] at hc; simpa using hc
          intro k1 hk1
          have next : ∀ inv' h', Old h10 h' → InS f Os' x ((rowN f x).take (i + 1)) inv' h' → k1 inv' h' := fun inv' h' o' hin' => hk1 _ _ fun _ =>
            ar_i64 (by omega) (by omega) ⟨(rowN f x).length - (i + 1), by omega, i + 1, rfl, by omega, rfl, o10.trans o', hin'⟩
          refine idx_rdN (hx4.old o10) rfl (by simpa using hil) fun p3 _ hp3 => ld_one (k := .int .i64) (x := (((rowN f x)[i] : Nat) : Int)) (by have h := hp3; rw [List.getElem_map] at h; exact h) ?_
          have hpl : (rowN f x)[i] < Os'.length := by
            have := leads_lt (mem_rowN.1 (List.getElem_mem hil))
            rw [A'.lenO]
            exact this
          generalize hpq : (rowN f x)[i] = pq at hpl ⊢
          have htake : ∀ z, z ∈ (rowN f x).take (i + 1) ↔ (z ∈ (rowN f x).take i ∨ z = pq) := fun z => by
            rw [List.take_succ_eq_append_getElem hil, List.mem_append, List.mem_singleton, hpq]
          have hInV : ∀ v, InV f Os' x ((rowN f x).take (i + 1)) v ↔ (InV f Os' x ((rowN f x).take i) v ∧ (kn Os' pq → oV Os' pq v)) := fun v => by
            unfold InV
            constructor
            · rintro ⟨h1, h2⟩
              exact ⟨⟨h1, fun p hp => h2 p ((htake p).2 (.inl hp))⟩, h2 pq ((htake pq).2 (.inr rfl))⟩
            · rintro ⟨⟨h1, h2⟩, h3⟩
              refine ⟨h1, fun p hp => ?_⟩
              rcases (htake p).1 hp with h | h
              · exact h2 p h
              · subst h; exact h3
          obtain ⟨m, hm, hN⟩ := mapN_rd S10.swap hpl
          refine idx_rdN S10.swap.rd rfl hpl fun p4 hp4 _ => ?_
          refine ld_one (k := .map) (x := m) (hm p4 hp4) ?_
          cases hO : Os'[pq] with
          | none =>
            rw [hO] at hN
            simp only at hN
            subst hN
            have hnk : ¬ kn Os' pq := fun ⟨M, hM⟩ => by
              rw [List.getElem?_eq_getElem hpl, hO] at hM
              cases hM
            refine ifB_false rfl (next inv h10 (.refl _) ?_)
            rcases hin with ⟨h1, h2, h3⟩ | ⟨M, h1, h2⟩
            · refine .inl ⟨h1, h2, fun z hz => ?_⟩
              rcases (htake z).1 hz with h | h
              · exact h3 z h
              · subst h; exact hnk
            · exact .inr ⟨M, h1, h2.iff fun v => by rw [hInV]; exact ⟨fun h => ⟨h, fun h => absurd h hnk⟩, fun h => h.1⟩⟩
          | some Mo =>
            rw [hO] at hN
            simp only at hN
            have hMo : Os'[pq]? = some (some Mo) := by rw [List.getElem?_eq_getElem hpl, hO]
            have hMs := oV_is hMo (A'.goodO pq Mo hMo)
            obtain ⟨bm, _, _, rfl, _⟩ := id hN
            refine ifB_true rfl ?_
            refine idx_rdN S10.swap.rd rfl hpl fun p5 hp5 _ => ?_
            refine ld_one (k := .map) (x := some bm) (hm p5 hp5) ?_
            rcases hin with ⟨rfl, h2, h3⟩ | ⟨M, h1, h2⟩
            · refine meet_none.mono ?_
              rintro v h12 ⟨rfl, rfl⟩
              refine ⟨some bm, rfl, next _ _ (.refl _) (.inr ⟨Mo, hN, hMs.iff fun v => ?_⟩)⟩
              rw [hInV]
              unfold InV
              exact ⟨fun h => ⟨⟨fun e => absurd e h2, fun p hp hk => absurd hk (h3 p hp)⟩, fun _ => h⟩, fun h => h.2 ⟨Mo, hMo⟩⟩
            · refine (meet_calls h1 h2 hN hMs).mono ?_
              rintro v h12 ⟨mm, MM, rfl, hMM, S12⟩
              refine ⟨some mm, rfl, next _ _ S12.old (.inr ⟨MM, S12.rdG, hMM.iff fun v => ?_⟩)⟩
              rw [hInV]
              exact and_congr Iff.rfl ⟨fun h _ => h, fun h => h ⟨Mo, hMo⟩⟩
        · have hil : (rowN f x).length ≤ i := by rw [hx4l] at hc; simpa using hc
          rw [List.take_of_length_le hil] at hin
          intro k2 hk2
          rcases hin with ⟨_, h2, h3⟩ | ⟨M, hR, hM⟩
          · rcases hreach with e | ⟨p, hp, hk⟩
            · exact absurd e h2
            · exact absurd hk (h3 p (mem_rowN.2 hp))
          have hM : IsSet M (meetV f Os' x) := hM.iff fun v => InV_all
          obtain ⟨binv, _, _, rfl, _⟩ := id hR
          refine ifB_false rfl (hk2 _ _ fun _ => ?_)
          have o1_10 := o18.trans (o9.trans o10)
          refine ld_lst (fld_blocks.rd hp) o1_10.ext fun lb hlb => ?_
          refine idx_rdN hlb rfl hxb fun p6 _ hp6 => ld_agg hp6 o1_10.ext rfl fun c9 hc9 => ?_
          refine (setPhis_calls hR hM (rBlock.ext hc9 o1_10.ext)).mono ?_
          rintro v h14 ⟨b4, M4, rfl, hM4, T14⟩
          refine ⟨some b4, rfl, ?_⟩
          have S14 : Fw.Sep h4 h14 (ownM vfB (some b4) M4 :: [ownSl si_Lassign_set (eMN vfB) s Is', ownSl si_Lassign_set (eMN vfB) s1 Os']) := S10.frame T14
          have o1_14 := o1_10.trans T14.old
          have hxI : x < Is'.length := by rw [A'.lenI]; exact hxb
          have hxO : x < Os'.length := by rw [A'.lenO]; exact hxb
          intro k3 hk3
          have fin : ∀ c2, (c2 = true → c' = true ∨ ∀ M, Is'[x]? = some (some M) → M.length ≠ M4.length) → (c2 = false → c' = false ∧ ∃ M, Is'[x]? = some (some M) ∧ M.length = M4.length) → k3 c2 h14 := fun c2 hc2t hc2f => hk3 _ _ fun _ => by
            refine ld_lst (fld_blocks.rd hp) o1_14.ext fun lb hlb => ?_
            refine idx_rdN hlb rfl hxb fun p7 _ hp7 => ld_agg hp7 o1_14.ext rfl fun c11 hc11 => ?_
            refine (setOver_calls S14.rdG hM4 (rBlock.ext hc11 o1_14.ext)).mono ?_
            rintro v h16 ⟨b5, M5, rfl, hM5, T16⟩
            refine ⟨some b5, rfl, ?_⟩
            have S16 : Fw.Sep h4 h16 (ownM vfB (some b5) M5 :: ownM vfB (some b4) M4 :: [ownSl si_Lassign_set (eMN vfB) s Is', ownSl si_Lassign_set (eMN vfB) s1 Os']) := S14.frame T16
            have S17 := (toElN S16.swap).rot3
            refine idx_rdN S17.rd rfl hxI fun p8 hp8 _ => ?_
            refine st_rule S17 hp8 rfl hxI fun h17 S17 => ?_
            have S18 := (toElN S17.swap).rot3
            refine idx_rdN S18.rd rfl hxO fun p9 hp9 _ => ?_
            refine st_rule S18 hp9 rfl hxO fun h18 S18 => ?_
            obtain ⟨A2, hNsub, hold⟩ := A'.step hB hreach hM4 hM5
            have hlen4 : M4.length ≤ (setsN f).length := set_len hM4 fun v hv => hNsub v ((hM4.mem v).2 hv)
            have htot := totO_set (W := (setsN f).length) (N := some M4) hxI
            have hszN : szO (setsN f).length (some M4) = M4.length := rfl
            have hcase : (Is'[x] = none ∧ szO (setsN f).length Is'[x] = (setsN f).length + 1) ∨ ∃ M, Is'[x]? = some (some M) ∧ szO (setsN f).length Is'[x] = M.length ∧ M4.length ≤ M.length := by
              cases e : Is'[x] with
              | none => exact .inl ⟨rfl, rfl⟩
              | some M =>
                have hM : Is'[x]? = some (some M) := by rw [List.getElem?_eq_getElem hxI, e]
                exact .inr ⟨M, hM, rfl, (hold M hM).1⟩
            have hle2 : totO (setsN f).length (Is'.set x (some M4)) ≤ totO (setsN f).length Is' := by
              rcases hcase with ⟨_, h⟩ | ⟨M, _, h, h'⟩ <;> omega
            refine ar_i64 (by omega) (by omega) ⟨(orderOf (graphF f)).length - (j + 1), by omega, j + 1, Is'.set x (some M4), Os'.set x (some M5), rfl, by omega, rfl, A2, by omega, fun hg => ?_, fun k hk => ?_, fun hg k hk => ?_, S18.swap⟩
            · rcases hc2t hg with h | h
              · have := hlt h; omega
              · rcases hcase with ⟨_, h'⟩ | ⟨M, hM, h1, h2⟩
                · omega
                · have := h M hM; omega
            · rw [kn_set hxI]
              rcases (hxs k).1 hk with h | h
              · exact .inl h.symm
              · exact .inr (hkn k h)
            · obtain ⟨hcf, M, hMx, hML⟩ := hc2f hg
              obtain ⟨e1, e2, e3⟩ := (hold M hMx).2 (by omega)
              have hmeet : ∀ z v, meetV f (Os'.set x (some M5)) z v ↔ meetV f Os' z v := fun z v => by
                unfold meetV
                refine and_congr Iff.rfl (forall_congr' fun p => imp_congr Iff.rfl ?_)
                rw [e2, e3]
              intro b hb
              rcases (hxs k).1 hk with h | h
              · subst h
                refine ⟨(kn_set hxI).2 (.inl rfl), fun v hv => ?_⟩
                rw [hB] at hb
                injection hb with hb
                subst hb
                rw [hmeet]
                rw [oV_set hxI, if_pos rfl, hM4.mem] at hv
                exact hv
              · obtain ⟨h1, h2⟩ := hfx hcf k h b hb
                refine ⟨(kn_set hxI).2 (.inr h1), fun v hv => ?_⟩
                rw [hmeet]
                exact h2 v ((e1 k v).1 hv)
          intro k4 hk4
          have last : ∀ t, (t = true → ∀ M, Is'[x]? = some (some M) → M.length ≠ M4.length) → (t = false → ∃ M, Is'[x]? = some (some M) ∧ M.length = M4.length) → k4 t h14 := fun t ht hf => hk4 _ _ fun _ => by
            refine ifB_intro (fun h => fin _ (fun _ => .inr (ht h)) (fun h => by cases h)) (fun h => ?_)
            exact fin _ (fun h => .inl h) fun h' => ⟨h', hf h⟩
          obtain ⟨m, hm, hN⟩ := mapN_rd S14.swap hxI
          refine idx_rdN S14.swap.rd rfl hxI fun p10 hp10 _ => ?_
          refine ld_one (k := .map) (x := m) (hm p10 hp10) ?_
          cases hO : Is'[x] with
          | none =>
            rw [hO] at hN
            simp only at hN
            subst hN
            refine ifB_true rfl (last _ (fun _ M hM => ?_) (fun h => by cases h))
            rw [List.getElem?_eq_getElem hxI, hO] at hM
            cases hM
          | some Mo =>
            rw [hO] at hN
            simp only at hN
            have hMo : Is'[x]? = some (some Mo) := by rw [List.getElem?_eq_getElem hxI, hO]
            obtain ⟨bm, _, _, rfl, _⟩ := id hN
            refine ifB_false rfl ?_
            refine idx_rdN S14.swap.rd rfl hxI fun p11 hp11 _ => ?_
            refine ld_one (k := .map) (x := some bm) (hm p11 hp11) ?_
            refine mln_read hN (mln_read S14.rdG (last _ (fun h M hM => ?_) (fun h => ⟨Mo, hMo, ?_⟩)))
            · rw [hMo] at hM
              injection hM with hM
              injection hM with hM
              subst hM
              intro e
              rw [e] at h
              simp at h
            · simp at h
              omega
      refine ifB_intro (fun hc => ?_) (fun hc => ?_)
      · have hx0 : x = 0 := by simpa using hc
        refine ld_agg hp o18.ext rfl fun c14 hc14 => ?_
        refine (params_calls (rFunc.ext hc14 o18.ext)).mono ?_
        rintro v h21 ⟨b, M, rfl, hM, T⟩
        exact ⟨_, rfl, main _ _ T.old (.inr ⟨M, T.rdG, hM.iff fun v => by simp [InV, hx0]⟩)⟩
      · have hx0 : ¬ x = 0 := by simpa using hc
        exact main _ _ (.refl _) (.inl ⟨rfl, hx0, by simp⟩)
    · have hjl : (orderOf (graphF f)).length ≤ j := by rw [hodl] at hc; simpa using hc
      rw [List.take_of_length_le hjl] at hfx
      refine ⟨_, ?_, Is', Os', A', rfl, fun hg k b hb => hfx hg k (order_all hpos hcome (List.getElem?_eq_some_iff.1 hb).1) b hb, S⟩
      cases c'
      · simp; omega
      · have := hlt rfl
        simp; omega
  · have hfx := hfix hc
    have hall : ∀ k (hk : k < Is.length), ∃ M, Is[k] = some M := fun k hk => by
      obtain ⟨⟨M, hM⟩, _⟩ := hfx k _ (List.getElem?_eq_getElem (by rw [← A.lenI]; exact hk))
      rw [List.getElem?_eq_getElem hk] at hM
      injection hM with hM
      exact ⟨M, hM⟩
    have hIs : Is = (Is.map fun o => o.getD []).map some := by
      refine List.ext_getElem (by simp) fun k h1 h2 => ?_
      obtain ⟨M, hM⟩ := hall k h1
      simp [hM]
    generalize Is.map (fun o => o.getD []) = Ms at hIs
    subst hIs
    have S := S.swap.drop.allN
    have hMl : Ms.length = f.blocks.length := by have := A.lenI; simpa using this
    refine ⟨s, Ms, rfl, hMl, fun k hk => ?_, S.since (o1.trans o14)⟩
    have hM : (Ms.map some)[k]? = some (some Ms[k]) := by simp [hk]
    exact (oV_is hM (A.goodI k _ hM)).iff fun v => A.done (fun k b hb => hfx k b hb) (by omega)

end Go.Proofs.YtojdbliehgejbaaDoor

/-
  slices.Sorted(maps.Keys(m)) at assign's sets; assign.Ins.
-/
namespace Go.Proofs.YtojdbliehgejbaaDoor
open Go.Fw Go.Pl Go.Pl.Api Go.Pl.Set Go.Pl.Live Go.WideElems

theorem keys0_own {h : Heap} {m : Option Nat} :
    ACalls Tryd.prog F_maps_Keys_0 [.map m] h (fun v h' => ∃ b, v = .func (.func 53) #[] #[.pointer (some ⟨b, 0, none⟩)] ∧ Fw.Sep h h' [rawB ⟨b, 0, none⟩ #[.map m]]) := by
  refine maps_Keys_0_of ?_
  unfold maps_Keys_0
  refine new_rawB (Sep.start h) fun p h1 o1 S1 => ?_
  obtain ⟨f, _, h2, h3, _⟩ := S1.get
  obtain ⟨b, o, s⟩ := p
  simp only at h2 h3
  subst h2 h3
  exact ⟨b, rfl, S1⟩

theorem sorted0_calls {h : Heap} {L : List As} {h0 : Heap} {p b : Nat} {l : List (ByteArray × Bool)} (S : Fw.Sep h0 h (ownM vfB (some b) l :: L)) (hp : p < h.size) (hc : hcell h ⟨p, 0, none⟩ = some (.map (some b))) (hn : l.length ≤ 1000000)
    (hid : ∀ x ∈ l, x.1.size ≤ maxLen) :
    ACalls Tryd.prog F_slices_Sorted [.func (.func 53) #[] #[.pointer (some ⟨p, 0, none⟩)]] h (fun v h' => ∃ s : Sl, v = s.v ∧ Fw.Sep h h' [ownSl si_Lstring eStr s (sortB (l.map Prod.fst))]) := by
  intro w hw
  obtain ⟨f, b', es, clock, hb1, hb, he, hst, _⟩ := S.get
  injection hb1 with hb1
  subst hb1
  have hlen : es.size = l.length := by have := congrArg List.length he; simpa using this
  have hread : ∀ x ∈ es.toList, ∃ k : ByteArray, rd Tryd.prog 9 (plainElem (H := Unit) Tryd.prog 4) x = some (.string (bl k), .lit (.bool (match x.val with | .bool t => t | _ => false))) ∧ x.key = .string k := fun x hx => by
    have hm : (x.key, x.val) ∈ l.map fun p => (Value.string p.1, vfB p.2) := he ▸ List.mem_map.2 ⟨x, hx, rfl⟩
    obtain ⟨q, hq, hqe⟩ := List.mem_map.1 hm
    simp only [Prod.mk.injEq] at hqe
    have hr := hid q hq
    refine ⟨q.1, ?_, hqe.1.symm⟩
    have hk : keyOf Tryd.prog 9 x.key = some (.string (bl q.1)) := by
      rw [← hqe.1]
      simp [keyOf, mapKey, hr, bl]
    obtain ⟨xk, xv, xb⟩ := x
    simp only at hqe hk
    have hv : plainElem (H := Unit) Tryd.prog 4 xv = some (.lit (.bool q.2), []) := by rw [← hqe.2]; exact plainElem_bool und4b q.2
    rw [rd_mk hk hv, ← hqe.2]
    rfl
  have hfit : Fit Tryd.prog 9 (plainElem (H := Unit) Tryd.prog 4) es clock := ⟨by rw [hlen]; simp only [maxLen]; omega, hst, fun x hx => by obtain ⟨k, hk, _⟩ := hread x hx; exact ⟨_, hk⟩⟩
  have hown : w.ownsMap Tryd.prog 9 (plainElem (H := Unit) Tryd.prog 4) b es.size (.map ((es.toList.map (rg Tryd.prog 9 (plainElem (H := Unit) Tryd.prog 4))).foldr DataW.insert [])) :=
    ⟨es, clock, by rw [hw]; exact hb, hfit, Nat.le_refl _, rfl⟩
  generalize hD : (DataW.map ((es.toList.map (rg Tryd.prog 9 (plainElem (H := Unit) Tryd.prog 4))).foldr DataW.insert [])) = D0 at hown
  have hsize : Maps.size D0 = l.length := by
    rw [← hD, Maps.size_eq, Go.length_sorted]
    simp [hlen]
  have hkeys : (strKeys D0).Perm ((l.map Prod.fst).map bl) := by
    rw [← hD]
    show (((es.toList.map (rg Tryd.prog 9 (plainElem (H := Unit) Tryd.prog 4))).foldr DataW.insert []).map fun p => _root_.Go.strOf p.1).Perm _
    refine ((Go.WideShapes.sorted_perm _).map _).trans ?_
    rw [List.map_map]
    have : es.toList.map ((fun p => _root_.Go.strOf p.1) ∘ rg Tryd.prog 9 (plainElem (H := Unit) Tryd.prog 4)) = (l.map Prod.fst).map bl := by
      have h1 : es.toList.map ((fun p => _root_.Go.strOf p.1) ∘ rg Tryd.prog 9 (plainElem (H := Unit) Tryd.prog 4)) = (es.toList.map fun e => (e.key, e.val)).map fun kv => match kv.1 with | .string a => bl a | _ => [] := by
        rw [List.map_map]
        refine List.map_congr_left fun x hx => ?_
        obtain ⟨k, hk, hkey⟩ := hread x hx
        simp only [Function.comp, rg_of hk, hkey, _root_.Go.strOf]
      rw [h1]
      unfold Ents at he
      rw [he, List.map_map, List.map_map]
      exact List.map_congr_left fun x _ => rfl
    rw [this]
  have hseq : SeqGives Fence.wide 2 Tryd.prog 53 #[.pointer (some ⟨p, 0, none⟩)] encStr (fun ss => ss.Perm (strKeys D0)) (Maps.size D0) w :=
    AnyZ.keys_gives (ρ := layKeys0_ren) { layKeys0 with } Fence.wide _ trivial rfl (by omega) p b _ D0 w (by rw [hw]; exact hp) (by rw [cell_eq, hw]; exact hc) hown
  have cS := AnyZ.sorted_in laySorted Fence.wide 5 trivial trivial trivial trivial rfl (by omega) (sortsD _) (enters_of Tryd.func52 (by kernel_rfl) rfl) 53 #[.pointer (some ⟨p, 0, none⟩)] trivial (enters_of Tryd.func53 (by kernel_rfl) rfl) _ _ (by rw [hsize]; simp only [maxLen]; omega) (by rw [hsize]; omega) w hseq
  change CallsIn _ _ Tryd.prog 28 _ _ _ at cS
  refine (callsIn_wide.1 cS).mono ?_
  rintro e w' ⟨v, ss, rfl, hS, hrow, hnil, hbel⟩
  have hss : ss.length = l.length := by rw [hS.length_eq, hkeys.length_eq]; simp
  refine ⟨v, rfl, ⟨hbel.os, hbel.tape, hbel.output⟩, ?_⟩
  have hold : Old h w'.heap := by
    subst hw
    exact ⟨hbel.size, fun k hk => hbel.block k hk⟩
  have hml : (ss.mergeSort fun x y => decide (x ≤ y)).length = ss.length := List.length_mergeSort _
  have hperm := sort_perm (hS.trans hkeys)
  have hrowv : (ss.mergeSort fun x y => decide (x ≤ y)).map encStr = (sortB (l.map Prod.fst)).map fun s => Value.string s := by
    unfold sortB
    rw [hperm]
    simp only [List.map_map]
    rfl
  have hsl : (sortB (l.map Prod.fst)).length = ss.length := by
    unfold sortB
    rw [List.length_map, ← hperm, hml]
  rcases hrow.2 with ⟨h5, h6⟩ | ⟨g, cap, cur, h5, h6, h7, h8, h9, h10, h11⟩
  · refine ⟨⟨none, 0, 0⟩, h5, ⟨hold, fun A hA => by rw [List.mem_singleton.1 hA]; exact loc_ownSl, [], ⟨[], [], rfl, ?_, rfl⟩, by simp, by simp⟩⟩
    have : sortB (l.map Prod.fst) = [] := List.eq_nil_of_length_eq_zero (by omega)
    rw [this]
    exact ownSl_nil si_Lstring eStr rfl _
  · refine ⟨⟨some ⟨g, 0, none⟩, ss.length, cap⟩, h5, ⟨hold, fun A hA => by rw [List.mem_singleton.1 hA]; exact loc_ownSl, [g], ⟨[g], [], rfl, ⟨rfl, (sortB (l.map Prod.fst)).map (fun n => Value.string n), [], ?_, hsl.symm, by omega, Row.of_cells _, rfl⟩, rfl⟩, by simp, fun z hz => ?_⟩⟩
    · refine hOwn_iff.2 ⟨?_, .inr ⟨g, cur, rfl, h7, h8, h9, h10, by rw [← hrowv]; exact h11⟩⟩
      rw [List.length_map, hsl]
      exact (Nat.mul_one _).symm
    · rw [List.mem_singleton] at hz
      subst hz
      exact ⟨by rw [← hw]; exact h6, (Array.getElem?_eq_some_iff.1 h7).1⟩


/-- What assign.all needs. -/
structure AsgF (f : MFunc) : Prop where
  n : f.blocks.length ≤ 1000
  to : ∀ b ∈ f.blocks, b.term.to.length ≤ 1000
  pos : 0 < f.blocks.length
  come : ∀ b ∈ comeOf (graphF f), b = true
  sz : Sz (setsN f)

theorem bare_all {f : MFunc} (F : AsgF f) {v : ByteArray} (hv : v ∉ setsN f) {k : Nat} (hk : k < f.blocks.length) : Bare f v k := by
  have hr : ∀ k, Pl.Rch (graphF f) k → Bare f v k := by
    intro k h
    induction h with
    | zero h => exact .start (List.getElem?_eq_getElem F.pos) (fun h => hv (par_names h)) (fun h => hv (made_names (List.getElem?_eq_getElem F.pos) h))
    | @step i k h hl hk ih =>
      have hi : i < f.blocks.length := leads_lt hl
      have hk' : k < f.blocks.length := by rw [graphF_len] at hk; exact hk
      exact .step ih (List.getElem?_eq_getElem hi) (fun h => hv (code_names (List.getElem?_eq_getElem hi) h)) hl (List.getElem?_eq_getElem hk') (fun h => hv (made_names (List.getElem?_eq_getElem hk') h))
  refine hr k ((come_reach (by rw [graphF_len]; exact F.pos) k).1 ?_)
  have hkc : k < (comeOf (graphF f)).length := by
    obtain ⟨_, _, _, _, hlen, _⟩ := search_says (G := graphF f) (by rw [graphF_len]; exact F.pos)
    rw [hlen, graphF_len]; exact hk
  rw [getD_lt hkc]
  exact F.come _ (List.getElem_mem hkc)
theorem set_names {f : MFunc} (F : AsgF f) {v : ByteArray} {k : Nat} (hk : k < f.blocks.length) (h : ¬ Bare f v k) : v ∈ setsN f := by
  apply Classical.byContradiction
  exact fun hv => h (bare_all F hv hk)

theorem asgIns_calls {h : Heap} {cs : Array Value} {f : MFunc} (hf : rFunc.rv h cs.toList f) (F : AsgF f) :
    ACalls Tryd.prog F_assign_Ins [.agg cs] h (fun v h' => ∃ (s : Sl) (ll : List (List ByteArray)), v = s.v ∧ ll.length = f.blocks.length ∧ (∀ i (hi : i < ll.length), UpS ll[i] (fun v => ¬ Bare f v i)) ∧ Fw.Sep h h' [ownSl si_LLstring (Elem.sl si_Lstring eStr) s ll]) := by
  refine assign_Ins_of ?_
  unfold assign_Ins
  refine new_rv hf fun p h1 o1 hp => ?_
  refine ld_agg hp (hExt.refl _) rfl fun c2 hc2 => ?_
  refine (asgAll_calls hc2 F.n F.to F.pos F.come).mono ?_
  rintro u h3 ⟨r, Ms, rfl, hlen, hMs, S3⟩
  refine ⟨_, rfl, ?_⟩
  have hrl := S3.rd.lenEq
  have hn := F.n
  refine loop_intro (fun m (q : Sl × Int) h' => ∃ (ll : List (List ByteArray)), q.2 = (ll.length : Int) ∧ ll.length ≤ f.blocks.length ∧ m = f.blocks.length - ll.length ∧ (∀ i (hi : i < ll.length), UpS ll[i] (fun v => ¬ Bare f v i)) ∧
      Fw.Sep h1 h' [ownSl si_LLstring (Elem.sl si_Lstring eStr) q.1 ll, ownSl si_Lassign_set (eMS vfB) r Ms]) f.blocks.length
    ⟨[], rfl, by simp, by simp, by simp, S3.nil rfl⟩ ?_
  clear S3
  rintro _ _ ⟨out, q⟩ h4 ⟨ll, hq, hll, rfl, hul, S⟩
  simp only at hq S ⊢
  subst hq
  refine ifB_intro (fun hc => ?_) (fun hc => ?_)
  · have hil : ll.length < Ms.length := by rw [hrl] at hc; simpa using hc
    obtain ⟨b, hcell, Sm, hback⟩ := map_atS S.swap hil
    refine idx_rdN S.swap.rd rfl hil fun p1 hp1 _ => ?_
    refine ld_one (k := .map) (x := some b) (hcell p1 hp1) ?_
    refine keys0_own.mono ?_
    rintro u h5 ⟨b', rfl, S1⟩
    refine ⟨_, rfl, ?_⟩
    have S2 := Sm.frame S1
    have hcl := (rawB_cell S2).2 0
    have hblk : b' < h5.size := by
      obtain ⟨f, ⟨f1, f2, rfl, ⟨rfl, _⟩, _⟩, _, hbd⟩ := S2.owns
      exact (hbd b' (by simp)).2
    have hsub : ∀ v, v ∈ Ms[ll.length].map Prod.fst → v ∈ setsN f := fun v hv => set_names F (by omega) (((hMs _ hil).mem v).1 hv)
    have hnd := (hMs _ hil).once
    have hlen' : Ms[ll.length].length ≤ 1000000 := by
      have h1 := List.Nodup.length_le_of_subset hnd (l₂ := setsN f) fun v hv => hsub v hv
      have h2 := F.sz.n
      simp at h1
      omega
    refine (sorted0_calls (Fw.Sep.drop (A := rawB ⟨b', 0, none⟩ #[.map (some b)]) S2) hblk (by rw [Go.Fw.Addr.add_zero'] at hcl; exact hcl) hlen' (fun x hx => F.sz.sz _ (hsub _ (List.mem_map.2 ⟨x, hx, rfl⟩)))).mono ?_
    rintro u h6 ⟨s, rfl, S5⟩
    refine ⟨_, rfl, ?_⟩
    have hl := isUp (hMs _ hil)
    have S6 := ((Sm.grow S1.old).frame S5).perm (L' := ownM vfB (some b) Ms[ll.length] :: ownSl si_Lassign_set (eMS vfB).raw r ((Ms.map .inl).set ll.length (.inr [.map (some b)])) :: ownSl si_Lstring eStr s (sortB (Ms[ll.length].map Prod.fst)) :: [ownSl si_LLstring (Elem.sl si_Lstring eStr) out ll]) (by
      simp only [List.singleton_append]
      exact (List.Perm.swap _ _ _).trans (List.Perm.cons _ (List.Perm.swap _ _ _)))
    have S7 := hback _ _ _ S6
    rw [List.set_getElem_self] at S7
    refine app1_rule (x := sortB (Ms[ll.length].map Prod.fst)) S7.swap.toEl.rot3 rfl (by decide) (by simp only [si_LLstring]; omega) (by omega) fun s2 h6 S8 => ?_
    refine ar_i64 (by omega) (by omega) ⟨f.blocks.length - (ll.length + 1), by omega, ll ++ [sortB (Ms[ll.length].map Prod.fst)], by simp, by simp; omega, by simp, fun i hi => ?_, S8⟩
    by_cases e : i < ll.length
    · rw [List.getElem_append_left e]
      exact hul i e
    · have : i = ll.length := by simp at hi; omega
      subst this
      simpa using hl
  · have hil : ll.length = f.blocks.length := by
      have hc := of_decide_eq_false hc
      omega
    exact ⟨out, ll, rfl, hil, hul, (S.swap.drop).since o1⟩

end Go.Proofs.YtojdbliehgejbaaDoor

/-
  assign: what blocks and phis use.
-/
namespace Go.Proofs.YtojdbliehgejbaaDoor
open Go.Fw Go.Pl Go.Pl.Api Go.Pl.Set Go.Pl.Live

theorem has_calls {h : Heap} {s : Option Nat} {M : MSet} {P : VSet} {l : Sl} {ls : List ByteArray} (R : rdM vfB h s M) (hM : IsSet M P) (hl : rdSl eStr h l ls) :
    ACalls Tryd.prog F_assign_set_has [.map s, l.v] h (fun v h' => ∃ b : Bool, v = .bool b ∧ (b = true ↔ ∀ x ∈ ls, P x) ∧ h' = h) := by
  refine assign_set_has_of ?_
  unfold assign_set_has
  have hll := hl.lenEq
  have hlb := hl.bound
  refine loop_intro (fun m (q : Int) h' => ∃ i : Nat, q = i ∧ i ≤ ls.length ∧ m = ls.length - i ∧ h' = h ∧ ∀ x ∈ ls.take i, P x) ls.length
    ⟨0, rfl, by omega, by omega, rfl, by simp⟩ ?_
  rintro _ _ _ h' ⟨i, rfl, hi, rfl, rfl, hall⟩
  refine ifB_intro (fun hc => ?_) (fun hc => ?_)
  · have hil : i < ls.length := by rw [hll] at hc; simpa using hc
    refine idx_rdN hl rfl hil fun p _ hp => ld_eStr hp (hExt.refl _) ?_
    refine mlk_rule R ?_
    obtain ⟨y, hy, hyP⟩ := get_set hM ls[i]
    refine ⟨y, hy, ?_⟩
    cases y with
    | false => exact ifB_true rfl ⟨false, rfl, ⟨fun h => (by cases h), fun h => (hyP.2 (h _ (List.getElem_mem hil)))⟩, rfl⟩
    | true =>
      refine ifB_false rfl (ar_i64 (by omega) (by omega) ⟨ls.length - (i + 1), by omega, i + 1, rfl, by omega, rfl, rfl, fun x hx => ?_⟩)
      rw [List.take_succ_eq_append_getElem hil, List.mem_append, List.mem_singleton] at hx
      rcases hx with hx | rfl
      · exact hall x hx
      · exact hyP.1 rfl
  · have hil : ls.length ≤ i := by rw [hll] at hc; simpa using hc
    rw [List.take_of_length_le hil] at hall
    exact ⟨true, rfl, ⟨fun _ => hall, fun _ => rfl⟩, rfl⟩

theorem argIn_calls {h : Heap} {s : Option Nat} {M : MSet} {P : VSet} {ca : Array Value} {a : MArg} (R : rdM vfB h s M) (hM : IsSet M P) (ha : rArg.rv h ca.toList a) :
    ACalls Tryd.prog F_assign_set_arg [.map s, .agg ca] h (fun v h' => ∃ b : Bool, v = .bool b ∧ (b = true ↔ ∀ v, argV a v → P v) ∧ Old h h') := by
  refine assign_set_arg_of ?_
  unfold assign_set_arg
  refine new_rv ha fun p h1 o1 hp => ?_
  intro k hk
  have fin : ∀ t : Bool, (t = true ↔ ∀ v, argV a v → P v) → k t h1 := fun t ht => hk _ _ fun _ => ⟨t, rfl, ht, o1⟩
  refine ld_int (fld_argKind.rd hp) (hExt.refl _) ?_
  refine ifB_intro (fun hc => fin _ ⟨fun _ v hv => ?_, fun _ => rfl⟩) (fun hc => ?_)
  · have hc : ¬ a.kind = 1 := by simpa using hc
    exact absurd hv.1 hc
  · have hc : a.kind = 1 := by simpa using hc
    refine ld_str (fld_argS'.rd hp) (hExt.refl _) ?_
    refine mlk_rule (R.old o1) ?_
    obtain ⟨y, hy, hyP⟩ := get_set hM a.s
    refine ⟨y, hy, fin y ?_⟩
    rw [hyP]
    exact ⟨fun h v hv => hv.2 ▸ h, fun h => h _ ⟨hc, rfl⟩⟩

/-- A block uses what is set. -/
def codeOk (B : MBlock) (P : VSet) (n : Nat) : Prop := ∀ j (hj : j < B.code.length), j < n → ∀ v, usesV B.code[j] v → P v ∨ codeV (B.code.take j) v
def blockOk (B : MBlock) (P : VSet) : Prop := codeOk B P B.code.length ∧ ((B.term.kind = 2 ∨ B.term.kind = 3) → ∀ v, argV B.term.a v → P v ∨ codeV B.code v)

set_option maxHeartbeats 1000000 in
theorem block_calls {h : Heap} {s : Option Nat} {M : MSet} {P : VSet} {cb : Array Value} {B : MBlock} (R : rdG vfB h s M) (hM : IsSet M P) (hB : rBlock.rv h cb.toList B) (hz : ∀ x ∈ B.code, Sz (usesN x)) :
    ACalls Tryd.prog F_assign_set_block [.map s, .agg cb] h (fun v h' => ∃ b : Bool, v = .bool b ∧ (b = true ↔ blockOk B P) ∧ Old h h') := by
  refine assign_set_block_of ?_
  unfold assign_set_block
  refine new_rv hB fun p h1 o1 hp => ?_
  refine (clone_calls (R.old o1)).mono ?_
  rintro v h2 ⟨m, rfl, S2⟩
  refine ⟨_, rfl, ?_⟩
  refine ld_lst (fld_code.rd hp) S2.old.ext fun la hla => ?_
  have hlal := hla.lenEq
  have hlab := hla.bound
  refine loop_intro (fun n (q : Int) h' => ∃ i : Nat, q = i ∧ i ≤ B.code.length ∧ n = B.code.length - i ∧ codeOk B P i ∧ ∃ M, IsSet M (fun v => P v ∨ codeV (B.code.take i) v) ∧ Fw.Sep h1 h' [ownM vfB (some m) M]) B.code.length
    ⟨0, rfl, by omega, by omega, fun j hj h => by omega, M, hM.iff fun v => by simp [codeV], S2⟩ ?_
  clear S2 hM M R
  rintro _ _ _ h3 ⟨i, rfl, hi, rfl, hok, M, hM, S⟩
  have e3 := S.old.ext
  refine ifB_intro (fun hc => ?_) (fun hc => ?_)
  · have hil : i < B.code.length := by rw [hlal] at hc; simpa using hc
    intro k hk
    refine idx_rdN hla rfl hil fun p1 _ hp1 => ld_agg hp1 e3 rfl fun c1 hc1 => ?_
    refine new_stX hc1 e3 rfl rfl fun p2 h6 o6 hb2 => ?_
    have S6 := S.grow o6
    refine ld_aggX hb2 rfl fun c2 hc2 => ?_
    refine (uses_calls (rInstr.ext hc2 (ext_tr e3 o6.ext)) (hz _ (List.getElem_mem hil))).mono ?_
    rintro v h7 ⟨r1, l1, rfl, hl1, T7⟩
    refine ⟨r1, rfl, ?_⟩
    have S7 := S6.grow T7.old
    refine (has_calls S7.rdM hM T7.rd).mono ?_
    rintro v h8 ⟨b, rfl, hb, rfl⟩
    refine ⟨b, rfl, ?_⟩
    have hb' : b = true ↔ ∀ v, usesV B.code[i] v → P v ∨ codeV (B.code.take i) v := by
      rw [hb]
      exact ⟨fun h v hv => h v ((hl1.mem v).2 hv), fun h v hv => h v ((hl1.mem v).1 hv)⟩
    cases b with
    | false => exact ifB_true rfl ⟨false, rfl, ⟨fun h => (by cases h), fun h => absurd (hb'.2 fun v hv => h.1 i hil hil v hv) (by simp)⟩, o1.trans S7.old⟩
    | true =>
    have hok' : codeOk B P (i + 1) := fun j hj hji v hv => by
      by_cases e : j = i
      · subst e
        exact hb'.1 rfl v hv
      · exact hok j hj (by omega) v hv
    have next : ∀ h' M', IsSet M' (fun v => P v ∨ codeV (B.code.take (i + 1)) v) → Fw.Sep h1 h' [ownM vfB (some m) M'] → k () h' := fun h' M' hM' S' => hk _ _ fun _ =>
      ar_i64 (by omega) (by omega) ⟨B.code.length - (i + 1), by omega, i + 1, rfl, by omega, rfl, hok', M', hM', S'⟩
    have hb8 := RV.bx_old hb2 T7.old
    refine ifB_false rfl ?_
    refine ld_strX (fld_iDst.bx hb8) ?_
    rw [toList_beq]
    by_cases e : B.code[i].dst = nmE
    · rw [decide_eq_true e]
      refine ifB_false rfl (next h8 M (hM.iff fun v => ?_) S7)
      rw [codeV_take hil]
      refine or_congr Iff.rfl ⟨.inr, fun h => h.elim (fun ⟨h1, h2⟩ => absurd (h2.symm.trans e) h1) id⟩
    · rw [decide_eq_false e]
      refine ifB_true rfl ?_
      refine ld_strX (fld_iDst.bx hb8) ?_
      refine mup_set S7 hM fun h9 M' e9 hM' S9 => next h9 M' (hM'.iff fun v => ?_) S9
      rw [codeV_take hil]
      constructor
      · rintro (rfl | h | h)
        · exact .inr (.inl ⟨e, rfl⟩)
        · exact .inl h
        · exact .inr (.inr h)
      · rintro (h | ⟨_, h⟩ | h)
        · exact .inr (.inl h)
        · exact .inl h.symm
        · exact .inr (.inr h)
  · have hil : B.code.length ≤ i := by rw [hlal] at hc; simpa using hc
    have hie : i = B.code.length := by omega
    subst hie
    rw [List.take_length] at hM
    intro k1 hk1
    have arg : ∀ K : Value → Heap → Prop, (∀ (b : Bool) h', (b = true ↔ ∀ v, argV B.term.a v → P v ∨ codeV B.code v) → Old h3 h' → K (.bool b) h') →
        ld (.agg 3) h3 ((p.add 3).add 1) fun (x_7 : Array Value) => ACalls Tryd.prog F_assign_set_arg [.map (some m), .agg x_7] h3 K := fun K hK => by
      refine ld_agg (el_two hp.1 (Fld.trans fld_term fld_tA rfl |>.rd hp)) e3 rfl fun c7 hc7 => ?_
      refine (argIn_calls S.rdM hM (rArg.ext hc7 e3)).mono ?_
      rintro v h11 ⟨b, rfl, hb, o11⟩
      exact hK b h11 hb o11
    have fin : ∀ (b : Bool) h', (b = true ↔ blockOk B P) → Old h3 h' → k1 b h' := fun b h' hb o => hk1 _ _ fun _ => ⟨b, rfl, hb, o1.trans (S.old.trans o)⟩
    refine ld_int (el_two hp.1 (Fld.trans fld_term fld_tKind rfl |>.rd hp)) e3 ?_
    refine ifB_intro (fun h2 => ?_) (fun h2 => ?_)
    · have h2 : ¬ B.term.kind = 2 := by simpa using h2
      refine ld_int (el_two hp.1 (Fld.trans fld_term fld_tKind rfl |>.rd hp)) e3 ?_
      refine ifB_intro (fun h3 => ?_) (fun h3 => ?_)
      · have h3 : ¬ B.term.kind = 3 := by simpa using h3
        exact fin true _ ⟨fun _ => ⟨hok, fun h => absurd h (by simp [h2, h3])⟩, fun _ => rfl⟩ (.refl _)
      · have h3 : B.term.kind = 3 := by simpa using h3
        exact arg _ fun b h' hb o => ⟨b, rfl, fin b h' (by rw [hb]; exact ⟨fun h => ⟨hok, fun _ => h⟩, fun h => h.2 (.inr h3)⟩) o⟩
    · have h2 : B.term.kind = 2 := by simpa using h2
      exact arg _ fun b h' hb o => ⟨b, rfl, fin b h' (by rw [hb]; exact ⟨fun h => ⟨hok, fun _ => h⟩, fun h => h.2 (.inl h2)⟩) o⟩

theorem index1_calls {h : Heap} {a : Sl} {la : List ByteArray} (ra : rdSl eStr h a la) (s : ByteArray) : ACalls Tryd.prog F_slices_Index_1 [a.v, .string s] h (fun v h' => ∃ n : Int, v = .int .i64 n ∧ (n ≥ 0 ↔ s ∈ la) ∧ h' = h) := by
  refine slices_Index_1_of ?_
  unfold slices_Index_1
  have hal := ra.lenEq
  have hab := ra.bound
  refine loop_intro (fun m (q : Int) h' => ∃ i : Nat, q = i ∧ i ≤ la.length ∧ m = la.length - i ∧ h' = h ∧ ∀ j (hj : j < i) (h1 : j < la.length), la[j] ≠ s) la.length
    ⟨0, rfl, by omega, by omega, rfl, fun j hj => by omega⟩ ?_
  rintro _ _ _ h' ⟨i, rfl, hi, rfl, rfl, hall⟩
  refine ifB_intro (fun hc2 => ?_) (fun hc2 => ?_)
  · have hil : i < la.length := by rw [hal] at hc2; simpa using hc2
    refine idx_rdN ra rfl hil fun p _ hp => ld_eStr hp (hExt.refl _) ?_
    rw [toList_beq]
    by_cases e : s = la[i]
    · rw [decide_eq_true e]
      exact ifB_true rfl ⟨_, rfl, ⟨fun _ => by rw [e]; exact List.getElem_mem hil, fun _ => by omega⟩, rfl⟩
    · rw [decide_eq_false e]
      refine ifB_false rfl (ar_i64 (by omega) (by omega) ⟨la.length - (i + 1), by omega, i + 1, rfl, by omega, rfl, rfl, fun j hj h1 => ?_⟩)
      by_cases ej : j = i
      · subst ej; exact fun h => e h.symm
      · exact hall j (by omega) h1
  · have hil : la.length ≤ i := by rw [hal] at hc2; simpa using hc2
    refine ⟨-1, rfl, ⟨fun h => by omega, fun hm => ?_⟩, rfl⟩
    obtain ⟨j, hj, e⟩ := List.getElem_of_mem hm
    exact absurd e (hall j (by omega) hj)
theorem contains1_calls {h : Heap} {a : Sl} {la : List ByteArray} (ra : rdSl eStr h a la) (s : ByteArray) : ACalls Tryd.prog F_slices_Contains_1 [a.v, .string s] h (fun v h' => ∃ b : Bool, v = .bool b ∧ (b = true ↔ s ∈ la) ∧ h' = h) := by
  refine slices_Contains_1_of ?_
  unfold slices_Contains_1
  refine (index1_calls ra s).mono ?_
  rintro v h' ⟨n, rfl, hn, rfl⟩
  exact ⟨n, rfl, _, rfl, by rw [decide_eq_true_eq]; exact hn, rfl⟩

/-- Does a block lead to another one, by their names? -/
def leadsTo (f : MFunc) (a b : ByteArray) : Prop := ∃ q B, place f a = some q ∧ f.blocks[q]? = some B ∧ b ∈ B.term.to
theorem rd_strs {h : Heap} {s : Sl} {l : List ByteArray} (r : rdSl rStr.el h s l) : rdSl eStr h s l := by
  obtain ⟨h1, h2, h3, h5, h6⟩ := r
  refine ⟨h1, h2, h3, h5, h6.imp id fun ⟨a, ha, hs, hr⟩ => ⟨a, ha, hs, fun i hi => ?_⟩⟩
  obtain ⟨_, cs, hc, e⟩ := hr i hi
  have e : cs = [.string l[i]] := e
  have := hc 0 (.string l[i]) (by rw [e]; rfl)
  rw [Addr.add_zero'] at this
  exact this
theorem leads_calls {h : Heap} {cs : Array Value} {f : MFunc} (hf : rFunc.rv h cs.toList f) (a b : ByteArray) :
    ACalls Tryd.prog F_assign_leads [.agg cs, .string a, .string b] h (fun v h' => ∃ t : Bool, v = .bool t ∧ (t = true ↔ leadsTo f a b) ∧ Old h h') := by
  refine assign_leads_of ?_
  unfold assign_leads
  refine new_rv hf fun p h1 o1 hp => ?_
  refine ld_lst (fld_blocks.rd hp) (hExt.refl _) fun la hla => ?_
  have hlal := hla.lenEq
  have hlab := hla.bound
  refine loop_intro (fun m t h' => ∃ j : Nat, t = j ∧ j ≤ f.blocks.length ∧ m = f.blocks.length - j ∧ Old h1 h' ∧ ∀ i (hi : i < j) (hl : i < f.blocks.length), (f.blocks[i].name.toList == a.toList) = false) f.blocks.length
    ⟨0, rfl, by omega, by omega, .refl _, fun i hi => by omega⟩ ?_
  rintro m _ t h2 ⟨j, rfl, hj, rfl, o2, hno⟩
  refine ifB_intro (fun hc => ?_) (fun hc => ?_)
  · have hjl : j < f.blocks.length := by rw [hlal] at hc; simpa using hc
    refine idx_rdN hla rfl hjl fun q _ hq => ?_
    refine ld_agg hq o2.ext rfl fun cs hcs => ?_
    refine new_st (rBlock.ext hcs o2.ext) rfl rfl fun p2 h4 o4 hp2 => ?_
    refine ld_str (fld_name.rd hp2) (hExt.refl _) ?_
    refine ifB_intro (fun hc => ?_) (fun hc => ?_)
    · have hpl := place_some hjl hc fun i hi => hno i hi (by omega)
      refine ld_lst (el_two hp2.1 (Fld.trans fld_term fld_to rfl |>.rd hp2)) (hExt.refl _) fun lt hlt => ?_
      refine (contains1_calls (rd_strs hlt) b).mono ?_
      rintro v h5 ⟨t, rfl, ht, rfl⟩
      refine ⟨t, rfl, t, rfl, ?_, (o1.trans o2).trans o4⟩
      rw [ht]
      constructor
      · exact fun h => ⟨j, _, hpl, List.getElem?_eq_getElem hjl, h⟩
      · rintro ⟨q, B, h1, h2, h3⟩
        rw [hpl] at h1
        injection h1 with h1
        subst h1
        rw [List.getElem?_eq_getElem hjl] at h2
        injection h2 with h2
        subst h2
        exact h3
    · refine ar_i64 (by omega) (by omega) ⟨f.blocks.length - (j + 1), by omega, j + 1, rfl, by omega, rfl, o2.trans o4, fun i hi hl => ?_⟩
      by_cases e : i = j
      · subst e; exact hc
      · exact hno i (by omega) hl
  · have hjl : f.blocks.length ≤ j := by rw [hlal] at hc; simpa using hc
    refine ⟨false, rfl, ⟨fun h => (by cases h), fun ⟨q, B, h1, _⟩ => ?_⟩, o1.trans o2⟩
    rw [place_none fun i hi => hno i (by omega) hi] at h1
    cases h1

end Go.Proofs.YtojdbliehgejbaaDoor

/-
  assign: phis, Right.
-/
namespace Go.Proofs.YtojdbliehgejbaaDoor
open Go.Fw Go.Pl Go.Pl.Api Go.Pl.Set Go.Pl.Live

def outV (f : MFunc) (q : Nat) (B : MBlock) : VSet := fun v => ¬ Bare f v q ∨ codeV B.code v
abbrev vfM : Nat → Value := fun b => .map (some b)
/-- What is set at blocks' ends, by their names. -/
structure Outs (f : MFunc) (ol : List (ByteArray × Nat)) (h : Heap) : Prop where
  no : ∀ n, place f n = none → aget n ol = none
  yes : ∀ n q B, place f n = some q → f.blocks[q]? = some B → ∃ b M, aget n ol = some b ∧ rdM vfB h (some b) M ∧ IsSet M (outV f q B)
theorem Outs.old {f : MFunc} {ol : List (ByteArray × Nat)} {h h' : Heap} (R : Outs f ol h) (o : Old h h') : Outs f ol h' :=
  ⟨R.no, fun n q B h1 h2 => by obtain ⟨b, M, e, r, s⟩ := R.yes n q B h1 h2; exact ⟨b, M, e, r.old o, s⟩⟩
def inOk (f : MFunc) (c : MBlock) (i : MIn) : Prop := ∀ q B, place f i.block = some q → f.blocks[q]? = some B → c.name ∈ B.term.to → ∀ v, argV i.a v → outV f q B v
def phisOk (f : MFunc) : Prop := ∀ c ∈ f.blocks, ∀ p ∈ c.phis, ∀ i ∈ p.ins, inOk f c i

theorem take_all {α : Type} {l : List α} {i : Nat} (hi : i < l.length) {Q : α → Prop} : (∀ a ∈ l.take (i + 1), Q a) ↔ ((∀ a ∈ l.take i, Q a) ∧ Q l[i]) := by
  rw [List.take_succ_eq_append_getElem hi]
  simp only [List.mem_append, List.mem_singleton]
  exact ⟨fun h => ⟨fun a ha => h a (.inl ha), h _ (.inr rfl)⟩, fun ⟨h1, h2⟩ a ha => ha.elim (h1 a) fun e => e ▸ h2⟩

set_option maxHeartbeats 2000000 in
theorem phis_calls {h : Heap} {cs : Array Value} {f : MFunc} {m : Option Nat} {ol : List (ByteArray × Nat)} (hf : rFunc.rv h cs.toList f) (hm : rdM vfM h m ol) (R : Outs f ol h) :
    ACalls Tryd.prog F_assign_phis [.agg cs, .map m] h (fun v h' => ∃ t : Bool, v = .bool t ∧ (t = true ↔ phisOk f) ∧ Old h h') := by
  refine assign_phis_of ?_
  unfold assign_phis
  refine new_rv hf fun p h1 o1 hp => ?_
  have hm := hm.old o1
  have R := R.old o1
  refine ld_lst (fld_blocks.rd hp) (hExt.refl _) fun la hla => ?_
  have hlal := hla.lenEq
  have hlab := hla.bound
  refine loop_intro (fun n (q : Int) h' => ∃ i : Nat, q = i ∧ i ≤ f.blocks.length ∧ n = f.blocks.length - i ∧ Old h1 h' ∧ ∀ c ∈ f.blocks.take i, ∀ p ∈ c.phis, ∀ i ∈ p.ins, inOk f c i) f.blocks.length
    ⟨0, rfl, by omega, by omega, .refl _, by simp⟩ ?_
  rintro _ _ _ h2 ⟨i, rfl, hi, rfl, o2, hok⟩
  refine ifB_intro (fun hc => ?_) (fun hc => ?_)
  · have hil : i < f.blocks.length := by rw [hlal] at hc; simpa using hc
    refine idx_rdN hla rfl hil fun p1 _ hp1 => ld_agg hp1 o2.ext rfl fun c1 hc1 => ?_
    refine new_st (rBlock.ext hc1 o2.ext) rfl rfl fun p2 h4 o4 hp2 => ?_
    have hBm : f.blocks[i] ∈ f.blocks := List.getElem_mem hil
    have hall : (∀ c ∈ f.blocks.take (i + 1), ∀ p ∈ c.phis, ∀ i ∈ p.ins, inOk f c i) ↔ _ := take_all hil
    generalize f.blocks[i] = B at hp2 hBm hall
    clear hc1 hp1
    have o24 := o2.trans o4
    refine ld_lst (fld_phis.rd hp2) (hExt.refl _) fun lp hlp => ?_
    have hlpl := hlp.lenEq
    have hlpb := hlp.bound
    refine loop_intro (fun n (q : Int) h' => ∃ j : Nat, q = j ∧ j ≤ B.phis.length ∧ n = B.phis.length - j ∧ Old h4 h' ∧ ∀ p ∈ B.phis.take j, ∀ i ∈ p.ins, inOk f B i) B.phis.length
      ⟨0, rfl, by omega, by omega, .refl _, by simp⟩ ?_
    rintro _ _ _ h5 ⟨j, rfl, hj, rfl, o5, hok2⟩
    refine ifB_intro (fun hc => ?_) (fun hc => ?_)
    · have hjl : j < B.phis.length := by rw [hlpl] at hc; simpa using hc
      refine idx_rdN hlp rfl hjl fun p3 _ hp3 => ld_agg hp3 o5.ext rfl fun c3 hc3 => ?_
      refine new_st (rPhi.ext hc3 o5.ext) rfl rfl fun p4 h7 o7 hp4 => ?_
      have hPm : B.phis[j] ∈ B.phis := List.getElem_mem hjl
      have hall2 : (∀ p ∈ B.phis.take (j + 1), ∀ i ∈ p.ins, inOk f B i) ↔ _ := take_all hjl
      generalize B.phis[j] = φ at hp4 hPm hall2
      clear hc3 hp3
      have o57 := o5.trans o7
      refine ld_lst (fld_ins.rd hp4) (hExt.refl _) fun li hli => ?_
      have hlil := hli.lenEq
      have hlib := hli.bound
      refine loop_intro (fun n (q : Int) h' => ∃ k : Nat, q = k ∧ k ≤ φ.ins.length ∧ n = φ.ins.length - k ∧ Old h7 h' ∧ ∀ i ∈ φ.ins.take k, inOk f B i) φ.ins.length
        ⟨0, rfl, by omega, by omega, .refl _, by simp⟩ ?_
      rintro _ _ _ h8 ⟨k, rfl, hk, rfl, o8, hok3⟩
      refine ifB_intro (fun hc => ?_) (fun hc => ?_)
      · have hkl : k < φ.ins.length := by rw [hlil] at hc; simpa using hc
        refine idx_rdN hli rfl hkl fun p5 _ hp5 => ld_agg hp5 o8.ext rfl fun c5 hc5 => ?_
        refine new_st (rIn.ext hc5 o8.ext) rfl rfl fun p6 h10 o10 hp6 => ?_
        have hIm : φ.ins[k] ∈ φ.ins := List.getElem_mem hkl
        have hall3 : (∀ i ∈ φ.ins.take (k + 1), inOk f B i) ↔ _ := take_all hkl
        generalize φ.ins[k] = z at hp6 hIm hall3
        clear hc5 hp5
        have o7_10 := o8.trans o10
        have o4_10 := o57.trans o7_10
        have o1_10 := o24.trans o4_10
        refine ld_str (fld_inblock.rd hp6) (hExt.refl _) ?_
        refine mlk_rule (hm.old o1_10) ?_
        have good : inOk f B z → ∀ h', Old h10 h' → ∀ K : Prop, (∀ (n : Nat) h'', n < φ.ins.length - k → (∃ k' : Nat, ((k : Int) + 1) = k' ∧ k' ≤ φ.ins.length ∧ n = φ.ins.length - k' ∧ Old h7 h'' ∧ ∀ i ∈ φ.ins.take k', inOk f B i) → h'' = h' → K) → K := fun hz h' o' K hK =>
          hK (φ.ins.length - (k + 1)) h' (by omega) ⟨k + 1, by omega, by omega, rfl, o7_10.trans o', hall3.2 ⟨hok3, hz⟩⟩ rfl
        have bad : ¬ inOk f B z → ∀ h', Old h10 h' → ∃ t : Bool, (Value.bool false) = .bool t ∧ (t = true ↔ phisOk f) ∧ Old h h' := fun hz h' o' =>
          ⟨false, rfl, ⟨fun h => (by cases h), fun h => absurd (h B hBm φ hPm z hIm) hz⟩, o1.trans (o1_10.trans o')⟩
        cases hpl : place f z.block with
        | none =>
          rw [R.no _ hpl]
          refine ⟨none, rfl, ?_⟩
          intro k1 hk1
          refine ifB_false rfl (hk1 _ _ fun _ => ifB_false rfl ?_)
          refine good (fun q B' h1 => by rw [hpl] at h1; cases h1) h10 (.refl _) _ fun n h'' hn hI e => ?_
          subst e
          exact ar_i64 (by omega) (by omega) ⟨n, hn, hI⟩
        | some q =>
          have hql := place_lt hpl
          have hBq := List.getElem?_eq_getElem hql
          obtain ⟨b, M, hag, hR, hM⟩ := R.yes _ q _ hpl hBq
          rw [hag]
          refine ⟨some b, rfl, ?_⟩
          intro k1 hk1
          have iff1 : inOk f B z ↔ (B.name ∈ f.blocks[q].term.to → ∀ v, argV z.a v → outV f q f.blocks[q] v) := ⟨fun h => h q _ hpl hBq, fun h q' B' h1 h2 => by
            rw [hpl] at h1
            injection h1 with h1
            subst h1
            rw [hBq] at h2
            injection h2 with h2
            subst h2
            exact h⟩
          have stepOk : inOk f B z → ∀ h', Old h10 h' → k1 false h' := fun hz h' o' => hk1 _ _ fun _ => ifB_false rfl (good hz h' o' _ fun n h'' hn hI e => by
            subst e
            exact ar_i64 (by omega) (by omega) ⟨n, hn, hI⟩)
          have stepBad : ¬ inOk f B z → ∀ h', Old h10 h' → k1 true h' := fun hz h' o' => hk1 _ _ fun _ => ifB_true rfl (bad hz h' o')
          refine ifB_true rfl ?_
          refine ld_agg hp o1_10.ext rfl fun c7 hc7 => ?_
          refine ld_str (fld_inblock.rd hp6) (hExt.refl _) ?_
          refine ld_str (fld_name.rd hp2) o4_10.ext ?_
          refine (leads_calls (rFunc.ext hc7 o1_10.ext) z.block B.name).mono ?_
          rintro v h12 ⟨t, rfl, ht, o12⟩
          refine ⟨t, rfl, ?_⟩
          have ht : t = true ↔ B.name ∈ f.blocks[q].term.to := by
            rw [ht]
            constructor
            · rintro ⟨q', B', h1, h2, h3⟩
              rw [hpl] at h1
              injection h1 with h1
              subst h1
              rw [hBq] at h2
              injection h2 with h2
              subst h2
              exact h3
            · exact fun h => ⟨q, _, hpl, hBq, h⟩
          refine ifB_intro (fun hc => ?_) (fun hc => ?_)
          · refine ld_agg (fld_inA.rd hp6) o12.ext rfl fun c10 hc10 => ?_
            refine (argIn_calls ((hR.old o1_10).old o12) hM (rArg.ext hc10 o12.ext)).mono ?_
            rintro v h13 ⟨y, rfl, hy, o13⟩
            refine ⟨y, rfl, ?_⟩
            have iff2 : inOk f B z ↔ y = true := by
              rw [iff1, hy]
              exact ⟨fun h => h (ht.1 hc), fun h _ => h⟩
            cases y with
            | false => exact stepBad (fun h => by have := iff2.1 h; cases this) _ (o12.trans o13)
            | true => exact stepOk (iff2.2 rfl) _ (o12.trans o13)
          · refine stepOk (iff1.2 fun h => ?_) _ o12
            rw [ht.2 h] at hc
            cases hc
      · have hkl : φ.ins.length ≤ k := by rw [hlil] at hc; simpa using hc
        rw [List.take_of_length_le hkl] at hok3
        exact ar_i64 (by omega) (by omega) ⟨B.phis.length - (j + 1), by omega, j + 1, rfl, by omega, rfl, o57.trans o8, hall2.2 ⟨hok2, hok3⟩⟩
    · have hjl : B.phis.length ≤ j := by rw [hlpl] at hc; simpa using hc
      rw [List.take_of_length_le hjl] at hok2
      exact ar_i64 (by omega) (by omega) ⟨f.blocks.length - (i + 1), by omega, i + 1, rfl, by omega, rfl, o24.trans o5, hall.2 ⟨hok, hok2⟩⟩
  · have hil : f.blocks.length ≤ i := by rw [hlal] at hc; simpa using hc
    rw [List.take_of_length_le hil] at hok
    exact ⟨true, rfl, ⟨fun _ => hok, fun _ => rfl⟩, o1.trans o2⟩

end Go.Proofs.YtojdbliehgejbaaDoor

/-
  assign.Right.
-/
namespace Go.Proofs.YtojdbliehgejbaaDoor
open Go.Fw Go.Pl Go.Pl.Api Go.Pl.Set Go.Pl.Live

def rightA (f : MFunc) : Prop := (∀ k B, f.blocks[k]? = some B → blockOk B (fun v => ¬ Bare f v k)) ∧ phisOk f

theorem Sep.mem {h0 h : Heap} {L : List As} {A : As} (S : Fw.Sep h0 h L) (hA : A ∈ L) : ∃ f, A h f := by
  obtain ⟨s, t, rfl⟩ := List.append_of_mem hA
  exact (S.perm (L' := A :: (s ++ t)) List.perm_middle).get
theorem aput_new {α : Type} {k : ByteArray} {x : α} : ∀ {l : List (ByteArray × α)}, k ∉ l.map Prod.fst → aput k x l = l ++ [(k, x)]
  | [], _ => rfl
  | p :: l, h => by
    simp only [List.map_cons, List.mem_cons, not_or] at h
    unfold aput
    rw [if_neg h.1, aput_new h.2]
    rfl
theorem aget_zip {n : ByteArray} : ∀ {l : List MBlock} {bs : List Nat}, l.length = bs.length → aget n ((l.map (·.name)).zip bs) = (l.findIdx? fun b => b.name.toList == n.toList).bind fun i => bs[i]?
  | [], bs, _ => by simp [aget]
  | b :: l, [], h => by simp at h
  | b :: l, x :: bs, h => by
    rw [List.map_cons, List.zip_cons_cons, List.findIdx?_cons]
    unfold aget
    by_cases e : n = b.name
    · rw [if_pos e, if_pos (by rw [toList_beq]; simp [e])]
      rfl
    · rw [if_neg e, if_neg (by rw [toList_beq]; simp; exact fun h => e h.symm), aget_zip (by simpa using h)]
      cases l.findIdx? fun b => b.name.toList == n.toList with
      | none => rfl
      | some i => simp
theorem zip_snoc {α β : Type} : ∀ {l : List α} {r : List β} {a : α} {b : β}, l.length = r.length → (l ++ [a]).zip (r ++ [b]) = l.zip r ++ [(a, b)]
  | [], [], _, _, _ => rfl
  | x :: l, [], _, _, h => by simp at h
  | [], y :: r, _, _, h => by simp at h
  | x :: l, y :: r, a, b, h => by
    have := zip_snoc (l := l) (r := r) (a := a) (b := b) (by simpa using h)
    simp [this]

set_option maxHeartbeats 2000000 in
theorem asgRight_calls {h : Heap} {cs : Array Value} {f : MFunc} (hf : rFunc.rv h cs.toList f) (F : AsgF f) (hnm : ∀ i (hi : i < f.blocks.length), place f f.blocks[i].name = some i) (hU : ∀ B ∈ f.blocks, ∀ x ∈ B.code, Sz (usesN x)) :
    ACalls Tryd.prog F_assign_Right [.agg cs] h (fun v h' => ∃ t : Bool, v = .bool t ∧ (t = true ↔ rightA f) ∧ Old h h') := by
  refine assign_Right_of ?_
  unfold assign_Right
  refine new_rv hf fun p h1 o1 hp => ?_
  refine mkm_rule (vf := vfM) (Fw.Sep.start h1) fun m h2 o2 S2 => ?_
  obtain ⟨_, m, _, _, rfl, _⟩ := S2.get
  refine ld_agg hp o2.ext rfl fun c2 hc2 => ?_
  refine (asgAll_calls (rFunc.ext hc2 o2.ext) F.n F.to F.pos F.come).mono ?_
  rintro u h3 ⟨r, Ms, rfl, hlen, hMs, T3⟩
  refine ⟨_, rfl, ?_⟩
  have S3 : Fw.Sep h1 h3 (ownSl si_Lassign_set (eMS vfB) r Ms :: [ownM vfM (some m) []]) := S2.frame T3
  have hrl := S3.rd.lenEq
  have hn := F.n
  refine loop_intro (fun n (q : Int) h' => ∃ (i : Nat) (Ns : List (Nat × MSet)), q = i ∧ i ≤ f.blocks.length ∧ n = f.blocks.length - i ∧ Ns.length = i ∧ (∀ k B, k < i → f.blocks[k]? = some B → blockOk B (fun v => ¬ Bare f v k)) ∧
      (∀ k (hk : k < Ns.length) B, f.blocks[k]? = some B → IsSet Ns[k].2 (outV f k B)) ∧
      Fw.Sep h1 h' (ownM vfM (some m) (((f.blocks.take i).map (·.name)).zip (Ns.map Prod.fst)) :: ownSl si_Lassign_set (eMS vfB) r Ms :: (Ns.map fun q => ownM vfB (some q.1) q.2))) f.blocks.length
    ⟨0, [], rfl, by omega, by omega, rfl, fun k B hk => by omega, by simp, S3.swap⟩ ?_
  clear S2 T3 S3
  rintro _ _ _ h4 ⟨i, Ns, rfl, hi, rfl, hNl, hok, hNs, S⟩
  have e4 := S.old.ext
  refine ifB_intro (fun hc => ?_) (fun hc => ?_)
  · have hil : i < Ms.length := by rw [hrl] at hc; simpa using hc
    have hib : i < f.blocks.length := by omega
    have hB := List.getElem?_eq_getElem hib
    obtain ⟨b, hcell, Sm, _⟩ := map_atS S.swap hil
    refine idx_rdN S.swap.rd rfl hil fun p1 hp1 _ => ?_
    refine ld_one (k := .map) (x := some b) (hcell p1 hp1) ?_
    refine ld_lst (fld_blocks.rd hp) e4 fun lb hlb => ?_
    refine idx_rdN hlb rfl hib fun p2 _ hp2 => ld_agg hp2 e4 rfl fun c3 hc3 => ?_
    refine (block_calls Sm.rdG (hMs i hil) (rBlock.ext hc3 e4) (hU _ (List.getElem_mem hib))).mono ?_
    rintro v h5 ⟨t, rfl, ht, o5⟩
    refine ⟨t, rfl, ?_⟩
    cases t with
    | false => exact ifB_true rfl ⟨false, rfl, ⟨fun h => (by cases h), fun h => absurd (ht.2 (h.1 i _ hB)) (by simp)⟩, o1.trans (S.old.trans o5)⟩
    | true =>
    have S5 := S.grow o5
    have e5 := S5.old.ext
    refine ifB_false rfl ?_
    refine ld_lst (fld_blocks.rd hp) e5 fun lb hlb => ?_
    refine idx_rdN hlb rfl hib fun p3 _ hp3 => ?_
    refine ld_str (fld_name.rd hp3) e5 ?_
    refine ld_lst (fld_blocks.rd hp) e5 fun lb hlb => ?_
    refine idx_rdN hlb rfl hib fun p4 _ hp4 => ld_agg hp4 e5 rfl fun c7 hc7 => ?_
    refine (setOver_calls (Sm.rdG.old o5) (hMs i hil) (rBlock.ext hc7 e5)).mono ?_
    rintro v h6 ⟨b5, M5, rfl, hM5, T6⟩
    refine ⟨some b5, rfl, T6.old.ext, ?_⟩
    have S6 := (S5.frame T6).swap
    refine mup_mono (mup_ext (mup_rule (k := f.blocks[i].name) (x := b5) (K := fun h' => Fw.Sep h1 h' (ownM vfM (some m) (aput f.blocks[i].name b5 (((f.blocks.take i).map (·.name)).zip (Ns.map Prod.fst))) :: ownM vfB (some b5) M5 :: ownSl si_Lassign_set (eMS vfB) r Ms :: (Ns.map fun q => ownM vfB (some q.1) q.2))) S6 rfl fun _ S7 => S7)) fun h7 ⟨S7, e7⟩ => ?_
    refine ⟨e7, ar_i64 (by omega) (by omega) ⟨f.blocks.length - (i + 1), by omega, i + 1, Ns ++ [(b5, M5)], rfl, by omega, rfl, by simp [hNl], fun k B hk hB' => ?_, fun k hk B hB' => ?_, ?_⟩⟩
    · by_cases e : k = i
      · subst e
        rw [hB] at hB'
        injection hB' with hB'
        subst hB'
        exact ht.1 rfl
      · exact hok k B (by omega) hB'
    · by_cases e : k < Ns.length
      · rw [List.getElem_append_left e]
        exact hNs k e B hB'
      · have : k = Ns.length := by simp at hk; omega
        subst this
        rw [hNl, hB] at hB'
        injection hB' with hB'
        subst hB'
        have : (Ns ++ [(b5, M5)])[Ns.length]'hk = (b5, M5) := by simp
        rw [this, hNl]
        exact hM5
    · have hnew : f.blocks[i].name ∉ (((f.blocks.take i).map (·.name)).zip (Ns.map Prod.fst)).map Prod.fst := by
        rw [List.map_fst_zip (by simp; omega)]
        intro hm
        obtain ⟨c, hc, he⟩ := List.mem_map.1 hm
        obtain ⟨j, hj, rfl⟩ := List.getElem_of_mem hc
        rw [List.length_take] at hj
        rw [List.getElem_take] at he
        have h1 := hnm j (by omega)
        rw [he, hnm i hib] at h1
        injection h1 with h1
        omega
      rw [aput_new hnew] at S7
      have ez : ((f.blocks.take (i + 1)).map (·.name)).zip ((Ns ++ [(b5, M5)]).map Prod.fst) = ((f.blocks.take i).map (·.name)).zip (Ns.map Prod.fst) ++ [(f.blocks[i].name, b5)] := by
        rw [List.take_succ_eq_append_getElem hib, List.map_append, List.map_append]
        exact zip_snoc (by simp; omega)
      rw [ez, List.map_append]
      refine S7.perm (List.Perm.cons _ ?_)
      exact (List.perm_append_singleton (ownM vfB (some b5) M5) (ownSl si_Lassign_set (eMS vfB) r Ms :: (Ns.map fun q => ownM vfB (some q.1) q.2))).symm
  · have hil : i = f.blocks.length := by
      have hc := of_decide_eq_false hc
      omega
    subst hil
    rw [List.take_length] at S
    refine ld_agg hp e4 rfl fun c8 hc8 => ?_
    have R : Outs f ((f.blocks.map (·.name)).zip (Ns.map Prod.fst)) h4 := by
      refine ⟨fun n hn' => ?_, fun n q B hq hB => ?_⟩
      · rw [aget_zip (by simp [hNl])]
        unfold place at hn'
        rw [hn']
        rfl
      · have hql := place_lt hq
        have hqN : q < Ns.length := by omega
        refine ⟨Ns[q].1, Ns[q].2, ?_, ?_, hNs q hqN B hB⟩
        · rw [aget_zip (by simp [hNl])]
          unfold place at hq
          rw [hq]
          simp [hqN]
        · obtain ⟨g, b, es, clock, e, hb, he, _⟩ := Sep.mem S (A := ownM vfB (some Ns[q].1) Ns[q].2) (by
            simp only [List.mem_cons, List.mem_map]
            exact .inr (.inr ⟨Ns[q], List.getElem_mem hqN, rfl⟩))
          exact ⟨b, es, clock, e, hb, he⟩
    refine (phis_calls (rFunc.ext hc8 e4) S.rdM R).mono ?_
    rintro v h8 ⟨t, rfl, ht, o8⟩
    refine ⟨t, rfl, t, rfl, ?_, o1.trans (S.old.trans o8)⟩
    rw [ht]
    exact ⟨fun h => ⟨fun k B hB => hok k B (List.getElem?_eq_some_iff.1 hB).1 hB, h⟩, fun h => h.2⟩

end Go.Proofs.YtojdbliehgejbaaDoor
