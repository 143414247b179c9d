/-
  shape.Phis.
-/
import Derived.Test.YtgdfpdfkghmdpaaFnPhis2
namespace Go.Proofs.Ytgdfpdfkghmdpaa
open Go.Fw Go.Pl Go.Pl.Api

theorem Sep.rdMS {α : Type} {ri : SlI} {E : Elem α} {h0 h : Heap} {L : List As} {m : Option Nat} {l : List (ByteArray × Option (List α))} (S : Fw.Sep h0 h (ownMS ri E m l :: L)) : Fw.rdMS E h m l := by
  obtain ⟨f, b, es, clock, f', rfl, hb, he, _⟩ := S.get
  exact ⟨b, es, clock, rfl, hb, he.keys, he.rdAll fun ho => ho.rd⟩

def PhisP (f : MFunc) : Prop := ∀ i (hi : i < f.blocks.length), (i = 0 → f.blocks[i].phis = []) ∧ ∀ x ∈ f.blocks[i].phis, PhiP x (whoT f f.blocks.length f.blocks[i].name)

theorem phis_calls {h : Heap} {cs : Array Value} {f : MFunc} (hf : rFunc.rv h cs.toList f) (hn : f.blocks.length ≤ 1000) (hto : ∀ b ∈ f.blocks, b.term.to.length ≤ 8) :
    ACalls Try.prog F_shape_Phis [.agg cs] h (fun v h' => ∃ b, v = .bool b ∧ Old h h' ∧ (b = true ↔ PhisP f)) := by
  refine shape_Phis_of ?_
  unfold shape_Phis
  refine new_rv hf fun p h1 o1 hp => ?_
  have hb := fld_blocks.rd hp
  refine ld_agg hp (hExt.refl _) rfl fun cs1 hcs1 => ?_
  refine (from_calls hcs1 hn hto).mono ?_
  rintro v h2 ⟨m, l, rfl, hl, S⟩
  refine ⟨m, rfl, ?_⟩
  have hm := Sep.rdMS S
  refine ld_lst hb S.old.ext fun x1 hx1 => ?_
  have hx1l := hx1.lenEq
  have no : ∀ h', Old h2 h' → ¬ PhisP f → ∃ b, (Value.bool false) = .bool b ∧ Old h h' ∧ (b = true ↔ PhisP f) := fun h' o hr => ⟨false, rfl, (o1.trans S.old).trans o, fun h => (by cases h), fun h => absurd h hr⟩
  refine loop_intro (fun q t h' => ∃ i : Nat, t = i ∧ i ≤ f.blocks.length ∧ q = f.blocks.length - i ∧ Old h2 h' ∧ ∀ j (hj : j < i) (hl : j < f.blocks.length), (j = 0 → f.blocks[j].phis = []) ∧ ∀ x ∈ f.blocks[j].phis, PhiP x (whoT f f.blocks.length f.blocks[j].name)) f.blocks.length
    ⟨0, rfl, by omega, by omega, .refl _, fun j hj => by omega⟩ ?_
  rintro q _ t h3 ⟨i, rfl, hi, rfl, o3, hyes⟩
  have o13 := S.old.trans o3
  refine ifB_intro (fun hc => ?_) (fun hc => ?_)
  · have hil : i < f.blocks.length := by rw [hx1l] at hc; simpa using hc
    refine idx_rdN hx1 rfl hil fun p1 _ hp1 => ?_
    refine ld_agg hp1 o13.ext rfl fun cs2 hcs2 => ?_
    refine new_stX hcs2 o13.ext rfl rfl fun p2 h5 o5 hp2 => ?_
    have o25 := o3.trans o5
    intro k hk
    have rest : (i = 0 → f.blocks[i].phis = []) → k false h5 := by
      intro h0
      refine hk _ _ fun _ => ifB_false rfl ?_
      refine ld_lstX (fld_phis.bx hp2) fun x3 hx3 => ?_
      have hx3l := hx3.lenEq
      have hx3b := hx3.bound
      refine loop_intro (fun q t h' => ∃ j : Nat, t = j ∧ j ≤ f.blocks[i].phis.length ∧ q = f.blocks[i].phis.length - j ∧ Old h5 h' ∧ ∀ z (hz : z < j) (hl : z < f.blocks[i].phis.length), PhiP f.blocks[i].phis[z] (whoT f f.blocks.length f.blocks[i].name)) f.blocks[i].phis.length
        ⟨0, rfl, by omega, by omega, .refl _, fun z hz => by omega⟩ ?_
      rintro q _ t h7 ⟨j, rfl, hj, rfl, o7, hph⟩
      have o27 := o25.trans o7
      have o17 := S.old.trans o27
      refine ifB_intro (fun hc => ?_) (fun hc => ?_)
      · have hjl : j < f.blocks[i].phis.length := by rw [hx3l] at hc; simpa using hc
        refine idx_rdN hx3 rfl hjl fun p3 _ hp3 => ?_
        refine ld_agg hp3 o17.ext rfl fun cs4 hcs4 => ?_
        refine new_st (rPhi.ext hcs4 o17.ext) rfl rfl fun p4 h9 o9 hp4 => ?_
        have o29 := o27.trans o9
        refine ld_agg hp4 (hExt.refl _) rfl fun cs5 hcs5 => ?_
        refine ld_strX (fld_name.bx (RV.bx_old (RV.bx_old hp2 o7) o9)) ?_
        refine mlk_rd (hm.old o29) (hl _).1 fun y hy => ?_
        have hw : ((aget f.blocks[i].name l).getD none).getD [] = whoT f f.blocks.length f.blocks[i].name := (hl f.blocks[i].name).2
        rw [hw] at hy
        refine (phi_calls hcs5 hy).mono ?_
        rintro v h10 ⟨b, rfl, o10, hbp⟩
        refine ⟨_, rfl, ?_⟩
        have o20 := o29.trans o10
        cases b with
        | false => exact ifB_true rfl (no _ o20 fun r => by have := hbp.2 ((r i hil).2 _ (List.getElem_mem hjl)); cases this)
        | true =>
          refine ifB_false rfl (ar_i64 (by omega) (by omega) ⟨f.blocks[i].phis.length - (j + 1), by omega, j + 1, rfl, by omega, rfl, (o7.trans o9).trans o10, fun z hz hlz => ?_⟩)
          by_cases e : z = j
          · subst e; exact hbp.1 rfl
          · exact hph z (by omega) hlz
      · have hjl : f.blocks[i].phis.length ≤ j := by rw [hx3l] at hc; simpa using hc
        refine ar_i64 (by omega) (by omega) ⟨f.blocks.length - (i + 1), by omega, i + 1, rfl, by omega, rfl, o27, fun z hz hlz => ?_⟩
        by_cases e : z = i
        · subst e
          refine ⟨h0, fun x hx => ?_⟩
          obtain ⟨w, hw, rfl⟩ := List.getElem_of_mem hx
          exact hph w (by omega) hw
        · exact hyes z (by omega) hlz
    refine ifB_intro (fun hz => ?_) (fun hz => rest fun e => by subst e; simp at hz)
    have hi0 : i = 0 := by
      have : (i : Int) = 0 := by simpa using hz
      omega
    refine ld_lstX (fld_phis.bx hp2) fun x7 hx7 => ?_
    have hx7l := hx7.lenEq
    cases hd : decide ((x7.len : Int) > 0) with
    | true =>
      refine hk _ _ fun _ => ifB_true rfl (no _ o25 fun r => ?_)
      have h1 := (r i hil).1 hi0
      have := of_decide_eq_true hd
      rw [h1] at hx7l
      simp at hx7l
      omega
    | false =>
      refine rest fun _ => ?_
      have := of_decide_eq_false hd
      exact List.length_eq_zero_iff.1 (by omega)
  · have hil : f.blocks.length ≤ i := by rw [hx1l] at hc; simpa using hc
    exact ⟨true, rfl, o1.trans o13, fun _ j hj => hyes j (by omega) hj, fun _ => rfl⟩

end Go.Proofs.Ytgdfpdfkghmdpaa
