/-
  ShapeCome's walk.
-/
import Derived.Test.YtgdfpdfkghmdpaaFnShapeLaw
namespace Go.Proofs.Ytgdfpdfkghmdpaa
open Go.Fw Go.Pl Go.Pl.Api

theorem open_mono : ∀ {A B : List Bool}, A.length = B.length → (∀ i, A.getD i false = true → B.getD i false = true) → open' B ≤ open' A ∧ (open' A ≤ open' B → A = B)
  | [], [], _, _ => ⟨Nat.le_refl _, fun _ => rfl⟩
  | a :: A, b :: B, hl, h => by
    have ih := open_mono (A := A) (B := B) (by simpa using hl) fun i hi => h (i + 1) hi
    have h0 := h 0
    have e : ∀ (x : Bool) (l : List Bool), open' (x :: l) = open' l + if x = false then 1 else 0 := fun x l => by
      unfold open'; rw [List.count_cons]; cases x <;> simp
    rw [e, e]
    cases a with
    | true =>
      have hb : b = true := h0 rfl
      subst hb
      simp only [if_neg, Bool.true_eq_false, Nat.add_zero]
      exact ⟨ih.1, fun hh => by rw [ih.2 hh]⟩
    | false =>
      cases b with
      | true =>
        simp only [if_true, Bool.true_eq_false, if_false]
        exact ⟨by omega, fun hh => by omega⟩
      | false =>
        simp only [if_true]
        exact ⟨by omega, fun hh => by rw [ih.2 (by omega)]⟩

theorem open_zero {B : List Bool} (h : open' B = 0) : ∀ i (hi : i < B.length), B[i] = true := by
  intro i hi
  cases e : B[i] with
  | true => rfl
  | false =>
    have : 0 < B.count false := List.count_pos_iff.2 (by rw [← e]; exact List.getElem_mem hi)
    unfold open' at h
    omega

/-- Closed under ends: all. -/
theorem right_all {f : MFunc} (r : RightP f) {B : List Bool} (hl : B.length = f.blocks.length) (h0 : B.getD 0 false = true)
    (hc : ∀ i (hi : i < f.blocks.length), B.getD i false = true → ∀ t ∈ f.blocks[i].term.to, ∀ k, place f t = some k → B.getD k false = true) : open' B = 0 := by
  have hG : 0 < (graphF f).length := by rw [graphF_len]; exact r.pos
  have all : ∀ k, Rch (graphF f) k → B.getD k false = true := by
    intro k hk
    induction hk with
    | zero _ => exact h0
    | step hi hl2 hk2 ih =>
      rename_i i k
      have hin := hi.lt
      rw [graphF_len] at hin
      rw [← leadsF_eq] at hl2
      unfold leadsF at hl2
      rw [List.getElem?_eq_getElem hin] at hl2
      simp only [Option.map_some, Option.getD_some] at hl2
      obtain ⟨t, ht, hk⟩ := List.any_eq_true.1 hl2
      cases hpt : place f t with
      | none => rw [hpt] at hk; cases hk
      | some n =>
        rw [hpt] at hk
        have : (n : Int) = k := by simpa using hk
        have : n = k := by omega
        subst this
        exact hc _ hin ih t ht _ hpt
  unfold open'
  rw [List.count_eq_zero]
  intro hm
  obtain ⟨i, hi, e⟩ := List.getElem_of_mem hm
  have hcl := come_len (graphF f)
  rw [graphF_len] at hcl
  have hic : i < (comeOf (graphF f)).length := by omega
  have h1 := r.come _ (List.getElem_mem hic)
  have h2 := all i ((come_reach hG i).1 (by rw [getD_lt hic]; exact h1))
  rw [getD_lt hi, e] at h2
  cases h2

theorem shapeCome_calls {h : Heap} {cs : Array Value} {f : MFunc} (hf : rFunc.rv h cs.toList f) :
    ACalls Try.prog F_lateenlaw08_ShapeCome [.agg cs] h (fun v h' => v = .bool true ∧ Old h h') := by
  refine lateenlaw08_ShapeCome_of ?_
  unfold lateenlaw08_ShapeCome
  refine new_rv hf fun p h1 o1 hp => ?_
  have hb := fld_blocks.rd hp
  intro k hk
  refine awake_calls.mono ?_
  rintro v h2 ⟨rfl, o2⟩
  refine ⟨_, rfl, ifB_false rfl ?_⟩
  refine ld_agg hp o2.ext rfl fun cs2 hcs2 => ?_
  refine (refFew_calls (rFunc.ext hcs2 o2.ext)).mono ?_
  rintro v h3 ⟨b, rfl, o3, hfew⟩
  refine ⟨_, rfl, ?_⟩
  have o13 := o2.trans o3
  cases b with
  | false => exact ifB_true rfl (hk _ _ fun _ => ifB_true rfl (awake_end (o1.trans o13)))
  | true =>
    have few := hfew rfl
    have h60 := few.blocks
    refine ifB_false rfl ?_
    refine ld_agg hp o13.ext rfl fun cs3 hcs3 => ?_
    refine (right_calls (rFunc.ext hcs3 o13.ext) (by omega)).mono ?_
    rintro v h4 ⟨rfl, o4⟩
    refine ⟨_, rfl, ?_⟩
    have o14 := o13.trans o4
    cases hr : rightB f with
    | false => exact hk _ _ fun _ => ifB_true rfl (awake_end (o1.trans o14))
    | true =>
      have r := rightB_iff.1 hr
      have hpos := r.pos
      refine hk _ _ fun _ => ifB_false rfl ?_
      clear hk k
      refine ld_lst hb o14.ext fun x hx => ?_
      have hxl := hx.lenEq
      refine ⟨rfl, ?_⟩
      refine mk_rule (x := false) (E := eBool) ((Sep.start h1).grow o14) rfl (fun h => own_bool false h) (by omega) (by omega) (by simp only [si_Lbool]; omega) fun s h5 S => ?_
      rw [hxl, Int.toNat_natCast] at S
      have h0 : 0 < (List.replicate f.blocks.length false).length := by simpa using hpos
      refine idx_rdN S.rd rfl h0 fun p1 hat _ => ?_
      refine st_flat S (x := true) (own_bool true) hat rfl h0 fun h6 S6 => ?_
      clear S
      have hopen : open' ((List.replicate f.blocks.length false).set 0 true) + 1 = f.blocks.length := by
        rw [count_set h0 (by simp)]; unfold open'; simp
      refine loop_intro (fun q t h' => ∃ (c : Nat) (B : List Bool), t = c ∧ c ≤ f.blocks.length ∧ q = f.blocks.length - c ∧ B.length = f.blocks.length ∧ B.getD 0 false = true ∧ (open' B = 0 ∨ open' B + c + 1 ≤ f.blocks.length) ∧ Sep h1 h' [ownSl si_Lbool eBool s B]) f.blocks.length
        ⟨0, (List.replicate f.blocks.length false).set 0 true, rfl, by omega, by omega, by simp, by rw [getD_set h0]; simp, .inr (by omega), S6⟩ ?_
      clear S6
      rintro _ _ t h7 ⟨c, B0, rfl, hc0, rfl, hB0, hz0, hcnt, S⟩
      refine ld_lst hb S.old.ext fun x1 hx1 => ?_
      have hx1l := hx1.lenEq
      refine ifB_intro (fun hc => ?_) (fun hc => ?_)
      case refine_2 =>
        have hcl : f.blocks.length ≤ c := by rw [hx1l] at hc; simpa using hc
        have ho : open' B0 = 0 := by omega
        have hslen := S.rd.lenEq
        refine loop_intro (fun q t h' => ∃ j : Nat, t = j ∧ j ≤ f.blocks.length ∧ q = f.blocks.length - j ∧ h' = h7) f.blocks.length ⟨0, rfl, by omega, by omega, rfl⟩ ?_
        rintro _ _ t h8 ⟨j, rfl, hj, rfl, rfl⟩
        refine ifB_intro (fun hc => ?_) (fun hc => ⟨rfl, o1.trans S.old⟩)
        have hjl : j < B0.length := by rw [hslen] at hc; simpa using hc
        refine idx_rdN S.rd rfl hjl fun p8 _ hp8 => ld_one hp8 ?_
        refine ifB_false (by rw [open_zero ho j hjl]; rfl) ?_
        exact ar_i64 (by omega) (by omega) ⟨f.blocks.length - (j + 1), by omega, j + 1, rfl, by omega, rfl, rfl⟩
      have hcl : c < f.blocks.length := by rw [hx1l] at hc; simpa using hc
      refine loop_intro (fun q t h' => ∃ (i : Nat) (B : List Bool), t = i ∧ i ≤ f.blocks.length ∧ q = f.blocks.length - i ∧ B.length = f.blocks.length ∧ (∀ z, B0.getD z false = true → B.getD z false = true) ∧
          (∀ j (hj : j < i) (hl : j < f.blocks.length), B0.getD j false = true → ∀ t ∈ f.blocks[j].term.to, ∀ k, place f t = some k → B.getD k false = true) ∧ Sep h1 h' [ownSl si_Lbool eBool s B]) f.blocks.length
        ⟨0, B0, rfl, by omega, by omega, hB0, fun _ h => h, fun j hj => by omega, S⟩ ?_
      clear S
      rintro _ _ t h8 ⟨i, B, rfl, hi, rfl, hB, hsup, hdone, S⟩
      refine ld_lst hb S.old.ext fun x2 hx2 => ?_
      have hx2l := hx2.lenEq
      refine ifB_intro (fun hc => ?_) (fun hc => ?_)
      case refine_2 =>
        have hil : f.blocks.length ≤ i := by rw [hx2l] at hc; simpa using hc
        have hm := open_mono (A := B0) (B := B) (by omega) hsup
        refine ar_i64 (by omega) (by omega) ⟨f.blocks.length - (c + 1), by omega, c + 1, B, rfl, by omega, rfl, hB, hsup 0 hz0, ?_, S⟩
        rcases Nat.lt_or_ge (open' B) (open' B0) with hlt | hge
        · rcases hcnt with h | h
          · omega
          · right; omega
        · have e := hm.2 hge
          subst e
          exact .inl (right_all r hB hz0 fun j hj h1 t ht k hk => hdone j (by omega) hj h1 t ht k hk)
      have hil : i < f.blocks.length := by rw [hx2l] at hc; simpa using hc
      have h8t := few.to _ (List.getElem_mem hil)
      refine ld_lst hb S.old.ext fun x3 hx3 => ?_
      refine idx_rdN hx3 rfl hil fun p2 _ hp2 => ?_
      refine ld_lst (to_rd hp2) S.old.ext fun x4 hx4 => ?_
      have hx4l := hx4.lenEq
      refine loop_intro (fun q t h' => ∃ (k : Nat) (B : List Bool), t = k ∧ k ≤ f.blocks[i].term.to.length ∧ q = f.blocks[i].term.to.length - k ∧ B.length = f.blocks.length ∧ (∀ z, B0.getD z false = true → B.getD z false = true) ∧
          (∀ j (hj : j < i) (hl : j < f.blocks.length), B0.getD j false = true → ∀ t ∈ f.blocks[j].term.to, ∀ k, place f t = some k → B.getD k false = true) ∧ (B0.getD i false = true → ∀ t ∈ f.blocks[i].term.to.take k, ∀ k, place f t = some k → B.getD k false = true) ∧ Sep h1 h' [ownSl si_Lbool eBool s B]) f.blocks[i].term.to.length
        ⟨0, B, rfl, by omega, by omega, hB, hsup, hdone, by simp, S⟩ ?_
      clear S hB hsup hdone B
      rintro _ _ t h9 ⟨k, B, rfl, hk, rfl, hB, hsup, hdone, hends, S⟩
      refine ifB_intro (fun hc => ?_) (fun hc => ?_)
      case refine_2 =>
        have hkl : f.blocks[i].term.to.length ≤ k := by rw [hx4l] at hc; simpa using hc
        rw [List.take_of_length_le hkl] at hends
        refine ar_i64 (by omega) (by omega) ⟨f.blocks.length - (i + 1), by omega, i + 1, B, rfl, by omega, rfl, hB, hsup, fun j hj hl => ?_, S⟩
        by_cases e : j = i
        · subst e; exact hends
        · exact hdone j (by omega) hl
      have hkl : k < f.blocks[i].term.to.length := by rw [hx4l] at hc; simpa using hc
      obtain ⟨n, hpn, hn0⟩ := (r.ends i hil).1 _ (List.getElem_mem hkl)
      have hnl := place_lt hpn
      intro k2 hk2
      refine ld_agg hp S.old.ext rfl fun cs5 hcs5 => ?_
      refine idx_rdN hx4 rfl hkl fun p3 _ hp3 => ?_
      refine ld_str hp3 S.old.ext ?_
      refine (place_calls (rFunc.ext hcs5 S.old.ext) _).mono ?_
      rintro v h10 ⟨rfl, o10⟩
      have S10 := S.grow o10
      refine place_as (fun n' hn' => ?_) (fun hn' => by rw [hpn] at hn'; cases hn')
      rw [hpn] at hn'
      injection hn' with hn'
      subst hn'
      intro k3 hk3
      refine ifB_false rfl ?_
      have hne : ((n : Int) == 0) = false := by simpa using hn0
      rw [hne]
      refine hk3 _ _ fun _ => ifB_false rfl ?_
      have hnB : n < B.length := by omega
      have hiB : i < B.length := by omega
      have fin : ∀ (y : Bool) (h' : Heap), (B.getD n false = true → y = true) → (y = B[n] ∨ y = true ∨ y = B[i]) → (B.getD i false = true → y = true) → Sep h1 h' [ownSl si_Lbool eBool s (B.set n y)] → k2 () h' := fun y h' hy1 _ hy2 S' => by
        have hset : ∀ z, (B.set n y).getD z false = if n = z then y else B.getD z false := fun z => by
          rw [List.getD_eq_getElem?_getD, List.getD_eq_getElem?_getD, List.getElem?_set]
          split
          · rename_i h; subst h; simp [hnB]
          · rfl
        have grow : ∀ z, B.getD z false = true → (B.set n y).getD z false = true := fun z hz => by
          rw [hset]; split
          · rename_i e; subst e; exact hy1 hz
          · exact hz
        refine hk2 _ _ fun _ => ar_i64 (by omega) (by omega) ⟨f.blocks[i].term.to.length - (k + 1), by omega, k + 1, _, rfl, by omega, rfl, by simpa using hB, fun z hz => grow z (hsup z hz), fun j hj hl hb0 t ht q hq => grow q (hdone j hj hl hb0 t ht q hq), fun hb0 t ht q hq => ?_, S'⟩
        rw [List.take_succ_eq_append_getElem hkl] at ht
        rcases List.mem_append.1 ht with ht | ht
        · exact grow q (hends hb0 t ht q hq)
        · simp at ht; subst ht
          rw [hpn] at hq
          injection hq with hq
          subst hq
          rw [hset, if_pos rfl]
          exact hy2 (hsup i hb0)
      refine idx_rdN S10.rd rfl hnB fun p4 hat4 hp4 => ld_one hp4 ?_
      refine ifB_intro (fun ht => ?_) (fun hfa => ?_)
      · refine idx_rdN S10.rd rfl hnB fun p5 hat5 _ => ?_
        refine st_flat S10 (x := true) (own_bool true) hat5 rfl hnB fun h12 S12 => fin true _ (fun _ => rfl) (.inr (.inl rfl)) (fun _ => rfl) S12
      · refine idx_rdN S10.rd rfl hiB fun p6 _ hp6 => ld_one hp6 ?_
        refine idx_rdN S10.rd rfl hnB fun p7 hat7 _ => ?_
        refine st_flat S10 (x := B[i]) (own_bool _) hat7 rfl hnB fun h13 S13 => fin B[i] _ (fun hh => ?_) (.inr (.inr rfl)) (fun hh => ?_) S13
        · rw [getD_lt hnB] at hh; rw [hh] at hfa; cases hfa
        · rw [getD_lt hiB] at hh; exact hh

end Go.Proofs.Ytgdfpdfkghmdpaa
