/-
  ShapeLess' walk.
-/
import Derived.Test.YtgdfpdfkghmdpaaFnRefPhis
import Derived.Test.YtgdfpdfkghmdpaaFwFree
namespace Go.Proofs.Ytgdfpdfkghmdpaa
open Go.Fw Go.Pl Go.Pl.Api

abbrev b_1 : ByteArray := ⟨#[98, 32, 49]⟩
def withB (f : MFunc) (bs : List MBlock) : MFunc := { f with blocks := bs }
theorem place_more {f : MFunc} {bs : List MBlock} {t : ByteArray} {k : Nat} (h : place f t = some k) : place (withB f (f.blocks ++ bs)) t = some k := by
  unfold place at h ⊢
  show (f.blocks ++ bs).findIdx? _ = _
  rw [List.findIdx?_append, h]
  rfl
theorem right_more {f : MFunc} (r : RightP f) : ¬ RightP (withB f (f.blocks ++ [jumpB b_1 []])) := by
  intro r'
  have hlen : (withB f (f.blocks ++ [jumpB b_1 []])).blocks.length = f.blocks.length + 1 := by simp [withB]
  have hlast : (withB f (f.blocks ++ [jumpB b_1 []])).blocks[f.blocks.length]'(by omega) = jumpB b_1 [] := by simp [withB]
  have hrch : Rch (graphF (withB f (f.blocks ++ [jumpB b_1 []]))) f.blocks.length := by
    have hcl := come_len (graphF (withB f (f.blocks ++ [jumpB b_1 []])))
    rw [graphF_len, hlen] at hcl
    have hi : f.blocks.length < (comeOf (graphF (withB f (f.blocks ++ [jumpB b_1 []])))).length := by omega
    refine (come_reach (by rw [graphF_len, hlen]; omega) _).1 ?_
    rw [getD_lt hi]
    exact r'.come _ (List.getElem_mem hi)
  have hpos := r.pos
  generalize hN : f.blocks.length = N at hrch
  cases hrch with
  | zero _ => omega
  | step hi hl hk =>
    rename_i i
    have hin := hi.lt
    rw [graphF_len, hlen] at hin
    rw [← leadsF_eq] at hl
    unfold leadsF at hl
    rw [List.getElem?_eq_getElem (by omega)] at hl
    simp only [Option.map_some, Option.getD_some] at hl
    obtain ⟨t, ht, hp⟩ := List.any_eq_true.1 hl
    rcases Nat.lt_or_ge i f.blocks.length with h | h
    · have e : (withB f (f.blocks ++ [jumpB b_1 []])).blocks[i]'(by omega) = f.blocks[i] := by simp [withB, h]
      rw [e] at ht
      obtain ⟨k, hk1, _⟩ := (r.ends i h).1 t ht
      have hkl := place_lt hk1
      rw [place_more hk1] at hp
      have : (k : Int) = N := by simpa using hp
      omega
    · have : i = f.blocks.length := by omega
      subst this
      rw [hlast] at ht
      cases ht
theorem right_less {f : MFunc} (r : RightP f) {k i : Nat} (hk : k < f.blocks.length) (hi : i < f.blocks.length) (hne : i ≠ k) (hl : leadsF f i k = true) : ¬ RightP (withB f (f.blocks.take k ++ f.blocks.drop (k + 1))) := by
  intro r'
  unfold leadsF at hl
  rw [List.getElem?_eq_getElem hi] at hl
  simp only [Option.map_some, Option.getD_some] at hl
  obtain ⟨t, ht, hp⟩ := List.any_eq_true.1 hl
  cases hpt : place f t with
  | none => rw [hpt] at hp; cases hp
  | some q =>
    rw [hpt] at hp
    have hq : q = k := by
      have : (q : Int) = k := by simpa using hp
      omega
    subst hq
    obtain ⟨_, hname⟩ := place_name hpt
    have hmem : f.blocks[i] ∈ (withB f (f.blocks.take q ++ f.blocks.drop (q + 1))).blocks := by
      show f.blocks[i] ∈ f.blocks.take q ++ f.blocks.drop (q + 1)
      rcases Nat.lt_or_ge i q with h | h
      · exact List.mem_append.2 (.inl (List.mem_take_iff_getElem.2 ⟨i, by omega, rfl⟩))
      · refine List.mem_append.2 (.inr (List.mem_drop_iff_getElem.2 ⟨i - (q + 1), by omega, ?_⟩))
        congr 1; omega
    obtain ⟨i', hi', e⟩ := List.getElem_of_mem hmem
    obtain ⟨k', hk', _⟩ := (r'.ends i' hi').1 t (by rw [e]; exact ht)
    obtain ⟨hk'l, hname'⟩ := place_name hk'
    have hm2 : (withB f (f.blocks.take q ++ f.blocks.drop (q + 1))).blocks[k'] ∈ f.blocks.take q ++ f.blocks.drop (q + 1) := List.getElem_mem hk'l
    obtain ⟨j, hj, hjq, e2⟩ : ∃ j, ∃ hj : j < f.blocks.length, j ≠ q ∧ f.blocks[j] = (withB f (f.blocks.take q ++ f.blocks.drop (q + 1))).blocks[k'] := by
      rcases List.mem_append.1 hm2 with h | h
      · obtain ⟨j, hj, e⟩ := List.mem_take_iff_getElem.1 h
        exact ⟨j, by omega, by omega, e⟩
      · obtain ⟨j, hj, e⟩ := List.mem_drop_iff_getElem.1 h
        exact ⟨q + 1 + j, by omega, by omega, e⟩
    exact hjq (right_inj r hj hk (by rw [e2, hname', hname]))

theorem func_set {hb h : Heap} {cs : Array Value} {f : MFunc} {s : Sl} {bs : List MBlock} (hf : rFunc.rv hb cs.toList f) (e : hExt hb h) (hs : rdSl rBlock.el h s bs) : rFunc.rv h (cs.setIfInBounds 4 s.v).toList (withB f bs) := by
  obtain ⟨c1, d1, e1, h1, c2, d2, rfl, h2, c3, d3, rfl, h3, c4, d4, rfl, h4, c5, d5, rfl, h5, rfl⟩ := hf
  have h1' : c1 = [.string f.name] := h1
  have h2' : c2 = [.string f.result] := h2
  subst h1' h2'
  obtain ⟨s3, rfl, h3⟩ := h3
  obtain ⟨s4, rfl, h4⟩ := h4
  obtain ⟨s5, rfl, h5⟩ := h5
  rw [Array.toList_setIfInBounds, e1]
  exact ⟨[_], _, rfl, rfl, [_], _, rfl, rfl, [_], _, rfl, ⟨s3, rfl, h3.ext e⟩, [_], _, rfl, ⟨s4, rfl, h4.ext e⟩, [_], [], rfl, ⟨s, rfl, hs⟩, rfl⟩

theorem shapeLess_calls {h : Heap} {cs : Array Value} {f : MFunc} (hf : rFunc.rv h cs.toList f) {at' : Int} (ha : 0 ≤ at' ∧ at' < 256) :
    ACalls Try.prog F_lateenlaw08_ShapeLess [.agg cs, .int .u8 at'] h (fun v h' => v = .bool true ∧ Old h h') := by
  refine lateenlaw08_ShapeLess_of ?_
  unfold lateenlaw08_ShapeLess
  refine new_rv hf fun p h1 o1 hp => ?_
  have hb := fld_blocks.rd hp
  intro k hk
  refine awake_calls.mono ?_
  rintro v h2 ⟨rfl, o2⟩
  refine ⟨_, rfl, ifB_false rfl ?_⟩
  refine ld_agg hp o2.ext rfl fun cs2 hcs2 => ?_
  refine (refFew_calls (rFunc.ext hcs2 o2.ext)).mono ?_
  rintro v h3 ⟨b, rfl, o3, hfew⟩
  refine ⟨_, rfl, ?_⟩
  have o13 := o2.trans o3
  cases b with
  | false => exact ifB_true rfl (hk _ _ fun _ => ifB_true rfl (awake_end (o1.trans o13)))
  | true =>
    have few := hfew rfl
    have h60 := few.blocks
    refine ifB_false rfl ?_
    refine ld_agg hp o13.ext rfl fun cs3 hcs3 => ?_
    refine (right_calls (rFunc.ext hcs3 o13.ext) (by omega)).mono ?_
    rintro v h4 ⟨rfl, o4⟩
    refine ⟨_, rfl, ?_⟩
    have o14 := o13.trans o4
    cases hr : rightB f with
    | false => exact hk _ _ fun _ => ifB_true rfl (awake_end (o1.trans o14))
    | true =>
      have r := rightB_iff.1 hr
      have hpos := r.pos
      refine hk _ _ fun _ => ifB_false rfl ?_
      clear hk k
      refine ld_agg hp o14.ext rfl fun cs5 hcs5 => ?_
      have hcs5l : cs5.size = 5 := by have h9 := rFunc.len hcs5; exact (by simpa using h9 : cs5.size = rFunc.size).trans rfl
      refine new_stR (Sep.start h4) rfl hcs5l (rFunc.one hcs5) fun p1 h5 S5 => ?_
      refine bld_rule (l := []) (us := []) (S5.rowNil (E := rBlock.fl h4)) (by kernel_rfl) rfl rfl (by decide) (by decide) fun s h6 S6 => ?_
      refine ld_lst hb (o14.trans S6.old).ext fun x1 hx1 => ?_
      refine app_copy S6 (RV.fl_flat _ _) (RV.el_fl (hx1.ext o14.ext) S6.old.ext) (by simp only [si_Lapi_Block, List.length_nil]; omega) (by simp only [List.length_nil]; omega) fun s1 h7 S7 => ?_
      rw [List.nil_append] at S7
      refine (jump_calls b_1 ⟨none, 0, 0⟩).mono ?_
      rintro v h8 ⟨rfl, o8⟩
      refine ⟨_, rfl, ?_⟩
      refine app1_flat (x := jumpB b_1 []) (S7.grow o8) (fun _ => ⟨jump_rv rd_nil, rfl⟩) rfl (by decide) (by simp only [si_Lapi_Block]; omega) (by omega) fun s3 h10 S10 => ?_
      refine st_rawB S10.swap (by omega) rfl fun h11 S11 => ?_
      refine ld_rawAgg S11 (by simp [hcs5l]) ?_
      have hs3 := RV.fl_el S11.swap.rd S11.old.ext
      refine (right_calls (f := withB f (f.blocks ++ [jumpB b_1 []])) (func_set hcs5 (o14.trans S11.old).ext hs3) (by simp [withB]; omega)).mono ?_
      rintro v h12 ⟨rfl, o12⟩
      have hno : rightB (withB f (f.blocks ++ [jumpB b_1 []])) = false := by
        cases e : rightB (withB f (f.blocks ++ [jumpB b_1 []])) with
        | false => rfl
        | true => exact absurd (rightB_iff.1 e) (right_more r)
      refine ⟨_, rfl, ifB_false hno ?_⟩
      have o12' := o14.trans (S11.old.trans o12)
      clear S5 S6 S7 S10 S11 hs3 hcs5
      refine ld_lst hb o12'.ext fun x3 hx3 => ?_
      have hx3l := hx3.lenEq
      refine ifB_intro (fun _ => ⟨rfl, o1.trans o12'⟩) (fun hc => ?_)
      have h2l : 2 ≤ f.blocks.length := by have := of_decide_eq_false hc; omega
      refine ld_lst hb o12'.ext fun x4 hx4 => ?_
      have hx4l := hx4.lenEq
      refine ar_i64 (by omega) (by omega) ⟨by omega, ?_⟩
      have hwr : IntKind.i64.wrap at' = at' := (ar_i64 (n := at') (K := fun _ => True) (by omega) (by omega) trivial).1
      rw [hwr]
      obtain ⟨q, hq⟩ := Int.eq_ofNat_of_zero_le ha.1
      have htm : Int.tmod at' ((x4.len : Int) - 1) = ((q % (f.blocks.length - 1) : Nat) : Int) := by
        rw [hx4l, hq, show ((f.blocks.length : Nat) : Int) - 1 = ((f.blocks.length - 1 : Nat) : Int) by omega]
        exact (Int.ofNat_tmod q _).symm
      rw [htm]
      have hmod := Nat.mod_lt q (show 0 < f.blocks.length - 1 by omega)
      refine ar_i64 (by omega) (by omega) ?_
      rw [show (1 : Int) + ((q % (f.blocks.length - 1) : Nat) : Int) = ((1 + q % (f.blocks.length - 1) : Nat) : Int) by omega]
      generalize hkk : 1 + q % (f.blocks.length - 1) = kk
      have hkl : kk < f.blocks.length := by omega
      refine ld_agg hp o12'.ext rfl fun cs6 hcs6 => ?_
      have hcs6l : cs6.size = 5 := by have h9 := rFunc.len hcs6; exact (by simpa using h9 : cs6.size = rFunc.size).trans rfl
      refine new_stR (Sep.start h12) rfl hcs6l (rFunc.one hcs6) fun p2 h14 S14 => ?_
      have o1_14 := o12'.trans S14.old
      refine ⟨Old h14, h14, [], fun n _ => if n = 0 then Spec.sl si_Lapi_Block (rBlock.fl h12) [] else if n = 5 then Spec.sl si_Lapi_Block (rBlock.fl h12) (f.blocks.take kk) else Spec.sl si_Lapi_Block (rBlock.fl h12) (f.blocks.take kk ++ f.blocks.drop (kk + 1)), .refl _, Sep.start _, ?_⟩
      refine free_sl (fun h X S => bld_rule (l := []) (us := []) (S.rowNil (E := rBlock.fl h12)) (by kernel_rfl) rfl rfl (by decide) (by decide) fun s h' S' => ⟨s, rfl, S'⟩) (fun {h K K'} hK hm => by
        obtain ⟨c, a, b, d⟩ := hK; exact ⟨c, a, b, hm _ _ d⟩) fun s4 => ⟨s4, rfl, ?_⟩
      refine ldF_old (ld_lst hb o1_14.ext fun x6 hx6 => ?_)
      refine slc_upto hx6 (by omega) fun s5 hs5 => ?_
      refine free_sl (fun h X S => ?_) (fun {h K K'} hK hm => by
        obtain ⟨xs, news, a1, a2, a3, a4, a5, a6, a7⟩ := hK
        exact ⟨xs, news, a1, a2, a3, a4, a5, a6, fun s' h' b1 b2 b3 b4 b5 => hm _ _ (a7 s' h' b1 b2 b3 b4 b5)⟩) fun s6 => ⟨s6, rfl, ?_⟩
      · refine app_copy (Sep.ofV S) (RV.fl_flat _ _) (RV.el_fl (hs5.ext o12'.ext) (S14.old.trans S.old).ext) (by simp only [si_Lapi_Block, List.length_nil, List.length_take]; omega) (by simp only [List.length_nil, List.length_take]; omega) fun s' h' S' => ⟨s', rfl, ?_⟩
        rw [List.nil_append] at S'
        exact S'
      refine ldF_old (ld_lst hb o1_14.ext fun x7 hx7 => ?_)
      refine ar_i64 (by omega) (by omega) ?_
      rw [show (kk : Int) + 1 = ((kk + 1 : Nat) : Int) by omega]
      refine slc_from hx7 rfl (by omega) fun s7 hs7 => ?_
      refine free_sl (fun h X S => ?_) (fun {h K K'} hK hm => by
        obtain ⟨xs, news, a1, a2, a3, a4, a5, a6, a7⟩ := hK
        exact ⟨xs, news, a1, a2, a3, a4, a5, a6, fun s' h' b1 b2 b3 b4 b5 => hm _ _ (a7 s' h' b1 b2 b3 b4 b5)⟩) fun s8 => ⟨s8, rfl, ?_⟩
      · exact app_copy (Sep.ofV S) (RV.fl_flat _ _) (RV.el_fl (hs7.ext o12'.ext) (S14.old.trans S.old).ext) (by simp only [si_Lapi_Block, List.length_drop, List.length_take]; omega) (by simp only [List.length_drop, List.length_take]; omega) fun s' h' S' => ⟨s', rfl, S'⟩
      intro h21 _ T21
      have S21 := (S14.frame (Sep.ofV T21)).swap
      refine st_rawB S21 (by omega) rfl fun h22 S22 => ?_
      clear S14 T21 S21
      have o22 := o12'.trans S22.old
      have hs8 := RV.fl_el S22.swap.rd S22.old.ext
      refine loop_intro (fun m (t : Bool × Int) h' => ∃ j : Nat, t.2 = j ∧ j ≤ f.blocks.length ∧ m = f.blocks.length - j ∧ Old h22 h' ∧ (t.1 = true → ∃ i, i < f.blocks.length ∧ i ≠ kk ∧ leadsF f i kk = true)) f.blocks.length
        ⟨0, rfl, by omega, by omega, .refl _, fun h => by cases h⟩ ?_
      rintro _ _ ⟨used, j⟩ h24 ⟨j, hj0, hj, rfl, o24, hused⟩
      simp only at hj0 hused ⊢
      subst hj0
      have o24' := o22.trans o24
      refine ld_lst hb o24'.ext fun x8 hx8 => ?_
      have hx8l := hx8.lenEq
      refine ifB_intro (fun hc => ?_) (fun hc => ?_)
      · have hjl : j < f.blocks.length := by rw [hx8l] at hc; simpa using hc
        intro k1 hk1
        have go : ∀ (b : Bool) (h' : Heap), Old h24 h' → (b = true → ∃ i, i < f.blocks.length ∧ i ≠ kk ∧ leadsF f i kk = true) → k1 b h' := fun b h' o hbt =>
          hk1 _ _ fun _ => ar_i64 (by omega) (by omega) ⟨f.blocks.length - (j + 1), by omega, j + 1, rfl, by omega, rfl, o24.trans o, hbt⟩
        refine ifB_intro (fun hu => go true _ (.refl _) fun _ => hused hu) (fun _ => ?_)
        refine ifB_intro (fun hne => ?_) (fun _ => go false _ (.refl _) fun h => by cases h)
        have hne : j ≠ kk := fun e => by subst e; simp at hne
        refine ld_agg hp o24'.ext rfl fun cs9 hcs9 => ?_
        refine (refLeads_calls (rFunc.ext hcs9 o24'.ext) hjl (kk : Int)).mono ?_
        rintro v h26 ⟨rfl, o26⟩
        exact ⟨_, rfl, go _ _ o26 fun hlt => ⟨j, hjl, hne, hlt⟩⟩
      · intro k2 hk2
        have fin : ∀ h', Old h24 h' → k2 true h' := fun h' o => hk2 _ _ fun _ => ⟨rfl, o1.trans (o24'.trans o)⟩
        refine ifB_intro (fun _ => fin _ (.refl _)) (fun hu => ?_)
        obtain ⟨i, hi, hne, hlead⟩ := hused (by simpa using hu)
        refine ld_rawAgg (S22.grow o24) (by simp [hcs6l]) ?_
        refine (right_calls (f := withB f (f.blocks.take kk ++ f.blocks.drop (kk + 1))) (func_set hcs6 o24'.ext (hs8.ext o24.ext)) (by simp [withB]; omega)).mono ?_
        rintro v h28 ⟨rfl, o28⟩
        have hno2 : rightB (withB f (f.blocks.take kk ++ f.blocks.drop (kk + 1))) = false := by
          cases e : rightB (withB f (f.blocks.take kk ++ f.blocks.drop (kk + 1))) with
          | false => rfl
          | true => exact absurd (rightB_iff.1 e) (right_less r hkl hi hne hlead)
        refine ⟨_, rfl, ?_⟩
        rw [hno2]
        exact fin _ o28

end Go.Proofs.Ytgdfpdfkghmdpaa
