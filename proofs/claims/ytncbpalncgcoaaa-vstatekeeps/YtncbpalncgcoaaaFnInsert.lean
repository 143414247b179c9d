/-
  slices.Insert of one element.
-/
import Derived.Test.YtncbpalncgcoaaaFnReach2
import Derived.Lib.Overlaps
namespace Go.Proofs.Ytncbpalncgcoaaa
open Go.Fw Go.Pl.Api Go.Pl.Vst

theorem putAt_get {cur : Array Value} {vs : List Value} {o : Nat} (h : o + vs.length ≤ cur.size) (k : Nat) :
    (putAt cur o vs)[k]? = if o ≤ k ∧ k < o + vs.length then vs[k - o]? else cur[k]? := by
  have hl : (cur.toList.take o).length = o := by simp; omega
  have hl2 : (cur.toList.take o ++ vs).length = o + vs.length := by rw [List.length_append, hl]
  rw [← Array.getElem?_toList, putAt_eq vs cur o h]
  by_cases h1 : k < o
  · rw [List.append_assoc, List.getElem?_append_left (by omega), List.getElem?_take, if_pos h1, if_neg (by omega), Array.getElem?_toList]
  · by_cases h2 : k < o + vs.length
    · rw [List.append_assoc, List.getElem?_append_right (by omega), hl, List.getElem?_append_left (by omega), if_pos ⟨by omega, h2⟩]
    · rw [List.getElem?_append_right (by omega), hl2, List.getElem?_drop, if_neg (by omega), Array.getElem?_toList]
      congr 1
      omega
theorem hcell_raw {h : Heap} {g e o : Nat} {cur : Array Value} {fr : Nat × Nat} (hg : h[g]? = some (.cells cur e fr)) : hcell h ⟨g, o, none⟩ = cur[o]? := by
  unfold hcell
  simp only [hg]
  simp
theorem hfrozen_raw {h : Heap} {g e o : Nat} {cur : Array Value} (hg : h[g]? = some (.cells cur e (0, 0))) : hfrozen h ⟨g, o, none⟩ = false := by
  unfold hfrozen
  simp only [hg]
  simp

/-- 'copy' from block to block. -/
theorem cpy_raw {h : Heap} {d s : Sl} {g b e e2 o p k : Nat} {cur src : Array Value} {xs : List Value} {K : Nat → Heap → Prop} (hg : h[g]? = some (.cells cur e (0, 0))) (hb : h[b]? = some (.cells src e2 (0, 0)))
    (hd : d.a = some ⟨g, o, none⟩) (hs : s.a = some ⟨b, p, none⟩) (hk : min s.len d.len = k) (hk0 : k ≠ 0) (hl : xs.length = k * 6) (hx : ∀ j u, xs[j]? = some u → src[p + j]? = some u) (h1 : ∀ v ∈ xs, v.oneCell' = true) (hfit : o + xs.length ≤ cur.size)
    (hK : ∀ h', h'[g]? = some (.cells (putAt cur o xs) e (0, 0)) → (∀ z, z ≠ g → h'[z]? = h[z]?) → h'.size = h.size → K k h') : cpy 6 d s h K := by
  refine ⟨xs, by rw [hl, hk], h1, fun _ => ⟨_, _, hs, hd, fun j u hj => ?_, fun j hj => ?_⟩, ?_⟩
  · rw [Go.Fw.Addr.add_none, hcell_raw hb]; exact hx j u hj
  · rw [Go.Fw.Addr.add_none, hcell_raw hg, hfrozen_raw hg]
    exact ⟨by rw [Array.getElem?_eq_getElem (by omega)]; rfl, rfl⟩
  · rw [hk]
    have hh : cpyH k d h xs = hsets h ⟨g, o, none⟩ xs 0 := by
      unfold cpyH
      rw [hd]
      cases k with
      | zero => exact absurd rfl hk0
      | succ k => rfl
    rw [hh]
    have h2 := hsets_same xs h cur o 0 hg
    rw [Nat.add_zero] at h2
    exact hK _ h2 (fun z hz => hsets_other xs h 0 z hz rfl) (size_hsets _ _ _)

/-- 's[k:]' within the room. -/
theorem slc_raw {s : Sl} {g o : Nat} {lo hi : Option Int} {a b : Nat} {K : Sl → Prop} (hs : s.a = some ⟨g, o, none⟩) (ha : lo.getD 0 = (a : Int)) (hb : hi.getD s.len = (b : Int)) (hab : a ≤ b) (hbc : b ≤ s.cap) (hac : a < s.cap)
    (hK : K ⟨some ⟨g, o + a * 6, none⟩, b - a, s.cap - a⟩) : slc 6 s lo hi K := by
  refine ⟨by omega, by omega, by omega, ?_⟩
  rw [ha, hb, Int.toNat_natCast, Int.toNat_natCast, if_neg (by omega), hs, Option.map_some, Go.Fw.Addr.add_none]
  exact hK

theorem overlaps_run {h : Heap} {g b o p e e2 la ca lb cb : Nat} {cur src : Array Value} (hne : b ≠ g) (hg : h[g]? = some (.cells cur e (0, 0))) (hb : h[b]? = some (.cells src e2 (0, 0))) (h0 : cur.size ≠ 0) {K : Value → Prop} (hK : K (.bool false)) :
    callX Try.prog F_slices_overlaps [.slice (some ⟨b, p, none⟩) la ca, .slice (some ⟨g, o, none⟩) lb cb] h K := by
  refine ⟨.bool false, fun w hw => ?_, hK⟩
  show (callFunc F_slices_overlaps #[.slice (some ⟨b, p, none⟩) la ca, .slice (some ⟨g, o, none⟩) lb cb]).run Try.prog w = _
  rw [run_callFunc_extern Try.func102 (by kernel_rfl) (by kernel_rfl) (by kernel_rfl) (e := Extern.SlicesOverlaps.overlaps #[27, 27] #[4]) (by kernel_rfl),
    Lib.run_overlaps_apart w 27 4 39 (by kernel_rfl) 6 Try.sizeOf39 ⟨b, p, none⟩ ⟨g, o, none⟩ la ca lb cb hne e2 e src.size cur.size (by unfold World.shape?; rw [hw]; simp only [hb]) (by unfold World.shape?; rw [hw]; simp only [hg]) h0
      (by rw [frozen_eq, hw]; exact hfrozen_raw hb) (by rw [frozen_eq, hw]; exact hfrozen_raw hb)]
  rfl

/-- slices.Insert(s, i, x), said of the cells. -/
theorem insert_raw {h : Heap} {s v : Sl} {U x : List Value} {i : Nat} (hs : hOwn h 39 6 s U) (hv : hOwn h 39 6 v x) (hvl : v.len = 1) (hapart : ∀ b, v.blk = some b → s.blk ≠ some b) (h1 : ∀ u ∈ U, u.oneCell' = true) (hx1 : ∀ u ∈ x, u.oneCell' = true)
    (hi : i ≤ s.len) (hn : s.len ≤ 1000000) :
    ACalls Try.prog F_slices_Insert [s.v, .int .i64 (i : Int), v.v] h (fun r h' => ∃ s' : Sl, r = s'.v ∧ hOwn h' 39 6 s' (U.take (i * 6) ++ x ++ U.drop (i * 6)) ∧ s'.len = s.len + 1 ∧ hGrown h h' s.blk ∧ (s'.blk = s.blk ∨ s'.blk = some h.size)) := by
  refine slices_Insert_of ?_
  unfold slices_Insert
  have hUl := (hOwn_iff.1 hs).1
  have hxl := (hOwn_iff.1 hv).1
  rw [hvl] at hxl
  obtain ⟨b, vc, hva, hvb, hvc1, hvc2, hvcs, hvt⟩ : ∃ b cv, v.a = some ⟨b, 0, none⟩ ∧ h[b]? = some (.cells cv 39 (0, 0)) ∧ v.len ≤ v.cap ∧ v.cap ≤ maxLen ∧ cv.size = v.cap * 6 ∧ cv.toList.take (v.len * 6) = x := by
    rcases (hOwn_iff.1 hv).2 with h2 | h2
    · rw [h2] at hvl; simp at hvl
    · exact h2
  have hlecap : s.len ≤ s.cap := by
    rcases (hOwn_iff.1 hs).2 with h2 | ⟨g, cur, _, _, h2, _⟩
    · rw [h2]; exact Nat.le_refl _
    · exact h2
  refine ⟨by simp, by simp; omega, by simp; omega, ?_⟩
  have hvlI : (v.len : Int) = 1 := by omega
  rw [hvlI]
  refine ifB_false rfl ?_
  refine ifB_intro (fun hc => ?_) (fun hc => ?_)
  · have hin : i = s.len := by have : (i : Int) = s.len := by simpa using hc
                               omega
    refine ⟨U, x, hs, ⟨by rw [hvl]; exact hxl, .inr ⟨_, hva, fun j u hj => ?_⟩⟩, hx1, fun e => (by rw [hva] at e; cases e), by simp only [maxLen]; omega, by simp only [si_Lvstate_Obj]; omega, fun s' h' ho' hl' hg' hb' _ _ => ?_⟩
    · rw [Go.Fw.Addr.add_none, hcell_raw hvb, Nat.zero_add, ← Array.getElem?_toList]
      rw [← hvt, List.getElem?_take] at hj
      split at hj
      · exact hj
      · cases hj
    · refine ⟨s', rfl, ?_, by rw [hl', hvl], hg', hb'⟩
      rw [hin, ← hUl, List.take_length, List.drop_length, List.append_nil]
      exact ho'
  have hin : i < s.len := by have : ¬ (i : Int) = s.len := by simpa using hc
                             omega
  obtain ⟨g, cur, hsa, hsg, _, hcm, hcs, hct⟩ : ∃ g cur, s.a = some ⟨g, 0, none⟩ ∧ h[g]? = some (.cells cur 39 (0, 0)) ∧ s.len ≤ s.cap ∧ s.cap ≤ maxLen ∧ cur.size = s.cap * 6 ∧ cur.toList.take (s.len * 6) = U := by
    rcases (hOwn_iff.1 hs).2 with h2 | h2
    · rw [h2] at hin; simp at hin
    · exact h2
  have hne : b ≠ g := fun e => by
    subst e
    exact hapart b (by unfold Sl.blk; rw [hva]; rfl) (by unfold Sl.blk; rw [hsa]; rfl)
  have hxget : ∀ j u, x[j]? = some u → vc[0 + j]? = some u := fun j u hj => by
    rw [Nat.zero_add, ← Array.getElem?_toList]
    rw [← hvt, List.getElem?_take] at hj
    split at hj
    · exact hj
    · cases hj
  have hUget : ∀ j, j < s.len * 6 → U[j]? = cur[j]? := fun j hj => by
    rw [← hct, List.getElem?_take, if_pos hj, Array.getElem?_toList]
  have hdl : (U.drop (i * 6)).length = (s.len - i) * 6 := by rw [List.length_drop, hUl, Nat.sub_mul]
  have hd1 : ∀ u ∈ U.drop (i * 6), u.oneCell' = true := fun u hu => h1 u (List.mem_of_mem_drop hu)
  have hdget : ∀ j u, (U.drop (i * 6))[j]? = some u → cur[i * 6 + j]? = some u := fun j u hj => by
    rw [List.getElem?_drop] at hj
    have := (List.getElem?_eq_some_iff.1 hj).1
    rw [← hUget _ (by omega)]
    exact hj
  refine ar_i64 (by omega) (by omega) ?_
  have hcmI : s.cap ≤ 9223372036854775807 := by simpa [maxLen] using hcm
  refine ifB_intro (fun hroom => ?_) (fun hroom => ?_)
  · -- no room: new memory
    have hroom : s.cap < s.len + 1 := by have := of_decide_eq_true hroom; omega
    refine slc_raw (a := 0) (b := i) hsa rfl rfl (by omega) (by omega) (by omega) ?_
    refine ar_i64 (by omega) (by omega) (ar_i64 (by omega) (by omega) ?_)
    have hnI : (s.len : Int) + 1 - i = ((s.len + 1 - i : Nat) : Int) := by omega
    rw [hnI]
    refine ⟨⟨g, 0, none⟩, U.take (i * 6), by simp, by rw [List.length_take, hUl]; show min (i * 6) (s.len * 6) = (i - 0) * 6; rw [Nat.min_eq_left (by omega)]; rfl, fun j u hj => ?_, by omega, by show ((s.cap - 0 : Nat) : Int) < ((i - 0 : Nat) : Int) + _; omega, by simp only [si_Lvstate_Obj, Int.toNat_natCast]; show (i - 0 + _) * 80 ≤ _; omega, by simp only [maxLen, Int.toNat_natCast]; show i - 0 + _ ≤ _; omega, fun cap' cur' hc1 hc2 hc3 hc4 => ?_⟩
    · rw [Go.Fw.Addr.add_none, hcell_raw hsg, Nat.zero_add]
      rw [List.getElem?_take] at hj
      split at hj
      · rw [← hUget j (by omega)]; exact hj
      · cases hj
    have e1 : i - 0 + (((s.len + 1 - i : Nat) : Int)).toNat = s.len + 1 := by rw [Int.toNat_natCast]; omega
    simp only [e1] at hc1 ⊢
    have hc4' : cur'.toList.take (i * 6) = U.take (i * 6) := hc4
    have hc3' : cur'.size = cap' * 6 := hc3
    have hcm' : cap' ≤ 9223372036854775807 := by simpa [maxLen] using hc2
    have hg2 : (h.push (.cells cur' 39))[h.size]? = some (.cells cur' 39 (0, 0)) := Array.getElem?_push_size
    have hold : ∀ z, z < h.size → (h.push (.cells cur' 39))[z]? = h[z]? := fun z hz => (Old.push h _).block z hz
    have hbl : b < h.size := (Array.getElem?_eq_some_iff.1 hvb).1
    have hgl : g < h.size := (Array.getElem?_eq_some_iff.1 hsg).1
    refine slc_raw (s := ⟨some ⟨h.size, 0, none⟩, s.len + 1, cap'⟩) (a := i) (b := s.len + 1) rfl rfl rfl (by omega) hc1 (by show i < cap'; omega) ?_
    refine cpy_raw (k := 1) (xs := x) hg2 ((hold b hbl).trans hvb) rfl hva (by show min v.len (s.len + 1 - i) = 1; omega) (by decide) hxl hxget hx1 (by rw [hxl, hc3']; omega) fun h3 hg3 ho3 hz3 => ?_
    refine ar_i64 (by omega) (by omega) ?_
    rw [show (i : Int) + 1 = ((i + 1 : Nat) : Int) by omega]
    refine slc_raw (s := ⟨some ⟨h.size, 0, none⟩, s.len + 1, cap'⟩) (a := i + 1) (b := s.len + 1) rfl rfl rfl (by omega) hc1 (by show i + 1 < cap'; omega) ?_
    refine slc_raw (a := i) (b := s.len) hsa rfl rfl (by omega) (by omega) (by omega) ?_
    refine cpy_raw (k := s.len - i) (xs := U.drop (i * 6)) (b := g) (p := 0 + i * 6) hg3 ((ho3 g (by omega)).trans ((hold g hgl).trans hsg)) rfl rfl (by show min (s.len - i) (s.len + 1 - (i + 1)) = s.len - i; omega) (by omega) hdl (fun j u hj => by rw [Nat.zero_add]; exact hdget j u hj) hd1 (by rw [hdl, size_putAt, hc3']; omega) fun h4 hg4 ho4 hz4 => ?_
    refine ⟨⟨some ⟨h.size, 0, none⟩, s.len + 1, cap'⟩, rfl, hOwn_iff.2 ⟨?_, .inr ⟨h.size, _, rfl, hg4, hc1, hc2, by rw [size_putAt, size_putAt, hc3'], ?_⟩⟩, rfl, ⟨by rw [hz4, hz3]; simp, fun z hz hzn => ?_⟩, .inr rfl⟩
    · rw [List.length_append, List.length_append, List.length_take, hxl, hdl, hUl]
      show min (i * 6) (s.len * 6) + 1 * 6 + (s.len - i) * 6 = (s.len + 1) * 6
      omega
    · refine List.ext_getElem? fun k => ?_
      show ((putAt _ _ _).toList.take ((s.len + 1) * 6))[k]? = _
      rw [List.getElem?_take, Array.getElem?_toList, putAt_get (by rw [hdl, size_putAt, hc3']; omega), putAt_get (by rw [hxl, hc3']; omega)]
      have ht : (U.take (i * 6)).length = i * 6 := by rw [List.length_take, hUl]; omega
      by_cases k1 : k < i * 6
      · rw [if_pos (by omega), if_neg (by omega), if_neg (by omega), List.append_assoc, List.getElem?_append_left (by omega), ← hc4', List.getElem?_take, if_pos k1, Array.getElem?_toList]
      · by_cases k2 : k < i * 6 + 6
        · rw [if_pos (by omega), if_neg (by omega), if_pos (by omega), List.append_assoc, List.getElem?_append_right (by omega), List.getElem?_append_left (by omega), ht, Nat.zero_add]
        · by_cases k3 : k < (s.len + 1) * 6
          · rw [if_pos k3, if_pos (by omega), List.getElem?_append_right (by rw [List.length_append]; omega), List.length_append, ht, hxl]
            congr 1
            omega
          · rw [if_neg k3, List.getElem?_eq_none]
            rw [List.length_append, List.length_append, ht, hxl, hdl]
            omega
    · rw [ho4 z (by omega), ho3 z (by omega)]
      exact hold z hz
  · -- room: in place
    have hroom : s.len + 1 ≤ s.cap := by have := of_decide_eq_false hroom; omega
    refine ar_i64 (by omega) (by omega) ?_
    refine slc_raw (a := 0) (b := s.len + 1) hsa rfl (by simp) (by omega) hroom (by omega) ?_
    refine ar_i64 (by omega) (by omega) ?_
    rw [show (i : Int) + 1 = ((i + 1 : Nat) : Int) by omega]
    simp only [Nat.zero_mul, Nat.add_zero, Nat.sub_zero]
    refine slc_raw (s := ⟨some ⟨g, 0, none⟩, s.len + 1, s.cap⟩) (a := i + 1) (b := s.len + 1) rfl rfl rfl (by omega) hroom (by show i + 1 < s.cap; omega) ?_
    have hv' : v.v = .slice (some ⟨b, 0, none⟩) v.len v.cap := by unfold Sl.v; rw [hva]
    rw [hv']
    refine overlaps_run hne hsg hvb (by rw [hcs]; omega) ?_
    refine ⟨_, rfl, ifB_true rfl ?_⟩
    refine ar_i64 (by omega) (by omega) ?_
    refine slc_raw (s := ⟨some ⟨g, 0, none⟩, s.len + 1, s.cap⟩) (a := i + 1) (b := s.len + 1) rfl rfl rfl (by omega) hroom (by show i + 1 < s.cap; omega) ?_
    refine slc_raw (s := ⟨some ⟨g, 0, none⟩, s.len + 1, s.cap⟩) (a := i) (b := s.len + 1) rfl rfl rfl (by omega) hroom (by show i < s.cap; omega) ?_
    refine cpy_raw (k := s.len - i) (xs := U.drop (i * 6)) (b := g) (p := 0 + i * 6) hsg hsg rfl rfl (by show min (s.len + 1 - i) (s.len + 1 - (i + 1)) = s.len - i; omega) (by omega) hdl (fun j u hj => by rw [Nat.zero_add]; exact hdget j u hj) hd1 (by rw [hdl, hcs]; omega) fun h5 hg5 ho5 hz5 => ?_
    refine slc_raw (s := ⟨some ⟨g, 0, none⟩, s.len + 1, s.cap⟩) (a := i) (b := s.len + 1) rfl rfl rfl (by omega) hroom (by show i < s.cap; omega) ?_
    refine cpy_raw (k := 1) (xs := x) hg5 ((ho5 b hne).trans hvb) rfl hva (by show min v.len (s.len + 1 - i) = 1; omega) (by decide) hxl hxget hx1 (by rw [hxl, size_putAt, hcs]; omega) fun h6 hg6 ho6 hz6 => ?_
    refine ⟨⟨some ⟨g, 0, none⟩, s.len + 1, s.cap⟩, rfl, hOwn_iff.2 ⟨?_, .inr ⟨g, _, rfl, hg6, hroom, hcm, by rw [size_putAt, size_putAt, hcs], ?_⟩⟩, rfl, ⟨by rw [hz6, hz5]; exact Nat.le_refl _, fun z hz hzn => ?_⟩, .inl ?_⟩
    · rw [List.length_append, List.length_append, List.length_take, hxl, hdl, hUl]
      show min (i * 6) (s.len * 6) + 1 * 6 + (s.len - i) * 6 = (s.len + 1) * 6
      omega
    · refine List.ext_getElem? fun k => ?_
      show ((putAt _ _ _).toList.take ((s.len + 1) * 6))[k]? = _
      rw [List.getElem?_take, Array.getElem?_toList, putAt_get (by rw [hxl, size_putAt, hcs]; omega), putAt_get (by rw [hdl, hcs]; omega)]
      have ht : (U.take (i * 6)).length = i * 6 := by rw [List.length_take, hUl]; omega
      by_cases k1 : k < i * 6
      · rw [if_pos (by omega), if_neg (by omega), if_neg (by omega), List.append_assoc, List.getElem?_append_left (by omega), List.getElem?_take, if_pos k1, hUget k (by omega)]
      · by_cases k2 : k < i * 6 + 6
        · rw [if_pos (by omega), if_pos (by omega), List.append_assoc, List.getElem?_append_right (by omega), List.getElem?_append_left (by omega), ht, Nat.zero_add]
        · by_cases k3 : k < (s.len + 1) * 6
          · rw [if_pos k3, if_neg (by omega), if_pos (by omega), List.getElem?_append_right (by rw [List.length_append]; omega), List.length_append, ht, hxl]
            congr 1
            omega
          · rw [if_neg k3, List.getElem?_eq_none]
            rw [List.length_append, List.length_append, ht, hxl, hdl]
            omega
    · have hzg : z ≠ g := fun e => hzn (by unfold Sl.blk; rw [hsa, e]; rfl)
      rw [ho6 z hzg, ho5 z hzg]
    · unfold Sl.blk; rw [hsa]

end Go.Proofs.Ytncbpalncgcoaaa
