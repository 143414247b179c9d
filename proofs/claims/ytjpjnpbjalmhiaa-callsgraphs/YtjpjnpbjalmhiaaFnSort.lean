/-
  slices.Sort and slices.Compact at []int: the kit's contracts over memory of the call's own.
-/
import Derived.Test.YtjpjnpbjalmhiaaFnFlow
import Derived.Test.YtjpjnpbjalmhiaaPlGraph
import Derived.Test.YtjpjnpbjalmhiaaLayG
import Derived.Shelf.SortM.Plain
import Derived.Shelf.SortM.SortNone
import Derived.Shelf.SlicesG.CompactI
namespace Go.Proofs.Ytjpjnpbjalmhiaa
open Go.Fw Go.Pl

theorem row_int : ∀ {l : List Int} {vs : List Value} {h : Heap} {f : List Nat}, Row eInt vs l h f → vs = l.map (fun n => .int .i64 n) ∧ f = []
  | [], _, _, _, r => by obtain ⟨rfl, rfl⟩ := r; exact ⟨rfl, rfl⟩
  | x :: l, _, _, _, r => by
    obtain ⟨xs, vs', f1, f2, rfl, rfl, ho, hr⟩ := r
    obtain ⟨rfl, rfl⟩ := row_int hr
    obtain ⟨rfl, rfl⟩ := ho
    exact ⟨rfl, rfl⟩
theorem int_row : ∀ (l : List Int) (h : Heap), Row eInt (l.map (fun n => .int .i64 n)) l h []
  | [], _ => ⟨rfl, rfl⟩
  | x :: l, h => ⟨[.int .i64 x], _, [], [], rfl, rfl, ⟨rfl, rfl⟩, int_row l h⟩

/-- A slice of numbers of the call's own: either none at all, or a block's head. -/
theorem own_ints {h0 h : Heap} {L : List As} {s : Sl} {l : List Int} (S : Sep h0 h (ownSl si_Lint eInt s l :: L)) :
    s.len = l.length ∧ (s.a = none ∧ l = [] ∧ s = ⟨none, 0, 0⟩ ∨ ∃ g, s.a = some ⟨g, 0, none⟩ ∧ g < h.size ∧ l.length ≤ s.cap ∧
      (∀ w : World, w.heap = h → Go.Sort.Holds (Value.int .i64) w g 0 l.toArray) ∧
      ∀ (w : World) (n : Nat) (os : Array Obj) (l' : List Int) (k : Nat), w.heap = h → l'.length = l.length → k ≤ l.length →
        Sep h0 (Go.Sort.grow (Go.Sort.putRow (Value.int .i64) (Go.Sort.ahead w n) g 0 l'.toArray) os).heap (ownSl si_Lint eInt ⟨s.a, k, s.cap⟩ (l'.take k) :: L)) := by
  obtain ⟨fS, ⟨hsz, vs, f', ho, hl, hm, hr, hf⟩⟩ := S.get
  refine ⟨hl, ?_⟩
  obtain ⟨rfl, rfl⟩ := row_int hr
  rcases hOwn_iff.1 ho with ⟨h1, h2 | ⟨g, cur, h2, h3, h4, h5, h6, h7⟩⟩
  · left
    subst h2
    simp at hl
    exact ⟨rfl, List.length_eq_zero_iff.1 hl.symm, rfl⟩
  · right
    have hg : g < h.size := by
      rcases Nat.lt_or_ge g h.size with hg | hg
      · exact hg
      · rw [Array.getElem?_eq_none hg] at h3; cases h3
    have hs1 : si_Lint.size = 1 := rfl
    have hcur : ∀ j, j < l.length → cur[j]? = some (.int .i64 l[j]!) := fun j hj => by
      have : (cur.toList.take (s.len * si_Lint.size))[j]? = some (.int .i64 l[j]!) := by
        rw [h7, List.getElem?_map, List.getElem?_eq_getElem hj, getElem!_pos l j hj]; rfl
      rw [List.getElem?_take, if_pos (by rw [hs1, hl]; omega)] at this
      simpa using this
    refine ⟨g, h2, hg, by rw [← hl]; exact h4, fun w hw j hj => ?_, fun w n os l' k hw hl' hk => ?_⟩
    · have hj : j < l.length := by simpa using hj
      constructor
      · show w.cell? ⟨g, 0 + j, none⟩ = _
        rw [World.cell?, hw]
        simp only [h3]
        rw [Nat.zero_add]
        have := hcur j hj
        simpa using this
      · show w.frozen? ⟨g, 0 + j, none⟩ = _
        rw [World.frozen?, hw]
        simp only [h3]
        simp
    · refine Sep.step (M := [ownSl si_Lint eInt s l]) (M' := [ownSl si_Lint eInt ⟨s.a, k, s.cap⟩ (l'.take k)]) S (fun A hA => by rw [List.mem_singleton.1 hA]; exact loc_ownSl) ?_
      rintro f ⟨f1, f2, rfl, ⟨_, vs2, f3, ho2, _, _, hr2, rfl⟩, rfl⟩ hn hb
      obtain ⟨rfl, rfl⟩ := row_int hr2
      have hblk : s.blk = some g := by unfold Sl.blk; rw [h2]; rfl
      have hheap : (Go.Sort.grow (Go.Sort.putRow (Value.int .i64) (Go.Sort.ahead w n) g 0 l'.toArray) os).heap = h.modify g (Go.Sort.onCells (Go.Sort.putCells (Value.int .i64) 0 l'.toArray)) ++ os := by
        rw [← hw]; rfl
      refine ⟨[g], ⟨[g], [], rfl, ⟨hsz, (l'.take k).map (fun n => .int .i64 n), [], ?_, ?_, ?_, int_row _ _, ?_⟩, rfl⟩, by simp, ?_, ?_, ?_⟩
      · refine hOwn_iff.2 ⟨by rw [hs1]; simp; omega, .inr ⟨g, Go.Sort.putCells (Value.int .i64) 0 l'.toArray cur, h2, ?_, by show k ≤ s.cap; omega, h5, by rw [Go.Sort.putCells]; simpa using h6, ?_⟩⟩
        · rw [hheap, Array.getElem?_append_left (by simpa using hg), Array.getElem?_modify, if_pos rfl, h3]
          rfl
        · apply List.ext_getElem?
          intro j
          rw [List.getElem?_take, List.getElem?_map, List.getElem?_take]
          show (if j < k * si_Lint.size then _ else _) = _
          rw [hs1, Nat.mul_one]
          split
          · rename_i hj
            have hj2 : j < l'.length := by omega
            rw [List.getElem?_eq_getElem hj2, Array.getElem?_toList, Go.Sort.putCells, Array.getElem?_mapIdx, hcur j (by omega)]
            simp [hj2]
          · rfl
      · show k = _
        rw [List.length_take]; omega
      · rw [List.length_take]; omega
      · show [g] = (Sl.blk ⟨s.a, k, s.cap⟩).toList ++ []
        unfold Sl.blk at hblk ⊢
        rw [hblk]; rfl
      · rw [hheap]; simp
      · intro b hb1 hb2
        rw [hblk] at hb2
        have : g ≠ b := fun e => hb2 (by simp [e])
        rw [hheap, Array.getElem?_append_left (by simpa using hb1), Array.getElem?_modify, if_neg this]
      · intro b hb1
        rw [List.mem_singleton] at hb1
        subst hb1
        refine ⟨.inl (by rw [hblk]; simp), by rw [hheap]; simp; omega⟩

theorem dedup_snoc (x : Int) : ∀ l : List Int, dedup (l ++ [x]) = dedup l ++ if l.getLast? = some x then [] else [x]
  | [] => by simp [dedup]
  | [a] => by
    show (if a = x then dedup [x] else a :: dedup [x]) = _
    by_cases e : a = x <;> simp [dedup, e]
  | a :: b :: l => by
    have ih := dedup_snoc x (b :: l)
    show (if a = b then dedup ((b :: l) ++ [x]) else a :: dedup ((b :: l) ++ [x])) = (if a = b then dedup (b :: l) else a :: dedup (b :: l)) ++ _
    rw [ih, List.getLast?_cons_cons]
    split <;> simp
theorem compactUpTo_dedup (l : List Int) : ∀ m, m ≤ l.length → Lib.compactUpTo l.toArray m = dedup (l.take m)
  | 0, _ => by simp [Lib.compactUpTo, dedup]
  | m + 1, h => by
    rw [Lib.compactUpTo_succ, compactUpTo_dedup l m (by omega), List.take_succ_eq_append_getElem (by omega), dedup_snoc]
    congr 1
    have hm : l.toArray[m]! = l[m] := by rw [getElem!_pos _ m (by simp; omega)]; simp
    by_cases h0 : m = 0
    · subst h0; rw [hm]; simp [Lib.keeps]
    · have hm1 : l.toArray[m - 1]! = l[m - 1] := by rw [getElem!_pos _ (m - 1) (by simp; omega)]; simp
      have hlast : (l.take m).getLast? = some l[m - 1] := by
        rw [List.getLast?_eq_getElem?, List.length_take, Nat.min_eq_left (by omega), List.getElem?_take, if_pos (by omega), List.getElem?_eq_getElem (by omega)]
      rw [hlast]
      unfold Lib.keeps
      rw [hm, hm1]
      by_cases e : l[m] = l[m - 1]
      · rw [if_neg, if_pos (by rw [e])]; simp [h0, e]
      · rw [if_pos, if_neg]
        · intro h; injection h with h; exact e h.symm
        · simp [e]

theorem sort_calls {h0 h : Heap} {L : List As} {s : Sl} {l : List Int} (S : Sep h0 h (ownSl si_Lint eInt s l :: L)) (hn : l.length ≤ 1000000) :
    ACalls Try.prog F_slices_Sort [s.v] h (fun v h' => v = .tuple #[] ∧ Sep h0 h' (ownSl si_Lint eInt s (l.mergeSort fun x y => decide (x ≤ y)) :: L)) := by
  intro w hw
  obtain ⟨hl, ⟨h1, rfl, rfl⟩ | ⟨g, h2, hg, hcap, hH, hP⟩⟩ := own_ints S
  · refine (AnyM.slices_Sort_int_none laySort none 0 w).mono ?_
    rintro e w' ⟨rfl, rfl⟩
    exact ⟨_, rfl, .refl _, rfl, by rw [hw]; simpa using S⟩
  · obtain ⟨a, n, cap⟩ := s
    simp only at h2 hl hcap
    subst h2 hl
    refine (AnyM.slices_Sort_int laySort g 0 cap l w (hH w hw) (by rw [hw]; exact hg) (by omega)).mono ?_
    rintro e w' ⟨rfl, n, os, rfl⟩
    refine ⟨_, rfl, ⟨rfl, rfl, rfl⟩, rfl, ?_⟩
    have := hP w n os _ l.length hw (List.length_mergeSort (le := fun x y => decide (x ≤ y)) l) (Nat.le_refl _)
    rw [List.take_of_length_le (by simp)] at this
    exact this
theorem compact_calls {h0 h : Heap} {L : List As} {s : Sl} {l : List Int} (S : Sep h0 h (ownSl si_Lint eInt s l :: L)) (hn : l.length ≤ 1000000) :
    ACalls Try.prog F_slices_Compact [s.v] h (fun v h' => ∃ s' : Sl, v = s'.v ∧ Sep h0 h' (ownSl si_Lint eInt s' (dedup l) :: L)) := by
  intro w hw
  obtain ⟨hl, ⟨h1, rfl, rfl⟩ | ⟨g, h2, hg, hcap, hH, hP⟩⟩ := own_ints S
  · refine (AnyG.slices_Compact_int_empty layCompact none 0 w).mono ?_
    rintro e w' ⟨rfl, rfl⟩
    exact ⟨_, rfl, .refl _, ⟨none, 0, 0⟩, rfl, by rw [hw]; simpa [dedup] using S⟩
  · obtain ⟨a, n, cap⟩ := s
    simp only at h2 hl hcap
    subst h2 hl
    refine (AnyG.slices_Compact_int layCompact g 0 cap l w (hH w hw) (by omega) hcap).mono ?_
    rintro e w' ⟨rfl, n, rfl⟩
    have hc : Lib.compact l = dedup l := by
      unfold Lib.compact
      rw [compactUpTo_dedup l l.length (Nat.le_refl _), List.take_length]
    have hle : (dedup l).length ≤ l.length := by
      have : (Lib.compactUpTo l.toArray l.length).length ≤ l.length := by
        unfold Lib.compactUpTo
        rw [List.length_map]
        refine Nat.le_trans (List.length_filter_le _ _) (by simp)
      rw [compactUpTo_dedup l l.length (Nat.le_refl _), List.take_length] at this
      exact this
    rw [hc]
    refine ⟨_, rfl, ⟨rfl, rfl, rfl⟩, ⟨some ⟨g, 0, none⟩, (dedup l).length, cap⟩, rfl, ?_⟩
    have := hP w n #[] (dedup l ++ List.replicate (l.length - (dedup l).length) 0) (dedup l).length hw (by simp; omega) hle
    rw [List.take_left'] at this
    · simpa using this
    · rfl
end Go.Proofs.Ytjpjnpbjalmhiaa
