/-
  What the functions of layer 9 and their references do.
-/
import Derived.Test.YtncbpalncgcoaaaFwRules
import Derived.Test.YtncbpalncgcoaaaGen
import Derived.Test.YtncbpalncgcoaaaPlFlow
import Derived.Test.YtncbpalncgcoaaaFwFree
import Derived.Test.YtncbpalncgcoaaaFwDec
import Derived.Test.YtncbpalncgcoaaaPlCalls2
import Derived.Test.YtncbpalncgcoaaaPlLeft
namespace Go.Proofs.Ytncbpalncgcoaaa
open Go.Fw Go.Pl

abbrev eInts : Elem (List Int) := Elem.sl si_Lint eInt
abbrev eStep : Elem (Int × Int) := Elem.prod eInt eInt

theorem flat_int : eInt.Flat := Elem.cell_flat _ _
theorem flat_bool : eBool.Flat := Elem.cell_flat _ _
theorem row_eq {G : Graph} {a : Nat} (h : a < G.length) : G[a] = G.getD a [] := by simp [h]

theorem index_calls {h : Heap} {s : Sl} {A : List Int} (ha : rdSl eInt h s A) (x : Int) :
    ACalls Try.prog F_slices_Index [s.v, .int .i64 x] h (fun v h' => v = .int .i64 (if x ∈ A then (A.idxOf x : Int) else -1) ∧ h' = h) := by
  refine slices_Index_of ?_
  have hl := ha.lenEq
  have hb := ha.bound
  unfold slices_Index
  refine loop_intro (fun m i h1 => ∃ k : Nat, i = k ∧ h1 = h ∧ k ≤ A.length ∧ m = A.length - k ∧ x ∉ A.take k) A.length ⟨0, rfl, rfl, by omega, by omega, by simp⟩ ?_
  rintro m _ i h1 ⟨k, rfl, rfl, hk, rfl, hno⟩
  refine ifB_intro (fun hc => ?_) (fun hc => ⟨?_, rfl⟩)
  · have hlt : k < A.length := by simpa [hl] using hc
    refine idx_rdN ha rfl hlt fun p _ hp => ld_one hp ?_
    refine ifB_intro (fun hc => ⟨?_, rfl⟩) (fun hc => ar_i64 (by omega) (by omega) ⟨A.length - (k + 1), by omega, k + 1, by omega, rfl, by omega, rfl, ?_⟩)
    · have he : x = A[k] := by simpa using hc
      have hmem : x ∈ A := by rw [he]; exact List.getElem_mem _
      rw [if_pos hmem]
      congr 2
      have h1 : A = A.take k ++ A[k] :: A.drop (k + 1) := by simp
      rw [h1, List.idxOf_append, if_neg hno, ← he]
      simp
      omega
    · have hne : x ≠ A[k] := by simpa using hc
      rw [List.take_succ_eq_append_getElem hlt, List.mem_append, List.mem_singleton]
      rintro (h | h)
      · exact hno h
      · exact hne h
  · have : A.length ≤ k := by simpa [hl] using hc
    rw [List.take_of_length_le this] at hno
    rw [if_neg hno]

/-- The stack's cells. -/
def stk (st : List (Nat × Nat)) : List (Int × Int) := st.reverse.map fun x => ((x.1 : Int), (x.2 : Int))
theorem stk_len (st : List (Nat × Nat)) : (stk st).length = st.length := by simp [stk]
theorem stk_cons (a i : Nat) (r : List (Nat × Nat)) : stk ((a, i) :: r) = stk r ++ [((a : Int), (i : Int))] := by simp [stk]
theorem own_step (a i : Int) (h : Heap) : eStep.own [.int .i64 a, .int .i64 i] (a, i) h [] := ⟨[.int .i64 a], [.int .i64 i], [], [], rfl, rfl, ⟨rfl, rfl⟩, ⟨rfl, rfl⟩⟩

end Go.Proofs.Ytncbpalncgcoaaa

/-
  Small things for laws of graphs.
-/
namespace Go.Proofs.Ytncbpalncgcoaaa
open Go.Fw Go.Pl

theorem lit_ints {h0 h : Heap} {L : List As} {n : Nat} {parts : List (Nat × Value)} (l : List Int) {K : Sl → Heap → Prop} (S : Sep h0 h L)
    (hfill : Instr.fill (fun i => some (i * si_Lint.size, si_Lint.size)) (madeCells si_Lint.zero.cells (n * si_Lint.size)) parts = some (l.map fun n => Value.int .i64 n).toArray) (hl : l.length = n) (hn : n ≤ 16777216)
    (hK : ∀ s h', Sep h0 h' (ownSl si_Lint eInt s l :: L) → K s h') : bld si_Lint n parts h K :=
  bld_rule (S.free loc_ownRow (Row.of_cells l)) hfill hl rfl (by show n * 1 ≤ _; omega) hn hK
theorem few_le {G : Graph} {m : Int} (h : fewB G m = true) : (G.length : Int) ≤ m := by
  unfold fewB at h
  simp only [Bool.and_eq_true, decide_eq_true_eq] at h
  exact h.1
theorem few_row {G : Graph} {m : Int} (h : fewB G m = true) {i : Nat} (hi : i < G.length) : G[i].length ≤ 20 := by
  unfold fewB at h
  simp only [Bool.and_eq_true, List.all_eq_true] at h
  simpa using h.2 _ (List.getElem_mem hi)
theorem few_rows {G : Graph} {m : Int} (h : fewB G m = true) : ∀ r ∈ G, r.length ≤ 1000 := fun r hr => by
  obtain ⟨i, hi, rfl⟩ := List.getElem_of_mem hr
  have := few_row h hi
  omega
theorem wrap_u8 {a : Int} (h0 : 0 ≤ a) (h1 : a < 256) : IntKind.i64.wrap a = a := by
  have := InK_i64 (n := a) (by omega) (by omega)
  exact this
theorem tmod_lt {a : Int} {n : Nat} (h0 : 0 ≤ a) (hn : 0 < n) : ∃ k : Nat, Int.tmod a (n : Int) = k ∧ k < n := by
  obtain ⟨x, rfl⟩ := Int.eq_ofNat_of_zero_le h0
  exact ⟨x % n, (Int.ofNat_tmod x n).symm, Nat.mod_lt _ hn⟩
theorem rd_nil {α : Type} {E : Elem α} {h : Heap} : rdSl E h (⟨none, 0, 0⟩ : Sl) [] := ⟨rfl, Nat.le_refl _, by simp, fun _ => rfl, .inl rfl⟩

end Go.Proofs.Ytncbpalncgcoaaa

/-
  calls: the walker's marks, what it leaves.
-/
namespace Go.Proofs.Ytncbpalncgcoaaa
open Go.Fw Go.Pl

theorem nilck_some {p : Addr} {K : Addr → Prop} (h : K p) : nilck (some p) K := h
theorem Sep.pull {h0 h : Heap} {A : As} (L1 : List As) {L2 : List As} (S : Fw.Sep h0 h (L1 ++ A :: L2)) : Fw.Sep h0 h (A :: (L1 ++ L2)) := S.perm List.perm_middle
theorem Sep.push {h0 h : Heap} {A : As} (L1 : List As) {L2 : List As} (S : Fw.Sep h0 h (A :: (L1 ++ L2))) : Fw.Sep h0 h (L1 ++ A :: L2) := S.perm List.perm_middle.symm

abbrev wcells (g r l pt o lf rd : Sl) : Array Value := #[g.v, r.v, l.v, pt.v, o.v, lf.v, rd.v]
/-- A walker, all of it. -/
abbrev WL (p : Addr) (g r l pt o lf rd : Sl) (R L Pt O LF : List Int) (Rd : List Bool) (X : List As) : List As :=
  rawB p (wcells g r l pt o lf rd) :: ownSl si_Lint eInt r R :: ownSl si_Lint eInt l L :: ownSl si_Lint eInt pt Pt :: ownSl si_Lint eInt o O :: ownSl si_Lint eInt lf LF :: ownSl si_Lbool eBool rd Rd :: X

variable {h0 h : Heap} {p : Addr} {g r l pt o lf rd : Sl} {R L Pt O LF : List Int} {Rd : List Bool} {X : List As}

theorem mark_calls (S : Fw.Sep h0 h (WL p g r l pt o lf rd R L Pt O LF Rd X)) {k n : Nat} (hk : k < R.length) (hk2 : k < L.length) (hO : O.length ≤ 1000) :
    ACalls Try.prog F_calls_walker_mark [.pointer (some p), .int .i64 (k : Int), .int .i64 (n : Int)] h (fun v h' => v = .agg #[.int .i64 (k : Int), .int .i64 0] ∧
      ∃ o', Fw.Sep h0 h' (WL p g r l pt o' lf rd (R.set k n) (L.set k n) Pt (O ++ [(k : Int)]) LF Rd X)) := by
  refine calls_walker_mark_of ?_
  unfold calls_walker_mark
  refine new_rawB S fun q h1 _ S1 => ?_
  have S1 := S1.swap
  refine nilck_some ?_
  refine ld_rawB (x := r) S1 rfl rfl ?_
  refine nilck_some ?_
  refine ld_rawB (x := l) S1 rfl rfl ?_
  refine idx_rdN (Sep.pull [_, _] S1).rd rfl hk fun p3 hat3 _ => ?_
  refine st_flat (Sep.pull [_, _] S1) (x := (n : Int)) (own_int _) hat3 rfl hk fun h2 S2 => ?_
  have S2 := Sep.push [_, _] S2
  clear S1
  refine idx_rdN (Sep.pull [_, _, _] S2).rd rfl hk2 fun p4 hat4 _ => ?_
  refine st_flat (Sep.pull [_, _, _] S2) (x := (n : Int)) (own_int _) hat4 rfl hk2 fun h3 S3 => ?_
  have S3 := Sep.push [_, _, _] S3
  clear S2
  refine nilck_some ?_
  refine ld_rawB (x := o) S3 rfl rfl ?_
  refine app1_flat (x := (k : Int)) (Sep.pull [_, _, _, _, _] S3) (fun _ => ⟨rfl, rfl⟩) rfl (by decide) (by simp only [si_Lint]; omega) (by omega) fun o' h5 S5 => ?_
  have S5 := Sep.push [_, _, _, _, _] S5
  clear S3
  refine nilck_some ?_
  refine st_rawB S5 (by show 4 < 7; decide) rfl fun h6 S6 => ?_
  refine ⟨#[.int .i64 (k : Int), .int .i64 0], by kernel_rfl, rfl, ?_⟩
  have S6 := S6.swap
  have key := st_rawsB (i := 0) (vs := (#[.int .i64 (k : Int), .int .i64 0] : Array Value).toList) (K := fun h7 => ld (.agg 2) h7 q fun (x_3 : Array Value) => (Value.agg x_3) = .agg #[.int .i64 (k : Int), .int .i64 0] ∧
      ∃ o', Fw.Sep h0 h7 (WL p g r l pt o' lf rd (R.set k n) (L.set k n) Pt (O ++ [(k : Int)]) LF Rd X)) S6 (by show 0 + 2 ≤ 2; decide) (by intro v hv; simp at hv; rcases hv with rfl | rfl <;> rfl) fun h7 S7 => ?_
  · rw [Addr.add_zero'] at key
    exact key
  · exact ld_rawAgg S7 rfl ⟨rfl, o', S7.drop⟩

theorem min_calls {h : Heap} {s : Sl} {A : List Int} (ha : rdSl eInt h s A) (hpos : 0 < A.length) :
    ACalls Try.prog F_slices_Min [s.v] h (fun v h' => h' = h ∧ ∃ c : Int, v = .int .i64 c ∧ c ∈ A ∧ ∀ x ∈ A, c ≤ x) := by
  refine slices_Min_of ?_
  unfold slices_Min
  have hl := ha.lenEq
  have hb := ha.bound
  refine ifB_false (decide_eq_false (by omega)) ?_
  refine idx_rdN ha rfl hpos fun p _ hp => ld_one hp ?_
  refine loop_intro (fun m (q : Int × Int) h' => ∃ j : Nat, q.2 = j ∧ 1 ≤ j ∧ j ≤ A.length ∧ m = A.length - j ∧ h = h' ∧ q.1 ∈ A ∧ ∀ i (hi : i < A.length), i < j → q.1 ≤ A[i]) (A.length - 1)
    ⟨1, rfl, by omega, by omega, rfl, rfl, List.getElem_mem hpos, fun i hi h => by
      have : i = 0 := by omega
      subst this; exact Int.le_refl _⟩ ?_
  rintro _ _ ⟨m, j⟩ _ ⟨j, hj0, hj1, hj, rfl, rfl, hm, hall⟩
  simp only at hj0 hm hall ⊢
  subst hj0
  refine ifB_intro (fun hc => ?_) (fun hc => ?_)
  · have hjl : j < A.length := by rw [hl] at hc; simpa using hc
    refine idx_rdN ha rfl hjl fun p _ hp => ld_one hp ?_
    refine ar_i64 (by omega) (by omega) ⟨A.length - (j + 1), by omega, j + 1, rfl, by omega, by omega, rfl, trivial, ?_, fun i hi hlt => ?_⟩
    · split
      · exact List.getElem_mem hjl
      · exact hm
    · by_cases e : i = j
      · subst e; split <;> omega
      · have := hall i hi (by omega)
        split <;> omega
  · have hjl : A.length ≤ j := by rw [hl] at hc; have := of_decide_eq_false hc; omega
    refine ⟨trivial, m, rfl, hm, fun x hx => ?_⟩
    obtain ⟨i, hi, rfl⟩ := List.getElem_of_mem hx
    exact hall i hi (by omega)

def dropSl (s : Sl) (k n : Nat) : Sl := ⟨if s.cap = k then s.a else s.a.map (·.add (k * n)), s.len - k, s.cap - k⟩
theorem rd_drop {α : Type} {E : Elem α} {h : Heap} {s : Sl} {l : List α} (r : rdSl E h s l) {k : Nat} (h2 : k ≤ l.length) : rdSl E h (dropSl s k E.size) (l.drop k) := by
  have := slc_from (n := E.size) (k := k) (K := fun s' => s' = dropSl s k E.size → rdSl E h s' (l.drop k)) r rfl h2 fun s' hs _ => hs
  exact this.2.2.2 (by simp [dropSl])
theorem slc_drop {α : Type} {E : Elem α} {h : Heap} {s : Sl} {l : List α} (r : rdSl E h s l) {n k : Nat} {K : Sl → Prop} (h2 : k ≤ l.length) (hK : K (dropSl s k n)) : slc n s (some (k : Int)) none K := by
  obtain ⟨r1, r2, _⟩ := r
  refine ⟨by simp, by simp; omega, by simpa using r2, ?_⟩
  have : (⟨if s.cap = ((some (k : Int)).getD 0).toNat then s.a else s.a.map (·.add (((some (k : Int)).getD 0).toNat * n)), ((none : Option Int).getD s.len).toNat - ((some (k : Int)).getD 0).toNat, s.cap - ((some (k : Int)).getD 0).toNat⟩ : Sl) = dropSl s k n := by
    simp [dropSl]
  rw [this]
  exact hK

/-- What is left behind a part. -/
theorem leave_calls (S : Fw.Sep h0 h (WL p g r l pt o lf rd R L Pt O LF Rd X)) {k : Nat} (hk : k < R.length) (hk2 : k < L.length) (hLF : LF.length ≤ 1000) {lk rk : Int} (hlk : L[k] = lk) (hrk : R[k] = rk)
    {O1 : List Int} {C : List Nat} (hO : O = O1 ++ C.map fun (x : Nat) => (x : Int)) (hO1 : (k : Int) ∉ O1) (hC : ∃ l, C = k :: l) (hCn : ∀ x ∈ C, x < Pt.length ∧ x < Rd.length) (hOn : O.length ≤ 1000) :
    ACalls Try.prog F_calls_walker_leave [.pointer (some p), .int .i64 (k : Int)] h (fun v h' => v = .tuple #[] ∧ ∃ lf',
      (lk ≠ rk → Fw.Sep h0 h' (WL p g r l pt o lf' rd R L Pt O (LF ++ [(k : Int)]) Rd X)) ∧
      (lk = rk → ∃ (o' : Sl) (c : Nat) (Pt' : List Int) (Rd' : List Bool), c ∈ C ∧ (∀ x ∈ C, c ≤ x) ∧ Pt'.length = Pt.length ∧ Rd'.length = Rd.length ∧
        (∀ i (hi : i < Pt'.length), Pt'[i] = if i ∈ C then (c : Int) else Pt.getD i (-1)) ∧ (∀ i (hi : i < Rd'.length), Rd'[i] = true ↔ Rd.getD i false = true ∨ (i ∈ C ∧ 1 < C.length)) ∧
        Fw.Sep h0 h' (WL p g r l pt o' lf' rd R L Pt' O1 (LF ++ [(k : Int)]) Rd' X))) := by
  refine calls_walker_leave_of ?_
  unfold calls_walker_leave
  refine nilck_some ?_
  refine ld_rawB (x := lf) S rfl rfl ?_
  refine app1_flat (x := (k : Int)) (Sep.pull [_, _, _, _, _] S) (fun _ => ⟨rfl, rfl⟩) rfl (by decide) (by simp only [si_Lint]; omega) (by omega) fun lf' h2 S2 => ?_
  have S2 := Sep.push [_, _, _, _, _] S2
  refine nilck_some ?_
  refine st_rawB S2 (by show 5 < 7; decide) rfl fun h3 S3 => ?_
  have S3 : Fw.Sep h0 h3 (WL p g r l pt o lf' rd R L Pt O (LF ++ [(k : Int)]) Rd X) := S3
  clear S S2
  refine nilck_some ?_
  refine ld_rawB (x := l) S3 rfl rfl ?_
  refine idx_rdN (Sep.pull [_, _] S3).rd rfl hk2 fun p3 _ hp3 => ld_one hp3 ?_
  refine nilck_some ?_
  refine ld_rawB (x := r) S3 rfl rfl ?_
  refine idx_rdN (Sep.pull [_] S3).rd rfl hk fun p5 _ hp5 => ld_one hp5 ?_
  rw [hlk, hrk]
  refine ifB_intro (fun hne => ⟨rfl, lf', fun _ => S3, fun e => by rw [e] at hne; simp at hne⟩) (fun heq => ?_)
  have heq : lk = rk := by simpa using heq
  obtain ⟨Cl, hCl⟩ := hC
  have hidx : O.idxOf (k : Int) = O1.length := by
    rw [hO, List.idxOf_append, if_neg hO1, hCl]
    simp
  have hmem : (k : Int) ∈ O := by rw [hO, hCl]; simp
  have hOl : O.length = O1.length + C.length := by rw [hO]; simp
  have hdrop : O.drop O1.length = C.map fun (x : Nat) => (x : Int) := by rw [hO]; simp
  refine nilck_some ?_
  refine ld_rawB (x := o) S3 rfl rfl ?_
  refine (index_calls (Sep.pull [_, _, _, _] S3).rd (k : Int)).mono ?_
  rintro v h4 ⟨rfl, e4⟩
  have e4 := e4.symm
  subst e4
  refine ⟨_, rfl, ?_⟩
  rw [if_pos hmem, hidx]
  refine nilck_some ?_
  refine ld_rawB (x := o) S3 rfl rfl ?_
  refine slc_drop (Sep.pull [_, _, _, _] S3).rd (by omega) ?_
  have hrd := rd_drop (k := O1.length) (Sep.pull [_, _, _, _] S3).rd (by omega)
  rw [hdrop] at hrd
  have hCpos : 0 < C.length := by rw [hCl]; simp
  refine (min_calls hrd (by simpa using hCpos)).mono ?_
  rintro v h5 ⟨e5, c0, rfl, hc0, hcmin⟩
  have e5 := e5.symm
  subst e5
  obtain ⟨c, hcC, rfl⟩ := List.mem_map.1 hc0
  refine ⟨_, rfl, ?_⟩
  have hsl : (dropSl o O1.length 1).len = C.length := by have h9 := hrd.lenEq; rw [List.length_map] at h9; exact h9
  refine loop_intro (fun m (t : Int) h' => ∃ (j : Nat) (Pt' : List Int) (Rd' : List Bool), t = j ∧ j ≤ C.length ∧ m = C.length - j ∧ Pt'.length = Pt.length ∧ Rd'.length = Rd.length ∧
      (∀ i (hi : i < Pt'.length), Pt'[i] = if i ∈ C.take j then (c : Int) else Pt.getD i (-1)) ∧ (∀ i (hi : i < Rd'.length), Rd'[i] = true ↔ Rd.getD i false = true ∨ (i ∈ C.take j ∧ 1 < C.length)) ∧
      Fw.Sep h0 h' (WL p g r l pt o lf' rd R L Pt' O (LF ++ [(k : Int)]) Rd' X)) C.length
    ⟨0, Pt, Rd, rfl, by omega, by omega, rfl, rfl, fun i hi => by rw [getD_lt hi]; simp, fun i hi => by rw [getD_lt hi]; simp, S3⟩ ?_
  clear S3 hrd
  rintro _ _ t h6 ⟨j, Pt', Rd', rfl, hj, rfl, hPl, hRl, hP, hR, S⟩
  refine ifB_intro (fun hc => ?_) (fun hc => ?_)
  · have hjl : j < C.length := by rw [hsl] at hc; simpa using hc
    intro k1 hk1
    have hrd := rd_drop (k := O1.length) (Sep.pull [_, _, _, _] S).rd (by omega)
    rw [hdrop] at hrd
    refine idx_rdN hrd rfl (by simpa using hjl) fun p8 _ hp8 => ld_one hp8 ?_
    rw [List.getElem_map]
    obtain ⟨hx1, hx2⟩ := hCn _ (List.getElem_mem hjl)
    have htk : C.take (j + 1) = C.take j ++ [C[j]] := List.take_succ_eq_append_getElem hjl
    generalize hxe : C[j] = x at htk hx1 hx2
    refine nilck_some ?_
    refine ld_rawB (x := pt) S rfl rfl ?_
    refine idx_rdN (i := x) (Sep.pull [_, _, _] S).rd rfl (by omega) fun p10 hat10 _ => ?_
    refine st_flat (Sep.pull [_, _, _] S) (x := (c : Int)) (own_int _) hat10 rfl (by omega) fun h8 S8 => ?_
    have S8 := Sep.push [_, _, _] S8
    clear S
    refine nilck_some ?_
    refine ld_rawB (x := rd) S8 rfl rfl ?_
    refine nilck_some ?_
    refine ld_rawB (x := rd) S8 rfl rfl ?_
    have hxR : x < Rd'.length := by omega
    have fin : ∀ (b : Bool) (h' : Heap), (b = true ↔ Rd'[x] = true ∨ 1 < C.length) → Fw.Sep h0 h' (WL p g r l pt o lf' rd R L (Pt'.set x c) O (LF ++ [(k : Int)]) (Rd'.set x b) X) → k1 () h' := fun b h' hb S' =>
      hk1 _ _ fun _ => ar_i64 (by omega) (by omega) ⟨C.length - (j + 1), by omega, j + 1, Pt'.set x c, Rd'.set x b, rfl, by omega, rfl, by simpa using hPl, by simpa using hRl, fun i hi => by
        rw [List.getElem_set, htk]
        by_cases e : x = i
        · subst e; simp
        · rw [if_neg e, hP i (by simpa using hi)]
          have : (i ∈ C.take j ++ [x]) ↔ i ∈ C.take j := by
            rw [List.mem_append, List.mem_singleton]; exact ⟨fun h => h.resolve_right fun h => e h.symm, .inl⟩
          by_cases hm : i ∈ C.take j
          · rw [if_pos hm, if_pos (this.2 hm)]
          · rw [if_neg hm, if_neg fun h => hm (this.1 h)], fun i hi => by
        rw [List.getElem_set, htk]
        have hi' : i < Rd'.length := by simpa using hi
        by_cases e : x = i
        · subst e
          rw [if_pos rfl, hb, hR x hi']
          constructor
          · rintro ((h | h) | h)
            · exact .inl h
            · exact .inr ⟨by simp, h.2⟩
            · exact .inr ⟨by simp, h⟩
          · rintro (h | h)
            · exact .inl (.inl h)
            · exact .inr h.2
        · rw [if_neg e, hR i hi']
          have : (i ∈ C.take j ++ [x]) ↔ i ∈ C.take j := by
            rw [List.mem_append, List.mem_singleton]; exact ⟨fun h => h.resolve_right fun h => e h.symm, .inl⟩
          rw [this], S'⟩
    refine idx_rdN (Sep.pull [_, _, _, _, _, _] S8).rd rfl hxR fun p13 _ hp13 => ld_one hp13 ?_
    refine ifB_intro (fun ht => ?_) (fun hf => ?_)
    · refine idx_rdN (Sep.pull [_, _, _, _, _, _] S8).rd rfl hxR fun p14 hat14 _ => ?_
      exact st_flat (Sep.pull [_, _, _, _, _, _] S8) (x := true) (own_bool true) hat14 rfl hxR fun h9 S9 => fin true h9 ⟨fun _ => .inl ht, fun _ => rfl⟩ (Sep.push [_, _, _, _, _, _] S9)
    · refine idx_rdN (Sep.pull [_, _, _, _, _, _] S8).rd rfl hxR fun p15 hat15 _ => ?_
      refine st_flat (Sep.pull [_, _, _, _, _, _] S8) (x := decide (((dropSl o O1.length 1).len : Int) > 1)) (own_bool _) hat15 rfl hxR fun h9 S9 => fin _ h9 ?_ (Sep.push [_, _, _, _, _, _] S9)
      rw [hsl, decide_eq_true_eq, hf]
      exact ⟨fun h => .inr (by omega), fun h => h.elim (fun h => by cases h) fun h => by omega⟩
  · have hjl : C.length ≤ j := by rw [hsl] at hc; simpa using hc
    rw [List.take_of_length_le hjl] at hP hR
    refine nilck_some ?_
    refine ld_rawB (x := o) S rfl rfl ?_
    refine slc_to (Sep.pull [_, _, _, _] S) (by omega) (by omega) fun o' S9 => ?_
    have S9 := Sep.push [_, _, _, _] S9
    rw [Int.toNat_natCast] at S9
    have htake : O.take O1.length = O1 := by rw [hO]; simp
    rw [htake] at S9
    refine nilck_some ?_
    refine st_rawB S9 (by show 4 < 7; decide) rfl fun h11 S11 => ?_
    refine ⟨rfl, lf', fun e => absurd heq e, fun _ => ⟨o', c, Pt', Rd', hcC, fun x hx => ?_, hPl, hRl, hP, hR, S11⟩⟩
    have := hcmin (x : Int) (List.mem_map.2 ⟨x, hx, rfl⟩)
    omega

end Go.Proofs.Ytncbpalncgcoaaa

/-
  calls: going down from a point.
-/
namespace Go.Proofs.Ytncbpalncgcoaaa
open Go.Fw Go.Pl

/-- The walker's lists say what is known. -/
structure WS (G : Graph) (T : TS) (R L Pt : List Int) (Rd M : List Bool) : Prop where
  lR : R.length = G.length
  lL : L.length = G.length
  lP : Pt.length = G.length
  lD : Rd.length = G.length
  lM : M.length = G.length
  r : ∀ v, v < G.length → R.getD v 0 = (T.rank v : Int)
  l : ∀ v, v < G.length → L.getD v 0 = (T.low v : Int)
  p : ∀ v, v < G.length → Pt.getD v (-1) = T.part v
  d : ∀ v, v < G.length → Rd.getD v false = T.rnd v
  k : ∀ v, v < G.length → (M.getD v false = false ↔ T.rank v = 0)
  op : T.O.length ≤ T.m
  cnt : T.m + open' M = G.length
theorem getD_setX {α : Type} {l : List α} {k : Nat} {x d : α} (hk : k < l.length) (v : Nat) : (l.set k x).getD v d = if v = k then x else l.getD v d := by
  rw [List.getD_eq_getElem?_getD, List.getD_eq_getElem?_getD, List.getElem?_set]
  by_cases e : k = v
  · subst e; simp [hk]
  · have e' : ¬ v = k := fun h => e h.symm
    simp [e, e']

theorem dn_unw {G : Graph} {f a : Nat} {M : List Bool} {l : List Int} (hn : G.length = f + 1) (hM : M.length = G.length) (ha : a < G.length) (hm : M.getD a false = false) (ho : open' M ≤ f + 1) :
    unw G (f + 1) [(a, 0)] (M.set a true, l) = dn G (f + 1) a M l := by
  have hc := count_set (M := M) (a := a) (by omega) (by simpa [List.getD_eq_getElem?_getD, show a < M.length by omega] using hm)
  have e2 := foldl_congr_on (n := G.length) (go := dn G (f + 1)) (go' := dn G f) (open' (M.set a true)) (fun k s => dn_grows G (f + 1) k s) M.length
    (fun j t hj htl htm hb => dn_fuel G (f + 1) f j t.1 t.2 (by omega) (by omega) htm (by omega) (by omega)) (G.getD a []) (M.set a true, l) (by simp) (Nat.le_refl _)
  conv => lhs; unfold unw; unfold unw
  conv => rhs; unfold dn
  simp only [List.drop_zero, e2]

variable {h0 h : Heap} {p : Addr} {g r l pt o lf rd : Sl} {R L Pt O LF : List Int} {Rd : List Bool} {X : List As}
abbrev castL (l : List Nat) : List Int := l.map fun (x : Nat) => (x : Int)

theorem WS.push {G : Graph} {T : TS} {R L Pt : List Int} {Rd M : List Bool} (w : WS G T R L Pt Rd M) {k : Nat} (hk : k < G.length) (h0 : T.rank k = 0) (st' : List (Nat × Nat)) :
    WS G ⟨upF T.rank k (T.m + 1), upF T.low k (T.m + 1), T.part, T.rnd, T.O ++ [k], st', T.m + 1⟩ (R.set k ((T.m + 1 : Nat) : Int)) (L.set k ((T.m + 1 : Nat) : Int)) Pt Rd (M.set k true) := by
  have hkR : k < R.length := by rw [w.lR]; exact hk
  have hkL : k < L.length := by rw [w.lL]; exact hk
  have hkM : k < M.length := by rw [w.lM]; exact hk
  have hc := count_set hkM (by have := (w.k k hk).2 h0; rwa [getD_lt hkM] at this)
  refine ⟨by simpa using w.lR, by simpa using w.lL, w.lP, w.lD, by simpa using w.lM, fun v hv => ?_, fun v hv => ?_, w.p, w.d, fun v hv => ?_, by have := w.op; simp; omega, by have := w.cnt; show T.m + 1 + _ = _; omega⟩
  · rw [getD_setX hkR]
    show _ = ((upF T.rank k (T.m + 1) v : Nat) : Int)
    unfold upF
    split
    · rfl
    · exact w.r v hv
  · rw [getD_setX hkL]
    show _ = ((upF T.low k (T.m + 1) v : Nat) : Int)
    unfold upF
    split
    · rfl
    · exact w.l v hv
  · rw [getD_setX hkM]
    show _ ↔ upF T.rank k (T.m + 1) v = 0
    unfold upF
    split
    · simp
    · exact w.k v hv

end Go.Proofs.Ytncbpalncgcoaaa

/-
  calls: down.
-/
namespace Go.Proofs.Ytncbpalncgcoaaa
open Go.Fw Go.Pl
variable {h0 h : Heap} {p : Addr} {g r l pt o lf rd : Sl} {R L Pt O LF : List Int} {Rd : List Bool} {X : List As}

/-- All that the walk knows at the head of its loop. -/
structure DW (G : Graph) (f : Nat) (fin : List Bool × List Int) (T : TS) (R L Pt : List Int) (Rd M : List Bool) (LF : List Int) : Prop where
  ti : TI G T
  ws : WS G T R L Pt Rd M
  st : ∀ x ∈ T.st, x.1 < G.length ∧ x.2 ≤ (G.getD x.1 []).length
  un : unw G (f + 1) T.st (M, LF) = fin
  cnt : LF.length + T.st.length + open' M = G.length

theorem wdown_calls {LFz : List Int} {G : Graph} (hg : rdSl eInts h0 g G) (hn : G.length ≤ 1000) {T : TS} {M : List Bool} {frm : Nat} (S : Fw.Sep h0 h (WL p g r l pt o lf rd R L Pt (castL T.O) LFz Rd X)) (t : TI G T) (hst : T.st = []) (w : WS G T R L Pt Rd M)
    (hf : frm < G.length) (hf0 : T.rank frm = 0) (hcnt : LFz.length + open' M = G.length) :
    ACalls Try.prog F_calls_walker_down [.pointer (some p), .int .i64 (frm : Int), .int .i64 (T.m : Int)] h (fun v h' => ∃ (T' : TS) (R' L' Pt' LF' : List Int) (Rd' M' : List Bool) (o' lf' : Sl), v = .int .i64 (T'.m : Int) ∧
      TI G T' ∧ T'.st = [] ∧ WS G T' R' L' Pt' Rd' M' ∧ (M', LF') = dn G G.length frm M LFz ∧ LF'.length + open' M' = G.length ∧ Fw.Sep h0 h' (WL p g r l pt o' lf' rd R' L' Pt' (castL T'.O) LF' Rd' X)) := by
  refine calls_walker_down_of ?_
  unfold calls_walker_down
  obtain ⟨f, hGf⟩ : ∃ f, G.length = f + 1 := ⟨G.length - 1, by omega⟩
  have hgl := hg.lenEq
  have hop := w.op
  have hcn := w.cnt
  refine ar_i64 (by omega) (by omega) ?_
  rw [show (T.m : Int) + 1 = ((T.m + 1 : Nat) : Int) by omega]
  refine (mark_calls S (k := frm) (n := T.m + 1) (by rw [w.lR]; exact hf) (by rw [w.lL]; exact hf) (by simp; omega)).mono ?_
  rintro v h1 ⟨rfl, o1, S1⟩
  refine ⟨_, rfl, ?_⟩
  refine bld_one (si := si_Lcalls_step) (E := eStep) (x := ((frm : Int), (0 : Int))) (S1.nil rfl) (own_step _ _) rfl (by decide) fun s h2 S2 => ?_
  have hO1 : castL T.O ++ [(frm : Int)] = castL (T.O ++ [frm]) := by simp [castL]
  rw [hO1] at S2
  have hfM : frm < M.length := by rw [w.lM]; exact hf
  have hMf := (w.k frm hf).2 hf0
  have hc1 := count_set hfM (by rwa [getD_lt hfM] at hMf)
  have hempty := t.empty hst
  have D0 : DW G f (dn G G.length frm M LFz) ⟨upF T.rank frm (T.m + 1), upF T.low frm (T.m + 1), T.part, T.rnd, T.O ++ [frm], [(frm, 0)], T.m + 1⟩ (R.set frm ((T.m + 1 : Nat) : Int)) (L.set frm ((T.m + 1 : Nat) : Int)) Pt Rd (M.set frm true) LFz :=
    ⟨t.push (st' := []) hf hf0 (.inl ⟨hst, rfl⟩), w.push hf hf0 _, fun x hx => by
      rw [List.mem_singleton.1 hx]; exact ⟨hf, by simp⟩, by rw [hGf]; exact dn_unw hGf w.lM hf hMf (by omega), by simp; omega⟩
  refine loop_intro (fun m (q : Int × Sl) h' => ∃ (T : TS) (R L Pt LF : List Int) (Rd M' : List Bool) (o lf : Sl), q.1 = (T.m : Int) ∧ DW G f (dn G G.length frm M LFz) T R L Pt Rd M' LF ∧ m = todo G T.st M' ∧
      Fw.Sep h0 h' (ownSl si_Lcalls_step eStep q.2 (stk T.st) :: WL p g r l pt o lf rd R L Pt (castL T.O) LF Rd X)) _
    ⟨_, _, _, _, _, _, _, o1, lf, rfl, D0, rfl, S2⟩ ?_
  clear D0 S2 S1 S hempty hcnt hf0 hst t w hop hcn hc1 hMf hO1
  rintro _ _ ⟨mk, stack⟩ h3 ⟨T, R, L, Pt, LF, Rd, M', o, lf, hq1, D, rfl, S⟩
  simp only at hq1 S ⊢
  subst hq1
  have hsl := S.rd.lenEq
  rw [stk_len] at hsl
  have hcnt := D.cnt
  have w := D.ws
  have t := D.ti
  have hop := w.op
  have hcn := w.cnt
  refine ifB_intro (fun hc => ?_) (fun hc => ?_)
  case refine_2 =>
    have hnil : T.st = [] := List.length_eq_zero_iff.1 (by have := of_decide_eq_false hc; omega)
    have hun := D.un
    rw [hnil] at hun
    have hun : (M', LF) = dn G G.length frm M LFz := hun
    exact ⟨T, R, L, Pt, LF, Rd, M', o, lf, rfl, t, hnil, w, hun, by rw [hnil] at hcnt; simpa using hcnt, S.drop⟩
  obtain ⟨a, i, rr, hst⟩ : ∃ a i rr, T.st = (a, i) :: rr := by
    cases e : T.st with
    | nil => rw [e] at hsl; have := of_decide_eq_true hc; simp at hsl; omega
    | cons x rr => exact ⟨x.1, x.2, rr, rfl⟩
  obtain ⟨ha, hi⟩ := D.st (a, i) (by rw [hst]; simp)
  simp only at ha hi
  have haO : a ∈ T.O := t.onp a (by rw [hst]; simp)
  have har := (t.op a).1 haO
  have hsl' : stack.len = rr.length + 1 := by rw [hsl, hst]; simp
  refine ar_i64 (by omega) (by omega) ?_
  have e1 : (stack.len : Int) - 1 = ((rr.length : Nat) : Int) := by omega
  rw [e1]
  rw [hst] at S
  have hin : rr.length < (stk ((a, i) :: rr)).length := by rw [stk_len]; simp
  have htop : ∀ (a i : Nat) (rr : List (Nat × Nat)) (hin : rr.length < (stk ((a, i) :: rr)).length), (stk ((a, i) :: rr))[rr.length] = ((a : Int), (i : Int)) := fun a i rr hin => by
    simp only [stk_cons]; rw [List.getElem_append_right (by rw [stk_len]; exact Nat.le_refl _)]; simp
  refine idx_rdN S.rd rfl hin fun q hat hp => ?_
  rw [htop a i rr hin] at hp
  obtain ⟨hp1, hp2⟩ := hp
  have hp0 : holds h3 (q.add 0) (.int .i64) (a : Int) := by rw [Addr.add_zero']; exact hp1
  refine ld_one (k := .int .i64) hp2 ?_
  refine nilck_some ?_
  refine ld_rawB (x := g) (Sep.pull [_] S) rfl rfl ?_
  refine ld_one hp0 ?_
  refine idx_rdN hg rfl ha fun p2 _ hq => ld_slB hq S.old fun row hrow => ?_
  rw [row_eq] at hrow
  have hrl := hrow.lenEq
  have hrb := hrow.bound
  have haR : a < R.length := by rw [w.lR]; exact ha
  have haL : a < L.length := by rw [w.lL]; exact ha
  have hRa : R[a] = (T.rank a : Int) := by rw [← getD_lt haR, w.r a ha]
  have hLa : L[a] = (T.low a : Int) := by rw [← getD_lt haL, w.l a ha]
  refine ifB_intro (fun hc => ?_) (fun hc => ?_)
  · -- a point is left
    have hie : (G.getD a []).length = i := by
      have : (i : Int) = (row.len : Int) := by simpa using hc
      omega
    refine ld_one hp0 ?_
    refine ar_i64 (by omega) (by omega) ?_
    refine slc_to S (by omega) (by rw [stk_len]; simp; omega) fun s1 S1 => ?_
    have hstk : (stk ((a, i) :: rr)).take rr.length = stk rr := by rw [stk_cons, List.take_left' (stk_len rr)]
    rw [Int.toNat_natCast, hstk] at S1
    have S2 := Sep.push [_, _, _, _, _, _, _] S1
    obtain ⟨hcut, hcutk⟩ := t.cutSplit haO
    have hcutO : castL T.O = castL (T.O.filter fun x => decide (T.rank x < T.rank a)) ++ (cut T.rank a T.O).map fun (x : Nat) => (x : Int) := by
      conv => lhs; rw [hcut]
      simp [castL]
    have hcin : ∀ x ∈ cut T.rank a T.O, x < G.length := fun x hx => (t.vis x ((t.op x).1 (List.mem_filter.1 hx).1).1).1
    refine (leave_calls (k := a) S2 haR haL (by rw [hst] at hcnt; simp at hcnt; omega) hLa hRa hcutO ?_ hcutk (fun x hx => ⟨by rw [w.lP]; exact hcin x hx, by rw [w.lD]; exact hcin x hx⟩) (by simp; omega)).mono ?_
    · intro hm
      obtain ⟨x, hx, e⟩ := List.mem_map.1 hm
      have : x = a := by omega
      subst this
      have := of_decide_eq_true (List.mem_filter.1 hx).2
      omega
    rintro v h4 ⟨rfl, lf', hno, hyes⟩
    refine ⟨rfl, ?_⟩
    have hun : unw G (f + 1) rr (M', LF ++ [(a : Int)]) = dn G G.length frm M LFz := by
      rw [← D.un, hst, unw_pop (by omega)]
    have hcnt' : (LF ++ [(a : Int)]).length + rr.length + open' M' = G.length := by
      rw [hst] at hcnt; simp at hcnt ⊢; omega
    have hst' : ∀ x ∈ rr, x.1 < G.length ∧ x.2 ≤ (G.getD x.1 []).length := fun x hx => D.st x (by rw [hst]; simp [hx])
    have htodo : todo G rr M' < todo G T.st M' := by rw [hst]; exact todo_pop
    intro k1 hk1
    have fin : ∀ (T' : TS) (R' L' Pt' : List Int) (Rd' : List Bool) (o' : Sl) (h' : Heap), TI G T' → T'.st = rr → T'.m = T.m → WS G T' R' L' Pt' Rd' M' → Fw.Sep h0 h' (ownSl si_Lcalls_step eStep s1 (stk rr) :: WL p g r l pt o' lf' rd R' L' Pt' (castL T'.O) (LF ++ [(a : Int)]) Rd' X) → k1 () h' := fun T' R' L' Pt' Rd' o' h' t' e1 e2 w' S' => by
      refine hk1 _ _ fun _ => ⟨_, htodo, T', R', L', Pt', _, Rd', M', o', lf', by rw [e2], ⟨t', w', by rw [e1]; exact hst', by rw [e1]; exact hun, by rw [e1]; exact hcnt'⟩, by rw [e1], ?_⟩
      rw [e1]; exact S'
    have hs1l : s1.len = rr.length := by
      have := S1.rd.lenEq
      rw [this, stk_len]
    by_cases hlr : T.low a = T.rank a
    · -- a part is done
      obtain ⟨o', c, Pt', Rd', hcC, hcmin, hPl, hRl, hP, hR, S4⟩ := hyes (by rw [hlr])
      have S4 := Sep.pull [_, _, _, _, _, _, _] S4
      have hPlen : Pt'.length = G.length := by rw [hPl, w.lP]
      have hRlen : Rd'.length = G.length := by rw [hRl, w.lD]
      have t' := t.done (c := c) (part' := fun v => if v < G.length then Pt'.getD v (-1) else T.part v) (rnd' := fun v => if v < G.length then Rd'.getD v false else T.rnd v) hst (by omega) hlr hcC hcmin (fun v => ?_) (fun v => ?_)
      rotate_left
      · by_cases hv : v < G.length
        · rw [if_pos hv, getD_lt (by omega), hP v (by omega), w.p v hv]
        · rw [if_neg hv, if_neg fun h => hv (hcin v h)]
      · by_cases hv : v < G.length
        · rw [if_pos hv, getD_lt (by omega), hR v (by omega), w.d v hv]
        · rw [if_neg hv]
          exact ⟨.inl, fun h => h.elim id fun h => absurd (hcin v h.1) hv⟩
      have w' : WS G ⟨T.rank, T.low, fun v => if v < G.length then Pt'.getD v (-1) else T.part v, fun v => if v < G.length then Rd'.getD v false else T.rnd v, T.O.filter fun x => decide (T.rank x < T.rank a), rr, T.m⟩ R L Pt' Rd' M' :=
        ⟨w.lR, w.lL, hPlen, hRlen, w.lM, w.r, w.l, fun v hv => (if_pos hv).symm, fun v hv => (if_pos hv).symm, w.k, Nat.le_trans (List.length_filter_le _ _) hop, hcn⟩
      refine ifB_intro (fun hc2 => ?_) (fun hc2 => fin _ _ _ _ _ o' h4 t' rfl rfl w' S4)
      obtain ⟨v, j, r2, hr2⟩ : ∃ v j r2, rr = (v, j) :: r2 := by
        cases e : rr with
        | nil => rw [e] at hs1l; have := of_decide_eq_true hc2; simp at hs1l; omega
        | cons x r2 => exact ⟨x.1, x.2, r2, rfl⟩
      obtain ⟨hv, _⟩ := hst' (v, j) (by rw [hr2]; simp)
      simp only at hv
      refine ar_i64 (by omega) (by omega) ?_
      rw [hr2] at S4 hs1l
      rw [show (s1.len : Int) - 1 = ((r2.length : Nat) : Int) by rw [hs1l]; simp]
      have hin2 : r2.length < (stk ((v, j) :: r2)).length := by rw [stk_len]; simp
      refine idx_rdN S4.rd rfl hin2 fun q3 _ hq3 => ?_
      rw [htop v j r2 hin2] at hq3
      have hq30 : holds h4 (q3.add 0) (.int .i64) (v : Int) := by rw [Addr.add_zero']; exact hq3.1
      refine ld_one hq30 ?_
      have S5 := Sep.pull [_] S4
      refine nilck_some ?_
      refine ld_rawB (x := l) S5 rfl rfl ?_
      refine nilck_some ?_
      refine ld_rawB (x := l) S5 rfl rfl ?_
      have hvL : v < L.length := by rw [w.lL]; exact hv
      have hLv : L[v] = (T.low v : Int) := by rw [← getD_lt hvL, w.l v hv]
      refine idx_rdN (Sep.pull [_, _, _] S4).rd rfl hvL fun p6 _ hp6 => ld_one hp6 ?_
      refine nilck_some ?_
      refine ld_rawB (x := l) S5 rfl rfl ?_
      refine idx_rdN (Sep.pull [_, _, _] S4).rd rfl haL fun p8 _ hp8 => ld_one hp8 ?_
      refine idx_rdN (Sep.pull [_, _, _] S4).rd rfl hvL fun p9 hat9 _ => ?_
      rw [hLv, hLa]
      have hlow : T.low v ≤ T.low a := by
        have h1 := (t.low1 v (by rw [hst, hr2]; simp)).1
        have h2 := t.path
        rw [hst, hr2] at h2
        have := ((List.pairwise_cons.1 (show (a :: v :: pth r2).Pairwise _ from h2)).1 v (by simp)).1
        omega
      rw [if_neg (show ¬ ((T.low a : Int) < (T.low v : Int)) by omega)]
      refine st_flat (Sep.pull [_, _, _] S4) (x := (T.low v : Int)) (own_int _) hat9 rfl hvL fun h6 S6 => ?_
      have S6 := Sep.push [_, _, _] S6
      rw [← hLv, List.set_getElem_self] at S6
      rw [← hr2] at S6
      exact fin _ _ _ _ _ o' h6 t' rfl rfl w' S6
    · -- one can come back further
      have S4 := Sep.pull [_, _, _, _, _, _, _] (hno (by omega))
      obtain ⟨v, j, r2, hr2, t'⟩ := t.back hst (by omega) hlr
      have hs1l2 := hs1l
      rw [hr2] at hs1l2
      refine ifB_true (decide_eq_true (by rw [hs1l2]; simp)) ?_
      obtain ⟨hv, _⟩ := hst' (v, j) (by rw [hr2]; simp)
      simp only at hv
      refine ar_i64 (by omega) (by omega) ?_
      rw [show (s1.len : Int) - 1 = ((r2.length : Nat) : Int) by rw [hs1l2]; simp]
      have S4' := S4
      rw [hr2] at S4'
      have hin2 : r2.length < (stk ((v, j) :: r2)).length := by rw [stk_len]; simp
      refine idx_rdN S4'.rd rfl hin2 fun q3 _ hq3 => ?_
      rw [htop v j r2 hin2] at hq3
      have hq30 : holds h4 (q3.add 0) (.int .i64) (v : Int) := by rw [Addr.add_zero']; exact hq3.1
      refine ld_one hq30 ?_
      have S5 := Sep.pull [_] S4
      refine nilck_some ?_
      refine ld_rawB (x := l) S5 rfl rfl ?_
      refine nilck_some ?_
      refine ld_rawB (x := l) S5 rfl rfl ?_
      have hvL : v < L.length := by rw [w.lL]; exact hv
      have hLv : L[v] = (T.low v : Int) := by rw [← getD_lt hvL, w.l v hv]
      refine idx_rdN (Sep.pull [_, _, _] S4).rd rfl hvL fun p6 _ hp6 => ld_one hp6 ?_
      refine nilck_some ?_
      refine ld_rawB (x := l) S5 rfl rfl ?_
      refine idx_rdN (Sep.pull [_, _, _] S4).rd rfl haL fun p8 _ hp8 => ld_one hp8 ?_
      refine idx_rdN (Sep.pull [_, _, _] S4).rd rfl hvL fun p9 hat9 _ => ?_
      rw [hLv, hLa]
      have hmin : (if (T.low a : Int) < (T.low v : Int) then (T.low a : Int) else (T.low v : Int)) = ((min (T.low v) (T.low a) : Nat) : Int) := by
        split <;> omega
      rw [hmin]
      refine st_flat (Sep.pull [_, _, _] S4) (x := ((min (T.low v) (T.low a) : Nat) : Int)) (own_int _) hat9 rfl hvL fun h6 S6 => ?_
      have S6 := Sep.push [_, _, _] S6
      refine fin _ R (L.set v ((min (T.low v) (T.low a) : Nat) : Int)) Pt Rd o h6 t' rfl rfl ⟨w.lR, by simpa using w.lL, w.lP, w.lD, w.lM, w.r, fun u hu => ?_, w.p, w.d, w.k, hop, hcn⟩ S6
      rw [getD_setX hvL]
      show _ = ((upF T.low v _ u : Nat) : Int)
      unfold upF
      split
      · rfl
      · exact w.l u hu
  · -- the next one that it leads to
    have hil : i < (G.getD a []).length := by
      have : ¬ (i : Int) = (row.len : Int) := by simpa using hc
      omega
    refine nilck_some ?_
    refine ld_rawB (x := g) (Sep.pull [_] S) rfl rfl ?_
    refine ld_one hp0 ?_
    refine idx_rdN hg rfl ha fun p3 _ hq3 => ld_slB hq3 S.old fun row2 hrow2 => ?_
    rw [row_eq] at hrow2
    refine ld_one (k := .int .i64) hp2 ?_
    refine idx_rdN hrow2 rfl hil fun p4 _ hp4 => ld_oneB hp4 S.old ?_
    refine ld_one (k := .int .i64) hp2 ?_
    refine ar_i64 (by simp only; omega) (by simp only; omega) ?_
    obtain ⟨kx, hkx⟩ : ∃ kx, (G.getD a [])[i] = kx := ⟨_, rfl⟩
    have hkx' : (G.getD a [])[i]? = some kx := by rw [List.getElem?_eq_getElem hil, hkx]
    simp only [hkx]
    refine st_sub (x := ((a : Int), ((i + 1 : Nat) : Int))) S hat rfl hin (by intro v hv; simp at hv; rw [hv]; rfl) (Nat.le_refl 2) ?_ fun h5 S5 => ?_
    · intro h xs fx ho
      rw [htop a i rr hin] at ho
      obtain ⟨xs1, xs2, f1, f2, rfl, rfl, ⟨rfl, rfl⟩, ⟨rfl, rfl⟩⟩ := ho
      exact own_step _ _ _
    have hset : (stk ((a, i) :: rr)).set rr.length ((a : Int), ((i + 1 : Nat) : Int)) = stk ((a, i + 1) :: rr) := by
      rw [stk_cons, stk_cons, List.set_append_right _ _ (by rw [stk_len]; exact Nat.le_refl _), stk_len]
      simp
    rw [hset] at S5
    clear hp2 hp0 hp1
    have hin5 : rr.length < (stk ((a, i + 1) :: rr)).length := by rw [stk_len]; simp
    have hq5 : eStep.rd h5 q ((a : Int), ((i + 1 : Nat) : Int)) := by
      have h9 : rdSl eStep h5 stack (stk ((a, i + 1) :: rr)) := S5.rd
      obtain ⟨_, aa, haa, rfl⟩ := hat
      rcases h9.2.2.2.2 with h | ⟨a2, ha2, _, h⟩
      · rw [stk_cons] at h; simp at h
      · have e : aa = a2 := by rw [haa] at ha2; injection ha2
        have := h rr.length hin5
        rw [htop a (i + 1) rr hin5] at this
        rw [e]; exact this
    have hq50 : holds h5 (q.add 0) (.int .i64) (a : Int) := by rw [Addr.add_zero']; exact hq5.1
    have hst5 : ∀ x ∈ ((a, i + 1) :: rr), x.1 < G.length ∧ x.2 ≤ (G.getD x.1 []).length := fun x hx => by
      rcases List.mem_cons.1 hx with rfl | hx
      · exact ⟨ha, hil⟩
      · exact D.st x (by rw [hst]; simp [hx])
    have hskip : todo G ((a, i + 1) :: rr) M' < todo G T.st M' := by rw [hst]; exact todo_skip hil
    -- a step that leads to nothing new
    have old : ∀ (l' : Nat) (b' : Bool) (L' : List Int) (Rd' : List Bool) (h' : Heap), ¬ (0 ≤ kx ∧ kx < G.length ∧ M'.getD kx.toNat false = false) → (l' = T.low a ∨ (l' ≤ T.low a ∧ ∃ u : Nat, kx = u ∧ u ∈ T.O ∧ l' = T.rank u)) →
        (∀ u : Nat, kx = u → u ∈ T.O → l' ≤ T.rank u) → (b' = true ↔ (T.rnd a = true ∨ kx = (a : Int))) → L' = L.set a (l' : Int) → Rd' = Rd.set a b' →
        Fw.Sep h0 h' (ownSl si_Lcalls_step eStep stack (stk ((a, i + 1) :: rr)) :: WL p g r l pt o lf rd R L' Pt (castL T.O) LF Rd' X) →
        ∃ m, m < todo G T.st M' ∧ ∃ (T_1 : TS) (R L Pt LF : List Int) (Rd M' : List Bool) (o lf : Sl), (T.m : Int) = (T_1.m : Int) ∧ DW G f (dn G G.length frm M LFz) T_1 R L Pt Rd M' LF ∧ m = todo G T_1.st M' ∧
          Fw.Sep h0 h' (ownSl si_Lcalls_step eStep stack (stk T_1.st) :: WL p g r l pt o lf rd R L Pt (castL T_1.O) LF Rd X) := fun l' b' L' Rd' h' hno hl1 hl2 hb eL eR S' => by
      subst eL eR
      have haD : a < Rd.length := by rw [w.lD]; exact ha
      have t' := t.look hst hkx' (fun u hu hun hz => hno (by
        subst hu
        exact ⟨by omega, by omega, by rw [Int.toNat_natCast]; exact (w.k u hun).2 hz⟩)) hl1 hl2 hb
      refine ⟨_, hskip, ⟨T.rank, upF T.low a l', T.part, upF T.rnd a b', T.O, (a, i + 1) :: rr, T.m⟩, R, _, Pt, LF, _, M', o, lf, rfl, ⟨t', ⟨w.lR, by simpa using w.lL, w.lP, by simpa using w.lD, w.lM, w.r, fun u hu => ?_, w.p, fun u hu => ?_, w.k, hop, hcn⟩, hst5, ?_, ?_⟩, rfl, S'⟩
      · rw [getD_setX haL]
        show _ = ((upF T.low a _ u : Nat) : Int)
        unfold upF
        split
        · rfl
        · exact w.l u hu
      · rw [getD_setX haD]
        show _ = upF T.rnd a _ u
        unfold upF
        split
        · rfl
        · exact w.d u hu
      · rw [← D.un, hst]
        exact (unw_skip hil (by rw [hkx]; exact hno)).symm
      · rw [hst] at hcnt; simp at hcnt ⊢; omega
    have haD : a < Rd.length := by rw [w.lD]; exact ha
    have hDa : Rd[a] = T.rnd a := by rw [← getD_lt haD, w.d a ha]
    have same : ∀ h', ¬ (0 ≤ kx ∧ kx < G.length ∧ M'.getD kx.toNat false = false) → (∀ u : Nat, kx = u → u ∉ T.O) → Fw.Sep h0 h' (ownSl si_Lcalls_step eStep stack (stk ((a, i + 1) :: rr)) :: WL p g r l pt o lf rd R L Pt (castL T.O) LF Rd X) → _ := fun h' hno hnO S' =>
      old (T.low a) (T.rnd a) L Rd h' hno (.inl rfl) (fun u hu huO => absurd huO (hnO u hu)) ⟨.inl, fun h => h.elim id fun h => absurd haO (hnO a h)⟩ (by rw [← hLa, List.set_getElem_self]) (by rw [← hDa, List.set_getElem_self]) S'
    intro k1 hk1
    refine ifB_intro (fun hneg => ?_) (fun hneg => ?_)
    · refine hk1 _ _ fun _ => ifB_true rfl (same h5 (fun h => ?_) (fun u hu => ?_) S5)
      · have := of_decide_eq_true hneg; omega
      · have := of_decide_eq_true hneg; omega
    have hneg := of_decide_eq_false hneg
    refine nilck_some ?_
    refine ld_rawB (x := g) (Sep.pull [_] S5) rfl rfl ?_
    obtain ⟨k, rfl⟩ := Int.eq_ofNat_of_zero_le (a := kx) (by omega)
    cases hbig : decide ((k : Int) ≥ (g.len : Int)) with
    | true =>
      have hbig := of_decide_eq_true hbig
      refine hk1 _ _ fun _ => ifB_true rfl (same h5 (fun h => by omega) (fun u hu huO => ?_) S5)
      have := (t.vis u ((t.op u).1 huO).1).1
      omega
    | false =>
      have hbig := of_decide_eq_false hbig
      have hkn : k < G.length := by omega
      refine hk1 _ _ fun _ => ifB_false rfl ?_
      clear hk1 k1
      have hkR : k < R.length := by rw [w.lR]; exact hkn
      have hRk : R[k] = (T.rank k : Int) := by rw [← getD_lt hkR, w.r k hkn]
      refine nilck_some ?_
      refine ld_rawB (x := r) (Sep.pull [_] S5) rfl rfl ?_
      refine idx_rdN (Sep.pull [_, _] S5).rd rfl hkR fun p14 _ hp14 => ld_one hp14 ?_
      rw [hRk]
      refine ifB_intro (fun hz => ?_) (fun hnz => ?_)
      · -- a new one
        have hk0 : T.rank k = 0 := by
          have : (T.rank k : Int) = 0 := by simpa using hz
          omega
        have hMk := (w.k k hkn).2 hk0
        have hkM : k < M'.length := by rw [w.lM]; exact hkn
        have hcm := count_set hkM (by rwa [getD_lt hkM] at hMk)
        refine ar_i64 (by omega) (by omega) ?_
        rw [show (T.m : Int) + 1 = ((T.m + 1 : Nat) : Int) by omega]
        have S6 := Sep.push [_, _, _, _, _, _, _] S5
        refine (mark_calls S6 (k := k) (n := T.m + 1) hkR (by rw [w.lL]; exact hkn) (by simp; omega)).mono ?_
        rintro v h9 ⟨rfl, o', S9⟩
        refine ⟨_, rfl, ?_⟩
        have S9 := Sep.pull [_, _, _, _, _, _, _] S9
        refine app1_flat (x := ((k : Int), (0 : Int))) S9 (own_step _ _) rfl (by decide) (by rw [stk_len]; simp only [si_Lcalls_step, List.length_cons]; rw [hst] at hcnt; simp at hcnt; omega) (by rw [stk_len]; simp only [List.length_cons]; rw [hst] at hcnt; simp at hcnt; omega) fun s3 h11 S11 => ?_
        have hO1 : castL T.O ++ [(k : Int)] = castL (T.O ++ [k]) := by simp [castL]
        rw [hO1] at S11
        refine ⟨todo G ((k, 0) :: (a, i + 1) :: rr) (M'.set k true), by rw [hst]; exact todo_push hil hkn w.lM hMk, _, _, _, Pt, LF, Rd, M'.set k true, o', lf, rfl, ⟨t.push (st' := (a, i + 1) :: rr) hkn hk0 (.inr ⟨a, i, rr, hst, rfl, hkx'⟩), w.push hkn hk0 _, fun x hx => ?_, ?_, ?_⟩, rfl, ?_⟩
        · rcases List.mem_cons.1 hx with rfl | hx
          · exact ⟨hkn, by simp⟩
          · exact hst5 x hx
        · rw [← D.un, hst]
          exact (unw_push (s := (M', LF)) hil hkx hkn w.lM hMk (by simp only; omega)).symm
        · rw [hst] at hcnt; simp at hcnt ⊢; omega
        · have e : stk ((k, 0) :: (a, i + 1) :: rr) = stk ((a, i + 1) :: rr) ++ [((k : Int), (0 : Int))] := by rw [stk_cons k]; rfl
          rw [e]
          exact S11
      · have hk0 : T.rank k ≠ 0 := fun e => by rw [e] at hnz; simp at hnz
        have hno : ¬ (0 ≤ (k : Int) ∧ (k : Int) < G.length ∧ M'.getD (k : Int).toNat false = false) := fun h => by
          have h3 := h.2.2
          rw [Int.toNat_natCast] at h3
          exact hk0 ((w.k k hkn).1 h3)
        have hkP : k < Pt.length := by rw [w.lP]; exact hkn
        have hPk : Pt[k] = T.part k := by rw [← getD_lt hkP, w.p k hkn]
        refine nilck_some ?_
        refine ld_rawB (x := pt) (Sep.pull [_] S5) rfl rfl ?_
        refine idx_rdN (Sep.pull [_, _, _, _] S5).rd rfl hkP fun p16 _ hp16 => ld_one hp16 ?_
        rw [hPk]
        refine ifB_intro (fun hopen => ?_) (fun hdone => same h5 hno (fun u hu huO => ?_) S5)
        case refine_2 =>
          have : u = k := by omega
          subst this
          have := ((t.op u).1 huO).2
          have := of_decide_eq_false hdone
          omega
        have hkO : k ∈ T.O := (t.op k).2 ⟨hk0, of_decide_eq_true hopen⟩
        refine nilck_some ?_
        refine ld_rawB (x := l) (Sep.pull [_] S5) rfl rfl ?_
        refine ld_one hq50 ?_
        refine nilck_some ?_
        refine ld_rawB (x := l) (Sep.pull [_] S5) rfl rfl ?_
        refine ld_one hq50 ?_
        refine idx_rdN (Sep.pull [_, _, _] S5).rd rfl haL fun p19 _ hp19 => ld_one hp19 ?_
        refine nilck_some ?_
        refine ld_rawB (x := r) (Sep.pull [_] S5) rfl rfl ?_
        refine idx_rdN (Sep.pull [_, _] S5).rd rfl hkR fun p21 _ hp21 => ld_one hp21 ?_
        refine idx_rdN (Sep.pull [_, _, _] S5).rd rfl haL fun p22 hat22 _ => ?_
        rw [hRk, hLa]
        have hmin : (if (T.rank k : Int) < (T.low a : Int) then (T.rank k : Int) else (T.low a : Int)) = ((min (T.low a) (T.rank k) : Nat) : Int) := by
          split <;> omega
        rw [hmin]
        refine st_flat (Sep.pull [_, _, _] S5) (x := ((min (T.low a) (T.rank k) : Nat) : Int)) (own_int _) hat22 rfl haL fun h12 S12 => ?_
        have S12 := Sep.push [_, _, _] S12
        have hq12 : eStep.rd h12 q ((a : Int), ((i + 1 : Nat) : Int)) := by
          have h9 : rdSl eStep h12 stack (stk ((a, i + 1) :: rr)) := S12.rd
          obtain ⟨_, aa, haa, rfl⟩ := hat
          rcases h9.2.2.2.2 with h | ⟨a2, ha2, _, h⟩
          · rw [stk_cons] at h; simp at h
          · have e : aa = a2 := by rw [haa] at ha2; injection ha2
            have := h rr.length hin5
            rw [htop a (i + 1) rr hin5] at this
            rw [e]; exact this
        have hq120 : holds h12 (q.add 0) (.int .i64) (a : Int) := by rw [Addr.add_zero']; exact hq12.1
        refine nilck_some ?_
        refine ld_rawB (x := rd) (Sep.pull [_] S12) rfl rfl ?_
        refine ld_one hq120 ?_
        refine nilck_some ?_
        refine ld_rawB (x := rd) (Sep.pull [_] S12) rfl rfl ?_
        refine ld_one hq120 ?_
        refine idx_rdN (Sep.pull [_, _, _, _, _, _, _] S12).rd rfl haD fun p25 _ hp25 => ld_one hp25 ?_
        rw [hDa]
        have go : ∀ (b' : Bool) (h' : Heap), (b' = true ↔ (T.rnd a = true ∨ (k : Int) = (a : Int))) → Fw.Sep h0 h' (ownSl si_Lcalls_step eStep stack (stk ((a, i + 1) :: rr)) :: WL p g r l pt o lf rd R (L.set a ((min (T.low a) (T.rank k) : Nat) : Int)) Pt (castL T.O) LF (Rd.set a b') X) → _ := fun b' h' hb S' =>
          old (min (T.low a) (T.rank k)) b' _ _ h' hno (by
            rcases Nat.le_total (T.low a) (T.rank k) with h | h
            · left; exact Nat.min_eq_left h
            · right; exact ⟨Nat.min_le_left _ _, k, rfl, hkO, Nat.min_eq_right h⟩) (fun u hu _ => by
            have : u = k := by omega
            subst this
            exact Nat.min_le_right _ _) hb rfl rfl S'
        refine ifB_intro (fun hrt => ?_) (fun hrf => ?_)
        · refine idx_rdN (Sep.pull [_, _, _, _, _, _, _] S12).rd rfl haD fun p26 hat26 _ => ?_
          exact st_flat (Sep.pull [_, _, _, _, _, _, _] S12) (x := true) (own_bool true) hat26 rfl haD fun h13 S13 => go true h13 ⟨fun _ => .inl hrt, fun _ => rfl⟩ (Sep.push [_, _, _, _, _, _, _] S13)
        · refine ld_one hq120 ?_
          refine idx_rdN (Sep.pull [_, _, _, _, _, _, _] S12).rd rfl haD fun p27 hat27 _ => ?_
          refine st_flat (Sep.pull [_, _, _, _, _, _, _] S12) (x := ((k : Int) == (a : Int))) (own_bool _) hat27 rfl haD fun h14 S14 => go _ h14 ?_ (Sep.push [_, _, _, _, _, _, _] S14)
          rw [hrf, beq_iff_eq]
          exact ⟨.inr, fun h => h.elim (fun h => by cases h) id⟩

end Go.Proofs.Ytncbpalncgcoaaa

/-
  calls: the whole walk; Parts, Round, Order.
-/
namespace Go.Proofs.Ytncbpalncgcoaaa
open Go.Fw Go.Pl

def ptrV (cs : Array Value) (v : Value) : As := fun h f => ∃ p, v = .pointer (some p) ∧ rawB p cs h f
def specP (cs : Array Value) : Fw.Spec := ⟨fun v => [ptrV cs v], fun v => ∃ p, v = .pointer (some p)⟩
theorem loc_ptrV {cs : Array Value} {v : Value} : Fw.Loc (ptrV cs v) := by
  rintro h h' f ⟨p, e, o⟩ hb
  exact ⟨p, e, loc_rawB o hb⟩
theorem Sep.ofP {h0 h : Heap} {L : List As} {p : Addr} {cs : Array Value} (S : Fw.Sep h0 h (ptrV cs (.pointer (some p)) :: L)) : Fw.Sep h0 h (rawB p cs :: L) :=
  S.conv loc_rawB fun f ⟨p', e, o⟩ => ⟨f, List.Sublist.refl f, by injection e with e; injection e with e; rw [e]; exact o⟩
theorem Sep.toP {h0 h : Heap} {L : List As} {p : Addr} {cs : Array Value} (S : Fw.Sep h0 h (rawB p cs :: L)) : Fw.Sep h0 h (ptrV cs (.pointer (some p)) :: L) :=
  S.conv loc_ptrV fun f o => ⟨f, List.Sublist.refl f, p, rfl, o⟩
theorem free_new {cs : Array Value} {t : TypeId} {hb : Heap} {K : Value → Prop} (hK : ∀ p : Addr, K (.pointer (some p))) :
    freeW (Old hb) hb (specP cs) [] (fun h K => new t cs h fun p h' => K (.pointer (some p)) h') K :=
  ⟨⟨.pointer (some ⟨0, 0, none⟩), _, rfl⟩, fun h X _ S => new_rawB S fun p h' _ S' => ⟨S'.old, ⟨p, rfl⟩, Sep.toP S'⟩, fun v ⟨p, e⟩ => by rw [e]; exact hK p⟩

def PartsP (G : Graph) (Pt : List Int) : Prop := Pt.length = G.length ∧ ∀ v (hv : v < Pt.length), ∃ c : Nat, Pt[v] = c ∧ Mut G v c ∧ ∀ d, Mut G v d → c ≤ d
def RoundP (G : Graph) (Rd : List Bool) : Prop := Rd.length = G.length ∧ ∀ v (hv : v < Rd.length), Rd[v] = true ↔ Cyc G v
theorem PartsP.unique {G : Graph} {A B : List Int} (h : PartsP G A) (k : PartsP G B) : A = B := by
  refine List.ext_getElem (by rw [h.1, k.1]) fun v h1 h2 => ?_
  obtain ⟨c, e1, m1, l1⟩ := h.2 v h1
  obtain ⟨d, e2, m2, l2⟩ := k.2 v h2
  have := l1 d m2
  have := l2 c m1
  rw [e1, e2]; omega
theorem RoundP.unique {G : Graph} {A B : List Bool} (h : RoundP G A) (k : RoundP G B) : A = B := by
  refine List.ext_getElem (by rw [h.1, k.1]) fun v h1 h2 => ?_
  have := (h.2 v h1).trans (k.2 v h2).symm
  cases e1 : A[v] <;> cases e2 : B[v] <;> simp_all

theorem cwalk_calls {h : Heap} {g : Sl} {G : Graph} (hg : rdSl eInts h g G) (hn : G.length ≤ 1000) :
    ACalls Try.prog F_calls_walk [g.v] h (fun v h' => ∃ (p : Addr) (r l pt o lf rd : Sl) (R L Pt : List Int) (Rd : List Bool), v = .pointer (some p) ∧ PartsP G Pt ∧ RoundP G Rd ∧
      Fw.Sep h h' (WL p g r l pt o lf rd R L Pt [] (leftA G) Rd [])) := by
  refine calls_walk_of ?_
  unfold calls_walk
  have hl := hg.lenEq
  rw [hl]
  refine ⟨Old h, h, [], fun n args => if n = 2 then Fw.Spec.sl si_Lint eInt (List.replicate G.length 0) else if n = 4 then Fw.Spec.sl si_Lint eInt (List.replicate G.length 0) else if n = 6 then Fw.Spec.sl si_Lint eInt (List.replicate G.length 0) else
    if n = 8 then Fw.Spec.sl si_Lbool eBool (List.replicate G.length false) else match args with | [.agg c] => specP c | _ => Fw.Spec.val undef, .refl _, Sep.start _, ?_⟩
  have mkI : ∀ (K : Value → Prop), (∀ s : Sl, K s.v) → freeW (Old h) h (Fw.Spec.sl si_Lint eInt (List.replicate G.length 0)) [] (fun h_2 Kv => (G.length : Int) = (G.length : Int) ∧ mk si_Lint (G.length : Int) h_2 fun s h_3 => Kv s.v h_3) K := fun K hK =>
    free_sl (fun h' X S => ⟨rfl, mk_rule (x := (0 : Int)) (E := eInt) S rfl (fun h => own_int 0 h) (by omega) (by omega) (by simp only [si_Lint]; omega) fun s h'' S' => ⟨s, rfl, by rw [Int.toNat_natCast] at S'; exact S'⟩⟩)
      (fun {h K K'} hK hm => ⟨hK.1, hK.2.1, hK.2.2.1, hK.2.2.2.1, hm _ _ hK.2.2.2.2⟩) hK
  refine mkI _ fun r => ⟨r, rfl, ?_⟩
  refine mkI _ fun l => ⟨l, rfl, ?_⟩
  refine mkI _ fun pt => ⟨pt, rfl, ?_⟩
  refine free_sl (fun h' X S => ⟨rfl, mk_rule (x := false) (E := eBool) S rfl (fun h => own_bool false h) (by omega) (by omega) (by simp only [si_Lbool]; omega) fun s h'' S' => ⟨s, rfl, by rw [Int.toNat_natCast] at S'; exact S'⟩⟩)
      (fun {h K K'} hK hm => ⟨hK.1, hK.2.1, hK.2.2.1, hK.2.2.2.1, hm _ _ hK.2.2.2.2⟩) fun rd => ⟨rd, rfl, ?_⟩
  refine ⟨wcells g r l pt ⟨none, 0, 0⟩ ⟨none, 0, 0⟩ rd, by kernel_rfl, ?_⟩
  refine free_new fun p => ⟨p, rfl, ?_⟩
  intro h12 _ S
  have S1 := Sep.push [_, _, _, _] (Sep.ofP (Sep.pull [_, _, _, _] S))
  have S2 := Sep.push [_, _, _] (Sep.ofV (Sep.pull [_, _, _] S1))
  have S3 := Sep.push [_, _] (Sep.ofV (Sep.pull [_, _] S2))
  have S4 := Sep.push [_] (Sep.ofV (Sep.pull [_] S3))
  have S5 := Sep.ofV S4
  -- box, ranks, lows, parts, what is open, what is left, what goes round
  have S6 : Fw.Sep h h12 (WL p g r l pt ⟨none, 0, 0⟩ ⟨none, 0, 0⟩ rd (List.replicate G.length 0) (List.replicate G.length 0) (List.replicate G.length 0) [] [] (List.replicate G.length false) []) := by
    have T1 := Sep.pull [_, _, _, _] S5
    have T2 := Sep.push [_, _, _, _] (Fw.Sep.nil (si := si_Lint) (E := eInt) T1 rfl)
    exact Sep.push [_, _, _, _] (Fw.Sep.nil (si := si_Lint) (E := eInt) T2 rfl)
  clear S S1 S2 S3 S4 S5
  refine ld_rawB (x := pt) S6 rfl rfl ?_
  have hptl := (Sep.pull [_, _, _] S6).rd.lenEq
  rw [List.length_replicate] at hptl
  refine loop_intro (fun m (t : Int) h' => ∃ (j : Nat) (A : List Int), t = j ∧ j ≤ G.length ∧ m = G.length - j ∧ A.length = G.length ∧ (∀ i (hi : i < A.length), i < j → A[i] = -1) ∧
      Fw.Sep h h' (WL p g r l pt ⟨none, 0, 0⟩ ⟨none, 0, 0⟩ rd (List.replicate G.length 0) (List.replicate G.length 0) A [] [] (List.replicate G.length false) [])) G.length
    ⟨0, _, rfl, by omega, by omega, by simp, fun i hi h => by omega, S6⟩ ?_
  clear S6
  rintro _ _ t h13 ⟨j, A, rfl, hj, rfl, hA, hall, S⟩
  refine ifB_intro (fun hc => ?_) (fun hc => ?_)
  · have hjl : j < A.length := by rw [hptl] at hc; have := of_decide_eq_true hc; omega
    refine ld_rawB (x := pt) S rfl rfl ?_
    refine idx_rdN (Sep.pull [_, _, _] S).rd rfl hjl fun p3 hat _ => ?_
    refine st_flat (Sep.pull [_, _, _] S) (x := (-1 : Int)) (own_int (-1)) hat rfl hjl fun h14 S14 => ?_
    refine ar_i64 (by omega) (by omega) ⟨G.length - (j + 1), by omega, j + 1, _, rfl, by omega, rfl, by simpa using hA, fun i hi hlt => ?_, Sep.push [_, _, _] S14⟩
    rw [List.getElem_set]
    split
    · rfl
    · exact hall i (by simpa using hi) (by omega)
  have hjl : G.length ≤ j := by rw [hptl] at hc; have := of_decide_eq_false hc; omega
  have hrep : ∀ (x : Int) v, v < G.length → (List.replicate G.length x).getD v 0 = x := fun x v hv => by simp [List.getD_eq_getElem?_getD, List.getElem?_replicate, hv]
  have hrepB : ∀ v, (List.replicate G.length false).getD v false = false := fun v => by simp [List.getD_eq_getElem?_getD, List.getElem?_replicate]; split <;> rfl
  have w0 : WS G ⟨fun _ => 0, fun _ => 0, fun _ => -1, fun _ => false, [], [], 0⟩ (List.replicate G.length 0) (List.replicate G.length 0) A (List.replicate G.length false) (List.replicate G.length false) :=
    ⟨by simp, by simp, hA, by simp, by simp, fun v hv => hrep 0 v hv, fun v hv => hrep 0 v hv, fun v hv => by rw [getD_lt (by omega), hall v (by omega) (by omega)], fun v _ => hrepB v, fun v _ => ⟨fun _ => rfl, fun _ => hrepB v⟩, Nat.le_refl _, by
      show 0 + open' _ = _
      unfold open'; simp⟩
  have t0 : TI G ⟨fun _ => 0, fun _ => 0, fun _ => -1, fun _ => false, [], [], 0⟩ := TI.start (fun _ => rfl) (fun _ => by decide) (fun _ => rfl)
  refine loop_intro (fun m (q : Int × Int) h' => ∃ (j : Nat) (T : TS) (R L Pt LF : List Int) (Rd M : List Bool) (o lf : Sl), q.2 = j ∧ j ≤ G.length ∧ m = G.length - j ∧ q.1 = (T.m : Int) ∧ TI G T ∧ T.st = [] ∧ WS G T R L Pt Rd M ∧ (M, LF) = allDn G j ∧
      LF.length + open' M = G.length ∧ (∀ v, v < j → T.rank v ≠ 0) ∧ Fw.Sep h h' (WL p g r l pt o lf rd R L Pt (castL T.O) LF Rd [])) G.length
    ⟨0, _, _, _, _, _, _, _, _, _, rfl, by omega, by omega, rfl, t0, rfl, w0, rfl, by unfold open'; simp, fun v hv => by omega, S⟩ ?_
  clear S w0 t0 hall hA hptl
  rintro _ _ ⟨mk, j⟩ h15 ⟨j, T, R, L, Pt, LF, Rd, M, o, lf, hj0, hj, rfl, hm0, t, hst, w, hall, hcnt, hvis, S⟩
  simp only at hj0 hm0 ⊢
  subst hj0 hm0
  refine ifB_intro (fun hc => ?_) (fun hc => ?_)
  · have hjl : j < G.length := by simpa using hc
    have hjR : j < R.length := by rw [w.lR]; exact hjl
    have hRj : R[j] = (T.rank j : Int) := by rw [← getD_lt hjR, w.r j hjl]
    have e1 : (allDn G j).1 = M := by rw [← hall]
    have e2 : (allDn G j).2 = LF := by rw [← hall]
    intro k1 hk1
    refine ld_rawB (x := r) S rfl rfl ?_
    refine idx_rdN (Sep.pull [_] S).rd rfl hjR fun p5 _ hp5 => ld_one hp5 ?_
    rw [hRj]
    refine ifB_intro (fun hz => ?_) (fun hnz => ?_)
    · have hz0 : T.rank j = 0 := by
        have : (T.rank j : Int) = 0 := by simpa using hz
        omega
      have hMj := (w.k j hjl).2 hz0
      refine (wdown_calls (T := T) hg hn S t hst w hjl hz0 hcnt).mono ?_
      rintro v h17 ⟨T', R', L', Pt', LF', Rd', M', o', lf', rfl, t', hst', w', hdn, hcnt', S'⟩
      refine ⟨_, rfl, hk1 _ _ fun _ => ar_i64 (by omega) (by omega) ⟨G.length - (j + 1), by omega, j + 1, T', R', L', Pt', LF', Rd', M', o', lf', rfl, by omega, rfl, rfl, t', hst', w', ?_, hcnt', fun v hv => ?_, S'⟩⟩
      · rw [allDn_succ, e1, e2, if_pos hMj, ← hdn]
      · have hvn : v < G.length := by omega
        intro hz'
        have hM' := (w'.k v hvn).2 hz'
        have e3 : M' = (dn G G.length j M LF).1 := by rw [← hdn]
        by_cases e : v = j
        · subst e
          obtain ⟨new, hA, _⟩ := dn_adds G (fun _ => True) G.length v (M, LF) w.lM hjl hMj (by have := w.cnt; simp only; omega) trivial
          have := hA.marks v
          rw [← e3, hM'] at this
          simp at this
        · have hMv : M.getD v false = true := by
            cases hh : M.getD v false with
            | true => rfl
            | false => exact absurd ((w.k v hvn).1 hh) (hvis v (by omega))
          have := (dn_grows G G.length j (M, LF)).mark v hMv
          rw [← e3, hM'] at this
          cases this
    · have hnz0 : T.rank j ≠ 0 := fun e => by rw [e] at hnz; simp at hnz
      refine hk1 _ _ fun _ => ar_i64 (by omega) (by omega) ⟨G.length - (j + 1), by omega, j + 1, T, R, L, Pt, LF, Rd, M, o, lf, rfl, by omega, rfl, rfl, t, hst, w, ?_, hcnt, fun v hv => ?_, S⟩
      · rw [allDn_succ, e1, if_neg fun h => hnz0 ((w.k j hjl).1 h)]; exact hall
      · by_cases e : v = j
        · subst e; exact hnz0
        · exact hvis v (by omega)
  · have hjl : j = G.length := by have : G.length ≤ j := by simpa using hc
                                  omega
    subst hjl
    have hO := t.empty hst
    have hpos : ∀ v, v < G.length → 0 ≤ T.part v := fun v hv => by
      rcases Int.lt_or_le (T.part v) 0 with h | h
      · have := (t.op v).2 ⟨hvis v hv, h⟩
        rw [hO] at this; cases this
      · exact h
    have e2 : LF = leftA G := by unfold leftA; rw [← hall]
    refine ⟨p, r, l, pt, o, lf, rd, R, L, Pt, Rd, rfl, ⟨w.lP, fun v hv => ?_⟩, ⟨w.lD, fun v hv => ?_⟩, ?_⟩
    · have hvn : v < G.length := by rw [← w.lP]; exact hv
      rw [← getD_lt (d := (-1 : Int)) hv, w.p v hvn]
      exact (t.good v (hvis v hvn) (hpos v hvn)).1
    · have hvn : v < G.length := by rw [← w.lD]; exact hv
      rw [← getD_lt (d := false) hv, w.d v hvn]
      exact (t.good v (hvis v hvn) (hpos v hvn)).2
    · rw [hO, e2] at S
      exact S

theorem Sep.only {h0 h : Heap} {A : As} {L : List As} (S : Fw.Sep h0 h (A :: L)) : Fw.Sep h0 h [A] := Fw.Sep.dropLast (L := [A]) (M := L) S

theorem parts_calls {h : Heap} {g : Sl} {G : Graph} (hg : rdSl eInts h g G) (hn : G.length ≤ 1000) :
    ACalls Try.prog F_calls_Parts [g.v] h (fun v h' => ∃ (s : Sl) (Pt : List Int), v = s.v ∧ PartsP G Pt ∧ Fw.Sep h h' [ownSl si_Lint eInt s Pt]) := by
  refine calls_Parts_of ?_
  unfold calls_Parts
  refine (cwalk_calls hg hn).mono ?_
  rintro v h1 ⟨p, r, l, pt, o, lf, rd, R, L, Pt, Rd, rfl, hP, hR, S⟩
  refine ⟨some p, rfl, nilck_some ?_⟩
  refine ld_rawB (x := pt) S rfl rfl ?_
  exact ⟨pt, Pt, rfl, hP, Sep.only (Sep.pull [_, _, _] S)⟩
theorem corder_calls {h : Heap} {g : Sl} {G : Graph} (hg : rdSl eInts h g G) (hn : G.length ≤ 1000) :
    ACalls Try.prog F_calls_Order [g.v] h (fun v h' => ∃ s : Sl, v = s.v ∧ Fw.Sep h h' [ownSl si_Lint eInt s (leftA G)]) := by
  refine calls_Order_of ?_
  unfold calls_Order
  refine (cwalk_calls hg hn).mono ?_
  rintro v h1 ⟨p, r, l, pt, o, lf, rd, R, L, Pt, Rd, rfl, hP, hR, S⟩
  refine ⟨some p, rfl, nilck_some ?_⟩
  refine ld_rawB (x := lf) S rfl rfl ?_
  exact ⟨lf, rfl, Sep.only (Sep.pull [_, _, _, _, _] S)⟩

end Go.Proofs.Ytncbpalncgcoaaa

/-
  lateenref20: down, Order, Ways, Parts, Round.
-/
namespace Go.Proofs.Ytncbpalncgcoaaa
open Go.Fw Go.Pl

theorem partsF_P (G : Graph) : PartsP G (partsF G) := by
  refine ⟨by simp [partsF], fun v hv => ?_⟩
  have hv' : v < G.length := by simpa [partsF] using hv
  obtain ⟨h1, h2⟩ := lst_spec hv' v (Nat.le_refl _)
  exact ⟨lst G v v, by simp [partsF], h1, fun d hd => h2 d (by omega) (mut_lt hv' hd) hd⟩
theorem roundF_P (G : Graph) : RoundP G (roundF G) := by
  refine ⟨by simp [roundF], fun v hv => ?_⟩
  have hv' : v < G.length := by simpa [roundF] using hv
  rw [show (roundF G)[v] = wayB G v v from by simp [roundF]]
  exact way_cyc hv'
theorem cparts_calls {h : Heap} {g : Sl} {G : Graph} (hg : rdSl eInts h g G) (hn : G.length ≤ 1000) :
    ACalls Try.prog F_calls_Parts [g.v] h (fun v h' => ∃ s : Sl, v = s.v ∧ Fw.Sep h h' [ownSl si_Lint eInt s (partsF G)]) := by
  refine (parts_calls hg hn).mono ?_
  rintro v h1 ⟨s, Pt, rfl, hP, S⟩
  rw [hP.unique (partsF_P G)] at S
  exact ⟨s, rfl, S⟩
theorem st_row2 {α : Type} {si ri : SlI} {E : Elem α} {h0 h : Heap} {L : List As} {s x : Sl} {p : Addr} {ll : List (List α)} {i k m : Nat} {vs : List Value} {u : α} {K : Heap → Prop}
    (S : Fw.Sep h0 h (ownSl si (Elem.sl ri E) s ll :: L)) (hi : i < ll.length) (hk : k < ll[i].length) (hm : m = E.size) (hu : ∀ h, E.own vs u h []) (hat : At (Elem.sl ri E).size s i p) (hp : hcell h p = some x.v)
    (hK : ∀ h', Fw.Sep h0 h' (ownSl si (Elem.sl ri E) s (ll.set i (ll[i].set k u)) :: L) → K h') :
    idx m x (k : Int) fun p3 => st vs h p3 K := by
  obtain ⟨xs, hc, S2⟩ := (Sep.raw.2 S).away (i := i) (x := ll[i]) (by simpa using hi) (by simp)
  obtain ⟨y, rfl, S3⟩ := S2.swap.ofEl
  have e := hc p hat 0 y.v rfl
  rw [Addr.add_zero', hp] at e
  have e := Sl.v_inj (Option.some.inj e)
  subst e
  refine idx_rdN S3.rd hm hk fun p3 hat3 _ => ?_
  subst hm
  refine st_flat S3 hu hat3 rfl hk fun h' S4 => hK h' ?_
  have S5 := S4.toEl.swap.back (i := i) (by simpa using hi) (by simp; rfl)
  refine Sep.raw.1 (S5.cast ?_)
  congr 2
  rw [List.set_set, List.map_set]

end Go.Proofs.Ytncbpalncgcoaaa
