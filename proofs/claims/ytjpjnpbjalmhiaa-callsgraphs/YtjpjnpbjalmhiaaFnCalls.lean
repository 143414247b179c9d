/-
  calls: the walker's marks, what it leaves.
-/
import Derived.Test.YtjpjnpbjalmhiaaFnHelp
import Derived.Test.YtjpjnpbjalmhiaaFwFree
import Derived.Test.YtjpjnpbjalmhiaaFwDec
import Derived.Test.YtjpjnpbjalmhiaaPlCalls2
namespace Go.Proofs.Ytjpjnpbjalmhiaa
open Go.Fw Go.Pl

theorem nilck_some {p : Addr} {K : Addr → Prop} (h : K p) : nilck (some p) K := h
theorem Sep.pull {h0 h : Heap} {A : As} (L1 : List As) {L2 : List As} (S : Fw.Sep h0 h (L1 ++ A :: L2)) : Fw.Sep h0 h (A :: (L1 ++ L2)) := S.perm List.perm_middle
theorem Sep.push {h0 h : Heap} {A : As} (L1 : List As) {L2 : List As} (S : Fw.Sep h0 h (A :: (L1 ++ L2))) : Fw.Sep h0 h (L1 ++ A :: L2) := S.perm List.perm_middle.symm

abbrev wcells (g r l pt o lf rd : Sl) : Array Value := #[g.v, r.v, l.v, pt.v, o.v, lf.v, rd.v]
/-- A walker, all of it. -/
abbrev WL (p : Addr) (g r l pt o lf rd : Sl) (R L Pt O LF : List Int) (Rd : List Bool) (X : List As) : List As :=
  rawB p (wcells g r l pt o lf rd) :: ownSl si_Lint eInt r R :: ownSl si_Lint eInt l L :: ownSl si_Lint eInt pt Pt :: ownSl si_Lint eInt o O :: ownSl si_Lint eInt lf LF :: ownSl si_Lbool eBool rd Rd :: X

variable {h0 h : Heap} {p : Addr} {g r l pt o lf rd : Sl} {R L Pt O LF : List Int} {Rd : List Bool} {X : List As}

theorem mark_calls (S : Fw.Sep h0 h (WL p g r l pt o lf rd R L Pt O LF Rd X)) {k n : Nat} (hk : k < R.length) (hk2 : k < L.length) (hO : O.length ≤ 1000) :
    ACalls Try.prog F_calls_walker_mark [.pointer (some p), .int .i64 (k : Int), .int .i64 (n : Int)] h (fun v h' => v = .agg #[.int .i64 (k : Int), .int .i64 0] ∧
      ∃ o', Fw.Sep h0 h' (WL p g r l pt o' lf rd (R.set k n) (L.set k n) Pt (O ++ [(k : Int)]) LF Rd X)) := by
  refine calls_walker_mark_of ?_
  unfold calls_walker_mark
  refine new_rawB S fun q h1 _ S1 => ?_
  have S1 := S1.swap
  refine nilck_some ?_
  refine ld_rawB (x := r) S1 rfl rfl ?_
  refine nilck_some ?_
  refine ld_rawB (x := l) S1 rfl rfl ?_
  refine idx_rdN (Sep.pull [_, _] S1).rd rfl hk fun p3 hat3 _ => ?_
  refine st_flat (Sep.pull [_, _] S1) (x := (n : Int)) (own_int _) hat3 rfl hk fun h2 S2 => ?_
  have S2 := Sep.push [_, _] S2
  clear S1
  refine idx_rdN (Sep.pull [_, _, _] S2).rd rfl hk2 fun p4 hat4 _ => ?_
  refine st_flat (Sep.pull [_, _, _] S2) (x := (n : Int)) (own_int _) hat4 rfl hk2 fun h3 S3 => ?_
  have S3 := Sep.push [_, _, _] S3
  clear S2
  refine nilck_some ?_
  refine ld_rawB (x := o) S3 rfl rfl ?_
  refine app1_flat (x := (k : Int)) (Sep.pull [_, _, _, _, _] S3) (fun _ => ⟨rfl, rfl⟩) rfl (by decide) (by simp only [si_Lint]; omega) (by omega) fun o' h5 S5 => ?_
  have S5 := Sep.push [_, _, _, _, _] S5
  clear S3
  refine nilck_some ?_
  refine st_rawB S5 (by show 4 < 7; decide) rfl fun h6 S6 => ?_
  refine ⟨#[.int .i64 (k : Int), .int .i64 0], by kernel_rfl, rfl, ?_⟩
  have S6 := S6.swap
  have key := st_rawsB (i := 0) (vs := (#[.int .i64 (k : Int), .int .i64 0] : Array Value).toList) (K := fun h7 => ld (.agg 2) h7 q fun (x_3 : Array Value) => (Value.agg x_3) = .agg #[.int .i64 (k : Int), .int .i64 0] ∧
      ∃ o', Fw.Sep h0 h7 (WL p g r l pt o' lf rd (R.set k n) (L.set k n) Pt (O ++ [(k : Int)]) LF Rd X)) S6 (by show 0 + 2 ≤ 2; decide) (by intro v hv; simp at hv; rcases hv with rfl | rfl <;> rfl) fun h7 S7 => ?_
  · rw [Addr.add_zero'] at key
    exact key
  · exact ld_rawAgg S7 rfl ⟨rfl, o', S7.drop⟩

theorem min_calls {h : Heap} {s : Sl} {A : List Int} (ha : rdSl eInt h s A) (hpos : 0 < A.length) :
    ACalls Try.prog F_slices_Min [s.v] h (fun v h' => h' = h ∧ ∃ c : Int, v = .int .i64 c ∧ c ∈ A ∧ ∀ x ∈ A, c ≤ x) := by
  refine slices_Min_of ?_
  unfold slices_Min
  have hl := ha.lenEq
  have hb := ha.bound
  refine ifB_false (decide_eq_false (by omega)) ?_
  refine idx_rdN ha rfl hpos fun p _ hp => ld_one hp ?_
  refine loop_intro (fun m (q : Int × Int) h' => ∃ j : Nat, q.2 = j ∧ 1 ≤ j ∧ j ≤ A.length ∧ m = A.length - j ∧ h = h' ∧ q.1 ∈ A ∧ ∀ i (hi : i < A.length), i < j → q.1 ≤ A[i]) (A.length - 1)
    ⟨1, rfl, by omega, by omega, rfl, rfl, List.getElem_mem hpos, fun i hi h => by
      have : i = 0 := by omega
      subst this; exact Int.le_refl _⟩ ?_
  rintro _ _ ⟨m, j⟩ _ ⟨j, hj0, hj1, hj, rfl, rfl, hm, hall⟩
  simp only at hj0 hm hall ⊢
  subst hj0
  refine ifB_intro (fun hc => ?_) (fun hc => ?_)
  · have hjl : j < A.length := by rw [hl] at hc; simpa using hc
    refine idx_rdN ha rfl hjl fun p _ hp => ld_one hp ?_
    refine ar_i64 (by omega) (by omega) ⟨A.length - (j + 1), by omega, j + 1, rfl, by omega, by omega, rfl, trivial, ?_, fun i hi hlt => ?_⟩
    · split
      · exact List.getElem_mem hjl
      · exact hm
    · by_cases e : i = j
      · subst e; split <;> omega
      · have := hall i hi (by omega)
        split <;> omega
  · have hjl : A.length ≤ j := by rw [hl] at hc; have := of_decide_eq_false hc; omega
    refine ⟨trivial, m, rfl, hm, fun x hx => ?_⟩
    obtain ⟨i, hi, rfl⟩ := List.getElem_of_mem hx
    exact hall i hi (by omega)

def dropSl (s : Sl) (k n : Nat) : Sl := ⟨if s.cap = k then s.a else s.a.map (·.add (k * n)), s.len - k, s.cap - k⟩
theorem rd_drop {α : Type} {E : Elem α} {h : Heap} {s : Sl} {l : List α} (r : rdSl E h s l) {k : Nat} (h2 : k ≤ l.length) : rdSl E h (dropSl s k E.size) (l.drop k) := by
  have := slc_from (n := E.size) (k := k) (K := fun s' => s' = dropSl s k E.size → rdSl E h s' (l.drop k)) r rfl h2 fun s' hs _ => hs
  exact this.2.2.2 (by simp [dropSl])
theorem slc_drop {α : Type} {E : Elem α} {h : Heap} {s : Sl} {l : List α} (r : rdSl E h s l) {n k : Nat} {K : Sl → Prop} (h2 : k ≤ l.length) (hK : K (dropSl s k n)) : slc n s (some (k : Int)) none K := by
  obtain ⟨r1, r2, _⟩ := r
  refine ⟨by simp, by simp; omega, by simpa using r2, ?_⟩
  have : (⟨if s.cap = ((some (k : Int)).getD 0).toNat then s.a else s.a.map (·.add (((some (k : Int)).getD 0).toNat * n)), ((none : Option Int).getD s.len).toNat - ((some (k : Int)).getD 0).toNat, s.cap - ((some (k : Int)).getD 0).toNat⟩ : Sl) = dropSl s k n := by
    simp [dropSl]
  rw [this]
  exact hK

/-- What is left behind a part. -/
theorem leave_calls (S : Fw.Sep h0 h (WL p g r l pt o lf rd R L Pt O LF Rd X)) {k : Nat} (hk : k < R.length) (hk2 : k < L.length) (hLF : LF.length ≤ 1000) {lk rk : Int} (hlk : L[k] = lk) (hrk : R[k] = rk)
    {O1 : List Int} {C : List Nat} (hO : O = O1 ++ C.map fun (x : Nat) => (x : Int)) (hO1 : (k : Int) ∉ O1) (hC : ∃ l, C = k :: l) (hCn : ∀ x ∈ C, x < Pt.length ∧ x < Rd.length) (hOn : O.length ≤ 1000) :
    ACalls Try.prog F_calls_walker_leave [.pointer (some p), .int .i64 (k : Int)] h (fun v h' => v = .tuple #[] ∧ ∃ lf',
      (lk ≠ rk → Fw.Sep h0 h' (WL p g r l pt o lf' rd R L Pt O (LF ++ [(k : Int)]) Rd X)) ∧
      (lk = rk → ∃ (o' : Sl) (c : Nat) (Pt' : List Int) (Rd' : List Bool), c ∈ C ∧ (∀ x ∈ C, c ≤ x) ∧ Pt'.length = Pt.length ∧ Rd'.length = Rd.length ∧
        (∀ i (hi : i < Pt'.length), Pt'[i] = if i ∈ C then (c : Int) else Pt.getD i (-1)) ∧ (∀ i (hi : i < Rd'.length), Rd'[i] = true ↔ Rd.getD i false = true ∨ (i ∈ C ∧ 1 < C.length)) ∧
        Fw.Sep h0 h' (WL p g r l pt o' lf' rd R L Pt' O1 (LF ++ [(k : Int)]) Rd' X))) := by
  refine calls_walker_leave_of ?_
  unfold calls_walker_leave
  refine nilck_some ?_
  refine ld_rawB (x := lf) S rfl rfl ?_
  refine app1_flat (x := (k : Int)) (Sep.pull [_, _, _, _, _] S) (fun _ => ⟨rfl, rfl⟩) rfl (by decide) (by simp only [si_Lint]; omega) (by omega) fun lf' h2 S2 => ?_
  have S2 := Sep.push [_, _, _, _, _] S2
  refine nilck_some ?_
  refine st_rawB S2 (by show 5 < 7; decide) rfl fun h3 S3 => ?_
  have S3 : Fw.Sep h0 h3 (WL p g r l pt o lf' rd R L Pt O (LF ++ [(k : Int)]) Rd X) := S3
  clear S S2
  refine nilck_some ?_
  refine ld_rawB (x := l) S3 rfl rfl ?_
  refine idx_rdN (Sep.pull [_, _] S3).rd rfl hk2 fun p3 _ hp3 => ld_one hp3 ?_
  refine nilck_some ?_
  refine ld_rawB (x := r) S3 rfl rfl ?_
  refine idx_rdN (Sep.pull [_] S3).rd rfl hk fun p5 _ hp5 => ld_one hp5 ?_
  rw [hlk, hrk]
  refine ifB_intro (fun hne => ⟨rfl, lf', fun _ => S3, fun e => by rw [e] at hne; simp at hne⟩) (fun heq => ?_)
  have heq : lk = rk := by simpa using heq
  obtain ⟨Cl, hCl⟩ := hC
  have hidx : O.idxOf (k : Int) = O1.length := by
    rw [hO, List.idxOf_append, if_neg hO1, hCl]
    simp
  have hmem : (k : Int) ∈ O := by rw [hO, hCl]; simp
  have hOl : O.length = O1.length + C.length := by rw [hO]; simp
  have hdrop : O.drop O1.length = C.map fun (x : Nat) => (x : Int) := by rw [hO]; simp
  refine nilck_some ?_
  refine ld_rawB (x := o) S3 rfl rfl ?_
  refine (index_calls (Sep.pull [_, _, _, _] S3).rd (k : Int)).mono ?_
  rintro v h4 ⟨rfl, e4⟩
  have e4 := e4.symm
  subst e4
  refine ⟨_, rfl, ?_⟩
  rw [if_pos hmem, hidx]
  refine nilck_some ?_
  refine ld_rawB (x := o) S3 rfl rfl ?_
  refine slc_drop (Sep.pull [_, _, _, _] S3).rd (by omega) ?_
  have hrd := rd_drop (k := O1.length) (Sep.pull [_, _, _, _] S3).rd (by omega)
  rw [hdrop] at hrd
  have hCpos : 0 < C.length := by rw [hCl]; simp
  refine (min_calls hrd (by simpa using hCpos)).mono ?_
  rintro v h5 ⟨e5, c0, rfl, hc0, hcmin⟩
  have e5 := e5.symm
  subst e5
  obtain ⟨c, hcC, rfl⟩ := List.mem_map.1 hc0
  refine ⟨_, rfl, ?_⟩
  have hsl : (dropSl o O1.length 1).len = C.length := by have h9 := hrd.lenEq; rw [List.length_map] at h9; exact h9
  refine loop_intro (fun m (t : Int) h' => ∃ (j : Nat) (Pt' : List Int) (Rd' : List Bool), t = j ∧ j ≤ C.length ∧ m = C.length - j ∧ Pt'.length = Pt.length ∧ Rd'.length = Rd.length ∧
      (∀ i (hi : i < Pt'.length), Pt'[i] = if i ∈ C.take j then (c : Int) else Pt.getD i (-1)) ∧ (∀ i (hi : i < Rd'.length), Rd'[i] = true ↔ Rd.getD i false = true ∨ (i ∈ C.take j ∧ 1 < C.length)) ∧
      Fw.Sep h0 h' (WL p g r l pt o lf' rd R L Pt' O (LF ++ [(k : Int)]) Rd' X)) C.length
    ⟨0, Pt, Rd, rfl, by omega, by omega, rfl, rfl, fun i hi => by rw [getD_lt hi]; simp, fun i hi => by rw [getD_lt hi]; simp, S3⟩ ?_
  clear S3 hrd
  rintro _ _ t h6 ⟨j, Pt', Rd', rfl, hj, rfl, hPl, hRl, hP, hR, S⟩
  refine ifB_intro (fun hc => ?_) (fun hc => ?_)
  · have hjl : j < C.length := by rw [hsl] at hc; simpa using hc
    intro k1 hk1
    have hrd := rd_drop (k := O1.length) (Sep.pull [_, _, _, _] S).rd (by omega)
    rw [hdrop] at hrd
    refine idx_rdN hrd rfl (by simpa using hjl) fun p8 _ hp8 => ld_one hp8 ?_
    rw [List.getElem_map]
    obtain ⟨hx1, hx2⟩ := hCn _ (List.getElem_mem hjl)
    have htk : C.take (j + 1) = C.take j ++ [C[j]] := List.take_succ_eq_append_getElem hjl
    generalize hxe : C[j] = x at htk hx1 hx2
    refine nilck_some ?_
    refine ld_rawB (x := pt) S rfl rfl ?_
    refine idx_rdN (i := x) (Sep.pull [_, _, _] S).rd rfl (by omega) fun p10 hat10 _ => ?_
    refine st_flat (Sep.pull [_, _, _] S) (x := (c : Int)) (own_int _) hat10 rfl (by omega) fun h8 S8 => ?_
    have S8 := Sep.push [_, _, _] S8
    clear S
    refine nilck_some ?_
    refine ld_rawB (x := rd) S8 rfl rfl ?_
    refine nilck_some ?_
    refine ld_rawB (x := rd) S8 rfl rfl ?_
    have hxR : x < Rd'.length := by omega
    have fin : ∀ (b : Bool) (h' : Heap), (b = true ↔ Rd'[x] = true ∨ 1 < C.length) → Fw.Sep h0 h' (WL p g r l pt o lf' rd R L (Pt'.set x c) O (LF ++ [(k : Int)]) (Rd'.set x b) X) → k1 () h' := fun b h' hb S' =>
      hk1 _ _ fun _ => ar_i64 (by omega) (by omega) ⟨C.length - (j + 1), by omega, j + 1, Pt'.set x c, Rd'.set x b, rfl, by omega, rfl, by simpa using hPl, by simpa using hRl, fun i hi => by
        rw [List.getElem_set, htk]
        by_cases e : x = i
        · subst e; simp
        · rw [if_neg e, hP i (by simpa using hi)]
          have : (i ∈ C.take j ++ [x]) ↔ i ∈ C.take j := by
            rw [List.mem_append, List.mem_singleton]; exact ⟨fun h => h.resolve_right fun h => e h.symm, .inl⟩
          by_cases hm : i ∈ C.take j
          · rw [if_pos hm, if_pos (this.2 hm)]
          · rw [if_neg hm, if_neg fun h => hm (this.1 h)], fun i hi => by
        rw [List.getElem_set, htk]
        have hi' : i < Rd'.length := by simpa using hi
        by_cases e : x = i
        · subst e
          rw [if_pos rfl, hb, hR x hi']
          constructor
          · rintro ((h | h) | h)
            · exact .inl h
            · exact .inr ⟨by simp, h.2⟩
            · exact .inr ⟨by simp, h⟩
          · rintro (h | h)
            · exact .inl (.inl h)
            · exact .inr h.2
        · rw [if_neg e, hR i hi']
          have : (i ∈ C.take j ++ [x]) ↔ i ∈ C.take j := by
            rw [List.mem_append, List.mem_singleton]; exact ⟨fun h => h.resolve_right fun h => e h.symm, .inl⟩
          rw [this], S'⟩
    refine idx_rdN (Sep.pull [_, _, _, _, _, _] S8).rd rfl hxR fun p13 _ hp13 => ld_one hp13 ?_
    refine ifB_intro (fun ht => ?_) (fun hf => ?_)
    · refine idx_rdN (Sep.pull [_, _, _, _, _, _] S8).rd rfl hxR fun p14 hat14 _ => ?_
      exact st_flat (Sep.pull [_, _, _, _, _, _] S8) (x := true) (own_bool true) hat14 rfl hxR fun h9 S9 => fin true h9 ⟨fun _ => .inl ht, fun _ => rfl⟩ (Sep.push [_, _, _, _, _, _] S9)
    · refine idx_rdN (Sep.pull [_, _, _, _, _, _] S8).rd rfl hxR fun p15 hat15 _ => ?_
      refine st_flat (Sep.pull [_, _, _, _, _, _] S8) (x := decide (((dropSl o O1.length 1).len : Int) > 1)) (own_bool _) hat15 rfl hxR fun h9 S9 => fin _ h9 ?_ (Sep.push [_, _, _, _, _, _] S9)
      rw [hsl, decide_eq_true_eq, hf]
      exact ⟨fun h => .inr (by omega), fun h => h.elim (fun h => by cases h) fun h => by omega⟩
  · have hjl : C.length ≤ j := by rw [hsl] at hc; simpa using hc
    rw [List.take_of_length_le hjl] at hP hR
    refine nilck_some ?_
    refine ld_rawB (x := o) S rfl rfl ?_
    refine slc_to (Sep.pull [_, _, _, _] S) (by omega) (by omega) fun o' S9 => ?_
    have S9 := Sep.push [_, _, _, _] S9
    rw [Int.toNat_natCast] at S9
    have htake : O.take O1.length = O1 := by rw [hO]; simp
    rw [htake] at S9
    refine nilck_some ?_
    refine st_rawB S9 (by show 4 < 7; decide) rfl fun h11 S11 => ?_
    refine ⟨rfl, lf', fun e => absurd heq e, fun _ => ⟨o', c, Pt', Rd', hcC, fun x hx => ?_, hPl, hRl, hP, hR, S11⟩⟩
    have := hcmin (x : Int) (List.mem_map.2 ⟨x, hx, rfl⟩)
    omega

end Go.Proofs.Ytjpjnpbjalmhiaa
