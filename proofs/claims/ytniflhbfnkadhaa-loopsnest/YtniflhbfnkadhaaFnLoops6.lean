/-
  The law's and the document's small functions about loops: has, Same, back.
-/
import Derived.Test.YtniflhbfnkadhaaFnLoops5
namespace Go.Proofs.Ytniflhbfnkadhaa
open Go.Fw Go.Pl

abbrev Loop := Int × List Int × List Int
theorem loop_rd {h : Heap} {p : Addr} {x : Loop} (hs : p.spot = none) (r : eLoop.rd h p x) :
    hcell h (p.add 0) = some (.int .i64 x.1) ∧ eInts.rd h (p.add 1) x.2.1 ∧ eInts.rd h (p.add 2) x.2.2 := by
  obtain ⟨r1, r2, r3⟩ := r
  refine ⟨by rw [Addr.add_zero']; exact r1, r2, ?_⟩
  rw [Addr.add_add] at r3
  exact r3

theorem has_calls {h : Heap} {s : Sl} {A : List Int} (ha : rdSl eInt h s A) (x : Int) :
    ACalls Try.prog F_lateenlaw11_has [s.v, .int .i64 x] h (fun v h' => v = .bool (A.contains x) ∧ h' = h) := by
  refine lateenlaw11_has_of ?_
  have hl := ha.lenEq
  have hb := ha.bound
  unfold lateenlaw11_has
  refine loop_intro (fun m i h1 => ∃ k : Nat, i = k ∧ h1 = h ∧ k ≤ A.length ∧ m = A.length - k ∧ x ∉ A.take k) A.length ⟨0, rfl, rfl, by omega, by omega, by simp⟩ ?_
  rintro m _ i h1 ⟨k, rfl, rfl, hk, rfl, hno⟩
  refine ifB_intro (fun hc => ?_) (fun hc => ⟨?_, rfl⟩)
  · have hlt : k < A.length := by simpa [hl] using hc
    refine idx_rdN ha rfl hlt fun p _ hp => ld_one hp ?_
    refine ifB_intro (fun hc => ⟨?_, rfl⟩) (fun hc => ar_i64 (by omega) (by omega) ⟨A.length - (k + 1), by omega, k + 1, by omega, rfl, by omega, rfl, ?_⟩)
    · have he : A[k] = x := by simpa using hc
      have hmem : x ∈ A := by rw [← he]; exact List.getElem_mem _
      simp [hmem]
    · have hne : A[k] ≠ x := by simpa using hc
      rw [List.take_succ_eq_append_getElem hlt, List.mem_append, List.mem_singleton]
      rintro (h | h)
      · exact hno h
      · exact hne h.symm
  · have : A.length ≤ k := by simpa [hl] using hc
    rw [List.take_of_length_le this] at hno
    simp [hno]

theorem loopsSame_calls {h : Heap} {a b : Sl} {A B : List Loop} (ha : rdSl eLoop h a A) (hb : rdSl eLoop h b B) :
    ACalls Try.prog F_lateenref11_Same [a.v, b.v] h (fun v h' => v = .bool (decide (A = B)) ∧ h' = h) := by
  refine lateenref11_Same_of ?_
  have hla := ha.lenEq
  have hlb := hb.lenEq
  have hba := ha.bound
  unfold lateenref11_Same
  refine ifB_intro (fun hc => ⟨?_, rfl⟩) (fun hc => ?_)
  · have hne : A.length ≠ B.length := by intro e; simp [hla, hlb, e] at hc
    have : A ≠ B := fun e => hne (by rw [e])
    rw [decide_eq_false this]
  · have hle : A.length = B.length := by simp [hla, hlb] at hc; omega
    refine loop_intro (fun m i h1 => ∃ k : Nat, i = k ∧ h1 = h ∧ k ≤ A.length ∧ m = A.length - k ∧ A.take k = B.take k) A.length ⟨0, rfl, rfl, by omega, by omega, rfl⟩ ?_
    rintro m _ i h1 ⟨k, rfl, rfl, hk, rfl, hno⟩
    refine ifB_intro (fun hc => ?_) (fun hc => ⟨?_, rfl⟩)
    · have hlt : k < A.length := by simpa [hla] using hc
      have hlt2 : k < B.length := by omega
      intro k1 hk1
      have yes : A[k] ≠ B[k] → k1 true h1 := fun hne => hk1 _ _ fun _ => ifB_true rfl ⟨by rw [decide_eq_false]; intro e; exact hne (by simp only [e]), rfl⟩
      have no : A[k] = B[k] → k1 false h1 := fun he => hk1 _ _ fun _ => ifB_false rfl (ar_i64 (by omega) (by omega) ⟨A.length - (k + 1), by omega, k + 1, by omega, rfl, by omega, rfl, by
        rw [List.take_succ_eq_append_getElem hlt, List.take_succ_eq_append_getElem hlt2, hno, he]⟩)
      refine idx_rdN ha rfl hlt fun p hat hp => ld_one (loop_rd hat.1 hp).1 ?_
      refine idx_rdN hb rfl hlt2 fun p hat hp => ld_one (loop_rd hat.1 hp).1 ?_
      refine ifB_intro (fun hc => yes ?_) (fun hc => ?_)
      · have hne : A[k].1 ≠ B[k].1 := by simpa using hc
        exact fun e => hne (by rw [e])
      have h1e : A[k].1 = B[k].1 := by simpa using hc
      refine idx_rdN ha rfl hlt fun p hat hp => ld_sl (loop_rd hat.1 hp).2.1 fun x hx => ?_
      refine idx_rdN hb rfl hlt2 fun p hat hp => ld_sl (loop_rd hat.1 hp).2.1 fun y hy => ?_
      refine ⟨_, same_calls hx hy, _, rfl, ?_⟩
      refine ifB_intro (fun hc => yes ?_) (fun hc => ?_)
      · have hne : A[k].2.1 ≠ B[k].2.1 := by simpa using hc
        exact fun e => hne (by rw [e])
      have h2e : A[k].2.1 = B[k].2.1 := by simpa using hc
      refine idx_rdN ha rfl hlt fun p hat hp => ld_sl (loop_rd hat.1 hp).2.2 fun x hx => ?_
      refine idx_rdN hb rfl hlt2 fun p hat hp => ld_sl (loop_rd hat.1 hp).2.2 fun y hy => ?_
      refine ⟨_, same_calls hx hy, _, rfl, ?_⟩
      by_cases h3e : A[k].2.2 = B[k].2.2
      · rw [beq_iff_eq.2 h3e]
        exact no (Prod.ext h1e (Prod.ext h2e h3e))
      · rw [beq_eq_false_iff_ne.2 h3e]
        exact yes fun e => h3e (by rw [e])
    · have : A.length ≤ k := by simpa [hla] using hc
      rw [List.take_of_length_le this, List.take_of_length_le (by omega)] at hno
      rw [hno]; simp

/-! Slices that are shared -/
abbrev eSl : Elem Sl := Elem.cell Sl.v (fun _ => rfl)
abbrev e3 : Elem (Int × Sl × Sl) := Elem.prod eInt (Elem.prod eSl eSl)
theorem own_e3 (a : Int) (s t : Sl) (h : Heap) : e3.own [.int .i64 a, s.v, t.v] (a, s, t) h [] :=
  ⟨[.int .i64 a], [s.v, t.v], [], [], rfl, rfl, ⟨rfl, rfl⟩, [s.v], [t.v], [], [], rfl, rfl, ⟨rfl, rfl⟩, ⟨rfl, rfl⟩⟩
/-- What the shared slices read as. -/
def Sh (h : Heap) (ts : List (Int × Sl × Sl)) (A : List Loop) : Prop :=
  ts.length = A.length ∧ ∀ i (h1 : i < ts.length) (h2 : i < A.length), ts[i].1 = A[i].1 ∧ rdSl eInt h ts[i].2.1 A[i].2.1 ∧ rdSl eInt h ts[i].2.2 A[i].2.2
theorem Sh.rd {h h' : Heap} {ts : List (Int × Sl × Sl)} {A : List Loop} {s : Sl} (sh : Sh h ts A) (o : Old h h') (r : rdSl e3 h' s ts) : rdSl eLoop h' s A := by
  obtain ⟨h1, h2, h3, h4, h5⟩ := r
  refine ⟨by rw [h1, sh.1], h2, by rw [← sh.1]; exact h3, h4, ?_⟩
  rcases h5 with h5 | ⟨a, ha, hs, hr⟩
  · left
    have := sh.1
    rw [h5] at this
    exact List.eq_nil_of_length_eq_zero this.symm
  · refine .inr ⟨a, ha, hs, fun i hi => ?_⟩
    have hi' : i < ts.length := by rw [sh.1]; exact hi
    obtain ⟨q1, q2, q3⟩ := hr i hi'
    obtain ⟨e1, e2, e3⟩ := sh.2 i hi' hi
    exact ⟨by rw [← e1]; exact q1, ⟨_, q2, e2.old o⟩, ⟨_, q3, e3.old o⟩⟩

theorem back_calls {h : Heap} {l : Sl} {A : List Loop} (hl : rdSl eLoop h l A) (hn : A.length ≤ 1000) :
    ACalls Try.prog F_lateenlaw11_back [l.v] h (fun v h' => ∃ s : Sl, v = s.v ∧ rdSl eLoop h' s A ∧ Old h h') := by
  refine lateenlaw11_back_of ?_
  have hll := hl.lenEq
  unfold lateenlaw11_back
  refine loop_intro (fun m (t : Sl × Int) h' => ∃ (i : Nat) (ts : List (Int × Sl × Sl)), t.2 = i ∧ i ≤ A.length ∧ m = A.length - i ∧ Sh h ts (A.take i) ∧ Sep h h' [ownSl si_Llateenref11_Loop e3 t.1 ts]) A.length
    ⟨0, [], rfl, by omega, by omega, ⟨rfl, by simp⟩, (Sep.start h).nil rfl⟩ ?_
  rintro _ _ ⟨out, i⟩ h1 ⟨i, ts, hi0, hi, rfl, sh, S⟩
  simp only at hi0 S ⊢
  subst hi0
  have htl : ts.length = i := by rw [sh.1, List.length_take]; omega
  refine ifB_intro (fun hc => ?_) (fun hc => ?_)
  · have hlt : i < A.length := by simpa [hll] using hc
    refine idx_rdN hl rfl hlt fun p hat hp => ld_oneB (k := .int .i64) (loop_rd hat.1 hp).1 S.old ?_
    refine idx_rdN hl rfl hlt fun p hat hp => ld_slB (loop_rd hat.1 hp).2.1 S.old fun x hx => ?_
    refine idx_rdN hl rfl hlt fun p hat hp => ld_slB (loop_rd hat.1 hp).2.2 S.old fun y hy => ?_
    refine ⟨#[.int .i64 A[i].1, x.v, y.v], by kernel_rfl, ?_⟩
    refine app1_flat (v := .agg #[.int .i64 A[i].1, x.v, y.v]) (x := (A[i].1, x, y)) S (own_e3 _ _ _) rfl (by decide) (by simp only [si_Llateenref11_Loop]; omega) (by omega) fun s' h' S' => ?_
    refine ar_i64 (by omega) (by omega) ⟨A.length - (i + 1), by omega, i + 1, _, rfl, by omega, rfl, ⟨by simp [htl, sh.1]; omega, fun j h1 h2 => ?_⟩, S'⟩
    simp only [List.getElem_take]
    by_cases e : j < ts.length
    · rw [List.getElem_append_left e]
      have := sh.2 j e (by rw [List.length_take]; omega)
      simpa using this
    · have hj : j = i := by simp at h1; omega
      subst hj
      rw [List.getElem_append_right (by omega)]
      simp [htl, hx, hy]
  · have hki : A.length = i := by have := of_decide_eq_false hc; omega
    subst hki
    rw [List.take_length] at sh
    exact ⟨out, rfl, sh.rd S.old S.rd, S.old⟩

end Go.Proofs.Ytniflhbfnkadhaa
