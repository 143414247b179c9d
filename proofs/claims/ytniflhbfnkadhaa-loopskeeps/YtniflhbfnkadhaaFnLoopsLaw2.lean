/-
  The laws of layer 11: LoopsRound, LoopsNest.
-/
import Derived.Test.YtniflhbfnkadhaaFnLoopsLaw
namespace Go.Proofs.Ytniflhbfnkadhaa
open Go.Fw Go.Pl

theorem loopsF_at {G : Graph} {i : Nat} (hi : i < (loopsF G).length) : ∃ d : Nat, d < G.length ∧ Rch G d ∧ (loopsF G)[i] = ((d : Int), ints (bodyF G d), ints (backF G d)) := by
  have hm := List.getElem_mem hi
  generalize (loopsF G)[i] = y at hm ⊢
  unfold loopsF at hm
  obtain ⟨d, hd, rfl⟩ := List.mem_map.1 hm
  obtain ⟨h1, h2⟩ := List.mem_filter.1 hd
  refine ⟨d, List.mem_range.1 h1, ?_, rfl⟩
  have hne : backF G d ≠ [] := by intro e; rw [e] at h2; cases h2
  obtain ⟨b, hb⟩ := List.exists_mem_of_ne_nil _ hne
  exact (mem_backF.1 hb).2.2.1
theorem mem_loopsF {G : Graph} {d b : Nat} (hb : b ∈ backF G d) : ((d : Int), ints (bodyF G d), ints (backF G d)) ∈ loopsF G := by
  unfold loopsF
  refine List.mem_map.2 ⟨d, List.mem_filter.2 ⟨List.mem_range.2 (mem_backF.1 hb).2.lt.1, ?_⟩, rfl⟩
  cases e : backF G d with
  | nil => rw [e] at hb; cases hb
  | cons _ _ => rfl
theorem mem_ints {l : List Nat} {k : Nat} : (k : Int) ∈ ints l ↔ k ∈ l := by
  unfold ints
  rw [List.mem_map]
  constructor
  · rintro ⟨b, hb, e⟩
    have : b = k := by omega
    exact this ▸ hb
  · exact fun h => ⟨k, h, rfl⟩
theorem ints_at {l : List Nat} {i : Nat} (h : i < (ints l).length) : (ints l)[i] = ((l[i]'(by simpa [ints] using h) : Nat) : Int) := by simp [ints]
theorem loops_heads {G : Graph} {i k : Nat} (hi : i < (loopsF G).length) (hk : k < i) : (loopsF G)[k].1 < (loopsF G)[i].1 := by
  have : ((loopsF G).map (·.1)).Pairwise (· < ·) := by
    unfold loopsF
    rw [List.map_map]
    refine List.Pairwise.map _ (R := (· < ·)) (fun a b h => ?_) (List.pairwise_lt_range.filter _)
    show (a : Int) < (b : Int)
    omega
  have := List.pairwise_iff_getElem.1 this k i (by rw [List.length_map]; omega) (by rw [List.length_map]; omega) hk
  simpa using this

theorem loopsRound_calls {h : Heap} {g : Sl} {G : Graph} (hg : rdSl eInts h g G) :
    ACalls Try.prog F_lateenlaw11_LoopsRound [g.v] h (fun v h' => v = .bool true ∧ Old h h') := by
  refine lateenlaw11_LoopsRound_of ?_
  unfold lateenlaw11_LoopsRound
  intro k hk
  refine awake11_calls.mono ?_
  rintro v h1 ⟨rfl, o1⟩
  refine ⟨_, rfl, ifB_false rfl ?_⟩
  have g1 := hg.old o1
  refine (few_calls g1 60).mono ?_
  rintro v h2 ⟨rfl, rfl⟩
  refine ⟨_, rfl, hk _ _ fun _ => ?_⟩
  refine ifB_intro (fun _ => awake11_end o1) (fun hc => ?_)
  have hfew : fewB G 60 = true := by simpa using hc
  have hn : G.length ≤ 1000 := by have := few_le hfew; omega
  have hrow := few_rows hfew
  refine (nearest_calls g1 hn).mono ?_
  rintro v h3 ⟨r1, rfl, T3⟩
  refine ⟨r1, rfl, ?_⟩
  refine (loopsAll_calls (g1.old T3.old) hn).mono ?_
  rintro v h4 ⟨r2, rfl, T4⟩
  refine ⟨r2, rfl, ?_⟩
  have o4 := T3.old.trans T4.old
  refine (order_calls (g1.old o4) hn).mono ?_
  rintro v h5 ⟨r3, rfl, T5⟩
  refine ⟨r3, rfl, ?_⟩
  have o5 := o1.trans (o4.trans T5.old)
  have hg5 := hg.old o5
  have hnear := (T3.grow (T4.old.trans T5.old)).rd
  have hlp := (T4.grow T5.old).rd
  have hor := T5.rd
  clear T3 T4 T5 o4 g1 hk hc
  have hll := hlp.lenEq
  have hlb := hlp.bound
  have hol := hor.lenEq
  have hob := hor.bound
  refine loop_intro (fun m (t : Int) h' => ∃ i : Nat, t = i ∧ h' = h5 ∧ i ≤ (loopsF G).length ∧ m = (loopsF G).length - i) (loopsF G).length ⟨0, rfl, rfl, by omega, by omega⟩ ?_
  rintro _ _ t h6 ⟨i, rfl, rfl, hi, rfl⟩
  refine ifB_intro (fun hc => ?_) (fun hc => ?_)
  · have hil : i < (loopsF G).length := by rw [hll] at hc; simpa using hc
    obtain ⟨d, hdn, hdr, he⟩ := loopsF_at hil
    have hbl : (ints (bodyF G d)).length ≤ G.length := by
      rw [ints_len]; unfold bodyF; exact Nat.le_trans (List.length_filter_le _ _) (by simp)
    refine loop_intro (fun m (t : Int) h' => ∃ k : Nat, t = k ∧ h' = h6 ∧ k ≤ (ints (bodyF G d)).length ∧ m = (ints (bodyF G d)).length - k) (ints (bodyF G d)).length ⟨0, rfl, rfl, by omega, by omega⟩ ?_
    rintro _ _ t h7 ⟨k, rfl, rfl, hk, rfl⟩
    refine idx_rdN hlp rfl hil fun p hat hp => ?_
    rw [he] at hp
    refine ld_sl (loop_rd hat.1 hp).2.1 fun x hx => ?_
    have hxl := hx.lenEq
    refine ifB_intro (fun hc => ?_) (fun hc => ?_)
    · have hkl : k < (ints (bodyF G d)).length := by rw [hxl] at hc; simpa using hc
      refine idx_rdN hlp rfl hil fun p hat hp => ?_
      rw [he] at hp
      refine ld_sl (loop_rd hat.1 hp).2.1 fun x1 hx1 => ?_
      refine idx_rdN hx1 rfl hkl fun p2 _ hp2 => ld_one hp2 ?_
      have hkl' : k < (bodyF G d).length := by rw [ints_len] at hkl; exact hkl
      rw [ints_at hkl]
      have hmem : (bodyF G d)[k] ∈ bodyF G d := List.getElem_mem hkl'
      generalize (bodyF G d)[k] = a at hmem
      obtain ⟨han, hin⟩ := mem_bodyF.1 hmem
      refine idx_rdN hlp rfl hil fun p hat hp => ?_
      rw [he] at hp
      refine ld_one (loop_rd hat.1 hp).1 ?_
      refine (dominates_calls hnear hn (d : Int) (a : Int)).mono ?_
      rintro v h8 ⟨e8, b, rfl, hb⟩
      subst e8
      refine ⟨_, rfl, ?_⟩
      have hbt : b = true := hb.2 ⟨d, a, rfl, rfl, hdn, han, .inr (hin.dom hdr)⟩
      refine ifB_false (by rw [hbt]; rfl) ?_
      refine loop_intro (fun m (t : Int) h' => ∃ j : Nat, t = j ∧ h' = h8 ∧ j ≤ (orderOf G).length ∧ m = (orderOf G).length - j) (orderOf G).length ⟨0, rfl, rfl, by omega, by omega⟩ ?_
      rintro _ _ t h9 ⟨j, rfl, rfl, hj, rfl⟩
      refine ifB_intro (fun hc => ?_) (fun hc => ?_)
      · have hjl : j < (orderOf G).length := by rw [hol] at hc; simpa using hc
        obtain ⟨z, hz, hzn⟩ := order_in hjl
        obtain ⟨hzr, _⟩ := rk_at hjl hz
        intro k2 hk2
        have nx : k2 false h9 := hk2 _ _ fun _ => ifB_false rfl (ar_i64 (by omega) (by omega) ⟨(orderOf G).length - (j + 1), by omega, j + 1, rfl, rfl, by omega, rfl⟩)
        refine idx_rdN hlp rfl hil fun p hat hp => ?_
        rw [he] at hp
        refine ld_one (loop_rd hat.1 hp).1 ?_
        refine ifB_intro (fun hne => ?_) (fun _ => nx)
        have hne' : a ≠ d := by
          have := bne_iff_ne.1 hne
          intro e; subst e; exact this rfl
        refine idx_rdN hor rfl hjl fun p5 _ hp5 => ld_one hp5 ?_
        rw [hz]
        refine ⟨_, leads_calls hg5 (a := (z : Int)) (b := (a : Int)) (by omega) (by omega), _, rfl, ?_⟩
        rw [Int.toNat_natCast]
        refine ifB_intro (fun hld => ?_) (fun _ => nx)
        refine idx_rdN hlp rfl hil fun p hat hp => ?_
        rw [he] at hp
        refine ld_sl (loop_rd hat.1 hp).2.1 fun x6 hx6 => ?_
        refine idx_rdN hor rfl hjl fun p7 _ hp7 => ld_one hp7 ?_
        rw [hz]
        refine ⟨_, has_calls hx6 (z : Int), _, rfl, ?_⟩
        have : (ints (bodyF G d)).contains (z : Int) = true := by
          rw [List.contains_iff_mem, mem_ints]
          exact mem_bodyF.2 ⟨hzn, .pred hin hne' hld hzr⟩
        rw [this]
        exact nx
      · exact ar_i64 (by omega) (by omega) ⟨(ints (bodyF G d)).length - (k + 1), by omega, k + 1, rfl, rfl, by omega, rfl⟩
    · exact ar_i64 (by omega) (by omega) ⟨(loopsF G).length - (i + 1), by omega, i + 1, rfl, rfl, by omega, rfl⟩
  refine (crossed_calls hg5 hn hrow).mono ?_
  rintro v h11 ⟨rfl, o11⟩
  refine ⟨_, rfl, ?_⟩
  have oF := o5.trans o11
  refine ifB_intro (fun _ => ⟨rfl, oF⟩) (fun hcr => ?_)
  have hnc : ¬ CrossP G := fun hcp => by rw [crossB_iff.2 hcp] at hcr; cases hcr
  have hg11 := hg.old oF
  have hlp := hlp.old o11
  have hor := hor.old o11
  refine loop_intro (fun m (t : Int) h' => ∃ i : Nat, t = i ∧ h' = h11 ∧ i ≤ (orderOf G).length ∧ m = (orderOf G).length - i) (orderOf G).length ⟨0, rfl, rfl, by omega, by omega⟩ ?_
  rintro _ _ t h12 ⟨i, rfl, rfl, hi, rfl⟩
  refine ifB_intro (fun hc => ?_) (fun _ => ⟨rfl, oF⟩)
  have hil : i < (orderOf G).length := by rw [hol] at hc; simpa using hc
  obtain ⟨x, hx, hxn⟩ := order_in hil
  obtain ⟨hxr, hxk⟩ := rk_at hil hx
  refine loop_intro (fun m (t : Int) h' => ∃ k : Nat, t = k ∧ h' = h12 ∧ k ≤ i + 1 ∧ m = i + 1 - k) (i + 1) ⟨0, rfl, rfl, by omega, by omega⟩ ?_
  rintro _ _ t h13 ⟨k, rfl, rfl, hk, rfl⟩
  refine ifB_intro (fun hc => ?_) (fun hc => ?_)
  · have hkl : k ≤ i := by have := of_decide_eq_true hc; omega
    have hko : k < (orderOf G).length := by omega
    obtain ⟨y, hy, hyn⟩ := order_in hko
    obtain ⟨hyr, hyk⟩ := rk_at hko hy
    intro k4 hk4
    have nx : k4 () h13 := hk4 _ _ fun _ => ar_i64 (by omega) (by omega) ⟨i + 1 - (k + 1), by omega, k + 1, rfl, rfl, by omega, rfl⟩
    refine idx_rdN hor rfl hil fun p _ hp => ld_one hp ?_
    rw [hx]
    refine idx_rdN hor rfl hko fun p _ hp => ld_one hp ?_
    rw [hy]
    refine (leads_calls hg11 (a := (x : Int)) (b := (y : Int)) (by omega) (by omega)).mono ?_
    rintro v h15 ⟨rfl, rfl⟩
    refine ⟨_, rfl, ?_⟩
    rw [Int.toNat_natCast]
    refine ifB_intro (fun _ => nx) (fun hld => ?_)
    have hld : leadsB G x (y : Int) = true := by simpa using hld
    have hback := back_of_retreat hnc hxr hld hyn (by omega)
    have hbm : x ∈ backF G y := mem_backF.2 ⟨hxn, hback⟩
    have hlm := mem_loopsF hbm
    refine loop_intro (fun m (t : Bool × Int) h' => ∃ j : Nat, t.2 = j ∧ h' = h15 ∧ j ≤ (loopsF G).length ∧ m = (loopsF G).length - j ∧
        t.1 = ((loopsF G).take j).any fun z => z.1 == (y : Int) && (z.2.2.contains (x : Int) && z.2.1.contains (x : Int))) (loopsF G).length
      ⟨0, rfl, rfl, by omega, by omega, by simp⟩ ?_
    rintro _ _ ⟨inv, j⟩ h16 ⟨j, hj0, rfl, hj, rfl, hinv⟩
    simp only at hj0 hinv ⊢
    subst hj0
    refine ifB_intro (fun hc => ?_) (fun hc => ?_)
    · have hjl : j < (loopsF G).length := by rw [hll] at hc; simpa using hc
      intro k5 hk5
      have nx5 : ∀ u, u = (inv || ((loopsF G)[j].1 == (y : Int) && ((loopsF G)[j].2.2.contains (x : Int) && (loopsF G)[j].2.1.contains (x : Int)))) → k5 u h16 := fun u hu => hk5 _ _ fun _ =>
        ar_i64 (by omega) (by omega) ⟨(loopsF G).length - (j + 1), by omega, j + 1, rfl, rfl, by omega, rfl, by
          rw [List.take_succ_eq_append_getElem hjl, List.any_append, ← hinv, hu]
          simp⟩
      refine ifB_intro (fun h0 => nx5 true (by rw [h0]; rfl)) (fun h0 => ?_)
      refine idx_rdN hlp rfl hjl fun p hat hp => ld_one (loop_rd hat.1 hp).1 ?_
      refine idx_rdN hor rfl hko fun p _ hp => ld_one hp ?_
      rw [hy]
      refine ifB_intro (fun h1 => ?_) (fun h1 => nx5 false (by rw [h0, h1]; rfl))
      refine idx_rdN hlp rfl hjl fun p hat hp => ld_sl (loop_rd hat.1 hp).2.2 fun x12 hx12 => ?_
      refine idx_rdN hor rfl hil fun p _ hp => ld_one hp ?_
      rw [hx]
      refine ⟨_, has_calls hx12 (x : Int), _, rfl, ?_⟩
      refine ifB_intro (fun h2 => ?_) (fun h2 => nx5 false (by rw [h0, h1, h2]; rfl))
      refine idx_rdN hlp rfl hjl fun p hat hp => ld_sl (loop_rd hat.1 hp).2.1 fun x14 hx14 => ?_
      refine idx_rdN hor rfl hil fun p _ hp => ld_one hp ?_
      rw [hx]
      refine ⟨_, has_calls hx14 (x : Int), _, rfl, ?_⟩
      exact nx5 _ (by rw [h0, h1, h2]; rfl)
    · have hjl : (loopsF G).length ≤ j := by rw [hll] at hc; simpa using hc
      rw [List.take_of_length_le hjl] at hinv
      have : inv = true := by
        rw [hinv, List.any_eq_true]
        refine ⟨_, hlm, ?_⟩
        simp only [Bool.and_eq_true, beq_iff_eq, List.contains_iff_mem, mem_ints]
        exact ⟨trivial, hbm, mem_bodyF.2 ⟨hxn, .back hback⟩⟩
      rw [this]
      exact nx
  · exact ar_i64 (by omega) (by omega) ⟨(orderOf G).length - (i + 1), by omega, i + 1, rfl, rfl, by omega, rfl⟩

/-! Of two loops one has all points of the other one, or they have none in common. -/
theorem filter_ints (l : List Nat) (m : List Nat) : ((ints l).filter fun x => (ints m).contains x).length = (l.filter fun x => m.contains x).length := by
  induction l with
  | nil => rfl
  | cons a l ih =>
    have : (ints m).contains (a : Int) = m.contains a := by
      rw [Bool.eq_iff_iff, List.contains_iff_mem, List.contains_iff_mem, mem_ints]
    show (((a : Int) :: ints l).filter fun x => (ints m).contains x).length = _
    rw [List.filter_cons, List.filter_cons, this]
    split
    · rw [List.length_cons, List.length_cons, ih]
    · exact ih
theorem nest_count {G : Graph} {d e : Nat} (hne : d ≠ e) (hd : Rch G d) (he : Rch G e) :
    ((bodyF G d).filter fun x => (bodyF G e).contains x).length = 0 ∨ ((bodyF G d).filter fun x => (bodyF G e).contains x).length = (bodyF G d).length ∨ ((bodyF G d).filter fun x => (bodyF G e).contains x).length = (bodyF G e).length := by
  by_cases hx : ∃ p, InL G d p ∧ InL G e p
  · obtain ⟨p, p1, p2⟩ := hx
    rcases Nat.le_total (rkOf G d) (rkOf G e) with hle | hle
    · right; right
      have hsub := loop_in hne hd he p1 p2 hle
      congr 1
      unfold bodyF
      rw [List.filter_filter]
      refine List.filter_congr fun a ha => ?_
      rw [Bool.eq_iff_iff, Bool.and_eq_true, List.contains_iff_mem, List.mem_filter, inB_iff, inB_iff]
      exact ⟨fun h => h.1.2, fun h => ⟨⟨ha, h⟩, hsub a h⟩⟩
    · right; left
      have hsub := loop_in (Ne.symm hne) he hd p2 p1 hle
      congr 1
      refine List.filter_eq_self.2 fun a ha => ?_
      rw [List.contains_iff_mem]
      obtain ⟨h1, h2⟩ := mem_bodyF.1 ha
      exact mem_bodyF.2 ⟨h1, hsub a h2⟩
  · left
    rw [List.length_eq_zero_iff, List.filter_eq_nil_iff]
    intro a ha h
    rw [List.contains_iff_mem] at h
    exact hx ⟨a, (mem_bodyF.1 ha).2, (mem_bodyF.1 h).2⟩

theorem loopsNest_calls {h : Heap} {g : Sl} {G : Graph} (hg : rdSl eInts h g G) :
    ACalls Try.prog F_lateenlaw11_LoopsNest [g.v] h (fun v h' => v = .bool true ∧ Old h h') := by
  refine lateenlaw11_LoopsNest_of ?_
  unfold lateenlaw11_LoopsNest
  intro k hk
  refine awake11_calls.mono ?_
  rintro v h1 ⟨rfl, o1⟩
  refine ⟨_, rfl, ifB_false rfl ?_⟩
  have g1 := hg.old o1
  refine (few_calls g1 60).mono ?_
  rintro v h2 ⟨rfl, rfl⟩
  refine ⟨_, rfl, hk _ _ fun _ => ?_⟩
  refine ifB_intro (fun _ => awake11_end o1) (fun hc => ?_)
  have hfew : fewB G 60 = true := by simpa using hc
  have hn : G.length ≤ 1000 := by have := few_le hfew; omega
  refine (loopsAll_calls g1 hn).mono ?_
  rintro v h3 ⟨r1, rfl, T3⟩
  refine ⟨r1, rfl, ?_⟩
  have oF := o1.trans T3.old
  have hlp := T3.rd
  have hll := hlp.lenEq
  have hlb := hlp.bound
  clear T3 hk hc
  refine loop_intro (fun m (t : Int) h' => ∃ i : Nat, t = i ∧ h' = h3 ∧ i ≤ (loopsF G).length ∧ m = (loopsF G).length - i) (loopsF G).length ⟨0, rfl, rfl, by omega, by omega⟩ ?_
  rintro _ _ t h4 ⟨i, rfl, rfl, hi, rfl⟩
  refine ifB_intro (fun hc => ?_) (fun _ => ⟨rfl, oF⟩)
  have hil : i < (loopsF G).length := by rw [hll] at hc; simpa using hc
  refine loop_intro (fun m (t : Int) h' => ∃ k : Nat, t = k ∧ h' = h4 ∧ k ≤ i ∧ m = i - k) i ⟨0, rfl, rfl, by omega, by omega⟩ ?_
  rintro _ _ t h5 ⟨k, rfl, rfl, hk, rfl⟩
  refine ifB_intro (fun hc => ?_) (fun hc => ?_)
  · have hki : k < i := by have := of_decide_eq_true hc; omega
    have hkl : k < (loopsF G).length := by omega
    have hlt := loops_heads hil hki
    obtain ⟨d, hdn, hdr, hd⟩ := loopsF_at hil
    obtain ⟨e, hen, her, he⟩ := loopsF_at hkl
    rw [hd, he] at hlt
    have hde : d ≠ e := fun h => by subst h; simp at hlt
    have hnest := nest_count hde hdr her
    rw [← filter_ints] at hnest
    have hbl : (bodyF G d).length ≤ G.length := by unfold bodyF; exact Nat.le_trans (List.length_filter_le _ _) (by simp)
    refine loop_intro (fun m (t : Int × Int) h' => ∃ j : Nat, t.2 = j ∧ h' = h5 ∧ j ≤ (ints (bodyF G d)).length ∧ m = (ints (bodyF G d)).length - j ∧
        t.1 = ((((ints (bodyF G d)).take j).filter fun x => (ints (bodyF G e)).contains x).length : Nat)) (ints (bodyF G d)).length ⟨0, rfl, rfl, by omega, by omega, by simp⟩ ?_
    rintro _ _ ⟨n, j⟩ h6 ⟨j, hj0, rfl, hj, rfl, hcnt⟩
    simp only at hj0 hcnt ⊢
    subst hj0 hcnt
    refine idx_rdN hlp rfl hil fun p hat hp => ?_
    rw [hd] at hp
    refine ld_sl (loop_rd hat.1 hp).2.1 fun x hx => ?_
    have hxl := hx.lenEq
    refine ifB_intro (fun hc => ?_) (fun hc => ?_)
    · have hjl : j < (ints (bodyF G d)).length := by rw [hxl] at hc; simpa using hc
      have hfl : (((ints (bodyF G d)).take j).filter fun x => (ints (bodyF G e)).contains x).length ≤ j := Nat.le_trans (List.length_filter_le _ _) (by rw [List.length_take]; omega)
      rw [ints_len] at hjl
      intro k2 hk2
      have nx : ∀ n : Int, n = ((((ints (bodyF G d)).take (j + 1)).filter fun x => (ints (bodyF G e)).contains x).length : Nat) → k2 n h6 := fun n hnn => hk2 _ _ fun _ =>
        ar_i64 (by omega) (by omega) ⟨(ints (bodyF G d)).length - (j + 1), by rw [ints_len]; omega, j + 1, rfl, rfl, by rw [ints_len]; omega, rfl, hnn⟩
      have hjl' : j < (ints (bodyF G d)).length := by rw [ints_len]; exact hjl
      rw [List.take_succ_eq_append_getElem hjl', List.filter_append, List.length_append] at nx
      refine idx_rdN hlp rfl hkl fun p hat hp => ?_
      rw [he] at hp
      refine ld_sl (loop_rd hat.1 hp).2.1 fun x1 hx1 => ?_
      refine idx_rdN hlp rfl hil fun p hat hp => ?_
      rw [hd] at hp
      refine ld_sl (loop_rd hat.1 hp).2.1 fun x2 hx2 => ?_
      refine idx_rdN hx2 rfl hjl' fun p3 _ hp3 => ld_one hp3 ?_
      refine (has_calls hx1 _).mono ?_
      rintro v h8 ⟨rfl, rfl⟩
      refine ⟨_, rfl, fun _ _ e => e, ?_⟩
      refine ifB_intro (fun hb => ar_i64 (by omega) (by omega) (nx _ ?_)) (fun hb => nx _ ?_)
      · simp only [List.filter_cons, hb]; simp
      · simp only [List.filter_cons, hb]; simp
    · have hjl : (ints (bodyF G d)).length ≤ j := by rw [hxl] at hc; simpa using hc
      rw [List.take_of_length_le hjl]
      intro k3 hk3
      have nx : k3 false h6 := hk3 _ _ fun _ => ifB_false rfl (ar_i64 (by omega) (by omega) ⟨i - (k + 1), by omega, k + 1, rfl, rfl, by omega, rfl⟩)
      generalize ((ints (bodyF G d)).filter fun x => (ints (bodyF G e)).contains x).length = n at hnest
      refine ifB_intro (fun c1 => ?_) (fun _ => nx)
      have c1 := bne_iff_ne.1 c1
      refine idx_rdN hlp rfl hil fun p hat hp => ?_
      rw [hd] at hp
      refine ld_sl (loop_rd hat.1 hp).2.1 fun x4 hx4 => ?_
      have hl4 := hx4.lenEq
      rw [ints_len] at hl4
      refine ifB_intro (fun c2 => ?_) (fun _ => nx)
      have c2 := bne_iff_ne.1 c2
      refine idx_rdN hlp rfl hkl fun p hat hp => ?_
      rw [he] at hp
      refine ld_sl (loop_rd hat.1 hp).2.1 fun x5 hx5 => ?_
      have hl5 := hx5.lenEq
      rw [ints_len] at hl5
      have : ((n : Int) != (x5.len : Int)) = false := by
        rw [bne_eq_false_iff_eq]
        omega
      rw [this]
      exact nx
  · exact ar_i64 (by omega) (by omega) ⟨(loopsF G).length - (i + 1), by omega, i + 1, rfl, rfl, by omega, rfl⟩

end Go.Proofs.Ytniflhbfnkadhaa
