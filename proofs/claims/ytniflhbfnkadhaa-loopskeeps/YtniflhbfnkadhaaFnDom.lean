/-
  dom.ranks, dom.meet, dom.Nearest.
-/
import Derived.Test.YtniflhbfnkadhaaFnFlow
import Derived.Test.YtniflhbfnkadhaaFwMore
import Derived.Test.YtniflhbfnkadhaaFwDec
import Derived.Test.YtniflhbfnkadhaaPlDom3
namespace Go.Proofs.Ytniflhbfnkadhaa
open Go.Fw Go.Pl

theorem ranks_calls {h : Heap} {o : Sl} {G : Graph} (hn : G.length ≤ 1000) (ho : rdSl eInt h o (orderOf G)) :
    ACalls Try.prog F_dom_ranks [.int .i64 (G.length : Int), o.v] h (fun v h' => ∃ s : Sl, v = s.v ∧ Sep h h' [ownSl si_Lint eInt s (rankL G)]) := by
  refine dom_ranks_of ?_
  unfold dom_ranks
  refine ⟨rfl, mk_rule (x := (0 : Int)) (E := eInt) (Sep.start h) rfl (fun h => own_int 0 h) (by omega) (by omega) (by simp only [si_Lint]; omega) fun s h1 S => ?_⟩
  rw [Int.toNat_natCast] at S
  refine loop_intro (fun m t h' => ∃ (j : Nat) (A : List Int), t = j ∧ j ≤ G.length ∧ m = G.length - j ∧ A.length = G.length ∧ (∀ i (hi : i < A.length), i < j → A[i] = -1) ∧ Sep h h' [ownSl si_Lint eInt s A]) G.length
    ⟨0, _, rfl, by omega, by omega, by simp, fun i hi h => by omega, S⟩ ?_
  clear S
  rintro m _ t h2 ⟨j, A, rfl, hj, rfl, hA, hall, S⟩
  have hsl := S.rd.lenEq
  refine ifB_intro (fun hc => ?_) (fun hc => ?_)
  · have hjl : j < A.length := by rw [hsl] at hc; simpa using hc
    refine idx_rdN S.rd rfl hjl fun p hat _ => ?_
    refine st_flat S (x := (-1 : Int)) (own_int (-1)) hat rfl hjl fun h3 S3 => ?_
    refine ar_i64 (by omega) (by omega) ⟨G.length - (j + 1), by omega, j + 1, _, rfl, by omega, rfl, by simpa using hA, fun i hi hlt => ?_, S3⟩
    rw [List.getElem_set]
    split
    · rfl
    · exact hall i (by simpa using hi) (by omega)
  · have hjl : G.length ≤ j := by rw [hsl] at hc; have := of_decide_eq_false hc; omega
    have hol := ho.lenEq
    have hob := ho.bound
    refine loop_intro (fun m t h' => ∃ (j : Nat) (A : List Int), t = j ∧ j ≤ (orderOf G).length ∧ m = (orderOf G).length - j ∧ A.length = G.length ∧ (∀ k (hk : k < A.length), A[k] = if (k : Int) ∈ (orderOf G).take j then ((rkOf G k : Nat) : Int) else -1) ∧ Sep h h' [ownSl si_Lint eInt s A]) (orderOf G).length
      ⟨0, A, rfl, by omega, by omega, hA, fun k hk => by rw [hall k hk (by omega)]; simp, S⟩ ?_
    clear S hall hA hsl
    rintro m _ t h3 ⟨j, A, rfl, hj, rfl, hA, hall, S⟩
    refine ifB_intro (fun hc => ?_) (fun hc => ?_)
    · have hjl : j < (orderOf G).length := by rw [hol] at hc; simpa using hc
      obtain ⟨x, hx, hxn⟩ := order_in hjl
      refine idx_rdN ho rfl hjl fun p _ hp => ld_oneB hp S.old ?_
      rw [hx]
      have hxA : x < A.length := by omega
      refine idx_rdN S.rd rfl hxA fun p2 hat _ => ?_
      refine st_flat S (x := (j : Int)) (own_int _) hat rfl hxA fun h4 S4 => ?_
      refine ar_i64 (by omega) (by omega) ⟨(orderOf G).length - (j + 1), by omega, j + 1, _, rfl, by omega, rfl, by simpa using hA, fun k hk => ?_, S4⟩
      rw [List.take_succ_eq_append_getElem hjl, hx, List.getElem_set]
      by_cases e : x = k
      · subst e
        obtain ⟨_, hr⟩ := rk_at hjl hx
        simp [hr]
      · rw [if_neg e, hall k (by simpa using hk)]
        have : ((k : Int) ∈ (orderOf G).take j ++ [(x : Int)]) ↔ (k : Int) ∈ (orderOf G).take j := by
          rw [List.mem_append, List.mem_singleton]
          exact ⟨fun h => h.resolve_right fun h => e (by omega), .inl⟩
        by_cases hm : (k : Int) ∈ (orderOf G).take j
        · rw [if_pos hm, if_pos (this.2 hm)]
        · rw [if_neg hm, if_neg fun h => hm (this.1 h)]
    · have hjl : (orderOf G).length ≤ j := by rw [hol] at hc; have := of_decide_eq_false hc; omega
      refine ⟨s, rfl, S.cast ?_⟩
      congr 2
      refine List.ext_getElem (by rw [hA, rankL_len]) fun k h1 h2 => ?_
      rw [hall k h1, List.take_of_length_le hjl]
      by_cases hr : Rch G k
      · rw [rankL_at h2 hr, if_pos ((reach_order k).1 hr)]
      · rw [rankL_no h2 hr, if_neg fun h => hr ((reach_order k).2 h)]

theorem meet_calls {h : Heap} {near rank : Sl} {G : Graph} {cur : List Int} {pr : Nat → Prop} {N : Nat → Nat} (hnear : rdSl eInt h near cur) (hrank : rdSl eInt h rank (rankL G)) (hN : NL G pr N cur) (t : TN G (rkOf G) pr N)
    {a b : Nat} (ha : Rch G a) (hb : Rch G b) (pa : pr a) (pb : pr b) :
    ACalls Try.prog F_dom_meet [near.v, rank.v, .int .i64 (a : Int), .int .i64 (b : Int)] h (fun v h' => h' = h ∧ ∃ c : Nat, v = .int .i64 (c : Int) ∧ Rch G c ∧ pr c ∧ ∀ x, Anc N x c ↔ Anc N x a ∧ Anc N x b) := by
  refine dom_meet_of ?_
  unfold dom_meet
  have R := rk_ok G
  have hrl := rankL_len G
  have hcl := hN.1
  refine loop_intro (fun m (q : Int × Int) h' => ∃ a' b' : Nat, q = ((a' : Int), (b' : Int)) ∧ h = h' ∧ m = rkOf G a' + rkOf G b' ∧ Rch G a' ∧ Rch G b' ∧ pr a' ∧ pr b' ∧ ∀ x, (Anc N x a' ∧ Anc N x b') ↔ (Anc N x a ∧ Anc N x b)) (rkOf G a + rkOf G b)
    ⟨a, b, rfl, rfl, rfl, ha, hb, pa, pb, fun _ => Iff.rfl⟩ ?_
  rintro _ _ _ _ ⟨a', b', rfl, rfl, rfl, ha', hb', pa', pb', heq⟩
  simp only
  refine ifB_intro (fun hc => ?_) (fun hc => ?_)
  case refine_2 =>
    have e : a' = b' := by
      have : (a' : Int) = b' := by simpa using hc
      omega
    subst e
    exact ⟨trivial, a', rfl, ha', pa', fun x => by rw [← heq]; exact ⟨fun h => ⟨h, h⟩, fun h => h.1⟩⟩
  have hab : a' ≠ b' := fun e => by subst e; simp at hc
  have rd : ∀ (x : Nat) (K : Int → Prop), Rch G x → K (rkOf G x) → idx 1 rank (x : Int) fun p => ld (.int .i64) h p K := fun x K hx hK => by
    have hxl : x < (rankL G).length := by rw [hrl]; exact hx.lt
    refine idx_rdN hrank rfl hxl fun p _ hp => ld_one hp ?_
    rw [rankL_at hxl hx]; exact hK
  have nr : ∀ (x : Nat) (K : Int → Prop), Rch G x → pr x → K (N x) → idx 1 near (x : Int) fun p => ld (.int .i64) h p K := fun x K hx px hK => by
    have hxl : x < cur.length := by rw [hcl]; exact hx.lt
    refine idx_rdN hnear rfl hxl fun p _ hp => ld_one hp ?_
    rw [(hN.2 x hxl).1 hx px]; exact hK
  have up : ∀ x y, Rch G x → pr x → Rch G y → pr y → rkOf G y < rkOf G x → (x ≠ 0 ∧ Rch G (N x) ∧ pr (N x) ∧ rkOf G (N x) < rkOf G x ∧ ∀ z, (Anc N z x ∧ Anc N z y) ↔ (Anc N z (N x) ∧ Anc N z y)) := fun x y hx px hy py hlt => by
    have h0 : x ≠ 0 := fun e => by
      subst e
      by_cases ey : y = 0
      · subst ey; omega
      · have := R.least y hy ey; omega
    obtain ⟨c1, c2, c3, _⟩ := t x hx px h0
    refine ⟨h0, c1, c2, c3, fun z => ⟨fun ⟨h1, h2⟩ => ⟨?_, h2⟩, fun ⟨h1, h2⟩ => ⟨.up h0 h1, h2⟩⟩⟩
    have := (h2.ok t hy py).2.2.1
    exact (h1.strict fun e => by subst e; omega).2
  refine loop_intro (fun m (q : Int) h' => ∃ a2 : Nat, q = a2 ∧ h = h' ∧ m = rkOf G a2 ∧ Rch G a2 ∧ pr a2 ∧ (a2 = a' ∨ rkOf G a2 < rkOf G a') ∧ ∀ x, (Anc N x a2 ∧ Anc N x b') ↔ (Anc N x a ∧ Anc N x b)) (rkOf G a')
    ⟨a', rfl, rfl, rfl, ha', pa', .inl rfl, heq⟩ ?_
  rintro _ _ _ _ ⟨a2, rfl, rfl, rfl, ha2, pa2, hor, heq2⟩
  refine rd a2 _ ha2 (rd b' _ hb' ?_)
  refine ifB_intro (fun hc => ?_) (fun hc => ?_)
  · have hlt : rkOf G b' < rkOf G a2 := by have := of_decide_eq_true hc; omega
    obtain ⟨h0, c1, c2, c3, c4⟩ := up a2 b' ha2 pa2 hb' pb' hlt
    refine nr a2 _ ha2 pa2 ⟨rkOf G (N a2), c3, N a2, rfl, rfl, rfl, c1, c2, .inr ?_, fun x => by rw [← heq2, c4]⟩
    rcases hor with h | h
    · subst h; exact c3
    · omega
  · have hle : rkOf G a2 ≤ rkOf G b' := by have := of_decide_eq_false hc; omega
    refine loop_intro (fun m (q : Int) h' => ∃ b2 : Nat, q = b2 ∧ h = h' ∧ m = rkOf G b2 ∧ Rch G b2 ∧ pr b2 ∧ (b2 = b' ∨ rkOf G b2 < rkOf G b') ∧ ∀ x, (Anc N x a2 ∧ Anc N x b2) ↔ (Anc N x a ∧ Anc N x b)) (rkOf G b')
      ⟨b', rfl, rfl, rfl, hb', pb', .inl rfl, heq2⟩ ?_
    rintro _ _ _ _ ⟨b2, rfl, rfl, rfl, hb2, pb2, horb, heq3⟩
    refine rd b2 _ hb2 (rd a2 _ ha2 ?_)
    refine ifB_intro (fun hc => ?_) (fun hc => ?_)
    · have hlt : rkOf G a2 < rkOf G b2 := by have := of_decide_eq_true hc; omega
      obtain ⟨h0, c1, c2, c3, c4⟩ := up b2 a2 hb2 pb2 ha2 pa2 hlt
      refine nr b2 _ hb2 pb2 ⟨rkOf G (N b2), c3, N b2, rfl, rfl, rfl, c1, c2, .inr ?_, fun x => ?_⟩
      · rcases horb with h | h
        · subst h; exact c3
        · omega
      · rw [← heq3]
        have := c4 x
        constructor
        · rintro ⟨h1, h2⟩; have := this.2 ⟨h2, h1⟩; exact ⟨this.2, this.1⟩
        · rintro ⟨h1, h2⟩; have := this.1 ⟨h2, h1⟩; exact ⟨this.2, this.1⟩
    · have hle2 : rkOf G b2 ≤ rkOf G a2 := by have := of_decide_eq_false hc; omega
      refine ⟨_, ?_, a2, b2, rfl, rfl, rfl, ha2, hb2, pa2, pb2, heq3⟩
      rcases hor with h | h
      · rcases horb with h' | h'
        · subst h h'
          exact absurd (R.inj _ _ ha' hb' (by omega)) hab
        · subst h; omega
      · rcases horb with h' | h'
        · subst h'; omega
        · omega

end Go.Proofs.Ytniflhbfnkadhaa
