/-
  The laws of layer 11: LoopsKeeps.
-/
import Derived.Test.YtniflhbfnkadhaaFnLoopsLaw2
namespace Go.Proofs.Ytniflhbfnkadhaa
open Go.Fw Go.Pl

theorem unloop {h0 h : Heap} {L : List As} {xs : List Value} {x : Loop} (S : Sep h0 h (ownEl eLoop xs x :: L)) :
    ∃ s t : Sl, xs = [.int .i64 x.1, s.v, t.v] ∧ Sep h0 h (ownSl si_Lint eInt s x.2.1 :: ownSl si_Lint eInt t x.2.2 :: L) := by
  obtain ⟨f, ⟨f1, f2, rfl, h1, ho⟩, hn, hb⟩ := S.owns
  obtain ⟨x1, x2, g1, g2, rfl, rfl, ⟨rfl, rfl⟩, y1, y2, k1, k2, rfl, rfl, ⟨s, rfl, hs⟩, ⟨t, rfl, ht⟩⟩ := h1
  refine ⟨s, t, rfl, S.old, fun A hA => ?_, ([] ++ (k1 ++ k2)) ++ f2, ⟨k1, k2 ++ f2, by simp, hs, k2, f2, rfl, ht, ho⟩, hn, hb⟩
  rcases List.mem_cons.1 hA with rfl | hA
  · exact loc_ownSl
  · rcases List.mem_cons.1 hA with rfl | hA
    · exact loc_ownSl
    · exact S.all A (by simp [hA])
theorem st_loop1 {si : SlI} {h0 h : Heap} {L : List As} {s : Sl} {ll : List Loop} {i k : Nat} {x : Int} {K : Heap → Prop}
    (S : Sep h0 h (ownSl si eLoop s ll :: L)) (hi : i < ll.length) (hk : k < ll[i].2.1.length)
    (hK : ∀ h', Sep h0 h' (ownSl si eLoop s (ll.set i (ll[i].1, ll[i].2.1.set k x, ll[i].2.2)) :: L) → K h') :
    idx 3 s (i : Int) fun p => ld .sl h (p.add 1) fun y => idx 1 y (k : Int) fun p3 => st [.int .i64 x] h p3 K := by
  refine idx_rdN S.rd rfl hi fun p hat _ => ?_
  obtain ⟨xs, hc, S2⟩ := (Sep.raw.2 S).away (i := i) (x := ll[i]) (by simpa using hi) (by simp)
  obtain ⟨y, z, rfl, S3⟩ := unloop S2.swap
  refine ld_one (k := .sl) (x := y) (hc p hat 1 y.v rfl) ?_
  refine idx_rdN S3.rd rfl hk fun p3 hat3 _ => ?_
  refine st_flat (x := x) S3 (own_int x) hat3 rfl hk fun h' S4 => hK h' ?_
  have S5 := (own_loop (a := ll[i].1) S4).swap.back (i := i) (by simpa using hi) (by simp)
  refine Sep.raw.1 (S5.cast ?_)
  congr 2
  rw [List.set_set, List.map_set]
theorem st_loop2 {si : SlI} {h0 h : Heap} {L : List As} {s : Sl} {ll : List Loop} {i k : Nat} {x : Int} {K : Heap → Prop}
    (S : Sep h0 h (ownSl si eLoop s ll :: L)) (hi : i < ll.length) (hk : k < ll[i].2.2.length)
    (hK : ∀ h', Sep h0 h' (ownSl si eLoop s (ll.set i (ll[i].1, ll[i].2.1, ll[i].2.2.set k x)) :: L) → K h') :
    idx 3 s (i : Int) fun p => ld .sl h (p.add 2) fun y => idx 1 y (k : Int) fun p3 => st [.int .i64 x] h p3 K := by
  refine idx_rdN S.rd rfl hi fun p hat _ => ?_
  obtain ⟨xs, hc, S2⟩ := (Sep.raw.2 S).away (i := i) (x := ll[i]) (by simpa using hi) (by simp)
  obtain ⟨y, z, rfl, S3⟩ := unloop S2.swap
  refine ld_one (k := .sl) (x := z) (hc p hat 2 z.v rfl) ?_
  refine idx_rdN S3.swap.rd rfl hk fun p3 hat3 _ => ?_
  refine st_flat (x := x) S3.swap (own_int x) hat3 rfl hk fun h' S4 => hK h' ?_
  have S5 := (own_loop (a := ll[i].1) S4.swap).swap.back (i := i) (by simpa using hi) (by simp)
  refine Sep.raw.1 (S5.cast ?_)
  congr 2
  rw [List.set_set, List.map_set]

theorem loopsKeeps_calls {h : Heap} {g : Sl} {G : Graph} (hg : rdSl eInts h g G) :
    ACalls Try.prog F_lateenlaw11_LoopsKeeps [g.v] h (fun v h' => v = .bool true ∧ Old h h') := by
  refine lateenlaw11_LoopsKeeps_of ?_
  unfold lateenlaw11_LoopsKeeps
  have hl := hg.lenEq
  intro k hk
  refine awake11_calls.mono ?_
  rintro v h1 ⟨rfl, o1⟩
  refine ⟨_, rfl, ifB_false rfl ?_⟩
  have g1 := hg.old o1
  refine (few11_calls g1).mono ?_
  rintro v h2 ⟨rfl, rfl⟩
  refine ⟨_, rfl, hk _ _ fun _ => ?_⟩
  refine ifB_intro (fun _ => awake11_end o1) (fun hc => ?_)
  have hfew : fewB G 18 = true := by simpa using hc
  have hn : G.length ≤ 1000 := by have := few_le hfew; omega
  have hrows := few_rows hfew
  refine loop_intro (fun m (t : Sl × Int) h3 => ∃ j : Nat, t.2 = j ∧ j ≤ G.length ∧ m = G.length - j ∧ Sep h2 h3 [ownSl si_LLint eInts t.1 (G.take j)]) G.length ⟨0, rfl, by omega, by omega, (Sep.start h2).nil rfl⟩ ?_
  rintro _ _ ⟨was, i⟩ h3 ⟨j, hj0, hj, rfl, S⟩
  simp only at hj0 S ⊢
  subst hj0
  refine ifB_intro (fun hc => ?_) (fun hc => ?_)
  · have hjl : j < G.length := by rw [hl] at hc; simpa using hc
    refine lit_ints [] S (by kernel_rfl) rfl (by decide) fun s h4 S4 => ?_
    refine idx_rdN g1 rfl hjl fun p _ hp => ld_slB hp S4.old fun x hx => ?_
    have hrow := few_row hfew hjl
    refine app_copy S4 flat_int (hx.old S4.old) (by simp only [si_Lint, List.length_nil]; omega) (by simp only [List.length_nil]; omega) fun s1 h5 S5 => ?_
    refine app1_rule (x := G[j]) (S5.toEl.swap) rfl (by decide) (by simp only [si_LLint, List.length_take]; omega) (by simp only [List.length_take]; omega) fun s3 h7 S7 => ?_
    refine ar_i64 (by omega) (by omega) ⟨G.length - (j + 1), by omega, j + 1, rfl, by omega, rfl, ?_⟩
    rw [List.take_succ_eq_append_getElem hjl]
    exact S7
  · have hjG : G.length = j := by rw [hl] at hc; simp at hc; omega
    rw [List.take_of_length_le (by omega)] at S
    refine (loopsAll_calls (g1.old S.old) hn).mono ?_
    rintro v h4 ⟨r1, rfl, T1⟩
    refine ⟨r1, rfl, ?_⟩
    have S1 := S.frame T1
    clear S T1
    have hll := loopsF_len G
    refine loop_intro (fun m (t : Int) h6 => ∃ (i : Nat) (P : List Loop), t = i ∧ i ≤ P.length ∧ P.length ≤ G.length ∧ (∀ x ∈ P, x.2.1.length ≤ 1000 ∧ x.2.2.length ≤ 1000) ∧ m = P.length - i ∧
      Sep h2 h6 [ownSl si_Lloops_Loop eLoop r1 P, ownSl si_LLint eInts was G]) (loopsF G).length
      ⟨0, loopsF G, rfl, by omega, hll, fun x hx => ?_, by omega, S1⟩ ?_
    · obtain ⟨i, hi, rfl⟩ := List.getElem_of_mem hx
      obtain ⟨d, _, _, e⟩ := loopsF_at hi
      rw [e]
      simp only [ints_len]
      refine ⟨Nat.le_trans (List.length_filter_le _ _) (by simpa using hn), Nat.le_trans (List.length_filter_le _ _) (by simpa using hn)⟩
    clear S1
    rintro _ _ t h6 ⟨i, P, rfl, hi, hP, hPr, rfl, S⟩
    have hrl := S.rd.lenEq
    refine ifB_intro (fun hc => ?_) (fun hc => ?_)
    · have hil : i < P.length := by rw [hrl] at hc; simpa using hc
      refine loop_intro (fun m (t : Int) h7 => ∃ (k : Nat) (P' : List Loop), t = k ∧ P'.length = P.length ∧ (∀ x ∈ P', x.2.1.length ≤ 1000 ∧ x.2.2.length ≤ 1000) ∧ m = 1000 - k ∧ k ≤ 1000 ∧
        Sep h2 h7 [ownSl si_Lloops_Loop eLoop r1 P', ownSl si_LLint eInts was G]) 1000
        ⟨0, P, rfl, rfl, hPr, by omega, by omega, S⟩ ?_
      clear S
      rintro _ _ t h7 ⟨k, P', rfl, hP', hPr', rfl, hk1000, S⟩
      have hil' : i < P'.length := by omega
      refine idx_rdN S.rd rfl hil' fun p hat hp => ld_sl (loop_rd hat.1 hp).2.1 fun x1 hx1 => ?_
      have hx1l := hx1.lenEq
      have hb := hPr' _ (List.getElem_mem hil')
      refine ifB_intro (fun hc => ?_) (fun hc => ?_)
      · have hkl : k < P'[i].2.1.length := by rw [hx1l] at hc; simpa using hc
        refine st_loop1 (x := (-7 : Int)) S hil' hkl fun h8 S8 => ?_
        refine ar_i64 (by omega) (by omega) ⟨1000 - (k + 1), by omega, k + 1, _, rfl, by simpa using hP', ?_, rfl, by omega, S8⟩
        intro x hx
        rcases List.mem_or_eq_of_mem_set hx with hx | rfl
        · exact hPr' x hx
        · simpa using hb
      · clear hx1 hx1l hc
        refine loop_intro (fun m (t : Int) h7 => ∃ (k : Nat) (P' : List Loop), t = k ∧ P'.length = P.length ∧ (∀ x ∈ P', x.2.1.length ≤ 1000 ∧ x.2.2.length ≤ 1000) ∧ m = 1000 - k ∧ k ≤ 1000 ∧
          Sep h2 h7 [ownSl si_Lloops_Loop eLoop r1 P', ownSl si_LLint eInts was G]) 1000
          ⟨0, P', rfl, hP', hPr', by omega, by omega, S⟩ ?_
        clear S hb
        rintro _ _ t h7 ⟨k, P', rfl, hP', hPr', rfl, hk1000, S⟩
        have hil' : i < P'.length := by omega
        refine idx_rdN S.rd rfl hil' fun p hat hp => ld_sl (loop_rd hat.1 hp).2.2 fun x1 hx1 => ?_
        have hx1l := hx1.lenEq
        have hb := hPr' _ (List.getElem_mem hil')
        refine ifB_intro (fun hc => ?_) (fun hc => ?_)
        · have hkl : k < P'[i].2.2.length := by rw [hx1l] at hc; simpa using hc
          refine st_loop2 (x := (-7 : Int)) S hil' hkl fun h8 S8 => ?_
          refine ar_i64 (by omega) (by omega) ⟨1000 - (k + 1), by omega, k + 1, _, rfl, by simpa using hP', ?_, rfl, by omega, S8⟩
          intro x hx
          rcases List.mem_or_eq_of_mem_set hx with hx | rfl
          · exact hPr' x hx
          · simpa using hb
        · refine ar_i64 (by omega) (by omega) ⟨P'.length - (i + 1), by omega, i + 1, P', rfl, by omega, by omega, hPr', rfl, S⟩
    · intro kk hkk
      have S := S.swap
      refine (sameLists_calls (g1.old S.old) S.rd).mono ?_
      rintro v h8 ⟨rfl, rfl⟩
      refine ⟨_, rfl, ifB_true (by simp) ?_⟩
      refine (loopsAll_calls (g1.old S.old) hn).mono ?_
      rintro v h9 ⟨r5, rfl, T5⟩
      refine ⟨r5, rfl, ?_⟩
      refine (back_calls T5.rd (by omega)).mono ?_
      rintro v h10 ⟨r6, rfl, hr6, o10⟩
      refine ⟨r6, rfl, ?_⟩
      have o10' := S.old.trans (T5.old.trans o10)
      refine (refLoops_calls (g1.old o10') hn hrows).mono ?_
      rintro v h11 ⟨r7, rfl, T11⟩
      refine ⟨r7, rfl, ?_⟩
      refine (loopsSame_calls (hr6.old T11.old) T11.rd).mono ?_
      rintro v h12 ⟨rfl, rfl⟩
      exact ⟨_, rfl, hkk _ _ fun _ => ⟨by simp, o1.trans (o10'.trans T11.old)⟩⟩

end Go.Proofs.Ytniflhbfnkadhaa
