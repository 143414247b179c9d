/-
  calls: the whole walk; Parts, Round, Order.
-/
import Derived.Test.YtjpjnpbjalmhiaaPlLeft
import Derived.Test.YtjpjnpbjalmhiaaFnCalls3
namespace Go.Proofs.Ytjpjnpbjalmhiaa
open Go.Fw Go.Pl

def ptrV (cs : Array Value) (v : Value) : As := fun h f => ∃ p, v = .pointer (some p) ∧ rawB p cs h f
def specP (cs : Array Value) : Fw.Spec := ⟨fun v => [ptrV cs v], fun v => ∃ p, v = .pointer (some p)⟩
theorem loc_ptrV {cs : Array Value} {v : Value} : Fw.Loc (ptrV cs v) := by
  rintro h h' f ⟨p, e, o⟩ hb
  exact ⟨p, e, loc_rawB o hb⟩
theorem Sep.ofP {h0 h : Heap} {L : List As} {p : Addr} {cs : Array Value} (S : Fw.Sep h0 h (ptrV cs (.pointer (some p)) :: L)) : Fw.Sep h0 h (rawB p cs :: L) :=
  S.conv loc_rawB fun f ⟨p', e, o⟩ => ⟨f, List.Sublist.refl f, by injection e with e; injection e with e; rw [e]; exact o⟩
theorem Sep.toP {h0 h : Heap} {L : List As} {p : Addr} {cs : Array Value} (S : Fw.Sep h0 h (rawB p cs :: L)) : Fw.Sep h0 h (ptrV cs (.pointer (some p)) :: L) :=
  S.conv loc_ptrV fun f o => ⟨f, List.Sublist.refl f, p, rfl, o⟩
theorem free_new {cs : Array Value} {t : TypeId} {hb : Heap} {K : Value → Prop} (hK : ∀ p : Addr, K (.pointer (some p))) :
    freeW (Old hb) hb (specP cs) [] (fun h K => new t cs h fun p h' => K (.pointer (some p)) h') K :=
  ⟨⟨.pointer (some ⟨0, 0, none⟩), _, rfl⟩, fun h X _ S => new_rawB S fun p h' _ S' => ⟨S'.old, ⟨p, rfl⟩, Sep.toP S'⟩, fun v ⟨p, e⟩ => by rw [e]; exact hK p⟩

def PartsP (G : Graph) (Pt : List Int) : Prop := Pt.length = G.length ∧ ∀ v (hv : v < Pt.length), ∃ c : Nat, Pt[v] = c ∧ Mut G v c ∧ ∀ d, Mut G v d → c ≤ d
def RoundP (G : Graph) (Rd : List Bool) : Prop := Rd.length = G.length ∧ ∀ v (hv : v < Rd.length), Rd[v] = true ↔ Cyc G v
theorem PartsP.unique {G : Graph} {A B : List Int} (h : PartsP G A) (k : PartsP G B) : A = B := by
  refine List.ext_getElem (by rw [h.1, k.1]) fun v h1 h2 => ?_
  obtain ⟨c, e1, m1, l1⟩ := h.2 v h1
  obtain ⟨d, e2, m2, l2⟩ := k.2 v h2
  have := l1 d m2
  have := l2 c m1
  rw [e1, e2]; omega
theorem RoundP.unique {G : Graph} {A B : List Bool} (h : RoundP G A) (k : RoundP G B) : A = B := by
  refine List.ext_getElem (by rw [h.1, k.1]) fun v h1 h2 => ?_
  have := (h.2 v h1).trans (k.2 v h2).symm
  cases e1 : A[v] <;> cases e2 : B[v] <;> simp_all

theorem cwalk_calls {h : Heap} {g : Sl} {G : Graph} (hg : rdSl eInts h g G) (hn : G.length ≤ 1000) :
    ACalls Try.prog F_calls_walk [g.v] h (fun v h' => ∃ (p : Addr) (r l pt o lf rd : Sl) (R L Pt : List Int) (Rd : List Bool), v = .pointer (some p) ∧ PartsP G Pt ∧ RoundP G Rd ∧
      Fw.Sep h h' (WL p g r l pt o lf rd R L Pt [] (leftA G) Rd [])) := by
  refine calls_walk_of ?_
  unfold calls_walk
  have hl := hg.lenEq
  rw [hl]
  refine ⟨Old h, h, [], fun n args => if n = 2 then Fw.Spec.sl si_Lint eInt (List.replicate G.length 0) else if n = 4 then Fw.Spec.sl si_Lint eInt (List.replicate G.length 0) else if n = 6 then Fw.Spec.sl si_Lint eInt (List.replicate G.length 0) else
    if n = 8 then Fw.Spec.sl si_Lbool eBool (List.replicate G.length false) else match args with | [.agg c] => specP c | _ => Fw.Spec.val undef, .refl _, Sep.start _, ?_⟩
  have mkI : ∀ (K : Value → Prop), (∀ s : Sl, K s.v) → freeW (Old h) h (Fw.Spec.sl si_Lint eInt (List.replicate G.length 0)) [] (fun h_2 Kv => (G.length : Int) = (G.length : Int) ∧ mk si_Lint (G.length : Int) h_2 fun s h_3 => Kv s.v h_3) K := fun K hK =>
    free_sl (fun h' X S => ⟨rfl, mk_rule (x := (0 : Int)) (E := eInt) S rfl (fun h => own_int 0 h) (by omega) (by omega) (by simp only [si_Lint]; omega) fun s h'' S' => ⟨s, rfl, by rw [Int.toNat_natCast] at S'; exact S'⟩⟩)
      (fun {h K K'} hK hm => ⟨hK.1, hK.2.1, hK.2.2.1, hK.2.2.2.1, hm _ _ hK.2.2.2.2⟩) hK
  refine mkI _ fun r => ⟨r, rfl, ?_⟩
  refine mkI _ fun l => ⟨l, rfl, ?_⟩
  refine mkI _ fun pt => ⟨pt, rfl, ?_⟩
  refine free_sl (fun h' X S => ⟨rfl, mk_rule (x := false) (E := eBool) S rfl (fun h => own_bool false h) (by omega) (by omega) (by simp only [si_Lbool]; omega) fun s h'' S' => ⟨s, rfl, by rw [Int.toNat_natCast] at S'; exact S'⟩⟩)
      (fun {h K K'} hK hm => ⟨hK.1, hK.2.1, hK.2.2.1, hK.2.2.2.1, hm _ _ hK.2.2.2.2⟩) fun rd => ⟨rd, rfl, ?_⟩
  refine ⟨wcells g r l pt ⟨none, 0, 0⟩ ⟨none, 0, 0⟩ rd, by kernel_rfl, ?_⟩
  refine free_new fun p => ⟨some p, rfl, ?_⟩
  intro h12 _ S
  have S1 := Sep.push [_, _, _, _] (Sep.ofP (Sep.pull [_, _, _, _] S))
  have S2 := Sep.push [_, _, _] (Sep.ofV (Sep.pull [_, _, _] S1))
  have S3 := Sep.push [_, _] (Sep.ofV (Sep.pull [_, _] S2))
  have S4 := Sep.push [_] (Sep.ofV (Sep.pull [_] S3))
  have S5 := Sep.ofV S4
  -- box, ranks, lows, parts, what is open, what is left, what goes round
  have S6 : Fw.Sep h h12 (WL p g r l pt ⟨none, 0, 0⟩ ⟨none, 0, 0⟩ rd (List.replicate G.length 0) (List.replicate G.length 0) (List.replicate G.length 0) [] [] (List.replicate G.length false) []) := by
    have T1 := Sep.pull [_, _, _, _] S5
    have T2 := Sep.push [_, _, _, _] (Fw.Sep.nil (si := si_Lint) (E := eInt) T1 rfl)
    exact Sep.push [_, _, _, _] (Fw.Sep.nil (si := si_Lint) (E := eInt) T2 rfl)
  clear S S1 S2 S3 S4 S5
  refine nilck_some ?_
  refine ld_rawB (x := pt) S6 rfl rfl ?_
  have hptl := (Sep.pull [_, _, _] S6).rd.lenEq
  rw [List.length_replicate] at hptl
  refine loop_intro (fun m (t : Int) h' => ∃ (j : Nat) (A : List Int), t = j ∧ j ≤ G.length ∧ m = G.length - j ∧ A.length = G.length ∧ (∀ i (hi : i < A.length), i < j → A[i] = -1) ∧
      Fw.Sep h h' (WL p g r l pt ⟨none, 0, 0⟩ ⟨none, 0, 0⟩ rd (List.replicate G.length 0) (List.replicate G.length 0) A [] [] (List.replicate G.length false) [])) G.length
    ⟨0, _, rfl, by omega, by omega, by simp, fun i hi h => by omega, S6⟩ ?_
  clear S6
  rintro _ _ t h13 ⟨j, A, rfl, hj, rfl, hA, hall, S⟩
  refine ifB_intro (fun hc => ?_) (fun hc => ?_)
  · have hjl : j < A.length := by rw [hptl] at hc; have := of_decide_eq_true hc; omega
    refine nilck_some ?_
    refine ld_rawB (x := pt) S rfl rfl ?_
    refine idx_rdN (Sep.pull [_, _, _] S).rd rfl hjl fun p3 hat _ => ?_
    refine st_flat (Sep.pull [_, _, _] S) (x := (-1 : Int)) (own_int (-1)) hat rfl hjl fun h14 S14 => ?_
    refine ar_i64 (by omega) (by omega) ⟨G.length - (j + 1), by omega, j + 1, _, rfl, by omega, rfl, by simpa using hA, fun i hi hlt => ?_, Sep.push [_, _, _] S14⟩
    rw [List.getElem_set]
    split
    · rfl
    · exact hall i (by simpa using hi) (by omega)
  have hjl : G.length ≤ j := by rw [hptl] at hc; have := of_decide_eq_false hc; omega
  have hrep : ∀ (x : Int) v, v < G.length → (List.replicate G.length x).getD v 0 = x := fun x v hv => by simp [List.getD_eq_getElem?_getD, List.getElem?_replicate, hv]
  have hrepB : ∀ v, (List.replicate G.length false).getD v false = false := fun v => by simp [List.getD_eq_getElem?_getD, List.getElem?_replicate]; split <;> rfl
  have w0 : WS G ⟨fun _ => 0, fun _ => 0, fun _ => -1, fun _ => false, [], [], 0⟩ (List.replicate G.length 0) (List.replicate G.length 0) A (List.replicate G.length false) (List.replicate G.length false) :=
    ⟨by simp, by simp, hA, by simp, by simp, fun v hv => hrep 0 v hv, fun v hv => hrep 0 v hv, fun v hv => by rw [getD_lt (by omega), hall v (by omega) (by omega)], fun v _ => hrepB v, fun v _ => ⟨fun _ => rfl, fun _ => hrepB v⟩, Nat.le_refl _, by
      show 0 + open' _ = _
      unfold open'; simp⟩
  have t0 : TI G ⟨fun _ => 0, fun _ => 0, fun _ => -1, fun _ => false, [], [], 0⟩ := TI.start (fun _ => rfl) (fun _ => by decide) (fun _ => rfl)
  refine loop_intro (fun m (q : Int × Int) h' => ∃ (j : Nat) (T : TS) (R L Pt LF : List Int) (Rd M : List Bool) (o lf : Sl), q.2 = j ∧ j ≤ G.length ∧ m = G.length - j ∧ q.1 = (T.m : Int) ∧ TI G T ∧ T.st = [] ∧ WS G T R L Pt Rd M ∧ (M, LF) = allDn G j ∧
      LF.length + open' M = G.length ∧ (∀ v, v < j → T.rank v ≠ 0) ∧ Fw.Sep h h' (WL p g r l pt o lf rd R L Pt (castL T.O) LF Rd [])) G.length
    ⟨0, _, _, _, _, _, _, _, _, _, rfl, by omega, by omega, rfl, t0, rfl, w0, rfl, by unfold open'; simp, fun v hv => by omega, S⟩ ?_
  clear S w0 t0 hall hA hptl
  rintro _ _ ⟨mk, j⟩ h15 ⟨j, T, R, L, Pt, LF, Rd, M, o, lf, hj0, hj, rfl, hm0, t, hst, w, hall, hcnt, hvis, S⟩
  simp only at hj0 hm0 ⊢
  subst hj0 hm0
  refine ifB_intro (fun hc => ?_) (fun hc => ?_)
  · have hjl : j < G.length := by simpa using hc
    have hjR : j < R.length := by rw [w.lR]; exact hjl
    have hRj : R[j] = (T.rank j : Int) := by rw [← getD_lt hjR, w.r j hjl]
    have e1 : (allDn G j).1 = M := by rw [← hall]
    have e2 : (allDn G j).2 = LF := by rw [← hall]
    intro k1 hk1
    refine nilck_some ?_
    refine ld_rawB (x := r) S rfl rfl ?_
    refine idx_rdN (Sep.pull [_] S).rd rfl hjR fun p5 _ hp5 => ld_one hp5 ?_
    rw [hRj]
    refine ifB_intro (fun hz => ?_) (fun hnz => ?_)
    · have hz0 : T.rank j = 0 := by
        have : (T.rank j : Int) = 0 := by simpa using hz
        omega
      have hMj := (w.k j hjl).2 hz0
      refine (wdown_calls (T := T) hg hn S t hst w hjl hz0 hcnt).mono ?_
      rintro v h17 ⟨T', R', L', Pt', LF', Rd', M', o', lf', rfl, t', hst', w', hdn, hcnt', S'⟩
      refine ⟨_, rfl, hk1 _ _ fun _ => ar_i64 (by omega) (by omega) ⟨G.length - (j + 1), by omega, j + 1, T', R', L', Pt', LF', Rd', M', o', lf', rfl, by omega, rfl, rfl, t', hst', w', ?_, hcnt', fun v hv => ?_, S'⟩⟩
      · rw [allDn_succ, e1, e2, if_pos hMj, ← hdn]
      · have hvn : v < G.length := by omega
        intro hz'
        have hM' := (w'.k v hvn).2 hz'
        have e3 : M' = (dn G G.length j M LF).1 := by rw [← hdn]
        by_cases e : v = j
        · subst e
          obtain ⟨new, hA, _⟩ := dn_adds G (fun _ => True) G.length v (M, LF) w.lM hjl hMj (by have := w.cnt; simp only; omega) trivial
          have := hA.marks v
          rw [← e3, hM'] at this
          simp at this
        · have hMv : M.getD v false = true := by
            cases hh : M.getD v false with
            | true => rfl
            | false => exact absurd ((w.k v hvn).1 hh) (hvis v (by omega))
          have := (dn_grows G G.length j (M, LF)).mark v hMv
          rw [← e3, hM'] at this
          cases this
    · have hnz0 : T.rank j ≠ 0 := fun e => by rw [e] at hnz; simp at hnz
      refine hk1 _ _ fun _ => ar_i64 (by omega) (by omega) ⟨G.length - (j + 1), by omega, j + 1, T, R, L, Pt, LF, Rd, M, o, lf, rfl, by omega, rfl, rfl, t, hst, w, ?_, hcnt, fun v hv => ?_, S⟩
      · rw [allDn_succ, e1, if_neg fun h => hnz0 ((w.k j hjl).1 h)]; exact hall
      · by_cases e : v = j
        · subst e; exact hnz0
        · exact hvis v (by omega)
  · have hjl : j = G.length := by have : G.length ≤ j := by simpa using hc
                                  omega
    subst hjl
    have hO := t.empty hst
    have hpos : ∀ v, v < G.length → 0 ≤ T.part v := fun v hv => by
      rcases Int.lt_or_le (T.part v) 0 with h | h
      · have := (t.op v).2 ⟨hvis v hv, h⟩
        rw [hO] at this; cases this
      · exact h
    have e2 : LF = leftA G := by unfold leftA; rw [← hall]
    refine ⟨p, r, l, pt, o, lf, rd, R, L, Pt, Rd, rfl, ⟨w.lP, fun v hv => ?_⟩, ⟨w.lD, fun v hv => ?_⟩, ?_⟩
    · have hvn : v < G.length := by rw [← w.lP]; exact hv
      rw [← getD_lt (d := (-1 : Int)) hv, w.p v hvn]
      exact (t.good v (hvis v hvn) (hpos v hvn)).1
    · have hvn : v < G.length := by rw [← w.lD]; exact hv
      rw [← getD_lt (d := false) hv, w.d v hvn]
      exact (t.good v (hvis v hvn) (hpos v hvn)).2
    · rw [hO, e2] at S
      exact S

theorem Sep.only {h0 h : Heap} {A : As} {L : List As} (S : Fw.Sep h0 h (A :: L)) : Fw.Sep h0 h [A] := Fw.Sep.dropLast (L := [A]) (M := L) S

theorem parts_calls {h : Heap} {g : Sl} {G : Graph} (hg : rdSl eInts h g G) (hn : G.length ≤ 1000) :
    ACalls Try.prog F_calls_Parts [g.v] h (fun v h' => ∃ (s : Sl) (Pt : List Int), v = s.v ∧ PartsP G Pt ∧ Fw.Sep h h' [ownSl si_Lint eInt s Pt]) := by
  refine calls_Parts_of ?_
  unfold calls_Parts
  refine (cwalk_calls hg hn).mono ?_
  rintro v h1 ⟨p, r, l, pt, o, lf, rd, R, L, Pt, Rd, rfl, hP, hR, S⟩
  refine ⟨some p, rfl, nilck_some ?_⟩
  refine ld_rawB (x := pt) S rfl rfl ?_
  exact ⟨pt, Pt, rfl, hP, Sep.only (Sep.pull [_, _, _] S)⟩
theorem round_calls {h : Heap} {g : Sl} {G : Graph} (hg : rdSl eInts h g G) (hn : G.length ≤ 1000) :
    ACalls Try.prog F_calls_Round [g.v] h (fun v h' => ∃ (s : Sl) (Rd : List Bool), v = s.v ∧ RoundP G Rd ∧ Fw.Sep h h' [ownSl si_Lbool eBool s Rd]) := by
  refine calls_Round_of ?_
  unfold calls_Round
  refine (cwalk_calls hg hn).mono ?_
  rintro v h1 ⟨p, r, l, pt, o, lf, rd, R, L, Pt, Rd, rfl, hP, hR, S⟩
  refine ⟨some p, rfl, nilck_some ?_⟩
  refine ld_rawB (x := rd) S rfl rfl ?_
  exact ⟨rd, Rd, rfl, hR, Sep.only (Sep.pull [_, _, _, _, _, _] S)⟩
theorem corder_calls {h : Heap} {g : Sl} {G : Graph} (hg : rdSl eInts h g G) (hn : G.length ≤ 1000) :
    ACalls Try.prog F_calls_Order [g.v] h (fun v h' => ∃ s : Sl, v = s.v ∧ Fw.Sep h h' [ownSl si_Lint eInt s (leftA G)]) := by
  refine calls_Order_of ?_
  unfold calls_Order
  refine (cwalk_calls hg hn).mono ?_
  rintro v h1 ⟨p, r, l, pt, o, lf, rd, R, L, Pt, Rd, rfl, hP, hR, S⟩
  refine ⟨some p, rfl, nilck_some ?_⟩
  refine ld_rawB (x := lf) S rfl rfl ?_
  exact ⟨lf, rfl, Sep.only (Sep.pull [_, _, _, _, _] S)⟩

end Go.Proofs.Ytjpjnpbjalmhiaa
