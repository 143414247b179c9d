/-
  The laws of layer 20.
-/
import Derived.Test.YthdidcnpiaeleaaFnCalls6
namespace Go.Proofs.Ythdidcnpiaeleaa
open Go.Fw Go.Pl

theorem mutS {G : Graph} {a b : Nat} (h : Mut G a b) : Mut G b a := ⟨h.2, h.1⟩
theorem mutT {G : Graph} {a b c : Nat} (h : Mut G a b) (k : Mut G b c) : Mut G a c := ⟨h.1.trans k.1, k.2.trans h.2⟩
theorem partsF_len (G : Graph) : (partsF G).length = G.length := by simp [partsF]
theorem roundF_len (G : Graph) : (roundF G).length = G.length := by simp [roundF]
theorem parts_eq {G : Graph} {a b : Nat} (ha : a < (partsF G).length) (hb : b < (partsF G).length) : (partsF G)[a] = (partsF G)[b] ↔ Mut G a b := by
  obtain ⟨c, e1, m1, l1⟩ := (partsF_P G).2 a ha
  obtain ⟨d, e2, m2, l2⟩ := (partsF_P G).2 b hb
  rw [e1, e2]
  constructor
  · intro e
    have : c = d := by omega
    subst this
    exact mutT m1 (mutS m2)
  · intro m
    have := l1 d (mutT m m2)
    have := l2 c (mutT (mutS m) m1)
    omega
theorem parts_le {G : Graph} {a : Nat} (ha : a < (partsF G).length) : (partsF G)[a] ≤ (a : Int) := by
  have := lst_le G a a
  simp only [partsF, List.getElem_map, List.getElem_range]
  omega
theorem mut_cyc {G : Graph} {a b : Nat} (ha : a < G.length) (hne : a ≠ b) (h : Mut G a b) : Cyc G a := by
  obtain ⟨z, h1, h2, h3⟩ := h.1.first hne
  exact ⟨z, h1, h2, h3.trans h.2⟩
theorem leftA_len (G : Graph) : (leftA G).length = G.length := by
  obtain ⟨hp, hall, hnd⟩ := left_says G
  have h2 : ((List.range G.length).map fun (k : Nat) => (k : Int)).Nodup := by
    refine List.Pairwise.map _ (R := (· ≠ ·)) (fun a b h e => h (by omega)) List.nodup_range
  have : (leftA G).Perm ((List.range G.length).map fun (k : Nat) => (k : Int)) := (List.perm_ext_iff_of_nodup hnd h2).2 fun a => by
    constructor
    · intro h
      obtain ⟨j, hj, rfl⟩ := List.getElem_of_mem h
      obtain ⟨x, e, hx, _⟩ := hp j hj
      rw [e]
      exact List.mem_map.2 ⟨x, List.mem_range.2 hx, rfl⟩
    · intro h
      obtain ⟨x, hx, rfl⟩ := List.mem_map.1 h
      exact hall x (List.mem_range.1 hx)
  have := this.length_eq
  simpa using this

theorem lit_bools {h0 h : Heap} {L : List As} {n : Nat} {parts : List (Nat × Value)} (l : List Bool) {K : Sl → Heap → Prop} (S : Fw.Sep h0 h L)
    (hfill : Instr.fill (fun i => some (i * si_Lbool.size, si_Lbool.size)) (madeCells si_Lbool.zero.cells (n * si_Lbool.size)) parts = some (l.map fun n => Value.bool n).toArray) (hl : l.length = n) (hn : n ≤ 16777216)
    (hK : ∀ s h', Fw.Sep h0 h' (ownSl si_Lbool eBool s l :: L) → K s h') : bld si_Lbool n parts h K :=
  bld_rule (S.free loc_ownRow (Row.of_cells l)) hfill hl rfl (by show n * 1 ≤ _; omega) hn hK

def gC : Graph := [[1], [2], [1]]
theorem partsC : partsF gC = [0, 1, 1] := by decide +kernel
theorem roundC : roundF gC = [false, true, true] := by decide +kernel
theorem leftC : leftA gC = [2, 1, 0] := by decide +kernel

theorem awake20_calls {h : Heap} : ACalls Try.prog F_lateenlaw20_awake [] h (fun v h' => v = .bool true ∧ Old h h') := by
  refine lateenlaw20_awake_of ?_
  unfold lateenlaw20_awake
  refine lit_ints [1] (Fw.Sep.start h) (by kernel_rfl) rfl (by decide) fun s h1 S => ?_
  refine lit_ints [2] S (by kernel_rfl) rfl (by decide) fun s1 h2 S => ?_
  refine lit_ints [1] S (by kernel_rfl) rfl (by decide) fun s2 h3 S => ?_
  have SA := (((S.rowNil (E := eInts)).swap.rowCons).swap.rowCons).swap.rowCons
  refine bld_rule (l := gC) SA (by kernel_rfl) rfl rfl (by decide) (by decide) fun g h4 S4 => ?_
  have hg := S4.rd
  have o4 := S4.old
  clear S SA S4
  intro k hk
  refine (cparts_calls hg (by decide)).mono ?_
  rintro v h5 ⟨r, rfl, T⟩
  refine ⟨r, rfl, ?_⟩
  rw [partsC] at T
  refine lit_ints [0, 1, 1] T (by kernel_rfl) rfl (by decide) fun s4 h6 T => ?_
  refine (same_calls T.swap.rd T.rd).mono ?_
  rintro v h7 ⟨rfl, rfl⟩
  refine ⟨_, rfl, ifB_true (by decide) ?_⟩
  have o6 := T.old
  have hg := hg.old o6
  have o6 := o4.trans o6
  clear T
  refine (cround_calls hg (by decide)).mono ?_
  rintro v h8 ⟨r, rfl, T⟩
  refine ⟨r, rfl, ?_⟩
  rw [roundC] at T
  refine lit_bools [false, true, true] T (by kernel_rfl) rfl (by decide) fun s5 h9 T => ?_
  refine (sameBools_calls T.swap.rd T.rd).mono ?_
  rintro v h10 ⟨rfl, rfl⟩
  refine ⟨_, rfl, ifB_true (by decide) ?_⟩
  have o9 := T.old
  have hg := hg.old o9
  have o9 := o6.trans o9
  clear T
  refine (corder_calls hg (by decide)).mono ?_
  rintro v h11 ⟨r, rfl, T⟩
  refine ⟨r, rfl, ?_⟩
  rw [leftC] at T
  refine lit_ints [2, 1, 0] T (by kernel_rfl) rfl (by decide) fun s6 h12 T => ?_
  refine (same_calls T.swap.rd T.rd).mono ?_
  rintro v h13 ⟨rfl, rfl⟩
  exact ⟨_, rfl, hk _ _ fun _ => ⟨congrArg Value.bool (by decide), o9.trans T.old⟩⟩
theorem awake20_end {hb h : Heap} (o : Old hb h) : ACalls Try.prog F_lateenlaw20_awake [] h (fun v h' => as1 .bool v fun r => (Value.bool r) = Value.bool true ∧ Old hb h') := by
  refine awake20_calls.mono ?_
  rintro v h3 ⟨rfl, o3⟩
  exact ⟨_, rfl, rfl, o.trans o3⟩

theorem callsParts_calls {h : Heap} {g : Sl} {G : Graph} (hg : rdSl eInts h g G) :
    ACalls Try.prog F_lateenlaw20_CallsParts [g.v] h (fun v h' => v = .bool true ∧ Old h h') := by
  refine lateenlaw20_CallsParts_of ?_
  unfold lateenlaw20_CallsParts
  intro k hk
  refine awake20_calls.mono ?_
  rintro v h1 ⟨rfl, o1⟩
  refine ⟨_, rfl, ifB_false rfl ?_⟩
  have g1 := hg.old o1
  refine (few_calls g1 40).mono ?_
  rintro v h2 ⟨rfl, rfl⟩
  refine ⟨_, rfl, hk _ _ fun _ => ?_⟩
  refine ifB_intro (fun _ => awake20_end o1) (fun hc => ?_)
  have hfew : fewB G 40 = true := by simpa using hc
  have hn : G.length ≤ 1000 := by have := few_le hfew; omega
  intro k1 hk1
  refine (cparts_calls g1 hn).mono ?_
  rintro v h3 ⟨r, rfl, S⟩
  refine ⟨r, rfl, ?_⟩
  refine (refParts_calls (g1.old S.old) hn).mono ?_
  rintro v h4 ⟨r2, rfl, T⟩
  refine ⟨r2, rfl, ?_⟩
  have S := S.frame T
  refine (same_calls S.swap.rd S.rd).mono ?_
  rintro v h5 ⟨rfl, rfl⟩
  refine ⟨_, rfl, ifB_true (by simp) ?_⟩
  refine (cround_calls (g1.old S.old) hn).mono ?_
  rintro v h6 ⟨r3, rfl, T⟩
  refine ⟨r3, rfl, ?_⟩
  have S := S.frame T
  refine (refRound_calls (g1.old S.old) hn).mono ?_
  rintro v h7 ⟨r4, rfl, T⟩
  refine ⟨r4, rfl, ?_⟩
  have S := S.frame T
  refine (sameBools_calls S.swap.rd S.rd).mono ?_
  rintro v h8 ⟨rfl, rfl⟩
  refine ⟨_, rfl, ifB_true (by simp) ?_⟩
  refine (corder_calls (g1.old S.old) hn).mono ?_
  rintro v h9 ⟨r5, rfl, T⟩
  refine ⟨r5, rfl, ?_⟩
  have S := S.frame T
  refine (refCorder_calls (g1.old S.old) hn).mono ?_
  rintro v h10 ⟨r6, rfl, T⟩
  refine ⟨r6, rfl, ?_⟩
  have S := S.frame T
  refine (same_calls S.swap.rd S.rd).mono ?_
  rintro v h11 ⟨rfl, rfl⟩
  exact ⟨_, rfl, hk1 _ _ fun _ => ⟨by simp, o1.trans S.old⟩⟩

theorem callsOrder_calls {h : Heap} {g : Sl} {G : Graph} (hg : rdSl eInts h g G) :
    ACalls Try.prog F_lateenlaw20_CallsOrder [g.v] h (fun v h' => v = .bool true ∧ Old h h') := by
  refine lateenlaw20_CallsOrder_of ?_
  have hl := hg.lenEq
  unfold lateenlaw20_CallsOrder
  intro k hk
  refine awake20_calls.mono ?_
  rintro v h1 ⟨rfl, o1⟩
  refine ⟨_, rfl, ifB_false rfl ?_⟩
  have g1 := hg.old o1
  refine (few_calls g1 100).mono ?_
  rintro v h2 ⟨rfl, rfl⟩
  refine ⟨_, rfl, hk _ _ fun _ => ?_⟩
  refine ifB_intro (fun _ => awake20_end o1) (fun hc => ?_)
  have hfew : fewB G 100 = true := by simpa using hc
  have hn : G.length ≤ 1000 := by have := few_le hfew; omega
  refine (cparts_calls g1 hn).mono ?_
  rintro v h3 ⟨r1, rfl, S⟩
  refine ⟨r1, rfl, ?_⟩
  refine (corder_calls (g1.old S.old) hn).mono ?_
  rintro v h4 ⟨r2, rfl, T⟩
  refine ⟨r2, rfl, ?_⟩
  have S := S.frame T
  refine ⟨rfl, mk_rule (x := false) (E := eBool) S rfl (own_bool false) (by omega) (by omega) (by simp only [si_Lbool]; omega) fun s h5 S => ?_⟩
  rw [hl, Int.toNat_natCast] at S
  have hpl := partsF_len G
  have hll := leftA_len G
  have h1l := S.rot3.rd.lenEq
  have h2l := S.swap.rd.lenEq
  intro k1 hk1
  have start : k1 false h5 := by
    refine hk1 _ _ fun _ => ifB_false rfl ?_
    obtain ⟨hpost, hin, hnd⟩ := left_says G
    refine loop_intro (fun m (t : Int) h6 => ∃ (i : Nat) (B : List Bool), t = i ∧ i ≤ G.length ∧ m = G.length - i ∧ B.length = G.length ∧ (∀ v (hv : v < B.length), B[v] = true ↔ (v : Int) ∈ (leftA G).take i) ∧
        Fw.Sep h2 h6 [ownSl si_Lbool eBool s B, ownSl si_Lint eInt r2 (leftA G), ownSl si_Lint eInt r1 (partsF G)]) G.length
      ⟨0, _, rfl, by omega, by omega, by simp, fun v hv => by simp, S⟩ ?_
    clear S
    rintro _ _ t h6 ⟨i, B, rfl, hi, rfl, hB, hmark, S⟩
    refine ifB_intro (fun hc => ?_) (fun hc => ⟨rfl, o1.trans S.old⟩)
    have hil : i < (leftA G).length := by rw [h2l] at hc; simpa using hc
    obtain ⟨x, hx, hxn, hxs⟩ := hpost i hil
    have hxB : x < B.length := by omega
    have hxP : x < (partsF G).length := by omega
    have hBx : B[x] = false := by
      cases e : B[x] with
      | false => rfl
      | true =>
        have hm := (hmark x hxB).1 e
        obtain ⟨j, hj, ej⟩ := List.getElem_of_mem hm
        rw [List.getElem_take] at ej
        rw [List.length_take] at hj
        exact absurd (ej.trans hx.symm) (List.pairwise_iff_getElem.1 hnd j i (by omega) hil (by omega))
    intro k2 hk2
    have rx : ∀ {K : Int → Prop}, K (x : Int) → idx 1 r2 (i : Int) fun p => ld (.int .i64) h6 p fun (x : Int) => K x := fun {K} hK =>
      idx_rdN S.swap.rd rfl hil fun p _ hp => ld_one hp (by rw [hx]; exact hK)
    refine rx ?_
    refine ifB_false (decide_eq_false (by omega)) ?_
    refine rx ?_
    refine ifB_false (decide_eq_false (by omega)) ?_
    refine rx ?_
    refine idx_rdN S.rd rfl hxB fun p _ hp => ld_one hp ?_
    rw [hBx]
    refine hk2 _ _ fun _ => ifB_false rfl ?_
    refine loop_intro (fun m (t : Int) h7 => ∃ k : Nat, h7 = h6 ∧ t = k ∧ k ≤ G.length ∧ m = G.length - k) G.length ⟨0, rfl, rfl, by omega, by omega⟩ ?_
    rintro _ _ t h7 ⟨c, e7, rfl, hcn, rfl⟩
    subst e7
    refine ifB_intro (fun hc => ?_) (fun hc => ?_)
    · have hcl : c < G.length := by rw [hl] at hc; simpa using hc
      intro k4 hk4
      have good : k4 false h7 := hk4 _ _ fun _ => ifB_false rfl (ar_i64 (by omega) (by omega) ⟨G.length - (c + 1), by omega, c + 1, rfl, rfl, by omega, rfl⟩)
      refine rx ?_
      refine ifB_intro (fun hne => ?_) (fun _ => good)
      refine rx ?_
      refine (leads_calls (g1.old S.old) (a := (x : Int)) (b := (c : Int)) (by omega) (by omega)).mono ?_
      rintro v h8 ⟨rfl, rfl⟩
      refine ⟨_, rfl, hExt.refl _, ifB_intro (fun hlead => ?_) (fun _ => good)⟩
      rw [Int.toNat_natCast] at hlead
      have hcB : c < B.length := by omega
      have hcP : c < (partsF G).length := by omega
      refine idx_rdN S.rd rfl hcB fun p _ hp => ld_one hp ?_
      refine ifB_intro (fun hm => ?_) (fun _ => good)
      refine idx_rdN S.rot3.rd rfl hcP fun p _ hp => ld_one hp ?_
      refine rx ?_
      refine idx_rdN S.rot3.rd rfl hxP fun p _ hp => ld_one hp ?_
      have hmut : Mut G c x := by
        rcases hxs c hcl hlead with h | h
        · have := (hmark c hcB).2 (by simpa using h)
          rw [this] at hm; cases hm
        · exact ⟨h, Ch.one hlead hcl⟩
      rw [(parts_eq hcP hxP).2 hmut, show ((partsF G)[x] != (partsF G)[x]) = false from by simp]
      exact good
    · refine rx ?_
      refine idx_rdN S.rd rfl hxB fun p hat _ => ?_
      refine st_flat S (x := true) (own_bool _) hat rfl hxB fun h8 S8 => ?_
      refine ar_i64 (by omega) (by omega) ⟨G.length - (i + 1), by omega, i + 1, _, rfl, by omega, rfl, by simpa using hB, fun v hv => ?_, S8⟩
      rw [List.take_succ_eq_append_getElem hil, List.mem_append, List.mem_singleton, hx, List.getElem_set]
      split
      · rename_i e; subst e; simp
      · rename_i e
        rw [hmark v (by simpa using hv)]
        constructor
        · exact .inl
        · rintro (h | h)
          · exact h
          · exact absurd (by omega) e
  refine ifB_intro (fun hc => ?_) (fun hc => ?_)
  · exfalso; rw [h2l, hl, hll] at hc; simp at hc
  · have : (decide ((r1.len : Int) ≠ (g.len : Int))) = false := by rw [h1l, hl, hpl]; simp
    rw [show ((r1.len : Int) != (g.len : Int)) = false from by rw [h1l, hl, hpl]; simp]
    exact start

end Go.Proofs.Ythdidcnpiaeleaa
