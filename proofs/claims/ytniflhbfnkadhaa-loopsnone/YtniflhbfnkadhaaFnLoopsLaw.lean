/-
  The laws of layer 11: awake, LoopsAlls, LoopsNone.
-/
import Derived.Test.YtniflhbfnkadhaaFnHelp
import Derived.Test.YtniflhbfnkadhaaFnLoops10
namespace Go.Proofs.Ytniflhbfnkadhaa
open Go.Fw Go.Pl

def gL : Graph := [[1], [2, 3], [1], []]
def gX : Graph := [[1, 2], [2], [1]]
theorem loopsL : loopsF gL = [(1, [1, 2], [2])] := by decide +kernel
theorem loopsX : loopsF gX = [] := by decide +kernel
theorem crossX : crossB gX = true := by decide +kernel

theorem awake11_calls {h : Heap} : ACalls Try.prog F_lateenlaw11_awake [] h (fun v h' => v = .bool true ∧ Old h h') := by
  refine lateenlaw11_awake_of ?_
  unfold lateenlaw11_awake
  refine lit_ints [1] (Sep.start h) (by kernel_rfl) rfl (by decide) fun s h1 S => ?_
  refine lit_ints [2, 3] S (by kernel_rfl) rfl (by decide) fun s1 h2 S => ?_
  refine lit_ints [1] S (by kernel_rfl) rfl (by decide) fun s2 h3 S => ?_
  have SA := ((((S.rowNil (E := eInts)).nil (si := si_Lint) (E := eInt) rfl).rowCons.swap.rowCons).swap.rowCons).swap.rowCons
  refine bld_rule (l := gL) SA (by kernel_rfl) rfl rfl (by decide) (by decide) fun g h4 S4 => ?_
  refine (loopsAll_calls S4.rd (by decide)).mono ?_
  rintro v h5 ⟨r, rfl, T5⟩
  refine ⟨r, rfl, ?_⟩
  rw [loopsL] at T5
  have o5 := S4.old.trans T5.old
  refine lit_ints [1, 2] T5 (by kernel_rfl) rfl (by decide) fun s4 h6 S6 => ?_
  refine lit_ints [2] S6 (by kernel_rfl) rfl (by decide) fun s5 h7 S7 => ?_
  refine lit_ints [1] S7 (by kernel_rfl) rfl (by decide) fun s6 h8 S8 => ?_
  have SB := (((S8.rowNil (E := eInts)).swap.rowCons).swap.rowCons).swap.rowCons
  refine bld_rule (l := gX) SB (by kernel_rfl) rfl rfl (by decide) (by decide) fun g2 h9 S9 => ?_
  have hgX := S9.rd
  have hr := S9.drop.rd
  have o9 := S4.old.trans S9.old
  clear S SA S4 T5 S6 S7 S8 SB S9 o5
  intro k hk
  refine (back_calls hr (by decide)).mono ?_
  rintro v h11 ⟨r1, rfl, hr1, o11⟩
  refine ⟨r1, rfl, ?_⟩
  refine lit_ints [1, 2] (Sep.start h11) (by kernel_rfl) rfl (by decide) fun s8 h12 S12 => ?_
  refine lit_ints [2] S12 (by kernel_rfl) rfl (by decide) fun s9 h13 S13 => ?_
  refine ⟨#[.int .i64 1, s8.v, s9.v], by kernel_rfl, ?_⟩
  have S13' := own_loop (a := 1) S13.swap
  have S13'' : Sep h11 h13 [ownRow eLoop [.int .i64 1, s8.v, s9.v] [(1, [1, 2], [2])]] :=
    S13'.conv loc_ownRow fun f o => ⟨f, List.Sublist.refl f, ⟨[.int .i64 1, s8.v, s9.v], [], f, [], by simp, by simp, o, rfl, rfl⟩⟩
  refine bld_rule (l := [((1 : Int), ([1, 2] : List Int), ([2] : List Int))]) (si := si_Llateenref11_Loop) S13'' (by kernel_rfl) rfl rfl (by decide) (by decide) fun s10 h14 S14 => ?_
  refine (loopsSame_calls (hr1.old S14.old) S14.rd).mono ?_
  rintro v h15 ⟨rfl, rfl⟩
  refine ⟨_, rfl, ifB_true (by decide) ?_⟩
  have o15 := o11.trans S14.old
  refine (crossed_calls (hgX.old o15) (by decide) (by decide)).mono ?_
  rintro v h16 ⟨rfl, o16⟩
  refine ⟨_, rfl, ifB_true crossX ?_⟩
  refine (loopsAll_calls (hgX.old (o15.trans o16)) (by decide)).mono ?_
  rintro v h17 ⟨r4, rfl, T17⟩
  refine ⟨r4, rfl, hk _ _ fun _ => ?_⟩
  rw [loopsX] at T17
  have hz : r4.len = 0 := T17.rd.lenEq
  exact ⟨by rw [hz]; rfl, o9.trans ((o15.trans o16).trans T17.old)⟩
theorem awake11_end {hb h : Heap} (o : Old hb h) : ACalls Try.prog F_lateenlaw11_awake [] h (fun v h' => as1 .bool v fun r => (Value.bool r) = Value.bool true ∧ Old hb h') := by
  refine awake11_calls.mono ?_
  rintro v h3 ⟨rfl, o3⟩
  exact ⟨_, rfl, rfl, o.trans o3⟩
theorem few11_calls {h : Heap} {g : Sl} {G : Graph} (hg : rdSl eInts h g G) : ACalls Try.prog F_lateenlaw11_few [g.v] h (fun v h' => v = .bool (fewB G 18) ∧ h' = h) := by
  refine lateenlaw11_few_of ?_
  unfold lateenlaw11_few
  refine (few_calls hg 18).mono ?_
  rintro v h' ⟨rfl, rfl⟩
  exact ⟨_, rfl, rfl, rfl⟩
theorem loopsF_len (G : Graph) : (loopsF G).length ≤ G.length := loopsT_len G G.length

theorem loopsAlls_calls {h : Heap} {g : Sl} {G : Graph} (hg : rdSl eInts h g G) :
    ACalls Try.prog F_lateenlaw11_LoopsAlls [g.v] h (fun v h' => v = .bool true ∧ Old h h') := by
  refine lateenlaw11_LoopsAlls_of ?_
  unfold lateenlaw11_LoopsAlls
  intro k hk
  refine awake11_calls.mono ?_
  rintro v h1 ⟨rfl, o1⟩
  refine ⟨_, rfl, ifB_false rfl ?_⟩
  have g1 := hg.old o1
  refine (few11_calls g1).mono ?_
  rintro v h2 ⟨rfl, rfl⟩
  refine ⟨_, rfl, hk _ _ fun _ => ?_⟩
  refine ifB_intro (fun _ => awake11_end o1) (fun hc => ?_)
  have hfew : fewB G 18 = true := by simpa using hc
  have hn : G.length ≤ 1000 := by have := few_le hfew; omega
  have hrow := few_rows hfew
  have hll := loopsF_len G
  intro k1 hk1
  refine (loopsAll_calls g1 hn).mono ?_
  rintro v h3 ⟨r, rfl, T3⟩
  refine ⟨r, rfl, ?_⟩
  refine (back_calls T3.rd (by omega)).mono ?_
  rintro v h4 ⟨r2, rfl, hr2, o4⟩
  refine ⟨r2, rfl, ?_⟩
  have o4' := T3.old.trans o4
  refine (refLoops_calls (g1.old o4') hn hrow).mono ?_
  rintro v h5 ⟨r3, rfl, T5⟩
  refine ⟨r3, rfl, ?_⟩
  refine (loopsSame_calls (hr2.old T5.old) T5.rd).mono ?_
  rintro v h6 ⟨rfl, rfl⟩
  refine ⟨_, rfl, ifB_true (by simp) ?_⟩
  have o5 := o4'.trans T5.old
  refine (crossed_calls (g1.old o5) hn hrow).mono ?_
  rintro v h7 ⟨rfl, o7⟩
  refine ⟨_, rfl, ?_⟩
  refine (refCrossed_calls (g1.old (o5.trans o7)) hn hrow).mono ?_
  rintro v h8 ⟨rfl, o8⟩
  exact ⟨_, rfl, hk1 _ _ fun _ => ⟨by simp, o1.trans ((o5.trans o7).trans o8)⟩⟩

def upG (G : Graph) : Graph := (List.range G.length).map fun i => (G.getD i []).filter fun t => decide (t > (i : Int))
theorem upG_len (G : Graph) : (upG G).length = G.length := by simp [upG]
theorem upG_up {G : Graph} (a k : Nat) (h : leadsB (upG G) a (k : Int) = true) : a < k := by
  unfold leadsB at h
  rw [List.contains_iff_mem] at h
  by_cases ha : a < G.length
  · have : (upG G).getD a [] = (G.getD a []).filter fun t => decide (t > (a : Int)) := by simp [upG, ha]
    rw [this, List.mem_filter] at h
    have := of_decide_eq_true h.2
    omega
  · have : (upG G).getD a [] = [] := by simp [upG, ha]
    rw [this] at h
    cases h

theorem loopsNone_calls {h : Heap} {g : Sl} {G : Graph} (hg : rdSl eInts h g G) :
    ACalls Try.prog F_lateenlaw11_LoopsNone [g.v] h (fun v h' => v = .bool true ∧ Old h h') := by
  refine lateenlaw11_LoopsNone_of ?_
  unfold lateenlaw11_LoopsNone
  intro k hk
  refine awake11_calls.mono ?_
  rintro v h1 ⟨rfl, o1⟩
  refine ⟨_, rfl, ifB_false rfl ?_⟩
  have g1 := hg.old o1
  refine (few_calls g1 60).mono ?_
  rintro v h2 ⟨rfl, rfl⟩
  refine ⟨_, rfl, hk _ _ fun _ => ?_⟩
  refine ifB_intro (fun _ => awake11_end o1) (fun hc => ?_)
  have hfew : fewB G 60 = true := by simpa using hc
  have hn : G.length ≤ 1000 := by have := few_le hfew; omega
  have hrow := few_rows hfew
  have hl := g1.lenEq
  have hul := upG_len G
  refine loop_intro (fun m (t : Sl × Int) h' => ∃ i : Nat, t.2 = i ∧ i ≤ G.length ∧ m = G.length - i ∧ Sep h2 h' [ownSl si_LLint eInts t.1 ((upG G).take i)]) G.length ⟨0, rfl, by omega, by omega, (Sep.start h2).nil rfl⟩ ?_
  rintro _ _ ⟨out, i⟩ h3 ⟨i, hi0, hi, rfl, S⟩
  simp only at hi0 S ⊢
  subst hi0
  refine ifB_intro (fun hc => ?_) (fun hc => ?_)
  · have hil : i < G.length := by rw [hl] at hc; simpa using hc
    have hrl : G[i].length ≤ 1000 := hrow _ (List.getElem_mem hil)
    have hiu : i < (upG G).length := by omega
    refine loop_intro (fun m (t : Sl × Int) h' => ∃ j : Nat, t.2 = j ∧ j ≤ G[i].length ∧ m = G[i].length - j ∧ Sep h2 h' [ownSl si_Lint eInt t.1 ((G[i].take j).filter fun t => decide (t > (i : Int))), ownSl si_LLint eInts out ((upG G).take i)]) G[i].length
      ⟨0, rfl, by omega, by omega, S.nil rfl⟩ ?_
    clear S
    rintro _ _ ⟨l, j⟩ h4 ⟨j, hj0, hj, rfl, S⟩
    simp only at hj0 S ⊢
    subst hj0
    refine idx_rdN g1 rfl hil fun p _ hp => ld_slB hp S.old fun x hx => ?_
    have hxl := hx.lenEq
    refine ifB_intro (fun hc => ?_) (fun hc => ?_)
    · have hjl : j < G[i].length := by rw [hxl] at hc; simpa using hc
      have hfl : ((G[i].take j).filter fun t => decide (t > (i : Int))).length ≤ j := Nat.le_trans (List.length_filter_le _ _) (by rw [List.length_take]; omega)
      intro k2 hk2
      refine idx_rdN g1 rfl hil fun p _ hp => ld_slB hp S.old fun x1 hx1 => ?_
      refine idx_rdN hx1 rfl hjl fun p2 _ hp2 => ld_oneB hp2 S.old ?_
      have fin : ∀ (l' : Sl) h', Sep h2 h' [ownSl si_Lint eInt l' ((G[i].take (j + 1)).filter fun t => decide (t > (i : Int))), ownSl si_LLint eInts out ((upG G).take i)] → k2 l' h' := fun l' h' S' =>
        hk2 _ _ fun _ => ar_i64 (by omega) (by omega) ⟨G[i].length - (j + 1), by omega, j + 1, rfl, by omega, rfl, S'⟩
      rw [List.take_succ_eq_append_getElem hjl, List.filter_append] at fin
      refine ifB_intro (fun hb => ?_) (fun hb => fin l h4 (S.cast (by simp [hb])))
      refine idx_rdN g1 rfl hil fun p _ hp => ld_slB hp S.old fun x3 hx3 => ?_
      refine idx_rdN hx3 rfl hjl fun p4 _ hp4 => ld_oneB hp4 S.old ?_
      refine app1_flat S (own_int _) rfl (by decide) (by simp only [si_Lint]; omega) (by omega) fun s' h' S' => fin s' h' (S'.cast (by simp [hb]))
    · have hjl : G[i].length ≤ j := by rw [hxl] at hc; simpa using hc
      rw [List.take_of_length_le hjl] at S
      have hrow' : (G[i].filter fun t => decide (t > (i : Int))) = (upG G)[i] := by simp [upG, hil]
      rw [hrow'] at S
      refine app1_rule (S.toEl.swap) rfl (by decide) (by simp only [si_LLint, List.length_take]; omega) (by simp only [List.length_take]; omega) fun s' h' S' => ?_
      refine ar_i64 (by omega) (by omega) ⟨G.length - (i + 1), by omega, i + 1, rfl, by omega, rfl, S'.cast ?_⟩
      rw [List.take_succ_eq_append_getElem (by omega)]
  · have hil : G.length ≤ i := by rw [hl] at hc; simpa using hc
    rw [List.take_of_length_le (by omega)] at S
    have hup := up_none (G := upG G) upG_up
    have hun : (upG G).length ≤ 1000 := by omega
    have hur : ∀ r ∈ upG G, r.length ≤ 1000 := fun r hr => by
      unfold upG at hr
      obtain ⟨a, ha, rfl⟩ := List.mem_map.1 hr
      refine Nat.le_trans (List.length_filter_le _ _) ?_
      have ha := List.mem_range.1 ha
      rw [getD_lt ha]
      exact hrow _ (List.getElem_mem ha)
    intro k3 hk3
    refine (loopsAll_calls S.rd hun).mono ?_
    rintro v h12 ⟨r1, rfl, T12⟩
    refine ⟨r1, rfl, ?_⟩
    rw [hup.1] at T12
    have hz : r1.len = 0 := T12.rd.lenEq
    refine ifB_true (by rw [hz]; rfl) ?_
    refine (crossed_calls (S.rd.old T12.old) hun hur).mono ?_
    rintro v h13 ⟨rfl, o13⟩
    have hcb : crossB (upG G) = false := by
      cases e : crossB (upG G) with
      | false => rfl
      | true => exact absurd (crossB_iff.1 e) hup.2
    exact ⟨_, rfl, hk3 _ _ fun _ => ⟨by rw [hcb]; rfl, o1.trans ((S.old.trans T12.old).trans o13)⟩⟩

end Go.Proofs.Ytniflhbfnkadhaa
