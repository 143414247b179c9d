/-
  The laws of layer 20.
-/
import Derived.Test.YtjpjnpbjalmhiaaFnCalls5
namespace Go.Proofs.Ytjpjnpbjalmhiaa
open Go.Fw Go.Pl

theorem mutS {G : Graph} {a b : Nat} (h : Mut G a b) : Mut G b a := ⟨h.2, h.1⟩
theorem mutT {G : Graph} {a b c : Nat} (h : Mut G a b) (k : Mut G b c) : Mut G a c := ⟨h.1.trans k.1, k.2.trans h.2⟩
theorem partsF_len (G : Graph) : (partsF G).length = G.length := by simp [partsF]
theorem roundF_len (G : Graph) : (roundF G).length = G.length := by simp [roundF]
theorem parts_eq {G : Graph} {a b : Nat} (ha : a < (partsF G).length) (hb : b < (partsF G).length) : (partsF G)[a] = (partsF G)[b] ↔ Mut G a b := by
  obtain ⟨c, e1, m1, l1⟩ := (partsF_P G).2 a ha
  obtain ⟨d, e2, m2, l2⟩ := (partsF_P G).2 b hb
  rw [e1, e2]
  constructor
  · intro e
    have : c = d := by omega
    subst this
    exact mutT m1 (mutS m2)
  · intro m
    have := l1 d (mutT m m2)
    have := l2 c (mutT (mutS m) m1)
    omega
theorem parts_le {G : Graph} {a : Nat} (ha : a < (partsF G).length) : (partsF G)[a] ≤ (a : Int) := by
  have := lst_le G a a
  simp only [partsF, List.getElem_map, List.getElem_range]
  omega
theorem mut_cyc {G : Graph} {a b : Nat} (ha : a < G.length) (hne : a ≠ b) (h : Mut G a b) : Cyc G a := by
  obtain ⟨z, h1, h2, h3⟩ := h.1.first hne
  exact ⟨z, h1, h2, h3.trans h.2⟩
theorem leftA_len (G : Graph) : (leftA G).length = G.length := by
  obtain ⟨hp, hall, hnd⟩ := left_says G
  have h2 : ((List.range G.length).map fun (k : Nat) => (k : Int)).Nodup := by
    refine List.Pairwise.map _ (R := (· ≠ ·)) (fun a b h e => h (by omega)) List.nodup_range
  have : (leftA G).Perm ((List.range G.length).map fun (k : Nat) => (k : Int)) := (List.perm_ext_iff_of_nodup hnd h2).2 fun a => by
    constructor
    · intro h
      obtain ⟨j, hj, rfl⟩ := List.getElem_of_mem h
      obtain ⟨x, e, hx, _⟩ := hp j hj
      rw [e]
      exact List.mem_map.2 ⟨x, List.mem_range.2 hx, rfl⟩
    · intro h
      obtain ⟨x, hx, rfl⟩ := List.mem_map.1 h
      exact hall x (List.mem_range.1 hx)
  have := this.length_eq
  simpa using this

theorem lit_bools {h0 h : Heap} {L : List As} {n : Nat} {parts : List (Nat × Value)} (l : List Bool) {K : Sl → Heap → Prop} (S : Fw.Sep h0 h L)
    (hfill : Instr.fill (fun i => some (i * si_Lbool.size, si_Lbool.size)) (madeCells si_Lbool.zero.cells (n * si_Lbool.size)) parts = some (l.map fun n => Value.bool n).toArray) (hl : l.length = n) (hn : n ≤ 16777216)
    (hK : ∀ s h', Fw.Sep h0 h' (ownSl si_Lbool eBool s l :: L) → K s h') : bld si_Lbool n parts h K :=
  bld_rule (S.free loc_ownRow (Row.of_cells l)) hfill hl rfl (by show n * 1 ≤ _; omega) hn hK

def gC : Graph := [[1], [2], [1]]
theorem partsC : partsF gC = [0, 1, 1] := by decide +kernel
theorem roundC : roundF gC = [false, true, true] := by decide +kernel
theorem leftC : leftA gC = [2, 1, 0] := by decide +kernel

theorem awake20_calls {h : Heap} : ACalls Try.prog F_lateenlaw20_awake [] h (fun v h' => v = .bool true ∧ Old h h') := by
  refine lateenlaw20_awake_of ?_
  unfold lateenlaw20_awake
  refine lit_ints [1] (Fw.Sep.start h) (by kernel_rfl) rfl (by decide) fun s h1 S => ?_
  refine lit_ints [2] S (by kernel_rfl) rfl (by decide) fun s1 h2 S => ?_
  refine lit_ints [1] S (by kernel_rfl) rfl (by decide) fun s2 h3 S => ?_
  have SA := (((S.rowNil (E := eInts)).swap.rowCons).swap.rowCons).swap.rowCons
  refine bld_rule (l := gC) SA (by kernel_rfl) rfl rfl (by decide) (by decide) fun g h4 S4 => ?_
  have hg := S4.rd
  have o4 := S4.old
  clear S SA S4
  intro k hk
  refine (cparts_calls hg (by decide)).mono ?_
  rintro v h5 ⟨r, rfl, T⟩
  refine ⟨r, rfl, ?_⟩
  rw [partsC] at T
  refine lit_ints [0, 1, 1] T (by kernel_rfl) rfl (by decide) fun s4 h6 T => ?_
  refine (same_calls T.swap.rd T.rd).mono ?_
  rintro v h7 ⟨rfl, rfl⟩
  refine ⟨_, rfl, ifB_true (by decide) ?_⟩
  have o6 := T.old
  have hg := hg.old o6
  have o6 := o4.trans o6
  clear T
  refine (cround_calls hg (by decide)).mono ?_
  rintro v h8 ⟨r, rfl, T⟩
  refine ⟨r, rfl, ?_⟩
  rw [roundC] at T
  refine lit_bools [false, true, true] T (by kernel_rfl) rfl (by decide) fun s5 h9 T => ?_
  refine (sameBools_calls T.swap.rd T.rd).mono ?_
  rintro v h10 ⟨rfl, rfl⟩
  refine ⟨_, rfl, ifB_true (by decide) ?_⟩
  have o9 := T.old
  have hg := hg.old o9
  have o9 := o6.trans o9
  clear T
  refine (corder_calls hg (by decide)).mono ?_
  rintro v h11 ⟨r, rfl, T⟩
  refine ⟨r, rfl, ?_⟩
  rw [leftC] at T
  refine lit_ints [2, 1, 0] T (by kernel_rfl) rfl (by decide) fun s6 h12 T => ?_
  refine (same_calls T.swap.rd T.rd).mono ?_
  rintro v h13 ⟨rfl, rfl⟩
  exact ⟨_, rfl, hk _ _ fun _ => ⟨congrArg Value.bool (by decide), o9.trans T.old⟩⟩
theorem awake20_end {hb h : Heap} (o : Old hb h) : ACalls Try.prog F_lateenlaw20_awake [] h (fun v h' => as1 .bool v fun r => (Value.bool r) = Value.bool true ∧ Old hb h') := by
  refine awake20_calls.mono ?_
  rintro v h3 ⟨rfl, o3⟩
  exact ⟨_, rfl, rfl, o.trans o3⟩

end Go.Proofs.Ytjpjnpbjalmhiaa
