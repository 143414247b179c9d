/-
  Contracts over functions of the program's data: where blocks stand, what leads to what.
-/
import Derived.Test.YtojdbliehgejbaaGen
import Derived.Test.YtojdbliehgejbaaPlFlow2
import Derived.Test.YtojdbliehgejbaaFwApi
namespace Go.Proofs.Ytojdbliehgejbaa
open Go.Fw Go.Pl Go.Pl.Api

def placeV (f : MFunc) (name : ByteArray) : Value := match place f name with
  | some k => .tuple #[.int .i64 (k : Int), .bool true]
  | none => .tuple #[.int .i64 0, .bool false]

theorem place_some {f : MFunc} {name : ByteArray} {k : Nat} (hk : k < f.blocks.length) (h : (f.blocks[k].name.toList == name.toList) = true) (hb : ∀ i (hi : i < k), (f.blocks[i].name.toList == name.toList) = false) : place f name = some k := by
  unfold place
  rw [List.findIdx?_eq_some_iff_getElem]
  exact ⟨hk, h, fun j hj => by rw [hb j hj]; simp⟩
theorem place_none {f : MFunc} {name : ByteArray} (hb : ∀ i (hi : i < f.blocks.length), (f.blocks[i].name.toList == name.toList) = false) : place f name = none := by
  unfold place
  rw [List.findIdx?_eq_none_iff]
  intro x hx
  obtain ⟨i, hi, rfl⟩ := List.getElem_of_mem hx
  exact hb i hi

theorem refPlace_calls {h : Heap} {cs : Array Value} {f : MFunc} (hf : rFunc.rv h cs.toList f) (name : ByteArray) :
    ACalls Try.prog F_lateenref08_Place [.agg cs, .string name] h (fun v h' => v = placeV f name ∧ Old h h') := by
  refine lateenref08_Place_of ?_
  unfold lateenref08_Place
  refine new_rv hf fun p h1 o1 hp => ?_
  have hb := fld_blocks.rd hp
  refine loop_intro (fun m t h' => ∃ j : Nat, t = j ∧ j ≤ f.blocks.length ∧ m = f.blocks.length - j ∧ h' = h1 ∧ ∀ i (hi : i < j) (hl : i < f.blocks.length), (f.blocks[i].name.toList == name.toList) = false) f.blocks.length
    ⟨0, rfl, by omega, by omega, rfl, fun i hi => by omega⟩ ?_
  rintro m _ t h' ⟨j, rfl, hj, rfl, rfl, hno⟩
  refine ld_lst hb (hExt.refl _) fun x hx => ?_
  have hxl := hx.lenEq
  have hxb := hx.bound
  refine ifB_intro (fun hc => ?_) (fun hc => ?_)
  · have hjl : j < f.blocks.length := by rw [hxl] at hc; simpa using hc
    refine ld_lst hb (hExt.refl _) fun y hy => ?_
    refine idx_rdN hy rfl hjl fun q _ hq => ?_
    refine ld_str (fld_name.rd hq) (hExt.refl _) ?_
    refine ifB_intro (fun hc => ?_) (fun hc => ?_)
    · refine ⟨?_, o1⟩
      unfold placeV
      rw [place_some hjl hc fun i hi => hno i hi (by omega)]
    · refine ar_i64 (by omega) (by omega) ⟨f.blocks.length - (j + 1), by omega, j + 1, rfl, by omega, rfl, rfl, fun i hi hl => ?_⟩
      by_cases e : i = j
      · subst e; exact hc
      · exact hno i (by omega) hl
  · have hjl : f.blocks.length ≤ j := by rw [hxl] at hc; simpa using hc
    refine ⟨?_, o1⟩
    unfold placeV
    rw [place_none fun i hi => hno i (by omega) hi]

theorem place_calls {h : Heap} {cs : Array Value} {f : MFunc} (hf : rFunc.rv h cs.toList f) (name : ByteArray) :
    ACalls Try.prog F_shape_Place [.agg cs, .string name] h (fun v h' => v = placeV f name ∧ Old h h') := by
  refine shape_Place_of ?_
  unfold shape_Place
  refine new_rv hf fun p h1 o1 hp => ?_
  have hb := fld_blocks.rd hp
  refine ld_lst hb (hExt.refl _) fun x hx => ?_
  have hxl := hx.lenEq
  have hxb := hx.bound
  refine loop_intro (fun m t h' => ∃ j : Nat, t = j ∧ j ≤ f.blocks.length ∧ m = f.blocks.length - j ∧ Old h1 h' ∧ ∀ i (hi : i < j) (hl : i < f.blocks.length), (f.blocks[i].name.toList == name.toList) = false) f.blocks.length
    ⟨0, rfl, by omega, by omega, .refl _, fun i hi => by omega⟩ ?_
  rintro m _ t h2 ⟨j, rfl, hj, rfl, o2, hno⟩
  refine ifB_intro (fun hc => ?_) (fun hc => ?_)
  · have hjl : j < f.blocks.length := by rw [hxl] at hc; simpa using hc
    refine idx_rdN hx rfl hjl fun q _ hq => ?_
    refine ld_agg hq o2.ext rfl fun cs hcs => ?_
    refine new_st (rBlock.ext hcs o2.ext) rfl rfl fun p2 h4 o4 hp2 => ?_
    refine ld_str (fld_name.rd hp2) (hExt.refl _) ?_
    refine ifB_intro (fun hc => ?_) (fun hc => ?_)
    · refine ⟨?_, (o1.trans o2).trans o4⟩
      unfold placeV
      rw [place_some hjl hc fun i hi => hno i hi (by omega)]
    · refine ar_i64 (by omega) (by omega) ⟨f.blocks.length - (j + 1), by omega, j + 1, rfl, by omega, rfl, o2.trans o4, fun i hi hl => ?_⟩
      by_cases e : i = j
      · subst e; exact hc
      · exact hno i (by omega) hl
  · have hjl : f.blocks.length ≤ j := by rw [hxl] at hc; simpa using hc
    refine ⟨?_, o1.trans o2⟩
    unfold placeV
    rw [place_none fun i hi => hno i (by omega) hi]

/-- Few blocks, and few ends. -/
structure FewF (f : MFunc) : Prop where
  blocks : f.blocks.length ≤ 60
  to : ∀ b ∈ f.blocks, b.term.to.length ≤ 8
  phis : ∀ b ∈ f.blocks, b.phis.length ≤ 40 ∧ ∀ p ∈ b.phis, p.ins.length ≤ 60

theorem refFew_calls {h : Heap} {cs : Array Value} {f : MFunc} (hf : rFunc.rv h cs.toList f) :
    ACalls Try.prog F_lateenref08_Few [.agg cs] h (fun v h' => ∃ b, v = .bool b ∧ Old h h' ∧ (b = true → FewF f)) := by
  refine lateenref08_Few_of ?_
  unfold lateenref08_Few
  refine new_rv hf fun p h1 o1 hp => ?_
  have hb := fld_blocks.rd hp
  refine ld_lst hb (hExt.refl _) fun x hx => ?_
  have hxl := hx.lenEq
  refine ifB_intro (fun hc => ⟨false, rfl, o1, fun h => by cases h⟩) (fun hc => ?_)
  have h60 : f.blocks.length ≤ 60 := by rw [hxl] at hc; have := of_decide_eq_false hc; omega
  refine loop_intro (fun m t h' => ∃ j : Nat, t = j ∧ j ≤ f.blocks.length ∧ m = f.blocks.length - j ∧ h' = h1 ∧ ∀ i (hi : i < j) (hl : i < f.blocks.length), f.blocks[i].term.to.length ≤ 8 ∧ f.blocks[i].phis.length ≤ 40 ∧ ∀ p ∈ f.blocks[i].phis, p.ins.length ≤ 60) f.blocks.length
    ⟨0, rfl, by omega, by omega, rfl, fun i hi => by omega⟩ ?_
  rintro m _ t h' ⟨j, rfl, hj, rfl, rfl, hyes⟩
  have no : ∃ b, (Value.bool false) = .bool b ∧ Old h h' ∧ (b = true → FewF f) := ⟨false, rfl, o1, fun h => by cases h⟩
  refine ld_lst hb (hExt.refl _) fun x1 hx1 => ?_
  have hx1l := hx1.lenEq
  refine ifB_intro (fun hc => ?_) (fun hc => ?_)
  · have hjl : j < f.blocks.length := by rw [hx1l] at hc; simpa using hc
    intro k hk
    refine ld_lst hb (hExt.refl _) fun x7 hx7 => ?_
    refine idx_rdN hx7 rfl hjl fun p4 _ hp4 => ?_
    refine ld_lst (E := rStr) (l := f.blocks[j].term.to) (el_two hp4.1 (Fld.trans fld_term fld_to rfl |>.rd hp4)) (hExt.refl _) fun x8 hx8 => ?_
    have hx8l := hx8.lenEq
    have one : k true h' := hk _ _ fun _ => ifB_true rfl no
    refine ifB_intro (fun _ => one) (fun hc8 => ?_)
    have h8 : f.blocks[j].term.to.length ≤ 8 := by rw [hx8l] at hc8; have := of_decide_eq_false hc8; omega
    refine ld_lst hb (hExt.refl _) fun x9 hx9 => ?_
    refine idx_rdN hx9 rfl hjl fun p5 _ hp5 => ?_
    refine ld_lst (fld_phis.rd hp5) (hExt.refl _) fun x10 hx10 => ?_
    have hx10l := hx10.lenEq
    refine hk _ _ fun _ => ?_
    refine ifB_intro (fun _ => no) (fun hc40 => ?_)
    have h40 : f.blocks[j].phis.length ≤ 40 := by rw [hx10l] at hc40; have := of_decide_eq_false hc40; omega
    refine loop_intro (fun m t h'' => ∃ k : Nat, t = k ∧ k ≤ f.blocks[j].phis.length ∧ m = f.blocks[j].phis.length - k ∧ h'' = h' ∧ ∀ i (hi : i < k) (hl : i < f.blocks[j].phis.length), f.blocks[j].phis[i].ins.length ≤ 60) f.blocks[j].phis.length
      ⟨0, rfl, by omega, by omega, rfl, fun i hi => by omega⟩ ?_
    rintro m _ t h'' ⟨k2, rfl, hk2, rfl, rfl, hins⟩
    refine ld_lst hb (hExt.refl _) fun x2 hx2 => ?_
    refine idx_rdN hx2 rfl hjl fun p1 _ hp1 => ?_
    refine ld_lst (fld_phis.rd hp1) (hExt.refl _) fun x3 hx3 => ?_
    have hx3l := hx3.lenEq
    refine ifB_intro (fun hc => ?_) (fun hc => ?_)
    · have hkl : k2 < f.blocks[j].phis.length := by rw [hx3l] at hc; simpa using hc
      refine ld_lst hb (hExt.refl _) fun x4 hx4 => ?_
      refine idx_rdN hx4 rfl hjl fun p2 _ hp2 => ?_
      refine ld_lst (fld_phis.rd hp2) (hExt.refl _) fun x5 hx5 => ?_
      refine idx_rdN hx5 rfl hkl fun p3 _ hp3 => ?_
      refine ld_lst (fld_ins.rd hp3) (hExt.refl _) fun x6 hx6 => ?_
      have hx6l := hx6.lenEq
      refine ifB_intro (fun _ => no) (fun hc60 => ?_)
      have h60' : f.blocks[j].phis[k2].ins.length ≤ 60 := by rw [hx6l] at hc60; have := of_decide_eq_false hc60; omega
      refine ar_i64 (by omega) (by omega) ⟨f.blocks[j].phis.length - (k2 + 1), by omega, k2 + 1, rfl, by omega, rfl, rfl, fun i hi hl => ?_⟩
      by_cases e : i = k2
      · subst e; exact h60'
      · exact hins i (by omega) hl
    · have hkl : f.blocks[j].phis.length ≤ k2 := by rw [hx3l] at hc; simpa using hc
      refine ar_i64 (by omega) (by omega) ⟨f.blocks.length - (j + 1), by omega, j + 1, rfl, by omega, rfl, rfl, fun i hi hl => ?_⟩
      by_cases e : i = j
      · subst e
        refine ⟨h8, h40, fun q hq => ?_⟩
        obtain ⟨i2, hi2, rfl⟩ := List.getElem_of_mem hq
        exact hins i2 (by omega) hi2
      · exact hyes i (by omega) hl
  · have hjl : f.blocks.length ≤ j := by rw [hx1l] at hc; simpa using hc
    refine ⟨true, rfl, o1, fun _ => ⟨h60, fun b hb => ?_, fun b hb => ?_⟩⟩
    · obtain ⟨i, hi, rfl⟩ := List.getElem_of_mem hb
      exact (hyes i (by omega) hi).1
    · obtain ⟨i, hi, rfl⟩ := List.getElem_of_mem hb
      exact (hyes i (by omega) hi).2

end Go.Proofs.Ytojdbliehgejbaa
