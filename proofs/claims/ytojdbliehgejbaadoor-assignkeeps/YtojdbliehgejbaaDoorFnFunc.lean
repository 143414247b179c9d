/-
  Contracts over functions of the program's data: where blocks stand, what leads to what.
-/
import Derived.Test.YtojdbliehgejbaaDoorGen
import Derived.Test.YtojdbliehgejbaaDoorPlFlow
import Derived.Test.YtojdbliehgejbaaDoorFwApi
import Derived.Test.YtojdbliehgejbaaDoorPlShape
import Derived.Test.YtojdbliehgejbaaDoorFwMap
import Derived.Test.YtojdbliehgejbaaDoorFwRules
namespace Go.Proofs.YtojdbliehgejbaaDoor
open Go.Fw Go.Pl Go.Pl.Api

def placeV (f : MFunc) (name : ByteArray) : Value := match place f name with
  | some k => .tuple #[.int .i64 (k : Int), .bool true]
  | none => .tuple #[.int .i64 0, .bool false]

theorem place_some {f : MFunc} {name : ByteArray} {k : Nat} (hk : k < f.blocks.length) (h : (f.blocks[k].name.toList == name.toList) = true) (hb : ∀ i (hi : i < k), (f.blocks[i].name.toList == name.toList) = false) : place f name = some k := by
  unfold place
  rw [List.findIdx?_eq_some_iff_getElem]
  exact ⟨hk, h, fun j hj => by rw [hb j hj]; simp⟩
theorem place_none {f : MFunc} {name : ByteArray} (hb : ∀ i (hi : i < f.blocks.length), (f.blocks[i].name.toList == name.toList) = false) : place f name = none := by
  unfold place
  rw [List.findIdx?_eq_none_iff]
  intro x hx
  obtain ⟨i, hi, rfl⟩ := List.getElem_of_mem hx
  exact hb i hi

theorem refPlace_calls {h : Heap} {cs : Array Value} {f : MFunc} (hf : rFunc.rv h cs.toList f) (name : ByteArray) :
    ACalls Tryd.prog F_lateenref08_Place [.agg cs, .string name] h (fun v h' => v = placeV f name ∧ Old h h') := by
  refine lateenref08_Place_of ?_
  unfold lateenref08_Place
  refine new_rv hf fun p h1 o1 hp => ?_
  have hb := fld_blocks.rd hp
  refine loop_intro (fun m t h' => ∃ j : Nat, t = j ∧ j ≤ f.blocks.length ∧ m = f.blocks.length - j ∧ h' = h1 ∧ ∀ i (hi : i < j) (hl : i < f.blocks.length), (f.blocks[i].name.toList == name.toList) = false) f.blocks.length
    ⟨0, rfl, by omega, by omega, rfl, fun i hi => by omega⟩ ?_
  rintro m _ t h' ⟨j, rfl, hj, rfl, rfl, hno⟩
  refine ld_lst hb (hExt.refl _) fun x hx => ?_
  have hxl := hx.lenEq
  have hxb := hx.bound
  refine ifB_intro (fun hc => ?_) (fun hc => ?_)
  · have hjl : j < f.blocks.length := by rw [hxl] at hc; simpa using hc
    refine ld_lst hb (hExt.refl _) fun y hy => ?_
    refine idx_rdN hy rfl hjl fun q _ hq => ?_
    refine ld_str (fld_name.rd hq) (hExt.refl _) ?_
    refine ifB_intro (fun hc => ?_) (fun hc => ?_)
    · refine ⟨?_, o1⟩
      unfold placeV
      rw [place_some hjl hc fun i hi => hno i hi (by omega)]
    · refine ar_i64 (by omega) (by omega) ⟨f.blocks.length - (j + 1), by omega, j + 1, rfl, by omega, rfl, rfl, fun i hi hl => ?_⟩
      by_cases e : i = j
      · subst e; exact hc
      · exact hno i (by omega) hl
  · have hjl : f.blocks.length ≤ j := by rw [hxl] at hc; simpa using hc
    refine ⟨?_, o1⟩
    unfold placeV
    rw [place_none fun i hi => hno i (by omega) hi]

theorem place_calls {h : Heap} {cs : Array Value} {f : MFunc} (hf : rFunc.rv h cs.toList f) (name : ByteArray) :
    ACalls Tryd.prog F_shape_Place [.agg cs, .string name] h (fun v h' => v = placeV f name ∧ Old h h') := by
  refine shape_Place_of ?_
  unfold shape_Place
  refine new_rv hf fun p h1 o1 hp => ?_
  have hb := fld_blocks.rd hp
  refine ld_lst hb (hExt.refl _) fun x hx => ?_
  have hxl := hx.lenEq
  have hxb := hx.bound
  refine loop_intro (fun m t h' => ∃ j : Nat, t = j ∧ j ≤ f.blocks.length ∧ m = f.blocks.length - j ∧ Old h1 h' ∧ ∀ i (hi : i < j) (hl : i < f.blocks.length), (f.blocks[i].name.toList == name.toList) = false) f.blocks.length
    ⟨0, rfl, by omega, by omega, .refl _, fun i hi => by omega⟩ ?_
  rintro m _ t h2 ⟨j, rfl, hj, rfl, o2, hno⟩
  refine ifB_intro (fun hc => ?_) (fun hc => ?_)
  · have hjl : j < f.blocks.length := by rw [hxl] at hc; simpa using hc
    refine idx_rdN hx rfl hjl fun q _ hq => ?_
    refine ld_agg hq o2.ext rfl fun cs hcs => ?_
    refine new_st (rBlock.ext hcs o2.ext) rfl rfl fun p2 h4 o4 hp2 => ?_
    refine ld_str (fld_name.rd hp2) (hExt.refl _) ?_
    refine ifB_intro (fun hc => ?_) (fun hc => ?_)
    · refine ⟨?_, (o1.trans o2).trans o4⟩
      unfold placeV
      rw [place_some hjl hc fun i hi => hno i hi (by omega)]
    · refine ar_i64 (by omega) (by omega) ⟨f.blocks.length - (j + 1), by omega, j + 1, rfl, by omega, rfl, o2.trans o4, fun i hi hl => ?_⟩
      by_cases e : i = j
      · subst e; exact hc
      · exact hno i (by omega) hl
  · have hjl : f.blocks.length ≤ j := by rw [hxl] at hc; simpa using hc
    refine ⟨?_, o1.trans o2⟩
    unfold placeV
    rw [place_none fun i hi => hno i (by omega) hi]

/-- Few blocks, and few ends. -/
structure FewF (f : MFunc) : Prop where
  blocks : f.blocks.length ≤ 60
  to : ∀ b ∈ f.blocks, b.term.to.length ≤ 8
  phis : ∀ b ∈ f.blocks, b.phis.length ≤ 40 ∧ ∀ p ∈ b.phis, p.ins.length ≤ 60

theorem refFew_calls {h : Heap} {cs : Array Value} {f : MFunc} (hf : rFunc.rv h cs.toList f) :
    ACalls Tryd.prog F_lateenref08_Few [.agg cs] h (fun v h' => ∃ b, v = .bool b ∧ Old h h' ∧ (b = true → FewF f)) := by
  refine lateenref08_Few_of ?_
  unfold lateenref08_Few
  refine new_rv hf fun p h1 o1 hp => ?_
  have hb := fld_blocks.rd hp
  refine ld_lst hb (hExt.refl _) fun x hx => ?_
  have hxl := hx.lenEq
  refine ifB_intro (fun hc => ⟨false, rfl, o1, fun h => by cases h⟩) (fun hc => ?_)
  have h60 : f.blocks.length ≤ 60 := by rw [hxl] at hc; have := of_decide_eq_false hc; omega
  refine loop_intro (fun m t h' => ∃ j : Nat, t = j ∧ j ≤ f.blocks.length ∧ m = f.blocks.length - j ∧ h' = h1 ∧ ∀ i (hi : i < j) (hl : i < f.blocks.length), f.blocks[i].term.to.length ≤ 8 ∧ f.blocks[i].phis.length ≤ 40 ∧ ∀ p ∈ f.blocks[i].phis, p.ins.length ≤ 60) f.blocks.length
    ⟨0, rfl, by omega, by omega, rfl, fun i hi => by omega⟩ ?_
  rintro m _ t h' ⟨j, rfl, hj, rfl, rfl, hyes⟩
  have no : ∃ b, (Value.bool false) = .bool b ∧ Old h h' ∧ (b = true → FewF f) := ⟨false, rfl, o1, fun h => by cases h⟩
  refine ld_lst hb (hExt.refl _) fun x1 hx1 => ?_
  have hx1l := hx1.lenEq
  refine ifB_intro (fun hc => ?_) (fun hc => ?_)
  · have hjl : j < f.blocks.length := by rw [hx1l] at hc; simpa using hc
    intro k hk
    refine ld_lst hb (hExt.refl _) fun x7 hx7 => ?_
    refine idx_rdN hx7 rfl hjl fun p4 _ hp4 => ?_
    refine ld_lst (E := rStr) (l := f.blocks[j].term.to) (el_two hp4.1 (Fld.trans fld_term fld_to rfl |>.rd hp4)) (hExt.refl _) fun x8 hx8 => ?_
    have hx8l := hx8.lenEq
    have one : k true h' := hk _ _ fun _ => ifB_true rfl no
    refine ifB_intro (fun _ => one) (fun hc8 => ?_)
    have h8 : f.blocks[j].term.to.length ≤ 8 := by rw [hx8l] at hc8; have := of_decide_eq_false hc8; omega
    refine ld_lst hb (hExt.refl _) fun x9 hx9 => ?_
    refine idx_rdN hx9 rfl hjl fun p5 _ hp5 => ?_
    refine ld_lst (fld_phis.rd hp5) (hExt.refl _) fun x10 hx10 => ?_
    have hx10l := hx10.lenEq
    refine hk _ _ fun _ => ?_
    refine ifB_intro (fun _ => no) (fun hc40 => ?_)
    have h40 : f.blocks[j].phis.length ≤ 40 := by rw [hx10l] at hc40; have := of_decide_eq_false hc40; omega
    refine loop_intro (fun m t h'' => ∃ k : Nat, t = k ∧ k ≤ f.blocks[j].phis.length ∧ m = f.blocks[j].phis.length - k ∧ h'' = h' ∧ ∀ i (hi : i < k) (hl : i < f.blocks[j].phis.length), f.blocks[j].phis[i].ins.length ≤ 60) f.blocks[j].phis.length
      ⟨0, rfl, by omega, by omega, rfl, fun i hi => by omega⟩ ?_
    rintro m _ t h'' ⟨k2, rfl, hk2, rfl, rfl, hins⟩
    refine ld_lst hb (hExt.refl _) fun x2 hx2 => ?_
    refine idx_rdN hx2 rfl hjl fun p1 _ hp1 => ?_
    refine ld_lst (fld_phis.rd hp1) (hExt.refl _) fun x3 hx3 => ?_
    have hx3l := hx3.lenEq
    refine ifB_intro (fun hc => ?_) (fun hc => ?_)
    · have hkl : k2 < f.blocks[j].phis.length := by rw [hx3l] at hc; simpa using hc
      refine ld_lst hb (hExt.refl _) fun x4 hx4 => ?_
      refine idx_rdN hx4 rfl hjl fun p2 _ hp2 => ?_
      refine ld_lst (fld_phis.rd hp2) (hExt.refl _) fun x5 hx5 => ?_
      refine idx_rdN hx5 rfl hkl fun p3 _ hp3 => ?_
      refine ld_lst (fld_ins.rd hp3) (hExt.refl _) fun x6 hx6 => ?_
      have hx6l := hx6.lenEq
      refine ifB_intro (fun _ => no) (fun hc60 => ?_)
      have h60' : f.blocks[j].phis[k2].ins.length ≤ 60 := by rw [hx6l] at hc60; have := of_decide_eq_false hc60; omega
      refine ar_i64 (by omega) (by omega) ⟨f.blocks[j].phis.length - (k2 + 1), by omega, k2 + 1, rfl, by omega, rfl, rfl, fun i hi hl => ?_⟩
      by_cases e : i = k2
      · subst e; exact h60'
      · exact hins i (by omega) hl
    · have hkl : f.blocks[j].phis.length ≤ k2 := by rw [hx3l] at hc; simpa using hc
      refine ar_i64 (by omega) (by omega) ⟨f.blocks.length - (j + 1), by omega, j + 1, rfl, by omega, rfl, rfl, fun i hi hl => ?_⟩
      by_cases e : i = j
      · subst e
        refine ⟨h8, h40, fun q hq => ?_⟩
        obtain ⟨i2, hi2, rfl⟩ := List.getElem_of_mem hq
        exact hins i2 (by omega) hi2
      · exact hyes i (by omega) hl
  · have hjl : f.blocks.length ≤ j := by rw [hx1l] at hc; simpa using hc
    refine ⟨true, rfl, o1, fun _ => ⟨h60, fun b hb => ?_, fun b hb => ?_⟩⟩
    · obtain ⟨i, hi, rfl⟩ := List.getElem_of_mem hb
      exact (hyes i (by omega) hi).1
    · obtain ⟨i, hi, rfl⟩ := List.getElem_of_mem hb
      exact (hyes i (by omega) hi).2

end Go.Proofs.YtojdbliehgejbaaDoor

/-
  Contracts over functions of the program's data, further: ends, what can be come to, the graph.
-/
namespace Go.Proofs.YtojdbliehgejbaaDoor
open Go.Fw Go.Pl Go.Pl.Api

theorem place_as {f : MFunc} {t : ByteArray} {K : Int → Bool → Prop} (hs : ∀ k : Nat, place f t = some k → K k true) (hn : place f t = none → K 0 false) : as2 (.int .i64) .bool (placeV f t) K := by
  unfold placeV
  cases hp : place f t with
  | some k => exact ⟨(k : Int), true, rfl, hs k hp⟩
  | none => exact ⟨0, false, rfl, hn hp⟩

theorem to_rd {h : Heap} {q : Addr} {b : MBlock} (hq : rBlock.el.rd h q b) : rStr.sl.el.rd h ((q.add 3).add 4) b.term.to :=
  el_two hq.1 ((Fld.trans fld_term fld_to rfl).rd hq)

theorem refLeads_calls {h : Heap} {cs : Array Value} {f : MFunc} (hf : rFunc.rv h cs.toList f) {a : Nat} (ha : a < f.blocks.length) (b : Int) :
    ACalls Tryd.prog F_lateenref08_Leads [.agg cs, .int .i64 a, .int .i64 b] h (fun v h' => v = .bool (leadsF f a b) ∧ Old h h') := by
  refine lateenref08_Leads_of ?_
  unfold lateenref08_Leads
  refine new_rv hf fun p h1 o1 hp => ?_
  have hb := fld_blocks.rd hp
  refine loop_intro (fun m t h' => ∃ j : Nat, t = j ∧ j ≤ f.blocks[a].term.to.length ∧ m = f.blocks[a].term.to.length - j ∧ Old h1 h' ∧ ∀ i (hi : i < j) (hl : i < f.blocks[a].term.to.length), (match place f f.blocks[a].term.to[i] with | some k => (k : Int) == b | none => false) = false) f.blocks[a].term.to.length
    ⟨0, rfl, by omega, by omega, .refl _, fun i hi => by omega⟩ ?_
  rintro m _ t h2 ⟨j, rfl, hj, rfl, o2, hno⟩
  refine ld_lst hb o2.ext fun x hx => ?_
  refine idx_rdN hx rfl ha fun q _ hq => ?_
  refine ld_lst (to_rd hq) o2.ext fun x1 hx1 => ?_
  have hx1l := hx1.lenEq
  have hx1b := hx1.bound
  refine ifB_intro (fun hc => ?_) (fun hc => ?_)
  · have hjl : j < f.blocks[a].term.to.length := by rw [hx1l] at hc; simpa using hc
    refine ld_agg hp o2.ext rfl fun cs2 hcs2 => ?_
    refine ld_lst hb o2.ext fun x3 hx3 => ?_
    refine idx_rdN hx3 rfl ha fun q2 _ hq2 => ?_
    refine ld_lst (to_rd hq2) o2.ext fun x4 hx4 => ?_
    refine idx_rdN hx4 rfl hjl fun q3 _ hq3 => ?_
    refine ld_str hq3 o2.ext ?_
    refine (refPlace_calls (rFunc.ext hcs2 o2.ext) _).mono ?_
    rintro v h3 ⟨rfl, o3⟩
    refine place_as (fun k hk => ?_) (fun hk => ?_)
    · refine ⟨o3.ext, ?_⟩
      intro kk hkk
      refine ifB_true rfl ?_
      refine hkk _ _ fun _ => ?_
      refine ifB_intro (fun hkb => ⟨?_, (o1.trans o2).trans o3⟩) (fun hkb => ?_)
      · unfold leadsF
        rw [List.getElem?_eq_getElem ha]
        simp only [Option.map_some, Option.getD_some]
        symm
        congr 1
        rw [List.any_eq_true]
        exact ⟨_, List.getElem_mem hjl, by rw [hk]; exact hkb⟩
      · refine ar_i64 (by omega) (by omega) ⟨f.blocks[a].term.to.length - (j + 1), by omega, j + 1, rfl, by omega, rfl, o2.trans o3, fun i hi hl => ?_⟩
        by_cases e : i = j
        · subst e; rw [hk]; exact hkb
        · exact hno i (by omega) hl
    · refine ⟨o3.ext, ?_⟩
      intro kk hkk
      refine ifB_false rfl ?_
      refine hkk _ _ fun _ => ?_
      refine ifB_false rfl ?_
      refine ar_i64 (by omega) (by omega) ⟨f.blocks[a].term.to.length - (j + 1), by omega, j + 1, rfl, by omega, rfl, o2.trans o3, fun i hi hl => ?_⟩
      by_cases e : i = j
      · subst e; rw [hk]
      · exact hno i (by omega) hl
  · have hjl : f.blocks[a].term.to.length ≤ j := by rw [hx1l] at hc; simpa using hc
    refine ⟨?_, o1.trans o2⟩
    unfold leadsF
    rw [List.getElem?_eq_getElem ha]
    simp only [Option.map_some, Option.getD_some]
    symm
    congr 1
    rw [List.any_eq_false]
    intro t ht
    obtain ⟨i, hi, rfl⟩ := List.getElem_of_mem ht
    have h2 := hno i (by omega) hi
    exact fun hx => Bool.noConfusion (hx.symm.trans h2)

theorem refCome_calls {h : Heap} {cs : Array Value} {f : MFunc} (hf : rFunc.rv h cs.toList f) (hn : f.blocks.length ≤ 1000) :
    ACalls Tryd.prog F_lateenref08_Come [.agg cs] h (fun v h' => ∃ s : Sl, v = s.v ∧ Sep h h' [ownSl si_Lbool eBool s (comeOf (graphF f))]) := by
  refine lateenref08_Come_of ?_
  unfold lateenref08_Come
  refine new_rv hf fun p h1 o1 hp => ?_
  have hb := fld_blocks.rd hp
  refine ld_lst hb (hExt.refl _) fun x hx => ?_
  have hxl := hx.lenEq
  refine ⟨rfl, ?_⟩
  refine mk_rule (x := false) (E := eBool) (Sep.start h1) rfl (fun h => own_bool false h) (by omega) (by omega) (by simp only [si_Lbool]; omega) fun s h2 S => ?_
  rw [hxl, Int.toNat_natCast] at S
  have hsl := S.rd.lenEq
  rw [List.length_replicate] at hsl
  have hgl := graphF_len f
  have hrep : ∀ i, (List.replicate f.blocks.length false).getD i false = false := fun i => by
    simp [List.getD_eq_getElem?_getD, List.getElem?_replicate]; split <;> rfl
  refine loop_intro (fun m t h' => ∃ B : List Bool, B.length = f.blocks.length ∧ (t = true → 0 < f.blocks.length) ∧ (∀ k, B.getD k false = true → Rch (graphF f) k) ∧
      (t = false → 0 < f.blocks.length → B.getD 0 false = true ∧ ∀ i k : Nat, B.getD i false = true → k < f.blocks.length → leadsF f i k = true → B.getD k false = true) ∧ m = open' B + (if t then 1 else 0) ∧ Sep h1 h' [ownSl si_Lbool eBool s B]) _
    ⟨_, by simp, fun ht => by rw [hsl] at ht; simpa using ht, (fun k hk => by rw [hrep] at hk; cases hk), (fun ht h0 => by rw [hsl] at ht; have := of_decide_eq_false ht; omega), rfl, S⟩ ?_
  clear S
  rintro m _ t h3 ⟨B, hB, hpos, hsound, hcl, rfl, S⟩
  refine ifB_intro (fun hc => ?_) (fun hc => ⟨s, rfl, (S.since o1).cast ?_⟩)
  case refine_2 =>
    congr 2
    refine come_unique (by omega) fun k hk => ⟨hsound k, fun hr => ?_⟩
    obtain ⟨z0, zc⟩ := hcl hc (by omega)
    induction hr with
    | zero _ => exact z0
    | step hi hl hk2 ih => exact zc _ _ (ih hi.lt) (by omega) (by rw [leadsF_eq]; exact hl)
  subst hc
  have hn0 : 0 < f.blocks.length := hpos rfl
  have h0 : 0 < B.length := by omega
  refine idx_rdN S.rd rfl h0 fun p1 hat _ => ?_
  refine st_flat S (x := true) (own_bool true) hat rfl h0 fun h4 S4 => ?_
  clear S
  have hB2 : (B.set 0 true).length = f.blocks.length := by simpa using hB
  have ho : open' (B.set 0 true) ≤ open' B := open_set_le
  have hs1 : ∀ k, (B.set 0 true).getD k false = true → Rch (graphF f) k := fun k hk => by
    rw [getD_set h0] at hk
    split at hk
    · rename_i e; subst e; exact .zero (by omega)
    · exact hsound k hk
  have hz1 : (B.set 0 true).getD 0 false = true := by rw [getD_set h0]; simp
  generalize hBB : B.set 0 true = B1 at S4 hB2 ho hs1 hz1
  refine loop_intro (fun m t h' => ∃ (i : Nat) (C : List Bool), t.2 = i ∧ i ≤ f.blocks.length ∧ m = f.blocks.length - i ∧ C.length = f.blocks.length ∧ open' C ≤ open' B ∧ (t.1 = true → open' C < open' B) ∧
      (∀ k, C.getD k false = true → Rch (graphF f) k) ∧ C.getD 0 false = true ∧ (t.1 = false → ∀ i' k : Nat, i' < i → C.getD i' false = true → k < f.blocks.length → leadsF f i' k = true → C.getD k false = true) ∧ Sep h1 h' [ownSl si_Lbool eBool s C]) f.blocks.length
    ⟨0, B1, rfl, by omega, by omega, hB2, ho, (fun h => by cases h), hs1, hz1, (fun _ i' k h => by omega), S4⟩ ?_
  clear S4
  rintro m _ ⟨more, i⟩ h5 ⟨i, C, hi0, hi, rfl, hC, hCo, hm, hCs, hC0, hCc, S⟩
  simp only at hi0 hm hCc ⊢
  subst hi0
  refine ifB_intro (fun hc => ?_) (fun hc => ?_)
  · have hil : i < f.blocks.length := by rw [hsl] at hc; simpa using hc
    refine loop_intro (fun m t h' => ∃ (k : Nat) (C : List Bool), t.2 = k ∧ k ≤ f.blocks.length ∧ m = f.blocks.length - k ∧ C.length = f.blocks.length ∧ open' C ≤ open' B ∧ (t.1 = true → open' C < open' B) ∧
        (∀ k, C.getD k false = true → Rch (graphF f) k) ∧ C.getD 0 false = true ∧ (t.1 = false → ∀ i' k : Nat, i' < i → C.getD i' false = true → k < f.blocks.length → leadsF f i' k = true → C.getD k false = true) ∧
        (t.1 = false → ∀ k' : Nat, k' < k → leadsF f i k' = true → C.getD k' false = true) ∧ Sep h1 h' [ownSl si_Lbool eBool s C]) f.blocks.length
      ⟨0, C, rfl, by omega, by omega, hC, hCo, hm, hCs, hC0, hCc, (fun _ k h => by omega), S⟩ ?_
    clear S hm hCo hC hCs hC0 hCc
    rintro m _ ⟨more, k⟩ h6 ⟨k, C, hk0, hk, rfl, hC, hCo, hm, hCs, hC0, hCc, hCi, S⟩
    simp only at hk0 hm hCc hCi ⊢
    subst hk0
    intro k1 hk1
    have out : (C.getD i false = true → f.blocks.length ≤ k) → k1 false h6 := fun hdone => hk1 _ _ fun _ => ifB_false rfl (ar_i64 (by omega) (by omega) ⟨f.blocks.length - (i + 1), by omega, i + 1, C, rfl, by omega, rfl, hC, hCo, hm, hCs, hC0, fun hmore i' k' hi' hci hk' hl => by
      by_cases e : i' = i
      · subst e; exact hCi hmore k' (by have := hdone hci; omega) hl
      · exact hCc hmore i' k' (by omega) hci hk' hl, S⟩)
    refine ifB_intro (fun hc => ?_) (fun hc => out fun _ => by rw [hsl] at hc; simpa using hc)
    have hkl : k < f.blocks.length := by rw [hsl] at hc; simpa using hc
    have hiC : i < C.length := by omega
    refine idx_rdN S.rd rfl hiC fun p4 _ hp4 => ld_one hp4 ?_
    cases hCii : C[i] with
    | false => exact out fun h => by rw [getD_lt hiC, hCii] at h; cases h
    | true =>
      have hri : Rch (graphF f) i := hCs i (by rw [getD_lt hiC]; exact hCii)
      refine hk1 _ _ fun _ => ifB_true rfl ?_
      intro k2 hk2
      have nxt : ∀ (more' : Bool) h' (C' : List Bool), C'.length = f.blocks.length → open' C' ≤ open' B → (more' = true → open' C' < open' B) → (∀ k, C'.getD k false = true → Rch (graphF f) k) → C'.getD 0 false = true →
          (more' = false → ∀ i' k : Nat, i' < i → C'.getD i' false = true → k < f.blocks.length → leadsF f i' k = true → C'.getD k false = true) →
          (more' = false → ∀ k' : Nat, k' < k + 1 → leadsF f i k' = true → C'.getD k' false = true) → Sep h1 h' [ownSl si_Lbool eBool s C'] → k2 more' h' := fun more' h' C' q1 q2 q3 q4 q5 q6 q7 q8 =>
        hk2 _ _ fun _ => ar_i64 (by omega) (by omega) ⟨f.blocks.length - (k + 1), by omega, k + 1, C', rfl, by omega, rfl, q1, q2, q3, q4, q5, q6, q7, q8⟩
      intro k3 hk3
      have hkC : k < C.length := by omega
      have skip : ∀ h', (leadsF f i k = true → C.getD k false = true) → Sep h1 h' [ownSl si_Lbool eBool s C] → k3 false h' := fun h' hno S' => hk3 _ _ fun _ => ifB_false rfl (nxt more h' C hC hCo hm hCs hC0 hCc (fun hmore k' hk' hl => by
        by_cases e : k' = k
        · subst e; exact hno hl
        · exact hCi hmore k' (by omega) hl) S')
      refine idx_rdN S.rd rfl hkC fun p3 _ hp3 => ld_one hp3 ?_
      refine ifB_intro (fun hno => ?_) (fun hyes => skip _ (fun _ => by rw [getD_lt hkC]; simpa using hyes) S)
      have hfalse : C[k] = false := by simpa using hno
      refine ld_agg hp S.old.ext rfl fun cs2 hcs2 => ?_
      refine (refLeads_calls (rFunc.ext hcs2 S.old.ext) hil (k : Int)).mono ?_
      rintro v h7 ⟨rfl, o7⟩
      refine ⟨_, rfl, ?_⟩
      cases hlk : leadsF f i k with
      | false => exact skip _ (fun h => by rw [hlk] at h; cases h) (S.grow o7)
      | true =>
        refine hk3 _ _ fun _ => ifB_true rfl ?_
        have S7 := S.grow o7
        refine idx_rdN S7.rd rfl hkC fun p2 hat2 _ => ?_
        refine st_flat S7 (x := true) (own_bool true) hat2 rfl hkC fun h8 S8 => ?_
        have hcs := count_set hkC hfalse
        refine nxt true h8 _ (by simpa using hC) (by omega) (fun _ => by omega) (fun z hz => ?_) ?_ (fun h => by cases h) (fun h => by cases h) S8
        · rw [getD_set hkC] at hz
          split at hz
          · rename_i e; subst e; exact .step hri (by rw [← leadsF_eq]; exact hlk) (by omega)
          · exact hCs z hz
        · rw [getD_set hkC]; split
          · rfl
          · exact hC0
  · have hie : f.blocks.length ≤ i := by rw [hsl] at hc; simpa using hc
    refine ⟨open' C + (if more then 1 else 0), ?_, C, hC, fun _ => hpos rfl, hCs, fun hmore _ => ⟨hC0, fun i' k hci hk hl => ?_⟩, rfl, S⟩
    · cases more with
      | true => have := hm rfl; simp; omega
      | false => simp; omega
    · have : i' < f.blocks.length := by have := (hCs i' hci).lt; omega
      exact hCc hmore i' k (by omega) hci hk hl

end Go.Proofs.YtojdbliehgejbaaDoor

/-
  Whether a shape is right, by the document.
-/
namespace Go.Proofs.YtojdbliehgejbaaDoor
open Go.Fw Go.Pl Go.Pl.Api

theorem refRight_calls {h : Heap} {cs : Array Value} {f : MFunc} (hf : rFunc.rv h cs.toList f) (hn : f.blocks.length ≤ 1000) :
    ACalls Tryd.prog F_lateenref08_Right [.agg cs] h (fun v h' => v = .bool (rightB f) ∧ Old h h') := by
  refine lateenref08_Right_of ?_
  unfold lateenref08_Right
  refine new_rv hf fun p h1 o1 hp => ?_
  have hb := fld_blocks.rd hp
  have no : ∀ h', Old h1 h' → ¬ RightP f → (Value.bool false) = .bool (rightB f) ∧ Old h h' := fun h' o hr => by
    refine ⟨?_, o1.trans o⟩
    cases e : rightB f with
    | false => rfl
    | true => exact absurd (rightB_iff.1 e) hr
  refine loop_intro (fun m t h' => ∃ i : Nat, t = i ∧ i ≤ f.blocks.length ∧ m = f.blocks.length - i ∧ Old h1 h' ∧ ∀ j (hj : j < i) (hl : j < f.blocks.length), place f f.blocks[j].name = some j ∧
      ((∀ t ∈ f.blocks[j].term.to, ∃ k, place f t = some k ∧ k ≠ 0) ∧ f.blocks[j].term.to.Pairwise (· ≠ ·))) f.blocks.length
    ⟨0, rfl, by omega, by omega, .refl _, fun i hi => by omega⟩ ?_
  rintro m _ t h2 ⟨i, rfl, hi, rfl, o2, hyes⟩
  refine ld_lst hb o2.ext fun x hx => ?_
  have hxl := hx.lenEq
  refine ifB_intro (fun hc => ?_) (fun hc => ?_)
  · have hil : i < f.blocks.length := by rw [hxl] at hc; simpa using hc
    refine ld_agg hp o2.ext rfl fun cs1 hcs1 => ?_
    refine ld_lst hb o2.ext fun x2 hx2 => ?_
    refine idx_rdN hx2 rfl hil fun p1 _ hp1 => ?_
    refine ld_str (fld_name.rd hp1) o2.ext ?_
    refine (refPlace_calls (rFunc.ext hcs1 o2.ext) _).mono ?_
    rintro v h3 ⟨rfl, o3⟩
    have o13 := o2.trans o3
    obtain ⟨kk, hkk, hki⟩ := place_self hil
    refine place_as (fun k hk => ?_) (fun hk => by rw [hk] at hkk; cases hkk)
    refine ⟨o3.ext, ifB_intro (fun hne => no _ o13 fun r => ?_) (fun heq => ?_)⟩
    · have := r.names i hil
      rw [hk] at this
      injection this with this
      subst this
      simp at hne
    have hki : place f f.blocks[i].name = some i := by
      have : (k : Int) = i := by simpa using heq
      have : k = i := by omega
      rw [hk, this]
    refine ld_lst hb o13.ext fun x4 hx4 => ?_
    refine idx_rdN hx4 rfl hil fun p2 _ hp2 => ?_
    refine ld_lst (to_rd hp2) o13.ext fun x5 hx5 => ?_
    have hx5l := hx5.lenEq
    have hx5b := hx5.bound
    refine loop_intro (fun m t h' => ∃ k : Nat, t = k ∧ k ≤ f.blocks[i].term.to.length ∧ m = f.blocks[i].term.to.length - k ∧ Old h1 h' ∧ (∀ j (hj : j < k) (hl : j < f.blocks[i].term.to.length), ∃ q, place f f.blocks[i].term.to[j] = some q ∧ q ≠ 0) ∧
        ∀ j j' (hjj : j < j') (hj : j' < k) (hl : j' < f.blocks[i].term.to.length), f.blocks[i].term.to[j] ≠ f.blocks[i].term.to[j']) f.blocks[i].term.to.length
      ⟨0, rfl, by omega, by omega, o13, (fun i hi => by omega), fun _ _ _ hj => by omega⟩ ?_
    rintro m _ t h4 ⟨k, rfl, hk4, rfl, o4, hpl, hdis⟩
    refine ifB_intro (fun hc => ?_) (fun hc => ?_)
    · have hkl : k < f.blocks[i].term.to.length := by rw [hx5l] at hc; simpa using hc
      refine ld_agg hp o4.ext rfl fun cs6 hcs6 => ?_
      refine idx_rdN hx5 rfl hkl fun p3 _ hp3 => ?_
      refine ld_str hp3 o4.ext ?_
      refine (refPlace_calls (rFunc.ext hcs6 o4.ext) _).mono ?_
      rintro v h5 ⟨rfl, o5⟩
      have o15 := o4.trans o5
      refine place_as (fun q hq => ?_) (fun hq => ?_)
      · intro k1 hk1
        refine ifB_false rfl ?_
        refine hk1 _ _ fun _ => ?_
        refine ifB_intro (fun hz => no _ o15 fun r => ?_) (fun hz => ?_)
        · obtain ⟨q', hq', hne⟩ := (r.ends i hil).1 _ (List.getElem_mem hkl)
          rw [hq] at hq'
          injection hq' with hq'
          subst hq'
          have : (q : Int) = 0 := by simpa using hz
          omega
        have hq0 : q ≠ 0 := fun e => by subst e; simp at hz
        refine loop_intro (fun m t h' => ∃ j : Nat, t = j ∧ j ≤ k ∧ m = k - j ∧ h' = h5 ∧ ∀ z (hz : z < j) (hl : z < f.blocks[i].term.to.length), f.blocks[i].term.to[z] ≠ f.blocks[i].term.to[k]) k ⟨0, rfl, by omega, by omega, rfl, fun z hz => by omega⟩ ?_
        rintro m _ t h6 ⟨j, rfl, hj, rfl, rfl, hdj⟩
        refine ifB_intro (fun hc => ?_) (fun hc => ?_)
        · have hjk : j < k := by have := of_decide_eq_true hc; omega
          have hjl : j < f.blocks[i].term.to.length := by omega
          refine idx_rdN hx5 rfl hjl fun p4 _ hp4 => ?_
          refine ld_str hp4 o15.ext ?_
          refine idx_rdN hx5 rfl hkl fun p5 _ hp5 => ?_
          refine ld_str hp5 o15.ext ?_
          rw [bytes_eq]
          refine ifB_intro (fun he => no _ o15 fun r => ?_) (fun he => ar_i64 (by omega) (by omega) ⟨k - (j + 1), by omega, j + 1, rfl, by omega, rfl, rfl, fun z hz hl => ?_⟩)
          · exact List.pairwise_iff_getElem.1 (r.ends i hil).2 j k hjl hkl hjk (of_decide_eq_true he)
          · by_cases e : z = j
            · subst e; exact of_decide_eq_false he
            · exact hdj z (by omega) hl
        · have hjk : j = k := by have := of_decide_eq_false hc; omega
          subst hjk
          refine ar_i64 (by omega) (by omega) ⟨f.blocks[i].term.to.length - (j + 1), by omega, j + 1, rfl, by omega, rfl, o15, fun j' hj' hl' => ?_, fun a b hab hb hl => ?_⟩
          · by_cases e : j' = j
            · subst e; exact ⟨q, hq, hq0⟩
            · exact hpl j' (by omega) hl'
          · by_cases e : b = j
            · subst e; exact hdj a hab (by omega)
            · exact hdis a b hab (by omega) hl
      · intro k1 hk1
        refine ifB_true rfl ?_
        refine hk1 _ _ fun _ => ifB_true rfl (no _ o15 fun r => ?_)
        obtain ⟨q', hq', hne⟩ := (r.ends i hil).1 _ (List.getElem_mem hkl)
        rw [hq] at hq'
        cases hq'
    · have hkl : f.blocks[i].term.to.length ≤ k := by rw [hx5l] at hc; simpa using hc
      refine ar_i64 (by omega) (by omega) ⟨f.blocks.length - (i + 1), by omega, i + 1, rfl, by omega, rfl, o4, fun j hj hl => ?_⟩
      by_cases e : j = i
      · subst e
        refine ⟨hki, fun t ht => ?_, List.pairwise_iff_getElem.2 fun a b ha hb hab => hdis a b hab (by omega) hb⟩
        obtain ⟨q, hq, rfl⟩ := List.getElem_of_mem ht
        exact hpl q (by omega) hq
      · exact hyes j (by omega) hl
  · have hil : f.blocks.length ≤ i := by rw [hxl] at hc; simpa using hc
    refine ld_agg hp o2.ext rfl fun cs10 hcs10 => ?_
    refine (refCome_calls (rFunc.ext hcs10 o2.ext) hn).mono ?_
    rintro v h8 ⟨s, rfl, S⟩
    refine ⟨_, rfl, ?_⟩
    have hsl := S.rd.lenEq
    have hsb := S.rd.bound
    have hcl := come_len (graphF f)
    rw [graphF_len] at hcl
    refine loop_intro (fun m t h' => ∃ j : Nat, t = j ∧ j ≤ (comeOf (graphF f)).length ∧ m = (comeOf (graphF f)).length - j ∧ h' = h8 ∧ ∀ z (hz : z < j) (hl : z < (comeOf (graphF f)).length), (comeOf (graphF f))[z] = true) (comeOf (graphF f)).length
      ⟨0, rfl, by omega, by omega, rfl, fun z hz => by omega⟩ ?_
    rintro m _ t h9 ⟨j, rfl, hj, rfl, rfl, hall⟩
    have o9 := o2.trans S.old
    refine ifB_intro (fun hc => ?_) (fun hc => ⟨?_, o1.trans o9⟩)
    · have hjl : j < (comeOf (graphF f)).length := by rw [hsl] at hc; simpa using hc
      refine idx_rdN S.rd rfl hjl fun p6 _ hp6 => ld_one hp6 ?_
      refine ifB_intro (fun hno => no _ o9 fun r => ?_) (fun hyes2 => ar_i64 (by omega) (by omega) ⟨(comeOf (graphF f)).length - (j + 1), by omega, j + 1, rfl, by omega, rfl, rfl, fun z hz hl => ?_⟩)
      · have := r.come _ (List.getElem_mem hjl)
        rw [this] at hno
        cases hno
      · by_cases e : z = j
        · subst e; simpa using hyes2
        · exact hall z (by omega) hl
    · have hjl : (comeOf (graphF f)).length ≤ j := by rw [hsl] at hc; simpa using hc
      congr 1
      cases e : rightB f with
      | true =>
        have r := rightB_iff.1 e
        have := r.pos
        exact decide_eq_true (by omega)
      | false =>
        refine decide_eq_false fun hp0 => ?_
        have r : RightP f := ⟨by omega, fun i' hi' => (hyes i' (by omega) hi').1, fun i' hi' => (hyes i' (by omega) hi').2, fun b hb => by
          obtain ⟨z, hz, rfl⟩ := List.getElem_of_mem hb
          exact hall z (by omega) hz⟩
        rw [rightB_iff.2 r] at e
        cases e

end Go.Proofs.YtojdbliehgejbaaDoor

/-
  What the functions of layer 9 and their references do.
-/
namespace Go.Proofs.YtojdbliehgejbaaDoor
open Go.Fw Go.Pl

abbrev eInts : Elem (List Int) := Elem.sl si_Lint eInt
abbrev eStep : Elem (Int × Int) := Elem.prod eInt eInt

theorem flat_int : eInt.Flat := Elem.cell_flat _ _
theorem flat_bool : eBool.Flat := Elem.cell_flat _ _
theorem row_eq {G : Graph} {a : Nat} (h : a < G.length) : G[a] = G.getD a [] := by simp [h]

theorem index_calls {h : Heap} {s : Sl} {A : List Int} (ha : rdSl eInt h s A) (x : Int) :
    ACalls Tryd.prog F_slices_Index_0 [s.v, .int .i64 x] h (fun v h' => v = .int .i64 (if x ∈ A then (A.idxOf x : Int) else -1) ∧ h' = h) := by
  refine slices_Index_0_of ?_
  have hl := ha.lenEq
  have hb := ha.bound
  unfold slices_Index_0
  refine loop_intro (fun m i h1 => ∃ k : Nat, i = k ∧ h1 = h ∧ k ≤ A.length ∧ m = A.length - k ∧ x ∉ A.take k) A.length ⟨0, rfl, rfl, by omega, by omega, by simp⟩ ?_
  rintro m _ i h1 ⟨k, rfl, rfl, hk, rfl, hno⟩
  refine ifB_intro (fun hc => ?_) (fun hc => ⟨?_, rfl⟩)
  · have hlt : k < A.length := by simpa [hl] using hc
    refine idx_rdN ha rfl hlt fun p _ hp => ld_one hp ?_
    refine ifB_intro (fun hc => ⟨?_, rfl⟩) (fun hc => ar_i64 (by omega) (by omega) ⟨A.length - (k + 1), by omega, k + 1, by omega, rfl, by omega, rfl, ?_⟩)
    · have he : x = A[k] := by simpa using hc
      have hmem : x ∈ A := by rw [he]; exact List.getElem_mem _
      rw [if_pos hmem]
      congr 2
      have h1 : A = A.take k ++ A[k] :: A.drop (k + 1) := by simp
      rw [h1, List.idxOf_append, if_neg hno, ← he]
      simp
      omega
    · have hne : x ≠ A[k] := by simpa using hc
      rw [List.take_succ_eq_append_getElem hlt, List.mem_append, List.mem_singleton]
      rintro (h | h)
      · exact hno h
      · exact hne h
  · have : A.length ≤ k := by simpa [hl] using hc
    rw [List.take_of_length_le this] at hno
    rw [if_neg hno]

theorem contains_calls {h : Heap} {s : Sl} {A : List Int} (ha : rdSl eInt h s A) (x : Int) :
    ACalls Tryd.prog F_slices_Contains_0 [s.v, .int .i64 x] h (fun v h' => v = .bool (A.contains x) ∧ h' = h) := by
  refine slices_Contains_0_of ?_
  unfold slices_Contains_0
  refine (index_calls ha x).mono ?_
  rintro v h' ⟨rfl, rfl⟩
  refine ⟨_, rfl, ?_, rfl⟩
  by_cases hm : x ∈ A
  · rw [if_pos hm]; simp [hm]
  · rw [if_neg hm]; simp [hm]


theorem preds_calls {h : Heap} {g : Sl} {G : Graph} (hg : rdSl eInts h g G) (hn : G.length ≤ 1000) :
    ACalls Tryd.prog F_flow_Preds [g.v] h (fun v h' => ∃ s : Sl, v = s.v ∧ Sep h h' [ownSl si_LLint eInts s (predsOf G)]) := by
  refine flow_Preds_of ?_
  have hl := hg.lenEq
  unfold flow_Preds
  refine ⟨rfl, mk_rule (x := []) (E := eInts) (Sep.start h) rfl (fun _ => ⟨⟨none, 0, 0⟩, rfl, ownSl_nil _ _ rfl _⟩) (by omega) (by omega) (by simp only [si_LLint]; omega) fun s h' S => ?_⟩
  refine loop_intro (fun m t h1 => ∃ k : Nat, t = k ∧ k ≤ G.length ∧ m = G.length - k ∧ Sep h h1 [ownSl si_LLint eInts s (rowsP G k 0)]) G.length
    ⟨0, rfl, by omega, by omega, S.cast (by rw [rowsP_start, hl]; simp)⟩ ?_
  clear S
  rintro m _ t h1 ⟨k, rfl, hk, rfl, S⟩
  refine ifB_intro (fun hc => ?_) (fun hc => ⟨_, rfl, ?_⟩)
  · have hlt : k < G.length := by simpa [hl] using hc
    refine idx_rdN hg rfl hlt fun p _ hp => ld_slB hp S.old fun x hx => ?_
    rw [row_eq] at hx
    have hxl := hx.lenEq
    have hxb := hx.bound
    refine loop_intro (fun m t h2 => ∃ j : Nat, t = j ∧ j ≤ (G.getD k []).length ∧ m = (G.getD k []).length - j ∧ Sep h h2 [ownSl si_LLint eInts s (rowsP G k j)]) (G.getD k []).length
      ⟨0, rfl, by omega, by omega, S⟩ ?_
    clear S
    rintro m _ t h2 ⟨j, rfl, hj, rfl, S⟩
    refine ifB_intro (fun hc => ?_) (fun hc => ?_)
    · have hjl : j < (G.getD k []).length := by simpa [hxl] using hc
      intro k1 hk1
      refine idx_rdN hx rfl hjl fun p _ hp => ld_oneB hp S.old ?_
      -- what stands behind the test
      have fin : ∀ h3, Sep h h3 [ownSl si_LLint eInts s (rowsP G k (j + 1))] → k1 () h3 := fun h3 S3 =>
        hk1 _ _ fun _ => ar_i64 (by omega) (by omega) ⟨(G.getD k []).length - (j + 1), by omega, j + 1, rfl, by omega, rfl, S3⟩
      intro k2 hk2
      have no : (∀ i : Nat, i < G.length → (G.getD k [])[j] = i → ((G.getD k []).take j).contains (i : Int) = true) → k2 false h2 := fun hno =>
        hk2 _ _ fun _ => fin h2 (by rw [rowsP_skip hjl hno]; exact S)
      refine ifB_intro (fun hc => ?_) (fun hc => no fun i hi e => ?_)
      · refine ifB_intro (fun hc2 => ?_) (fun hc2 => no fun i hi e => ?_)
        · obtain ⟨i, hi⟩ := Int.eq_ofNat_of_zero_le (a := (G.getD k [])[j]) (by simpa using hc)
          have hin : i < G.length := by rw [hi, hl] at hc2; simpa using hc2
          have hin' : i < (rowsP G k j).length := by rw [rowsP_len]; exact hin
          rw [hi]
          refine idx_rdN S.rd rfl hin' fun p _ hp => ld_sl hp fun y hy => ?_
          refine (contains_calls hy k).mono ?_
          rintro v h' ⟨rfl, rfl⟩
          refine ⟨_, rfl, ?_⟩
          rw [rowsP_has hin']
          cases hcon : ((G.getD k []).take j).contains (i : Int) with
          | true =>
            refine no fun i' hi' e => ?_
            have : i' = i := by rw [hi] at e; omega
            subst this
            exact hcon
          | false =>
            refine hk2 _ _ fun _ => ?_
            simp only [Bool.not_false, ifB]
            rw [hi]
            have hrl : (rowsP G k j)[i].length ≤ k + 1 := by
              rw [rowsP_get, List.length_append]
              have := pre_len G k i
              split <;> simp <;> omega
            refine app_row (v := .int .i64 k) (x := (k : Int)) S hin' (fun _ => ⟨rfl, rfl⟩) rfl (by decide) (by simp only [si_Lint]; omega) (by omega) fun h3 S3 => ?_
            exact fin h3 (S3.cast (by rw [rowsP_put hjl hin hi hcon]))
        · have := of_decide_eq_false hc2; omega
      · have := of_decide_eq_false hc; omega
    · have : (G.getD k []).length ≤ j := by simpa [hxl] using hc
      refine ar_i64 (by omega) (by omega) ⟨G.length - (k + 1), by omega, k + 1, rfl, by omega, rfl, S.cast ?_⟩
      rw [rowsP_next this]
  · have : k = G.length := by simp [hl] at hc; omega
    subst this
    rw [rowsP_end] at S
    exact S


theorem reverse_calls {h0 h : Heap} {L : List As} {s : Sl} {l : List Int} (S : Sep h0 h (ownSl si_Lint eInt s l :: L)) :
    ACalls Tryd.prog F_slices_Reverse [s.v] h (fun v h' => v = .tuple #[] ∧ Sep h0 h' (ownSl si_Lint eInt s l.reverse :: L)) := by
  refine slices_Reverse_of ?_
  have hl := S.rd.lenEq
  have hb := S.rd.bound
  unfold slices_Reverse
  refine ar_i64 (by omega) (by omega) ?_
  refine loop_intro (fun m t h1 => ∃ k : Nat, t.1 = k ∧ t.2 = (l.length : Int) - 1 - k ∧ k ≤ l.length ∧ m = l.length - k ∧ Sep h0 h1 (ownSl si_Lint eInt s (revK l k) :: L)) l.length
    ⟨0, rfl, by show (s.len : Int) - 1 = _; omega, by omega, by omega, by rw [revK_zero]; exact S⟩ ?_
  clear S
  rintro m _ ⟨i, j⟩ h1 ⟨k, hi, hj, hk, rfl, S⟩
  simp only at hi hj ⊢
  subst hi
  have hrl := revK_len l k
  refine ifB_intro (fun hc => ?_) (fun hc => ⟨trivial, ?_⟩)
  · have hlt : k < l.length - 1 - k := by have := of_decide_eq_true hc; omega
    have hj2 : j = ((l.length - 1 - k : Nat) : Int) := by omega
    subst hj2
    refine idx_rdN S.rd rfl (show l.length - 1 - k < (revK l k).length by omega) fun p _ hp => ld_one hp <| idx_rdN S.rd rfl (show k < (revK l k).length by omega) fun p _ hp => ld_one hp ?_
    rw [revK_get, revK_get, if_neg (by omega), if_neg (by omega)]
    refine idx_rdN S.rd rfl (show k < (revK l k).length by omega) fun p hat _ => ?_
    refine st_flat S (own_int (l.getD (l.length - 1 - k) 0)) hat rfl (by omega) fun h2 S2 => ?_
    refine idx_rdN S2.rd rfl (show l.length - 1 - k < ((revK l k).set k (l.getD (l.length - 1 - k) 0)).length by simp; omega) fun p hat _ => ?_
    refine st_flat S2 (own_int (l.getD k 0)) hat rfl (by rw [List.length_set]; omega) fun h3 S3 => ?_
    refine ar_i64 (by omega) (by omega) <| ar_i64 (by omega) (by omega) ⟨l.length - (k + 1), by omega, k + 1, rfl, by show (((l.length - 1 - k : Nat) : Int) - 1) = _; omega, by omega, rfl, ?_⟩
    rw [revK_succ hlt]
    exact S3
  · have : l.length ≤ 2 * k + 1 := by have := of_decide_eq_false hc; omega
    rw [revK_end this] at S
    exact S

/-- The stack's cells. -/
def stk (st : List (Nat × Nat)) : List (Int × Int) := st.reverse.map fun x => ((x.1 : Int), (x.2 : Int))
theorem stk_len (st : List (Nat × Nat)) : (stk st).length = st.length := by simp [stk]
theorem stk_cons (a i : Nat) (r : List (Nat × Nat)) : stk ((a, i) :: r) = stk r ++ [((a : Int), (i : Int))] := by simp [stk]
theorem own_step (a i : Int) (h : Heap) : eStep.own [.int .i64 a, .int .i64 i] (a, i) h [] := ⟨[.int .i64 a], [.int .i64 i], [], [], rfl, rfl, ⟨rfl, rfl⟩, ⟨rfl, rfl⟩⟩

theorem walk_calls {h : Heap} {g : Sl} {G : Graph} (hg : rdSl eInts h g G) (hn : G.length ≤ 1000) :
    ACalls Tryd.prog F_flow_walk [g.v] h (fun v h' => ∃ r1 r2 : Sl, v = .tuple #[r1.v, r2.v] ∧ Sep h h' [ownSl si_Lbool eBool r1 (search G).1, ownSl si_Lint eInt r2 (search G).2]) := by
  refine flow_walk_of ?_
  have hl := hg.lenEq
  unfold flow_walk
  refine ⟨rfl, mk_rule (x := false) (E := eBool) (Sep.start h) rfl (fun _ => ⟨rfl, rfl⟩) (by omega) (by omega) (by simp only [si_Lbool]; omega) fun s h1 S => ?_⟩
  refine ifB_intro (fun hc => ⟨s, _, rfl, ?_⟩) (fun hc => ?_)
  · have h0 : G = [] := List.eq_nil_of_length_eq_zero (by have : (g.len : Int) = 0 := by simpa using hc
                                                          omega)
    subst h0
    have : (search []) = ([], []) := rfl
    rw [this]
    refine (S.cast ?_ |>.nil (E := eInt) (si := si_Lint) rfl).swap
    rw [hl]; rfl
  · obtain ⟨f, hf⟩ : ∃ f, G.length = f + 1 := ⟨G.length - 1, by have : (g.len : Int) ≠ 0 := by simpa using hc
                                                                omega⟩
    have S0 : Sep h h1 [ownSl si_Lbool eBool s (List.replicate (f + 1) false)] := S.cast (by rw [hl, hf]; simp)
    refine idx_rdN (i := 0) S0.rd rfl (by simp) fun p hat _ => ?_
    refine st_flat S0 (own_bool true) hat rfl (by simp) fun h2 S1 => ?_
    refine ⟨#[.int .i64 0, .int .i64 0], rfl, ?_⟩
    -- the stack: one point
    have S2 : Sep h h2 [ownSl si_Lflow_step eStep ⟨none, 0, 0⟩ [], ownSl si_Lint eInt ⟨none, 0, 0⟩ [], ownSl si_Lbool eBool s ((List.replicate (f + 1) false).set 0 true)] := (S1.nil rfl).nil rfl
    refine bld_one S2 (own_step 0 0) rfl (by decide) fun s1 h3 S3 => ?_
    rw [search_cons hf]
    have hst := unw_start hf
    have hop : open' (List.replicate (f + 1) false) = f + 1 := by unfold open'; simp
    have hc1 := count_set (M := List.replicate (f + 1) false) (a := 0) (by simp) (by simp)
    refine loop_intro (fun m t h1 => ∃ (M : List Bool) (l : List Int) (st : List (Nat × Nat)), Sep h h1 [ownSl si_Lflow_step eStep t.2 (stk st), ownSl si_Lint eInt t.1 l, ownSl si_Lbool eBool s M] ∧
        M.length = G.length ∧ (∀ x ∈ st, x.1 < G.length ∧ x.2 ≤ (G.getD x.1 []).length) ∧ l.length + st.length + open' M = G.length ∧
        unw G (f + 1) st (M, l) = dn G (f + 1) 0 (List.replicate (f + 1) false) [] ∧ m = todo G st M) _
      ⟨_, [], [(0, 0)], S3, by simp [hf], by simp [hf], by simp; omega, hst, rfl⟩ ?_
    clear S S0 S1 S2 S3 hst hop hc1 hat
    rintro m _ ⟨left, stack⟩ h4 ⟨M, l, st, S, hM, hst, hcount, hunw, rfl⟩
    simp only at S ⊢
    have hsl := S.rd.lenEq
    rw [stk_len] at hsl
    refine ifB_intro (fun hc => ?_) (fun hc => ?_)
    · cases st with
      | nil => have := of_decide_eq_true hc; simp at hsl; omega
      | cons x r =>
        obtain ⟨a, i⟩ := x
        obtain ⟨ha, hi⟩ := hst (a, i) (by simp)
        simp only at ha hi
        have hsl' : stack.len = r.length + 1 := by simpa using hsl
        refine ar_i64 (by omega) (by omega) ?_
        have e1 : (stack.len : Int) - 1 = ((r.length : Nat) : Int) := by omega
        rw [e1]
        have hin : r.length < (stk ((a, i) :: r)).length := by rw [stk_len]; simp
        have htop : (stk ((a, i) :: r))[r.length] = ((a : Int), (i : Int)) := by simp only [stk_cons]; rw [List.getElem_append_right (by rw [stk_len]; exact Nat.le_refl _)]; simp
        refine idx_rdN S.rd rfl hin fun p hat hp => ?_
        rw [htop] at hp
        obtain ⟨hp1, hp2⟩ := hp
        have hp0 : holds h4 (p.add 0) (.int .i64) (a : Int) := by rw [Addr.add_zero']; exact hp1
        refine ld_one (k := .int .i64) hp2 <| ld_one hp0 <| idx_rdN hg rfl ha fun p2 _ hq => ld_slB hq S.old fun row hrow => ?_
        rw [row_eq] at hrow
        have hrl := hrow.lenEq
        have hrb := hrow.bound
        refine ifB_intro (fun hc => ?_) (fun hc => ?_)
        · -- the point is left
          have hie : (G.getD a []).length = i := by have : (i : Int) = (row.len : Int) := by simpa using hc
                                                    omega
          refine ld_one hp0 ?_
          refine app1_flat S.swap (own_int a) rfl (by decide) (by simp only [si_Lint]; simp at hcount; omega) (by simp at hcount; omega) fun s3 h5 S5 => ?_
          refine ar_i64 (by omega) (by omega) ?_
          refine slc_to S5.swap (by omega) (by rw [stk_len]; simp; omega) fun s4 S6 => ?_
          refine ⟨_, todo_pop, M, l ++ [(a : Int)], r, S6.cast ?_, hM, fun x hx => hst x (by simp [hx]), by simp at hcount ⊢; omega, ?_, rfl⟩
          · rw [stk_cons, Int.toNat_natCast, List.take_left' (stk_len r)]
          · rw [← hunw, unw_pop (by omega)]
        · -- the next one that it leads to
          have hil : i < (G.getD a []).length := by
            have : ¬ (i : Int) = (row.len : Int) := by simpa using hc
            omega
          refine ld_one hp0 <| idx_rdN hg rfl ha fun p3 _ hq3 => ld_slB hq3 S.old fun row2 hrow2 => ?_
          rw [row_eq] at hrow2
          refine ld_one (k := .int .i64) hp2 <| idx_rdN hrow2 rfl hil fun p4 _ hp4 => ld_oneB hp4 S.old <| ld_one (k := .int .i64) hp2 <| ar_i64 (by simp only; omega) (by simp only; omega) ?_
          obtain ⟨kx, hkx⟩ : ∃ kx, (G.getD a [])[i] = kx := ⟨_, rfl⟩
          simp only [hkx]
          refine st_sub (x := ((a : Int), ((i + 1 : Nat) : Int))) S hat rfl hin (by intro v hv; simp at hv; rw [hv]; rfl) (Nat.le_refl 2) ?_ fun h5 S5 => ?_
          · intro h xs fx ho
            rw [htop] at ho
            obtain ⟨xs1, xs2, f1, f2, rfl, rfl, ⟨rfl, rfl⟩, ⟨rfl, rfl⟩⟩ := ho
            exact own_step _ _ _
          have hset : (stk ((a, i) :: r)).set r.length ((a : Int), ((i + 1 : Nat) : Int)) = stk ((a, i + 1) :: r) := by
            rw [stk_cons, stk_cons, List.set_append_right _ _ (by rw [stk_len]; exact Nat.le_refl _), stk_len]
            simp
          rw [hset] at S5
          intro k1 hk1
          have skip : ¬ (0 ≤ (G.getD a [])[i] ∧ (G.getD a [])[i] < G.length ∧ M.getD (G.getD a [])[i].toNat false = false) → k1 false h5 := fun hno =>
            hk1 _ _ fun _ => ⟨_, todo_skip hil, M, l, (a, i + 1) :: r, S5, hM, fun x hx => by
              rcases List.mem_cons.1 hx with rfl | hx
              · exact ⟨ha, hil⟩
              · exact hst x (by simp [hx]), by simp at hcount ⊢; omega, by rw [← hunw, unw_skip hil hno], rfl⟩
          rw [hkx] at skip
          refine ifB_intro (fun hc => ?_) (fun hc => skip fun hno => ?_)
          · refine ifB_intro (fun hc2 => ?_) (fun hc2 => skip fun hno => ?_)
            · have h1k := of_decide_eq_true hc
              have h2k := of_decide_eq_true hc2
              obtain ⟨k, rfl⟩ := Int.eq_ofNat_of_zero_le (a := kx) (by omega)
              have hkn : k < G.length := by omega
              have hkM : k < M.length := by omega
              refine idx_rdN (S5.rot3.rd) rfl hkM fun p _ hp => ld_one hp ?_
              cases hMk : M[k] with
              | true =>
                refine skip fun hno => ?_
                have := hno.2.2
                simp [hkM, hMk] at this
              | false =>
                have hMk' : M.getD k false = false := by simp [hkM, hMk]
                refine hk1 _ _ fun _ => ?_
                simp only [Bool.not_false, ifB]
                refine idx_rdN (S5.rot3.rd) rfl hkM fun p hat2 _ => ?_
                refine st_flat S5.rot3 (own_bool true) hat2 rfl hkM fun h6 S6 => ?_
                refine ⟨#[.int .i64 k, .int .i64 0], rfl, ?_⟩
                have hcm := count_set hkM hMk
                simp only [List.length_cons] at hcount
                refine app1_flat S6.swap (own_step k 0) rfl (by decide) (by rw [stk_len]; simp only [si_Lflow_step, List.length_cons]; omega) (by rw [stk_len]; simp only [List.length_cons]; omega) fun s6 h7 S7 => ?_
                refine ⟨_, todo_push hil hkn hM hMk', M.set k true, l, (k, 0) :: (a, i + 1) :: r, (S7.rot3.swap.cast ?_), by simpa using hM, fun x hx => ?_, by simp only [List.length_cons]; omega, ?_, rfl⟩
                · rw [stk_cons k]; rfl
                · rcases List.mem_cons.1 hx with rfl | hx
                  · exact ⟨hkn, by simp⟩
                  · rcases List.mem_cons.1 hx with rfl | hx
                    · exact ⟨ha, hil⟩
                    · exact hst x (by simp [hx])
                · rw [← hunw]
                  exact (unw_push (s := (M, l)) hil hkx hkn hM hMk' (by simp only; omega)).symm
            · have := of_decide_eq_false hc2; omega
          · have := of_decide_eq_false hc; omega
    · cases st with
      | cons x r => have := of_decide_eq_false hc; simp at hsl; omega
      | nil =>
        refine ⟨s, left, rfl, ?_⟩
        have : (M, l) = dn G (f + 1) 0 (List.replicate (f + 1) false) [] := hunw
        rw [← this]
        exact S.drop.swap


theorem order_calls {h : Heap} {g : Sl} {G : Graph} (hg : rdSl eInts h g G) (hn : G.length ≤ 1000) :
    ACalls Tryd.prog F_flow_Order [g.v] h (fun v h' => ∃ s : Sl, v = s.v ∧ Sep h h' [ownSl si_Lint eInt s (orderOf G)]) := by
  refine flow_Order_of ?_
  unfold flow_Order
  refine (walk_calls hg hn).mono ?_
  rintro v h1 ⟨r1, r2, rfl, S⟩
  refine ⟨r1, r2, rfl, ?_⟩
  refine (reverse_calls S.swap).mono ?_
  rintro v h2 ⟨rfl, S⟩
  exact ⟨rfl, r2, rfl, S.swap.drop⟩
end Go.Proofs.YtojdbliehgejbaaDoor

/-
  The graph of a function.
-/
namespace Go.Proofs.YtojdbliehgejbaaDoor
open Go.Fw Go.Pl Go.Pl.Api

/-! ### The graph -/
def rowsF (f : MFunc) (t j : Nat) : Graph := f.blocks.mapIdx fun i b => if i < t then Pl.rowF f b.term.to else if i = t then Pl.rowF f (b.term.to.take j) else []
theorem rowsF_len {f : MFunc} {t j : Nat} : (rowsF f t j).length = f.blocks.length := by simp [rowsF]
theorem rowsF_get {f : MFunc} {t j i : Nat} (h : i < (rowsF f t j).length) : (rowsF f t j)[i] = if i < t then Pl.rowF f (f.blocks[i]'(by rw [rowsF_len] at h; exact h)).term.to else if i = t then Pl.rowF f ((f.blocks[i]'(by rw [rowsF_len] at h; exact h)).term.to.take j) else [] := by simp [rowsF]

theorem rowF_take {f : MFunc} {l : List ByteArray} {j : Nat} (hj : j < l.length) : Pl.rowF f (l.take (j + 1)) = Pl.rowF f (l.take j) ++ (match place f l[j] with | some k => [(k : Int)] | none => []) := by
  unfold Pl.rowF
  rw [List.take_succ_eq_append_getElem hj, List.filterMap_append]
  congr 1
  cases h : place f l[j] <;> simp [h]

theorem flowOf_calls {h : Heap} {cs : Array Value} {f : MFunc} (hf : rFunc.rv h cs.toList f) (hn : f.blocks.length ≤ 1000) (hto : ∀ b ∈ f.blocks, b.term.to.length ≤ 1000) :
    ACalls Tryd.prog F_flow_Of [.agg cs] h (fun v h' => ∃ s : Sl, v = s.v ∧ Sep h h' [ownSl si_LLint eInts s (graphF f)]) := by
  refine flow_Of_of ?_
  unfold flow_Of
  refine new_rv hf fun p h1 o1 hp => ?_
  have hb := fld_blocks.rd hp
  refine ld_lst hb (hExt.refl _) fun x hx => ?_
  have hxl := hx.lenEq
  refine ⟨rfl, mk_rule (x := []) (E := eInts) (Sep.start h1) rfl (fun _ => ⟨⟨none, 0, 0⟩, rfl, ownSl_nil _ _ rfl _⟩) (by omega) (by omega) (by simp only [si_LLint]; omega) fun s h2 S => ?_⟩
  refine ld_lst hb S.old.ext fun x1 hx1 => ?_
  have hx1l := hx1.lenEq
  rw [hxl, Int.toNat_natCast] at S
  refine loop_intro (fun m t h' => ∃ i : Nat, t = i ∧ i ≤ f.blocks.length ∧ m = f.blocks.length - i ∧ Sep h1 h' [ownSl si_LLint eInts s (rowsF f i 0)]) f.blocks.length
    ⟨0, rfl, by omega, by omega, S.cast (by congr 2; refine List.ext_getElem (by simp [rowsF]) fun i h1 h2 => ?_; rw [rowsF_get]; simp [Pl.rowF])⟩ ?_
  clear S
  rintro m _ t h3 ⟨i, rfl, hi, rfl, S⟩
  refine ifB_intro (fun hc => ?_) (fun hc => ⟨s, rfl, (S.since o1).cast ?_⟩)
  · have hil : i < f.blocks.length := by rw [hx1l] at hc; simpa using hc
    refine idx_rdN hx1 rfl hil fun q _ hq => ?_
    refine ld_agg hq S.old.ext rfl fun cs2 hcs2 => ?_
    refine new_stX hcs2 S.old.ext rfl rfl fun p2 h5 o5 hp2 => ?_
    have S5 := S.grow o5
    refine ld_lstX (bx_two hp2.1 ((Fld.trans fld_term fld_to rfl).bx hp2)) fun x3 hx3 => ?_
    have hx3l := hx3.lenEq
    have hx3b := hto _ (List.getElem_mem hil)
    refine loop_intro (fun m t h' => ∃ j : Nat, t = j ∧ j ≤ f.blocks[i].term.to.length ∧ m = f.blocks[i].term.to.length - j ∧ Sep h1 h' [ownSl si_LLint eInts s (rowsF f i j)]) f.blocks[i].term.to.length
      ⟨0, rfl, by omega, by omega, S5⟩ ?_
    rintro m _ t h6 ⟨j, rfl, hj, rfl, S6⟩
    refine ifB_intro (fun hc => ?_) (fun hc => ?_)
    · have hjl : j < f.blocks[i].term.to.length := by rw [hx3l] at hc; simpa using hc
      intro k hk
      refine idx_rdN hx3 rfl hjl fun p3 _ hp3 => ?_
      refine ld_str hp3 S6.old.ext ?_
      refine ld_agg hp S6.old.ext rfl fun cs5 hcs5 => ?_
      refine (place_calls (rFunc.ext hcs5 S6.old.ext) _).mono ?_
      rintro v h8 ⟨rfl, o8⟩
      have S8 := S6.grow o8
      have hir : i < (rowsF f i j).length := by rw [rowsF_len]; exact hil
      have hri : (rowsF f i j)[i] = Pl.rowF f (f.blocks[i].term.to.take j) := by rw [rowsF_get]; simp
      have fin : ∀ h', Sep h1 h' [ownSl si_LLint eInts s (rowsF f i (j + 1))] → k () h' := fun h' S' =>
        hk _ _ fun _ => ar_i64 (by omega) (by omega) ⟨f.blocks[i].term.to.length - (j + 1), by omega, j + 1, rfl, by omega, rfl, S'⟩
      have hset : ∀ l, Pl.rowF f (f.blocks[i].term.to.take (j + 1)) = Pl.rowF f (f.blocks[i].term.to.take j) ++ l → (rowsF f i j).set i ((rowsF f i j)[i] ++ l) = rowsF f i (j + 1) := fun l e => by
        refine List.ext_getElem (by simp [rowsF_len]) fun z hz1 hz2 => ?_
        rw [List.getElem_set, rowsF_get hz2]
        split
        · rename_i e2; subst e2
          rw [hri]
          simp [e]
        · rename_i e2
          rw [rowsF_get]
          have : ¬ z = i := fun e => e2 e.symm
          simp [this]
      refine place_as (fun q hq => ?_) (fun hq => ?_)
      · refine ifB_true rfl ?_
        refine app_row (v := .int .i64 q) (x := (q : Int)) S8 hir (fun _ => ⟨rfl, rfl⟩) rfl (by decide) ?_ ?_ fun h11 S11 => ?_
        · have : (rowsF f i j)[i].length ≤ 1000 := by
            rw [hri]; unfold Pl.rowF; exact Nat.le_trans (List.length_filterMap_le _ _) (by simp; omega)
          simp only [si_Lint]; omega
        · have : (rowsF f i j)[i].length ≤ 1000 := by
            rw [hri]; unfold Pl.rowF; exact Nat.le_trans (List.length_filterMap_le _ _) (by simp; omega)
          omega
        · exact fin h11 (S11.cast (by rw [hset [(q : Int)] (by rw [rowF_take hjl, hq])]))
      · refine ifB_false rfl ?_
        refine fin h8 (S8.cast ?_)
        have := hset [] (by rw [rowF_take hjl, hq])
        rw [List.append_nil, List.set_getElem_self] at this
        rw [this]
    · have hjl : f.blocks[i].term.to.length ≤ j := by rw [hx3l] at hc; simpa using hc
      refine ar_i64 (by omega) (by omega) ⟨f.blocks.length - (i + 1), by omega, i + 1, rfl, by omega, rfl, S6.cast ?_⟩
      congr 2
      refine List.ext_getElem (by simp [rowsF_len]) fun z hz1 hz2 => ?_
      rw [rowsF_get, rowsF_get]
      by_cases e : z = i
      · subst e; simp [List.take_of_length_le hjl]
      · have : z < i + 1 ↔ z < i := by omega
        simp only [this, e, if_false]
        split
        · rfl
        · split
          · simp [Pl.rowF]
          · rfl
  · have hil : f.blocks.length ≤ i := by rw [hx1l] at hc; simpa using hc
    congr 2
    refine List.ext_getElem (by simp [rowsF_len, graphF]) fun z hz1 hz2 => ?_
    rw [rowsF_len] at hz1
    rw [rowsF_get]
    simp [graphF, show z < i by omega]

end Go.Proofs.YtojdbliehgejbaaDoor
