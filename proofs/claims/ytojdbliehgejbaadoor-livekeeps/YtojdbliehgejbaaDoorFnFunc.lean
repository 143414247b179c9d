/-
  Contracts over functions of the program's data: where blocks stand, what leads to what.
-/
import Derived.Test.YtojdbliehgejbaaDoorGen
import Derived.Test.YtojdbliehgejbaaDoorPlFlow2
import Derived.Test.YtojdbliehgejbaaDoorFwApi
import Derived.Test.YtojdbliehgejbaaDoorPlShape
import Derived.Test.YtojdbliehgejbaaDoorFwMap
namespace Go.Proofs.YtojdbliehgejbaaDoor
open Go.Fw Go.Pl Go.Pl.Api

def placeV (f : MFunc) (name : ByteArray) : Value := match place f name with
  | some k => .tuple #[.int .i64 (k : Int), .bool true]
  | none => .tuple #[.int .i64 0, .bool false]

theorem place_some {f : MFunc} {name : ByteArray} {k : Nat} (hk : k < f.blocks.length) (h : (f.blocks[k].name.toList == name.toList) = true) (hb : ∀ i (hi : i < k), (f.blocks[i].name.toList == name.toList) = false) : place f name = some k := by
  unfold place
  rw [List.findIdx?_eq_some_iff_getElem]
  exact ⟨hk, h, fun j hj => by rw [hb j hj]; simp⟩
theorem place_none {f : MFunc} {name : ByteArray} (hb : ∀ i (hi : i < f.blocks.length), (f.blocks[i].name.toList == name.toList) = false) : place f name = none := by
  unfold place
  rw [List.findIdx?_eq_none_iff]
  intro x hx
  obtain ⟨i, hi, rfl⟩ := List.getElem_of_mem hx
  exact hb i hi

theorem refPlace_calls {h : Heap} {cs : Array Value} {f : MFunc} (hf : rFunc.rv h cs.toList f) (name : ByteArray) :
    ACalls Tryd.prog F_lateenref08_Place [.agg cs, .string name] h (fun v h' => v = placeV f name ∧ Old h h') := by
  refine lateenref08_Place_of ?_
  unfold lateenref08_Place
  refine new_rv hf fun p h1 o1 hp => ?_
  have hb := fld_blocks.rd hp
  refine loop_intro (fun m t h' => ∃ j : Nat, t = j ∧ j ≤ f.blocks.length ∧ m = f.blocks.length - j ∧ h' = h1 ∧ ∀ i (hi : i < j) (hl : i < f.blocks.length), (f.blocks[i].name.toList == name.toList) = false) f.blocks.length
    ⟨0, rfl, by omega, by omega, rfl, fun i hi => by omega⟩ ?_
  rintro m _ t h' ⟨j, rfl, hj, rfl, rfl, hno⟩
  refine ld_lst hb (hExt.refl _) fun x hx => ?_
  have hxl := hx.lenEq
  have hxb := hx.bound
  refine ifB_intro (fun hc => ?_) (fun hc => ?_)
  · have hjl : j < f.blocks.length := by rw [hxl] at hc; simpa using hc
    refine ld_lst hb (hExt.refl _) fun y hy => ?_
    refine idx_rdN hy rfl hjl fun q _ hq => ?_
    refine ld_str (fld_name.rd hq) (hExt.refl _) ?_
    refine ifB_intro (fun hc => ?_) (fun hc => ?_)
    · refine ⟨?_, o1⟩
      unfold placeV
      rw [place_some hjl hc fun i hi => hno i hi (by omega)]
    · refine ar_i64 (by omega) (by omega) ⟨f.blocks.length - (j + 1), by omega, j + 1, rfl, by omega, rfl, rfl, fun i hi hl => ?_⟩
      by_cases e : i = j
      · subst e; exact hc
      · exact hno i (by omega) hl
  · have hjl : f.blocks.length ≤ j := by rw [hxl] at hc; simpa using hc
    refine ⟨?_, o1⟩
    unfold placeV
    rw [place_none fun i hi => hno i (by omega) hi]

theorem place_calls {h : Heap} {cs : Array Value} {f : MFunc} (hf : rFunc.rv h cs.toList f) (name : ByteArray) :
    ACalls Tryd.prog F_shape_Place [.agg cs, .string name] h (fun v h' => v = placeV f name ∧ Old h h') := by
  refine shape_Place_of ?_
  unfold shape_Place
  refine new_rv hf fun p h1 o1 hp => ?_
  have hb := fld_blocks.rd hp
  refine ld_lst hb (hExt.refl _) fun x hx => ?_
  have hxl := hx.lenEq
  have hxb := hx.bound
  refine loop_intro (fun m t h' => ∃ j : Nat, t = j ∧ j ≤ f.blocks.length ∧ m = f.blocks.length - j ∧ Old h1 h' ∧ ∀ i (hi : i < j) (hl : i < f.blocks.length), (f.blocks[i].name.toList == name.toList) = false) f.blocks.length
    ⟨0, rfl, by omega, by omega, .refl _, fun i hi => by omega⟩ ?_
  rintro m _ t h2 ⟨j, rfl, hj, rfl, o2, hno⟩
  refine ifB_intro (fun hc => ?_) (fun hc => ?_)
  · have hjl : j < f.blocks.length := by rw [hxl] at hc; simpa using hc
    refine idx_rdN hx rfl hjl fun q _ hq => ?_
    refine ld_agg hq o2.ext rfl fun cs hcs => ?_
    refine new_st (rBlock.ext hcs o2.ext) rfl rfl fun p2 h4 o4 hp2 => ?_
    refine ld_str (fld_name.rd hp2) (hExt.refl _) ?_
    refine ifB_intro (fun hc => ?_) (fun hc => ?_)
    · refine ⟨?_, (o1.trans o2).trans o4⟩
      unfold placeV
      rw [place_some hjl hc fun i hi => hno i hi (by omega)]
    · refine ar_i64 (by omega) (by omega) ⟨f.blocks.length - (j + 1), by omega, j + 1, rfl, by omega, rfl, o2.trans o4, fun i hi hl => ?_⟩
      by_cases e : i = j
      · subst e; exact hc
      · exact hno i (by omega) hl
  · have hjl : f.blocks.length ≤ j := by rw [hxl] at hc; simpa using hc
    refine ⟨?_, o1.trans o2⟩
    unfold placeV
    rw [place_none fun i hi => hno i (by omega) hi]

/-- Few blocks, and few ends. -/
structure FewF (f : MFunc) : Prop where
  blocks : f.blocks.length ≤ 60
  to : ∀ b ∈ f.blocks, b.term.to.length ≤ 8
  phis : ∀ b ∈ f.blocks, b.phis.length ≤ 40 ∧ ∀ p ∈ b.phis, p.ins.length ≤ 60

theorem refFew_calls {h : Heap} {cs : Array Value} {f : MFunc} (hf : rFunc.rv h cs.toList f) :
    ACalls Tryd.prog F_lateenref08_Few [.agg cs] h (fun v h' => ∃ b, v = .bool b ∧ Old h h' ∧ (b = true → FewF f)) := by
  refine lateenref08_Few_of ?_
  unfold lateenref08_Few
  refine new_rv hf fun p h1 o1 hp => ?_
  have hb := fld_blocks.rd hp
  refine ld_lst hb (hExt.refl _) fun x hx => ?_
  have hxl := hx.lenEq
  refine ifB_intro (fun hc => ⟨false, rfl, o1, fun h => by cases h⟩) (fun hc => ?_)
  have h60 : f.blocks.length ≤ 60 := by rw [hxl] at hc; have := of_decide_eq_false hc; omega
  refine loop_intro (fun m t h' => ∃ j : Nat, t = j ∧ j ≤ f.blocks.length ∧ m = f.blocks.length - j ∧ h' = h1 ∧ ∀ i (hi : i < j) (hl : i < f.blocks.length), f.blocks[i].term.to.length ≤ 8 ∧ f.blocks[i].phis.length ≤ 40 ∧ ∀ p ∈ f.blocks[i].phis, p.ins.length ≤ 60) f.blocks.length
    ⟨0, rfl, by omega, by omega, rfl, fun i hi => by omega⟩ ?_
  rintro m _ t h' ⟨j, rfl, hj, rfl, rfl, hyes⟩
  have no : ∃ b, (Value.bool false) = .bool b ∧ Old h h' ∧ (b = true → FewF f) := ⟨false, rfl, o1, fun h => by cases h⟩
  refine ld_lst hb (hExt.refl _) fun x1 hx1 => ?_
  have hx1l := hx1.lenEq
  refine ifB_intro (fun hc => ?_) (fun hc => ?_)
  · have hjl : j < f.blocks.length := by rw [hx1l] at hc; simpa using hc
    intro k hk
    refine ld_lst hb (hExt.refl _) fun x7 hx7 => ?_
    refine idx_rdN hx7 rfl hjl fun p4 _ hp4 => ?_
    refine ld_lst (E := rStr) (l := f.blocks[j].term.to) (el_two hp4.1 (Fld.trans fld_term fld_to rfl |>.rd hp4)) (hExt.refl _) fun x8 hx8 => ?_
    have hx8l := hx8.lenEq
    have one : k true h' := hk _ _ fun _ => ifB_true rfl no
    refine ifB_intro (fun _ => one) (fun hc8 => ?_)
    have h8 : f.blocks[j].term.to.length ≤ 8 := by rw [hx8l] at hc8; have := of_decide_eq_false hc8; omega
    refine ld_lst hb (hExt.refl _) fun x9 hx9 => ?_
    refine idx_rdN hx9 rfl hjl fun p5 _ hp5 => ?_
    refine ld_lst (fld_phis.rd hp5) (hExt.refl _) fun x10 hx10 => ?_
    have hx10l := hx10.lenEq
    refine hk _ _ fun _ => ?_
    refine ifB_intro (fun _ => no) (fun hc40 => ?_)
    have h40 : f.blocks[j].phis.length ≤ 40 := by rw [hx10l] at hc40; have := of_decide_eq_false hc40; omega
    refine loop_intro (fun m t h'' => ∃ k : Nat, t = k ∧ k ≤ f.blocks[j].phis.length ∧ m = f.blocks[j].phis.length - k ∧ h'' = h' ∧ ∀ i (hi : i < k) (hl : i < f.blocks[j].phis.length), f.blocks[j].phis[i].ins.length ≤ 60) f.blocks[j].phis.length
      ⟨0, rfl, by omega, by omega, rfl, fun i hi => by omega⟩ ?_
    rintro m _ t h'' ⟨k2, rfl, hk2, rfl, rfl, hins⟩
    refine ld_lst hb (hExt.refl _) fun x2 hx2 => ?_
    refine idx_rdN hx2 rfl hjl fun p1 _ hp1 => ?_
    refine ld_lst (fld_phis.rd hp1) (hExt.refl _) fun x3 hx3 => ?_
    have hx3l := hx3.lenEq
    refine ifB_intro (fun hc => ?_) (fun hc => ?_)
    · have hkl : k2 < f.blocks[j].phis.length := by rw [hx3l] at hc; simpa using hc
      refine ld_lst hb (hExt.refl _) fun x4 hx4 => ?_
      refine idx_rdN hx4 rfl hjl fun p2 _ hp2 => ?_
      refine ld_lst (fld_phis.rd hp2) (hExt.refl _) fun x5 hx5 => ?_
      refine idx_rdN hx5 rfl hkl fun p3 _ hp3 => ?_
      refine ld_lst (fld_ins.rd hp3) (hExt.refl _) fun x6 hx6 => ?_
      have hx6l := hx6.lenEq
      refine ifB_intro (fun _ => no) (fun hc60 => ?_)
      have h60' : f.blocks[j].phis[k2].ins.length ≤ 60 := by rw [hx6l] at hc60; have := of_decide_eq_false hc60; omega
      refine ar_i64 (by omega) (by omega) ⟨f.blocks[j].phis.length - (k2 + 1), by omega, k2 + 1, rfl, by omega, rfl, rfl, fun i hi hl => ?_⟩
      by_cases e : i = k2
      · subst e; exact h60'
      · exact hins i (by omega) hl
    · have hkl : f.blocks[j].phis.length ≤ k2 := by rw [hx3l] at hc; simpa using hc
      refine ar_i64 (by omega) (by omega) ⟨f.blocks.length - (j + 1), by omega, j + 1, rfl, by omega, rfl, rfl, fun i hi hl => ?_⟩
      by_cases e : i = j
      · subst e
        refine ⟨h8, h40, fun q hq => ?_⟩
        obtain ⟨i2, hi2, rfl⟩ := List.getElem_of_mem hq
        exact hins i2 (by omega) hi2
      · exact hyes i (by omega) hl
  · have hjl : f.blocks.length ≤ j := by rw [hx1l] at hc; simpa using hc
    refine ⟨true, rfl, o1, fun _ => ⟨h60, fun b hb => ?_, fun b hb => ?_⟩⟩
    · obtain ⟨i, hi, rfl⟩ := List.getElem_of_mem hb
      exact (hyes i (by omega) hi).1
    · obtain ⟨i, hi, rfl⟩ := List.getElem_of_mem hb
      exact (hyes i (by omega) hi).2

end Go.Proofs.YtojdbliehgejbaaDoor

/-
  Contracts over functions of the program's data, further: ends, what can be come to, the graph.
-/
namespace Go.Proofs.YtojdbliehgejbaaDoor
open Go.Fw Go.Pl Go.Pl.Api

theorem place_as {f : MFunc} {t : ByteArray} {K : Int → Bool → Prop} (hs : ∀ k : Nat, place f t = some k → K k true) (hn : place f t = none → K 0 false) : as2 (.int .i64) .bool (placeV f t) K := by
  unfold placeV
  cases hp : place f t with
  | some k => exact ⟨(k : Int), true, rfl, hs k hp⟩
  | none => exact ⟨0, false, rfl, hn hp⟩

theorem to_rd {h : Heap} {q : Addr} {b : MBlock} (hq : rBlock.el.rd h q b) : rStr.sl.el.rd h ((q.add 3).add 4) b.term.to :=
  el_two hq.1 ((Fld.trans fld_term fld_to rfl).rd hq)

theorem refLeads_calls {h : Heap} {cs : Array Value} {f : MFunc} (hf : rFunc.rv h cs.toList f) {a : Nat} (ha : a < f.blocks.length) (b : Int) :
    ACalls Tryd.prog F_lateenref08_Leads [.agg cs, .int .i64 a, .int .i64 b] h (fun v h' => v = .bool (leadsF f a b) ∧ Old h h') := by
  refine lateenref08_Leads_of ?_
  unfold lateenref08_Leads
  refine new_rv hf fun p h1 o1 hp => ?_
  have hb := fld_blocks.rd hp
  refine loop_intro (fun m t h' => ∃ j : Nat, t = j ∧ j ≤ f.blocks[a].term.to.length ∧ m = f.blocks[a].term.to.length - j ∧ Old h1 h' ∧ ∀ i (hi : i < j) (hl : i < f.blocks[a].term.to.length), (match place f f.blocks[a].term.to[i] with | some k => (k : Int) == b | none => false) = false) f.blocks[a].term.to.length
    ⟨0, rfl, by omega, by omega, .refl _, fun i hi => by omega⟩ ?_
  rintro m _ t h2 ⟨j, rfl, hj, rfl, o2, hno⟩
  refine ld_lst hb o2.ext fun x hx => ?_
  refine idx_rdN hx rfl ha fun q _ hq => ?_
  refine ld_lst (to_rd hq) o2.ext fun x1 hx1 => ?_
  have hx1l := hx1.lenEq
  have hx1b := hx1.bound
  refine ifB_intro (fun hc => ?_) (fun hc => ?_)
  · have hjl : j < f.blocks[a].term.to.length := by rw [hx1l] at hc; simpa using hc
    refine ld_agg hp o2.ext rfl fun cs2 hcs2 => ?_
    refine ld_lst hb o2.ext fun x3 hx3 => ?_
    refine idx_rdN hx3 rfl ha fun q2 _ hq2 => ?_
    refine ld_lst (to_rd hq2) o2.ext fun x4 hx4 => ?_
    refine idx_rdN hx4 rfl hjl fun q3 _ hq3 => ?_
    refine ld_str hq3 o2.ext ?_
    refine (refPlace_calls (rFunc.ext hcs2 o2.ext) _).mono ?_
    rintro v h3 ⟨rfl, o3⟩
    refine place_as (fun k hk => ?_) (fun hk => ?_)
    · refine ⟨o3.ext, ?_⟩
      intro kk hkk
      refine ifB_true rfl ?_
      refine hkk _ _ fun _ => ?_
      refine ifB_intro (fun hkb => ⟨?_, (o1.trans o2).trans o3⟩) (fun hkb => ?_)
      · unfold leadsF
        rw [List.getElem?_eq_getElem ha]
        simp only [Option.map_some, Option.getD_some]
        symm
        congr 1
        rw [List.any_eq_true]
        exact ⟨_, List.getElem_mem hjl, by rw [hk]; exact hkb⟩
      · refine ar_i64 (by omega) (by omega) ⟨f.blocks[a].term.to.length - (j + 1), by omega, j + 1, rfl, by omega, rfl, o2.trans o3, fun i hi hl => ?_⟩
        by_cases e : i = j
        · subst e; rw [hk]; exact hkb
        · exact hno i (by omega) hl
    · refine ⟨o3.ext, ?_⟩
      intro kk hkk
      refine ifB_false rfl ?_
      refine hkk _ _ fun _ => ?_
      refine ifB_false rfl ?_
      refine ar_i64 (by omega) (by omega) ⟨f.blocks[a].term.to.length - (j + 1), by omega, j + 1, rfl, by omega, rfl, o2.trans o3, fun i hi hl => ?_⟩
      by_cases e : i = j
      · subst e; rw [hk]
      · exact hno i (by omega) hl
  · have hjl : f.blocks[a].term.to.length ≤ j := by rw [hx1l] at hc; simpa using hc
    refine ⟨?_, o1.trans o2⟩
    unfold leadsF
    rw [List.getElem?_eq_getElem ha]
    simp only [Option.map_some, Option.getD_some]
    symm
    congr 1
    rw [List.any_eq_false]
    intro t ht
    obtain ⟨i, hi, rfl⟩ := List.getElem_of_mem ht
    have h2 := hno i (by omega) hi
    exact fun hx => Bool.noConfusion (hx.symm.trans h2)

theorem refCome_calls {h : Heap} {cs : Array Value} {f : MFunc} (hf : rFunc.rv h cs.toList f) (hn : f.blocks.length ≤ 1000) :
    ACalls Tryd.prog F_lateenref08_Come [.agg cs] h (fun v h' => ∃ s : Sl, v = s.v ∧ Sep h h' [ownSl si_Lbool eBool s (comeOf (graphF f))]) := by
  refine lateenref08_Come_of ?_
  unfold lateenref08_Come
  refine new_rv hf fun p h1 o1 hp => ?_
  have hb := fld_blocks.rd hp
  refine ld_lst hb (hExt.refl _) fun x hx => ?_
  have hxl := hx.lenEq
  refine ⟨rfl, ?_⟩
  refine mk_rule (x := false) (E := eBool) (Sep.start h1) rfl (fun h => own_bool false h) (by omega) (by omega) (by simp only [si_Lbool]; omega) fun s h2 S => ?_
  rw [hxl, Int.toNat_natCast] at S
  have hsl := S.rd.lenEq
  rw [List.length_replicate] at hsl
  have hgl := graphF_len f
  have hrep : ∀ i, (List.replicate f.blocks.length false).getD i false = false := fun i => by
    simp [List.getD_eq_getElem?_getD, List.getElem?_replicate]; split <;> rfl
  refine loop_intro (fun m t h' => ∃ B : List Bool, B.length = f.blocks.length ∧ (t = true → 0 < f.blocks.length) ∧ (∀ k, B.getD k false = true → Rch (graphF f) k) ∧
      (t = false → 0 < f.blocks.length → B.getD 0 false = true ∧ ∀ i k : Nat, B.getD i false = true → k < f.blocks.length → leadsF f i k = true → B.getD k false = true) ∧ m = open' B + (if t then 1 else 0) ∧ Sep h1 h' [ownSl si_Lbool eBool s B]) _
    ⟨_, by simp, fun ht => by rw [hsl] at ht; simpa using ht, (fun k hk => by rw [hrep] at hk; cases hk), (fun ht h0 => by rw [hsl] at ht; have := of_decide_eq_false ht; omega), rfl, S⟩ ?_
  clear S
  rintro m _ t h3 ⟨B, hB, hpos, hsound, hcl, rfl, S⟩
  refine ifB_intro (fun hc => ?_) (fun hc => ⟨s, rfl, (S.since o1).cast ?_⟩)
  case refine_2 =>
    congr 2
    refine come_unique (by omega) fun k hk => ⟨hsound k, fun hr => ?_⟩
    obtain ⟨z0, zc⟩ := hcl hc (by omega)
    induction hr with
    | zero _ => exact z0
    | step hi hl hk2 ih => exact zc _ _ (ih hi.lt) (by omega) (by rw [leadsF_eq]; exact hl)
  subst hc
  have hn0 : 0 < f.blocks.length := hpos rfl
  have h0 : 0 < B.length := by omega
  refine idx_rdN S.rd rfl h0 fun p1 hat _ => ?_
  refine st_flat S (x := true) (own_bool true) hat rfl h0 fun h4 S4 => ?_
  clear S
  have hB2 : (B.set 0 true).length = f.blocks.length := by simpa using hB
  have ho : open' (B.set 0 true) ≤ open' B := open_set_le
  have hs1 : ∀ k, (B.set 0 true).getD k false = true → Rch (graphF f) k := fun k hk => by
    rw [getD_set h0] at hk
    split at hk
    · rename_i e; subst e; exact .zero (by omega)
    · exact hsound k hk
  have hz1 : (B.set 0 true).getD 0 false = true := by rw [getD_set h0]; simp
  generalize hBB : B.set 0 true = B1 at S4 hB2 ho hs1 hz1
  refine loop_intro (fun m t h' => ∃ (i : Nat) (C : List Bool), t.2 = i ∧ i ≤ f.blocks.length ∧ m = f.blocks.length - i ∧ C.length = f.blocks.length ∧ open' C ≤ open' B ∧ (t.1 = true → open' C < open' B) ∧
      (∀ k, C.getD k false = true → Rch (graphF f) k) ∧ C.getD 0 false = true ∧ (t.1 = false → ∀ i' k : Nat, i' < i → C.getD i' false = true → k < f.blocks.length → leadsF f i' k = true → C.getD k false = true) ∧ Sep h1 h' [ownSl si_Lbool eBool s C]) f.blocks.length
    ⟨0, B1, rfl, by omega, by omega, hB2, ho, (fun h => by cases h), hs1, hz1, (fun _ i' k h => by omega), S4⟩ ?_
  clear S4
  rintro m _ ⟨more, i⟩ h5 ⟨i, C, hi0, hi, rfl, hC, hCo, hm, hCs, hC0, hCc, S⟩
  simp only at hi0 hm hCc ⊢
  subst hi0
  refine ifB_intro (fun hc => ?_) (fun hc => ?_)
  · have hil : i < f.blocks.length := by rw [hsl] at hc; simpa using hc
    refine loop_intro (fun m t h' => ∃ (k : Nat) (C : List Bool), t.2 = k ∧ k ≤ f.blocks.length ∧ m = f.blocks.length - k ∧ C.length = f.blocks.length ∧ open' C ≤ open' B ∧ (t.1 = true → open' C < open' B) ∧
        (∀ k, C.getD k false = true → Rch (graphF f) k) ∧ C.getD 0 false = true ∧ (t.1 = false → ∀ i' k : Nat, i' < i → C.getD i' false = true → k < f.blocks.length → leadsF f i' k = true → C.getD k false = true) ∧
        (t.1 = false → ∀ k' : Nat, k' < k → leadsF f i k' = true → C.getD k' false = true) ∧ Sep h1 h' [ownSl si_Lbool eBool s C]) f.blocks.length
      ⟨0, C, rfl, by omega, by omega, hC, hCo, hm, hCs, hC0, hCc, (fun _ k h => by omega), S⟩ ?_
    clear S hm hCo hC hCs hC0 hCc
    rintro m _ ⟨more, k⟩ h6 ⟨k, C, hk0, hk, rfl, hC, hCo, hm, hCs, hC0, hCc, hCi, S⟩
    simp only at hk0 hm hCc hCi ⊢
    subst hk0
    intro k1 hk1
    have out : (C.getD i false = true → f.blocks.length ≤ k) → k1 false h6 := fun hdone => hk1 _ _ fun _ => ifB_false rfl (ar_i64 (by omega) (by omega) ⟨f.blocks.length - (i + 1), by omega, i + 1, C, rfl, by omega, rfl, hC, hCo, hm, hCs, hC0, fun hmore i' k' hi' hci hk' hl => by
      by_cases e : i' = i
      · subst e; exact hCi hmore k' (by have := hdone hci; omega) hl
      · exact hCc hmore i' k' (by omega) hci hk' hl, S⟩)
    refine ifB_intro (fun hc => ?_) (fun hc => out fun _ => by rw [hsl] at hc; simpa using hc)
    have hkl : k < f.blocks.length := by rw [hsl] at hc; simpa using hc
    have hiC : i < C.length := by omega
    refine idx_rdN S.rd rfl hiC fun p4 _ hp4 => ld_one hp4 ?_
    cases hCii : C[i] with
    | false => exact out fun h => by rw [getD_lt hiC, hCii] at h; cases h
    | true =>
      have hri : Rch (graphF f) i := hCs i (by rw [getD_lt hiC]; exact hCii)
      refine hk1 _ _ fun _ => ifB_true rfl ?_
      intro k2 hk2
      have nxt : ∀ (more' : Bool) h' (C' : List Bool), C'.length = f.blocks.length → open' C' ≤ open' B → (more' = true → open' C' < open' B) → (∀ k, C'.getD k false = true → Rch (graphF f) k) → C'.getD 0 false = true →
          (more' = false → ∀ i' k : Nat, i' < i → C'.getD i' false = true → k < f.blocks.length → leadsF f i' k = true → C'.getD k false = true) →
          (more' = false → ∀ k' : Nat, k' < k + 1 → leadsF f i k' = true → C'.getD k' false = true) → Sep h1 h' [ownSl si_Lbool eBool s C'] → k2 more' h' := fun more' h' C' q1 q2 q3 q4 q5 q6 q7 q8 =>
        hk2 _ _ fun _ => ar_i64 (by omega) (by omega) ⟨f.blocks.length - (k + 1), by omega, k + 1, C', rfl, by omega, rfl, q1, q2, q3, q4, q5, q6, q7, q8⟩
      intro k3 hk3
      have hkC : k < C.length := by omega
      have skip : ∀ h', (leadsF f i k = true → C.getD k false = true) → Sep h1 h' [ownSl si_Lbool eBool s C] → k3 false h' := fun h' hno S' => hk3 _ _ fun _ => ifB_false rfl (nxt more h' C hC hCo hm hCs hC0 hCc (fun hmore k' hk' hl => by
        by_cases e : k' = k
        · subst e; exact hno hl
        · exact hCi hmore k' (by omega) hl) S')
      refine idx_rdN S.rd rfl hkC fun p3 _ hp3 => ld_one hp3 ?_
      refine ifB_intro (fun hno => ?_) (fun hyes => skip _ (fun _ => by rw [getD_lt hkC]; simpa using hyes) S)
      have hfalse : C[k] = false := by simpa using hno
      refine ld_agg hp S.old.ext rfl fun cs2 hcs2 => ?_
      refine (refLeads_calls (rFunc.ext hcs2 S.old.ext) hil (k : Int)).mono ?_
      rintro v h7 ⟨rfl, o7⟩
      refine ⟨_, rfl, ?_⟩
      cases hlk : leadsF f i k with
      | false => exact skip _ (fun h => by rw [hlk] at h; cases h) (S.grow o7)
      | true =>
        refine hk3 _ _ fun _ => ifB_true rfl ?_
        have S7 := S.grow o7
        refine idx_rdN S7.rd rfl hkC fun p2 hat2 _ => ?_
        refine st_flat S7 (x := true) (own_bool true) hat2 rfl hkC fun h8 S8 => ?_
        have hcs := count_set hkC hfalse
        refine nxt true h8 _ (by simpa using hC) (by omega) (fun _ => by omega) (fun z hz => ?_) ?_ (fun h => by cases h) (fun h => by cases h) S8
        · rw [getD_set hkC] at hz
          split at hz
          · rename_i e; subst e; exact .step hri (by rw [← leadsF_eq]; exact hlk) (by omega)
          · exact hCs z hz
        · rw [getD_set hkC]; split
          · rfl
          · exact hC0
  · have hie : f.blocks.length ≤ i := by rw [hsl] at hc; simpa using hc
    refine ⟨open' C + (if more then 1 else 0), ?_, C, hC, fun _ => hpos rfl, hCs, fun hmore _ => ⟨hC0, fun i' k hci hk hl => ?_⟩, rfl, S⟩
    · cases more with
      | true => have := hm rfl; simp; omega
      | false => simp; omega
    · have : i' < f.blocks.length := by have := (hCs i' hci).lt; omega
      exact hCc hmore i' k (by omega) hci hk hl

end Go.Proofs.YtojdbliehgejbaaDoor

/-
  Whether a shape is right, by the document.
-/
namespace Go.Proofs.YtojdbliehgejbaaDoor
open Go.Fw Go.Pl Go.Pl.Api

theorem refRight_calls {h : Heap} {cs : Array Value} {f : MFunc} (hf : rFunc.rv h cs.toList f) (hn : f.blocks.length ≤ 1000) :
    ACalls Tryd.prog F_lateenref08_Right [.agg cs] h (fun v h' => v = .bool (rightB f) ∧ Old h h') := by
  refine lateenref08_Right_of ?_
  unfold lateenref08_Right
  refine new_rv hf fun p h1 o1 hp => ?_
  have hb := fld_blocks.rd hp
  have no : ∀ h', Old h1 h' → ¬ RightP f → (Value.bool false) = .bool (rightB f) ∧ Old h h' := fun h' o hr => by
    refine ⟨?_, o1.trans o⟩
    cases e : rightB f with
    | false => rfl
    | true => exact absurd (rightB_iff.1 e) hr
  refine loop_intro (fun m t h' => ∃ i : Nat, t = i ∧ i ≤ f.blocks.length ∧ m = f.blocks.length - i ∧ Old h1 h' ∧ ∀ j (hj : j < i) (hl : j < f.blocks.length), place f f.blocks[j].name = some j ∧
      ((∀ t ∈ f.blocks[j].term.to, ∃ k, place f t = some k ∧ k ≠ 0) ∧ f.blocks[j].term.to.Pairwise (· ≠ ·))) f.blocks.length
    ⟨0, rfl, by omega, by omega, .refl _, fun i hi => by omega⟩ ?_
  rintro m _ t h2 ⟨i, rfl, hi, rfl, o2, hyes⟩
  refine ld_lst hb o2.ext fun x hx => ?_
  have hxl := hx.lenEq
  refine ifB_intro (fun hc => ?_) (fun hc => ?_)
  · have hil : i < f.blocks.length := by rw [hxl] at hc; simpa using hc
    refine ld_agg hp o2.ext rfl fun cs1 hcs1 => ?_
    refine ld_lst hb o2.ext fun x2 hx2 => ?_
    refine idx_rdN hx2 rfl hil fun p1 _ hp1 => ?_
    refine ld_str (fld_name.rd hp1) o2.ext ?_
    refine (refPlace_calls (rFunc.ext hcs1 o2.ext) _).mono ?_
    rintro v h3 ⟨rfl, o3⟩
    have o13 := o2.trans o3
    obtain ⟨kk, hkk, hki⟩ := place_self hil
    refine place_as (fun k hk => ?_) (fun hk => by rw [hk] at hkk; cases hkk)
    refine ⟨o3.ext, ifB_intro (fun hne => no _ o13 fun r => ?_) (fun heq => ?_)⟩
    · have := r.names i hil
      rw [hk] at this
      injection this with this
      subst this
      simp at hne
    have hki : place f f.blocks[i].name = some i := by
      have : (k : Int) = i := by simpa using heq
      have : k = i := by omega
      rw [hk, this]
    refine ld_lst hb o13.ext fun x4 hx4 => ?_
    refine idx_rdN hx4 rfl hil fun p2 _ hp2 => ?_
    refine ld_lst (to_rd hp2) o13.ext fun x5 hx5 => ?_
    have hx5l := hx5.lenEq
    have hx5b := hx5.bound
    refine loop_intro (fun m t h' => ∃ k : Nat, t = k ∧ k ≤ f.blocks[i].term.to.length ∧ m = f.blocks[i].term.to.length - k ∧ Old h1 h' ∧ (∀ j (hj : j < k) (hl : j < f.blocks[i].term.to.length), ∃ q, place f f.blocks[i].term.to[j] = some q ∧ q ≠ 0) ∧
        ∀ j j' (hjj : j < j') (hj : j' < k) (hl : j' < f.blocks[i].term.to.length), f.blocks[i].term.to[j] ≠ f.blocks[i].term.to[j']) f.blocks[i].term.to.length
      ⟨0, rfl, by omega, by omega, o13, (fun i hi => by omega), fun _ _ _ hj => by omega⟩ ?_
    rintro m _ t h4 ⟨k, rfl, hk4, rfl, o4, hpl, hdis⟩
    refine ifB_intro (fun hc => ?_) (fun hc => ?_)
    · have hkl : k < f.blocks[i].term.to.length := by rw [hx5l] at hc; simpa using hc
      refine ld_agg hp o4.ext rfl fun cs6 hcs6 => ?_
      refine idx_rdN hx5 rfl hkl fun p3 _ hp3 => ?_
      refine ld_str hp3 o4.ext ?_
      refine (refPlace_calls (rFunc.ext hcs6 o4.ext) _).mono ?_
      rintro v h5 ⟨rfl, o5⟩
      have o15 := o4.trans o5
      refine place_as (fun q hq => ?_) (fun hq => ?_)
      · intro k1 hk1
        refine ifB_false rfl ?_
        refine hk1 _ _ fun _ => ?_
        refine ifB_intro (fun hz => no _ o15 fun r => ?_) (fun hz => ?_)
        · obtain ⟨q', hq', hne⟩ := (r.ends i hil).1 _ (List.getElem_mem hkl)
          rw [hq] at hq'
          injection hq' with hq'
          subst hq'
          have : (q : Int) = 0 := by simpa using hz
          omega
        have hq0 : q ≠ 0 := fun e => by subst e; simp at hz
        refine loop_intro (fun m t h' => ∃ j : Nat, t = j ∧ j ≤ k ∧ m = k - j ∧ h' = h5 ∧ ∀ z (hz : z < j) (hl : z < f.blocks[i].term.to.length), f.blocks[i].term.to[z] ≠ f.blocks[i].term.to[k]) k ⟨0, rfl, by omega, by omega, rfl, fun z hz => by omega⟩ ?_
        rintro m _ t h6 ⟨j, rfl, hj, rfl, rfl, hdj⟩
        refine ifB_intro (fun hc => ?_) (fun hc => ?_)
        · have hjk : j < k := by have := of_decide_eq_true hc; omega
          have hjl : j < f.blocks[i].term.to.length := by omega
          refine idx_rdN hx5 rfl hjl fun p4 _ hp4 => ?_
          refine ld_str hp4 o15.ext ?_
          refine idx_rdN hx5 rfl hkl fun p5 _ hp5 => ?_
          refine ld_str hp5 o15.ext ?_
          rw [bytes_eq]
          refine ifB_intro (fun he => no _ o15 fun r => ?_) (fun he => ar_i64 (by omega) (by omega) ⟨k - (j + 1), by omega, j + 1, rfl, by omega, rfl, rfl, fun z hz hl => ?_⟩)
          · exact List.pairwise_iff_getElem.1 (r.ends i hil).2 j k hjl hkl hjk (of_decide_eq_true he)
          · by_cases e : z = j
            · subst e; exact of_decide_eq_false he
            · exact hdj z (by omega) hl
        · have hjk : j = k := by have := of_decide_eq_false hc; omega
          subst hjk
          refine ar_i64 (by omega) (by omega) ⟨f.blocks[i].term.to.length - (j + 1), by omega, j + 1, rfl, by omega, rfl, o15, fun j' hj' hl' => ?_, fun a b hab hb hl => ?_⟩
          · by_cases e : j' = j
            · subst e; exact ⟨q, hq, hq0⟩
            · exact hpl j' (by omega) hl'
          · by_cases e : b = j
            · subst e; exact hdj a hab (by omega)
            · exact hdis a b hab (by omega) hl
      · intro k1 hk1
        refine ifB_true rfl ?_
        refine hk1 _ _ fun _ => ifB_true rfl (no _ o15 fun r => ?_)
        obtain ⟨q', hq', hne⟩ := (r.ends i hil).1 _ (List.getElem_mem hkl)
        rw [hq] at hq'
        cases hq'
    · have hkl : f.blocks[i].term.to.length ≤ k := by rw [hx5l] at hc; simpa using hc
      refine ar_i64 (by omega) (by omega) ⟨f.blocks.length - (i + 1), by omega, i + 1, rfl, by omega, rfl, o4, fun j hj hl => ?_⟩
      by_cases e : j = i
      · subst e
        refine ⟨hki, fun t ht => ?_, List.pairwise_iff_getElem.2 fun a b ha hb hab => hdis a b hab (by omega) hb⟩
        obtain ⟨q, hq, rfl⟩ := List.getElem_of_mem ht
        exact hpl q (by omega) hq
      · exact hyes j (by omega) hl
  · have hil : f.blocks.length ≤ i := by rw [hxl] at hc; simpa using hc
    refine ld_agg hp o2.ext rfl fun cs10 hcs10 => ?_
    refine (refCome_calls (rFunc.ext hcs10 o2.ext) hn).mono ?_
    rintro v h8 ⟨s, rfl, S⟩
    refine ⟨_, rfl, ?_⟩
    have hsl := S.rd.lenEq
    have hsb := S.rd.bound
    have hcl := come_len (graphF f)
    rw [graphF_len] at hcl
    refine loop_intro (fun m t h' => ∃ j : Nat, t = j ∧ j ≤ (comeOf (graphF f)).length ∧ m = (comeOf (graphF f)).length - j ∧ h' = h8 ∧ ∀ z (hz : z < j) (hl : z < (comeOf (graphF f)).length), (comeOf (graphF f))[z] = true) (comeOf (graphF f)).length
      ⟨0, rfl, by omega, by omega, rfl, fun z hz => by omega⟩ ?_
    rintro m _ t h9 ⟨j, rfl, hj, rfl, rfl, hall⟩
    have o9 := o2.trans S.old
    refine ifB_intro (fun hc => ?_) (fun hc => ⟨?_, o1.trans o9⟩)
    · have hjl : j < (comeOf (graphF f)).length := by rw [hsl] at hc; simpa using hc
      refine idx_rdN S.rd rfl hjl fun p6 _ hp6 => ld_one hp6 ?_
      refine ifB_intro (fun hno => no _ o9 fun r => ?_) (fun hyes2 => ar_i64 (by omega) (by omega) ⟨(comeOf (graphF f)).length - (j + 1), by omega, j + 1, rfl, by omega, rfl, rfl, fun z hz hl => ?_⟩)
      · have := r.come _ (List.getElem_mem hjl)
        rw [this] at hno
        cases hno
      · by_cases e : z = j
        · subst e; simpa using hyes2
        · exact hall z (by omega) hl
    · have hjl : (comeOf (graphF f)).length ≤ j := by rw [hsl] at hc; simpa using hc
      congr 1
      cases e : rightB f with
      | true =>
        have r := rightB_iff.1 e
        have := r.pos
        exact decide_eq_true (by omega)
      | false =>
        refine decide_eq_false fun hp0 => ?_
        have r : RightP f := ⟨by omega, fun i' hi' => (hyes i' (by omega) hi').1, fun i' hi' => (hyes i' (by omega) hi').2, fun b hb => by
          obtain ⟨z, hz, rfl⟩ := List.getElem_of_mem hb
          exact hall z (by omega) hz⟩
        rw [rightB_iff.2 r] at e
        cases e

end Go.Proofs.YtojdbliehgejbaaDoor
