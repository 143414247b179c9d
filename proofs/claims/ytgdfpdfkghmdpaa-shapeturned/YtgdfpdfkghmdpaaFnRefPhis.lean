/-
  The document's Phis; the same answer, where the shape is right.
-/
import Derived.Test.YtgdfpdfkghmdpaaFnShapeLaw
import Derived.Test.YtgdfpdfkghmdpaaPlPhis
namespace Go.Proofs.Ytgdfpdfkghmdpaa
open Go.Fw Go.Pl Go.Pl.Api

def insB (x : MPhi) : List ByteArray := x.ins.map fun i => i.block
structure RefPhi (f : MFunc) (x : MPhi) (i : Nat) : Prop where
  one : ∀ j (hj : j < f.blocks.length), cnt (insB x) f.blocks[j].name = if leadsF f j i = true then 1 else 0
  all : ((List.range f.blocks.length).countP fun j => leadsF f j i) = x.ins.length
  pos : i ≠ 0
def RefPhisP (f : MFunc) : Prop := ∀ i (hi : i < f.blocks.length), ∀ x ∈ f.blocks[i].phis, RefPhi f x i

theorem cnt_take {B : List ByteArray} {q : Nat} (h : q < B.length) (n : ByteArray) : cnt (B.take (q + 1)) n = cnt (B.take q) n + if B[q] = n then 1 else 0 := by
  rw [List.take_succ_eq_append_getElem h]
  unfold cnt
  rw [List.countP_append]
  by_cases e : B[q] = n <;> simp [e]

theorem refPhis_calls {h : Heap} {cs : Array Value} {f : MFunc} (hf : rFunc.rv h cs.toList f) (hfew : FewF f) :
    ACalls Try.prog F_lateenref08_Phis [.agg cs] h (fun v h' => ∃ b, v = .bool b ∧ Old h h' ∧ (b = true ↔ RefPhisP f)) := by
  refine lateenref08_Phis_of ?_
  unfold lateenref08_Phis
  refine new_rv hf fun p h1 o1 hp => ?_
  have hb := fld_blocks.rd hp
  have hn := hfew.blocks
  have no : ∀ h', Old h1 h' → ¬ RefPhisP f → ∃ b, (Value.bool false) = .bool b ∧ Old h h' ∧ (b = true ↔ RefPhisP f) := fun h' o hr => ⟨false, rfl, o1.trans o, fun h => (by cases h), fun h => absurd h hr⟩
  refine loop_intro (fun q t h' => ∃ i : Nat, t = i ∧ i ≤ f.blocks.length ∧ q = f.blocks.length - i ∧ Old h1 h' ∧ ∀ j (hj : j < i) (hl : j < f.blocks.length), ∀ x ∈ f.blocks[j].phis, RefPhi f x j) f.blocks.length
    ⟨0, rfl, by omega, by omega, .refl _, fun j hj => by omega⟩ ?_
  rintro _ _ t h2 ⟨i, rfl, hi, rfl, o2, hyes⟩
  refine ld_lst hb o2.ext fun x hx => ?_
  have hxl := hx.lenEq
  refine ifB_intro (fun hc => ?_) (fun hc => ?_)
  case refine_2 =>
    have hil : f.blocks.length ≤ i := by rw [hxl] at hc; simpa using hc
    exact ⟨true, rfl, o1.trans o2, fun _ j hj => hyes j (by omega) hj, fun _ => rfl⟩
  have hil : i < f.blocks.length := by rw [hxl] at hc; simpa using hc
  have h40 := (hfew.phis _ (List.getElem_mem hil)).1
  refine loop_intro (fun q t h' => ∃ k : Nat, t = k ∧ k ≤ f.blocks[i].phis.length ∧ q = f.blocks[i].phis.length - k ∧ Old h1 h' ∧ ∀ z (hz : z < k) (hl : z < f.blocks[i].phis.length), RefPhi f f.blocks[i].phis[z] i) f.blocks[i].phis.length
    ⟨0, rfl, by omega, by omega, o2, fun z hz => by omega⟩ ?_
  rintro _ _ t h3 ⟨k, rfl, hk, rfl, o3, hph⟩
  refine ld_lst hb o3.ext fun x1 hx1 => ?_
  refine idx_rdN hx1 rfl hil fun p1 _ hp1 => ?_
  refine ld_lst (fld_phis.rd hp1) o3.ext fun x2 hx2 => ?_
  have hx2l := hx2.lenEq
  refine ifB_intro (fun hc => ?_) (fun hc => ?_)
  case refine_2 =>
    have hkl : f.blocks[i].phis.length ≤ k := by rw [hx2l] at hc; simpa using hc
    refine ar_i64 (by omega) (by omega) ⟨f.blocks.length - (i + 1), by omega, i + 1, rfl, by omega, rfl, o3, fun j hj hl => ?_⟩
    by_cases e : j = i
    · subst e
      intro x hx
      obtain ⟨z, hz, rfl⟩ := List.getElem_of_mem hx
      exact hph z (by omega) hz
    · exact hyes j (by omega) hl
  have hkl : k < f.blocks[i].phis.length := by rw [hx2l] at hc; simpa using hc
  have h60 := (hfew.phis _ (List.getElem_mem hil)).2 _ (List.getElem_mem hkl)
  have bad : ∀ h', Old h1 h' → ¬ RefPhi f f.blocks[i].phis[k] i → ∃ b, (Value.bool false) = .bool b ∧ Old h h' ∧ (b = true ↔ RefPhisP f) := fun h' o hr => no h' o fun r => hr (r i hil _ (List.getElem_mem hkl))
  refine ld_lst hb o3.ext fun x3 hx3 => ?_
  refine idx_rdN hx3 rfl hil fun p2 _ hp2 => ?_
  refine ld_lst (fld_phis.rd hp2) o3.ext fun x4 hx4 => ?_
  refine idx_rdN hx4 rfl hkl fun p3 _ hp3 => ?_
  refine ld_lst (fld_ins.rd hp3) o3.ext fun x5 hx5 => ?_
  have hx5l := hx5.lenEq
  refine loop_intro (fun q (t : Int × Int) h' => ∃ j : Nat, t.2 = j ∧ j ≤ f.blocks.length ∧ q = f.blocks.length - j ∧ Old h1 h' ∧ Old h3 h' ∧ t.1 = ((List.range j).countP fun z => leadsF f z i : Nat) ∧
      ∀ z (hz : z < j) (hl : z < f.blocks.length), cnt (insB f.blocks[i].phis[k]) f.blocks[z].name = if leadsF f z i = true then 1 else 0) f.blocks.length
    ⟨0, rfl, by omega, by omega, o3, .refl _, rfl, fun z hz => by omega⟩ ?_
  rintro _ _ ⟨n, j⟩ h4 ⟨j, hj0, hj, rfl, o4, o34, hn0, hone⟩
  simp only at hj0 hn0 ⊢
  subst hj0 hn0
  have hcl : ((List.range j).countP fun z => leadsF f z i) ≤ j := Nat.le_trans List.countP_le_length (by simp)
  refine ld_lst hb o4.ext fun x6 hx6 => ?_
  have hx6l := hx6.lenEq
  refine ifB_intro (fun hc => ?_) (fun hc => ?_)
  case refine_2 =>
    have hjl : j = f.blocks.length := by rw [hx6l] at hc; have := of_decide_eq_false hc; omega
    subst hjl
    intro k1 hk1
    have fin : RefPhi f f.blocks[i].phis[k] i → k1 false h4 := fun hr => by
      refine hk1 _ _ fun _ => ifB_false rfl ?_
      refine ar_i64 (by omega) (by omega) ⟨f.blocks[i].phis.length - (k + 1), by omega, k + 1, rfl, by omega, rfl, o4, fun z hz hl => ?_⟩
      by_cases e : z = k
      · subst e; exact hr
      · exact hph z (by omega) hl
    refine ifB_intro (fun hne => ?_) (fun heq => ?_)
    · refine hk1 _ _ fun _ => ifB_true rfl (bad _ o4 fun r => ?_)
      rw [hx5l, r.all] at hne
      simp at hne
    · have hall : ((List.range f.blocks.length).countP fun z => leadsF f z i) = f.blocks[i].phis[k].ins.length := by
        rw [hx5l] at heq
        have : (((List.range f.blocks.length).countP fun z => leadsF f z i : Nat) : Int) = (f.blocks[i].phis[k].ins.length : Nat) := by simpa using heq
        omega
      cases hz : ((i : Int) == 0) with
      | true =>
        refine hk1 _ _ fun _ => ifB_true rfl (bad _ o4 fun r => r.pos ?_)
        have : (i : Int) = 0 := by simpa using hz
        omega
      | false => exact fin ⟨fun z hz' => hone z hz' hz', hall, fun e => by subst e; simp at hz⟩
  have hjl : j < f.blocks.length := by rw [hx6l] at hc; simpa using hc
  have hx5' := hx5.ext o4.ext
  refine loop_intro (fun q (t : Int × Int) h' => ∃ q' : Nat, t.2 = q' ∧ q' ≤ f.blocks[i].phis[k].ins.length ∧ q = f.blocks[i].phis[k].ins.length - q' ∧ h' = h4 ∧ t.1 = (cnt ((insB f.blocks[i].phis[k]).take q') f.blocks[j].name : Nat)) f.blocks[i].phis[k].ins.length
    ⟨0, rfl, by omega, by omega, rfl, rfl⟩ ?_
  rintro _ _ ⟨m, q⟩ h5 ⟨q, hq0, hq, rfl, rfl, hm0⟩
  simp only at hq0 hm0 ⊢
  subst hq0 hm0
  have hinsl : (insB f.blocks[i].phis[k]).length = f.blocks[i].phis[k].ins.length := by simp [insB]
  have hcq : cnt ((insB f.blocks[i].phis[k]).take q) f.blocks[j].name ≤ q := Nat.le_trans List.countP_le_length (by rw [List.length_take]; omega)
  refine ifB_intro (fun hc => ?_) (fun hc => ?_)
  · have hql : q < f.blocks[i].phis[k].ins.length := by rw [hx5l] at hc; simpa using hc
    intro k1 hk1
    refine idx_rdN hx5' rfl hql fun p4 _ hp4 => ?_
    refine ld_str (fld_inblock.rd hp4) (hExt.refl _) ?_
    refine ld_lst hb o4.ext fun x8 hx8 => ?_
    refine idx_rdN hx8 rfl hjl fun p5 _ hp5 => ?_
    refine ld_str (fld_name.rd hp5) o4.ext ?_
    rw [bytes_eq]
    have e1 : (insB f.blocks[i].phis[k])[q]'(by omega) = f.blocks[i].phis[k].ins[q].block := by simp [insB]
    have hct := cnt_take (B := insB f.blocks[i].phis[k]) (q := q) (by omega) f.blocks[j].name
    rw [e1] at hct
    refine ifB_intro (fun he => ?_) (fun he => ?_)
    · refine ar_i64 (by omega) (by omega) (hk1 _ _ fun _ => ar_i64 (by omega) (by omega) ⟨f.blocks[i].phis[k].ins.length - (q + 1), by omega, q + 1, rfl, by omega, rfl, rfl, ?_⟩)
      rw [hct, if_pos (of_decide_eq_true he)]; simp
    · refine hk1 _ _ fun _ => ar_i64 (by omega) (by omega) ⟨f.blocks[i].phis[k].ins.length - (q + 1), by omega, q + 1, rfl, by omega, rfl, rfl, ?_⟩
      rw [hct, if_neg (of_decide_eq_false he)]; simp
  · have hql : q = f.blocks[i].phis[k].ins.length := by rw [hx5l] at hc; have := of_decide_eq_false hc; omega
    subst hql
    rw [List.take_of_length_le (by omega)]
    rw [List.take_of_length_le (by omega)] at hcq
    intro k2 hk2
    refine ld_agg hp o4.ext rfl fun cs6 hcs6 => ?_
    refine (refLeads_calls (rFunc.ext hcs6 o4.ext) hjl _).mono ?_
    rintro v h8 ⟨rfl, o8⟩
    refine ⟨_, rfl, ?_⟩
    have go : ∀ (w : Nat), w = (if leadsF f j i = true then 1 else 0) → k2 (w : Int) h8 := fun w hw => by
      refine hk2 _ _ fun _ => ?_
      refine ifB_intro (fun hne => bad _ (o4.trans o8) fun r => ?_) (fun heq => ?_)
      · have := r.one j hjl
        rw [← hw] at this
        rw [this] at hne
        simp at hne
      · have hceq : cnt (insB f.blocks[i].phis[k]) f.blocks[j].name = w := by
          have : ((cnt (insB f.blocks[i].phis[k]) f.blocks[j].name : Nat) : Int) = w := by simpa using heq
          omega
        refine ar_i64 (by omega) (by omega) (ar_i64 (by omega) (by omega) ⟨f.blocks.length - (j + 1), by omega, j + 1, rfl, by omega, rfl, o4.trans o8, o34.trans o8, ?_, fun z hz hl => ?_⟩)
        · rw [List.range_succ, List.countP_append, hceq, hw]
          by_cases hle : leadsF f j i = true <;> simp [hle]
        · by_cases e : z = j
          · subst e; rw [hceq, hw]
          · exact hone z (by omega) hl
    refine ifB_intro (fun ht => go 1 (by rw [if_pos ht])) (fun hf' => go 0 (by rw [hf']; rfl))

/-! Where the shape is right -/
theorem right_inj {f : MFunc} (r : RightP f) {i j : Nat} (hi : i < f.blocks.length) (hj : j < f.blocks.length) (e : f.blocks[i].name = f.blocks[j].name) : i = j := by
  have h1 := r.names i hi
  have h2 := r.names j hj
  rw [e, h2] at h1
  injection h1 with h1
  exact h1.symm
theorem place_name {f : MFunc} {t : ByteArray} {k : Nat} (h : place f t = some k) : ∃ hk : k < f.blocks.length, f.blocks[k].name = t := by
  unfold place at h
  obtain ⟨hk, h1, _⟩ := List.findIdx?_eq_some_iff_getElem.1 h
  rw [bytes_eq] at h1
  exact ⟨hk, of_decide_eq_true h1⟩
theorem leads_iff {f : MFunc} (r : RightP f) {j i : Nat} (hj : j < f.blocks.length) (hi : i < f.blocks.length) : leadsF f j i = true ↔ f.blocks[i].name ∈ f.blocks[j].term.to := by
  unfold leadsF
  rw [List.getElem?_eq_getElem hj]
  simp only [Option.map_some, Option.getD_some, List.any_eq_true]
  constructor
  · rintro ⟨t, ht, h⟩
    cases hp : place f t with
    | none => rw [hp] at h; cases h
    | some k =>
      rw [hp] at h
      have : (k : Int) = i := by simpa using h
      have : k = i := by omega
      subst this
      obtain ⟨_, e⟩ := place_name hp
      rw [e]; exact ht
  · intro h
    exact ⟨_, h, by rw [r.names i hi]; simp⟩
open Classical in
theorem whoE_one {n k : ByteArray} {l : List ByteArray} (h : l.Pairwise (· ≠ ·)) : whoE n l k = if k ∈ l then [n] else [] := by
  induction l with
  | nil => simp [whoE]
  | cons t l ih =>
    have h := List.pairwise_cons.1 h
    have ih := ih h.2
    unfold whoE at ih ⊢
    by_cases e : t = k
    · subst e
      have hno : ¬ t ∈ l := fun hm => h.1 t hm rfl
      rw [if_neg hno] at ih
      rw [List.filter_cons_of_pos (by simp), List.map_cons, ih]
      simp
    · rw [List.filter_cons_of_neg (by simpa using e), ih]
      have : (k ∈ t :: l) ↔ k ∈ l := by
        rw [List.mem_cons]
        exact ⟨fun h => h.resolve_left fun h => e h.symm, .inr⟩
      by_cases hk : k ∈ l
      · rw [if_pos hk, if_pos (this.2 hk)]
      · rw [if_neg hk, if_neg fun h => hk (this.1 h)]
theorem whoT_eq {f : MFunc} (r : RightP f) {i : Nat} (hi : i < f.blocks.length) : ∀ t, t ≤ f.blocks.length → whoT f t f.blocks[i].name = ((List.range t).filter fun j => leadsF f j i).map fun j => (f.blocks[j]?.map MBlock.name).getD ⟨#[]⟩
  | 0, _ => by simp [whoT]
  | t + 1, ht => by
    rw [whoT_succ (by omega), whoT_eq r hi t (by omega), List.range_succ, List.filter_append, List.map_append, whoE_one (r.ends t (by omega)).2]
    congr 1
    have := leads_iff r (j := t) (i := i) (by omega) hi
    by_cases h : f.blocks[i].name ∈ f.blocks[t].term.to
    · rw [if_pos h, List.filter_cons_of_pos (by simpa using this.2 h)]
      simp [List.getElem?_eq_getElem (show t < f.blocks.length by omega)]
    · rw [if_neg h, List.filter_cons_of_neg (by simpa using fun h2 => h (this.1 h2))]
      rfl

def nmsF (f : MFunc) : List ByteArray := f.blocks.map MBlock.name
theorem phi_iff {f : MFunc} (r : RightP f) {i : Nat} (hi : i < f.blocks.length) (hi0 : i ≠ 0) (x : MPhi) : PhiP x (whoT f f.blocks.length f.blocks[i].name) ↔ RefPhi f x i := by
  have hns : (nmsF f).Pairwise (· ≠ ·) := List.pairwise_iff_getElem.2 fun a b ha hb hab e => by
    simp only [nmsF, List.length_map] at ha hb
    simp only [nmsF, List.getElem_map] at e
    have := right_inj r ha hb e
    omega
  have hw := whoT_eq r hi f.blocks.length (Nat.le_refl _)
  have hmem : ∀ a, a ∈ whoT f f.blocks.length f.blocks[i].name ↔ a ∈ nmsF f ∧ ∃ j, ∃ hj : j < f.blocks.length, a = f.blocks[j].name ∧ leadsF f j i = true := by
    intro a
    rw [hw, List.mem_map]
    constructor
    · rintro ⟨j, hj, rfl⟩
      obtain ⟨hj1, hj2⟩ := List.mem_filter.1 hj
      have hj1 := List.mem_range.1 hj1
      rw [List.getElem?_eq_getElem hj1]
      exact ⟨List.mem_map.2 ⟨_, List.getElem_mem hj1, rfl⟩, j, hj1, rfl, hj2⟩
    · rintro ⟨_, j, hj, rfl, hl⟩
      exact ⟨j, List.mem_filter.2 ⟨List.mem_range.2 hj, hl⟩, by rw [List.getElem?_eq_getElem hj]; rfl⟩
  have hln : (whoT f f.blocks.length f.blocks[i].name).Pairwise (· ≠ ·) := by
    rw [hw, List.pairwise_map]
    refine List.Pairwise.imp_of_mem ?_ (List.Pairwise.filter _ List.pairwise_lt_range)
    intro a b ha hb hab e
    have ha := List.mem_range.1 (List.mem_filter.1 ha).1
    have hb := List.mem_range.1 (List.mem_filter.1 hb).1
    rw [List.getElem?_eq_getElem ha, List.getElem?_eq_getElem hb] at e
    have := right_inj r ha hb e
    omega
  have hlen : (whoT f f.blocks.length f.blocks[i].name).length = (List.range f.blocks.length).countP fun j => leadsF f j i := by
    rw [hw, List.length_map, List.countP_eq_length_filter]
  classical
  have key := same_names (B := insB x) (fun a => ∃ j, ∃ hj : j < f.blocks.length, a = f.blocks[j].name ∧ leadsF f j i = true) hns hmem hln
  have hB : (insB x).length = x.ins.length := by simp [insB]
  have hp : ∀ j (hj : j < f.blocks.length), (∃ j', ∃ hj' : j' < f.blocks.length, f.blocks[j].name = f.blocks[j'].name ∧ leadsF f j' i = true) ↔ leadsF f j i = true := fun j hj =>
    ⟨fun ⟨j', hj', e, hl⟩ => by have := right_inj r hj hj' e; subst this; exact hl, fun h => ⟨j, hj, rfl, h⟩⟩
  constructor
  · intro h
    have hk := key.2 ⟨by rw [hB]; exact h.len, fun b hb => by obtain ⟨z, hz, rfl⟩ := List.mem_map.1 hb; exact h.mem z hz, h.dis⟩
    refine ⟨fun j hj => ?_, by rw [← hlen, hk.2, hB], hi0⟩
    have h1 := hk.1 f.blocks[j].name (List.mem_map.2 ⟨_, List.getElem_mem hj, rfl⟩)
    rw [h1]
    by_cases hl : leadsF f j i = true
    · rw [if_pos hl, if_pos ((hp j hj).2 hl)]
    · rw [if_neg hl, if_neg fun h => hl ((hp j hj).1 h)]
  · intro h
    have hk := key.1 ⟨fun n hn => ?_, by rw [hlen, hB]; exact h.all⟩
    · exact ⟨by rw [← hB]; exact hk.1, fun z hz => hk.2.1 _ (List.mem_map.2 ⟨z, hz, rfl⟩), hk.2.2⟩
    · obtain ⟨b, hb, rfl⟩ := List.mem_map.1 hn
      obtain ⟨j, hj, rfl⟩ := List.getElem_of_mem hb
      rw [h.one j hj]
      by_cases hl : leadsF f j i = true
      · rw [if_pos hl, if_pos ((hp j hj).2 hl)]
      · rw [if_neg hl, if_neg fun h => hl ((hp j hj).1 h)]
theorem phis_iff {f : MFunc} (r : RightP f) : PhisP f ↔ RefPhisP f := by
  unfold PhisP RefPhisP
  constructor
  · intro h i hi x hx
    have h1 := h i hi
    have h0 : i ≠ 0 := fun e => by rw [h1.1 e] at hx; cases hx
    exact (phi_iff r hi h0 x).1 (h1.2 x hx)
  · intro h i hi
    refine ⟨fun e => ?_, fun x hx => ?_⟩
    · cases hp : f.blocks[i].phis with
      | nil => rfl
      | cons x l => exact absurd e (h i hi x (by rw [hp]; simp)).pos
    · have := h i hi x hx
      exact (phi_iff r hi this.pos x).2 this

theorem shapePhis_calls {h : Heap} {cs : Array Value} {f : MFunc} (hf : rFunc.rv h cs.toList f) :
    ACalls Try.prog F_lateenlaw08_ShapePhis [.agg cs] h (fun v h' => v = .bool true ∧ Old h h') := by
  refine lateenlaw08_ShapePhis_of ?_
  unfold lateenlaw08_ShapePhis
  refine new_rv hf fun p h1 o1 hp => ?_
  intro k hk
  refine awake_calls.mono ?_
  rintro v h2 ⟨rfl, o2⟩
  refine ⟨_, rfl, ifB_false rfl ?_⟩
  refine ld_agg hp o2.ext rfl fun cs2 hcs2 => ?_
  refine (refFew_calls (rFunc.ext hcs2 o2.ext)).mono ?_
  rintro v h3 ⟨b, rfl, o3, hfew⟩
  refine ⟨_, rfl, ?_⟩
  have o13 := o2.trans o3
  cases b with
  | false => exact ifB_true rfl (hk _ _ fun _ => ifB_true rfl (awake_end (o1.trans o13)))
  | true =>
    have few := hfew rfl
    have hn : f.blocks.length ≤ 1000 := by have := few.blocks; omega
    refine ifB_false rfl ?_
    refine ld_agg hp o13.ext rfl fun cs3 hcs3 => ?_
    refine (refRight_calls (rFunc.ext hcs3 o13.ext) hn).mono ?_
    rintro v h4 ⟨rfl, o4⟩
    refine ⟨_, rfl, ?_⟩
    have o14 := o13.trans o4
    cases hr : rightB f with
    | false => exact hk _ _ fun _ => ifB_true rfl (awake_end (o1.trans o14))
    | true =>
      have r := rightB_iff.1 hr
      refine hk _ _ fun _ => ifB_false rfl ?_
      refine ld_agg hp o14.ext rfl fun cs4 hcs4 => ?_
      refine (phis_calls (rFunc.ext hcs4 o14.ext) hn few.to).mono ?_
      rintro v h5 ⟨b1, rfl, o5, hb1⟩
      refine ⟨_, rfl, o5.ext, ?_⟩
      refine ld_agg hp o14.ext rfl fun cs5 hcs5 => ?_
      have o15 := o14.trans o5
      refine (refPhis_calls (rFunc.ext hcs5 o15.ext) few).mono ?_
      rintro v h6 ⟨b2, rfl, o6, hb2⟩
      refine ⟨_, rfl, o6.ext, ?_, o1.trans (o15.trans o6)⟩
      have : b1 = true ↔ b2 = true := hb1.trans ((phis_iff r).trans hb2.symm)
      cases b1 <;> cases b2 <;> simp_all

end Go.Proofs.Ytgdfpdfkghmdpaa
