/-
  Whether a shape is right; the graph; the law on graphs.
-/
import Derived.Test.YthdidcnpiaeleaaFnFunc2
namespace Go.Proofs.Ythdidcnpiaeleaa
open Go.Fw Go.Pl Go.Pl.Api

def Placed (f : MFunc) (l : List ByteArray) : Prop := ∀ t ∈ l, ∃ k, place f t = some k

theorem refRight_weak {h : Heap} {cs : Array Value} {f : MFunc} (hf : rFunc.rv h cs.toList f) (hn : f.blocks.length ≤ 1000) :
    ACalls Try.prog F_lateenref08_Right [.agg cs] h (fun v h' => ∃ b, v = .bool b ∧ Old h h' ∧ (b = true → ∀ x ∈ f.blocks, Placed f x.term.to)) := by
  refine lateenref08_Right_of ?_
  unfold lateenref08_Right
  refine new_rv hf fun p h1 o1 hp => ?_
  have hb := fld_blocks.rd hp
  have no : ∀ h', Old h1 h' → ∃ b, (Value.bool false) = .bool b ∧ Old h h' ∧ (b = true → ∀ x ∈ f.blocks, Placed f x.term.to) := fun h' o => ⟨false, rfl, o1.trans o, fun h => by cases h⟩
  refine loop_intro (fun m t h' => ∃ i : Nat, t = i ∧ i ≤ f.blocks.length ∧ m = f.blocks.length - i ∧ Old h1 h' ∧ ∀ j (hj : j < i) (hl : j < f.blocks.length), Placed f f.blocks[j].term.to) f.blocks.length
    ⟨0, rfl, by omega, by omega, .refl _, fun i hi => by omega⟩ ?_
  rintro m _ t h2 ⟨i, rfl, hi, rfl, o2, hyes⟩
  refine ld_lst hb o2.ext fun x hx => ?_
  have hxl := hx.lenEq
  refine ifB_intro (fun hc => ?_) (fun hc => ?_)
  · have hil : i < f.blocks.length := by rw [hxl] at hc; simpa using hc
    refine ld_agg hp o2.ext rfl fun cs1 hcs1 => ?_
    refine ld_lst hb o2.ext fun x2 hx2 => ?_
    refine idx_rdN hx2 rfl hil fun p1 _ hp1 => ?_
    refine ld_str (fld_name.rd hp1) o2.ext ?_
    refine (refPlace_calls (rFunc.ext hcs1 o2.ext) _).mono ?_
    rintro v h3 ⟨rfl, o3⟩
    have o13 := o2.trans o3
    have rest : ∀ (r : Int), hExt h2 h3 ∧ ifB (r != (i : Int)) (∃ b, (Value.bool false) = .bool b ∧ Old h h3 ∧ (b = true → ∀ x ∈ f.blocks, Placed f x.term.to))
        (ld .sl h3 (p.add 4) fun (x_4 : Sl) =>
    idx 9 x_4 i fun p_2 =>
    ld .sl h3 ((p_2.add 3).add 4) fun (x_5 : Sl) =>
    loopW (fun _ (k : Int) h_4 next_1 =>
      ifB (decide (k < (x_5.len : Int)))
       (ld (.agg 5) h_4 p fun (x_6 : Array Value) =>
      idx 1 x_5 k fun p_3 =>
      ld .str h_4 p_3 fun (x_7 : ByteArray) =>
      ACalls Try.prog F_lateenref08_Place [.agg x_6, .string x_7] h_4 fun v_1 h_5 => as2 (.int .i64) .bool v_1 fun r_2 r_3 =>
      joinW (fun _ (t : Bool) h_6 =>
        ifB t
         (∃ b, (Value.bool false) = .bool b ∧ Old h h_6 ∧ (b = true → ∀ x ∈ f.blocks, Placed f x.term.to))
         (loopW (fun _ (j : Int) h_7 next_2 =>
        ifB (decide (j < k))
         (idx 1 x_5 j fun p_4 =>
        ld .str h_7 p_4 fun (x_8 : ByteArray) =>
        idx 1 x_5 k fun p_5 =>
        ld .str h_7 p_5 fun (x_9 : ByteArray) =>
        ifB (x_8.toList == x_9.toList)
         (∃ b, (Value.bool false) = .bool b ∧ Old h h_7 ∧ (b = true → ∀ x ∈ f.blocks, Placed f x.term.to))
         (ar .i64 (j + 1) fun n =>
        next_2 n h_7))
         (ar .i64 (k + 1) fun n_1 =>
      next_1 n_1 h_7)) 0 h_6)) fun k_1 =>
      ifB (!r_3)
       (k_1 true h_5)
       (k_1 (r_2 == 0) h_5))
       (ar .i64 (i + 1) fun n_2 => ∃ m, m < f.blocks.length - i ∧ ∃ j : Nat, n_2 = j ∧ j ≤ f.blocks.length ∧ m = f.blocks.length - j ∧ Old h1 h_4 ∧ ∀ j' (hj : j' < j) (hl : j' < f.blocks.length), Placed f f.blocks[j'].term.to)) 0 h3) := by
      intro r
      refine ⟨o3.ext, ifB_intro (fun _ => no _ o13) (fun _ => ?_)⟩
      refine ld_lst hb o13.ext fun x4 hx4 => ?_
      refine idx_rdN hx4 rfl hil fun p2 _ hp2 => ?_
      refine ld_lst (to_rd hp2) o13.ext fun x5 hx5 => ?_
      have hx5l := hx5.lenEq
      have hx5b := hx5.bound
      refine loop_intro (fun m t h' => ∃ k : Nat, t = k ∧ k ≤ f.blocks[i].term.to.length ∧ m = f.blocks[i].term.to.length - k ∧ Old h1 h' ∧ ∀ j (hj : j < k) (hl : j < f.blocks[i].term.to.length), ∃ q, place f f.blocks[i].term.to[j] = some q) f.blocks[i].term.to.length
        ⟨0, rfl, by omega, by omega, o13, fun i hi => by omega⟩ ?_
      rintro m _ t h4 ⟨k, rfl, hk, rfl, o4, hpl⟩
      refine ifB_intro (fun hc => ?_) (fun hc => ?_)
      · have hkl : k < f.blocks[i].term.to.length := by rw [hx5l] at hc; simpa using hc
        refine ld_agg hp o4.ext rfl fun cs6 hcs6 => ?_
        refine idx_rdN hx5 rfl hkl fun p3 _ hp3 => ?_
        refine ld_str hp3 o4.ext ?_
        refine (refPlace_calls (rFunc.ext hcs6 o4.ext) _).mono ?_
        rintro v h5 ⟨rfl, o5⟩
        have o15 := o4.trans o5
        refine place_as (fun q hq => ?_) (fun _ => ?_)
        · intro k1 hk1
          refine ifB_false rfl ?_
          refine hk1 _ _ fun _ => ?_
          refine ifB_intro (fun _ => no _ o15) (fun _ => ?_)
          refine loop_intro (fun m t h' => ∃ j : Nat, t = j ∧ j ≤ k ∧ m = k - j ∧ h' = h5) k ⟨0, rfl, by omega, by omega, rfl⟩ ?_
          rintro m _ t h6 ⟨j, rfl, hj, rfl, rfl⟩
          refine ifB_intro (fun hc => ?_) (fun _ => ?_)
          · have hjk : j < k := by have := of_decide_eq_true hc; omega
            refine idx_rdN hx5 rfl (show j < f.blocks[i].term.to.length by omega) fun p4 _ hp4 => ?_
            refine ld_str hp4 o15.ext ?_
            refine idx_rdN hx5 rfl hkl fun p5 _ hp5 => ?_
            refine ld_str hp5 o15.ext ?_
            exact ifB_intro (fun _ => no _ o15) (fun _ => ar_i64 (by omega) (by omega) ⟨k - (j + 1), by omega, j + 1, rfl, by omega, rfl, rfl⟩)
          · refine ar_i64 (by omega) (by omega) ⟨f.blocks[i].term.to.length - (k + 1), by omega, k + 1, rfl, by omega, rfl, o15, fun j' hj' hl' => ?_⟩
            by_cases e : j' = k
            · subst e; exact ⟨q, hq⟩
            · exact hpl j' (by omega) hl'
        · intro k1 hk1
          refine ifB_true rfl ?_
          exact hk1 _ _ fun _ => ifB_true rfl (no _ o15)
      · have hkl : f.blocks[i].term.to.length ≤ k := by rw [hx5l] at hc; simpa using hc
        refine ar_i64 (by omega) (by omega) ⟨f.blocks.length - (i + 1), by omega, i + 1, rfl, by omega, rfl, o4, fun j hj hl => ?_⟩
        by_cases e : j = i
        · subst e
          intro t ht
          obtain ⟨q, hq, rfl⟩ := List.getElem_of_mem ht
          exact hpl q (by omega) hq
        · exact hyes j (by omega) hl
    exact place_as (fun k _ => rest k) (fun _ => rest 0)
  · have hil : f.blocks.length ≤ i := by rw [hxl] at hc; simpa using hc
    refine ld_agg hp o2.ext rfl fun cs10 hcs10 => ?_
    refine (refCome_weak (rFunc.ext hcs10 o2.ext) hn).mono ?_
    rintro v h8 ⟨s, B, rfl, hB, S⟩
    refine ⟨_, rfl, ?_⟩
    have hsl := S.rd.lenEq
    have hsb := S.rd.bound
    refine loop_intro (fun m t h' => ∃ j : Nat, t = j ∧ j ≤ B.length ∧ m = B.length - j ∧ h' = h8) B.length ⟨0, rfl, by omega, by omega, rfl⟩ ?_
    rintro m _ t h9 ⟨j, rfl, hj, rfl, rfl⟩
    have o9 := o2.trans S.old
    refine ifB_intro (fun hc => ?_) (fun _ => ⟨_, rfl, o1.trans o9, fun _ y hy => ?_⟩)
    · have hjl : j < B.length := by rw [hsl] at hc; simpa using hc
      refine idx_rdN S.rd rfl hjl fun p6 _ hp6 => ld_one hp6 ?_
      exact ifB_intro (fun _ => no _ o9) (fun _ => ar_i64 (by omega) (by omega) ⟨B.length - (j + 1), by omega, j + 1, rfl, by omega, rfl, rfl⟩)
    · obtain ⟨q, hq, rfl⟩ := List.getElem_of_mem hy
      exact hyes q (by omega) hq

/-! ### The graph -/
def rowF (f : MFunc) (l : List ByteArray) : List Int := l.filterMap fun t => (place f t).map fun (k : Nat) => (k : Int)
def rowsF (f : MFunc) (t j : Nat) : Graph := f.blocks.mapIdx fun i b => if i < t then rowF f b.term.to else if i = t then rowF f (b.term.to.take j) else []
def graphF (f : MFunc) : Graph := f.blocks.map fun b => rowF f b.term.to
theorem rowsF_len {f : MFunc} {t j : Nat} : (rowsF f t j).length = f.blocks.length := by simp [rowsF]
theorem rowsF_get {f : MFunc} {t j i : Nat} (h : i < (rowsF f t j).length) : (rowsF f t j)[i] = if i < t then rowF f (f.blocks[i]'(by rw [rowsF_len] at h; exact h)).term.to else if i = t then rowF f ((f.blocks[i]'(by rw [rowsF_len] at h; exact h)).term.to.take j) else [] := by simp [rowsF]

theorem rowF_take {f : MFunc} {l : List ByteArray} {j : Nat} (hj : j < l.length) : rowF f (l.take (j + 1)) = rowF f (l.take j) ++ (match place f l[j] with | some k => [(k : Int)] | none => []) := by
  unfold rowF
  rw [List.take_succ_eq_append_getElem hj, List.filterMap_append]
  congr 1
  cases h : place f l[j] <;> simp [h]

theorem flowOf_calls {h : Heap} {cs : Array Value} {f : MFunc} (hf : rFunc.rv h cs.toList f) (hn : f.blocks.length ≤ 1000) (hto : ∀ b ∈ f.blocks, b.term.to.length ≤ 1000) :
    ACalls Try.prog F_flow_Of [.agg cs] h (fun v h' => ∃ s : Sl, v = s.v ∧ Sep h h' [ownSl si_LLint eInts s (graphF f)]) := by
  refine flow_Of_of ?_
  unfold flow_Of
  refine new_rv hf fun p h1 o1 hp => ?_
  have hb := fld_blocks.rd hp
  refine ld_lst hb (hExt.refl _) fun x hx => ?_
  have hxl := hx.lenEq
  refine ⟨rfl, mk_rule (x := []) (E := eInts) (Sep.start h1) rfl (fun _ => ⟨⟨none, 0, 0⟩, rfl, ownSl_nil _ _ rfl _⟩) (by omega) (by omega) (by simp only [si_LLint]; omega) fun s h2 S => ?_⟩
  refine ld_lst hb S.old.ext fun x1 hx1 => ?_
  have hx1l := hx1.lenEq
  rw [hxl, Int.toNat_natCast] at S
  refine loop_intro (fun m t h' => ∃ i : Nat, t = i ∧ i ≤ f.blocks.length ∧ m = f.blocks.length - i ∧ Sep h1 h' [ownSl si_LLint eInts s (rowsF f i 0)]) f.blocks.length
    ⟨0, rfl, by omega, by omega, S.cast (by congr 2; refine List.ext_getElem (by simp [rowsF]) fun i h1 h2 => ?_; rw [rowsF_get]; simp [rowF])⟩ ?_
  clear S
  rintro m _ t h3 ⟨i, rfl, hi, rfl, S⟩
  refine ifB_intro (fun hc => ?_) (fun hc => ⟨s, rfl, (S.since o1).cast ?_⟩)
  · have hil : i < f.blocks.length := by rw [hx1l] at hc; simpa using hc
    refine idx_rdN hx1 rfl hil fun q _ hq => ?_
    refine ld_agg hq S.old.ext rfl fun cs2 hcs2 => ?_
    refine new_stX hcs2 S.old.ext rfl rfl fun p2 h5 o5 hp2 => ?_
    have S5 := S.grow o5
    refine ld_lstX (bx_two hp2.1 ((Fld.trans fld_term fld_to rfl).bx hp2)) fun x3 hx3 => ?_
    have hx3l := hx3.lenEq
    have hx3b := hto _ (List.getElem_mem hil)
    refine loop_intro (fun m t h' => ∃ j : Nat, t = j ∧ j ≤ f.blocks[i].term.to.length ∧ m = f.blocks[i].term.to.length - j ∧ Sep h1 h' [ownSl si_LLint eInts s (rowsF f i j)]) f.blocks[i].term.to.length
      ⟨0, rfl, by omega, by omega, S5⟩ ?_
    rintro m _ t h6 ⟨j, rfl, hj, rfl, S6⟩
    refine ifB_intro (fun hc => ?_) (fun hc => ?_)
    · have hjl : j < f.blocks[i].term.to.length := by rw [hx3l] at hc; simpa using hc
      intro k hk
      refine idx_rdN hx3 rfl hjl fun p3 _ hp3 => ?_
      refine ld_str hp3 S6.old.ext ?_
      refine ld_agg hp S6.old.ext rfl fun cs5 hcs5 => ?_
      refine (place_calls (rFunc.ext hcs5 S6.old.ext) _).mono ?_
      rintro v h8 ⟨rfl, o8⟩
      have S8 := S6.grow o8
      have hir : i < (rowsF f i j).length := by rw [rowsF_len]; exact hil
      have hri : (rowsF f i j)[i] = rowF f (f.blocks[i].term.to.take j) := by rw [rowsF_get]; simp
      have fin : ∀ h', Sep h1 h' [ownSl si_LLint eInts s (rowsF f i (j + 1))] → k () h' := fun h' S' =>
        hk _ _ fun _ => ar_i64 (by omega) (by omega) ⟨f.blocks[i].term.to.length - (j + 1), by omega, j + 1, rfl, by omega, rfl, S'⟩
      have hset : ∀ l, rowF f (f.blocks[i].term.to.take (j + 1)) = rowF f (f.blocks[i].term.to.take j) ++ l → (rowsF f i j).set i ((rowsF f i j)[i] ++ l) = rowsF f i (j + 1) := fun l e => by
        refine List.ext_getElem (by simp [rowsF_len]) fun z hz1 hz2 => ?_
        rw [List.getElem_set, rowsF_get hz2]
        split
        · rename_i e2; subst e2
          rw [hri]
          simp [e]
        · rename_i e2
          rw [rowsF_get]
          have : ¬ z = i := fun e => e2 e.symm
          simp [this]
      refine place_as (fun q hq => ?_) (fun hq => ?_)
      · refine ifB_true rfl ?_
        refine app_row (v := .int .i64 q) (x := (q : Int)) S8 hir (fun _ => ⟨rfl, rfl⟩) rfl (by decide) ?_ ?_ fun h11 S11 => ?_
        · have : (rowsF f i j)[i].length ≤ 1000 := by
            rw [hri]; unfold rowF; exact Nat.le_trans (List.length_filterMap_le _ _) (by simp; omega)
          simp only [si_Lint]; omega
        · have : (rowsF f i j)[i].length ≤ 1000 := by
            rw [hri]; unfold rowF; exact Nat.le_trans (List.length_filterMap_le _ _) (by simp; omega)
          omega
        · exact fin h11 (S11.cast (by rw [hset [(q : Int)] (by rw [rowF_take hjl, hq])]))
      · refine ifB_false rfl ?_
        refine fin h8 (S8.cast ?_)
        have := hset [] (by rw [rowF_take hjl, hq])
        rw [List.append_nil, List.set_getElem_self] at this
        rw [this]
    · have hjl : f.blocks[i].term.to.length ≤ j := by rw [hx3l] at hc; simpa using hc
      refine ar_i64 (by omega) (by omega) ⟨f.blocks.length - (i + 1), by omega, i + 1, rfl, by omega, rfl, S6.cast ?_⟩
      congr 2
      refine List.ext_getElem (by simp [rowsF_len]) fun z hz1 hz2 => ?_
      rw [rowsF_get, rowsF_get]
      by_cases e : z = i
      · subst e; simp [List.take_of_length_le hjl]
      · have : z < i + 1 ↔ z < i := by omega
        simp only [this, e, if_false]
        split
        · rfl
        · split
          · simp [rowF]
          · rfl
  · have hil : f.blocks.length ≤ i := by rw [hx1l] at hc; simpa using hc
    congr 2
    refine List.ext_getElem (by simp [rowsF_len, graphF]) fun z hz1 hz2 => ?_
    rw [rowsF_len] at hz1
    rw [rowsF_get]
    simp [graphF, show z < i by omega]

end Go.Proofs.Ythdidcnpiaeleaa
