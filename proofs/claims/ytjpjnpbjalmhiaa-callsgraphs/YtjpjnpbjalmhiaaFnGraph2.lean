/-
  calls.Graph.
-/
import Derived.Test.YtjpjnpbjalmhiaaFnGraph
import Derived.Test.YtjpjnpbjalmhiaaFnSort
import Derived.Test.YtjpjnpbjalmhiaaFwRow
import Derived.Test.YtjpjnpbjalmhiaaFwBox
namespace Go.Proofs.Ytjpjnpbjalmhiaa
open Go.Fw Go.Pl Go.Pl.Api

/-- What is away still lies there. -/
theorem raw_cell {α : Type} {si : SlI} {E : Elem α} {h0 h : Heap} {L : List As} {s : Sl} {l : List (α ⊕ List Value)} {i : Nat} {ys : List Value} (S : Sep h0 h (ownSl si E.raw s l :: L)) (hi : i < l.length) (hx : l[i] = .inr ys) :
    ∀ p, At E.size s i p → ∀ j v, ys[j]? = some v → hcell h (p.add j) = some v := by
  obtain ⟨f, hsz, us, f', ho, hl, hm, hr, rfl⟩ := S.get
  intro p hat j v hj
  have hsp : l = l.take i ++ l[i] :: l.drop (i + 1) := by simp
  rw [hsp] at hr
  obtain ⟨v1, v2, f1, f2, rfl, rfl, h1, h2⟩ := hr.split
  obtain ⟨zs, v3, f3, f4, rfl, rfl, h3, h4⟩ := h2
  rw [hx] at h3
  obtain ⟨rfl, hzs, _, _⟩ := h3
  have hv1 : v1.length = i * E.size := by rw [h1.len, List.length_take]; show min i l.length * E.size = _; congr 1; omega
  obtain ⟨_, a, ha, rfl⟩ := hat
  have hc := hOwn_cells ho ha
  rw [Go.Fw.Addr.add_add _ _ _ hc.1]
  refine hc.2 _ _ ?_
  have hjl := (List.getElem?_eq_some_iff.1 hj).1
  rw [List.getElem?_append_right (by omega), hv1, Nat.add_sub_cancel_left, List.getElem?_append_left hjl]
  exact hj

/-- A function's calls, as far as gone through. -/
def cT (F : List MFunc) (f : MFunc) (i : Nat) : List Nat := (f.blocks.take i).flatMap fun b => b.code.filterMap (callK F)
theorem cT_succ {F : List MFunc} {f : MFunc} {i : Nat} (h : i < f.blocks.length) : cT F f (i + 1) = cT F f i ++ f.blocks[i].code.filterMap (callK F) := by
  unfold cT
  rw [List.take_succ_eq_append_getElem h, List.flatMap_append]
  simp
theorem cT_end (F : List MFunc) (f : MFunc) : cT F f f.blocks.length = callsK F f := by unfold cT callsK; rw [List.take_length]
theorem code_le {b : MBlock} : b.code.length ≤ cBlock b := by
  have : b.code.length ≤ (b.code.map cInstr).sum := by
    generalize b.code = l
    induction l with
    | nil => simp
    | cons x l ih => rw [List.map_cons, List.sum_cons, List.length_cons]; have : 1 ≤ cInstr x := by unfold cInstr; omega
                     omega
  unfold cBlock
  omega
theorem cT_len {F : List MFunc} {f : MFunc} : ∀ i, i ≤ f.blocks.length → (cT F f i).length ≤ ((f.blocks.take i).map cBlock).sum
  | 0, _ => by simp [cT]
  | i + 1, h => by
    have ih := cT_len (F := F) (f := f) i (by omega)
    rw [cT_succ (by omega), List.length_append, sum_take _ (by omega)]
    have := List.length_filterMap_le (callK F) f.blocks[i].code
    have := code_le (b := f.blocks[i])
    omega
theorem sum_le_cFunc {f : MFunc} (i : Nat) : ((f.blocks.take i).map cBlock).sum ≤ cFunc f := by
  have : ((f.blocks.take i).map cBlock).sum ≤ (f.blocks.map cBlock).sum := by
    conv => rhs; rw [← List.take_append_drop i f.blocks, List.map_append, List.sum_append]
    omega
  unfold cFunc
  omega

def vfN : Nat → Value := fun k => .int .i64 (k : Int)
/-- What the names lead to, from a place on. -/
def atFrom (F : List MFunc) (i : Nat) (s : ByteArray) : Option Nat := (atF (F.drop i) s).map (· + i)
theorem atFrom_step {F : List MFunc} {i : Nat} (h : i < F.length) (s : ByteArray) : atFrom F i s = if s = F[i].name then some i else atFrom F (i + 1) s := by
  unfold atFrom atF
  rw [List.drop_eq_getElem_cons h, List.findIdx?_cons]
  by_cases e : F[i].name = s
  · rw [if_pos (decide_eq_true e), if_pos e.symm]; simp
  · rw [if_neg (by simpa using e), if_neg fun h => e h.symm]
    rw [Option.map_map]
    congr 1
    funext z
    simp
    omega
theorem atFrom_zero (F : List MFunc) (s : ByteArray) : atFrom F 0 s = atF F s := by
  unfold atFrom
  simp

/-- Rows that are told up to one; that one; the others bare. -/
structure GT (F : List MFunc) (k : Nat) (row : List Int) (O : Graph) : Prop where
  len : O.length = F.length
  low : ∀ a (ha : a < O.length) (hb : a < F.length), a < k → O[a] = (rowG F F[a]).map fun (k : Nat) => (k : Int)
  mid : ∀ (ha : k < O.length), O[k] = row
  high : ∀ a (ha : a < O.length), k < a → O[a] = []
theorem GT.set {F : List MFunc} {k : Nat} {row row' : List Int} {O : Graph} (g : GT F k row O) (hk : k < O.length) : GT F k row' (O.set k row') where
  len := by rw [List.length_set, g.len]
  low a ha hb h := by rw [List.getElem_set, if_neg (by omega)]; exact g.low a (by simpa using ha) hb h
  mid ha := by rw [List.getElem_set, if_pos rfl]
  high a ha h := by rw [List.getElem_set, if_neg (by omega)]; exact g.high a (by simpa using ha) h

theorem own_sub {h0 h : Heap} {A B : As} {L : List As} (S : Sep h0 h (A :: B :: L)) : Sep h0 h (B :: A :: L) := S.swap

set_option maxHeartbeats 1000000 in
theorem graph_calls {h : Heap} {cs : Array Value} {p : MProg} (hx : rProg.rv h cs.toList p) (hf : FewP p) :
    ACalls Try.prog F_calls_Graph [.agg cs] h (fun v h' => ∃ s : Sl, v = s.v ∧ Sep h h' [ownSl si_LLint eInts s (graphP p.funcs)]) := by
  refine calls_Graph_of ?_
  unfold calls_Graph
  refine new_rv hx fun p1 h1 o1 hp => ?_
  have hfu := fld_pFuncs.rd hp
  have hgl : (graphP p.funcs).length = p.funcs.length := by simp [graphP]
  have hn := hf.funcs
  have heach := hf.each
  generalize hF : p.funcs = F at *
  refine mkm_rule (vf := vfN) (Sep.start h1) fun m h2 _ S => ?_
  refine ld_lst hfu S.old.ext fun x hxx => ?_
  have hxl := hxx.lenEq
  refine ar_i64 (by omega) (by omega) ?_
  -- the names
  refine loop_intro (fun f (t : Int) h' => ∃ (i : Nat) (l : List (ByteArray × Nat)), t = (i : Int) - 1 ∧ i ≤ F.length ∧ f = i ∧ (∀ s, aget s l = atFrom F i s) ∧ Sep h1 h' [ownM vfN m l]) F.length
    ⟨F.length, [], by omega, by omega, rfl, fun s => by unfold atFrom atF; rw [List.drop_length]; rfl, S⟩ ?_
  clear S hxx
  rintro fm _ t h3 ⟨i, l, rfl, hi, hfm, hl, S⟩
  have e3 := S.old.ext
  refine ifB_intro (fun hc => ?_) (fun hc => ?_)
  · have hi0 : 0 < i := by have := of_decide_eq_true hc; omega
    obtain ⟨j, rfl⟩ : ∃ j, i = j + 1 := ⟨i - 1, by omega⟩
    have hjl : j < F.length := by omega
    rw [show ((j + 1 : Nat) : Int) - 1 = (j : Int) by omega]
    refine ld_lst hfu e3 fun x1 hx1 => ?_
    refine idx_rdN hx1 rfl hjl fun p2 _ hp2 => ld_str (fld_fName.rd hp2) e3 ?_
    refine mup_rule (x := j) S rfl fun h4 S4 => ?_
    refine ar_i64 (by omega) (by omega) ⟨j, by omega, j, _, rfl, by omega, rfl, fun s => ?_, S4⟩
    rw [aget_put, hl, atFrom_step hjl]
  have hi0 : i = 0 := by have := of_decide_eq_false hc; omega
  subst hi0
  have hl : ∀ s, aget s l = atF F s := fun s => by rw [hl, atFrom_zero]
  refine ld_lst hfu e3 fun x3 hx3 => ?_
  have hx3l := hx3.lenEq
  refine ⟨rfl, ?_⟩
  refine mk_rule (x := []) (E := eInts) S rfl (fun _ => ⟨⟨none, 0, 0⟩, rfl, ownSl_nil _ _ rfl _⟩) (by omega) (by omega) (by simp only [si_LLint]; omega) fun s h5 S5 => ?_
  rw [hx3l, Int.toNat_natCast] at S5
  clear S hx3
  refine ld_lst hfu S5.old.ext fun x4 hx4 => ?_
  have hx4l := hx4.lenEq
  refine loop_intro (fun m' (t : Int) h' => ∃ (k : Nat) (O : Graph), t = k ∧ k ≤ F.length ∧ m' = F.length - k ∧ GT F k [] O ∧ Sep h1 h' [ownSl si_LLint eInts s O, ownM vfN m l]) F.length
    ⟨0, _, rfl, by omega, by omega, ⟨by simp, fun a ha _ h => by omega, fun ha => by simp, fun a ha h => by simp⟩, S5⟩ ?_
  clear S5
  rintro _ _ t h6 ⟨k, O, rfl, hk, rfl, gt, S⟩
  refine ifB_intro (fun hc => ?_) (fun hc => ?_)
  case refine_2 =>
    have hke : k = F.length := by rw [hx4l] at hc; have := of_decide_eq_false hc; omega
    subst hke
    refine ⟨s, rfl, (S.swap.drop.since o1).cast ?_⟩
    congr 2
    refine List.ext_getElem (by rw [gt.len, hgl]) fun a ha hb => ?_
    rw [gt.low a ha (by omega) (by omega)]
    simp [graphP]
  have hkl : k < F.length := by rw [hx4l] at hc; have := of_decide_eq_true hc; omega
  have hkO : k < O.length := by rw [gt.len]; exact hkl
  refine idx_rdN hx4 rfl hkl fun p3 _ hp3 => ?_
  refine ld_agg hp3 S.old.ext rfl fun cs5 hcs5 => ?_
  refine new_stB S hcs5 rfl rfl fun p4 h8 S8 => ?_
  clear S
  refine ld_lstX (fld_blocks.bx S8.bx) fun x6 hx6 => ?_
  have hx6l := hx6.lenEq
  have hfe := heach F[k] (List.getElem_mem hkl)
  -- its blocks
  refine loop_intro (fun m' (t : Int) h' => ∃ (b : Nat) (O : Graph), t = b ∧ b ≤ F[k].blocks.length ∧ m' = F[k].blocks.length - b ∧ GT F k ((cT F F[k] b).map fun (k : Nat) => (k : Int)) O ∧ Sep h1 h' [ownSl si_LLint eInts s O, ownM vfN m l]) F[k].blocks.length
    ⟨0, O, rfl, by omega, by omega, by simpa [cT] using gt, S8.drop⟩ ?_
  clear S8 gt hkO
  rintro _ _ t h9 ⟨b, O, rfl, hb, rfl, gt, S⟩
  have hkO : k < O.length := by rw [gt.len]; exact hkl
  have hcl := Nat.le_trans (cT_len (F := F) (f := F[k]) b hb) (sum_le_cFunc b)
  refine ifB_intro (fun hc => ?_) (fun hc => ?_)
  · have hbl : b < F[k].blocks.length := by rw [hx6l] at hc; simpa using hc
    refine idx_rdN hx6 rfl hbl fun p5 _ hp5 => ?_
    refine ld_agg hp5 S.old.ext rfl fun cs7 hcs7 => ?_
    refine new_stB S hcs7 rfl rfl fun p6 h11 S11 => ?_
    clear S
    refine ld_lstX (fld_code.bx S11.bx) fun x8 hx8 => ?_
    have hx8l := hx8.lenEq
    have hcl2 := Nat.le_trans (cT_len (F := F) (f := F[k]) (b + 1) (by omega)) (sum_le_cFunc (b + 1))
    rw [cT_succ hbl, List.length_append] at hcl2
    have hcode : F[k].blocks[b].code.length ≤ 6000 := by
      have h1 := code_le (b := F[k].blocks[b])
      have h2 := sum_le_cFunc (f := F[k]) (b + 1)
      rw [sum_take _ hbl] at h2
      omega
    refine loop_intro (fun m' (t : Int) h' => ∃ (c : Nat) (O : Graph), t = c ∧ c ≤ F[k].blocks[b].code.length ∧ m' = F[k].blocks[b].code.length - c ∧ GT F k ((cT F F[k] b ++ (F[k].blocks[b].code.take c).filterMap (callK F)).map fun (k : Nat) => (k : Int)) O ∧ Sep h1 h' [ownSl si_LLint eInts s O, ownM vfN m l]) F[k].blocks[b].code.length
      ⟨0, O, rfl, by omega, by omega, by simpa using gt, S11.drop⟩ ?_
    clear S11 gt hkO
    rintro _ _ t h12 ⟨c, O, rfl, hcc, rfl, gt, S⟩
    have hkO : k < O.length := by rw [gt.len]; exact hkl
    refine ifB_intro (fun hc => ?_) (fun hc => ?_)
    · have hcl3 : c < F[k].blocks[b].code.length := by rw [hx8l] at hc; simpa using hc
      intro k1 hk1
      refine idx_rdN hx8 rfl hcl3 fun p7 _ hp7 => ?_
      refine ld_agg hp7 S.old.ext rfl fun cs9 hcs9 => ?_
      refine new_stB S hcs9 rfl rfl fun p8 h15 S15 => ?_
      have htk : (F[k].blocks[b].code.take (c + 1)).filterMap (callK F) = (F[k].blocks[b].code.take c).filterMap (callK F) ++ (callK F F[k].blocks[b].code[c]).toList := by
        rw [List.take_succ_eq_append_getElem hcl3, List.filterMap_append]
        cases e : callK F F[k].blocks[b].code[c] <;> simp [List.filterMap_cons, e]
      refine ld_strX (fld_iName.bx S15.bx) ?_
      refine mlk_rule S15.drop.swap.rdM ?_
      rw [hl]
      have fin : ∀ (h' : Heap) (O' : Graph), GT F k ((cT F F[k] b ++ (F[k].blocks[b].code.take (c + 1)).filterMap (callK F)).map fun (k : Nat) => (k : Int)) O' → Sep h1 h' [ownSl si_LLint eInts s O', ownM vfN m l] → k1 () h' := fun h' O' g' S' =>
        hk1 _ _ fun _ => ar_i64 (by omega) (by omega) ⟨F[k].blocks[b].code.length - (c + 1), by omega, c + 1, O', rfl, by omega, rfl, g', S'⟩
      rw [htk] at fin
      have key : ∀ (o : Option Nat), callK F F[k].blocks[b].code[c] = o → ∀ (y : Int) (t : Bool), (t = true → ∃ q : Nat, o = some q ∧ y = q) → (t = false → o = none) →
          ifB t (idx 1 s (k : Int) fun p_9 => ld .sl h15 p_9 fun (x_11 : Sl) => bld si_Lint 1 [(0, .int .i64 y)] h15 fun s_1 h_17 => app si_Lint x_11 s_1 h_17 fun s_2 h_18 => idx 1 s (k : Int) fun p_10 => st [s_2.v] h_18 p_10 fun h_19 => k1 () h_19) (k1 () h15) := fun o ho y t h1 h2 => by
        refine ifB_intro (fun ht => ?_) (fun ht => ?_)
        · obtain ⟨q, rfl, rfl⟩ := h1 ht
          have hol : O[k].length ≤ 6000 := by
            rw [gt.mid hkO, List.length_map, List.length_append]
            have : ((F[k].blocks[b].code.take c).filterMap (callK F)).length ≤ (F[k].blocks[b].code.filterMap (callK F)).length := by
              conv => rhs; rw [← List.take_append_drop c F[k].blocks[b].code, List.filterMap_append, List.length_append]
              omega
            omega
          refine app_row (x := (q : Int)) S15.drop hkO (own_int _) rfl (by decide) (by simp only [si_Lint]; omega) (by omega) fun h19 S19 => ?_
          refine fin h19 _ ?_ S19
          have g2 := gt.set (row' := O[k] ++ [(q : Int)]) hkO
          rw [gt.mid hkO] at g2 ⊢
          rw [ho]
          simpa using g2
        · have := h2 ht
          subst this
          refine fin h15 O ?_ S15.drop
          rw [ho]
          simpa using gt
      have hop := fld_iOp.bx S15.bx
      cases hat : atF F F[k].blocks[b].code[c].name with
      | none =>
        refine ⟨0, rfl, ?_⟩
        intro k2 hk2
        refine ifB_false rfl (hk2 _ _ fun _ => ?_)
        exact key none (by unfold callK; rw [hat]; split <;> rfl) 0 false (fun h => by cases h) fun _ => rfl
      | some q =>
        refine ⟨(q : Int), rfl, ?_⟩
        intro k2 hk2
        refine ifB_true rfl ?_
        refine ld_intX hop ?_
        refine hk2 _ _ fun _ => ?_
        by_cases h31 : F[k].blocks[b].code[c].op = 31
        · exact key (some q) (by unfold callK; rw [if_pos h31, hat]) (q : Int) _ (fun _ => ⟨q, rfl, rfl⟩) fun h => by rw [h31] at h; cases h
        · exact key none (by unfold callK; rw [if_neg h31]) (q : Int) _ (fun h => absurd (by simpa using h) h31) fun _ => rfl
    · have hce : F[k].blocks[b].code.length ≤ c := by rw [hx8l] at hc; simpa using hc
      rw [List.take_of_length_le hce, ← cT_succ hbl] at gt
      have hbk : F[k].blocks.length ≤ 6000 := by
        have h1 : F[k].blocks.length ≤ ((F[k].blocks.take F[k].blocks.length).map cBlock).sum := by
          rw [List.take_length]
          generalize F[k].blocks = bs
          induction bs with
          | nil => simp
          | cons x l ih => rw [List.map_cons, List.sum_cons, List.length_cons]; have : 1 ≤ cBlock x := by unfold cBlock; omega
                           omega
        have h2 := sum_le_cFunc (f := F[k]) F[k].blocks.length
        omega
      exact ar_i64 (by omega) (by omega) ⟨F[k].blocks.length - (b + 1), by omega, b + 1, O, rfl, by omega, rfl, gt, S⟩
  · have hbe : b = F[k].blocks.length := by rw [hx6l] at hc; have := of_decide_eq_false hc; omega
    subst hbe
    rw [cT_end] at gt hcl
    -- in order, each once
    refine idx_rdN S.rd rfl hkO fun p11 hat11 _ => ?_
    obtain ⟨xs, hxc, S2⟩ := (Sep.raw.2 S).away (i := k) (x := O[k]) (by simpa using hkO) (by simp)
    obtain ⟨x, rfl, S3⟩ := S2.swap.ofEl
    clear S S2
    refine ld_one (x := x) (by have := hxc p11 hat11 0 x.v rfl; rwa [Go.Fw.Addr.add_zero'] at this) ?_
    rw [gt.mid hkO] at S3
    refine (sort_calls S3 (by rw [List.length_map]; omega)).mono ?_
    rintro v h20 ⟨rfl, S20⟩
    refine ⟨rfl, ?_⟩
    clear S3
    refine idx_rdN S20.swap.rd rfl (show k < ((O.map Sum.inl).set k (Sum.inr [x.v])).length by simpa using hkO) fun p12 hat12 _ => ?_
    have hc12 := raw_cell S20.swap (i := k) (ys := [x.v]) (by simpa using hkO) (by simp) p12 hat12 0 x.v rfl
    rw [Go.Fw.Addr.add_zero'] at hc12
    refine ld_one (k := .sl) (x := x) hc12 ?_
    refine (compact_calls S20 (by rw [List.length_mergeSort, List.length_map]; omega)).mono ?_
    rintro v h21 ⟨r1, rfl, S21⟩
    refine ⟨r1, rfl, ?_⟩
    have hsrt : ((List.map (fun (k : Nat) => (k : Int)) (callsK F F[k])).mergeSort fun x y => decide (x ≤ y)).Pairwise (· ≤ ·) := by
      have := List.pairwise_mergeSort (le := fun (x y : Int) => decide (x ≤ y)) (fun a b c h1 h2 => by simp at h1 h2 ⊢; omega) (fun a b => by simp; omega) (List.map (fun (k : Nat) => (k : Int)) (callsK F F[k]))
      exact this.imp fun h => by simpa using h
    rw [row_sorted (F := F) (f := F[k]) hsrt fun z => (List.mergeSort_perm _ _).mem_iff] at S21
    refine idx_rdN S21.swap.rd rfl (show k < ((O.map Sum.inl).set k (Sum.inr [x.v])).length by simpa using hkO) fun p13 hat13 _ => ?_
    have S22 : Sep h1 h21 (ownSl si_LLint (Elem.raw eInts) s ((O.map Sum.inl).set k (Sum.inr [x.v])) :: ownEl (Elem.raw eInts) [r1.v] (.inl ((rowG F F[k]).map fun (k : Nat) => (k : Int))) :: [ownM vfN m l]) := S21.toEl.swap
    refine st_rule S22 hat13 rfl (by simpa using hkO) fun h22 S23 => ?_
    refine ar_i64 (by omega) (by omega) ⟨F.length - (k + 1), by omega, k + 1, O.set k ((rowG F F[k]).map fun (k : Nat) => (k : Int)), rfl, by omega, rfl, ⟨by rw [List.length_set, gt.len], fun a ha hb h => ?_, fun ha => ?_, fun a ha h => ?_⟩, Sep.raw.1 (S23.cast ?_)⟩
    · rw [List.getElem_set]
      split
      · rename_i e; subst e; rfl
      · exact gt.low a (by simpa using ha) hb (by omega)
    · rw [List.getElem_set, if_neg (by omega)]
      exact gt.high _ (by simpa using ha) (by omega)
    · rw [List.getElem_set, if_neg (by omega)]
      exact gt.high _ (by simpa using ha) (by omega)
    · congr 2
      rw [List.set_set, List.map_set]

end Go.Proofs.Ytjpjnpbjalmhiaa
