/-
  lateenref20: calls, Graph.
-/
import Derived.Test.YtjpjnpbjalmhiaaFnFew
import Derived.Test.YtjpjnpbjalmhiaaFnFlow
import Derived.Test.YtjpjnpbjalmhiaaPlGraph
import Derived.Test.YtjpjnpbjalmhiaaFwMap
namespace Go.Proofs.Ytjpjnpbjalmhiaa
open Go.Fw Go.Pl Go.Pl.Api

theorem refCalls_calls {h : Heap} {cs : Array Value} {f : MFunc} (hx : rFunc.rv h cs.toList f) (name : ByteArray) :
    ACalls Try.prog F_lateenref20_calls [.agg cs, .string name] h (fun v h' => v = .bool (callsB f name) ∧ Old h h') := by
  refine lateenref20_calls_of ?_
  unfold lateenref20_calls
  refine new_rv hx fun p h1 o1 hp => ?_
  have hbk := fld_blocks.rd hp
  have e1 := hExt.refl h1
  refine loop_intro (fun m (t : Int) h' => ∃ i : Nat, t = i ∧ h' = h1 ∧ i ≤ f.blocks.length ∧ m = f.blocks.length - i ∧ ∀ z (hz : z < f.blocks.length), z < i → ∀ x ∈ f.blocks[z].code, ¬ (x.op = 31 ∧ x.name = name)) f.blocks.length
    ⟨0, rfl, rfl, by omega, by omega, fun z hz h => by omega⟩ ?_
  rintro _ _ t h2 ⟨i, rfl, rfl, hi, rfl, hno⟩
  refine ld_lst hbk e1 fun s hs => ?_
  have hsl := hs.lenEq
  have hsb := hs.bound
  refine ifB_intro (fun hc => ?_) (fun hc => ⟨?_, o1⟩)
  · have hil : i < f.blocks.length := by rw [hsl] at hc; simpa using hc
    refine loop_intro (fun m (t : Int) h' => ∃ k : Nat, t = k ∧ h' = h2 ∧ k ≤ f.blocks[i].code.length ∧ m = f.blocks[i].code.length - k ∧ ∀ z (hz : z < f.blocks[i].code.length), z < k → ¬ (f.blocks[i].code[z].op = 31 ∧ f.blocks[i].code[z].name = name)) f.blocks[i].code.length
      ⟨0, rfl, rfl, by omega, by omega, fun z hz h => by omega⟩ ?_
    rintro _ _ t h3 ⟨k, rfl, rfl, hk, rfl, hnk⟩
    refine ld_lst hbk e1 fun s1 hs1 => ?_
    refine idx_rdN hs1 rfl hil fun p1 _ hp1 => ld_lst (fld_code.rd hp1) e1 fun s2 hs2 => ?_
    have hs2l := hs2.lenEq
    have hs2b := hs2.bound
    refine ifB_intro (fun hc => ?_) (fun hc => ?_)
    · have hkl : k < f.blocks[i].code.length := by rw [hs2l] at hc; simpa using hc
      intro k1 hk1
      have yes : f.blocks[i].code[k].op = 31 ∧ f.blocks[i].code[k].name = name → k1 true h3 := fun hh => hk1 _ _ fun _ => ifB_true rfl ⟨by
        have : callsB f name = true := by
          unfold callsB
          rw [List.any_eq_true]
          refine ⟨_, List.getElem_mem hil, ?_⟩
          rw [List.any_eq_true]
          exact ⟨_, List.getElem_mem hkl, by simp [hh]⟩
        rw [this], o1⟩
      have no : ¬ (f.blocks[i].code[k].op = 31 ∧ f.blocks[i].code[k].name = name) → k1 false h3 := fun hh => hk1 _ _ fun _ => ifB_false rfl (ar_i64 (by omega) (by omega) ⟨f.blocks[i].code.length - (k + 1), by omega, k + 1, rfl, rfl, by omega, rfl, fun z hz hlt => by
        by_cases e : z = k
        · subst e; exact hh
        · exact hnk z hz (by omega)⟩)
      refine ld_lst hbk e1 fun s3 hs3 => ?_
      refine idx_rdN hs3 rfl hil fun p2 _ hp2 => ld_lst (fld_code.rd hp2) e1 fun s4 hs4 => ?_
      refine idx_rdN hs4 rfl hkl fun p3 _ hp3 => ld_int (fld_iOp.rd hp3) e1 ?_
      refine ifB_intro (fun hop => ?_) (fun hop => no fun hh => by rw [hh.1] at hop; simp at hop)
      have hop : f.blocks[i].code[k].op = 31 := by simpa using hop
      refine ld_lst hbk e1 fun s6 hs6 => ?_
      refine idx_rdN hs6 rfl hil fun p4 _ hp4 => ld_lst (fld_code.rd hp4) e1 fun s7 hs7 => ?_
      refine idx_rdN hs7 rfl hkl fun p5 _ hp5 => ld_str (fld_iName.rd hp5) e1 ?_
      rw [bytes_eq]
      by_cases hn : f.blocks[i].code[k].name = name
      · rw [decide_eq_true hn]; exact yes ⟨hop, hn⟩
      · rw [decide_eq_false hn]; exact no fun hh => hn hh.2
    · have hkl : f.blocks[i].code.length ≤ k := by rw [hs2l] at hc; simpa using hc
      refine ar_i64 (by omega) (by omega) ⟨f.blocks.length - (i + 1), by omega, i + 1, rfl, rfl, by omega, rfl, fun z hz hlt => ?_⟩
      by_cases e : z = i
      · subst e
        intro x hx
        obtain ⟨j, hj, rfl⟩ := List.getElem_of_mem hx
        exact hnk j hj (by omega)
      · exact hno z hz (by omega)
  · have hil : f.blocks.length ≤ i := by rw [hsl] at hc; simpa using hc
    have : callsB f name = false := by
      unfold callsB
      rw [List.any_eq_false]
      intro b hb
      rw [Bool.not_eq_true, List.any_eq_false]
      intro x hx
      obtain ⟨z, hz, rfl⟩ := List.getElem_of_mem hb
      have := hno z hz (by omega) x hx
      simpa using this
    rw [this]

theorem refGraph_calls {h : Heap} {cs : Array Value} {p : MProg} (hx : rProg.rv h cs.toList p) (hn : p.funcs.length ≤ 50) :
    ACalls Try.prog F_lateenref20_Graph [.agg cs] h (fun v h' => ∃ s : Sl, v = s.v ∧ Sep h h' [ownSl si_LLint eInts s (graphP p.funcs)]) := by
  refine lateenref20_Graph_of ?_
  unfold lateenref20_Graph
  refine new_rv hx fun p1 h1 o1 hp => ?_
  have hfu := fld_pFuncs.rd hp
  have hgl : (graphP p.funcs).length = p.funcs.length := by simp [graphP]
  generalize hF : p.funcs = F at *
  refine loop_intro (fun m (t : Sl × Int) h' => ∃ i : Nat, t.2 = i ∧ i ≤ F.length ∧ m = F.length - i ∧ Sep h1 h' [ownSl si_LLint eInts t.1 ((graphP F).take i)]) F.length
    ⟨0, rfl, by omega, by omega, (Sep.start h1).nil rfl⟩ ?_
  rintro _ _ ⟨out, i⟩ h2 ⟨i, hi0, hi, rfl, S⟩
  simp only at hi0 S ⊢
  subst hi0
  refine ld_lst hfu S.old.ext fun x hxx => ?_
  have hxl := hxx.lenEq
  refine ifB_intro (fun hc => ?_) (fun hc => ?_)
  · have hil : i < F.length := by rw [hxl] at hc; simpa using hc
    have hrow : ∀ k, ((List.range k).filter fun k => firstB F k && match F[k]? with | some g => callsB F[i] g.name | none => false).length ≤ k := fun k => Nat.le_trans (List.length_filter_le _ _) (by simp)
    refine loop_intro (fun m (t : Sl × Int) h' => ∃ k : Nat, t.2 = k ∧ k ≤ F.length ∧ m = F.length - k ∧ Sep h1 h' [ownSl si_Lint eInt t.1 (((List.range k).filter fun k => firstB F k && match F[k]? with | some g => callsB F[i] g.name | none => false).map fun (k : Nat) => (k : Int)), ownSl si_LLint eInts out ((graphP F).take i)]) F.length
      ⟨0, rfl, by omega, by omega, S.nil rfl⟩ ?_
    clear S hxx
    rintro _ _ ⟨l, k⟩ h3 ⟨k, hk0, hk, rfl, S⟩
    simp only at hk0 S ⊢
    subst hk0
    have e3 := S.old.ext
    refine ld_lst hfu e3 fun x1 hx1 => ?_
    have hx1l := hx1.lenEq
    refine ifB_intro (fun hc => ?_) (fun hc => ?_)
    · have hkl : k < F.length := by rw [hx1l] at hc; simpa using hc
      have hkr := hrow k
      intro k1 hk1
      have fin : ∀ (l' : Sl) h', Sep h1 h' [ownSl si_Lint eInt l' (((List.range (k + 1)).filter fun k => firstB F k && match F[k]? with | some g => callsB F[i] g.name | none => false).map fun (k : Nat) => (k : Int)), ownSl si_LLint eInts out ((graphP F).take i)] → k1 l' h' := fun l' h' S' =>
        hk1 _ _ fun _ => ar_i64 (by omega) (by omega) ⟨F.length - (k + 1), by omega, k + 1, rfl, by omega, rfl, S'⟩
      rw [List.range_succ, List.filter_append, List.map_append] at fin
      -- the first of its name?
      refine loop_intro (fun m (t : Bool × Int) h' => ∃ j : Nat, t.2 = j ∧ h' = h3 ∧ j ≤ k ∧ m = k - j ∧ (t.1 = true ↔ ∀ z (hz : z < F.length), z < j → F[z].name ≠ F[k].name)) k
        ⟨0, rfl, rfl, by omega, by omega, by simp⟩ ?_
      rintro _ _ ⟨fst, j⟩ h5 ⟨j, hj0, rfl, hj, rfl, hfst⟩
      simp only at hj0 hfst ⊢
      subst hj0
      refine ifB_intro (fun hc => ?_) (fun hc => ?_)
      · have hjk : j < k := by have := of_decide_eq_true hc; omega
        intro k2 hk2
        have nx : ∀ b : Bool, (b = true ↔ ∀ z (hz : z < F.length), z < j + 1 → F[z].name ≠ F[k].name) → k2 b h5 := fun b hb => hk2 _ _ fun _ => ar_i64 (by omega) (by omega) ⟨k - (j + 1), by omega, j + 1, rfl, rfl, by omega, rfl, hb⟩
        refine ifB_intro (fun hb => ?_) (fun hb => nx false ⟨fun h => (by cases h), fun h => ?_⟩)
        · refine ld_lst hfu e3 fun x2 hx2 => ?_
          refine idx_rdN hx2 rfl (show j < F.length by omega) fun p2 _ hp2 => ld_str (fld_fName.rd hp2) e3 ?_
          refine ld_lst hfu e3 fun x4 hx4 => ?_
          refine idx_rdN hx4 rfl hkl fun p3 _ hp3 => ld_str (fld_fName.rd hp3) e3 ?_
          rw [bytes_eq]
          refine nx _ ⟨fun h z hz hlt => ?_, fun h => ?_⟩
          · by_cases e : z = j
            · subst e; simpa using h
            · exact hfst.1 hb z hz (by omega)
          · simpa using h j (by omega) (by omega)
        · rw [hfst.2 fun z hz hlt => h z hz (by omega)] at hb; cases hb
      · have hjk : j = k := by have := of_decide_eq_false hc; omega
        subst hjk
        have hf2 : fst = firstB F j := by
          rw [Bool.eq_iff_iff, hfst, firstB_iff hkl]
          exact ⟨fun h z hz => h z (by omega) hz, fun h z hz hlt => h z hlt⟩
        intro k3 hk3
        have key : ∀ t, t = (firstB F j && match F[j]? with | some g => callsB F[i] g.name | none => false) → ∀ h', Old h5 h' → k3 t h' := fun t ht h' o => hk3 _ _ fun _ => by
          refine ifB_intro (fun hb => ?_) (fun hb => fin l h' ((S.grow o).cast (by simp [← ht, hb])))
          refine app1_flat (S.grow o) (own_int (j : Int)) rfl (by decide) (by simp only [si_Lint, List.length_map]; omega) (by rw [List.length_map]; omega) fun s1 h9 S9 => ?_
          refine fin s1 h9 (S9.cast ?_)
          simp [← ht, hb]
        refine ifB_intro (fun hb => ?_) (fun hb => key false (by rw [← hf2, hb]; rfl) _ (.refl _))
        refine ld_lst hfu e3 fun x6 hx6 => ?_
        refine idx_rdN hx6 rfl hil fun p4 _ hp4 => ?_
        refine ld_agg hp4 e3 rfl fun cs7 hcs7 => ?_
        refine ld_lst hfu e3 fun x8 hx8 => ?_
        refine idx_rdN hx8 rfl hkl fun p5 _ hp5 => ld_str (fld_fName.rd hp5) e3 ?_
        refine (refCalls_calls (rFunc.ext hcs7 e3) F[j].name).mono ?_
        rintro v h10 ⟨rfl, o10⟩
        refine ⟨_, rfl, o10.ext, key _ ?_ _ o10⟩
        rw [← hf2, hb, List.getElem?_eq_getElem hkl]
        rfl
    · have hkl : F.length ≤ k := by rw [hx1l] at hc; simpa using hc
      have hke : k = F.length := by omega
      subst hke
      have hrw : (((List.range F.length).filter fun k => firstB F k && match F[k]? with | some g => callsB F[i] g.name | none => false).map fun (k : Nat) => (k : Int)) = (graphP F)[i] := by
        unfold graphP rowG
        rw [List.getElem_map]
        rfl
      rw [hrw] at S
      refine app1_rule (S.toEl.swap) rfl (by decide) (by simp only [si_LLint, List.length_take]; omega) (by simp only [List.length_take]; omega) fun s' h' S' => ?_
      refine ar_i64 (by omega) (by omega) ⟨F.length - (i + 1), by omega, i + 1, rfl, by omega, rfl, S'.cast ?_⟩
      rw [List.take_succ_eq_append_getElem (by omega)]
  · have hil : F.length ≤ i := by rw [hxl] at hc; simpa using hc
    rw [List.take_of_length_le (by omega)] at S
    exact ⟨out, rfl, S.since o1⟩

end Go.Proofs.Ytjpjnpbjalmhiaa
