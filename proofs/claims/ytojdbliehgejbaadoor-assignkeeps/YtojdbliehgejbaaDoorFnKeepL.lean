/-
  lateenlaw12.LiveKeeps.
-/
import Derived.Test.YtojdbliehgejbaaDoorFnLin9
import Derived.Test.YtojdbliehgejbaaDoorFnAwake12
import Derived.Test.YtojdbliehgejbaaDoorFwFree
namespace Go.Proofs.YtojdbliehgejbaaDoor
open Go.Fw Go.Pl Go.Pl.Api Go.Pl.Set Go.Pl.Live Go.Pl.Put Go.Pl.Lines

def spoiltS : ByteArray := ⟨#[115, 112, 111, 105, 108, 116]⟩
/-- All names of lists of one's own are spoilt. -/
theorem spoilNames {h0 h : Heap} {L : List As} {r : Sl} {ll : List (List ByteArray)} {Q : Heap → Prop} (S : Fw.Sep h0 h (ownSl si_LLstring (Elem.sl si_Lstring eStr) r ll :: L)) (hn : ll.length ≤ 1000000)
    (hQ : ∀ h', Fw.Sep h0 h' L → Q h') :
    loopW (fun _ (i : Int) h_9 next =>
      ifB (decide (i < (r.len : Int)))
       (loopW (fun _ (k_1 : Int) h_10 next_1 =>
        idx 1 r i fun p_2 =>
        ld .sl h_10 p_2 fun (x_3 : Sl) =>
        ifB (decide (k_1 < (x_3.len : Int)))
         (idx 1 r i fun p_3 =>
        ld .sl h_10 p_3 fun (x_4 : Sl) =>
        idx 1 x_4 k_1 fun p_4 =>
        st [.string ⟨#[115, 112, 111, 105, 108, 116]⟩] h_10 p_4 fun h_11 =>
        ar .i64 (k_1 + 1) fun n =>
        next_1 n h_11)
         (ar .i64 (i + 1) fun n_1 =>
      next n_1 h_10)) 0 h_9)
       (Q h_9)) 0 h := by
  have hrl : r.len = ll.length := S.rd.lenEq
  refine loop_intro (fun m (q : Int) h' => ∃ i : Nat, q = i ∧ i ≤ ll.length ∧ m = ll.length - i ∧ ∃ LL : List (List ByteArray), LL.length = ll.length ∧ Fw.Sep h0 h' (ownSl si_LLstring (Elem.sl si_Lstring eStr) r LL :: L)) ll.length
    ⟨0, rfl, by omega, by omega, ll, rfl, S⟩ ?_
  clear S
  rintro _ _ _ h1 ⟨i, rfl, hi, rfl, LL, hLL, S⟩
  refine ifB_intro (fun hc => ?_) (fun _ => hQ _ S.drop)
  have hil : i < ll.length := by rw [hrl] at hc; simpa using hc
  have hiL : i < LL.length := by omega
  refine loop_intro (fun m (q : Int) h' => ∃ k : Nat, q = k ∧ k ≤ LL[i].length ∧ m = LL[i].length - k ∧ ∃ (M : List (List ByteArray)) (hM : M.length = ll.length), (M[i]'(by omega)).length = LL[i].length ∧ Fw.Sep h0 h' (ownSl si_LLstring (Elem.sl si_Lstring eStr) r M :: L)) LL[i].length
    ⟨0, rfl, by omega, by omega, LL, hLL, rfl, S⟩ ?_
  clear S
  rintro _ _ _ h2 ⟨k, rfl, hk, rfl, M, hM, hMi, S⟩
  have hiM : i < M.length := by omega
  refine idx_rdN S.rd rfl hiM fun p _ hp => ld_sl hp fun x1 hx1 => ?_
  have hx1l := hx1.lenEq
  have hx1b := hx1.bound
  refine ifB_intro (fun hc => ?_) (fun hc => ?_)
  · have hkl : k < M[i].length := by rw [hx1l] at hc; simpa using hc
    refine st_row (x := spoiltS) S hiM hkl rfl (own_str _) fun h8 S8 => ?_
    exact ar_i64 (by omega) (by omega) ⟨LL[i].length - (k + 1), by omega, k + 1, rfl, by omega, rfl, _, by simpa using hM, by simpa using hMi, S8⟩
  · exact ar_i64 (by omega) (by omega) ⟨ll.length - (i + 1), by omega, i + 1, rfl, by omega, rfl, M, hM, S⟩

def progC (s : Sl) : Array Value := #[.bool false, .slice none 0 0, .slice none 0 0, .slice none 0 0, s.v]
theorem rv_progC {h : Heap} {s : Sl} {f : MFunc} (r : rdSl rFunc.el h s [f]) : rProg.rv h (progC s).toList ⟨false, [], [], [], [f]⟩ :=
  rv_prog (p := ⟨false, [], [], [], [f]⟩) rd_nilSl rd_nilSl rd_nilSl r rfl
theorem one_prog {s : Sl} : ∀ v ∈ (progC s).toList, v.oneCell' = true := by
  intro v hv; simp [progC] at hv; rcases hv with rfl | rfl | rfl <;> rfl
def textF (f : MFunc) : ByteArray := ⟨([f].flatMap funcL).toArray⟩
theorem textOf_calls {h : Heap} {s : Sl} {f : MFunc} (r : rdSl rFunc.el h s [f]) (hb : bFunc f) (hW : WordsIn h) (hc : cFunc f ≤ 3000) :
    ACalls Tryd.prog F_lateenref06_Lines [.agg (progC s)] h (fun v h' => v = .string (textF f) ∧ Old h h') := by
  refine lines_calls (rv_progC r) ⟨by simp, fun x hx => by rw [List.mem_singleton.1 hx]; exact hb⟩ hW ?_
  have := lFunc_c f
  simp
  omega

theorem liveKeeps_calls {h : Heap} {cs : Array Value} {f : MFunc} (hf : rFunc.rv h cs.toList f) (hb : bFunc f) (hW : WordsIn h) :
    ACalls Tryd.prog F_lateenlaw12_LiveKeeps [.agg cs] h (fun v h' => v = .bool true ∧ Old h h') := by
  refine lateenlaw12_LiveKeeps_of ?_
  unfold lateenlaw12_LiveKeeps
  refine new_rv hf fun p h1 o1 hp => ?_
  have hW := hW.old o1
  intro k hk
  have aw : ∀ h', Old h1 h' → k true h' := fun h' o => hk _ _ fun _ => ifB_true rfl (awake12_calls.mono fun v h'' ⟨e, o'⟩ => ⟨true, e, rfl, o1.trans (o.trans o')⟩)
  refine awake12_calls.mono ?_
  rintro v h2 ⟨rfl, o2⟩
  refine ⟨true, rfl, ifB_false rfl ?_⟩
  refine ld_agg hp o2.ext rfl fun c1 hc1 => ?_
  refine (few12_calls (rFunc.ext hc1 o2.ext) hb).mono ?_
  rintro v h3 ⟨b, rfl, o3, hF⟩
  have o3 := o2.trans o3
  refine ⟨b, rfl, ?_⟩
  cases b with
  | false => exact aw _ o3
  | true =>
  have F := hF rfl
  refine hk _ _ fun _ => ifB_false rfl ?_
  clear hF hk aw
  have hn30 := F.n30
  refine ld_agg hp o3.ext rfl fun c4 hc4 => ?_
  have hc4 := rFunc.ext hc4 o3.ext
  refine bld_one (E := rFunc.fl h3) (v := .agg c4) (x := f) ((Sep.start h3).nil rfl) (fun _ => ⟨hc4, rfl⟩) rfl (by decide) fun s h4 S4 => ?_
  refine ⟨progC s, by kernel_rfl, ?_⟩
  refine new_stR S4 rfl rfl one_prog fun p1 h6 S6 => ?_
  have hs6 : rdSl rFunc.el h6 s [f] := RV.fl_el S6.swap.rd S6.old.ext
  refine ld_rawAgg S6 rfl ?_
  refine (textOf_calls hs6 hb (hW.old (o3.trans S6.old)) F.cnt).mono ?_
  rintro v h7 ⟨rfl, o7⟩
  refine ⟨_, rfl, ?_⟩
  have S7 := S6.grow o7
  refine ld_agg hp (o3.trans S7.old).ext rfl fun c7 hc7 => ?_
  refine (ins_calls (rFunc.ext hc7 (o3.trans S7.old).ext) (by omega) (F.sz hb)).mono ?_
  rintro v h8 ⟨r2, ll, rfl, hll, _, S8⟩
  refine ⟨_, rfl, ?_⟩
  have S9 := S7.frame S8
  refine spoilNames S9 (by omega) fun h9 S10 => ?_
  clear S4 S6 S7 S8 S9 hs6
  have S10 : Fw.Sep h3 h9 [rawB p1 (progC s), ownSl si_Lapi_Func (rFunc.fl h3) s [f]] := S10
  intro k2 hk2
  have o9 := o3.trans S10.old
  have hs9 : rdSl rFunc.el h9 s [f] := RV.fl_el S10.swap.rd S10.old.ext
  refine ⟨Old h9, h9, [], fun n _ => if n = 1 then Fw.Spec.val (.string (textF f)) else ⟨fun _ => [], fun v => ∃ s : Sl, v = s.v ∧ s.len = f.blocks.length⟩, .refl _, Sep.start _, ?_⟩
  refine ldF_old (ld_rawAgg S10 rfl ?_)
  refine fcV (k := .str) (x := textF f) (fun _ => rfl) (fun h' X o S => textOf_calls (hs9.old o) hb (hW.old (o9.trans o)) F.cnt) ⟨_, rfl, ?_⟩
  refine ifB_true (by simp) ?_
  refine ldF_old (ld_agg hp o9.ext rfl fun c9 hc9 => ?_)
  refine ⟨⟨_, ⟨none, f.blocks.length, 0⟩, rfl, rfl⟩, fun h' X o S => ?_, ?_⟩
  · refine (ins_calls (rFunc.ext hc9 (o9.trans o).ext) (by omega) (F.sz hb)).mono ?_
    rintro v h'' ⟨r5, ll5, rfl, hll5, _, S5⟩
    have hl5 := S5.rd.lenEq
    exact ⟨_, rfl, o.trans S5.old, ⟨r5, rfl, by omega⟩, Sep.grow S S5.old⟩
  rintro v ⟨r6, rfl, hr6⟩
  refine ⟨_, rfl, ?_⟩
  refine ldF_old (ld_lst (fld_blocks.rd hp) o9.ext fun x7 hx7 => ?_)
  have hx7l := hx7.lenEq
  intro h18 o18 _
  refine hk2 _ _ fun _ => ⟨?_, o1.trans (o9.trans o18)⟩
  rw [hr6, hx7l]
  simp
end Go.Proofs.YtojdbliehgejbaaDoor
