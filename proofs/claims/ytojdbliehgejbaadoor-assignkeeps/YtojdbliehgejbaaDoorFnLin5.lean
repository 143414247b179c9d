/-
  lateenref06.code.
-/
import Derived.Test.YtojdbliehgejbaaDoorFnLin
import Derived.Test.YtojdbliehgejbaaDoorFwOwn
namespace Go.Proofs.YtojdbliehgejbaaDoor
open Go.Fw Go.Pl.Api Go.Pl.Put Go.Pl.Lines

theorem RX.of {h0 h : Heap} {p : Addr} {cs : Array Value} {L : List As} (S : Fw.Sep h0 h (rawB p cs :: L)) : RX h0 p cs h := ⟨S.old, (rawB_cell S).1, fun j v e => by rw [(rawB_cell S).2]; exact e⟩
theorem len_wS : ∀ (l : List ByteArray), l.length ≤ wS l
  | [] => by simp
  | a :: l => by rw [wS_cons, List.length_cons]; have := len_wS l; omega
theorem wS_take (l : List ByteArray) (n : Nat) : wS (l.take n) ≤ wS l := by
  conv => rhs; rw [← List.take_append_drop n l, wS_app]
  omega
theorem flatW_take {α : Type} (f : α → List ByteArray) {l : List α} {j : Nat} (h : j < l.length) : (l.take (j + 1)).flatMap f = (l.take j).flatMap f ++ f l[j] := by
  rw [List.take_succ_eq_append_getElem h, List.flatMap_append, List.flatMap_singleton]
theorem wS_flat_take {α : Type} (f : α → List ByteArray) (l : List α) (n : Nat) : wS ((l.take n).flatMap f) ≤ wS (l.flatMap f) := by
  conv => rhs; rw [← List.take_append_drop n l, List.flatMap_append, wS_app]
  omega
/-- Strings behind strings of one's own, in a region. -/
theorem fapp {ws ws' : List ByteArray} {w r : Sl} {p : Addr} {cs : Array Value} {h0 : Heap} {rest pre : List As} {K : Value → Prop} (hpre : pre = [ownV si_Lstring eStr ws' r.v, ownSl si_Lstring eStr w ws] ++ rest)
    (hrx : ∀ {h X}, Fw.Sep h0 h (rest ++ X) → RX h0 p cs h) (hl : ws.length + ws'.length ≤ 1000000000) (hK : ∀ s : Sl, K s.v) :
    freeW (RX h0 p cs) h0 (spS si_Lstring eStr (ws ++ ws') rest) pre (fun h Kv => app si_Lstring w r h fun s h' => Kv s.v h') K := by
  subst hpre
  refine ⟨⟨(⟨none, 0, 0⟩ : Sl).v, _, rfl⟩, fun h X _ S => ?_, fun v ⟨s, e⟩ => by rw [e]; exact hK s⟩
  have S : Fw.Sep h0 h (ownSl si_Lstring eStr r ws' :: ownSl si_Lstring eStr w ws :: (rest ++ X)) := Sep.ofV S
  refine app_copy S.swap (Elem.cell_flat _ _) S.rd (by simp only [si_Lstring]; omega) (by omega) fun s' h' S' => ?_
  have S2 : Fw.Sep h0 h' (ownSl si_Lstring eStr s' (ws ++ ws') :: (rest ++ X)) := S'.swap.drop
  exact ⟨hrx S2.drop, ⟨s', rfl⟩, S2.toV⟩
def instrC (x : MInstr) (s t u : Sl) : Array Value := #[.int .i64 x.op, .string x.dst, .string x.name, s.v, t.v, u.v]
theorem arr_instr {h : Heap} {cs : Array Value} {x : MInstr} (r : rInstr.rv h cs.toList x) : ∃ s t u : Sl, cs = instrC x s t u ∧ rdSl rArg.el h s x.args ∧ rdSl rStand.el h t x.stands ∧ rdSl rVirt.el h u x.objs := by
  obtain ⟨s, t, u, e, h1, h2, h3⟩ := rv_instr.1 r
  exact ⟨s, t, u, Array.toList_inj.1 e, h1, h2, h3⟩
def lStand (s : MStand) : Nat := wS (standW s) + 1
def lVirt (v : MVirt) : Nat := wS (virtW v) + 1
def lCode (x : MInstr) : Nat := wS (instrW x) + 1 + (x.stands.map lStand).sum + (x.objs.map lVirt).sum

section
variable {h0 : Heap} {L : List As} {p : Addr} {x : MInstr} {s t u : Sl}
/-- Frames' lines, then objects'. -/
theorem code_rest {h : Heap} {out : Sl} {bs : List UInt8} {Q : Value → Heap → Prop} (S : Fw.Sep h0 h (ownSl si_Luint8 eB8 out bs :: rawB p (instrC x s t u) :: L)) (ht : rdSl rStand.el h0 t x.stands) (hu : rdSl rVirt.el h0 u x.objs) (hb : bInstr x)
    (hl : bs.length + (x.stands.map lStand).sum + (x.objs.map lVirt).sum ≤ 1000000000)
    (hQ : ∀ (o' : Sl) h', Fw.Sep h0 h' (ownSl si_Luint8 eB8 o' (bs ++ x.stands.flatMap (fun s => lineF (standW s)) ++ x.objs.flatMap fun v => lineF (virtW v)) :: L) → Q o'.v h') :
    loopW (fun _ (q_out_1 : Sl × Int) h_10 next =>
        ld .sl h_10 (p.add 4) fun (x_3 : Sl) =>
        ifB (decide (q_out_1.2 < (x_3.len : Int)))
         (∃ (R : Heap → Prop) (h_11 : Heap) (L : List As) (S : Specs), R h_10 ∧ Fw.Sep h_11 h_10 L ∧ (ldF .sl R (p.add 4) fun (x_4 : Sl) =>
        idx 4 x_4 q_out_1.2 fun p_2 =>
        ldF .str R (p_2.add 0) fun (x_5 : ByteArray) =>
        ldF .sl R (p.add 4) fun (x_6 : Sl) =>
        idx 4 x_6 q_out_1.2 fun p_3 =>
        ldF .str R (p_3.add 1) fun (x_7 : ByteArray) =>
        ldF .sl R (p.add 4) fun (x_8 : Sl) =>
        idx 4 x_8 q_out_1.2 fun p_4 =>
        ldF (.int .i64) R (p_4.add 2) fun (x_9 : Int) =>
        freeW R h_11 (S 18 [.int .i64 x_9]) (L ++ []) (fun h_12 Kv =>
            ACalls Tryd.prog F_lateenref01_Put [.int .i64 x_9] h_12 fun v_2 h_13 => as1 .str v_2 fun r_3 =>
            Kv (.string r_3) h_13) fun v_3 => as1 .str v_3 fun r_4 =>
        freeW R h_11 (S 19 [.string x_5, .string x_7, .string r_4]) ((S 18 [.int .i64 x_9]).A v_3 ++ []) (fun h_14 Kv_1 =>
            bld si_Lstring 4 [(0, .string ⟨#[97, 116]⟩), (1, .string x_5), (2, .string x_7), (3, .string r_4)] h_14 fun s_2 h_15 =>
            Kv_1 s_2.v h_15) fun v_4 => as1 .sl v_4 fun r_5 =>
        endF R h_11 ((S 19 [.string x_5, .string x_7, .string r_4]).A v_4 ++ []) fun h_16 =>
        loopW (fun _ (q_w : Sl × Int) h_17 next_1 =>
          ld .sl h_17 (p.add 4) fun (x_10 : Sl) =>
          idx 4 x_10 q_out_1.2 fun p_5 =>
          ld .sl h_17 (p_5.add 3) fun (x_11 : Sl) =>
          ifB (decide (q_w.2 < (x_11.len : Int)))
           (∃ (R_1 : Heap → Prop) (h_18 : Heap) (L_1 : List As) (S_1 : Specs), R_1 h_17 ∧ Fw.Sep h_18 h_17 L_1 ∧ (ldF .sl R_1 (p.add 4) fun (x_12 : Sl) =>
          idx 4 x_12 q_out_1.2 fun p_6 =>
          ldF .sl R_1 (p_6.add 3) fun (x_13 : Sl) =>
          idx 4 x_13 q_w.2 fun p_7 =>
          ldF .str R_1 (p_7.add 0) fun (x_14 : ByteArray) =>
          ldF .sl R_1 (p.add 4) fun (x_15 : Sl) =>
          idx 4 x_15 q_out_1.2 fun p_8 =>
          ldF .sl R_1 (p_8.add 3) fun (x_16 : Sl) =>
          idx 4 x_16 q_w.2 fun p_9 =>
          ldF (.agg 3) R_1 (p_9.add 1) fun (x_17 : Array Value) =>
          freeW R_1 h_18 (S_1 21 [.agg x_17]) (L_1 ++ []) (fun h_19 Kv_2 =>
              ACalls Tryd.prog F_lateenref03_Put [.agg x_17] h_19 fun v_5 h_20 => as1 .str v_5 fun r_6 =>
              Kv_2 (.string r_6) h_20) fun v_6 => as1 .str v_6 fun r_7 =>
          freeW R_1 h_18 (S_1 22 [.string x_14, .string r_7]) ((S_1 21 [.agg x_17]).A v_6 ++ []) (fun h_21 Kv_3 =>
              bld si_Lstring 2 [(0, .string x_14), (1, .string r_7)] h_21 fun s_3 h_22 =>
              Kv_3 s_3.v h_22) fun v_7 => as1 .sl v_7 fun r_8 =>
          freeW R_1 h_18 (S_1 23 [q_w.1.v, r_8.v]) ((S_1 22 [.string x_14, .string r_7]).A v_7 ++ []) (fun h_23 Kv_4 =>
              app si_Lstring q_w.1 r_8 h_23 fun s_4 h_24 =>
              Kv_4 s_4.v h_24) fun v_8 => as1 .sl v_8 fun r_9 =>
          endF R_1 h_18 ((S_1 23 [q_w.1.v, r_8.v]).A v_8 ++ []) fun h_25 =>
          ar .i64 (q_w.2 + 1) fun n =>
          next_1 (r_9, n) h_25))
           (ACalls Tryd.prog F_lateenref06_put [q_out_1.1.v, q_w.1.v] h_17 fun v_9 h_26 => as1 .sl v_9 fun r_10 =>
        ar .i64 (q_out_1.2 + 1) fun n_1 =>
        next (r_10, n_1) h_26)) (r_5, 0) h_16))
         (loopW (fun _ (q_out_2 : Sl × Int) h_27 next_2 =>
        ld .sl h_27 (p.add 5) fun (x_18 : Sl) =>
        ifB (decide (q_out_2.2 < (x_18.len : Int)))
         (∃ (R_2 : Heap → Prop) (h_28 : Heap) (L_2 : List As) (S_2 : Specs), R_2 h_27 ∧ Fw.Sep h_28 h_27 L_2 ∧ (ldF .sl R_2 (p.add 5) fun (x_19 : Sl) =>
        idx 2 x_19 q_out_2.2 fun p_10 =>
        ldF .str R_2 (p_10.add 0) fun (x_20 : ByteArray) =>
        freeW R_2 h_28 (S_2 7 [.string x_20]) (L_2 ++ []) (fun h_29 Kv_5 =>
            bld si_Lstring 2 [(0, .string ⟨#[111, 98, 106]⟩), (1, .string x_20)] h_29 fun s_5 h_30 =>
            Kv_5 s_5.v h_30) fun v_10 => as1 .sl v_10 fun r_11 =>
        ldF .sl R_2 (p.add 5) fun (x_21 : Sl) =>
        idx 2 x_21 q_out_2.2 fun p_11 =>
        ldF .sl R_2 (p_11.add 1) fun (x_22 : Sl) =>
        freeW R_2 h_28 (S_2 14 [r_11.v, x_22.v]) ((S_2 7 [.string x_20]).A v_10 ++ []) (fun h_31 Kv_6 =>
            ACalls Tryd.prog F_lateenref06_args [r_11.v, x_22.v] h_31 fun v_11 h_32 => as1 .sl v_11 fun r_12 =>
            Kv_6 r_12.v h_32) fun v_12 => as1 .sl v_12 fun r_13 =>
        freeW R_2 h_28 (S_2 15 [q_out_2.1.v, r_13.v]) ((S_2 14 [r_11.v, x_22.v]).A v_12 ++ []) (fun h_33 Kv_7 =>
            ACalls Tryd.prog F_lateenref06_put [q_out_2.1.v, r_13.v] h_33 fun v_13 h_34 => as1 .sl v_13 fun r_14 =>
            Kv_7 r_14.v h_34) fun v_14 => as1 .sl v_14 fun r_15 =>
        endF R_2 h_28 ((S_2 15 [q_out_2.1.v, r_13.v]).A v_14 ++ []) fun h_35 =>
        ar .i64 (q_out_2.2 + 1) fun n_2 =>
        next_2 (r_15, n_2) h_35))
         (Q q_out_2.1.v h_27)) (q_out_1.1, 0) h_10)) (out, 0) h := by
  obtain ⟨_, _, _, _, hbs, hbo, _⟩ := hb
  have htl := ht.lenEq
  have hul := hu.lenEq
  have htb := ht.bound
  have hub := hu.bound
  refine loop_intro (fun m (q : Sl × Int) h' => ∃ i : Nat, q.2 = i ∧ i ≤ x.stands.length ∧ m = x.stands.length - i ∧ Fw.Sep h0 h' (ownSl si_Luint8 eB8 q.1 (bs ++ (x.stands.take i).flatMap (fun s => lineF (standW s))) :: rawB p (instrC x s t u) :: L)) x.stands.length
    ⟨0, rfl, by omega, by omega, by simpa using S⟩ ?_
  clear S
  rintro _ _ ⟨out1, i⟩ h1 ⟨i, hi0, hi, rfl, S⟩
  simp only at hi0 S ⊢
  subst hi0
  have hflen : ∀ j, ((x.stands.take j).flatMap fun s => lineF (standW s)).length ≤ ((x.stands.take j).map lStand).sum := fun j => flatN_len (fun s => lineF_len (standW s)) _
  refine ld_rawB (i := 4) (x := t) S.swap rfl rfl ?_
  refine ifB_intro (fun hc => ?_) (fun hc => ?_)
  · have hil : i < x.stands.length := by rw [htl] at hc; simpa using hc
    have hst := sumTake lStand hil
    have hle := sumTake_le lStand x.stands (i + 1)
    have hfi := hflen i
    obtain ⟨hf1, hf2, hf3, hf4, _⟩ := hbs.2 _ (List.getElem_mem hil)
    have hflat := flat_take (fun s => lineF (standW s)) hil
    have hls : lStand x.stands[i] = wS (standW x.stands[i]) + 1 := rfl
    have hwst : standW x.stands[i] = [atS, x.stands[i].func, x.stands[i].block, putF x.stands[i].at'] ++ x.stands[i].vars.flatMap bindW := rfl
    have h4w : 4 ≤ wS [atS, x.stands[i].func, x.stands[i].block, putF x.stands[i].at'] := len_wS [atS, x.stands[i].func, x.stands[i].block, putF x.stands[i].at']
    rw [hwst, wS_app] at hls
    generalize hS0 : (ownSl si_Luint8 eB8 out1 (bs ++ (x.stands.take i).flatMap (fun s => lineF (standW s))) :: rawB p (instrC x s t u) :: L) = S0 at S
    refine ⟨RX h0 p (instrC x s t u), h0, S0, fun n _ => if n = 18 then spV (.string (putF x.stands[i].at')) S0 else spS si_Lstring eStr [atS, x.stands[i].func, x.stands[i].block, putF x.stands[i].at'] S0, RX.of (by rw [← hS0] at S; exact S.swap), S, ?_⟩
    refine ldF_rx (k := .sl) (x := t) rfl rfl ?_
    refine idx_rdN ht rfl hil fun p2 _ hp2 => ldF_base (ld_str (fld_stFunc.rd hp2) (hExt.refl _) ?_)
    refine ldF_rx (k := .sl) (x := t) rfl rfl ?_
    refine idx_rdN ht rfl hil fun p3 _ hp3 => ldF_base (ld_str (fld_stBlock.rd hp3) (hExt.refl _) ?_)
    refine ldF_rx (k := .sl) (x := t) rfl rfl ?_
    refine idx_rdN ht rfl hil fun p4 _ hp4 => ldF_base (ld_int (fld_stAt.rd hp4) (hExt.refl _) ?_)
    rw [List.append_nil]
    refine fcallV (fun _ _ r o => r.old o) (fun h r => iput_calls hf3.1 hf3.2) ⟨_, rfl, ?_⟩
    rw [List.append_nil]
    refine fbld (fun _ _ r o => r.old o) (by kernel_rfl) rfl (by omega) fun r5 => ⟨r5, rfl, ?_⟩
    intro h16 _ S16
    have S16 : Fw.Sep h0 h16 (ownSl si_Lstring eStr r5 [atS, x.stands[i].func, x.stands[i].block, putF x.stands[i].at'] :: S0) := Sep.ofV (by simpa [spS] using S16)
    rw [← hS0] at S16
    clear hS0 S
    have hfb := hf4.1
    refine loop_intro (fun m (q : Sl × Int) h' => ∃ j : Nat, q.2 = j ∧ j ≤ x.stands[i].vars.length ∧ m = x.stands[i].vars.length - j ∧ Fw.Sep h0 h' (ownSl si_Lstring eStr q.1 ([atS, x.stands[i].func, x.stands[i].block, putF x.stands[i].at'] ++ (x.stands[i].vars.take j).flatMap bindW) :: ownSl si_Luint8 eB8 out1 (bs ++ (x.stands.take i).flatMap (fun s => lineF (standW s))) :: rawB p (instrC x s t u) :: L)) x.stands[i].vars.length
      ⟨0, rfl, by omega, by omega, by simpa using S16⟩ ?_
    clear S16
    rintro _ _ ⟨w1, j⟩ h17 ⟨j, hj0, hj, rfl, S⟩
    simp only at hj0 S ⊢
    subst hj0
    refine ld_rawB (i := 4) (x := t) (Sep.pull [_, _] S) rfl rfl ?_
    refine idx_rdN ht rfl hil fun p5 _ hp5 => ld_lst (fld_stVars.rd hp5) S.old.ext fun y hy => ?_
    have hyl := hy.lenEq
    refine ifB_intro (fun hc2 => ?_) (fun hc2 => ?_)
    · have hjl : j < x.stands[i].vars.length := by rw [hyl] at hc2; simpa using hc2
      have hwj := wS_flat_take bindW x.stands[i].vars (j + 1)
      have hlj := len_wS ((x.stands[i].vars.take (j + 1)).flatMap bindW)
      have htk := flatW_take bindW hjl
      rw [htk] at hwj hlj
      have hb2 : (bindW x.stands[i].vars[j]).length = 2 := rfl
      rw [List.length_append, hb2] at hlj
      obtain ⟨_, hba, _⟩ := hf4.2 _ (List.getElem_mem hjl)
      refine ⟨RX h0 p (instrC x s t u), h0, _, fun n _ => if n = 21 then spV (.string (argW x.stands[i].vars[j].a)) (ownSl si_Lstring eStr w1 ([atS, x.stands[i].func, x.stands[i].block, putF x.stands[i].at'] ++ (x.stands[i].vars.take j).flatMap bindW) :: ownSl si_Luint8 eB8 out1 (bs ++ (x.stands.take i).flatMap (fun s => lineF (standW s))) :: rawB p (instrC x s t u) :: L) else if n = 22 then spS si_Lstring eStr (bindW x.stands[i].vars[j]) (ownSl si_Lstring eStr w1 ([atS, x.stands[i].func, x.stands[i].block, putF x.stands[i].at'] ++ (x.stands[i].vars.take j).flatMap bindW) :: ownSl si_Luint8 eB8 out1 (bs ++ (x.stands.take i).flatMap (fun s => lineF (standW s))) :: rawB p (instrC x s t u) :: L) else
        spS si_Lstring eStr (([atS, x.stands[i].func, x.stands[i].block, putF x.stands[i].at'] ++ (x.stands[i].vars.take j).flatMap bindW) ++ bindW x.stands[i].vars[j]) (ownSl si_Luint8 eB8 out1 (bs ++ (x.stands.take i).flatMap (fun s => lineF (standW s))) :: rawB p (instrC x s t u) :: L), RX.of (Sep.pull [_, _] S), S, ?_⟩
      refine ldF_rx (k := .sl) (x := t) rfl rfl ?_
      refine idx_rdN ht rfl hil fun p6 _ hp6 => ldF_base (ld_lst (fld_stVars.rd hp6) (hExt.refl _) fun y1 hy1 => ?_)
      refine idx_rdN hy1 rfl hjl fun p7 _ hp7 => ldF_base (ld_str (fld_bindName.rd hp7) (hExt.refl _) ?_)
      refine ldF_rx (k := .sl) (x := t) rfl rfl ?_
      refine idx_rdN ht rfl hil fun p8 _ hp8 => ldF_base (ld_lst (fld_stVars.rd hp8) (hExt.refl _) fun y2 hy2 => ?_)
      refine idx_rdN hy2 rfl hjl fun p9 _ hp9 => ldF_base (ld_agg (fld_bindA.rd hp9) (hExt.refl _) rfl fun c hc => ?_)
      rw [List.append_nil]
      refine fcallV (fun _ _ r o => r.old o) (fun h r => aput_calls (rArg.ext hc r.1.ext) hba) ⟨_, rfl, ?_⟩
      rw [List.append_nil]
      refine fbld (ws := bindW x.stands[i].vars[j]) (fun _ _ r o => r.old o) (by kernel_rfl) rfl (by omega) fun r8 => ⟨r8, rfl, ?_⟩
      rw [List.append_nil]
      refine fapp (ws' := bindW x.stands[i].vars[j]) rfl (fun S => RX.of (S.swap)) (by simp only [List.length_append, hb2, List.length_cons, List.length_nil]; omega) fun r9 => ⟨r9, rfl, ?_⟩
      intro h25 _ S25
      have S25 : Fw.Sep h0 h25 (ownSl si_Lstring eStr r9 (([atS, x.stands[i].func, x.stands[i].block, putF x.stands[i].at'] ++ (x.stands[i].vars.take j).flatMap bindW) ++ bindW x.stands[i].vars[j]) :: ownSl si_Luint8 eB8 out1 (bs ++ (x.stands.take i).flatMap (fun s => lineF (standW s))) :: rawB p (instrC x s t u) :: L) := Sep.ofV (by simpa [spS] using S25)
      refine ar_i64 (by omega) (by omega) ⟨x.stands[i].vars.length - (j + 1), by omega, j + 1, rfl, by omega, rfl, ?_⟩
      rw [htk, ← List.append_assoc]
      exact S25
    · have hjl : x.stands[i].vars.length ≤ j := by rw [hyl] at hc2; simpa using hc2
      rw [List.take_of_length_le hjl, ← hwst] at S
      refine (lput_calls S.swap (by rw [hwst, wS_app]; simp only [List.length_append]; omega)).mono ?_
      rintro v h26 ⟨o', rfl, S26⟩
      refine ⟨o', rfl, ?_⟩
      refine ar_i64 (by omega) (by omega) ⟨x.stands.length - (i + 1), by omega, i + 1, rfl, by omega, rfl, ?_⟩
      rw [hflat, ← List.append_assoc]
      exact S26
  · have hil : x.stands.length ≤ i := by rw [htl] at hc; simpa using hc
    rw [List.take_of_length_le hil] at S
    have hfi := hflen x.stands.length
    rw [List.take_length] at hfi
    clear hc hil hi hflen
    generalize hB1 : bs ++ x.stands.flatMap (fun s => lineF (standW s)) = B1 at *
    have hBl : B1.length + (x.objs.map lVirt).sum ≤ 1000000000 := by rw [← hB1, List.length_append]; omega
    refine loop_intro (fun m (q : Sl × Int) h' => ∃ i : Nat, q.2 = i ∧ i ≤ x.objs.length ∧ m = x.objs.length - i ∧ Fw.Sep h0 h' (ownSl si_Luint8 eB8 q.1 (B1 ++ (x.objs.take i).flatMap (fun v => lineF (virtW v))) :: rawB p (instrC x s t u) :: L)) x.objs.length
      ⟨0, rfl, by omega, by omega, by simpa using S⟩ ?_
    clear S
    rintro _ _ ⟨out2, i⟩ h27 ⟨i, hi0, hi, rfl, S⟩
    simp only at hi0 S ⊢
    subst hi0
    refine ld_rawB (i := 5) (x := u) S.swap rfl rfl ?_
    refine ifB_intro (fun hc => ?_) (fun hc => ?_)
    · have hil : i < x.objs.length := by rw [hul] at hc; simpa using hc
      have hst := sumTake lVirt hil
      have hle := sumTake_le lVirt x.objs (i + 1)
      have hfi : ((x.objs.take i).flatMap fun v => lineF (virtW v)).length ≤ ((x.objs.take i).map lVirt).sum := flatN_len (fun v => lineF_len (virtW v)) _
      have hlv : lVirt x.objs[i] = wS (virtW x.objs[i]) + 1 := rfl
      have hvw : virtW x.objs[i] = [objS, x.objs[i].cls] ++ argsW x.objs[i].vals := rfl
      have hvl := len_wS (virtW x.objs[i])
      have hvl2 : (virtW x.objs[i]).length = 2 + x.objs[i].vals.length := by rw [hvw, List.length_append]; simp [argsW]
      obtain ⟨_, hba, _⟩ := hbo.2 _ (List.getElem_mem hil)
      have hflat := flat_take (fun v => lineF (virtW v)) hil
      refine ⟨RX h0 p (instrC x s t u), h0, _, fun n _ => if n = 7 then spS si_Lstring eStr [objS, x.objs[i].cls] (ownSl si_Luint8 eB8 out2 (B1 ++ (x.objs.take i).flatMap (fun v => lineF (virtW v))) :: rawB p (instrC x s t u) :: L) else if n = 14 then spS si_Lstring eStr (virtW x.objs[i]) (ownSl si_Luint8 eB8 out2 (B1 ++ (x.objs.take i).flatMap (fun v => lineF (virtW v))) :: rawB p (instrC x s t u) :: L) else
        spS si_Luint8 eB8 (B1 ++ (x.objs.take i).flatMap (fun v => lineF (virtW v)) ++ lineF (virtW x.objs[i])) (rawB p (instrC x s t u) :: L), RX.of S.swap, S, ?_⟩
      refine ldF_rx (k := .sl) (x := u) rfl rfl ?_
      refine idx_rdN hu rfl hil fun p2 _ hp2 => ldF_base (ld_str (fld_virtCls.rd hp2) (hExt.refl _) ?_)
      rw [List.append_nil]
      refine fbld (ws := [objS, x.objs[i].cls]) (fun _ _ r o => r.old o) (by kernel_rfl) rfl (by omega) fun r11 => ⟨r11, rfl, ?_⟩
      refine ldF_rx (k := .sl) (x := u) rfl rfl ?_
      refine idx_rdN hu rfl hil fun p3 _ hp3 => ldF_base (ld_lst (fld_virtVals.rd hp3) (hExt.refl _) fun y hy => ?_)
      refine fcall (fun h2 X o S2 => ?_) fun r13 => ⟨r13, rfl, ?_⟩
      · have S2 : Fw.Sep h0 h2 (ownSl si_Lstring eStr r11 [objS, x.objs[i].cls] :: ownSl si_Luint8 eB8 out2 (B1 ++ (x.objs.take i).flatMap (fun v => lineF (virtW v))) :: rawB p (instrC x s t u) :: (L ++ X)) := Sep.ofV (by simpa [spS] using S2)
        refine (largs_calls S2 hy hba (by simp only [List.length_cons, List.length_nil]; omega)).mono ?_
        rintro v h3 ⟨o', rfl, S3⟩
        exact ⟨o', rfl, RX.of (Sep.pull [_, _] S3), S3⟩
      refine fcall (fun h2 X o S2 => ?_) fun r15 => ⟨r15, rfl, ?_⟩
      · have S2 : Fw.Sep h0 h2 (ownSl si_Lstring eStr r13 (virtW x.objs[i]) :: ownSl si_Luint8 eB8 out2 (B1 ++ (x.objs.take i).flatMap (fun v => lineF (virtW v))) :: rawB p (instrC x s t u) :: (L ++ X)) := Sep.ofV (by simpa [spS] using S2)
        refine (lput_calls S2.swap (by simp only [List.length_append]; omega)).mono ?_
        rintro v h3 ⟨o', rfl, S3⟩
        exact ⟨o', rfl, RX.of S3.swap, S3⟩
      intro h35 _ S35
      have S35 : Fw.Sep h0 h35 (ownSl si_Luint8 eB8 r15 (B1 ++ (x.objs.take i).flatMap (fun v => lineF (virtW v)) ++ lineF (virtW x.objs[i])) :: rawB p (instrC x s t u) :: L) := Sep.ofV (by simpa [spS] using S35)
      refine ar_i64 (by omega) (by omega) ⟨x.objs.length - (i + 1), by omega, i + 1, rfl, by omega, rfl, ?_⟩
      rw [hflat, ← List.append_assoc]
      exact S35
    · have hil : x.objs.length ≤ i := by rw [hul] at hc; simpa using hc
      rw [List.take_of_length_le hil] at S
      exact hQ _ _ S.swap.drop
end
end Go.Proofs.YtojdbliehgejbaaDoor

/-
  lateenref06.code, ends.
-/
namespace Go.Proofs.YtojdbliehgejbaaDoor
open Go.Fw Go.Pl.Api Go.Pl.Put Go.Pl.Lines

theorem ld_rawSub {h0 h : Heap} {p : Addr} {cs ds : Array Value} {L : List As} {i n : Nat} {K : Array Value → Prop} (S : Fw.Sep h0 h (rawB p cs :: L)) (hd : ds.toList = (cs.toList.drop i).take n) (hn : ds.size = n) (hK : K ds) : ld (.agg n) h (p.add i) K := by
  refine ⟨ds, ⟨hn, fun j v hj => ?_⟩, hK⟩
  have hc := rawB_cell S
  rw [Go.Fw.Addr.add_add _ _ _ hc.1, hc.2, ← Array.getElem?_toList]
  rw [← Array.getElem?_toList, hd, List.getElem?_take] at hj
  split at hj
  · rw [List.getElem?_drop] at hj; exact hj
  · cases hj
theorem app_nil {h0 h : Heap} {L : List As} {s : Sl} {ws : List ByteArray} {K : Sl → Heap → Prop} (S : Fw.Sep h0 h (ownSl si_Lstring eStr s ws :: L)) (hl : ws.length ≤ 1000000000)
    (hK : ∀ s' h', Fw.Sep h0 h' (ownSl si_Lstring eStr s' ws :: L) → K s' h') : app si_Lstring (⟨none, 0, 0⟩ : Sl) s h K := by
  refine app_copy (E := eStr) (l := []) (S.nil rfl) (Elem.cell_flat _ _) S.rd (by simp only [si_Lstring, List.length_nil]; omega) (by simp only [List.length_nil]; omega) fun s' h' S' => hK s' h' ?_
  have := S'.swap.drop
  simpa using this
theorem argsN_len (x : MInstr) : x.args.length ≤ (instrW x).length := by
  unfold instrW
  split
  · rename_i h
    simp only [List.length_append, argsW, List.length_map, List.length_take, List.length_drop]
    omega
  · simp only [List.length_append, argsW, List.length_map]
    omega
theorem headN_len (x : MInstr) : (headW x).length ≤ 3 := by
  unfold headW
  split <;> simp
theorem lcode_calls {h0 h : Heap} {L : List As} {out : Sl} {cs : Array Value} {x : MInstr} {bs : List UInt8} (S : Fw.Sep h0 h (ownSl si_Luint8 eB8 out bs :: L)) (hx : rInstr.rv h0 cs.toList x) (hb : bInstr x) (hW : WordsIn h0)
    (hl : bs.length + lCode x ≤ 999000000) : ACalls Tryd.prog F_lateenref06_code [out.v, .agg cs] h (fun v h' => ∃ o' : Sl, v = o'.v ∧ Fw.Sep h0 h' (ownSl si_Luint8 eB8 o' (bs ++ codeL x) :: L)) := by
  refine lateenref06_code_of ?_
  unfold lateenref06_code
  obtain ⟨s, t, u, rfl, hs, ht, hu⟩ := arr_instr hx
  have hsl := hs.lenEq
  have hal := argsN_len x
  have hhl := headN_len x
  have hwl := len_wS (instrW x)
  unfold lCode at hl
  have hba := hb.2.2.2.1
  refine new_rawB S fun p h1 o1 S1 => ?_
  refine ld_rawB (i := 0) (k := .int .i64) (x := x.op) S1 rfl rfl ?_
  refine (of_calls (hW.old S1.old)).mono ?_
  rintro v h2 ⟨a, b, ok, rfl, o2⟩
  refine ⟨_, _, rfl, ?_⟩
  refine new_stR (S1.grow o2) rfl rfl one_form fun p1 h4 S4 => ?_
  generalize hform : formC (opWord x.op) (opDst x.op) (opNamed x.op) a b = form at S4
  have hf0 : form[0]? = some (.string (opWord x.op)) := by rw [← hform]; rfl
  have hf1 : form[1]? = some (.bool (opDst x.op)) := by rw [← hform]; rfl
  have hf2 : form[2]? = some (.bool (opNamed x.op)) := by rw [← hform]; rfl
  clear S S1 hform
  intro k hk
  have K0 : ∀ (l : Sl) h5, Fw.Sep h0 h5 (ownSl si_Lstring eStr l (if opDst x.op then [x.dst, eqS] else []) :: rawB p1 form :: rawB p (instrC x s t u) :: ownSl si_Luint8 eB8 out bs :: L) → k l h5 := fun l h5 S5 => hk _ _ fun _ => by
    have hl2 : (if opDst x.op then [x.dst, eqS] else []).length ≤ 2 := by split <;> simp
    refine ld_rawB (i := 0) (k := .str) (x := opWord x.op) S5.swap rfl hf0 ?_
    refine app1_flat (E := eStr) (v := .string (opWord x.op)) (x := opWord x.op) S5 (fun _ => ⟨rfl, rfl⟩) rfl (by decide) (by simp only [si_Lstring]; omega) (by omega) fun s1 h7 S7 => ?_
    have S7 : Fw.Sep h0 h7 (ownSl si_Lstring eStr s1 (headW x) :: rawB p1 form :: rawB p (instrC x s t u) :: ownSl si_Luint8 eB8 out bs :: L) := S7
    clear S5 hk
    intro k1 hk1
    have K1 : ∀ (l1 : Sl) h8, Fw.Sep h0 h8 (ownSl si_Lstring eStr l1 (instrW x) :: rawB p1 form :: rawB p (instrC x s t u) :: ownSl si_Luint8 eB8 out bs :: L) → k1 l1 h8 := fun l1 h8 S8 => hk1 _ _ fun _ => by
      have S8 : Fw.Sep h0 h8 (ownSl si_Luint8 eB8 out bs :: ownSl si_Lstring eStr l1 (instrW x) :: rawB p1 form :: rawB p (instrC x s t u) :: L) := Sep.pull [_, _, _] S8
      refine (lput_calls S8 (by omega)).mono ?_
      rintro v h9 ⟨o', rfl, S9⟩
      refine ⟨o', rfl, ?_⟩
      have hll := lineF_len (instrW x)
      refine code_rest (bs := bs ++ lineF (instrW x)) (Q := fun v h' => ∃ o' : Sl, v = o'.v ∧ Fw.Sep h0 h' (ownSl si_Luint8 eB8 o' (bs ++ codeL x) :: L)) S9.swap.drop ht hu hb (by rw [List.length_append]; omega) fun o2 h3 S3 => ⟨o2, rfl, ?_⟩
      unfold codeL
      simpa [List.append_assoc] using S3
    intro k3 hk3
    have K3 : ∀ tt : Bool, (tt = true ↔ ((x.op = 26 ∨ x.op = 27) ∧ 0 < x.args.length)) → k3 tt h7 := fun tt htt => hk3 _ _ fun _ => by
      refine ifB_intro (fun e => ?_) (fun e => ?_)
      · obtain ⟨hop, hpos⟩ := htt.1 e
        have hW' : instrW x = headW x ++ argsW (x.args.take 1) ++ [x.name] ++ argsW (x.args.drop 1) := by unfold instrW; rw [if_pos ⟨hop, hpos⟩]
        have hb1 : Go.Fw.bL bArg (x.args.take 1) := ⟨by rw [List.length_take]; have := hba.1; omega, fun a ha => hba.2 a (List.mem_of_mem_take ha)⟩
        have hb2 : Go.Fw.bL bArg (x.args.drop 1) := ⟨by rw [List.length_drop]; have := hba.1; omega, fun a ha => hba.2 a (List.mem_of_mem_drop ha)⟩
        refine ld_rawB (i := 3) (k := .sl) (x := s) (Sep.pull [_, _] S7) rfl rfl ?_
        refine slc_upto (k := 1) hs (by omega) fun s6 hs6 => ?_
        refine (largs_calls S7 hs6 hb1 (by rw [List.length_take]; omega)).mono ?_
        rintro v h28 ⟨r11, rfl, S28⟩
        refine ⟨r11, rfl, ?_⟩
        refine ld_rawB (i := 2) (k := .str) (x := x.name) (Sep.pull [_, _] S28) rfl rfl ?_
        have hl1 : (argsW (x.args.take 1)).length ≤ 1 := by simp only [argsW, List.length_map, List.length_take]; omega
        refine app1_flat (E := eStr) (v := .string x.name) (x := x.name) S28 (fun _ => ⟨rfl, rfl⟩) rfl (by decide) (by simp only [si_Lstring, List.length_append]; omega) (by simp only [List.length_append]; omega) fun s8 h30 S30 => ?_
        refine ld_rawB (i := 3) (k := .sl) (x := s) (Sep.pull [_, _] S30) rfl rfl ?_
        refine slc_from (k := 1) hs rfl (by omega) fun s9 hs9 => ?_
        refine (largs_calls S30 hs9 hb2 (by simp only [List.length_append, List.length_drop, List.length_singleton]; omega)).mono ?_
        rintro v h31 ⟨r12, rfl, S31⟩
        refine ⟨r12, rfl, K1 _ _ ?_⟩
        rw [hW']
        exact S31
      · have hW' : instrW x = headW x ++ (if opNamed x.op then [x.name] else []) ++ argsW x.args := by
          unfold instrW
          rw [if_neg fun h => by rw [htt.2 h] at e; cases e]
        intro k4 hk4
        have K4 : ∀ (l2 : Sl) h', Fw.Sep h0 h' (ownSl si_Lstring eStr l2 (headW x ++ (if opNamed x.op then [x.name] else [])) :: rawB p1 form :: rawB p (instrC x s t u) :: ownSl si_Luint8 eB8 out bs :: L) → k4 l2 h' := fun l2 h' S' => hk4 _ _ fun _ => by
          have hn2 : (if opNamed x.op then [x.name] else []).length ≤ 1 := by split <;> simp
          refine ld_rawB (i := 3) (k := .sl) (x := s) (Sep.pull [_, _] S') rfl rfl ?_
          refine (largs_calls S' hs hba (by simp only [List.length_append]; omega)).mono ?_
          rintro v h33 ⟨r13, rfl, S33⟩
          refine ⟨r13, rfl, K1 _ _ ?_⟩
          rw [hW']
          exact S33
        refine ld_rawB (i := 2) (k := .bool) (x := opNamed x.op) S7.swap rfl hf2 ?_
        refine ifB_intro (fun hn => ?_) (fun hn => K4 _ _ (by rw [hn]; simpa using S7))
        refine ld_rawB (i := 2) (k := .str) (x := x.name) (Sep.pull [_, _] S7) rfl rfl ?_
        refine app1_flat (E := eStr) (v := .string x.name) (x := x.name) S7 (fun _ => ⟨rfl, rfl⟩) rfl (by decide) (by simp only [si_Lstring]; omega) (by omega) fun s8 h30 S30 => ?_
        exact K4 _ _ (by rw [hn]; exact S30)
    have hpos : decide ((s.len : Int) > 0) = true ↔ 0 < x.args.length := by rw [decide_eq_true_eq]; omega
    refine ld_rawB (i := 0) (k := .int .i64) (x := x.op) (Sep.pull [_, _] S7) rfl rfl ?_
    refine ifB_intro (fun h26 => ?_) (fun h26 => ?_)
    · have h26 : x.op = 26 := by simpa using h26
      refine ld_rawB (i := 3) (k := .sl) (x := s) (Sep.pull [_, _] S7) rfl rfl (K3 _ ?_)
      rw [hpos]
      exact ⟨fun h => ⟨.inl h26, h⟩, fun h => h.2⟩
    · have h26 : x.op ≠ 26 := by simpa using h26
      refine ld_rawB (i := 0) (k := .int .i64) (x := x.op) (Sep.pull [_, _] S7) rfl rfl ?_
      refine ifB_intro (fun h27 => ?_) (fun h27 => K3 _ ?_)
      · have h27 : x.op = 27 := by simpa using h27
        refine ld_rawB (i := 3) (k := .sl) (x := s) (Sep.pull [_, _] S7) rfl rfl (K3 _ ?_)
        rw [hpos]
        exact ⟨fun h => ⟨.inr h27, h⟩, fun h => h.2⟩
      · have h27 : x.op ≠ 27 := by simpa using h27
        simp [h26, h27]
  refine ld_rawB (i := 1) (k := .bool) (x := opDst x.op) S4 rfl hf1 ?_
  refine ifB_intro (fun hd => ?_) (fun hd => ?_)
  · refine ld_rawB (i := 1) (k := .str) (x := x.dst) S4.swap rfl rfl ?_
    refine bld_strs (ws := [x.dst, eqS]) S4 (by kernel_rfl) rfl (by omega) fun s12 h36 S36 => ?_
    refine app_nil S36 (by simp) fun s13 h37 S37 => K0 _ _ ?_
    rw [hd]
    exact S37
  · refine K0 _ _ ?_
    rw [hd]
    exact S4.nil rfl

/-! Ends -/
theorem arr_term {h : Heap} {cs : Array Value} {t : MTerm} (r : rTerm.rv h cs.toList t) : ∃ s : Sl, cs = #[.int .i64 t.kind, .int .i64 t.a.kind, .string t.a.s, .int .i64 t.a.n, s.v, .int .i64 t.n] ∧ rdSl rStr.el h s t.to := by
  obtain ⟨c1, c2, e, h1, c3, c4, rfl, h2, c5, c6, rfl, ⟨s, h3, h3'⟩, c7, c8, rfl, h4, h5⟩ := r
  have h1 : c1 = [.int .i64 t.kind] := h1
  have h2 := rv_arg.1 h2
  have h4 : c7 = [.int .i64 t.n] := h4
  have h5 : c8 = [] := h5
  subst h1 h2 h3 h4 h5
  exact ⟨s, Array.toList_inj.1 e, h3'⟩
def termC (t : MTerm) (s : Sl) : Array Value := #[.int .i64 t.kind, .int .i64 t.a.kind, .string t.a.s, .int .i64 t.a.n, s.v, .int .i64 t.n]
theorem rdStr {h : Heap} {s : Sl} {l : List ByteArray} (r : rdSl rStr.el h s l) : rdSl eStr h s l := by
  obtain ⟨r1, r2, r3, r4, r5⟩ := r
  refine ⟨r1, r2, r3, r4, r5.imp id fun ⟨a, ha, hs, hr⟩ => ⟨a, ha, hs, fun i hi => ?_⟩⟩
  obtain ⟨_, cs, q2, q3⟩ := hr i hi
  have q3 : cs = [.string l[i]] := q3
  subst q3
  have := q2 0 _ rfl
  rw [Addr.add_zero'] at this
  exact this
theorem lends_calls {h0 h : Heap} {L : List As} {out : Sl} {cs : Array Value} {t : MTerm} {bs : List UInt8} (S : Fw.Sep h0 h (ownSl si_Luint8 eB8 out bs :: L)) (hx : rTerm.rv h0 cs.toList t) (hb : bTerm t)
    (hl : bs.length + (wS (endW t) + 1) ≤ 999000000) : ACalls Tryd.prog F_lateenref06_ends [out.v, .agg cs] h (fun v h' => ∃ o' : Sl, v = o'.v ∧ Fw.Sep h0 h' (ownSl si_Luint8 eB8 o' (bs ++ endL t) :: L)) := by
  refine lateenref06_ends_of ?_
  unfold lateenref06_ends
  obtain ⟨s, rfl, hs⟩ := arr_term hx
  have hs := rdStr hs
  obtain ⟨_, hba, _, ⟨hn0, hn1⟩, _⟩ := hb
  have hwl := len_wS (endW t)
  have hel : t.to.length ≤ (endW t).length := by unfold endW; simp only [List.length_append]; omega
  refine new_rawB S fun p h1 o1 S1 => ?_
  have S1 : Fw.Sep h0 h1 (rawB p (termC t s) :: ownSl si_Luint8 eB8 out bs :: L) := S1
  refine bld_strs (ws := endWords) S1 (by kernel_rfl) rfl (by omega) fun s0 h2 S2 => ?_
  clear S S1
  intro k hk
  have K0 : ∀ tt : Bool, (tt = true ↔ ¬ (1 ≤ t.kind ∧ t.kind ≤ 4)) → k tt h2 := fun tt htt => hk _ _ fun _ => by
    refine ifB_intro (fun e => ?_) (fun e => ?_)
    · have hr := htt.1 e
      refine ⟨out, rfl, ?_⟩
      unfold endL
      rw [if_neg hr, List.append_nil]
      exact S2.drop.drop
    have hr : 1 ≤ t.kind ∧ t.kind ≤ 4 := Classical.byContradiction fun h => by rw [htt.2 h] at e; cases e
    have heL : endL t = lineF (endW t) := by unfold endL; rw [if_pos hr]
    refine ld_rawB (i := 0) (k := .int .i64) (x := t.kind) S2.swap rfl rfl ?_
    refine idx_rd S2.rd rfl (by omega) (show t.kind < (endWords.length : Int) by simp only [endWords, List.length_cons, List.length_nil]; omega) fun p1 _ hp1 => ld_one (k := .str) hp1 ?_
    have hgd : endWords.getD t.kind.toNat eB = endWords[t.kind.toNat]'(by simp only [endWords, List.length_cons, List.length_nil]; omega) := by
      rw [List.getD_eq_getElem?_getD, List.getElem?_eq_getElem (by simp only [endWords, List.length_cons, List.length_nil]; omega)]; rfl
    rw [← hgd]
    have S2' := S2.drop
    refine bld_strs (ws := [endWords.getD t.kind.toNat eB]) S2' (by kernel_rfl) rfl (by omega) fun s1 h4 S4 => ?_
    clear S2 S2' hk
    intro k1 hk1
    have K1 : ∀ (w : Sl) h5, Fw.Sep h0 h5 (ownSl si_Lstring eStr w ([endWords.getD t.kind.toNat eB] ++ (if t.kind = 2 ∨ t.kind = 3 then [argW t.a] else [])) :: rawB p (termC t s) :: ownSl si_Luint8 eB8 out bs :: L) → k1 w h5 := fun w h5 S5 => hk1 _ _ fun _ => by
      have hl2 : (if t.kind = 2 ∨ t.kind = 3 then [argW t.a] else []).length ≤ 1 := by split <;> simp
      refine ld_rawB (i := 4) (k := .sl) (x := s) S5.swap rfl rfl ?_
      refine app_copy S5 (Elem.cell_flat _ _) (hs.old S5.old) (by simp only [si_Lstring, List.length_append, List.length_singleton]; omega) (by simp only [List.length_append, List.length_singleton]; omega) fun s2 h6 S6 => ?_
      intro k2 hk2
      have K2 : ∀ (w1 : Sl) h7, Fw.Sep h0 h7 (ownSl si_Lstring eStr w1 (endW t) :: rawB p (termC t s) :: ownSl si_Luint8 eB8 out bs :: L) → k2 w1 h7 := fun w1 h7 S7 => hk2 _ _ fun _ => by
        have S7 : Fw.Sep h0 h7 (ownSl si_Luint8 eB8 out bs :: ownSl si_Lstring eStr w1 (endW t) :: rawB p (termC t s) :: L) := Sep.pull [_, _] S7
        refine (lput_calls S7 (by omega)).mono ?_
        rintro v h8 ⟨o', rfl, S8⟩
        refine ⟨o', rfl, o', rfl, ?_⟩
        rw [heL]
        exact S8.swap.drop
      refine ld_rawB (i := 0) (k := .int .i64) (x := t.kind) S6.swap rfl rfl ?_
      refine ifB_intro (fun h4 => ?_) (fun h4 => K2 _ _ ?_)
      · have h4 : t.kind = 4 := by simpa using h4
        refine ld_rawB (i := 5) (k := .int .i64) (x := t.n) S6.swap rfl rfl ?_
        refine (iput_calls hn0 hn1).mono ?_
        rintro v h9 ⟨rfl, o9⟩
        refine ⟨_, rfl, ?_⟩
        refine app1_flat (E := eStr) (v := .string (putF t.n)) (x := putF t.n) (S6.grow o9) (fun _ => ⟨rfl, rfl⟩) rfl (by decide) (by simp only [si_Lstring, List.length_append, List.length_singleton]; omega) (by simp only [List.length_append, List.length_singleton]; omega) fun s4 h11 S11 => K2 _ _ ?_
        unfold endW
        rw [if_pos h4]
        exact S11
      · have h4 : t.kind ≠ 4 := by simpa using h4
        unfold endW
        rw [if_neg h4, List.append_nil]
        exact S6
    intro k3 hk3
    have K3 : ∀ tt : Bool, (tt = true ↔ (t.kind = 2 ∨ t.kind = 3)) → k3 tt h4 := fun tt htt => hk3 _ _ fun _ => by
      refine ifB_intro (fun e => ?_) (fun e => ?_)
      · have h23 := htt.1 e
        refine ld_rawSub (i := 1) (ds := #[.int .i64 t.a.kind, .string t.a.s, .int .i64 t.a.n]) S4.swap rfl rfl ?_
        refine (aput_calls (a := t.a) (rv_arg.2 rfl) hba).mono ?_
        rintro v h13 ⟨rfl, o13⟩
        refine ⟨_, rfl, ?_⟩
        refine app1_flat (E := eStr) (v := .string (argW t.a)) (x := argW t.a) (S4.grow o13) (fun _ => ⟨rfl, rfl⟩) rfl (by decide) (by simp only [si_Lstring, List.length_singleton]; omega) (by simp only [List.length_singleton]; omega) fun s6 h15 S15 => K1 _ _ ?_
        rw [if_pos h23]
        exact S15
      · refine K1 _ _ ?_
        rw [if_neg (fun h => by rw [htt.2 h] at e; cases e), List.append_nil]
        exact S4
    refine ld_rawB (i := 0) (k := .int .i64) (x := t.kind) S4.swap rfl rfl ?_
    refine ifB_intro (fun h2' => K3 _ ?_) (fun h2' => ?_)
    · have h2' : t.kind = 2 := by simpa using h2'
      simp [h2']
    · have h2' : t.kind ≠ 2 := by simpa using h2'
      refine ld_rawB (i := 0) (k := .int .i64) (x := t.kind) S4.swap rfl rfl (K3 _ ?_)
      simp [h2']
  refine ld_rawB (i := 0) (k := .int .i64) (x := t.kind) S2.swap rfl rfl ?_
  refine ifB_intro (fun h1' => K0 _ ?_) (fun h1' => ?_)
  · have h1' := of_decide_eq_true h1'
    simp
    omega
  · have h1' := of_decide_eq_false h1'
    refine ld_rawB (i := 0) (k := .int .i64) (x := t.kind) S2.swap rfl rfl (K0 _ ?_)
    rw [decide_eq_true_eq]
    omega
end Go.Proofs.YtojdbliehgejbaaDoor

/-
  lateenref06.Lines.
-/
namespace Go.Proofs.YtojdbliehgejbaaDoor
open Go.Fw Go.Pl.Api Go.Pl.Put Go.Pl.Lines

def funcC (f : MFunc) (a b c : Sl) : Array Value := #[.string f.name, .string f.result, a.v, b.v, c.v]
theorem arr_func {h : Heap} {cs : Array Value} {f : MFunc} (r : rFunc.rv h cs.toList f) : ∃ a b c : Sl, cs = funcC f a b c ∧ rdSl rVar.el h a f.params ∧ rdSl rVar.el h b f.vars ∧ rdSl rBlock.el h c f.blocks := by
  obtain ⟨c1, c2, e, h1, c3, c4, rfl, h2, c5, c6, rfl, ⟨s, h3, h3'⟩, c7, c8, rfl, ⟨t, h4, h4'⟩, c9, c10, rfl, ⟨u, h5, h5'⟩, h6⟩ := r
  have h1 : c1 = [.string f.name] := h1
  have h2 : c3 = [.string f.result] := h2
  have h6 : c10 = [] := h6
  subst h1 h2 h3 h4 h5 h6
  exact ⟨s, t, u, Array.toList_inj.1 e, h3', h4', h5'⟩
def blockC (b : MBlock) (s t u : Sl) : Array Value := #[.string b.name, s.v, t.v, .int .i64 b.term.kind, .int .i64 b.term.a.kind, .string b.term.a.s, .int .i64 b.term.a.n, u.v, .int .i64 b.term.n]
theorem arr_block {h : Heap} {cs : Array Value} {b : MBlock} (r : rBlock.rv h cs.toList b) : ∃ s t u : Sl, cs = blockC b s t u ∧ rdSl rPhi.el h s b.phis ∧ rdSl rInstr.el h t b.code ∧ rdSl rStr.el h u b.term.to := by
  obtain ⟨c1, c2, e, h1, c3, c4, rfl, ⟨s, h2, h2'⟩, c5, c6, rfl, ⟨t, h3, h3'⟩, c7, c8, rfl, h4, h5⟩ := r
  have h1 : c1 = [.string b.name] := h1
  have h5 : c8 = [] := h5
  obtain ⟨u, h4, h4'⟩ := arr_term (cs := c7.toArray) (by simpa using h4)
  have h4 : c7 = [.int .i64 b.term.kind, .int .i64 b.term.a.kind, .string b.term.a.s, .int .i64 b.term.a.n, u.v, .int .i64 b.term.n] := by simpa using congrArg Array.toList h4
  subst h1 h2 h3 h4 h5
  exact ⟨s, t, u, Array.toList_inj.1 e, h2', h3', h4'⟩
def lPhi (p : MPhi) : Nat := wS (phiW p) + 1
def lEnd (t : MTerm) : Nat := wS (endW t) + 1
def lBlock (b : MBlock) : Nat := wS [blockS, b.name] + 1 + (b.phis.map lPhi).sum + (b.code.map lCode).sum + lEnd b.term
def lHead (f : MFunc) : Nat := wS [funcS, f.name, f.result] + 1 + (f.params.map (lVar paramS)).sum + (f.vars.map (lVar varS)).sum
def lFunc (f : MFunc) : Nat := lHead f + (f.blocks.map lBlock).sum
theorem codeL_len (x : MInstr) : (codeL x).length ≤ lCode x := by
  unfold codeL lCode
  have h1 := lineF_len (instrW x)
  have h2 : (x.stands.flatMap fun s => lineF (standW s)).length ≤ (x.stands.map lStand).sum := flatN_len (fun s => lineF_len (standW s)) _
  have h3 : (x.objs.flatMap fun v => lineF (virtW v)).length ≤ (x.objs.map lVirt).sum := flatN_len (fun v => lineF_len (virtW v)) _
  simp only [List.length_append]
  omega
theorem endL_len (t : MTerm) : (endL t).length ≤ lEnd t := by
  unfold endL lEnd
  have := lineF_len (endW t)
  split
  · exact this
  · simp
theorem blockL_len (b : MBlock) : (blockL b).length ≤ lBlock b := by
  unfold blockL lBlock
  have h1 := lineF_len [blockS, b.name]
  have h2 : (b.phis.flatMap fun p => lineF (phiW p)).length ≤ (b.phis.map lPhi).sum := flatN_len (fun p => lineF_len (phiW p)) _
  have h3 := flatN_len codeL_len b.code
  have h4 := endL_len b.term
  simp only [List.length_append]
  omega
theorem headL_len (f : MFunc) : (headL f).length ≤ lHead f := by
  unfold headL lHead
  have h1 := lineF_len [funcS, f.name, f.result]
  have h2 : (varsL paramS f.params).length ≤ _ := flatN_len (varL_len paramS) f.params
  have h3 : (varsL varS f.vars).length ≤ _ := flatN_len (varL_len varS) f.vars
  simp only [List.length_append]
  omega
theorem funcL_len (f : MFunc) : (funcL f).length ≤ lFunc f := by
  unfold funcL lFunc
  have h1 := headL_len f
  have h2 := flatN_len blockL_len f.blocks
  simp only [List.length_append]
  omega

section
variable {h0 : Heap} {L : List As} {p : Addr}
/-- A block's phis. -/
theorem phis_rest {h : Heap} {out : Sl} {bs : List UInt8} {b : MBlock} {s t u : Sl} {Q : Sl × Int → Heap → Prop} (S : Fw.Sep h0 h (ownSl si_Luint8 eB8 out bs :: rawB p (blockC b s t u) :: L)) (hs : rdSl rPhi.el h0 s b.phis) (hb : Go.Fw.bL bPhi b.phis)
    (hl : bs.length + (b.phis.map lPhi).sum ≤ 999000000)
    (hQ : ∀ (o' : Sl) (n : Int) h', Fw.Sep h0 h' (ownSl si_Luint8 eB8 o' (bs ++ b.phis.flatMap (fun p => lineF (phiW p))) :: rawB p (blockC b s t u) :: L) → Q (o', n) h') :
    loopW (fun _ (q_out_5 : Sl × Int) h_40 next_4 =>
          ld .sl h_40 (p.add 1) fun (x_22 : Sl) =>
          ifB (decide (q_out_5.2 < (x_22.len : Int)))
           (ld .sl h_40 (p.add 1) fun (x_23 : Sl) =>
          idx 2 x_23 q_out_5.2 fun p_10 =>
          ld .str h_40 (p_10.add 0) fun (x_24 : ByteArray) =>
          bld si_Lstring 2 [(0, .string ⟨#[112, 104, 105]⟩), (1, .string x_24)] h_40 fun s_4 h_41 =>
          loopW (fun _ (q_w : Sl × Int) h_42 next_5 =>
            ld .sl h_42 (p.add 1) fun (x_25 : Sl) =>
            idx 2 x_25 q_out_5.2 fun p_11 =>
            ld .sl h_42 (p_11.add 1) fun (x_26 : Sl) =>
            ifB (decide (q_w.2 < (x_26.len : Int)))
             (∃ (R_3 : Heap → Prop) (h_43 : Heap) (L_3 : List As) (S_3 : Specs), R_3 h_42 ∧ Fw.Sep h_43 h_42 L_3 ∧ (ldF .sl R_3 (p.add 1) fun (x_27 : Sl) =>
            idx 2 x_27 q_out_5.2 fun p_12 =>
            ldF .sl R_3 (p_12.add 1) fun (x_28 : Sl) =>
            idx 4 x_28 q_w.2 fun p_13 =>
            ldF .str R_3 (p_13.add 0) fun (x_29 : ByteArray) =>
            ldF .sl R_3 (p.add 1) fun (x_30 : Sl) =>
            idx 2 x_30 q_out_5.2 fun p_14 =>
            ldF .sl R_3 (p_14.add 1) fun (x_31 : Sl) =>
            idx 4 x_31 q_w.2 fun p_15 =>
            ldF (.agg 3) R_3 (p_15.add 1) fun (x_32 : Array Value) =>
            freeW R_3 h_43 (S_3 21 [.agg x_32]) (L_3 ++ []) (fun h_44 Kv_10 =>
                ACalls Tryd.prog F_lateenref03_Put [.agg x_32] h_44 fun v_19 h_45 => as1 .str v_19 fun r_19 =>
                Kv_10 (.string r_19) h_45) fun v_20 => as1 .str v_20 fun r_20 =>
            freeW R_3 h_43 (S_3 22 [.string x_29, .string r_20]) ((S_3 21 [.agg x_32]).A v_20 ++ []) (fun h_46 Kv_11 =>
                bld si_Lstring 2 [(0, .string x_29), (1, .string r_20)] h_46 fun s_5 h_47 =>
                Kv_11 s_5.v h_47) fun v_21 => as1 .sl v_21 fun r_21 =>
            freeW R_3 h_43 (S_3 23 [q_w.1.v, r_21.v]) ((S_3 22 [.string x_29, .string r_20]).A v_21 ++ []) (fun h_48 Kv_12 =>
                app si_Lstring q_w.1 r_21 h_48 fun s_6 h_49 =>
                Kv_12 s_6.v h_49) fun v_22 => as1 .sl v_22 fun r_22 =>
            endF R_3 h_43 ((S_3 23 [q_w.1.v, r_21.v]).A v_22 ++ []) fun h_50 =>
            ar .i64 (q_w.2 + 1) fun n_3 =>
            next_5 (r_22, n_3) h_50))
             (ACalls Tryd.prog F_lateenref06_put [q_out_5.1.v, q_w.1.v] h_42 fun v_23 h_51 => as1 .sl v_23 fun r_23 =>
          ar .i64 (q_out_5.2 + 1) fun n_4 =>
          next_4 (r_23, n_4) h_51)) (s_4, 0) h_41)
           (Q q_out_5 h_40)) (out, 0) h := by
  have hsl := hs.lenEq
  have hsb := hs.bound
  refine loop_intro (fun m (q : Sl × Int) h' => ∃ i : Nat, q.2 = i ∧ i ≤ b.phis.length ∧ m = b.phis.length - i ∧ Fw.Sep h0 h' (ownSl si_Luint8 eB8 q.1 (bs ++ (b.phis.take i).flatMap (fun p => lineF (phiW p))) :: rawB p (blockC b s t u) :: L)) b.phis.length
    ⟨0, rfl, by omega, by omega, by simpa using S⟩ ?_
  clear S
  rintro _ _ ⟨out1, i⟩ h1 ⟨i, hi0, hi, rfl, S⟩
  simp only at hi0 S ⊢
  subst hi0
  have hfi : ((b.phis.take i).flatMap fun p => lineF (phiW p)).length ≤ ((b.phis.take i).map lPhi).sum := flatN_len (fun p => lineF_len (phiW p)) _
  refine ld_rawB (i := 1) (k := .sl) (x := s) S.swap rfl rfl ?_
  refine ifB_intro (fun hc => ?_) (fun hc => ?_)
  · have hil : i < b.phis.length := by rw [hsl] at hc; simpa using hc
    have hst := sumTake lPhi hil
    have hle := sumTake_le lPhi b.phis (i + 1)
    obtain ⟨_, hf4, _⟩ := hb.2 _ (List.getElem_mem hil)
    have hflat := flat_take (fun p => lineF (phiW p)) hil
    have hls : lPhi b.phis[i] = wS (phiW b.phis[i]) + 1 := rfl
    have hwst : phiW b.phis[i] = [phiS, b.phis[i].dst] ++ b.phis[i].ins.flatMap inW := rfl
    have h2w : 2 ≤ wS [phiS, b.phis[i].dst] := len_wS [phiS, b.phis[i].dst]
    rw [hwst, wS_app] at hls
    refine ld_rawB (i := 1) (k := .sl) (x := s) S.swap rfl rfl ?_
    refine idx_rdN hs rfl hil fun p10 _ hp10 => ld_str (fld_dst.rd hp10) S.old.ext ?_
    refine bld_strs (ws := [phiS, b.phis[i].dst]) S (by kernel_rfl) rfl (by omega) fun s4 h41 S41 => ?_
    clear S
    have hfb := hf4.1
    refine loop_intro (fun m (q : Sl × Int) h' => ∃ j : Nat, q.2 = j ∧ j ≤ b.phis[i].ins.length ∧ m = b.phis[i].ins.length - j ∧ Fw.Sep h0 h' (ownSl si_Lstring eStr q.1 ([phiS, b.phis[i].dst] ++ (b.phis[i].ins.take j).flatMap inW) :: ownSl si_Luint8 eB8 out1 (bs ++ (b.phis.take i).flatMap (fun p => lineF (phiW p))) :: rawB p (blockC b s t u) :: L)) b.phis[i].ins.length
      ⟨0, rfl, by omega, by omega, by simpa using S41⟩ ?_
    clear S41
    rintro _ _ ⟨w1, j⟩ h17 ⟨j, hj0, hj, rfl, S⟩
    simp only at hj0 S ⊢
    subst hj0
    refine ld_rawB (i := 1) (k := .sl) (x := s) (Sep.pull [_, _] S) rfl rfl ?_
    refine idx_rdN hs rfl hil fun p5 _ hp5 => ld_lst (fld_ins.rd hp5) S.old.ext fun y hy => ?_
    have hyl := hy.lenEq
    refine ifB_intro (fun hc2 => ?_) (fun hc2 => ?_)
    · have hjl : j < b.phis[i].ins.length := by rw [hyl] at hc2; simpa using hc2
      have hwj := wS_flat_take inW b.phis[i].ins (j + 1)
      have hlj := len_wS ((b.phis[i].ins.take (j + 1)).flatMap inW)
      have htk := flatW_take inW hjl
      rw [htk] at hwj hlj
      have hb2 : (inW b.phis[i].ins[j]).length = 2 := rfl
      rw [List.length_append, hb2] at hlj
      obtain ⟨_, hba, _⟩ := hf4.2 _ (List.getElem_mem hjl)
      refine ⟨RX h0 p (blockC b s t u), h0, _, fun n _ => if n = 21 then spV (.string (argW b.phis[i].ins[j].a)) (ownSl si_Lstring eStr w1 ([phiS, b.phis[i].dst] ++ (b.phis[i].ins.take j).flatMap inW) :: ownSl si_Luint8 eB8 out1 (bs ++ (b.phis.take i).flatMap (fun p => lineF (phiW p))) :: rawB p (blockC b s t u) :: L) else
        if n = 22 then spS si_Lstring eStr (inW b.phis[i].ins[j]) (ownSl si_Lstring eStr w1 ([phiS, b.phis[i].dst] ++ (b.phis[i].ins.take j).flatMap inW) :: ownSl si_Luint8 eB8 out1 (bs ++ (b.phis.take i).flatMap (fun p => lineF (phiW p))) :: rawB p (blockC b s t u) :: L) else
        spS si_Lstring eStr (([phiS, b.phis[i].dst] ++ (b.phis[i].ins.take j).flatMap inW) ++ inW b.phis[i].ins[j]) (ownSl si_Luint8 eB8 out1 (bs ++ (b.phis.take i).flatMap (fun p => lineF (phiW p))) :: rawB p (blockC b s t u) :: L), RX.of (Sep.pull [_, _] S), S, ?_⟩
      refine ldF_rx (k := .sl) (x := s) rfl rfl ?_
      refine idx_rdN hs rfl hil fun p6 _ hp6 => ldF_base (ld_lst (fld_ins.rd hp6) (hExt.refl _) fun y1 hy1 => ?_)
      refine idx_rdN hy1 rfl hjl fun p7 _ hp7 => ldF_base (ld_str (fld_inblock.rd hp7) (hExt.refl _) ?_)
      refine ldF_rx (k := .sl) (x := s) rfl rfl ?_
      refine idx_rdN hs rfl hil fun p8 _ hp8 => ldF_base (ld_lst (fld_ins.rd hp8) (hExt.refl _) fun y2 hy2 => ?_)
      refine idx_rdN hy2 rfl hjl fun p9 _ hp9 => ldF_base (ld_agg (fld_inA.rd hp9) (hExt.refl _) rfl fun c hc => ?_)
      rw [List.append_nil]
      refine fcallV (fun _ _ r o => r.old o) (fun h r => aput_calls (rArg.ext hc r.1.ext) hba) ⟨_, rfl, ?_⟩
      rw [List.append_nil]
      refine fbld (ws := inW b.phis[i].ins[j]) (fun _ _ r o => r.old o) (by kernel_rfl) rfl (by omega) fun r8 => ⟨r8, rfl, ?_⟩
      rw [List.append_nil]
      refine fapp (ws' := inW b.phis[i].ins[j]) rfl (fun S => RX.of (S.swap)) (by simp only [List.length_append, hb2, List.length_cons, List.length_nil]; omega) fun r9 => ⟨r9, rfl, ?_⟩
      intro h25 _ S25
      have S25 : Fw.Sep h0 h25 (ownSl si_Lstring eStr r9 (([phiS, b.phis[i].dst] ++ (b.phis[i].ins.take j).flatMap inW) ++ inW b.phis[i].ins[j]) :: ownSl si_Luint8 eB8 out1 (bs ++ (b.phis.take i).flatMap (fun p => lineF (phiW p))) :: rawB p (blockC b s t u) :: L) := Sep.ofV (by simpa [spS] using S25)
      refine ar_i64 (by omega) (by omega) ⟨b.phis[i].ins.length - (j + 1), by omega, j + 1, rfl, by omega, rfl, ?_⟩
      rw [htk, ← List.append_assoc]
      exact S25
    · have hjl : b.phis[i].ins.length ≤ j := by rw [hyl] at hc2; simpa using hc2
      rw [List.take_of_length_le hjl, ← hwst] at S
      refine (lput_calls S.swap (by rw [hwst, wS_app]; simp only [List.length_append]; omega)).mono ?_
      rintro v h26 ⟨o', rfl, S26⟩
      refine ⟨o', rfl, ?_⟩
      refine ar_i64 (by omega) (by omega) ⟨b.phis.length - (i + 1), by omega, i + 1, rfl, by omega, rfl, ?_⟩
      rw [hflat, ← List.append_assoc]
      exact S26
  · have hil : b.phis.length ≤ i := by rw [hsl] at hc; simpa using hc
    rw [List.take_of_length_le hil] at S
    exact hQ _ _ _ S
end
end Go.Proofs.YtojdbliehgejbaaDoor

/-
  lateenref06.Lines, of a program of functions alone.
-/
namespace Go.Proofs.YtojdbliehgejbaaDoor
open Go.Fw Go.Pl.Api Go.Pl.Put Go.Pl.Lines

/-- A line whose strings are built just ahead of it. -/
theorem line_rule {h0 h : Heap} {L : List As} {out : Sl} {bs : List UInt8} {n : Nat} {parts : List (Nat × Value)} {ws : List ByteArray} {K : Sl → Heap → Prop} (S : Fw.Sep h0 h (ownSl si_Luint8 eB8 out bs :: L))
    (hp : Instr.fill (fun i => some (i * si_Lstring.size, si_Lstring.size)) (madeCells si_Lstring.zero.cells (n * si_Lstring.size)) parts = some (ws.map Value.string).toArray) (hn : ws.length = n) (h16 : n ≤ 1000) (hl : bs.length + wS ws ≤ 1000000000)
    (hK : ∀ (o' : Sl) h', Fw.Sep h0 h' (ownSl si_Luint8 eB8 o' (bs ++ lineF ws) :: L) → K o' h') :
    bld si_Lstring n parts h fun s h_1 => ACalls Tryd.prog F_lateenref06_put [out.v, s.v] h_1 fun v h_2 => as1 .sl v fun r => K r h_2 := by
  refine bld_strs S hp hn h16 fun s h1 S1 => ?_
  refine (lput_calls S1.swap hl).mono ?_
  rintro v h2 ⟨o', rfl, S2⟩
  exact ⟨o', rfl, hK _ _ S2⟩
set_option maxHeartbeats 1000000 in
theorem lines_calls {h : Heap} {cs : Array Value} {fs : List MFunc} (hx : rProg.rv h cs.toList ⟨false, [], [], [], fs⟩) (hb : Go.Fw.bL bFunc fs) (hW : WordsIn h) (hl : (fs.map lFunc).sum ≤ 990000000) :
    ACalls Tryd.prog F_lateenref06_Lines [.agg cs] h (fun v h' => v = .string ⟨(fs.flatMap funcL).toArray⟩ ∧ Old h h') := by
  refine lateenref06_Lines_of ?_
  unfold lateenref06_Lines
  refine new_rv hx fun p1 h1 o1 hp => ?_
  have e1 := hExt.refl h1
  have hW := hW.old o1
  intro k hk
  refine ld_bool (fld_pSsa.rd hp) e1 (ifB_false rfl (hk _ _ fun _ => ?_))
  have S1 : Fw.Sep h1 h1 [ownSl si_Luint8 eB8 ⟨none, 0, 0⟩ []] := (Sep.start h1).nil rfl
  -- classes
  refine loop_intro (fun m (q : Sl × Int) h' => q = ((⟨none, 0, 0⟩ : Sl), 0) ∧ h' = h1) 0 ⟨rfl, rfl⟩ ?_
  rintro _ _ _ h2' ⟨rfl, e⟩
  have e := e.symm
  subst e
  refine ld_lst (fld_pClasses.rd hp) e1 fun sc hsc => ?_
  have hscl : sc.len = 0 := hsc.lenEq
  refine ifB_false (decide_eq_false (by rw [hscl]; simp)) ?_
  refine ld_lst (fld_pGlobals.rd hp) e1 fun sg hsg => ?_
  refine (lvars_calls S1 hsg (by simp)).mono ?_
  rintro v h12 ⟨o5, rfl, S12⟩
  refine ⟨o5, rfl, ?_⟩
  have S12 : Fw.Sep h1 h12 [ownSl si_Luint8 eB8 o5 []] := by simpa [varsL] using S12
  clear S1 hsc hscl hsg
  refine loop_intro (fun m (q : Sl × Int) h' => q = (o5, 0) ∧ h' = h12) 0 ⟨rfl, rfl⟩ ?_
  rintro _ _ _ h2' ⟨rfl, e⟩
  have e := e.symm
  subst e
  refine ld_lst (fld_pExterns.rd hp) S12.old.ext fun sx hsx => ?_
  have hsxl : sx.len = 0 := hsx.lenEq
  refine ifB_false (decide_eq_false (by rw [hsxl]; simp)) ?_
  -- functions
  have hflen : ∀ j, ((fs.take j).flatMap funcL).length ≤ ((fs.take j).map lFunc).sum := fun j => flatN_len funcL_len _
  have hbl := hb.1
  refine loop_intro (fun m (q : Sl × Int) h' => ∃ i : Nat, q.2 = i ∧ i ≤ fs.length ∧ m = fs.length - i ∧ Fw.Sep h1 h' [ownSl si_Luint8 eB8 q.1 ((fs.take i).flatMap funcL)]) fs.length
    ⟨0, rfl, by omega, by omega, by simpa using S12⟩ ?_
  clear S12 hsx hsxl hk
  rintro _ _ ⟨out, i⟩ h22 ⟨i, hi0, hi, rfl, S⟩
  simp only at hi0 S ⊢
  subst hi0
  refine ld_lst (fld_pFuncs.rd hp) S.old.ext fun sf hsf => ?_
  have hsfl : sf.len = fs.length := hsf.lenEq
  refine ifB_intro (fun hc => ?_) (fun hc => ?_)
  · have hil : i < fs.length := by rw [hsfl] at hc; simpa using hc
    have hst := sumTake lFunc hil
    have hle := sumTake_le lFunc fs (i + 1)
    have hfi := hflen i
    have hflat := flat_take funcL hil
    generalize hBS : (fs.take i).flatMap funcL = BS at *
    refine ld_lst (fld_pFuncs.rd hp) S.old.ext fun sf hsf => ?_
    refine idx_rdN hsf rfl hil fun p6 _ hp6 => ld_agg hp6 S.old.ext rfl fun fcs hfcs => ?_
    obtain ⟨_, _, hbp, hbv, hbb, _⟩ := hb.2 _ (List.getElem_mem hil)
    generalize hf : fs[i] = f at *
    have hlF : lFunc f = lHead f + (f.blocks.map lBlock).sum := rfl
    have hlH : lHead f = wS [funcS, f.name, f.result] + 1 + (f.params.map (lVar paramS)).sum + (f.vars.map (lVar varS)).sum := rfl
    have hl1 := lineF_len [funcS, f.name, f.result]
    have hl2 : (varsL paramS f.params).length ≤ (f.params.map (lVar paramS)).sum := flatN_len (varL_len paramS) f.params
    have hl3 : (varsL varS f.vars).length ≤ (f.vars.map (lVar varS)).sum := flatN_len (varL_len varS) f.vars
    obtain ⟨sa, sb, sc, rfl, hsa, hsb, hsc⟩ := arr_func hfcs
    refine new_stR S rfl rfl (by intro v hv; simp [funcC] at hv; rcases hv with rfl | rfl | rfl | rfl | rfl <;> rfl) fun p7 h24 S24 => ?_
    have S24 : Fw.Sep h1 h24 [ownSl si_Luint8 eB8 out BS, rawB p7 (funcC f sa sb sc)] := S24.swap
    clear S
    refine ⟨RX h1 p7 (funcC f sa sb sc), h1, _, fun n _ => if n = 5 then spS si_Lstring eStr [funcS, f.name, f.result] [ownSl si_Luint8 eB8 out BS, rawB p7 (funcC f sa sb sc)] else if n = 6 then spS si_Luint8 eB8 (BS ++ lineF [funcS, f.name, f.result]) [rawB p7 (funcC f sa sb sc)] else
      if n = 9 then spS si_Luint8 eB8 (BS ++ lineF [funcS, f.name, f.result] ++ varsL paramS f.params) [rawB p7 (funcC f sa sb sc)] else spS si_Luint8 eB8 (BS ++ lineF [funcS, f.name, f.result] ++ varsL paramS f.params ++ varsL varS f.vars) [rawB p7 (funcC f sa sb sc)], RX.of S24.swap, S24, ?_⟩
    refine ldF_rx (k := .str) (x := f.name) rfl rfl ?_
    refine ldF_rx (k := .str) (x := f.result) rfl rfl ?_
    refine fbld (ws := [funcS, f.name, f.result]) (fun _ _ r o => r.old o) (by kernel_rfl) rfl (by omega) fun r11 => ⟨r11, rfl, ?_⟩
    refine fcall (fun h2 X o S2 => ?_) fun r13 => ⟨r13, rfl, ?_⟩
    · have S2 : Fw.Sep h1 h2 (ownSl si_Lstring eStr r11 [funcS, f.name, f.result] :: ownSl si_Luint8 eB8 out BS :: rawB p7 (funcC f sa sb sc) :: X) := Sep.ofV S2
      refine (lput_calls S2.swap (by omega)).mono ?_
      rintro v h3 ⟨o', rfl, S3⟩
      exact ⟨o', rfl, RX.of S3.swap, S3⟩
    refine ldF_rx (k := .sl) (x := sa) rfl rfl ?_
    refine fcall (fun h2 X o S2 => ?_) fun r15 => ⟨r15, rfl, ?_⟩
    · have S2 : Fw.Sep h1 h2 (ownSl si_Luint8 eB8 r13 (BS ++ lineF [funcS, f.name, f.result]) :: rawB p7 (funcC f sa sb sc) :: X) := Sep.ofV S2
      refine (lvars_calls (first := paramS) S2 hsa (by rw [List.length_append]; omega)).mono ?_
      rintro v h3 ⟨o', rfl, S3⟩
      exact ⟨o', rfl, RX.of S3.swap, S3⟩
    refine ldF_rx (k := .sl) (x := sb) rfl rfl ?_
    refine fcall (fun h2 X o S2 => ?_) fun r17 => ⟨r17, rfl, ?_⟩
    · have S2 : Fw.Sep h1 h2 (ownSl si_Luint8 eB8 r15 (BS ++ lineF [funcS, f.name, f.result] ++ varsL paramS f.params) :: rawB p7 (funcC f sa sb sc) :: X) := Sep.ofV S2
      refine (lvars_calls (first := varS) S2 hsb (by simp only [List.length_append]; omega)).mono ?_
      rintro v h3 ⟨o', rfl, S3⟩
      exact ⟨o', rfl, RX.of S3.swap, S3⟩
    intro h34 _ S34
    have S34 : Fw.Sep h1 h34 [ownSl si_Luint8 eB8 r17 (BS ++ lineF [funcS, f.name, f.result] ++ varsL paramS f.params ++ varsL varS f.vars), rawB p7 (funcC f sa sb sc)] := Sep.ofV S34
    have eH : BS ++ lineF [funcS, f.name, f.result] ++ varsL paramS f.params ++ varsL varS f.vars = BS ++ headL f := by unfold headL; simp only [List.append_assoc]
    rw [eH] at S34
    have hhl := headL_len f
    -- blocks
    have hscl := hsc.lenEq
    have hscb := hsc.bound
    have hblen : ∀ j, ((f.blocks.take j).flatMap blockL).length ≤ ((f.blocks.take j).map lBlock).sum := fun j => flatN_len blockL_len _
    clear S24 eH hl1 hl2 hl3
    refine loop_intro (fun m (q : Sl × Int) h' => ∃ j : Nat, q.2 = j ∧ j ≤ f.blocks.length ∧ m = f.blocks.length - j ∧ Fw.Sep h1 h' [ownSl si_Luint8 eB8 q.1 (BS ++ headL f ++ (f.blocks.take j).flatMap blockL), rawB p7 (funcC f sa sb sc)]) f.blocks.length
      ⟨0, rfl, by omega, by omega, by simpa using S34⟩ ?_
    clear S34
    rintro _ _ ⟨out4, j⟩ h35 ⟨j, hj0, hj, rfl, S⟩
    simp only at hj0 S ⊢
    subst hj0
    refine ld_rawB (i := 4) (k := .sl) (x := sc) S.swap rfl rfl ?_
    refine ifB_intro (fun hc2 => ?_) (fun hc2 => ?_)
    · have hjl : j < f.blocks.length := by rw [hscl] at hc2; simpa using hc2
      have hst2 := sumTake lBlock hjl
      have hle2 := sumTake_le lBlock f.blocks (j + 1)
      have hbj := hblen j
      have hflat2 := flat_take blockL hjl
      obtain ⟨_, hbph, hbco, hbte, _⟩ := hbb.2 _ (List.getElem_mem hjl)
      refine ld_rawB (i := 4) (k := .sl) (x := sc) S.swap rfl rfl ?_
      refine idx_rdN hsc rfl hjl fun p8 _ hp8 => ld_agg hp8 S.old.ext rfl fun bcs hbcs => ?_
      generalize hB2 : BS ++ headL f ++ (f.blocks.take j).flatMap blockL = B2 at *
      have hB2l : B2.length + lBlock f.blocks[j] ≤ 990000000 := by rw [← hB2]; simp only [List.length_append]; omega
      generalize hbk : f.blocks[j] = b at *
      have hlB : lBlock b = wS [blockS, b.name] + 1 + (b.phis.map lPhi).sum + (b.code.map lCode).sum + lEnd b.term := rfl
      have hl1 := lineF_len [blockS, b.name]
      have hl2 : (b.phis.flatMap fun p => lineF (phiW p)).length ≤ (b.phis.map lPhi).sum := flatN_len (fun p => lineF_len (phiW p)) _
      have hl3 := flatN_len codeL_len b.code
      have hlE : lEnd b.term = wS (endW b.term) + 1 := rfl
      obtain ⟨s, t, u, rfl, hs, ht, hu⟩ := arr_block hbcs
      refine new_stR S rfl rfl (by intro v hv; simp [blockC] at hv; rcases hv with rfl | rfl | rfl | rfl | rfl | rfl | rfl | rfl | rfl <;> rfl) fun p9 h37 S37 => ?_
      refine ld_rawB (i := 0) (k := .str) (x := b.name) S37 rfl rfl ?_
      refine line_rule (ws := [blockS, b.name]) S37.swap (by kernel_rfl) rfl (by omega) (by omega) fun out5 h39 S39 => ?_
      clear S S37
      refine phis_rest (bs := B2 ++ lineF [blockS, b.name]) S39 hs hbph (by rw [List.length_append]; omega) fun out6 n6 h40 S40 => ?_
      simp only
      clear S39
      -- instructions
      have htl := ht.lenEq
      have htb := ht.bound
      generalize hB3 : B2 ++ lineF [blockS, b.name] ++ b.phis.flatMap (fun p => lineF (phiW p)) = B3 at *
      have hB3l : B3.length + (b.code.map lCode).sum + lEnd b.term ≤ 990000000 := by rw [← hB3]; simp only [List.length_append]; omega
      refine loop_intro (fun m (q : Sl × Int) h' => ∃ k : Nat, q.2 = k ∧ k ≤ b.code.length ∧ m = b.code.length - k ∧ Fw.Sep h1 h' [ownSl si_Luint8 eB8 q.1 (B3 ++ (b.code.take k).flatMap codeL), rawB p9 (blockC b s t u), rawB p7 (funcC f sa sb sc)]) b.code.length
        ⟨0, rfl, by omega, by omega, by simpa using S40⟩ ?_
      clear S40
      rintro _ _ ⟨out7, k⟩ h52 ⟨k, hk0, hk, rfl, S⟩
      simp only at hk0 S ⊢
      subst hk0
      refine ld_rawB (i := 2) (k := .sl) (x := t) S.swap rfl rfl ?_
      refine ifB_intro (fun hc3 => ?_) (fun hc3 => ?_)
      · have hkl : k < b.code.length := by rw [htl] at hc3; simpa using hc3
        have hst3 := sumTake lCode hkl
        have hle3 := sumTake_le lCode b.code (k + 1)
        have hck := flatN_len codeL_len (b.code.take k)
        refine ld_rawB (i := 2) (k := .sl) (x := t) S.swap rfl rfl ?_
        refine idx_rdN ht rfl hkl fun p16 _ hp16 => ld_agg hp16 S.old.ext rfl fun ics hics => ?_
        refine (lcode_calls (x := b.code[k]) S hics (hbco.2 _ (List.getElem_mem hkl)) hW (by rw [List.length_append]; omega)).mono ?_
        rintro v h53 ⟨o', rfl, S53⟩
        refine ⟨o', rfl, ?_⟩
        refine ar_i64 (by omega) (by omega) ⟨b.code.length - (k + 1), by omega, k + 1, rfl, by omega, rfl, ?_⟩
        rw [flat_take codeL hkl, ← List.append_assoc]
        exact S53
      · have hkl : b.code.length ≤ k := by rw [htl] at hc3; simpa using hc3
        rw [List.take_of_length_le hkl] at S
        refine ld_rawSub (i := 3) (ds := termC b.term u) S.swap rfl rfl ?_
        have hterm : rTerm.rv h1 (termC b.term u).toList b.term := ⟨[.int .i64 b.term.kind], _, rfl, rfl, [.int .i64 b.term.a.kind, .string b.term.a.s, .int .i64 b.term.a.n], _, rfl, rv_arg.2 rfl, [u.v], _, rfl, ⟨u, rfl, hu⟩, [.int .i64 b.term.n], [], rfl, rfl, rfl⟩
        refine (lends_calls S hterm hbte (by rw [List.length_append]; omega)).mono ?_
        rintro v h54 ⟨o', rfl, S54⟩
        refine ⟨o', rfl, ?_⟩
        refine ar_i64 (by omega) (by omega) ⟨f.blocks.length - (j + 1), by omega, j + 1, rfl, by omega, rfl, ?_⟩
        have S55 := S54.swap.drop
        have e : B3 ++ b.code.flatMap codeL ++ endL b.term = BS ++ headL f ++ (f.blocks.take (j + 1)).flatMap blockL := by
          rw [hflat2, ← hB3, ← hB2]
          unfold blockL
          simp only [List.append_assoc]
        rw [e] at S55
        exact S55
    · have hjl : f.blocks.length ≤ j := by rw [hscl] at hc2; simpa using hc2
      rw [List.take_of_length_le hjl] at S
      refine ar_i64 (by omega) (by omega) ⟨fs.length - (i + 1), by omega, i + 1, rfl, by omega, rfl, ?_⟩
      rw [hflat]
      have S := S.swap.drop
      have e : BS ++ headL f ++ f.blocks.flatMap blockL = BS ++ funcL f := by unfold funcL; rw [List.append_assoc]
      rw [e] at S
      exact S
  · have hil : fs.length ≤ i := by rw [hsfl] at hc; simpa using hc
    rw [List.take_of_length_le hil] at S
    exact rd_bytes S.rd ⟨rfl, o1.trans S.old⟩
end Go.Proofs.YtojdbliehgejbaaDoor
