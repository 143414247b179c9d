/-
  lateenlaw24: MatterFirst.
-/
import Derived.Test.YtncbpalncgcoaaaFnAllLaw
namespace Go.Proofs.Ytncbpalncgcoaaa
open Go.Fw Go.Fw.I Go.Pl.Api Go.Pl.Vst Go.Pl.Mat Go.Pl.Put Go.Pl

theorem countP_step {l : List MArg} {p : MArg → Bool} {k : Nat} (hk : k < l.length) : (l.take (k + 1)).countP p = (l.take k).countP p + (if p l[k] then 1 else 0) := by
  rw [List.take_succ_eq_append_getElem hk, List.countP_append, List.countP_singleton]
theorem codeF_len {l : List MObj} {order : List Int} {fs : List MVar} {names : List ByteArray} : (codeF l order fs names).length = order.length + (latesTo l order fs order.length).length := by
  simp [codeF, newsTo, storesOf]
/-- The last truth: what leads round, and how many Stores there are. -/
theorem last_true {h : Heap} {r2 r6 : Sl} {n m : Nat} {up : Int} {round : Bool} {k : Bool → Heap → Prop} (h6 : r6.len = n + m) (h2 : r2.len = n) (hn : n ≤ 100000) (hm : m ≤ 100000) (hup : (m : Int) ≤ up) (hr : round = false → m = 0) (hk : k true h) :
    ifB round
     (ar .i64 ((r6.len : Int) - (r2.len : Int)) fun n_6 => k (decide (n_6 ≤ up)) h)
     (ifB ((r6.len : Int) == (r2.len : Int)) (ar .i64 ((r6.len : Int) - (r2.len : Int)) fun n_7 => k (decide (n_7 ≤ up)) h) (k false h)) := by
  have fin : ar .i64 ((r6.len : Int) - (r2.len : Int)) fun n_6 => k (decide (n_6 ≤ up)) h := ar_i64 (by omega) (by omega) (by rw [decide_eq_true (by omega)]; exact hk)
  refine ifB_intro (fun _ => fin) (fun hc => ifB_true ?_ fin)
  have := hr hc
  rw [beq_iff_eq]
  omega

theorem matterFirst_calls {h : Heap} {s t : Sl} {l : List MObj} {A : List Int} (hs : rdSl rObj.el h s l) (ht : rdSl eInt h t A) (hid : IdsOk l) :
    ACalls Try.prog F_lateenlaw24_MatterFirst [s.v, t.v] h (fun v h' => v = .bool true ∧ Old h h') := by
  refine lateenlaw24_MatterFirst_of ?_
  unfold lateenlaw24_MatterFirst
  intro k hk
  have weak : ∀ h', Old h h' → k true h' := fun h' o => hk _ _ fun _ => ifB_true rfl (awake24_end o)
  refine awake24_calls.mono ?_
  rintro v h1 ⟨rfl, o1⟩
  refine ⟨_, rfl, ifB_false rfl ?_⟩
  refine (right_calls (hs.old o1)).mono ?_
  rintro v h2 ⟨b, rfl, o2, hK⟩
  have o2 := o1.trans o2
  refine ⟨_, rfl, ?_⟩
  cases b with
  | false => exact ifB_true rfl (weak _ o2)
  | true =>
  have K := hK rfl
  refine ifB_false rfl ?_
  have htl := ht.lenEq
  by_cases h20 : (t.len : Int) > 20
  · rw [decide_eq_true h20]; exact weak _ o2
  rw [decide_eq_false h20]
  have hA : A.length ≤ 20 := by omega
  refine hk _ _ fun _ => ifB_false rfl ?_
  clear weak hk k hK
  have hr := right_ris K.right
  have hreal : RealOk l := fun o ho => (right_ok K.right ho).1
  have hlen := K.len
  have C := codeOk (A := A) K
  have O := ord_is hr A
  have hol := ord_len O
  have hvals : ∀ o ∈ l, o.vals.length ≤ 2 := fun o ho => by rw [K.vals o ho]; omega
  refine prelude K (hs.old o2) (ht.old o2) hid hA ?_
  intro r2 r6 r7 hb h3 ob1 ob2 S3 hcode
  have o3 := o2.trans S3.old
  have hr2 := S3.drop.rd
  have hr2l := hr2.lenEq
  have hcl := hcode.lenEq
  rw [codeF_len] at hcl
  have hs3 := hs.old o3
  have hobj : ∀ i (hi : i < (orderF l A).length), findF l (toA (orderF l A)[i]) = some (objF l (orderF l A)[i]) ∧ objF l (orderF l A)[i] ∈ l := fun i hi => by
    obtain ⟨o, ho, e⟩ := C.obj _ (List.getElem_mem hi)
    rw [← e, objF_of hr ho]
    exact ⟨findF_self hr ho, ho⟩
  clear S3 hcode ht
  refine loop_intro (fun m (q : Bool × Int × Int) h' => ∃ i : Nat, q.2.2 = i ∧ i ≤ (orderF l A).length ∧ m = (orderF l A).length - i ∧ Old h3 h' ∧ q.2.1 = upTo l (orderF l A) i ∧
      (q.1 = false → ∀ i', i' < i → ∀ a ∈ (objF l ((orderF l A).getD i' 0)).vals, ¬ LateAt l (orderF l A) i' a)) (orderF l A).length
    ⟨0, rfl, by omega, by omega, .refl _, rfl, fun _ i' h => by omega⟩ ?_
  rintro _ _ ⟨round, _, _⟩ h4 ⟨i, rfl, hi, rfl, o4, rfl, hround⟩
  simp only at hround ⊢
  have hupi := upTo_le (orderF l A) hvals i
  refine ifB_intro (fun hc => ?_) (fun hc => ?_)
  · have hil : i < (orderF l A).length := by rw [hr2l] at hc; simpa using hc
    obtain ⟨hf, hol2⟩ := hobj i hil
    have hgd := getD_lt (d := (0 : Int)) hil
    have hround2 : ∀ b, (b = false → round = false ∧ ∀ a ∈ (objF l (orderF l A)[i]).vals, ¬ LateAt l (orderF l A) i a) → b = false → ∀ i', i' < i + 1 → ∀ a ∈ (objF l ((orderF l A).getD i' 0)).vals, ¬ LateAt l (orderF l A) i' a := by
      intro b hb hb2 i' hi' a ha
      obtain ⟨h1, h2⟩ := hb hb2
      by_cases e : i' = i
      · subst e
        rw [hgd] at ha
        exact h2 a ha
      · exact hround h1 i' (by omega) a ha
    have hup2 : upTo l (orderF l A) (i + 1) = upTo l (orderF l A) i + ((objF l (orderF l A)[i]).vals.take (objF l (orderF l A)[i]).vals.length).countP (upB l (orderF l A)[i]) := by
      show _ + upO l (orderF l A) i _ = _
      unfold upO
      rw [hgd]
    generalize hoi : objF l (orderF l A)[i] = o at *
    have hv2 := hvals o hol2
    refine idx_rdN (hr2.old o4) rfl hil fun p _ hp => ld_one hp ?_
    refine (lto_calls _).mono ?_
    rintro v h5 ⟨rfl, o5⟩
    refine ⟨_, rfl, ?_⟩
    have o45 := o4.trans o5
    refine (refFind_calls (a := toA (orderF l A)[i]) (hs3.old o45) (rv_arg.2 rfl)).mono ?_
    rintro v h6 ⟨ds, rfl, o6, hds⟩
    refine ⟨_, _, rfl, ?_⟩
    rw [hf] at hds
    have hds : rObj.rv h5 ds.toList o := hds
    refine new_stX hds o6.ext rfl rfl fun p1 h8 o8 hbx => ?_
    have o08 := o45.trans (o6.trans o8)
    have hb5 : Old h5 h8 := o6.trans o8
    -- the fields
    refine loop_intro (fun m (q : Bool × Int × Int) h' => ∃ c : Nat, q.2.2 = c ∧ c ≤ o.vals.length ∧ m = o.vals.length - c ∧ Old h8 h' ∧ q.2.1 = ((upTo l (orderF l A) i + (o.vals.take c).countP (upB l (orderF l A)[i]) : Nat) : Int) ∧
        (q.1 = false → round = false ∧ ∀ a ∈ o.vals.take c, ¬ LateAt l (orderF l A) i a)) o.vals.length
      ⟨0, rfl, by omega, by omega, .refl _, by simp, fun e => ⟨e, by simp⟩⟩ ?_
    rintro _ _ ⟨rd1, _, _⟩ h9 ⟨c, rfl, hcl2, rfl, o9, rfl, hrd1⟩
    simp only at hrd1 ⊢
    have hb9 := RV.bx_old hbx o9
    have hcnt : (o.vals.take c).countP (upB l (orderF l A)[i]) ≤ 2 := Nat.le_trans List.countP_le_length (by simp; omega)
    refine ld_lstX (fld_oVals.bx hb9) fun x1 hx1 => ?_
    have hx1l : x1.len = o.vals.length := hx1.lenEq
    refine ifB_intro (fun hc2 => ?_) (fun hc2 => ?_)
    · have hcv : c < o.vals.length := by rw [hx1l] at hc2; simpa using hc2
      have hstep := countP_step (p := upB l (orderF l A)[i]) hcv
      have h59 := hb5.trans o9
      have o39 := o08.trans o9
      intro k2 hk2
      have inner : ∀ (up2 : Int) h', Old h9 h' → up2 = ((upTo l (orderF l A) i + (o.vals.take (c + 1)).countP (upB l (orderF l A)[i]) : Nat) : Int) → k2 up2 h' := fun up2 h15 o15 hup => hk2 _ _ fun _ => by
        refine loop_intro (fun m (q : Bool × Int) h' => ∃ j : Nat, q.2 = j ∧ i ≤ j ∧ j ≤ (orderF l A).length ∧ m = (orderF l A).length - j ∧ Old h9 h' ∧
            (q.1 = false → rd1 = false ∧ ∀ q' (hq : q' < (orderF l A).length), i ≤ q' → q' < j → ¬ (virtF l o.vals[c] = true ∧ o.vals[c].n = (orderF l A)[q']))) ((orderF l A).length - i)
          ⟨i, rfl, by omega, by omega, by omega, o15, fun e => ⟨e, fun q' _ h1 h2 => by omega⟩⟩ ?_
        rintro _ _ ⟨rd2, _⟩ h16 ⟨j, rfl, hij, hj, rfl, o16, hrd2⟩
        simp only at hrd2 ⊢
        have o316 := o39.trans o16
        have h516 := h59.trans o16
        have hb16 := RV.bx_old hb9 o16
        refine ifB_intro (fun hc3 => ?_) (fun hc3 => ?_)
        · have hjl : j < (orderF l A).length := by rw [hr2l] at hc3; simpa using hc3
          intro k3 hk3
          have next : ∀ (b : Bool) h', Old h16 h' → (b = false → rd2 = false ∧ ¬ (virtF l o.vals[c] = true ∧ o.vals[c].n = (orderF l A)[j])) → k3 b h' := fun b h' o' hb => hk3 _ _ fun _ =>
            ar_i64 (by omega) (by omega) ⟨(orderF l A).length - (j + 1), by omega, j + 1, rfl, by omega, by omega, rfl, o16.trans o', fun e => by
              obtain ⟨e1, e2⟩ := hb e
              obtain ⟨e3, e4⟩ := hrd2 e1
              refine ⟨e3, fun q' hq h1 h2 => ?_⟩
              by_cases e5 : q' = j
              · subst e5; exact e2
              · exact e4 q' hq h1 (by omega)⟩
          intro k4 hk4
          have skip : ∀ h', Old h16 h' → ¬ (virtF l o.vals[c] = true ∧ o.vals[c].n = (orderF l A)[j]) → k4 true h' := fun h' o' hn => hk4 _ _ fun _ => ifB_true rfl (next rd2 h' o' fun e => ⟨e, hn⟩)
          have met : ∀ h', Old h16 h' → virtF l o.vals[c] = true → o.vals[c].n = (orderF l A)[j] → k4 false h' := fun h18 o18 hv e => hk4 _ _ fun _ => ifB_false rfl <| by
            have hin : (orderF l A)[i] ∈ reachF l [o.vals[c]] := (late_round hr O hil hjl hij (by rw [hoi]; exact List.getElem_mem hcv) hv e).1
            have hb18 := RV.bx_old hb16 o18
            have h518 := h516.trans o18
            have o318 := o316.trans o18
            refine ld_lstX (fld_oVals.bx hb18) fun x2 hx2 => ?_
            refine idx_rdN (hx2.old h518) rfl hcv fun p2 _ hp2 => ld_agg hp2 (hExt.refl _) rfl fun c3 hc3 => ?_
            refine bld_one (E := eArg) (v := .agg c3) (x := o.vals[c]) ((Sep.start h18).nil rfl) (fun _ => ⟨rv_arg.1 hc3, rfl⟩) rfl (by decide) fun s1 h19 S19 => ?_
            have o319 := o318.trans S19.old
            refine (refReach_calls (A := [o.vals[c]]) (hs3.old o319) (rd_arg.1 S19.rd) (by omega)).mono ?_
            rintro v h20 ⟨r11, rfl, S20⟩
            refine ⟨_, rfl, ?_⟩
            have o320 := o319.trans S20.old
            have hr11 := S20.rd
            have hr11l := hr11.lenEq
            have hoz : Old h16 h20 := o18.trans (S19.old.trans S20.old)
            generalize reachF l [o.vals[c]] = R at *
            refine loop_intro (fun m (q : Bool × Int) h' => ∃ n : Nat, q.2 = n ∧ n ≤ R.length ∧ m = R.length - n ∧ h' = h20 ∧ q.1 = (R.take n).contains (orderF l A)[i]) R.length ⟨0, rfl, by omega, by omega, rfl, rfl⟩ ?_
            rintro _ _ ⟨back, _⟩ h21 ⟨n, rfl, hn, rfl, rfl, rfl⟩
            simp only
            refine ifB_intro (fun hc4 => ?_) (fun hc4 => ?_)
            · have hnl : n < R.length := by rw [hr11l] at hc4; simpa using hc4
              intro k5 hk5
              have hbnd := hr11.bound
              have nx : ∀ b : Bool, b = (R.take (n + 1)).contains (orderF l A)[i] → k5 b h21 := fun b hb => hk5 _ _ fun _ => ar_i64 (by omega) (by omega) ⟨R.length - (n + 1), by omega, n + 1, rfl, by omega, rfl, rfl, hb⟩
              have e := contains_step hnl (z := (orderF l A)[i])
              refine ifB_intro (fun hm => nx _ (by rw [e, hm]; rfl)) (fun hm => ?_)
              refine idx_rdN hr11 rfl hnl fun p3 _ hp3 => ld_one hp3 ?_
              refine idx_rdN (hr2.old o320) rfl hil fun p4 _ hp4 => ld_one hp4 ?_
              exact nx _ (by rw [e, hm]; rfl)
            · have hnl : R.length ≤ n := by rw [hr11l] at hc4; simpa using hc4
              rw [List.take_of_length_le hnl]
              have : R.contains (orderF l A)[i] = true := by simpa [List.contains_eq_mem] using hin
              rw [this]
              exact ifB_false rfl (next true h21 hoz fun e => by cases e)
          refine ld_lstX (fld_oVals.bx hb16) fun x6 hx6 => ?_
          refine idx_rdN (hx6.old h516) rfl hcv fun p5 _ hp5 => ld_agg hp5 (hExt.refl _) rfl fun c7 hc7 => ?_
          refine (refVirt_calls (a := o.vals[c]) (hs3.old o316) hc7).mono ?_
          rintro v h23 ⟨rfl, o23⟩
          refine ⟨_, rfl, o23.ext, ifB_intro (fun hv => skip _ o23 fun ⟨h1, _⟩ => ?_) (fun hv => ?_)⟩
          · rw [h1] at hv; cases hv
          · have hv : virtF l o.vals[c] = true := by simpa using hv
            refine ld_lstX (fld_oVals.bx hb16) fun x8 hx8 => ?_
            refine idx_rdN (hx8.old h516) rfl hcv fun p6 _ hp6 => ld_int (fld_argN.rd hp6) (hExt.refl _) ?_
            refine idx_rdN (hr2.old o316) rfl hjl fun p7 _ hp7 => ld_one hp7 ?_
            by_cases e : o.vals[c].n = (orderF l A)[j]
            · have : (o.vals[c].n != (orderF l A)[j]) = false := by simpa using e
              rw [this]
              exact met _ o23 hv e
            · have : (o.vals[c].n != (orderF l A)[j]) = true := by simpa using e
              rw [this]
              exact skip _ o23 fun ⟨_, h2⟩ => e h2
        · have hjl : (orderF l A).length ≤ j := by rw [hr2l] at hc3; simpa using hc3
          refine ar_i64 (by omega) (by omega) ⟨o.vals.length - (c + 1), by omega, c + 1, rfl, by omega, rfl, o9.trans o16, hup, fun e => ?_⟩
          obtain ⟨e1, e2⟩ := hrd2 e
          obtain ⟨e3, e4⟩ := hrd1 e1
          refine ⟨e3, fun a ha => ?_⟩
          rw [List.take_succ_eq_append_getElem hcv, List.mem_append, List.mem_singleton] at ha
          rcases ha with ha | rfl
          · exact e4 a ha
          · rintro ⟨q', hq, h1, h2, h3⟩
            exact e2 q' hq h1 (by omega) ⟨h2, h3⟩
      intro k6 hk6
      have more : ∀ (b : Bool) h', Old h9 h' → b = upB l (orderF l A)[i] o.vals[c] → k6 b h' := fun b h' o' hb => hk6 _ _ fun _ => by
        cases b with
        | true =>
          refine ifB_true rfl (ar_i64 (by omega) (by omega) (inner _ h' o' ?_))
          rw [hstep, ← hb]
          simp
          omega
        | false =>
          refine ifB_false rfl (inner _ h' o' ?_)
          rw [hstep, ← hb]
          simp
      refine ld_lstX (fld_oVals.bx hb9) fun x11 hx11 => ?_
      refine idx_rdN (hx11.old h59) rfl hcv fun p8 _ hp8 => ld_agg hp8 (hExt.refl _) rfl fun c12 hc12 => ?_
      refine (refVirt_calls (a := o.vals[c]) (hs3.old o39) hc12).mono ?_
      rintro v h25 ⟨rfl, o25⟩
      refine ⟨_, rfl, o25.ext, ifB_intro (fun hv => ?_) (fun hv => more _ _ o25 (by unfold upB; rw [hv]; rfl))⟩
      refine ld_lstX (fld_oVals.bx hb9) fun x13 hx13 => ?_
      refine idx_rdN (hx13.old h59) rfl hcv fun p9 _ hp9 => ld_int (fld_argN.rd hp9) (hExt.refl _) ?_
      refine idx_rdN (hr2.old o39) rfl hil fun p10 _ hp10 => ld_one hp10 ?_
      refine more _ _ o25 ?_
      unfold upB
      rw [hv]
      rfl
    · have hcv : o.vals.length ≤ c := by rw [hx1l] at hc2; simpa using hc2
      have ec : c = o.vals.length := by omega
      subst ec
      refine ar_i64 (by omega) (by omega) ⟨(orderF l A).length - (i + 1), by omega, i + 1, rfl, by omega, rfl, o08.trans o9, ?_, ?_⟩
      · rw [hup2]
      · refine hround2 rd1 fun e => ?_
        obtain ⟨e1, e2⟩ := hrd1 e
        rw [List.take_length] at e2
        exact ⟨e1, e2⟩
  · have hil : (orderF l A).length ≤ i := by rw [hr2l] at hc; simpa using hc
    have ei : i = (orderF l A).length := by omega
    subst ei
    intro k7 hk7
    have hu := latesTo_up (fs := clsP.fields) hr hreal O _ (Nat.le_refl (orderF l A).length)
    refine last_true hcl hr2l (by omega) (by omega) (by omega) (fun e => ?_) (hk7 _ _ fun _ => ⟨rfl, o3.trans o4⟩)
    rw [lates_none hr hreal O (Nat.le_refl _) (hround e)]
    rfl
end Go.Proofs.Ytncbpalncgcoaaa
