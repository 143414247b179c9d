/-
  The document's Reach.
-/
import Derived.Test.YtncbpalncgcoaaaFnReach
namespace Go.Proofs.Ytncbpalncgcoaaa
open Go.Fw Go.Fw.I Go.Pl.Api Go.Pl.Vst

theorem ldI {h0 h : Heap} {L : List As} {t : Sl} {I : List Bool} {i : Nat} {K : Bool → Prop} (S : Fw.Sep h0 h (ownSl si_Lbool eBool t I :: L)) (hi : i < I.length) (hK : K (I.getD i false)) :
    idx 1 t (i : Int) fun p => ld .bool h p fun x => K x := by
  refine idx_rdN S.rd rfl hi fun p _ hp => ld_one (k := .bool) hp ?_
  rw [List.getD_eq_getElem?_getD, List.getElem?_eq_getElem hi] at hK
  exact hK
theorem stI {h0 h : Heap} {L : List As} {t : Sl} {I : List Bool} {i : Nat} {x : Bool} {K : Heap → Prop} (S : Fw.Sep h0 h (ownSl si_Lbool eBool t I :: L)) (hi : i < I.length) (hK : ∀ h', Fw.Sep h0 h' (ownSl si_Lbool eBool t (I.set i x) :: L) → K h') :
    idx 1 t (i : Int) fun p => st [.bool x] h p fun h' => K h' := by
  refine idx_rdN S.rd rfl hi fun p hat _ => ?_
  exact st_flat S (x := x) (own_bool x) hat rfl hi hK
theorem set_self {I : List Bool} {i : Nat} (h : ¬ on I i) : I.set i false = I := by
  refine List.ext_getElem? fun j => ?_
  rw [List.getElem?_set]
  split
  · rename_i e
    subst e
    unfold on at h
    rw [List.getD_eq_getElem?_getD] at h
    split
    · rename_i hi
      rw [List.getElem?_eq_getElem hi] at h ⊢
      simpa using h
    · rename_i hi; rw [List.getElem?_eq_none (by omega)]
  · rfl
theorem set_same {I : List Bool} {i : Nat} (x y : Bool) : (I.set i x).set i y = I.set i y := List.set_set _
def test (o : MObj) (a : MArg) : Bool := a.kind == 5 && a.n == o.id
theorem hits_take {o : MObj} {l : List MArg} {k : Nat} (hk : k < l.length) : hits o (l.take (k + 1)) = (hits o (l.take k) || test o l[k]) := by
  unfold hits test
  rw [List.take_succ_eq_append_getElem hk, List.any_append]
  simp
theorem turn_arg {l : List MObj} {A : List MArg} {I : List Bool} {i : Nat} {hi : i < l.length} {k : Nat} {x : Bool} (t : Turn l A I i hi k 0 x) (hk : k < A.length) (hv : l[i].real.kind = 0) : Turn l A I i hi (k + 1) 0 (x || test l[i] A[k]) := by
  refine ⟨fun h => ?_, fun h => ?_, fun h z hz h0 => by omega⟩
  · cases x with
    | true => exact t.sound rfl
    | false =>
      simp only [Bool.false_or, test, Bool.and_eq_true, beq_iff_eq] at h
      exact .base (List.getElem_mem hi) hv (List.getElem_mem hk) h.1 h.2
  · rw [Bool.or_eq_false_iff] at h
    rw [hits_take hk, t.args h.1, h.2]; rfl

set_option maxHeartbeats 2000000 in
theorem refReach_calls {h : Heap} {s la : Sl} {l : List MObj} {A : List MArg} (hs : rdSl rObj.el h s l) (hA : rdSl rArg.el h la A) (hn : l.length ≤ 1000) :
    ACalls Try.prog F_lateenref22_Reach [s.v, la.v] h (fun v h' => ∃ s' : Sl, v = s'.v ∧ Fw.Sep h h' [ownSl si_Lint64 eInt s' (reachF l A)]) := by
  classical
  refine lateenref22_Reach_of ?_
  unfold lateenref22_Reach
  have hl := hs.lenEq
  have hlA := hA.lenEq
  rw [hl]
  refine ⟨rfl, ?_⟩
  refine mk_rule (x := false) (E := eBool) (Sep.start h) rfl (fun h => own_bool false h) (by omega) (by omega) (by simp only [si_Lbool]; omega) fun t h1 S1 => ?_
  rw [Int.toNat_natCast] at S1
  refine loop_intro (fun m (q : Int) h' => ∃ (n : Nat) (I : List Bool), q = n ∧ n ≤ l.length + 1 ∧ m = l.length + 1 - n ∧ Fw.Sep h h' [ownSl si_Lbool eBool t I] ∧ RndN l A n I) (l.length + 1)
    ⟨0, _, rfl, by omega, by omega, S1, RndN.start l A⟩ ?_
  clear S1
  rintro _ _ _ h2 ⟨n, I0, rfl, hnl, rfl, S2, R⟩
  refine ifB_intro (fun hc => ?_) (fun hc => ?_)
  · have hnl2 : n ≤ l.length := by simpa using hc
    refine loop_intro (fun m (q : Int) h' => ∃ (i : Nat) (I : List Bool), q = i ∧ i ≤ l.length ∧ m = l.length - i ∧ Fw.Sep h h' [ownSl si_Lbool eBool t I] ∧ Rnd l A I0 i I) l.length
      ⟨0, _, rfl, by omega, by omega, S2, R.enter⟩ ?_
    clear S2
    rintro _ _ _ h3 ⟨i, I, rfl, hil, rfl, S3, Q⟩
    refine ifB_intro (fun hc => ?_) (fun hc => ?_)
    · have hi : i < l.length := by simpa using hc
      have hiI : i < I.length := by rw [Q.len]; exact hi
      intro k hk
      have go : ∀ (h' : Heap) (I' : List Bool), Fw.Sep h h' [ownSl si_Lbool eBool t I'] → Rnd l A I0 (i + 1) I' → k () h' := fun h' I' S' Q' => hk _ _ fun _ =>
        ar_i64 (by omega) (by omega) ⟨l.length - (i + 1), by omega, i + 1, I', rfl, by omega, rfl, S', Q'⟩
      intro k1 hk1
      have skip : (l[i].real.kind ≠ 0 ∨ on I i) → k1 true h3 := fun hh => hk1 _ _ fun _ => ifB_true rfl (go h3 I S3 (Q.skip hi hh))
      refine idx_rdN hs rfl hi fun p18 _ hp18 => ?_
      refine ld_int (fld_argKind.rd (fld_oReal.rd hp18)) S3.old.ext ?_
      refine ifB_intro (fun hc => skip (.inl (by simpa using hc))) (fun hc => ?_)
      have hv : l[i].real.kind = 0 := by simpa using hc
      refine ldI S3 hiI ?_
      cases hIi : I.getD i false with
      | true => exact skip (.inr hIi)
      | false =>
      have hno : ¬ on I i := by unfold on; rw [hIi]; simp
      refine hk1 _ _ fun _ => ifB_false rfl ?_
      -- the arguments
      refine loop_intro (fun m (q : Int) h' => ∃ (k : Nat) (x : Bool), q = k ∧ k ≤ A.length ∧ m = A.length - k ∧ Fw.Sep h h' [ownSl si_Lbool eBool t (I.set i x)] ∧ Turn l A I i hi k 0 x) A.length
        ⟨0, false, rfl, by omega, by omega, by rw [set_self hno]; exact S3, ⟨fun h => (by cases h), fun _ => rfl, fun _ z _ h0 => (by omega)⟩⟩ ?_
      clear S3
      rintro _ _ _ h6 ⟨c, x, rfl, hcl, rfl, S6, Tn⟩
      have hiS : i < (I.set i x).length := by simpa using hiI
      have hget : (I.set i x).getD i false = x := by rw [getD_set hiI, if_pos rfl]
      refine ifB_intro (fun hc => ?_) (fun hc => ?_)
      · have hcA : c < A.length := by rw [hlA] at hc; simpa using hc
        intro k3 hk3
        have fin : ∀ (h' : Heap) (y : Bool), y = (x || test l[i] A[c]) → Fw.Sep h h' [ownSl si_Lbool eBool t ((I.set i x).set i y)] → k3 () h' := fun h' y hy S' => hk3 _ _ fun _ => by
          rw [set_same, hy] at S'
          exact ar_i64 (by omega) (by have := hA.bound; omega) ⟨A.length - (c + 1), by omega, c + 1, _, rfl, by omega, rfl, S', turn_arg Tn hcA hv⟩
        refine ldI S6 hiS ?_
        rw [hget]
        refine ifB_intro (fun hx => stI S6 hiS fun h8 S8 => fin h8 true (by rw [hx]; rfl) S8) (fun hx => ?_)
        refine idx_rdN hA rfl hcA fun p2 _ hp2 => ?_
        refine ld_int (fld_argKind.rd hp2) S6.old.ext ?_
        refine ifB_intro (fun h5 => ?_) (fun h5 => stI S6 hiS fun h8 S8 => fin h8 false (by rw [hx]; simp only [test, h5]; rfl) S8)
        refine idx_rdN hA rfl hcA fun p3 _ hp3 => ?_
        refine ld_int (fld_argN.rd hp3) S6.old.ext ?_
        refine idx_rdN hs rfl hi fun p4 _ hp4 => ?_
        refine ld_int (fld_oId.rd hp4) S6.old.ext ?_
        exact stI S6 hiS fun h8 S8 => fin h8 _ (by rw [hx]; simp only [test, h5]; rfl) S8
      -- the others' fields
      have hcA : c = A.length := by rw [hlA] at hc; have : A.length ≤ c := by simpa using hc
                                    omega
      subst hcA
      refine loop_intro (fun m (q : Int) h' => ∃ (j : Nat) (x : Bool), q = j ∧ j ≤ l.length ∧ m = l.length - j ∧ Fw.Sep h h' [ownSl si_Lbool eBool t (I.set i x)] ∧ Turn l A I i hi A.length j x) l.length
        ⟨0, x, rfl, by omega, by omega, S6, Tn⟩ ?_
      clear S6 Tn hiS hget
      rintro _ _ _ h11 ⟨j, x1, rfl, hjl, rfl, S11, Tn⟩
      refine ifB_intro (fun hc => ?_) (fun hc => ?_)
      · have hj : j < l.length := by simpa using hc
        refine loop_intro (fun m (q : Int) h' => ∃ (c : Nat) (x : Bool), q = c ∧ c ≤ l[j].vals.length ∧ m = l[j].vals.length - c ∧ Fw.Sep h h' [ownSl si_Lbool eBool t (I.set i x)] ∧ Turn l A I i hi A.length j x ∧ (x = false → hits l[i] (l[j].vals.take c) = false)) l[j].vals.length
          ⟨0, x1, rfl, by omega, by omega, S11, Tn, fun _ => rfl⟩ ?_
        clear S11 Tn
        rintro _ _ _ h12 ⟨c, x, rfl, hcl, rfl, S12, Tn, hpart⟩
        have hiS : i < (I.set i x).length := by simpa using hiI
        have hjS : j < (I.set i x).length := by rw [List.length_set, Q.len]; exact hj
        have hget : (I.set i x).getD i false = x := by rw [getD_set hiI, if_pos rfl]
        intro k5 hk5
        have stop : (x = false → on I j → hits l[i] l[j].vals = false) → k5 false h12 := fun hh => hk5 _ _ fun _ => ifB_false rfl <|
          ar_i64 (by omega) (by omega) ⟨l.length - (j + 1), by omega, j + 1, x, rfl, by omega, rfl, S12, ⟨Tn.sound, Tn.args, fun hx z hz hlt ho => by
            by_cases e : z = j
            · subst e; exact hh hx ho
            · exact Tn.vals hx z hz (by omega) ho⟩⟩
        refine idx_rdN hs rfl hj fun p16 _ hp16 => ?_
        refine ld_lst (fld_oVals.rd hp16) S12.old.ext fun vs hvs => ?_
        have hlv := hvs.lenEq
        refine ifB_intro (fun hc => ?_) (fun hc => ?_)
        · have hcv : c < l[j].vals.length := by rw [hlv] at hc; simpa using hc
          refine ldI S12 hjS ?_
          cases hIj : (I.set i x).getD j false with
          | false =>
            refine stop fun hx ho => ?_
            rw [getD_set hiI] at hIj
            split at hIj
            · rename_i e; subst e; exact absurd ho hno
            · unfold on at ho; rw [hIj] at ho; cases ho
          | true =>
          have hjr : x = true ∨ Rch l A l[j] := by
            rw [getD_set hiI] at hIj
            split at hIj
            · exact .inl hIj
            · exact .inr (Q.sound j hj hIj)
          refine hk5 _ _ fun _ => ifB_true rfl ?_
          intro k6 hk6
          have fin : ∀ (h' : Heap) (y : Bool), y = (x || test l[i] l[j].vals[c]) → Fw.Sep h h' [ownSl si_Lbool eBool t ((I.set i x).set i y)] → k6 () h' := fun h' y hy S' => hk6 _ _ fun _ => by
            rw [set_same] at S'
            refine ar_i64 (by omega) (by have := hvs.bound; omega) ⟨l[j].vals.length - (c + 1), by omega, c + 1, y, rfl, by omega, rfl, S', ⟨fun hyt => ?_, fun hyf => ?_, fun hyf => ?_⟩, fun hyf => ?_⟩
            · rcases hjr with hx | hjr
              · exact Tn.sound hx
              · rw [hy] at hyt
                cases hxx : x with
                | true => exact Tn.sound hxx
                | false =>
                  rw [hxx] at hyt
                  simp only [Bool.false_or, test, Bool.and_eq_true, beq_iff_eq] at hyt
                  exact .step hjr (List.getElem_mem hi) hv (List.getElem_mem hcv) hyt.1 hyt.2
            · rw [hy, Bool.or_eq_false_iff] at hyf
              exact Tn.args hyf.1
            · rw [hy, Bool.or_eq_false_iff] at hyf
              exact Tn.vals hyf.1
            · rw [hy, Bool.or_eq_false_iff] at hyf
              rw [hits_take hcv, hpart hyf.1, hyf.2]; rfl
          refine ldI S12 hiS ?_
          rw [hget]
          refine ifB_intro (fun hx => stI S12 hiS fun h8 S8 => fin h8 true (by rw [hx]; rfl) S8) (fun hx => ?_)
          refine idx_rdN hs rfl hj fun p9 _ hp9 => ?_
          refine ld_lst (fld_oVals.rd hp9) S12.old.ext fun v2 hv2 => ?_
          refine idx_rdN hv2 rfl hcv fun p10 _ hp10 => ?_
          refine ld_int (fld_argKind.rd hp10) S12.old.ext ?_
          refine ifB_intro (fun h5 => ?_) (fun h5 => stI S12 hiS fun h8 S8 => fin h8 false (by rw [hx]; simp only [test, h5]; rfl) S8)
          refine idx_rdN hs rfl hj fun p11 _ hp11 => ?_
          refine ld_lst (fld_oVals.rd hp11) S12.old.ext fun v3 hv3 => ?_
          refine idx_rdN hv3 rfl hcv fun p12 _ hp12 => ?_
          refine ld_int (fld_argN.rd hp12) S12.old.ext ?_
          refine idx_rdN hs rfl hi fun p13 _ hp13 => ?_
          refine ld_int (fld_oId.rd hp13) S12.old.ext ?_
          exact stI S12 hiS fun h8 S8 => fin h8 _ (by rw [hx]; simp only [test, h5]; rfl) S8
        · have hcv : l[j].vals.length ≤ c := by rw [hlv] at hc; simpa using hc
          refine stop fun hx _ => ?_
          have := hpart hx
          rwa [List.take_of_length_le hcv] at this
      · have hjl : j = l.length := by have : l.length ≤ j := by simpa using hc
                                      omega
        subst hjl
        exact go h11 _ S11 (Q.turn hno Tn)
    · have hil : i = l.length := by have : l.length ≤ i := by simpa using hc
                                    omega
      subst hil
      exact ar_i64 (by omega) (by omega) ⟨l.length + 1 - (n + 1), by omega, n + 1, I, rfl, by omega, rfl, S3, R.next Q⟩
  · have hnl2 : n = l.length + 1 := by have : ¬ ((n : Int) ≤ l.length) := by simpa using hc
                                       omega
    subst hnl2
    refine loop_intro (fun m (q : Sl × Int) h' => ∃ i : Nat, q.2 = i ∧ i ≤ l.length ∧ m = l.length - i ∧ Fw.Sep h h' [ownSl si_Lint64 eInt q.1 (((l.take i).filter fun o => decide (Rch l A o)).map (·.id)), ownSl si_Lbool eBool t I0]) l.length
      ⟨0, rfl, by omega, by omega, S2.nil rfl⟩ ?_
    clear S2
    rintro _ _ ⟨out, i⟩ h18 ⟨i, hi0, hil, rfl, S18⟩
    simp only at hi0 S18 ⊢
    subst hi0
    refine ifB_intro (fun hc => ?_) (fun hc => ?_)
    · have hi : i < l.length := by simpa using hc
      have hiI : i < I0.length := by rw [R.len]; exact hi
      intro k hk
      have htake : ((l.take (i + 1)).filter fun o => decide (Rch l A o)).map (·.id) = ((l.take i).filter fun o => decide (Rch l A o)).map (·.id) ++ if Rch l A l[i] then [l[i].id] else [] := by
        rw [List.take_succ_eq_append_getElem hi, List.filter_append, List.map_append]
        congr 1
        by_cases e : Rch l A l[i] <;> simp [e]
      have hlen : (((l.take i).filter fun o => decide (Rch l A o)).map (·.id)).length ≤ 1000 := by
        rw [List.length_map]
        have := List.length_filter_le (fun o => decide (Rch l A o)) (l.take i)
        rw [List.length_take] at this
        omega
      refine ldI S18.swap hiI ?_
      refine ifB_intro (fun hx => ?_) (fun hx => ?_)
      · have hr := (R.fin i hi).1 hx
        refine idx_rdN hs rfl hi fun p21 _ hp21 => ?_
        refine ld_int (fld_oId.rd hp21) S18.old.ext ?_
        refine app1_flat (v := .int .i64 _) (x := l[i].id) S18 (own_int _) rfl (by decide) (by simp only [si_Lint64]; omega) (by omega) fun s' h' S' => ?_
        refine hk _ _ fun _ => ar_i64 (by omega) (by omega) ⟨l.length - (i + 1), by omega, i + 1, rfl, by omega, rfl, ?_⟩
        rw [htake, if_pos hr]
        exact S'
      · have hr : ¬ Rch l A l[i] := fun h => by
          have := (R.fin i hi).2 h
          unfold on at this
          rw [this] at hx
          cases hx
        refine hk _ _ fun _ => ar_i64 (by omega) (by omega) ⟨l.length - (i + 1), by omega, i + 1, rfl, by omega, rfl, ?_⟩
        rw [htake, if_neg hr, List.append_nil]
        exact S18
    · have hil : l.length ≤ i := by simpa using hc
      rw [List.take_of_length_le hil] at S18
      refine ⟨out, rfl, ?_⟩
      have : (l.filter fun o => decide (Rch l A o)).map (·.id) = reachF l A := by
        unfold reachF
        congr 1
      rw [this] at S18
      exact S18.swap.drop

end Go.Proofs.Ytncbpalncgcoaaa
