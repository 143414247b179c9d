/-
  LiveUses.
-/
import Derived.Test.YtojdbliehgejbaaFnAwake12
import Derived.Test.YtojdbliehgejbaaFwApi2
namespace Go.Proofs.Ytojdbliehgejbaa
open Go.Fw Go.Pl Go.Pl.Api Go.Pl.Set Go.Pl.Live

theorem argN_len (a : MArg) : (argN a).length ≤ 1 := by unfold argN; split <;> simp
theorem flat_len {α β : Type} {f : α → List β} {w : α → Nat} : ∀ {l : List α}, (∀ x ∈ l, (f x).length ≤ w x) → (l.flatMap f).length ≤ (l.map w).sum
  | [], _ => by simp
  | x :: l, h => by
    have := flat_len fun y hy => h y (List.mem_cons_of_mem _ hy)
    have h1 := h x (by simp)
    simp only [List.flatMap_cons, List.length_append, List.map_cons, List.sum_cons]
    omega
theorem sum_one {α : Type} : ∀ (l : List α), (l.map fun _ => 1).sum = l.length
  | [] => rfl
  | x :: l => by have := sum_one l; simp only [List.map_cons, List.sum_cons, List.length_cons]; omega
theorem args_len (l : List MArg) : (l.flatMap argN).length ≤ l.length := by
  have := flat_len (w := fun _ => 1) fun x (_ : x ∈ l) => argN_len x
  rwa [sum_one] at this
theorem usesN_len (x : MInstr) : (usesN x).length ≤ x.args.length + (x.stands.map fun t => t.vars.length).sum + (x.objs.map fun o => o.vals.length).sum := by
  unfold usesN
  have h1 := args_len x.args
  have h2 := flat_len (w := fun t : MStand => t.vars.length) (f := fun t => t.vars.flatMap fun b => argN b.a) (l := x.stands) fun t _ => by
    have := flat_len (w := fun _ => 1) (f := fun b : MBind => argN b.a) fun y (_ : y ∈ t.vars) => argN_len y.a
    rwa [sum_one] at this
  have h3 := flat_len (w := fun t : MVirt => t.vals.length) (f := fun t => t.vals.flatMap argN) (l := x.objs) fun t _ => args_len t.vals
  simp only [List.length_append]
  omega
theorem bL_of {α : Type} {p : α → Prop} {l : List α} (h : bL p l) : ∀ x ∈ l, p x := h.2
theorem maxLen_of {s : ByteArray} (h : bStr s) : s.size ≤ maxLen := by
  have : s.size ≤ 140737488355328 := h
  simp only [maxLen]
  omega
theorem argN_sz {a : MArg} (h : bArg a) : ∀ v ∈ argN a, v.size ≤ maxLen := fun v hv => by
  have := argN_mem.1 hv
  rw [← this.2]
  exact maxLen_of h.2.1
theorem usesN_sz {x : MInstr} (h : bInstr x) : ∀ v ∈ usesN x, v.size ≤ maxLen := fun v hv => by
  obtain ⟨_, _, _, ha, hs, ho, _⟩ := h
  rcases usesN_mem.1 hv with ⟨a, h1, h2⟩ | ⟨t, h1, b, h2, h3⟩ | ⟨o, h1, a, h2, h3⟩
  · exact argN_sz (bL_of ha a h1) v (argN_mem.2 h2)
  · exact argN_sz (bL_of (bL_of hs t h1).2.2.2.1 b h2).2.1 v (argN_mem.2 h3)
  · exact argN_sz (bL_of (bL_of ho o h1).2.1 a h2) v (argN_mem.2 h3)
theorem take_sum {α : Type} {w : α → Nat} {l : List α} {j : Nat} (hj : j < l.length) : ((l.take (j + 1)).map w).sum = ((l.take j).map w).sum + w l[j] := by
  rw [List.take_succ_eq_append_getElem hj, List.map_append, List.sum_append]
  simp

/-- The rising list of some names. -/
def setN (ns : List ByteArray) : MSet := ns.foldr (fun v M => aput v true M) []
theorem setN_is : ∀ ns : List ByteArray, IsSet (setN ns) (· ∈ ns)
  | [] => IsSet.nil.iff fun v => by simp
  | n :: ns => ((setN_is ns).put n).iff fun v => by simp
def upN (ns : List ByteArray) : List ByteArray := sortB ((setN ns).map Prod.fst)
theorem upN_is (ns : List ByteArray) : UpS (upN ns) (· ∈ ns) := isUp (setN_is ns)

def spU (_cs : Array Value) (l : List ByteArray) (n : Nat) (_args : List Value) : Fw.Spec := match n with
  | 9 => Spec.sl si_Lstring eStr l
  | 11 => Spec.sl si_Lstring eStr l
  | _ => Spec.val (.bool true)

set_option maxHeartbeats 1000000 in
theorem liveUses_calls {h : Heap} {ci : Array Value} {x : MInstr} (hx : rInstr.rv h ci.toList x) (hb : bInstr x) :
    ACalls Try.prog F_lateenlaw12_LiveUses [.agg ci] h (fun v h' => v = .bool true ∧ Old h h') := by
  refine lateenlaw12_LiveUses_of ?_
  unfold lateenlaw12_LiveUses
  refine new_rv hx fun p h1 o1 hp => ?_
  have aw : ACalls Try.prog F_lateenlaw12_awake [] h1 fun v h' => as1 .bool v fun r => Value.bool r = .bool true ∧ Old h h' := awake12_calls.mono fun v h' ⟨e, o⟩ => ⟨true, e, rfl, o1.trans o⟩
  have aw0 := aw
  intro k hk
  have yes : k true h1 := hk _ _ fun _ => ifB_true rfl aw
  refine ld_lst (fld_iArgs.rd hp) (hExt.refl _) fun la hla => ?_
  have hlal := hla.lenEq
  refine ifB_intro (fun _ => yes) (fun hc => ?_)
  have h100 : x.args.length ≤ 100 := by have := of_decide_eq_false hc; omega
  refine ld_lst (fld_iStands.rd hp) (hExt.refl _) fun ls hls => ?_
  have hlsl := hls.lenEq
  refine ifB_intro (fun _ => yes) (fun hc => ?_)
  have h50 : x.stands.length ≤ 50 := by have := of_decide_eq_false hc; omega
  refine ld_lst (fld_iObjs.rd hp) (hExt.refl _) fun lo hlo => ?_
  have hlol := hlo.lenEq
  have fin : k (decide ((lo.len : Int) > 50)) h1 := by
    by_cases hc : (lo.len : Int) > 50
    · rw [decide_eq_true hc]; exact yes
    rw [decide_eq_false hc]
    refine hk _ _ fun _ => ifB_false rfl ?_
    have h50' : x.objs.length ≤ 50 := by omega
    clear hk yes hlal hla hlsl hls hlol hlo
    refine loop_intro (fun m (q : Int × Int) h' => ∃ (j n : Nat), q.2 = j ∧ q.1 = n ∧ j ≤ x.stands.length ∧ m = x.stands.length - j ∧ h' = h1 ∧ n ≤ 1000 ∧ n = ((x.stands.take j).map fun t => t.vars.length).sum) x.stands.length
      ⟨0, 0, rfl, rfl, by omega, by omega, rfl, by omega, rfl⟩ ?_
    rintro _ _ ⟨_, _⟩ h2 ⟨j, n, hq, hn, hj, rfl, rfl, hn1, hns⟩
    simp only at hq hn ⊢
    subst hq hn
    intro k1 hk1
    refine ld_lst (fld_iStands.rd hp) (hExt.refl _) fun ls hls => ?_
    have hlsl := hls.lenEq
    have rest : (n > 500 ∨ x.stands.length ≤ j) → k1 false h2 := fun hor => hk1 _ _ fun _ => by
      refine ifB_false rfl ?_
      refine loop_intro (fun m (q : Int × Int) h' => ∃ (i n' : Nat), q.2 = i ∧ q.1 = n' ∧ i ≤ x.objs.length ∧ m = x.objs.length - i ∧ h' = h2 ∧ n' ≤ 1000 ∧ n' = n + ((x.objs.take i).map fun t => t.vals.length).sum) x.objs.length
        ⟨0, n, rfl, rfl, by omega, by omega, rfl, by omega, by simp⟩ ?_
      rintro _ _ ⟨_, _⟩ h3 ⟨i, n', hq, hn, hi, rfl, rfl, hn2, hns2⟩
      simp only at hq hn ⊢
      subst hq hn
      intro k2 hk2
      refine ld_lst (fld_iObjs.rd hp) (hExt.refl _) fun lo hlo => ?_
      have hlol := hlo.lenEq
      have done : (n' > 500 ∨ x.objs.length ≤ i) → k2 false h3 := fun hor2 => hk2 _ _ fun _ => by
        refine ifB_false rfl ?_
        intro k3 hk3
        have ok : k3 true h3 := hk3 _ _ fun _ => ⟨rfl, o1⟩
        have law : n' ≤ 500 → ∀ e : List As, ldF (.agg 6) (Old h3) p fun (x_9 : Array Value) => freeW (Old h3) h3 (spU #[] (upN (usesN x)) 9 [.agg x_9, .bool true]) [] (fun h_17 Kv_2 =>
             ACalls Try.prog F_live_Uses [.agg x_9] h_17 fun v_7 h_18 => as1 .sl v_7 fun r_7 => Kv_2 r_7.v h_18) fun v_8 => as1 .sl v_8 fun r_8 =>
           ldF (.agg 6) (Old h3) p fun (x_10 : Array Value) => freeW (Old h3) h3 (spU #[] (upN (usesN x)) 11 [.agg x_10, .bool true]) [] (fun h_19 Kv_3 =>
             ACalls Try.prog F_lateenref12_Uses [.agg x_10] h_19 fun v_9 h_20 => as1 .sl v_9 fun r_9 => Kv_3 r_9.v h_20) fun v_10 => as1 .sl v_10 fun r_10 =>
           freeW (Old h3) h3 (spU #[] (upN (usesN x)) 12 [r_8.v, r_10.v, .bool true]) ((spU #[] (upN (usesN x)) 9 [.agg x_9, .bool true]).A v_8 ++ ((spU #[] (upN (usesN x)) 11 [.agg x_10, .bool true]).A v_10 ++ [])) (fun h_21 Kv_4 =>
              ACalls Try.prog F_lateenref12_Same [r_8.v, r_10.v] h_21 fun v_11 h_22 => as1 .bool v_11 fun r_11 => Kv_4 (.bool r_11) h_22) fun v_12 => as1 .bool v_12 fun r_12 =>
           endF (Old h3) h3 e fun h_23 => k3 r_12 h_23 := fun h500 e => by
          have hz : Sz (usesN x) := by
            refine ⟨?_, usesN_sz hb⟩
            have h1 := usesN_len x
            have hj : x.stands.length ≤ j := by omega
            have hi : x.objs.length ≤ i := by omega
            rw [List.take_of_length_le hj] at hns
            rw [List.take_of_length_le hi] at hns2
            omega
          have hU : ∀ {l : List ByteArray}, UpS l (usesV x) → l = upN (usesN x) := fun hl => hl.unique (upN_is _) fun v => usesN_mem.symm
          refine ldF_old (ld_agg hp (hExt.refl _) rfl fun c9 hc9 => ?_)
          refine fcN (fun h' X o _ => (uses_calls (rInstr.ext hc9 o.ext) hz).mono fun v h'' ⟨s, l, e, hl, S⟩ => ⟨s, e, hU hl ▸ S⟩) fun r8 => ⟨r8, rfl, ?_⟩
          refine ldF_old (ld_agg hp (hExt.refl _) rfl fun c10 hc10 => ?_)
          refine fcN (fun h' X o _ => (refUses_calls (rInstr.ext hc10 o.ext) hz).mono fun v h'' ⟨s, l, e, hl, S⟩ => ⟨s, e, hU hl ▸ S⟩) fun r10 => ⟨r10, rfl, ?_⟩
          refine fcV (k := .bool) (x := true) (g := Value.bool) (fun y => rfl) (fun h' X o S => ?_) ⟨true, rfl, fun h' o _ => hk3 _ _ fun _ => ⟨rfl, o1.trans o⟩⟩
          have S : Fw.Sep h3 h' (ownV si_Lstring eStr (upN (usesN x)) r8.v :: ownV si_Lstring eStr (upN (usesN x)) r10.v :: X) := S
          refine (same_calls (Fw.Sep.ofV S).rd (Fw.Sep.ofV S.swap).rd).mono ?_
          rintro v h'' ⟨rfl, rfl⟩
          exact ⟨by rw [decide_eq_true rfl]; rfl, .refl _⟩
        refine ⟨Old h3, h3, [], spU #[] (upN (usesN x)), .refl _, Fw.Sep.start h3, ?_⟩
        refine ifB_intro (fun hc => ?_) (fun hc => ?_)
        · refine fcV (k := .bool) (x := true) (g := Value.bool) (fun y => rfl) (fun h' X o S => awake12_calls) ⟨true, rfl, ifB_true rfl fun h' o _ => hk3 _ _ fun _ => ⟨rfl, o1.trans o⟩⟩
        · have h500 : n' ≤ 500 := by have := of_decide_eq_false hc; omega
          refine fcV (k := .bool) (x := true) (g := Value.bool) (fun y => rfl) (fun h' X o S => awake12_calls) ⟨true, rfl, ifB_true rfl ?_⟩
          exact law h500 _
      refine ifB_intro (fun hc => ?_) (fun hc => ?_)
      · have hil : i < x.objs.length := by rw [hlol] at hc; simpa using hc
        by_cases h500 : n' ≤ 500
        · rw [decide_eq_true (by omega)]
          refine hk2 _ _ fun _ => ifB_true rfl ?_
          refine ld_lst (fld_iObjs.rd hp) (hExt.refl _) fun lo hlo => ?_
          refine idx_rdN hlo rfl hil fun p3 _ hp3 => ?_
          refine ld_lst (fld_virtVals.rd hp3) (hExt.refl _) fun lv hlv => ?_
          have hlvl := hlv.lenEq
          refine ifB_intro (fun _ => aw0) (fun hc => ?_)
          have hv : x.objs[i].vals.length ≤ 500 := by have := of_decide_eq_false hc; omega
          refine ld_lst (fld_iObjs.rd hp) (hExt.refl _) fun lo2 hlo2 => ?_
          refine idx_rdN hlo2 rfl hil fun p4 _ hp4 => ?_
          refine ld_lst (fld_virtVals.rd hp4) (hExt.refl _) fun lv2 hlv2 => ?_
          have hlvl2 := hlv2.lenEq
          refine ar_i64 (by omega) (by omega) (ar_i64 (by omega) (by omega) ⟨x.objs.length - (i + 1), by omega, i + 1, n' + x.objs[i].vals.length, rfl, by simp only [hlvl2]; omega, by omega, rfl, rfl, by omega, ?_⟩)
          rw [take_sum hil]; omega
        · rw [decide_eq_false (by omega)]
          exact done (.inl (by omega))
      · exact done (.inr (by rw [hlol] at hc; simpa using hc))
    refine ifB_intro (fun hc => ?_) (fun hc => ?_)
    · have hil : j < x.stands.length := by rw [hlsl] at hc; simpa using hc
      by_cases h500 : n ≤ 500
      · rw [decide_eq_true (by omega)]
        refine hk1 _ _ fun _ => ifB_true rfl ?_
        refine ld_lst (fld_iStands.rd hp) (hExt.refl _) fun lo hlo => ?_
        refine idx_rdN hlo rfl hil fun p3 _ hp3 => ?_
        refine ld_lst (fld_stVars.rd hp3) (hExt.refl _) fun lv hlv => ?_
        have hlvl := hlv.lenEq
        refine ifB_intro (fun _ => aw0) (fun hc => ?_)
        have hv : x.stands[j].vars.length ≤ 500 := by have := of_decide_eq_false hc; omega
        refine ld_lst (fld_iStands.rd hp) (hExt.refl _) fun lo2 hlo2 => ?_
        refine idx_rdN hlo2 rfl hil fun p4 _ hp4 => ?_
        refine ld_lst (fld_stVars.rd hp4) (hExt.refl _) fun lv2 hlv2 => ?_
        have hlvl2 := hlv2.lenEq
        refine ar_i64 (by omega) (by omega) (ar_i64 (by omega) (by omega) ⟨x.stands.length - (j + 1), by omega, j + 1, n + x.stands[j].vars.length, rfl, by simp only [hlvl2]; omega, by omega, rfl, rfl, by omega, ?_⟩)
        rw [take_sum hil]; omega
      · rw [decide_eq_false (by omega)]
        exact rest (.inl (by omega))
    · exact rest (.inr (by rw [hlsl] at hc; simpa using hc))
  exact fin

end Go.Proofs.Ytojdbliehgejbaa
