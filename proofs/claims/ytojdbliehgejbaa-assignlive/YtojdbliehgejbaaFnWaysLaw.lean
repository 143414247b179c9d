/-
  LiveWays.
-/
import Derived.Test.YtojdbliehgejbaaFnUsesLaw
import Derived.Test.YtojdbliehgejbaaFnFunc
import Derived.Test.YtojdbliehgejbaaFnFew
namespace Go.Proofs.Ytojdbliehgejbaa
open Go.Fw Go.Pl Go.Pl.Api Go.Pl.Set Go.Pl.Live

theorem sum_le {α : Type} {f g : α → Nat} : ∀ {l : List α}, (∀ x ∈ l, f x ≤ g x) → (l.map f).sum ≤ (l.map g).sum
  | [], _ => by simp
  | x :: l, h => by
    have := sum_le fun y hy => h y (List.mem_cons_of_mem _ hy)
    have h1 := h x (by simp)
    simp only [List.map_cons, List.sum_cons]
    omega
theorem usesN_cnt (x : MInstr) : (usesN x).length ≤ cInstr x := by
  have h := usesN_len x
  have h1 : (x.stands.map fun t => t.vars.length).sum ≤ (x.stands.map cStand).sum := by
    refine sum_le fun t _ => ?_
    have : (t.vars.map fun _ => 1).sum ≤ (t.vars.map cBind).sum := sum_le fun b _ => by unfold cBind; omega
    rw [sum_one] at this
    unfold cStand
    omega
  have h2 : (x.objs.map fun t => t.vals.length).sum ≤ (x.objs.map cVirt).sum := sum_le fun t _ => by unfold cVirt cArgs; omega
  unfold cInstr cArgs
  omega
theorem namesN_cnt (f : MFunc) : (namesN f).length ≤ cFunc f := by
  have h := flat_len (w := cBlock) (l := f.blocks) (f := fun b => (b.phis.flatMap fun p => p.ins.flatMap fun i => argN i.a) ++ b.code.flatMap usesN ++ argN b.term.a) fun b _ => by
    have h1 := flat_len (w := cPhi) (l := b.phis) (f := fun p => p.ins.flatMap fun i => argN i.a) fun p _ => by
      have := flat_len (w := cIn) (l := p.ins) (f := fun i => argN i.a) fun i _ => by have := argN_len i.a; unfold cIn; omega
      unfold cPhi
      omega
    have h2 := flat_len (w := cInstr) (l := b.code) (f := usesN) fun x _ => usesN_cnt x
    have h3 := argN_len b.term.a
    simp only [List.length_append]
    unfold cBlock
    omega
  unfold namesN cFunc
  omega
theorem namesN_sz {f : MFunc} (h : bFunc f) : ∀ v ∈ namesN f, v.size ≤ maxLen := fun v hv => by
  obtain ⟨_, _, _, _, hbl, _⟩ := h
  obtain ⟨b, hb, hv⟩ := List.mem_flatMap.1 hv
  obtain ⟨_, hp, hc, ht, _⟩ := bL_of hbl b hb
  rcases List.mem_append.1 hv with hv | hv
  · rcases List.mem_append.1 hv with hv | hv
    · obtain ⟨p, hp1, hv⟩ := List.mem_flatMap.1 hv
      obtain ⟨i, hi, hv⟩ := List.mem_flatMap.1 hv
      exact argN_sz (bL_of (bL_of hp p hp1).2.1 i hi).2.1 v hv
    · obtain ⟨x, hx, hv⟩ := List.mem_flatMap.1 hv
      exact usesN_sz (bL_of hc x hx) v hv
  · exact argN_sz ht.2.1 v hv

/-- A little function whose shape is right. -/
structure Few12 (f : MFunc) : Prop where
  right : RightP f
  few : FewF f
  n30 : f.blocks.length ≤ 30
  cnt : cFunc f ≤ 3000
theorem Few12.sz {f : MFunc} (h : Few12 f) (hb : bFunc f) : Sz (namesN f) := ⟨Nat.le_trans (namesN_cnt f) (Nat.le_trans h.cnt (by omega)), namesN_sz hb⟩

theorem few12_calls {h : Heap} {cs : Array Value} {f : MFunc} (hf : rFunc.rv h cs.toList f) (hb : bFunc f) :
    ACalls Try.prog F_lateenlaw12_few [.agg cs] h (fun v h' => ∃ b, v = .bool b ∧ Old h h' ∧ (b = true → Few12 f)) := by
  refine lateenlaw12_few_of ?_
  unfold lateenlaw12_few
  refine new_rv hf fun p h1 o1 hp => ?_
  intro k hk
  have fin : ∀ b h', Old h1 h' → (b = true → Few12 f) → k b h' := fun b h' o hF => hk _ _ fun _ => ⟨b, rfl, o1.trans o, hF⟩
  refine ld_agg hp (hExt.refl _) rfl fun c1 hc1 => ?_
  refine (fewFunc_calls hc1 hb (most := 3000) (by omega)).mono ?_
  rintro v h2 ⟨n, rfl, o2, hn⟩
  refine ⟨n, rfl, ifB_intro (fun hc => ?_) (fun hc => fin _ _ o2 (fun h => by cases h))⟩
  have hcnt : cFunc f ≤ 3000 := by
    have h1 : n ≤ (3000 : Int) := of_decide_eq_true hc
    have h2 : n = (cFunc f : Int) := hn.2.2 h1
    omega
  refine ld_agg hp o2.ext rfl fun c2 hc2 => ?_
  refine (refFew_calls (rFunc.ext hc2 o2.ext)).mono ?_
  rintro v h3 ⟨b, rfl, o3, hF⟩
  refine ⟨b, rfl, ifB_intro (fun hc => ?_) (fun hc => fin _ _ (o2.trans o3) (fun h => by cases h))⟩
  have hF := hF hc
  have o3 := o2.trans o3
  refine ld_lst (fld_blocks.rd hp) o3.ext fun lb hlb => ?_
  have hlbl := hlb.lenEq
  refine ifB_intro (fun hc => ?_) (fun hc => fin _ _ o3 (fun h => by cases h))
  have h30 : f.blocks.length ≤ 30 := by have := of_decide_eq_true hc; omega
  refine ld_agg hp o3.ext rfl fun c3 hc3 => ?_
  refine (refRight_calls (rFunc.ext hc3 o3.ext) (by omega)).mono ?_
  rintro v h4 ⟨rfl, o4⟩
  exact ⟨_, rfl, fin _ _ (o3.trans o4) fun h => ⟨rightB_iff.1 h, hF, h30, hcnt⟩⟩

theorem at_zero {f : MFunc} {i : Nat} {v : ByteArray} : atV f i 0 v ↔ liveIns f i v := by
  rw [live_fix]
  unfold atV stepV
  simp only [List.drop_zero]
theorem at_next {f : MFunc} {i k : Nat} {b : MBlock} (hb : f.blocks[i]? = some b) (hk : k < b.code.length) {v : ByteArray} : atV f i k v ↔ usesV b.code[k] v ∨ (atV f i (k + 1) v ∧ (v = nm0 ∨ v ≠ b.code[k].dst)) := by
  have h1 : ∀ z, (atV f i k v ↔ z) ↔ (backV (b.code.drop k) (endV f (liveIns f) b) v ↔ z) := fun z => by
    have : atV f i k v ↔ backV (b.code.drop k) (endV f (liveIns f) b) v := ⟨fun ⟨c, hc, h⟩ => by rw [hb] at hc; injection hc with hc; subst hc; exact h, fun h => ⟨b, hb, h⟩⟩
    rw [this]
  have h2 : atV f i (k + 1) v ↔ backV (b.code.drop (k + 1)) (endV f (liveIns f) b) v := ⟨fun ⟨c, hc, h⟩ => by rw [hb] at hc; injection hc with hc; subst hc; exact h, fun h => ⟨b, hb, h⟩⟩
  rw [h1, List.drop_eq_getElem_cons hk, h2]
  show overV _ _ _ ↔ _
  unfold overV
  refine or_congr Iff.rfl (and_congr Iff.rfl ?_)
  by_cases e : v = b.code[k].dst
  · rw [← e]
  · simp [e]
theorem at_end {f : MFunc} {i : Nat} {b : MBlock} (hb : f.blocks[i]? = some b) {v : ByteArray} : atV f i b.code.length v ↔ endV f (liveIns f) b v := by
  unfold atV
  constructor
  · rintro ⟨c, hc, h⟩
    rw [hb] at hc
    injection hc with hc
    subst hc
    rw [List.drop_length] at h
    exact h
  · intro h
    exact ⟨b, hb, by rw [List.drop_length]; exact h⟩


theorem mem_sum {α : Type} {f : α → Nat} : ∀ {l : List α} {x : α}, x ∈ l → f x ≤ (l.map f).sum
  | y :: l, x, h => by
    simp only [List.map_cons, List.sum_cons]
    rcases List.mem_cons.1 h with rfl | h
    · omega
    · have := mem_sum (f := f) h
      omega
theorem Few12.instr {f : MFunc} (F : Few12 f) (hb : bFunc f) {B : MBlock} (hB : B ∈ f.blocks) {x : MInstr} (hx : x ∈ B.code) : Sz (usesN x) := by
  refine ⟨?_, fun v hv => (F.sz hb).sz v (List.mem_flatMap.2 ⟨B, hB, List.mem_append.2 (.inl (List.mem_append.2 (.inr (List.mem_flatMap.2 ⟨_, hx, hv⟩))))⟩)⟩
  have h1 := usesN_cnt x
  have h2 : cInstr x ≤ (B.code.map cInstr).sum := mem_sum hx
  have h3 : cBlock B ≤ (f.blocks.map cBlock).sum := mem_sum hB
  have h4 := F.cnt
  have h5 : (B.code.map cInstr).sum ≤ cBlock B := by unfold cBlock; exact Nat.le_add_left _ _
  have h6 : (f.blocks.map cBlock).sum ≤ cFunc f := by unfold cFunc; exact Nat.le_add_left _ _
  omega

set_option maxHeartbeats 2000000 in
theorem liveWays_calls {h : Heap} {cs : Array Value} {f : MFunc} (hf : rFunc.rv h cs.toList f) (hb : bFunc f) :
    ACalls Try.prog F_lateenlaw12_LiveWays [.agg cs] h (fun v h' => v = .bool true ∧ Old h h') := by
  refine lateenlaw12_LiveWays_of ?_
  unfold lateenlaw12_LiveWays
  refine new_rv hf fun p h1 o1 hp => ?_
  intro k hk
  refine awake12_calls.mono ?_
  rintro v h2 ⟨rfl, o2⟩
  refine ⟨true, rfl, ifB_false rfl ?_⟩
  refine ld_agg hp o2.ext rfl fun c1 hc1 => ?_
  refine (few12_calls (rFunc.ext hc1 o2.ext) hb).mono ?_
  rintro v h3 ⟨b, rfl, o3, hF⟩
  refine ⟨b, rfl, hk _ _ fun _ => ?_⟩
  clear hk k
  have o3 := o2.trans o3
  cases b with
  | false =>
    refine ifB_true rfl ?_
    refine awake12_calls.mono ?_
    rintro v h4 ⟨rfl, o4⟩
    exact ⟨true, rfl, rfl, o1.trans (o3.trans o4)⟩
  | true =>
  have F := hF rfl
  have hz := F.sz hb
  have hn30 := F.n30
  have hbl : f.blocks.length ≤ 1000000 := by omega
  refine ifB_false rfl ?_
  refine ld_agg hp o3.ext rfl fun c2 hc2 => ?_
  refine (ins_calls (rFunc.ext hc2 o3.ext) hbl hz).mono ?_
  rintro v h4 ⟨r, ll, rfl, hll, hul, S4⟩
  refine ⟨r, rfl, ?_⟩
  have o4 := o3.trans S4.old
  have hins := S4.rd
  clear S4 hF hc1 hc2 o2 o3
  refine loop_intro (fun m (q : Int) h' => ∃ i : Nat, q = i ∧ i ≤ f.blocks.length ∧ m = f.blocks.length - i ∧ Old h4 h') f.blocks.length ⟨0, rfl, by omega, by omega, .refl _⟩ ?_
  rintro _ _ _ h5 ⟨i, rfl, hi, rfl, o5⟩
  have o15 := o4.trans o5
  refine ld_lst (fld_blocks.rd hp) o15.ext fun lb hlb => ?_
  have hlbl := hlb.lenEq
  refine ifB_intro (fun hc => ?_) (fun hc => ⟨rfl, o1.trans o15⟩)
  have hil : i < f.blocks.length := by rw [hlbl] at hc; simpa using hc
  clear hc hlb hlbl lb
  refine ld_lst (fld_blocks.rd hp) o15.ext fun lb hlb => ?_
  refine idx_rdN hlb rfl hil fun p1 _ hp1 => ld_agg hp1 o15.ext rfl fun c3 hc3 => ?_
  refine new_st (rBlock.ext hc3 o15.ext) rfl rfl fun p2 h7 o7 hp2 => ?_
  have hB : f.blocks[i]? = some f.blocks[i] := List.getElem?_eq_getElem hil
  have hends := F.right.ends i hil
  generalize f.blocks[i] = B at hp2 hB hends
  clear hc3 hp1 hlb
  have o57 := o5.trans o7
  have o17 := o4.trans o57
  refine idx_rdN hins rfl (by omega) fun p3 _ hp3 => ?_
  refine ld_slB hp3 o57 fun x4 hx4 => ?_
  refine ld_agg hp o17.ext rfl fun c4 hc4 => ?_
  refine (at_calls (i := i) (k := 0) (rFunc.ext hc4 o17.ext) hbl hz hil (by omega)).mono ?_
  rintro v h8 ⟨r2, l2, rfl, hl2, S8⟩
  refine ⟨r2, rfl, S8.old.ext, ?_⟩
  refine (same_calls (hx4.old (o57.trans S8.old)) S8.rd).mono ?_
  rintro v h9 ⟨rfl, rfl⟩
  have e0 : ll[i]'(by omega) = l2 := (hul i (by omega)).unique hl2 fun v => at_zero.symm
  refine ⟨_, rfl, hExt.refl _, ?_⟩
  rw [decide_eq_true e0]
  refine ifB_false rfl ?_
  have o79 := S8.old
  clear S8 hl2 e0 hx4 hp3 hc4
  refine loop_intro (fun m (q : Int) h' => ∃ j : Nat, q = j ∧ j ≤ B.code.length ∧ m = B.code.length - j ∧ Old h7 h') B.code.length ⟨0, rfl, by omega, by omega, o79⟩ ?_
  rintro _ _ _ h10 ⟨j, rfl, hj, rfl, o10⟩
  have o1_10 := o17.trans o10
  refine ld_lst (fld_code.rd hp2) o10.ext fun lc hlc => ?_
  have hlcl := hlc.lenEq
  refine ifB_intro (fun hc => ?_) (fun hc => ?_)
  · have hjl : j < B.code.length := by rw [hlcl] at hc; simpa using hc
    have hlcb := hlc.bound
    clear hc hlc hlcl lc
    refine ld_lst (fld_code.rd hp2) o10.ext fun lc hlc => ?_
    refine idx_rdN hlc rfl hjl fun p4 _ hp4 => ld_agg hp4 o10.ext rfl fun c5 hc5 => ?_
    have hxz : Sz (usesN B.code[j]) := F.instr hb (List.mem_of_getElem? hB) (List.getElem_mem hjl)
    refine (uses_calls (rInstr.ext hc5 o10.ext) hxz).mono ?_
    rintro v h11 ⟨r4, l4, rfl, hl4, S11⟩
    refine ⟨r4, rfl, ?_⟩
    have o1_11 := o1_10.trans S11.old
    refine ld_agg hp o1_11.ext rfl fun c6 hc6 => ?_
    refine ar_i64 (by omega) (by omega) ?_
    have hjB : ∀ {k : Nat}, k ≤ B.code.length → k ≤ (f.blocks[i]'hil).code.length := fun {k} hk => by
      have : f.blocks[i]'hil = B := by rw [List.getElem?_eq_getElem hil] at hB; injection hB
      rw [this]; exact hk
    refine (at_calls (i := i) (k := j + 1) (rFunc.ext hc6 o1_11.ext) hbl hz hil (hjB (by omega))).mono ?_
    rintro v h12 ⟨r5, l5, rfl, hl5, S12⟩
    refine ⟨r5, rfl, ?_⟩
    have hr5 := S12.rd
    have hr4 := S11.rd.old S12.old
    have o1_12 := o1_11.trans S12.old
    have o7_12 := o10.trans (S11.old.trans S12.old)
    have hr5l := hr5.lenEq
    have hr5b := hr5.bound
    clear S11 S12 hc5 hc6 hlc hp4
    refine loop_intro (fun m (q : Sl × Int) h' => ∃ (n : Nat) (lw : List ByteArray), q.2 = n ∧ n ≤ l5.length ∧ m = l5.length - n ∧ Old h12 h' ∧ rdSl eStr h' q.1 lw ∧ UpS lw (fun v => usesV B.code[j] v ∨ (v ∈ l5.take n ∧ (v = nm0 ∨ v ≠ B.code[j].dst)))) l5.length
      ⟨0, l4, rfl, by omega, by omega, .refl _, hr4, hl4.iff fun v => by simp⟩ ?_
    rintro _ _ ⟨w, _⟩ h13 ⟨n, lw, hq, hn, rfl, o13, hw, hlw⟩
    simp only at hq hw ⊢
    subst hq
    have o7_13 := o7_12.trans o13
    refine ifB_intro (fun hc => ?_) (fun hc => ?_)
    · have hnl : n < l5.length := by rw [hr5l] at hc; simpa using hc
      have htake : ∀ v, v ∈ l5.take (n + 1) ↔ v = l5[n] ∨ v ∈ l5.take n := fun v => by
        rw [List.take_succ_eq_append_getElem hnl, List.mem_append, List.mem_singleton]
        exact or_comm
      intro k2 hk2
      have next : ∀ w' h' lw', Old h13 h' → rdSl eStr h' w' lw' → UpS lw' (fun v => usesV B.code[j] v ∨ (v ∈ l5.take (n + 1) ∧ (v = nm0 ∨ v ≠ B.code[j].dst))) → k2 w' h' := fun w' h' lw' o' hw' hl' => hk2 _ _ fun _ =>
        ar_i64 (by omega) (by omega) ⟨l5.length - (n + 1), by omega, n + 1, lw', rfl, by omega, rfl, o13.trans o', hw', hl'⟩
      intro k3 hk3
      have put : (l5[n] = nm0 ∨ l5[n] ≠ B.code[j].dst) → k3 true h13 := fun hor => hk3 _ _ fun _ => by
        refine ifB_true rfl ?_
        refine idx_rdN (hr5.old o13) rfl hnl fun p5 _ hp5 => ld_eStr hp5 (hExt.refl _) ?_
        have hlen : lw.length ≤ 2000000 := by
          have := hlw.len (ns := namesN f) fun v hv => by
            rcases hv with hv | ⟨hv, _⟩
            · exact List.mem_flatMap.2 ⟨B, List.mem_of_getElem? hB, List.mem_append.2 (.inl (List.mem_append.2 (.inr (List.mem_flatMap.2 ⟨_, List.getElem_mem hjl, usesN_mem.2 hv⟩))))⟩
            · exact atV_names ((hl5.mem v).1 (List.mem_of_mem_take hv))
          have := hz.n
          omega
        refine (put_calls hw hlen l5[n]).mono ?_
        rintro v h16 ⟨r6, rfl, S16⟩
        refine ⟨r6, rfl, next r6 h16 _ S16.old S16.rd ((putF_up hlw l5[n]).iff fun v => ?_)⟩
        rw [htake]
        constructor
        · rintro (rfl | h | ⟨h, h'⟩)
          · exact .inr ⟨.inl rfl, hor⟩
          · exact .inl h
          · exact .inr ⟨.inr h, h'⟩
        · rintro (h | ⟨rfl | h, h'⟩)
          · exact .inr (.inl h)
          · exact .inl rfl
          · exact .inr (.inr ⟨h, h'⟩)
      have skip : ¬ (l5[n] = nm0 ∨ l5[n] ≠ B.code[j].dst) → k3 false h13 := fun hor => hk3 _ _ fun _ => by
        refine ifB_false rfl (next w h13 lw (.refl _) hw (hlw.iff fun v => ?_))
        rw [htake]
        constructor
        · rintro (h | ⟨h, h'⟩)
          · exact .inl h
          · exact .inr ⟨.inr h, h'⟩
        · rintro (h | ⟨rfl | h, h'⟩)
          · exact .inl h
          · exact absurd h' hor
          · exact .inr ⟨h, h'⟩
      refine idx_rdN (hr5.old o13) rfl hnl fun p6 _ hp6 => ld_eStr hp6 (hExt.refl _) ?_
      rw [toList_beq]
      by_cases e0 : l5[n] = nm0
      · exact ifB_true (decide_eq_true e0) (put (.inl e0))
      · refine ifB_false (decide_eq_false e0) ?_
        refine idx_rdN (hr5.old o13) rfl hnl fun p7 _ hp7 => ld_eStr hp7 (hExt.refl _) ?_
        refine ld_lst (fld_code.rd hp2) o7_13.ext fun lc hlc => ?_
        refine idx_rdN hlc rfl hjl fun p8 _ hp8 => ?_
        refine ld_str (fld_iDst.rd hp8) o7_13.ext ?_
        rw [toList_beq]
        by_cases e1 : l5[n] = B.code[j].dst
        · rw [decide_eq_true e1]
          exact skip fun h => h.elim e0 fun h => h e1
        · rw [decide_eq_false e1]
          exact put (.inr e1)
    · have hnl : l5.length ≤ n := by rw [hr5l] at hc; simpa using hc
      rw [List.take_of_length_le hnl] at hlw
      have o1_13 := o1_12.trans o13
      refine ld_agg hp o1_13.ext rfl fun c7 hc7 => ?_
      refine (at_calls (i := i) (k := j) (rFunc.ext hc7 o1_13.ext) hbl hz hil (hjB (by omega))).mono ?_
      rintro v h17 ⟨r7, l7, rfl, hl7, S17⟩
      refine ⟨r7, rfl, ?_⟩
      refine (same_calls S17.rd (hw.old S17.old)).mono ?_
      rintro v h18 ⟨rfl, rfl⟩
      have e0 : l7 = lw := hl7.unique hlw fun v => by rw [at_next hB hjl, hl5.mem]
      refine ⟨_, rfl, ?_⟩
      rw [decide_eq_true e0]
      refine ifB_false rfl (ar_i64 (by omega) (by omega) ⟨B.code.length - (j + 1), by omega, j + 1, rfl, by omega, rfl, o7_13.trans S17.old⟩)
  · clear hc hlc hlcl lc hj j
    have hjB : B.code.length ≤ (f.blocks[i]'hil).code.length := by
      have : f.blocks[i]'hil = B := by rw [List.getElem?_eq_getElem hil] at hB; injection hB
      rw [this]; exact Nat.le_refl _
    refine ld_agg hp o1_10.ext rfl fun c8 hc8 => ?_
    refine ld_lst (fld_code.rd hp2) o10.ext fun lc hlc => ?_
    rw [hlc.lenEq]
    refine (at_calls (i := i) (k := B.code.length) (rFunc.ext hc8 o1_10.ext) hbl hz hil hjB).mono ?_
    rintro v h19 ⟨r9, l9, rfl, hl9, S19⟩
    refine ⟨r9, rfl, ?_⟩
    have hr9 := S19.rd
    have o7_19 := o10.trans S19.old
    clear S19 hc8 hlc lc
    refine loop_intro (fun m (q : Int) h' => ∃ j : Nat, q = j ∧ j ≤ B.term.to.length ∧ m = B.term.to.length - j ∧ Old h19 h') B.term.to.length ⟨0, rfl, by omega, by omega, .refl _⟩ ?_
    rintro _ _ _ h20 ⟨j, rfl, hj, rfl, o20⟩
    have o7_20 := o7_19.trans o20
    have o1_20 := o17.trans o7_20
    have hto : (rStr.sl).el.rd h7 ((p2.add 3).add 4) B.term.to := el_two hp2.1 (Fld.trans fld_term fld_to rfl |>.rd hp2)
    refine ld_lst hto o7_20.ext fun lt hlt => ?_
    have hltl := hlt.lenEq
    have hltb := hlt.bound
    refine ifB_intro (fun hc => ?_) (fun hc => ?_)
    · have hjl : j < B.term.to.length := by rw [hltl] at hc; simpa using hc
      refine ld_agg hp o1_20.ext rfl fun c9 hc9 => ?_
      refine ld_lst hto o7_20.ext fun lt2 hlt2 => ?_
      refine idx_rdN hlt2 rfl hjl fun p9 _ hp9 => ld_str hp9 o7_20.ext ?_
      refine (refPlace_calls (rFunc.ext hc9 o1_20.ext) B.term.to[j]).mono ?_
      rintro v h21 ⟨rfl, o21⟩
      obtain ⟨z, hz1, _⟩ := hends.1 _ (List.getElem_mem hjl)
      have hzl := place_lt hz1
      have hzll : z < ll.length := by omega
      unfold placeV
      rw [hz1]
      refine ⟨_, _, rfl, o21.ext, ?_⟩
      have o7_21 := o7_20.trans o21
      have o4_21 := o57.trans o7_21
      have o1_21 := o1_20.trans o21
      have hins' := hins.old o4_21
      have hC : f.blocks[z]? = some f.blocks[z] := List.getElem?_eq_getElem hzl
      refine loop_intro (fun m (q : Int) h' => ∃ n : Nat, q = n ∧ n ≤ ll[z].length ∧ m = ll[z].length - n ∧ h' = h21) ll[z].length ⟨0, rfl, by omega, by omega, rfl⟩ ?_
      rintro _ _ _ h22 ⟨n, rfl, hn, rfl, rfl⟩
      refine idx_rdN hins' rfl hzll fun p10 _ hp10 => ld_slB hp10 (.refl _) fun x22 hx22 => ?_
      have hx22l := hx22.lenEq
      have hx22b := hx22.bound
      refine ifB_intro (fun hc => ?_) (fun hc => ?_)
      · have hnl : n < ll[z].length := by rw [hx22l] at hc; simpa using hc
        have hlive : liveIns f z ll[z][n] := ((hul z hzll).mem _).1 (List.getElem_mem hnl)
        refine loop_intro (fun m (q : Bool × Int) h' => ∃ t : Nat, q.2 = t ∧ t ≤ f.blocks[z].phis.length ∧ m = f.blocks[z].phis.length - t ∧ h' = h22 ∧ (q.1 = true ↔ ∃ φ ∈ f.blocks[z].phis.take t, φ.dst = ll[z][n])) f.blocks[z].phis.length
          ⟨0, rfl, by omega, by omega, rfl, by simp⟩ ?_
        rintro _ _ ⟨s0, _⟩ h23 ⟨t, hq, ht, rfl, rfl, hs⟩
        simp only at hq hs ⊢
        subst hq
        refine ld_lst (fld_blocks.rd hp) o1_21.ext fun lb hlb => ?_
        refine idx_rdN hlb rfl hzl fun p11 _ hp11 => ?_
        refine ld_lst (fld_phis.rd hp11) o1_21.ext fun lp hlp => ?_
        have hlpl := hlp.lenEq
        have hlpb := hlp.bound
        refine ifB_intro (fun hc => ?_) (fun hc => ?_)
        · have htl : t < f.blocks[z].phis.length := by rw [hlpl] at hc; simpa using hc
          intro k5 hk5
          have next : ∀ s', (s' = true ↔ ∃ φ ∈ f.blocks[z].phis.take (t + 1), φ.dst = ll[z][n]) → k5 s' h23 := fun s' hs' => hk5 _ _ fun _ =>
            ar_i64 (by omega) (by omega) ⟨f.blocks[z].phis.length - (t + 1), by omega, t + 1, rfl, by omega, rfl, rfl, hs'⟩
          refine ifB_intro (fun h => next _ ?_) (fun h => ?_)
          · rw [take_ex htl]
            exact ⟨fun _ => .inr (hs.1 h), fun _ => rfl⟩
          · refine ld_lst (fld_blocks.rd hp) o1_21.ext fun lb hlb => ?_
            refine idx_rdN hlb rfl hzl fun p12 _ hp12 => ?_
            refine ld_lst (fld_phis.rd hp12) o1_21.ext fun lp hlp => ?_
            refine idx_rdN hlp rfl htl fun p13 _ hp13 => ?_
            refine ld_str (fld_dst.rd hp13) o1_21.ext ?_
            refine idx_rdN hins' rfl hzll fun p14 _ hp14 => ld_slB hp14 (.refl _) fun x28 hx28 => ?_
            refine idx_rdN hx28 rfl hnl fun p15 _ hp15 => ?_
            refine ld_eStr hp15 (hExt.refl _) (next _ ?_)
            rw [toList_beq, take_ex htl, decide_eq_true_eq]
            constructor
            · exact .inl
            · rintro (h' | h')
              · exact h'
              · have := hs.2 h'
                rw [h] at this
                cases this
        · have htl : f.blocks[z].phis.length ≤ t := by rw [hlpl] at hc; simpa using hc
          rw [List.take_of_length_le htl] at hs
          intro k6 hk6
          have ok : k6 false h23 := hk6 _ _ fun _ => ifB_false rfl (ar_i64 (by omega) (by omega) ⟨ll[z].length - (n + 1), by omega, n + 1, rfl, by omega, rfl, rfl⟩)
          refine ifB_intro (fun h => ?_) (fun h => ok)
          have h : s0 = false := by simpa using h
          refine idx_rdN hins' rfl hzll fun p16 _ hp16 => ld_slB hp16 (.refl _) fun x30 hx30 => ?_
          refine idx_rdN hx30 rfl hnl fun p17 _ hp17 => ld_eStr hp17 (hExt.refl _) ?_
          refine (in_calls (hr9.old (o20.trans o21)) ll[z][n]).mono ?_
          rintro v h26 ⟨rfl, rfl⟩
          refine ⟨_, rfl, ?_⟩
          have hin : ll[z][n] ∈ l9 := by
            rw [hl9.mem, at_end hB]
            refine .inl ⟨_, List.getElem_mem hjl, z, hz1, _, hC, .inr ⟨hlive, fun hm => ?_⟩⟩
            have := hs.2 hm
            rw [h] at this
            cases this
          rw [decide_eq_true hin]
          exact ok
      · have hnl : ll[z].length ≤ n := by rw [hx22l] at hc; simpa using hc
        exact ar_i64 (by omega) (by omega) ⟨B.term.to.length - (j + 1), by omega, j + 1, rfl, by omega, rfl, o20.trans o21⟩
    · exact ar_i64 (by omega) (by omega) ⟨f.blocks.length - (i + 1), by omega, i + 1, rfl, by omega, rfl, o57.trans o7_20⟩

end Go.Proofs.Ytojdbliehgejbaa
