/-
  lateenref06: how many parts there are.
-/
import Derived.Test.YtojdbliehgejbaaDoorGen
import Derived.Test.YtojdbliehgejbaaDoorFwApi2
namespace Go.Proofs.YtojdbliehgejbaaDoor
open Go.Fw Go.Pl Go.Pl.Api

theorem sum_take {α : Type} (f : α → Nat) {l : List α} {j : Nat} (h : j < l.length) : ((l.take (j + 1)).map f).sum = ((l.take j).map f).sum + f l[j] := by
  rw [List.take_succ_eq_append_getElem h, List.map_append, List.sum_append, List.map_cons, List.map_nil, List.sum_cons, List.sum_nil, Nat.add_zero]
/-- A count: what it is, if it is not too great. -/
def Cnt (most n : Int) (c : Nat) (B : Int) : Prop := 0 ≤ n ∧ n ≤ B ∧ (n ≤ most → n = c)

def cArgs (l : List MArg) : Nat := l.length + (l.map fun a => a.s.size).sum
def cVar (a : MVar) : Nat := a.name.size + a.type.size
def cVars (l : List MVar) : Nat := l.length + (l.map cVar).sum
def cBind (b : MBind) : Nat := 1 + b.name.size + b.a.s.size
def cStand (s : MStand) : Nat := s.func.size + s.block.size + (s.vars.map cBind).sum
def cVirt (v : MVirt) : Nat := v.cls.size + cArgs v.vals
def cInstr (x : MInstr) : Nat := 1 + x.dst.size + x.stands.length + x.objs.length + x.name.size + cArgs x.args + (x.stands.map cStand).sum + (x.objs.map cVirt).sum
def cIn (i : MIn) : Nat := 1 + i.block.size + i.a.s.size
def cPhi (p : MPhi) : Nat := 1 + p.dst.size + (p.ins.map cIn).sum
def cTo (t : ByteArray) : Nat := 1 + t.size
def cBlock (b : MBlock) : Nat := 1 + b.name.size + b.term.a.s.size + (b.term.to.map cTo).sum + (b.phis.map cPhi).sum + (b.code.map cInstr).sum
def cFunc (f : MFunc) : Nat := 1 + f.name.size + f.result.size + cVars f.params + cVars f.vars + (f.blocks.map cBlock).sum

theorem countArgs_calls {h : Heap} {s : Sl} {l : List MArg} (hl : rdSl rArg.el h s l) (hb : bL bArg l) {most : Int} (hm : 0 ≤ most ∧ most ≤ 10000) :
    ACalls Tryd.prog F_lateenref06_countArgs [s.v, .int .i64 most] h (fun v h' => ∃ n : Int, v = .int .i64 n ∧ h' = h ∧ Cnt most n (cArgs l) 281474976710656) := by
  refine lateenref06_countArgs_of ?_
  unfold lateenref06_countArgs
  have hll := hl.lenEq
  have hlb := hb.1
  refine ifB_intro (fun hc => ar_i64 (by omega) (by omega) ⟨_, rfl, rfl, by omega, by omega, fun h => by omega⟩) (fun hc => ?_)
  have hlm : (l.length : Int) ≤ most := by have := of_decide_eq_false hc; omega
  refine loop_intro (fun m (q : Int × Int) h' => ∃ j : Nat, q.2 = j ∧ j ≤ l.length ∧ m = l.length - j ∧ h' = h ∧ Cnt most q.1 (l.length + ((l.take j).map fun a => a.s.size).sum) 281474976710656) l.length
    ⟨0, rfl, by omega, by omega, rfl, by simp only [hll]; exact ⟨by omega, by omega, fun _ => by simp⟩⟩ ?_
  rintro _ _ ⟨n, j⟩ h1 ⟨j, hj0, hj, rfl, rfl, c0, c1, c2⟩
  simp only at hj0 c0 c1 c2 ⊢
  subst hj0
  intro k hk
  refine ifB_intro (fun hc => hk _ _ fun _ => ?_) (fun hc => hk _ _ fun _ => ifB_false rfl ⟨_, rfl, rfl, c0, c1, fun h => ?_⟩)
  · have hjl : j < l.length := by rw [hll] at hc; simpa using hc
    refine ifB_intro (fun hn => ?_) (fun hn => ⟨_, rfl, rfl, c0, c1, fun h => absurd h (of_decide_eq_false hn)⟩)
    have hn := of_decide_eq_true hn
    refine idx_rdN hl rfl hjl fun p _ hp => ld_str (fld_argS.rd hp) (hExt.refl _) ?_
    have hs : l[j].s.size ≤ 140737488355328 := (hb.2 _ (List.getElem_mem hjl)).2.1
    refine ar_i64 (by omega) (by omega) (ar_i64 (by omega) (by omega) ⟨l.length - (j + 1), by omega, j + 1, rfl, by omega, rfl, rfl, by omega, by omega, fun _ => ?_⟩)
    rw [sum_take _ hjl]
    have := c2 hn
    omega
  · have hjl : l.length ≤ j := by rw [hll] at hc; simpa using hc
    rw [List.take_of_length_le hjl] at c2
    exact c2 h

theorem countVars_calls {h : Heap} {s : Sl} {l : List MVar} (hl : rdSl rVar.el h s l) (hb : bL bVar l) {most : Int} (hm : 0 ≤ most ∧ most ≤ 10000) :
    ACalls Tryd.prog F_lateenref06_countVars [s.v, .int .i64 most] h (fun v h' => ∃ n : Int, v = .int .i64 n ∧ h' = h ∧ Cnt most n (cVars l) 281474976710656) := by
  refine lateenref06_countVars_of ?_
  unfold lateenref06_countVars
  have hll := hl.lenEq
  have hlb := hb.1
  refine ifB_intro (fun hc => ar_i64 (by omega) (by omega) ⟨_, rfl, rfl, by omega, by omega, fun h => by omega⟩) (fun hc => ?_)
  have hlm : (l.length : Int) ≤ most := by have := of_decide_eq_false hc; omega
  refine loop_intro (fun m (q : Int × Int) h' => ∃ j : Nat, q.2 = j ∧ j ≤ l.length ∧ m = l.length - j ∧ h' = h ∧ Cnt most q.1 (l.length + ((l.take j).map cVar).sum) 281474976710656) l.length
    ⟨0, rfl, by omega, by omega, rfl, by simp only [hll]; exact ⟨by omega, by omega, fun _ => by simp⟩⟩ ?_
  rintro _ _ ⟨n, j⟩ h1 ⟨j, hj0, hj, rfl, rfl, c0, c1, c2⟩
  simp only at hj0 c0 c1 c2 ⊢
  subst hj0
  intro k hk
  refine ifB_intro (fun hc => hk _ _ fun _ => ?_) (fun hc => hk _ _ fun _ => ifB_false rfl ⟨_, rfl, rfl, c0, c1, fun h => ?_⟩)
  · have hjl : j < l.length := by rw [hll] at hc; simpa using hc
    refine ifB_intro (fun hn => ?_) (fun hn => ⟨_, rfl, rfl, c0, c1, fun h => absurd h (of_decide_eq_false hn)⟩)
    have hn := of_decide_eq_true hn
    intro k1 hk1
    obtain ⟨hs1, hs2, _⟩ := hb.2 _ (List.getElem_mem hjl)
    unfold bStr at hs1 hs2
    have nx : ∀ n' : Int, Cnt most n' (l.length + ((l.take (j + 1)).map cVar).sum) 281474976710656 → k1 n' h1 := fun n' hc' => hk1 _ _ fun _ => ar_i64 (by omega) (by omega) ⟨l.length - (j + 1), by omega, j + 1, rfl, by omega, rfl, rfl, hc'⟩
    rw [sum_take _ hjl] at nx
    have hcv : cVar l[j] = l[j].name.size + l[j].type.size := rfl
    have hc2 := c2 hn
    refine idx_rdN hl rfl hjl fun p _ hp => ld_str (fld_vName.rd hp) (hExt.refl _) ?_
    refine ar_i64 (by omega) (by omega) ?_
    refine ifB_intro (fun hn2 => ?_) (fun hn2 => nx _ ⟨by omega, by omega, fun h => absurd h (of_decide_eq_false hn2)⟩)
    have hn2 := of_decide_eq_true hn2
    refine idx_rdN hl rfl hjl fun p _ hp => ld_str (fld_vType.rd hp) (hExt.refl _) ?_
    exact ar_i64 (by omega) (by omega) (nx _ ⟨by omega, by omega, fun _ => by omega⟩)
  · have hjl : l.length ≤ j := by rw [hll] at hc; simpa using hc
    rw [List.take_of_length_le hjl] at c2
    exact c2 h

set_option maxHeartbeats 1000000 in
theorem countInstr_calls {h : Heap} {cs : Array Value} {x : MInstr} (hx : rInstr.rv h cs.toList x) (hb : bInstr x) {most : Int} (hm : 0 ≤ most ∧ most ≤ 10000) :
    ACalls Tryd.prog F_lateenref06_countInstr [.agg cs, .int .i64 most] h (fun v h' => ∃ n : Int, v = .int .i64 n ∧ Old h h' ∧ Cnt most n (cInstr x) 1125899906842624) := by
  refine lateenref06_countInstr_of ?_
  unfold lateenref06_countInstr
  refine new_rv hx fun p h1 o1 hp => ?_
  have hst := fld_iStands.rd hp
  have hob := fld_iObjs.rd hp
  obtain ⟨_, hbd, hbn, hba, hbs, hbo, _⟩ := hb
  have e1 := hExt.refl h1
  unfold bStr at hbd hbn
  have hbsl := hbs.1
  have hbol := hbo.1
  intro k hk
  have many : k true h1 := hk _ _ fun _ => ifB_true rfl (ar_i64 (by omega) (by omega) ⟨_, rfl, o1, by omega, by omega, fun h => by omega⟩)
  refine ld_lst hst e1 fun s4 hs4 => ?_
  have hs4l := hs4.lenEq
  refine ifB_intro (fun _ => many) (fun hc1 => ?_)
  have hsm : (x.stands.length : Int) ≤ most := by have := of_decide_eq_false hc1; omega
  refine ld_lst hob e1 fun s5 hs5 => ?_
  have hs5l := hs5.lenEq
  by_cases hom : (x.objs.length : Int) ≤ most
  case neg =>
    have : decide ((s5.len : Int) > most) = true := decide_eq_true (by omega)
    rw [this]
    exact many
  have : decide ((s5.len : Int) > most) = false := decide_eq_false (by omega)
  rw [this]
  refine hk _ _ fun _ => ifB_false rfl ?_
  clear many hk k
  refine ld_str (fld_iDst.rd hp) e1 ?_
  refine ar_i64 (by omega) (by omega) ?_
  refine ld_lst hst e1 fun s4 hs4 => ?_
  have hs4l := hs4.lenEq
  refine ar_i64 (by omega) (by omega) ?_
  refine ld_lst hob e1 fun s5 hs5 => ?_
  have hs5l := hs5.lenEq
  refine ar_i64 (by omega) (by omega) ?_
  generalize hB1 : (1 + (x.dst.size : Int) + (s4.len : Int) + (s5.len : Int)) = n3
  intro k hk
  -- behind the name and the arguments
  have rest : ∀ n4 : Int, Cnt most n4 (1 + x.dst.size + x.stands.length + x.objs.length + x.name.size) 703687441776640 → k n4 h1 := fun n4 c4 => hk _ _ fun _ => by
    intro k1 hk1
    have rest2 : ∀ n5 : Int, Cnt most n5 (1 + x.dst.size + x.stands.length + x.objs.length + x.name.size + cArgs x.args) 844424930131968 → k1 n5 h1 := fun n5 c5 => hk1 _ _ fun _ => by
      generalize hbase : 1 + x.dst.size + x.stands.length + x.objs.length + x.name.size + cArgs x.args = base at c5
      refine loop_intro (fun m (q : Int × Int) h' => ∃ i : Nat, q.2 = i ∧ i ≤ x.stands.length ∧ m = x.stands.length - i ∧ h' = h1 ∧ Cnt most q.1 (base + ((x.stands.take i).map cStand).sum) 985162418487296) x.stands.length
        ⟨0, rfl, by omega, by omega, rfl, c5.1, by have := c5.2.1; simp only; omega, fun h => by have := c5.2.2 h; simpa using this⟩ ?_
      rintro _ _ ⟨n, i⟩ h2 ⟨i, hi0, hi, rfl, rfl, c0, c1, c2⟩
      simp only at hi0 c0 c1 c2 ⊢
      subst hi0
      intro k2 hk2
      have key : ∀ t : Bool, (t = true → i < x.stands.length ∧ n ≤ most) → (t = false → Cnt most n (base + (x.stands.map cStand).sum) 985162418487296) → k2 t h2 := fun t ht hf => hk2 _ _ fun _ => by
        refine ifB_intro (fun e => ?_) (fun e => ?_)
        · obtain ⟨hil, hn⟩ := ht e
          clear ht hf
          have hc2 := c2 hn
          obtain ⟨hf1, hf2, _, hf3, _⟩ := hbs.2 _ (List.getElem_mem hil)
          unfold bStr at hf1 hf2
          have hcs : cStand x.stands[i] = x.stands[i].func.size + x.stands[i].block.size + (x.stands[i].vars.map cBind).sum := rfl
          refine ld_lst hst e1 fun s4 hs4 => ?_
          refine idx_rdN hs4 rfl hil fun p1 _ hp1 => ld_str (fld_stFunc.rd hp1) e1 ?_
          refine ar_i64 (by omega) (by omega) ?_
          intro k4 hk4
          have vars : ∀ n8 : Int, Cnt most n8 (base + ((x.stands.take i).map cStand).sum + x.stands[i].func.size + x.stands[i].block.size) 562949953421312 → k4 n8 h2 := fun n8 c8 => hk4 _ _ fun _ => by
            refine loop_intro (fun m (q : Int × Int) h' => ∃ j : Nat, q.2 = j ∧ j ≤ x.stands[i].vars.length ∧ m = x.stands[i].vars.length - j ∧ h' = h2 ∧ Cnt most q.1 (base + ((x.stands.take i).map cStand).sum + x.stands[i].func.size + x.stands[i].block.size + ((x.stands[i].vars.take j).map cBind).sum) 985162418487296) x.stands[i].vars.length
              ⟨0, rfl, by omega, by omega, rfl, c8.1, by have := c8.2.1; simp only; omega, fun h => by have := c8.2.2 h; simpa using this⟩ ?_
            rintro _ _ ⟨n, j⟩ h3 ⟨j, hj0, hj, rfl, rfl, d0, d1, d2⟩
            simp only at hj0 d0 d1 d2 ⊢
            subst hj0
            intro k6 hk6
            have hbl := hf3.1
            have key2 : ∀ t : Bool, (t = true → j < x.stands[i].vars.length ∧ n ≤ most) → (t = false → Cnt most n (base + ((x.stands.take i).map cStand).sum + x.stands[i].func.size + x.stands[i].block.size + (x.stands[i].vars.map cBind).sum) 985162418487296) → k6 t h3 := fun t ht hf => hk6 _ _ fun _ => by
              refine ifB_intro (fun e => ?_) (fun e => ?_)
              · obtain ⟨hjl, hn⟩ := ht e
                have hd2 := d2 hn
                obtain ⟨hn1, ⟨_, hn2, _⟩, _⟩ := hf3.2 _ (List.getElem_mem hjl)
                unfold bStr at hn1 hn2
                have hcb : cBind x.stands[i].vars[j] = 1 + x.stands[i].vars[j].name.size + x.stands[i].vars[j].a.s.size := rfl
                intro k7 hk7
                have nx : ∀ n' : Int, Cnt most n' (base + ((x.stands.take i).map cStand).sum + x.stands[i].func.size + x.stands[i].block.size + ((x.stands[i].vars.take (j + 1)).map cBind).sum) 985162418487296 → k7 n' h3 := fun n' hc' => hk7 _ _ fun _ => ar_i64 (by omega) (by omega) ⟨x.stands[i].vars.length - (j + 1), by omega, j + 1, rfl, by omega, rfl, rfl, hc'⟩
                rw [sum_take _ hjl] at nx
                refine ar_i64 (by omega) (by omega) ?_
                refine ld_lst hst e1 fun s6 hs6 => ?_
                refine idx_rdN hs6 rfl hil fun p2 _ hp2 => ld_lst (fld_stVars.rd hp2) e1 fun s7 hs7 => ?_
                refine idx_rdN hs7 rfl hjl fun p3 _ hp3 => ld_str (fld_bindName.rd hp3) e1 ?_
                refine ar_i64 (by omega) (by omega) ?_
                refine ifB_intro (fun hn3 => ?_) (fun hn3 => nx _ ⟨by omega, by omega, fun h => absurd h (of_decide_eq_false hn3)⟩)
                have hn3 := of_decide_eq_true hn3
                refine ld_lst hst e1 fun s9 hs9 => ?_
                refine idx_rdN hs9 rfl hil fun p4 _ hp4 => ld_lst (fld_stVars.rd hp4) e1 fun s10 hs10 => ?_
                refine idx_rdN hs10 rfl hjl fun p5 _ hp5 => ld_str (fld_argS.rd (fld_bindA.rd hp5)) e1 ?_
                exact ar_i64 (by omega) (by omega) (nx _ ⟨by omega, by omega, fun _ => by omega⟩)
              · have cn := hf e
                refine ar_i64 (by omega) (by omega) ⟨x.stands.length - (i + 1), by omega, i + 1, rfl, by omega, rfl, rfl, cn.1, cn.2.1, fun h => ?_⟩
                rw [sum_take _ hil]
                have := cn.2.2 h
                omega
            refine ld_lst hst e1 fun s12 hs12 => ?_
            refine idx_rdN hs12 rfl hil fun p6 _ hp6 => ld_lst (fld_stVars.rd hp6) e1 fun s13 hs13 => ?_
            have hs13l := hs13.lenEq
            refine ifB_intro (fun hc => ?_) (fun hc => key2 false (fun h => by cases h) fun _ => ?_)
            · have hjl : j < x.stands[i].vars.length := by rw [hs13l] at hc; simpa using hc
              exact key2 _ (fun h => ⟨hjl, of_decide_eq_true h⟩) fun h => ⟨d0, d1, fun h' => absurd h' (of_decide_eq_false h)⟩
            · have hjl : x.stands[i].vars.length ≤ j := by rw [hs13l] at hc; simpa using hc
              rw [List.take_of_length_le hjl] at d2
              exact ⟨d0, d1, d2⟩
          refine ifB_intro (fun hn2 => ?_) (fun hn2 => vars _ ⟨by omega, by omega, fun h => absurd h (of_decide_eq_false hn2)⟩)
          have hn2 := of_decide_eq_true hn2
          refine ld_lst hst e1 fun s14 hs14 => ?_
          refine idx_rdN hs14 rfl hil fun p7 _ hp7 => ld_str (fld_stBlock.rd hp7) e1 ?_
          exact ar_i64 (by omega) (by omega) (vars _ ⟨by omega, by omega, fun _ => by omega⟩)
        · have cn := hf e
          clear ht hf c0 c1 c2
          refine loop_intro (fun m (q : Int × Int) h' => ∃ i : Nat, q.2 = i ∧ i ≤ x.objs.length ∧ m = x.objs.length - i ∧ h' = h2 ∧ Cnt most q.1 (base + (x.stands.map cStand).sum + ((x.objs.take i).map cVirt).sum) 1125899906842624) x.objs.length
            ⟨0, rfl, by omega, by omega, rfl, cn.1, by have := cn.2.1; simp only; omega, fun h => by have := cn.2.2 h; simpa using this⟩ ?_
          rintro _ _ ⟨n, i⟩ h3 ⟨i, hi0, hi, rfl, rfl, c0, c1, c2⟩
          simp only at hi0 c0 c1 c2 ⊢
          subst hi0
          intro k8 hk8
          have key3 : ∀ t : Bool, (t = true → i < x.objs.length ∧ n ≤ most) → (t = false → n ≤ most → n = cInstr x) → k8 t h3 := fun t ht hf => hk8 _ _ fun _ => by
            refine ifB_intro (fun e => ?_) (fun e => ⟨_, rfl, o1, c0, c1, hf e⟩)
            obtain ⟨hil, hn⟩ := ht e
            have hc2 := c2 hn
            obtain ⟨hv1, hv2, _⟩ := hbo.2 _ (List.getElem_mem hil)
            unfold bStr at hv1
            have hcv : cVirt x.objs[i] = x.objs[i].cls.size + cArgs x.objs[i].vals := rfl
            intro k9 hk9
            have nx : ∀ n' : Int, Cnt most n' (base + (x.stands.map cStand).sum + ((x.objs.take (i + 1)).map cVirt).sum) 1125899906842624 → k9 n' h3 := fun n' hc' => hk9 _ _ fun _ => ar_i64 (by omega) (by omega) ⟨x.objs.length - (i + 1), by omega, i + 1, rfl, by omega, rfl, rfl, hc'⟩
            rw [sum_take _ hil] at nx
            refine ld_lst hob e1 fun s16 hs16 => ?_
            refine idx_rdN hs16 rfl hil fun p8 _ hp8 => ld_str (fld_virtCls.rd hp8) e1 ?_
            refine ar_i64 (by omega) (by omega) ?_
            refine ifB_intro (fun hn2 => ?_) (fun hn2 => nx _ ⟨by omega, by omega, fun h => absurd h (of_decide_eq_false hn2)⟩)
            have hn2 := of_decide_eq_true hn2
            refine ld_lst hob e1 fun s18 hs18 => ?_
            refine idx_rdN hs18 rfl hil fun p9 _ hp9 => ld_lst (fld_virtVals.rd hp9) e1 fun s19 hs19 => ?_
            refine (countArgs_calls hs19 hv2 hm).mono ?_
            rintro v h14 ⟨r, rfl, rfl, r0, r1, r2⟩
            refine ⟨_, rfl, ?_⟩
            refine ar_i64 (by omega) (by omega) (nx _ ⟨by omega, by omega, fun h => ?_⟩)
            have := r2 (by omega)
            omega
          refine ld_lst hob e1 fun s20 hs20 => ?_
          have hs20l := hs20.lenEq
          refine ifB_intro (fun hc => ?_) (fun hc => key3 false (fun h => by cases h) fun _ h => ?_)
          · have hil : i < x.objs.length := by rw [hs20l] at hc; simpa using hc
            exact key3 _ (fun h => ⟨hil, of_decide_eq_true h⟩) fun h h' => absurd h' (of_decide_eq_false h)
          · have hil : x.objs.length ≤ i := by rw [hs20l] at hc; simpa using hc
            rw [List.take_of_length_le hil] at c2
            have := c2 h
            unfold cInstr
            omega
      refine ld_lst hst e1 fun s12 hs12 => ?_
      have hs12l := hs12.lenEq
      refine ifB_intro (fun hc => ?_) (fun hc => key false (fun h => by cases h) fun _ => ?_)
      · have hil : i < x.stands.length := by rw [hs12l] at hc; simpa using hc
        exact key _ (fun h => ⟨hil, of_decide_eq_true h⟩) fun h => ⟨c0, c1, fun h' => absurd h' (of_decide_eq_false h)⟩
      · have hil : x.stands.length ≤ i := by rw [hs12l] at hc; simpa using hc
        rw [List.take_of_length_le hil] at c2
        exact ⟨c0, c1, c2⟩
    have c40 := c4.1
    have c41 := c4.2.1
    refine ifB_intro (fun hn => ?_) (fun hn => rest2 _ ⟨c4.1, by omega, fun h => absurd h (of_decide_eq_false hn)⟩)
    have hn := of_decide_eq_true hn
    have hc4 := c4.2.2 hn
    refine ld_lst (fld_iArgs.rd hp) e1 fun s22 hs22 => ?_
    refine (countArgs_calls hs22 hba hm).mono ?_
    rintro v h15 ⟨r, rfl, rfl, r0, r1, r2⟩
    refine ⟨_, rfl, ?_⟩
    refine ar_i64 (by omega) (by omega) (rest2 _ ⟨by omega, by omega, fun h => ?_⟩)
    have := r2 (by omega)
    omega
  refine ifB_intro (fun hn => ?_) (fun hn => rest _ ⟨by omega, by omega, fun h => absurd h (of_decide_eq_false hn)⟩)
  have hn := of_decide_eq_true hn
  refine ld_str (fld_iName.rd hp) e1 ?_
  exact ar_i64 (by omega) (by omega) (rest _ ⟨by omega, by omega, fun _ => by omega⟩)


set_option maxHeartbeats 1000000 in
theorem countBlock_calls {h : Heap} {cs : Array Value} {b : MBlock} (hx : rBlock.rv h cs.toList b) (hb : bBlock b) {most : Int} (hm : 0 ≤ most ∧ most ≤ 10000) :
    ACalls Tryd.prog F_lateenref06_countBlock [.agg cs, .int .i64 most] h (fun v h' => ∃ n : Int, v = .int .i64 n ∧ Old h h' ∧ Cnt most n (cBlock b) 2251799813685248) := by
  refine lateenref06_countBlock_of ?_
  unfold lateenref06_countBlock
  refine new_rv hx fun p h1 o1 hp => ?_
  have hph := fld_phis.rd hp
  have hco := fld_code.rd hp
  have hto := fld_to.rd (fld_term.rd hp)
  obtain ⟨hbn, hbp, hbc, ⟨_, hba, hbt, _⟩, _⟩ := hb
  have e1 := hExt.refl h1
  have hbas := hba.2.1
  unfold bStr at hbn hbas
  intro k hk
  have many : k true h1 := hk _ _ fun _ => ifB_true rfl (ar_i64 (by omega) (by omega) ⟨_, rfl, o1, by omega, by omega, fun h => by omega⟩)
  refine ld_lst hph e1 fun s1 hs1 => ?_
  refine ifB_intro (fun _ => many) (fun _ => ?_)
  refine ld_lst hco e1 fun s2 hs2 => ?_
  refine ifB_intro (fun _ => many) (fun _ => ?_)
  refine ld_lst hto e1 fun s3 hs3 => ?_
  by_cases htm : decide ((s3.len : Int) > most) = true
  · rw [htm]; exact many
  have htm : decide ((s3.len : Int) > most) = false := by simpa using htm
  rw [htm]
  refine hk _ _ fun _ => ifB_false rfl ?_
  clear many hk k htm hs1 hs2 hs3
  refine ld_str (fld_name.rd hp) e1 ?_
  refine ar_i64 (by omega) (by omega) ?_
  intro k hk
  have rest : ∀ n2 : Int, Cnt most n2 (1 + b.name.size + b.term.a.s.size) 562949953421312 → k n2 h1 := fun n2 c2 => hk _ _ fun _ => by
    generalize hbase : 1 + b.name.size + b.term.a.s.size = base at c2
    refine loop_intro (fun m (q : Int × Int) h' => ∃ i : Nat, q.2 = i ∧ i ≤ b.term.to.length ∧ m = b.term.to.length - i ∧ h' = h1 ∧ Cnt most q.1 (base + ((b.term.to.take i).map cTo).sum) 562949953421312) b.term.to.length
      ⟨0, rfl, by omega, by omega, rfl, c2.1, c2.2.1, fun h => by have := c2.2.2 h; simpa using this⟩ ?_
    rintro _ _ ⟨n, i⟩ h2 ⟨i, hi0, hi, rfl, rfl, c0, c1, c2⟩
    simp only at hi0 c0 c1 c2 ⊢
    subst hi0
    intro k2 hk2
    have key : ∀ t : Bool, (t = true → i < b.term.to.length ∧ n ≤ most) → (t = false → Cnt most n (base + (b.term.to.map cTo).sum) 562949953421312) → k2 t h2 := fun t ht hf => hk2 _ _ fun _ => by
      refine ifB_intro (fun e => ?_) (fun e => ?_)
      · obtain ⟨hil, hn⟩ := ht e
        clear ht hf
        have hc2 := c2 hn
        have htl := hbt.1
        have hts := hbt.2 _ (List.getElem_mem hil)
        unfold bStr at hts
        have hct : cTo b.term.to[i] = 1 + b.term.to[i].size := rfl
        refine ar_i64 (by omega) (by omega) ?_
        refine ld_lst hto e1 fun s1 hs1 => ?_
        refine idx_rdN hs1 rfl hil fun p1 _ hp1 => ld_str hp1 e1 ?_
        refine ar_i64 (by omega) (by omega) (ar_i64 (by omega) (by omega) ⟨b.term.to.length - (i + 1), by omega, i + 1, rfl, by omega, rfl, rfl, by omega, by omega, fun h => ?_⟩)
        rw [sum_take _ hil]
        omega
      · have cn := hf e
        clear ht hf c0 c1 c2
        refine loop_intro (fun m (q : Int × Int) h' => ∃ i : Nat, q.2 = i ∧ i ≤ b.phis.length ∧ m = b.phis.length - i ∧ h' = h2 ∧ Cnt most q.1 (base + (b.term.to.map cTo).sum + ((b.phis.take i).map cPhi).sum) 562949953421312) b.phis.length
          ⟨0, rfl, by omega, by omega, rfl, cn.1, cn.2.1, fun h => by have := cn.2.2 h; simpa using this⟩ ?_
        rintro _ _ ⟨n, i⟩ h3 ⟨i, hi0, hi, rfl, rfl, c0, c1, c2⟩
        simp only at hi0 c0 c1 c2 ⊢
        subst hi0
        intro k3 hk3
        have key2 : ∀ t : Bool, (t = true → i < b.phis.length ∧ n ≤ most) → (t = false → Cnt most n (base + (b.term.to.map cTo).sum + (b.phis.map cPhi).sum) 562949953421312) → k3 t h3 := fun t ht hf => hk3 _ _ fun _ => by
          refine ifB_intro (fun e => ?_) (fun e => ?_)
          · obtain ⟨hil, hn⟩ := ht e
            clear ht hf
            have hc2 := c2 hn
            obtain ⟨hd1, hd2, _⟩ := hbp.2 _ (List.getElem_mem hil)
            unfold bStr at hd1
            have hbpl := hbp.1
            have hcp : cPhi b.phis[i] = 1 + b.phis[i].dst.size + (b.phis[i].ins.map cIn).sum := rfl
            refine ar_i64 (by omega) (by omega) ?_
            refine ld_lst hph e1 fun s3 hs3 => ?_
            refine idx_rdN hs3 rfl hil fun p2 _ hp2 => ld_str (fld_dst.rd hp2) e1 ?_
            refine ar_i64 (by omega) (by omega) ?_
            refine loop_intro (fun m (q : Int × Int) h' => ∃ j : Nat, q.2 = j ∧ j ≤ b.phis[i].ins.length ∧ m = b.phis[i].ins.length - j ∧ h' = h3 ∧ Cnt most q.1 (base + (b.term.to.map cTo).sum + ((b.phis.take i).map cPhi).sum + 1 + b.phis[i].dst.size + ((b.phis[i].ins.take j).map cIn).sum) 562949953421312) b.phis[i].ins.length
              ⟨0, rfl, by omega, by omega, rfl, by simp only; omega, by simp only; omega, fun h => by simp only [List.take_zero, List.map_nil, List.sum_nil]; omega⟩ ?_
            rintro _ _ ⟨n, j⟩ h4 ⟨j, hj0, hj, rfl, rfl, d0, d1, d2⟩
            simp only at hj0 d0 d1 d2 ⊢
            subst hj0
            intro k5 hk5
            have hil3 := hd2.1
            have key3 : ∀ t : Bool, (t = true → j < b.phis[i].ins.length ∧ n ≤ most) → (t = false → Cnt most n (base + (b.term.to.map cTo).sum + ((b.phis.take i).map cPhi).sum + 1 + b.phis[i].dst.size + (b.phis[i].ins.map cIn).sum) 562949953421312) → k5 t h4 := fun t ht hf => hk5 _ _ fun _ => by
              refine ifB_intro (fun e => ?_) (fun e => ?_)
              · obtain ⟨hjl, hn⟩ := ht e
                have hdd2 := d2 hn
                obtain ⟨hn1, ⟨_, hn2, _⟩, _⟩ := hd2.2 _ (List.getElem_mem hjl)
                unfold bStr at hn1 hn2
                have hcb : cIn b.phis[i].ins[j] = 1 + b.phis[i].ins[j].block.size + b.phis[i].ins[j].a.s.size := rfl
                intro k6 hk6
                have nx : ∀ n' : Int, Cnt most n' (base + (b.term.to.map cTo).sum + ((b.phis.take i).map cPhi).sum + 1 + b.phis[i].dst.size + ((b.phis[i].ins.take (j + 1)).map cIn).sum) 562949953421312 → k6 n' h4 := fun n' hc' => hk6 _ _ fun _ => ar_i64 (by omega) (by omega) ⟨b.phis[i].ins.length - (j + 1), by omega, j + 1, rfl, by omega, rfl, rfl, hc'⟩
                rw [sum_take _ hjl] at nx
                refine ar_i64 (by omega) (by omega) ?_
                refine ld_lst hph e1 fun s5 hs5 => ?_
                refine idx_rdN hs5 rfl hil fun p3 _ hp3 => ld_lst (fld_ins.rd hp3) e1 fun s6 hs6 => ?_
                refine idx_rdN hs6 rfl hjl fun p4 _ hp4 => ld_str (fld_inblock.rd hp4) e1 ?_
                refine ar_i64 (by omega) (by omega) ?_
                refine ifB_intro (fun hn3 => ?_) (fun hn3 => nx _ ⟨by omega, by omega, fun h => absurd h (of_decide_eq_false hn3)⟩)
                have hn3 := of_decide_eq_true hn3
                refine ld_lst hph e1 fun s8 hs8 => ?_
                refine idx_rdN hs8 rfl hil fun p5 _ hp5 => ld_lst (fld_ins.rd hp5) e1 fun s9 hs9 => ?_
                refine idx_rdN hs9 rfl hjl fun p6 _ hp6 => ld_str (fld_argS.rd (fld_inA.rd hp6)) e1 ?_
                exact ar_i64 (by omega) (by omega) (nx _ ⟨by omega, by omega, fun _ => by omega⟩)
              · have cn := hf e
                refine ar_i64 (by omega) (by omega) ⟨b.phis.length - (i + 1), by omega, i + 1, rfl, by omega, rfl, rfl, cn.1, cn.2.1, fun h => ?_⟩
                rw [sum_take _ hil]
                have := cn.2.2 h
                omega
            refine ld_lst hph e1 fun s11 hs11 => ?_
            refine idx_rdN hs11 rfl hil fun p7 _ hp7 => ld_lst (fld_ins.rd hp7) e1 fun s12 hs12 => ?_
            have hs12l := hs12.lenEq
            refine ifB_intro (fun hc => ?_) (fun hc => key3 false (fun h => by cases h) fun _ => ?_)
            · have hjl : j < b.phis[i].ins.length := by rw [hs12l] at hc; simpa using hc
              exact key3 _ (fun h => ⟨hjl, of_decide_eq_true h⟩) fun h => ⟨d0, d1, fun h' => absurd h' (of_decide_eq_false h)⟩
            · have hjl : b.phis[i].ins.length ≤ j := by rw [hs12l] at hc; simpa using hc
              rw [List.take_of_length_le hjl] at d2
              exact ⟨d0, d1, d2⟩
          · have cn := hf e
            clear ht hf c0 c1 c2
            refine loop_intro (fun m (q : Int × Int) h' => ∃ i : Nat, q.2 = i ∧ i ≤ b.code.length ∧ m = b.code.length - i ∧ Old h3 h' ∧ Cnt most q.1 (base + (b.term.to.map cTo).sum + (b.phis.map cPhi).sum + ((b.code.take i).map cInstr).sum) 2251799813685248) b.code.length
              ⟨0, rfl, by omega, by omega, .refl _, cn.1, by have := cn.2.1; simp only; omega, fun h => by have := cn.2.2 h; simpa using this⟩ ?_
            rintro _ _ ⟨n, i⟩ h4 ⟨i, hi0, hi, rfl, o4, c0, c1, c2⟩
            simp only at hi0 c0 c1 c2 ⊢
            subst hi0
            intro k7 hk7
            have e4 := o4.ext
            have key4 : ∀ t : Bool, (t = true → i < b.code.length ∧ n ≤ most) → (t = false → n ≤ most → n = cBlock b) → k7 t h4 := fun t ht hf => hk7 _ _ fun _ => by
              refine ifB_intro (fun e => ?_) (fun e => ⟨_, rfl, o1.trans o4, c0, c1, hf e⟩)
              obtain ⟨hil, hn⟩ := ht e
              have hc2 := c2 hn
              have hil2 := hbc.1
              refine ld_lst hco e4 fun s13 hs13 => ?_
              refine idx_rdN hs13 rfl hil fun p8 _ hp8 => ?_
              refine ld_agg hp8 e4 rfl fun cs14 hcs14 => ?_
              refine (countInstr_calls (rInstr.ext hcs14 e4) (hbc.2 _ (List.getElem_mem hil)) hm).mono ?_
              rintro v h13 ⟨r, rfl, o13, r0, r1, r2⟩
              refine ⟨_, rfl, ?_⟩
              refine ar_i64 (by omega) (by omega) (ar_i64 (by omega) (by omega) ⟨b.code.length - (i + 1), by omega, i + 1, rfl, by omega, rfl, o4.trans o13, by omega, by omega, fun h => ?_⟩)
              rw [sum_take _ hil]
              have := r2 (by omega)
              omega
            refine ld_lst hco e4 fun s15 hs15 => ?_
            have hs15l := hs15.lenEq
            refine ifB_intro (fun hc => ?_) (fun hc => key4 false (fun h => by cases h) fun _ h => ?_)
            · have hil : i < b.code.length := by rw [hs15l] at hc; simpa using hc
              exact key4 _ (fun h => ⟨hil, of_decide_eq_true h⟩) fun h h' => absurd h' (of_decide_eq_false h)
            · have hil : b.code.length ≤ i := by rw [hs15l] at hc; simpa using hc
              rw [List.take_of_length_le hil] at c2
              have := c2 h
              unfold cBlock
              omega
        refine ld_lst hph e1 fun s16 hs16 => ?_
        have hs16l := hs16.lenEq
        refine ifB_intro (fun hc => ?_) (fun hc => key2 false (fun h => by cases h) fun _ => ?_)
        · have hil : i < b.phis.length := by rw [hs16l] at hc; simpa using hc
          exact key2 _ (fun h => ⟨hil, of_decide_eq_true h⟩) fun h => ⟨c0, c1, fun h' => absurd h' (of_decide_eq_false h)⟩
        · have hil : b.phis.length ≤ i := by rw [hs16l] at hc; simpa using hc
          rw [List.take_of_length_le hil] at c2
          exact ⟨c0, c1, c2⟩
    refine ld_lst hto e1 fun s17 hs17 => ?_
    have hs17l := hs17.lenEq
    refine ifB_intro (fun hc => ?_) (fun hc => key false (fun h => by cases h) fun _ => ?_)
    · have hil : i < b.term.to.length := by rw [hs17l] at hc; simpa using hc
      exact key _ (fun h => ⟨hil, of_decide_eq_true h⟩) fun h => ⟨c0, c1, fun h' => absurd h' (of_decide_eq_false h)⟩
    · have hil : b.term.to.length ≤ i := by rw [hs17l] at hc; simpa using hc
      rw [List.take_of_length_le hil] at c2
      exact ⟨c0, c1, c2⟩
  refine ifB_intro (fun hn => ?_) (fun hn => rest _ ⟨by omega, by omega, fun h => absurd h (of_decide_eq_false hn)⟩)
  have hn := of_decide_eq_true hn
  refine ld_str (fld_argS.rd (fld_tA.rd (fld_term.rd hp))) e1 ?_
  exact ar_i64 (by omega) (by omega) (rest _ ⟨by omega, by omega, fun _ => by omega⟩)

theorem fewFunc_calls {h : Heap} {cs : Array Value} {f : MFunc} (hx : rFunc.rv h cs.toList f) (hb : bFunc f) {most : Int} (hm : 0 ≤ most ∧ most ≤ 10000) :
    ACalls Tryd.prog F_lateenref06_FewFunc [.agg cs, .int .i64 most] h (fun v h' => ∃ n : Int, v = .int .i64 n ∧ Old h h' ∧ Cnt most n (cFunc f) 4503599627370496) := by
  refine lateenref06_FewFunc_of ?_
  unfold lateenref06_FewFunc
  refine new_rv hx fun p h1 o1 hp => ?_
  have hbk := fld_blocks.rd hp
  obtain ⟨hbn, hbr, hbp, hbv, hbb, _⟩ := hb
  have e1 := hExt.refl h1
  unfold bStr at hbn hbr
  refine ld_lst hbk e1 fun s hs => ?_
  refine ifB_intro (fun _ => ar_i64 (by omega) (by omega) ⟨_, rfl, o1, by omega, by omega, fun h => by omega⟩) (fun _ => ?_)
  refine ld_str (fld_fName.rd hp) e1 ?_
  refine ar_i64 (by omega) (by omega) ?_
  intro k hk
  have rest : ∀ n2 : Int, Cnt most n2 (1 + f.name.size + f.result.size) 281474976720656 → k n2 h1 := fun n2 c2 => hk _ _ fun _ => by
    intro k1 hk1
    have rest2 : ∀ n3 : Int, Cnt most n3 (1 + f.name.size + f.result.size + cVars f.params) 562949953441312 → k1 n3 h1 := fun n3 c3 => hk1 _ _ fun _ => by
      intro k2 hk2
      have rest3 : ∀ n4 : Int, Cnt most n4 (1 + f.name.size + f.result.size + cVars f.params + cVars f.vars) 844424930161968 → k2 n4 h1 := fun n4 c4 => hk2 _ _ fun _ => by
        generalize hbase : 1 + f.name.size + f.result.size + cVars f.params + cVars f.vars = base at c4
        refine loop_intro (fun m (q : Int × Int) h' => ∃ i : Nat, q.2 = i ∧ i ≤ f.blocks.length ∧ m = f.blocks.length - i ∧ Old h1 h' ∧ Cnt most q.1 (base + ((f.blocks.take i).map cBlock).sum) 4503599627370496) f.blocks.length
          ⟨0, rfl, by omega, by omega, .refl _, c4.1, by have := c4.2.1; simp only; omega, fun h => by have := c4.2.2 h; simpa using this⟩ ?_
        rintro _ _ ⟨n, i⟩ h5 ⟨i, hi0, hi, rfl, o5, c0, c1, c2⟩
        simp only at hi0 c0 c1 c2 ⊢
        subst hi0
        intro k3 hk3
        have e5 := o5.ext
        have key : ∀ t : Bool, (t = true → i < f.blocks.length ∧ n ≤ most) → (t = false → n ≤ most → n = cFunc f) → k3 t h5 := fun t ht hf => hk3 _ _ fun _ => by
          refine ifB_intro (fun e => ?_) (fun e => ⟨_, rfl, o1.trans o5, c0, c1, hf e⟩)
          obtain ⟨hil, hn⟩ := ht e
          have hc2 := c2 hn
          have hil2 := hbb.1
          refine ld_lst hbk e5 fun s2 hs2 => ?_
          refine idx_rdN hs2 rfl hil fun p1 _ hp1 => ?_
          refine ld_agg hp1 e5 rfl fun cs3 hcs3 => ?_
          refine (countBlock_calls (rBlock.ext hcs3 e5) (hbb.2 _ (List.getElem_mem hil)) hm).mono ?_
          rintro v h7 ⟨r, rfl, o7, r0, r1, r2⟩
          refine ⟨_, rfl, ?_⟩
          refine ar_i64 (by omega) (by omega) (ar_i64 (by omega) (by omega) ⟨f.blocks.length - (i + 1), by omega, i + 1, rfl, by omega, rfl, o5.trans o7, by omega, by omega, fun h => ?_⟩)
          rw [sum_take _ hil]
          have := r2 (by omega)
          omega
        refine ld_lst hbk e5 fun s4 hs4 => ?_
        have hs4l := hs4.lenEq
        refine ifB_intro (fun hc => ?_) (fun hc => key false (fun h => by cases h) fun _ h => ?_)
        · have hil : i < f.blocks.length := by rw [hs4l] at hc; simpa using hc
          exact key _ (fun h => ⟨hil, of_decide_eq_true h⟩) fun h h' => absurd h' (of_decide_eq_false h)
        · have hil : f.blocks.length ≤ i := by rw [hs4l] at hc; simpa using hc
          rw [List.take_of_length_le hil] at c2
          have := c2 h
          unfold cFunc
          omega
      have c30 := c3.1
      have c31 := c3.2.1
      refine ifB_intro (fun hn => ?_) (fun hn => rest3 _ ⟨c3.1, by omega, fun h => absurd h (of_decide_eq_false hn)⟩)
      have hn := of_decide_eq_true hn
      have hc3 := c3.2.2 hn
      refine ld_lst (fld_fVars.rd hp) e1 fun s5 hs5 => ?_
      refine (countVars_calls hs5 hbv hm).mono ?_
      rintro v h8 ⟨r, rfl, rfl, r0, r1, r2⟩
      refine ⟨_, rfl, ?_⟩
      refine ar_i64 (by omega) (by omega) (rest3 _ ⟨by omega, by omega, fun h => ?_⟩)
      have := r2 (by omega)
      omega
    have c20 := c2.1
    have c21 := c2.2.1
    refine ifB_intro (fun hn => ?_) (fun hn => rest2 _ ⟨c2.1, by omega, fun h => absurd h (of_decide_eq_false hn)⟩)
    have hn := of_decide_eq_true hn
    have hc2 := c2.2.2 hn
    refine ld_lst (fld_fParams.rd hp) e1 fun s6 hs6 => ?_
    refine (countVars_calls hs6 hbp hm).mono ?_
    rintro v h9 ⟨r, rfl, rfl, r0, r1, r2⟩
    refine ⟨_, rfl, ?_⟩
    refine ar_i64 (by omega) (by omega) (rest2 _ ⟨by omega, by omega, fun h => ?_⟩)
    have := r2 (by omega)
    omega
  refine ifB_intro (fun hn => ?_) (fun hn => rest _ ⟨by omega, by omega, fun h => absurd h (of_decide_eq_false hn)⟩)
  have hn := of_decide_eq_true hn
  refine ld_str (fld_fResult.rd hp) e1 ?_
  exact ar_i64 (by omega) (by omega) (rest _ ⟨by omega, by omega, fun _ => by omega⟩)

/-- What a program's being little tells. -/
structure FewP (p : MProg) : Prop where
  funcs : p.funcs.length ≤ 50
  each : ∀ f ∈ p.funcs, cFunc f ≤ 6000


end Go.Proofs.YtojdbliehgejbaaDoor
