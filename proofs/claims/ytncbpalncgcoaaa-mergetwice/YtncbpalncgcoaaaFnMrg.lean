/-
  merge: the little functions.
-/
import Derived.Test.YtncbpalncgcoaaaFnBack
import Derived.Test.YtncbpalncgcoaaaFnAdd
import Derived.Test.YtncbpalncgcoaaaFwMapE
import Derived.Test.YtncbpalncgcoaaaPlMrg
namespace Go.Proofs.Ytncbpalncgcoaaa
open Go.Fw Go.Pl.Api Go.Pl.Vst Go.Pl.Mrg

theorem own_rv {h0 h : Heap} {L : List As} {xs : List Value} {o : MObj} (S : Fw.Sep h0 h (ownEl eO xs o :: L)) : rObj.rv h xs o := by
  obtain ⟨s, rfl, S2⟩ := el_slice S
  exact rv_obj.2 ⟨s, rfl, rd_arg.1 S2.rd⟩
theorem virtN_take {fs : List MObj} {i : Nat} (hi : i < fs.length) : virtN (fs.take (i + 1)) = virtN (fs.take i) + if fs[i].real.kind = 0 then 1 else 0 := by
  unfold virtN
  rw [List.take_succ_eq_append_getElem hi, List.countP_append]
  congr 1
  simp [List.countP_cons]
theorem virtN_le (fs : List MObj) : virtN fs ≤ fs.length := List.countP_le_length

theorem virtual_calls {h : Heap} {s : Sl} {fs : List MObj} (hs : rdSl rObj.el h s fs) :
    ACalls Try.prog F_merge_virtual [s.v] h (fun v h' => v = .int .i64 (virtN fs : Int) ∧ Old h h') := by
  refine merge_virtual_of ?_
  unfold merge_virtual
  have hl := hs.lenEq
  have hb := hs.bound
  refine loop_intro (fun m (q : Int × Int) h' => ∃ i : Nat, q = ((virtN (fs.take i) : Int), (i : Int)) ∧ i ≤ fs.length ∧ m = fs.length - i ∧ Old h h') fs.length ⟨0, by simp [virtN], by omega, by omega, .refl _⟩ ?_
  rintro _ _ _ h1 ⟨i, rfl, hi, rfl, o1⟩
  simp only
  refine ifB_intro (fun hc => ?_) (fun hc => ?_)
  · have hil : i < fs.length := by rw [hl] at hc; simpa using hc
    intro k hk
    have hn := virtN_le (fs.take i)
    rw [List.length_take] at hn
    have hsucc := virtN_take hil
    refine idx_rdN hs rfl hil fun p _ hp => ?_
    refine ld_agg hp o1.ext rfl fun cs hcs => ?_
    refine new_stX hcs o1.ext rfl rfl fun p1 h3 o3 hb1 => ?_
    have next : ∀ n : Int, n = virtN (fs.take (i + 1)) → k n h3 := fun n hn => hk _ _ fun _ => ar_i64 (by omega) (by omega) ⟨fs.length - (i + 1), by omega, i + 1, by rw [hn]; rfl, by omega, rfl, o1.trans o3⟩
    refine ld_intX (fld_argKind.bx (fld_oReal.bx hb1)) ?_
    refine ifB_intro (fun hc => ?_) (fun hc => ?_)
    · have hc : fs[i].real.kind = 0 := by simpa using hc
      rw [if_pos hc] at hsucc
      exact ar_i64 (by omega) (by omega) (next _ (by omega))
    · have hc : ¬ fs[i].real.kind = 0 := by simpa using hc
      rw [if_neg hc] at hsucc
      exact next _ (by omega)
  · have hil : fs.length ≤ i := by rw [hl] at hc; simpa using hc
    rw [List.take_of_length_le hil]
    exact ⟨rfl, o1⟩

theorem open_calls {h : Heap} : ACalls Try.prog F_merge_open [] h (fun v h' => v = .agg (argC openA).toArray ∧ Old h h') := by
  refine merge_open_of ?_
  unfold merge_open
  refine new_rawB (Sep.start h) fun p h1 o1 S1 => ?_
  refine ⟨#[.int .i64 1, .string ⟨#[95]⟩, .int .i64 0], by kernel_rfl, ?_⟩
  exact st_allB S1 rfl rfl (fun v hv => by simp at hv; rcases hv with rfl | rfl | rfl <;> rfl) fun h2 S2 => ld_rawAgg S2 rfl ⟨rfl, S2.old⟩

theorem arg_one {a : MArg} : ∀ v ∈ (argC a).toArray.toList, v.oneCell' = true := by
  intro v hv
  simp [argC] at hv
  rcases hv with rfl | rfl | rfl <;> rfl
theorem agg_arg {h : Heap} {cs : Array Value} {a : MArg} (r : rArg.rv h cs.toList a) : cs = (argC a).toArray := by rw [arr_arg r]; rfl
theorem rv_argC {h : Heap} {a : MArg} : rArg.rv h (argC a).toArray.toList a := rv_arg.2 rfl

theorem bst_z {K : Array Value → Prop} (h : K (argC zArg).toArray) : bst [(0, 1), (1, 1), (2, 1)] #[.int .i64 0, .string ⟨#[]⟩, .int .i64 0] [] K := ⟨_, by kernel_rfl, h⟩

theorem one_callsM {h : Heap} {s : Sl} {v : List MArg} (hs : rdSl rArg.el h s v) (h0 : 0 < v.length) :
    ACalls Try.prog F_merge_one [s.v] h (fun u h' => u = .tuple #[.agg (argC (if oneF v then v.headD zArg else zArg)).toArray, .bool (oneF v)] ∧ Old h h') := by
  refine merge_one_of ?_
  unfold merge_one
  have hl := hs.lenEq
  have hb := hs.bound
  have hhead : v.headD zArg = v[0] := by cases v with | nil => simp at h0 | cons a l => rfl
  refine new_rawB (Sep.start h) fun p h1 o1 S1 => ?_
  refine loop_intro (fun m (q : Int) h' => ∃ i : Nat, q = i ∧ i ≤ v.length ∧ m = v.length - i ∧ Fw.Sep h h' [rawB p #[.int .i64 0, .string ⟨#[]⟩, .int .i64 0]] ∧ ∀ k (hk : k < v.length), k < i → v[k] = v[0]) v.length
    ⟨0, rfl, by omega, by omega, S1, fun k hk h => by omega⟩ ?_
  clear S1 o1
  rintro _ _ _ h2 ⟨i, rfl, hi, rfl, S2, hall⟩
  refine ifB_intro (fun hc => ?_) (fun hc => ?_)
  · have hil : i < v.length := by rw [hl] at hc; simpa using hc
    refine idx_rdN hs rfl hil fun p1 _ hp1 => ?_
    refine ld_agg hp1 S2.old.ext rfl fun x hx => ?_
    refine new_stR S2 rfl (size_rv hx) (fun u hu => RV.one _ hx u hu) fun p2 h4 S4 => ?_
    refine ld_rawAgg S4 (size_rv hx).symm ?_
    refine idx_rdN hs rfl h0 fun p3 _ hp3 => ?_
    refine ld_agg hp3 S4.old.ext rfl fun x2 hx2 => ?_
    refine eq_arg hx hx2 ?_
    by_cases e : v[i] = v[0]
    · rw [decide_eq_true e]
      refine ifB_false rfl (ar_i64 (by omega) (by omega) ⟨v.length - (i + 1), by omega, i + 1, rfl, by omega, rfl, S4.drop, fun k hk hki => ?_⟩)
      by_cases hk' : k = i
      · subst hk'; exact e
      · exact hall k hk (by omega)
    · rw [decide_eq_false e]
      refine ifB_true rfl (bst_z ?_)
      refine st_allB S4.swap rfl rfl arg_one fun h5 S5 => ld_rawAgg S5 rfl ⟨?_, S5.old⟩
      have : oneF v = false := by
        unfold oneF
        rw [List.all_eq_false]
        exact ⟨v[i], List.getElem_mem hil, by rw [hhead]; simpa using e⟩
      rw [this]
      rfl
  · have hil : v.length ≤ i := by rw [hl] at hc; simpa using hc
    have h1 : oneF v = true := by
      unfold oneF
      rw [List.all_eq_true]
      intro a ha
      obtain ⟨k, hk, rfl⟩ := List.getElem_of_mem ha
      rw [hhead]
      simpa using hall k hk (by omega)
    refine idx_rdN hs rfl h0 fun p4 _ hp4 => ?_
    refine ld_agg hp4 S2.old.ext rfl fun x4 hx4 => ?_
    refine st_allB S2 rfl (size_rv hx4) (fun u hu => RV.one _ hx4 u hu) fun h6 S6 => ld_rawAgg S6 (size_rv hx4).symm ⟨?_, S6.old⟩
    rw [h1, agg_arg hx4, hhead]
    rfl

/-- What is asked of the states of a meeting. -/
structure OkL (l : Ways) : Prop where
  rise : ∀ s ∈ l, Rising s
  len : ∀ s ∈ l, s.length ≤ 1000000
  vals : ∀ s ∈ l, ∀ o ∈ s, o.vals.length ≤ 1000000
  few : l.length ≤ 1000000

theorem reallyL_len {l : Ways} {v : List MArg} (h : v.length ≤ l.length) : (reallyL l v).length = v.length := by unfold reallyL; rw [List.length_zipWith]; omega
theorem reallyL_get {l : Ways} {v : List MArg} {i : Nat} (hl : i < l.length) (hv : i < v.length) : (reallyL l v)[i]? = some (reallyF l[i] v[i]) := by
  unfold reallyL
  rw [List.getElem?_zipWith, List.getElem?_eq_getElem hl, List.getElem?_eq_getElem hv]

/-- The states of a meeting are read. -/
theorem way_at {hb h : Heap} {m : Addr} {ls : Sl} {l : Ways} {i : Nat} {K : Sl → Prop} (hm : hcell h (m.add 0) = some ls.v) (hl : rdSl rObj.sl.el hb ls l) (e : hExt hb h) (hi : i < l.length) (hK : ∀ x, rdSl rObj.el hb x l[i] → K x) :
    nilck (some m) fun p => ld .sl h (p.add 0) fun x => idx 1 x i fun p1 => ld .sl h p1 K := by
  refine nil_some (ld_one (k := .sl) (x := ls) hm ?_)
  exact idx_rdN hl rfl hi fun p1 _ hp1 => ld_lst hp1 e hK

theorem reallyM_calls {hb h : Heap} {m : Addr} {ls s : Sl} {l : Ways} {v : List MArg} (hm : hcell h (m.add 0) = some ls.v) (hl : rdSl rObj.sl.el hb ls l) (ob : Old hb h) (ok : OkL l) (hs : rdSl rArg.el h s v) (hle : v.length ≤ l.length) :
    ACalls Try.prog F_merge_meeting_really [.pointer (some m), s.v] h (fun u h' => ∃ s' : Sl, u = s'.v ∧ Fw.Sep h h' [ownSl si_Lapi_Arg eArg s' (reallyL l v)]) := by
  refine merge_meeting_really_of ?_
  unfold merge_meeting_really
  have hsl := hs.lenEq
  have hb := hs.bound
  have hln := reallyL_len hle
  have hfew := ok.few
  refine loop_intro (fun k (q : Sl × Int) h' => ∃ i : Nat, q.2 = i ∧ i ≤ v.length ∧ k = v.length - i ∧ Fw.Sep h h' [ownSl si_Lapi_Arg eArg q.1 ((reallyL l v).take i)]) v.length
    ⟨0, rfl, by omega, by omega, (Sep.start h).nil rfl⟩ ?_
  rintro _ _ ⟨out, i⟩ h1 ⟨i, hi0, hi, rfl, S⟩
  simp only at hi0 S ⊢
  subst hi0
  refine ifB_intro (fun hc => ?_) (fun hc => ?_)
  · have hil : i < v.length := by rw [hsl] at hc; simpa using hc
    refine idx_rdN hs rfl hil fun p _ hp => ?_
    refine ld_agg hp S.old.ext rfl fun x hx => ?_
    refine new_stX hx S.old.ext rfl rfl fun p1 h3 o3 hb1 => ?_
    have o13 := S.old.trans o3
    refine way_at (o13.ext _ _ hm) hl (ob.trans o13).ext (by omega) fun x2 hx2 => ?_
    refine ld_aggX hb1 rfl fun x3 hx3 => ?_
    have hmem : l[i]'(by omega) ∈ l := List.getElem_mem (by omega)
    refine (really_calls (a := v[i]) (hx2.old (ob.trans o13)) (rv_arg.2 (rv_arg.1 hx3)) (ok.rise _ hmem) (by have := ok.len _ hmem; omega)).mono ?_
    rintro u h4 ⟨ds, rfl, o4, hd⟩
    refine ⟨_, rfl, ?_⟩
    refine app1_flat (v := .agg ds) (x := reallyF (l[i]'(by omega)) v[i]) (S.grow (o3.trans o4)) (fun _ => ⟨by rw [agg_arg hd]; rfl, rfl⟩) rfl (by decide) (by simp only [List.length_take, si_Lapi_Arg]; omega) (by simp only [List.length_take]; omega) fun s' h' S' => ?_
    refine ar_i64 (by omega) (by omega) ⟨v.length - (i + 1), by omega, i + 1, rfl, by omega, rfl, ?_⟩
    have e : (reallyL l v).take (i + 1) = (reallyL l v).take i ++ [reallyF (l[i]'(by omega)) v[i]] := by
      rw [List.take_add_one, reallyL_get (by omega) hil]
      rfl
    rw [e]
    exact S'
  · have hil : v.length ≤ i := by rw [hsl] at hc; simpa using hc
    rw [List.take_of_length_le (by omega)] at S
    exact ⟨out, rfl, S⟩

theorem fieldM_calls {hb h : Heap} {m : Addr} {ls s : Sl} {l : Ways} {fs : List MObj} {at' : Nat} (hm : hcell h (m.add 0) = some ls.v) (hl : rdSl rObj.sl.el hb ls l) (ob : Old hb h) (ok : OkL l) (hs : rdSl rObj.el h s fs) (hle : fs.length ≤ l.length) (hat : ∀ o ∈ fs, at' < o.vals.length) :
    ACalls Try.prog F_merge_meeting_field [.pointer (some m), s.v, .int .i64 at'] h (fun u h' => ∃ s' : Sl, u = s'.v ∧ Fw.Sep h h' [ownSl si_Lapi_Arg eArg s' (fieldL l fs at')]) := by
  refine merge_meeting_field_of ?_
  unfold merge_meeting_field
  have hsl := hs.lenEq
  have hb := hs.bound
  have hfew := ok.few
  refine loop_intro (fun k (q : Sl × Int) h' => ∃ i : Nat, q.2 = i ∧ i ≤ fs.length ∧ k = fs.length - i ∧ Fw.Sep h h' [ownSl si_Lapi_Arg eArg q.1 ((fs.take i).map fun o => o.vals.getD at' zArg)]) fs.length
    ⟨0, rfl, by omega, by omega, (Sep.start h).nil rfl⟩ ?_
  rintro _ _ ⟨out, i⟩ h1 ⟨i, hi0, hi, rfl, S⟩
  simp only at hi0 S ⊢
  subst hi0
  refine ifB_intro (fun hc => ?_) (fun hc => ?_)
  · have hil : i < fs.length := by rw [hsl] at hc; simpa using hc
    have hai := hat _ (List.getElem_mem hil)
    refine idx_rdN hs rfl hil fun p _ hp => ?_
    refine ld_agg hp S.old.ext rfl fun x hx => ?_
    refine new_stX hx S.old.ext rfl rfl fun p1 h3 o3 hb1 => ?_
    have o13 := S.old.trans o3
    refine ld_lstX (fld_oVals.bx hb1) fun x1 hx1 => ?_
    refine idx_rdN hx1 rfl hai fun p2 _ hp2 => ?_
    refine ld_agg hp2 o13.ext rfl fun x2 hx2 => ?_
    refine app1_flat (v := .agg x2) (x := fs[i].vals[at']) (S.grow o3) (fun _ => ⟨by rw [agg_arg hx2]; rfl, rfl⟩) rfl (by decide) (by simp only [List.length_map, List.length_take, si_Lapi_Arg]; omega) (by simp only [List.length_map, List.length_take]; omega) fun s' h' S' => ?_
    refine ar_i64 (by omega) (by omega) ⟨fs.length - (i + 1), by omega, i + 1, rfl, by omega, rfl, ?_⟩
    rw [List.take_succ_eq_append_getElem hil, List.map_append]
    have e : [fs[i]].map (fun o : MObj => o.vals.getD at' zArg) = [fs[i].vals[at']] := by simp [List.getElem?_eq_getElem hai]
    rw [e]
    exact S'
  · have hil : fs.length ≤ i := by rw [hsl] at hc; simpa using hc
    rw [List.take_of_length_le (by omega)] at S
    refine (reallyM_calls (S.old.ext _ _ hm) hl (ob.trans S.old) ok (rd_arg.1 S.rd) (by simpa using hle)).mono ?_
    rintro u h6 ⟨s', rfl, S6⟩
    exact ⟨s', rfl, s', rfl, ⟨S.old.trans S6.old, S6.all, by
      obtain ⟨f, q1, q2, q3⟩ := S6.owns
      exact ⟨f, q1, q2, fun b hb => ⟨Nat.le_trans S.old.size (q3 b hb).1, (q3 b hb).2⟩⟩⟩⟩

end Go.Proofs.Ytncbpalncgcoaaa

/-
  merge: what is needed.
-/
namespace Go.Proofs.Ytncbpalncgcoaaa
open Go.Fw Go.Pl.Api Go.Pl.Vst Go.Pl.Mrg

/-- A meeting's cells. -/
def mCells (ls nd a b c d : Sl) : Array Value := #[ls.v, nd.v, a.v, b.v, c.v, d.v]
theorem m_cell {h0 h : Heap} {L : List As} {m : Addr} {cs : Array Value} (S : Fw.Sep h0 h (rawB m cs :: L)) {j : Nat} {v : Value} (hv : cs[j]? = some v) : hcell h (m.add j) = some v := by rw [(rawB_cell S).2 j]; exact hv

theorem wantsF_len {l : Ways} {N : Need} {i : Nat} {a : MArg} : (wantsF l N i a).length = N.length := by unfold wantsF; split <;> simp
theorem wantUp_len {l : Ways} {v : List MArg} : ∀ {i : Nat} {N : Need}, (wantUp l v i N).length = N.length
  | 0, _ => rfl
  | i + 1, N => by unfold wantUp; rw [wantsF_len, wantUp_len]
theorem fieldsUp_len {l : Ways} {fs : List MObj} : ∀ {i : Nat} {N : Need}, (fieldsUp l fs i N).length = N.length
  | 0, _ => rfl
  | i + 1, N => by
    unfold fieldsUp
    split
    · exact fieldsUp_len
    · rw [wantUp_len, fieldsUp_len]
theorem objectF_len {l : Ways} {fs : List MObj} {N : Need} : (objectF l fs N).length = N.length := by
  unfold objectF
  split
  · exact wantUp_len
  · exact fieldsUp_len
theorem rowWant_len {l : Ways} {r : List MArg} {N : Need} : (rowWant l r N).length = N.length := by
  unfold rowWant
  split
  · rfl
  · exact wantUp_len

abbrev eN : Elem (List (Int × Bool)) := eM vfB
theorem wants_calls {h0 h : Heap} {X : List As} {m : Addr} {ls nd q1 q2 q3 q4 : Sl} {l : Ways} {N : Need} {i : Nat} {ca : Array Value} {a : MArg}
    (S : Fw.Sep h0 h (rawB m (mCells ls nd q1 q2 q3 q4) :: ownSl si_Lmap_int64_bool eN nd N :: X)) (hl : rdSl rObj.sl.el h0 ls l) (ok : OkL l) (hN : N.length = l.length) (hi : i < l.length) (ha : ca.toList = argC a) :
    ACalls Try.prog F_merge_meeting_wants [.pointer (some m), .int .i64 i, .agg ca] h
      (fun u h' => u = .tuple #[] ∧ hExt h h' ∧ Fw.Sep h0 h' (rawB m (mCells ls nd q1 q2 q3 q4) :: ownSl si_Lmap_int64_bool eN nd (wantsF l N i a) :: X)) := by
  refine merge_meeting_wants_of ?_
  unfold merge_meeting_wants
  refine new_rv (rv_arg.2 ha) fun p h1 o1 hp => ?_
  have S1 := S.grow o1
  refine way_at (m_cell S1 rfl) hl S1.old.ext hi fun x hx => ?_
  refine ld_agg hp (hExt.refl _) rfl fun c1 hc1 => ?_
  have hmem : l[i] ∈ l := List.getElem_mem hi
  refine (virt_calls (a := a) (hx.old S1.old) (rv_arg.2 (rv_arg.1 hc1)) (ok.rise _ hmem) (by have := ok.len _ hmem; omega)).mono ?_
  rintro u h2 ⟨rfl, o2⟩
  refine ⟨_, rfl, o2.ext, ?_⟩
  have S2 := S1.grow o2
  have hget : l.getD i [] = l[i] := by simp [List.getElem?_eq_getElem hi]
  refine ifB_intro (fun hc => ?_) (fun hc => ?_)
  · refine nil_some (ld_one (k := .sl) (x := nd) (m_cell S2 rfl) ?_)
    have hiN : i < N.length := by omega
    obtain ⟨b, hb, S3, hback⟩ := map_at S2.swap hiN
    refine idx_rdN S2.swap.rd rfl hiN fun p4 hp4 _ => ?_
    refine ld_one (k := .map) (x := some b) (hb p4 hp4) ?_
    refine ld_int (fld_argN.rd hp) o2.ext ?_
    have e : wantsF l N i a = N.set i (I.aput a.n true N[i]) := by
      unfold wantsF
      rw [hget, if_pos hc]
      simp [List.getElem?_eq_getElem hiN]
    rw [e]
    refine mup_mono (mup_ext (I.mup_rule (k := a.n) (x := true) (K := fun h' => Fw.Sep h0 h' (I.ownM vfB (some b) (I.aput a.n true N[i]) :: _)) S3 rfl fun h3 S4 => S4)) fun h' ⟨S4, e4⟩ => ?_
    exact ⟨rfl, fun q v hv => e4 _ _ ((o1.trans o2).ext _ _ hv), (hback h' _ _ S4).swap⟩
  · have e : wantsF l N i a = N := by unfold wantsF; rw [hget, if_neg (by simpa using hc)]
    rw [e]
    exact ⟨rfl, (o1.trans o2).ext, S2⟩

theorem rv_toA {h : Heap} (n : Int) : rArg.rv h (#[Value.int .i64 5, .string ⟨#[]⟩, .int .i64 n] : Array Value).toList (toA n) := rv_arg.2 rfl
theorem all_take {l : Ways} {p : List MObj → Bool} {i : Nat} (hi : i < l.length) (h : (l.take i).all p = true) (h2 : p l[i] = true) : (l.take (i + 1)).all p = true := by
  rw [List.take_succ_eq_append_getElem hi, List.all_append, h]
  simpa using h2

theorem of_calls {hb h : Heap} {m : Addr} {ls : Sl} {l : Ways} (hm : hcell h (m.add 0) = some ls.v) (hl : rdSl rObj.sl.el hb ls l) (ob : Old hb h) (ok : OkL l) (id : Int) :
    ACalls Try.prog F_merge_meeting_of [.pointer (some m), .int .i64 id] h (fun u h' => ∃ s' : Sl, u = .tuple #[s'.v, .bool (commonF l id)] ∧ Fw.Sep h h' [ownSl si_Lvstate_Obj eO s' (if commonF l id then formsF l id else [])]) := by
  refine merge_meeting_of_of ?_
  unfold merge_meeting_of
  refine nil_some (ld_one (k := .sl) (x := ls) hm ?_)
  have hsl := hl.lenEq
  have hfew := ok.few
  have hfl : (formsF l id).length = l.length := by simp [formsF]
  refine loop_intro (fun k (q : Sl × Int) h' => ∃ i : Nat, q.2 = i ∧ i ≤ l.length ∧ k = l.length - i ∧ Fw.Sep h h' [ownSl si_Lvstate_Obj eO q.1 ((formsF l id).take i)] ∧ ((l.take i).all fun s => (findF s (toA id)).isSome) = true) l.length
    ⟨0, rfl, by omega, by omega, (Sep.start h).nil rfl, by simp⟩ ?_
  rintro _ _ ⟨out, i⟩ h1 ⟨i, hi0, hi, rfl, S, hall⟩
  simp only at hi0 S ⊢
  subst hi0
  refine ifB_intro (fun hc => ?_) (fun hc => ?_)
  · have hil : i < l.length := by rw [hsl] at hc; simpa using hc
    have hmem : l[i] ∈ l := List.getElem_mem hil
    refine idx_rdN hl rfl hil fun p _ hp => ?_
    refine ld_lst hp (ob.trans S.old).ext fun x1 hx1 => ?_
    refine bst_ref ?_
    refine (Find_calls (a := toA id) (hx1.old (ob.trans S.old)) (rv_toA id) (ok.rise _ hmem) (by have := ok.len _ hmem; omega) (ok.vals _ hmem)).mono ?_
    rintro u h2 ⟨ds, rfl, hsz, S2⟩
    refine ⟨_, _, rfl, ?_⟩
    have S3 := S.frame S2
    refine new_stR S3 rfl hsz (fun v hv => by obtain ⟨f, hf⟩ := S2.get; exact eO.one hf v hv) fun p2 h4 S4 => ?_
    cases hf : findF l[i] (toA id) with
    | none =>
      refine ifB_true rfl ⟨⟨none, 0, 0⟩, ?_, ?_⟩
      · have : commonF l id = false := by
          unfold commonF
          rw [List.all_eq_false]
          exact ⟨l[i], hmem, by rw [hf]; simp⟩
        rw [this]
      · have : commonF l id = false := by
          unfold commonF
          rw [List.all_eq_false]
          exact ⟨l[i], hmem, by rw [hf]; simp⟩
        rw [this]
        have S5 : Fw.Sep h h4 [] := S4.drop.drop.drop
        exact S5.nil rfl
    | some o =>
      refine ifB_false rfl (ld_rawAgg S4 hsz.symm ?_)
      rw [hf] at S4
      have S5 : Fw.Sep h h4 (ownSl si_Lvstate_Obj eO out ((formsF l id).take i) :: ownEl eO (Value.agg ds).cells.toList o :: []) := S4.drop.swap
      refine app1_rule S5 rfl (by decide) (by simp only [List.length_take, si_Lvstate_Obj]; omega) (by simp only [List.length_take]; omega) fun s' h' S' => ?_
      refine ar_i64 (by omega) (by have := hl.bound; omega) ⟨l.length - (i + 1), by omega, i + 1, rfl, by omega, rfl, ?_, all_take hil hall (by rw [hf]; rfl)⟩
      have e : (formsF l id).take (i + 1) = (formsF l id).take i ++ [o] := by
        rw [List.take_succ_eq_append_getElem (by omega)]
        congr 2
        simp [formsF, hf]
      rw [e]
      exact S'
  · have hil : l.length ≤ i := by rw [hsl] at hc; simpa using hc
    rw [List.take_of_length_le hil] at hall
    have hcm : commonF l id = true := hall
    rw [List.take_of_length_le (by omega)] at S
    exact ⟨out, by rw [hcm], by rw [hcm]; exact S⟩

theorem head_get {α : Type} {v : List α} {d : α} (h : 0 < v.length) : v.headD d = v[0] := by cases v with | nil => simp at h | cons a l => rfl

theorem alias_calls {hb h : Heap} {m : Addr} {ls s : Sl} {l : Ways} {row : List MArg} (hm : hcell h (m.add 0) = some ls.v) (hl : rdSl rObj.sl.el hb ls l) (ob : Old hb h) (ok : OkL l) (hs : rdSl rArg.el h s row) (h0 : 0 < row.length) (hle : row.length ≤ l.length) :
    ACalls Try.prog F_merge_meeting_alias [.pointer (some m), s.v] h (fun u h' => u = .tuple #[.agg (argC (if aliasB l row then row.headD zArg else zArg)).toArray, .bool (aliasB l row)] ∧ Old h h') := by
  refine merge_meeting_alias_of ?_
  unfold merge_meeting_alias
  have hsl := hs.lenEq
  have hbd := hs.bound
  have hhead := head_get (d := zArg) h0
  refine new_rawB (Sep.start h) fun p h1 o1 S1 => ?_
  refine loop_intro (fun k (q : Int) h' => ∃ i : Nat, q = i ∧ i ≤ row.length ∧ k = row.length - i ∧ Fw.Sep h h' [rawB p #[.int .i64 0, .string ⟨#[]⟩, .int .i64 0]] ∧ ∀ j, j < i → row.getD j zArg = row.headD zArg ∧ virtF (l.getD j []) (row.getD j zArg) = true) row.length
    ⟨0, rfl, by omega, by omega, S1, fun j hj => by omega⟩ ?_
  clear S1 o1
  rintro _ _ _ h2 ⟨i, rfl, hi, rfl, S2, hall⟩
  refine ifB_intro (fun hc => ?_) (fun hc => ?_)
  · have hil : i < row.length := by rw [hsl] at hc; simpa using hc
    have hiL : i < l.length := by omega
    have hrow : row.getD i zArg = row[i] := by simp [List.getElem?_eq_getElem hil]
    have hway : l.getD i [] = l[i] := by simp [List.getElem?_eq_getElem hiL]
    refine idx_rdN hs rfl hil fun p1 _ hp1 => ?_
    refine ld_agg hp1 S2.old.ext rfl fun x hx => ?_
    refine new_stR S2 rfl (size_rv hx) (fun u hu => RV.one _ hx u hu) fun p2 h4 S4 => ?_
    intro k hk
    have bad : ∀ h', Old h4 h' → ¬ (row[i] = row[0] ∧ virtF l[i] row[i] = true) → k true h' := fun h' o' hno => hk _ _ fun _ => ifB_true rfl <| by
      have ha : aliasB l row = false := decide_eq_false fun hh => hno (by have := hh i hil; rwa [hrow, hway, hhead] at this)
      refine bst_z (st_allB (S4.grow o').swap rfl rfl arg_one fun h5 S5 => ld_rawAgg S5 rfl ⟨?_, S5.old⟩)
      rw [ha]
      rfl
    refine ld_rawAgg S4 (size_rv hx).symm ?_
    refine idx_rdN hs rfl h0 fun p3 _ hp3 => ?_
    refine ld_agg hp3 S4.old.ext rfl fun x2 hx2 => ?_
    refine eq_arg hx hx2 ?_
    by_cases e : row[i] = row[0]
    · rw [decide_eq_true e]
      refine ifB_false rfl ?_
      refine way_at (S4.old.ext _ _ hm) hl (ob.trans S4.old).ext hiL fun x5 hx5 => ?_
      refine ld_rawAgg S4 (size_rv hx).symm ?_
      have hmem : l[i] ∈ l := List.getElem_mem hiL
      refine (virt_calls (a := row[i]) (hx5.old (ob.trans S4.old)) (rv_arg.2 (rv_arg.1 hx)) (ok.rise _ hmem) (by have := ok.len _ hmem; omega)).mono ?_
      rintro u h7 ⟨rfl, o7⟩
      refine ⟨_, rfl, o7.ext, ?_⟩
      by_cases hv : virtF l[i] row[i] = true
      · rw [hv]
        refine hk _ _ fun _ => ifB_false rfl (ar_i64 (by omega) (by omega) ⟨row.length - (i + 1), by omega, i + 1, rfl, by omega, rfl, (S4.drop).grow o7, fun j hj => ?_⟩)
        by_cases hj' : j = i
        · subst hj'; exact ⟨by rw [hrow, hhead]; exact e, by rw [hrow, hway]; exact hv⟩
        · exact hall j (by omega)
      · rw [Bool.eq_false_iff.2 hv]
        exact bad h7 o7 fun hh => hv hh.2
    · rw [decide_eq_false e]
      exact ifB_true rfl (bad h4 (.refl _) fun hh => e hh.1)
  · have hil : row.length ≤ i := by rw [hsl] at hc; simpa using hc
    have ha : aliasB l row = true := decide_eq_true fun j hj => hall j (by omega)
    refine idx_rdN hs rfl h0 fun p6 _ hp6 => ?_
    refine ld_agg hp6 S2.old.ext rfl fun x7 hx7 => ?_
    refine st_allB S2 rfl (size_rv hx7) (fun u hu => RV.one _ hx7 u hu) fun h8 S8 => ld_rawAgg S8 (size_rv hx7).symm ⟨?_, S8.old⟩
    rw [ha, agg_arg hx7, hhead]
    rfl

/-- All of a row are wanted, one after another: the loop's step. -/
theorem wantUp_step {l : Ways} {v : List MArg} {i : Nat} {N : Need} (hi : i < v.length) : wantUp l v (i + 1) N = wantsF l (wantUp l v i N) i v[i] := by
  rw [wantUp]
  simp [List.getElem?_eq_getElem hi]

theorem row_calls {h0 h : Heap} {X : List As} {m : Addr} {ls nd q1 q2 q3 q4 s : Sl} {l : Ways} {N : Need} {row : List MArg}
    (S : Fw.Sep h0 h (rawB m (mCells ls nd q1 q2 q3 q4) :: ownSl si_Lmap_int64_bool eN nd N :: X)) (hl : rdSl rObj.sl.el h0 ls l) (ok : OkL l) (hN : N.length = l.length) (hs : rdSl rArg.el h0 s row) (hr0 : 0 < row.length) (hle : row.length ≤ l.length) :
    ACalls Try.prog F_merge_meeting_row [.pointer (some m), s.v] h
      (fun u h' => u = .tuple #[] ∧ Fw.Sep h0 h' (rawB m (mCells ls nd q1 q2 q3 q4) :: ownSl si_Lmap_int64_bool eN nd (rowWant l row N) :: X)) := by
  refine merge_meeting_row_of ?_
  unfold merge_meeting_row
  have hsl := hs.lenEq
  have hbd := hs.bound
  refine (alias_calls (m_cell S rfl) hl S.old ok (hs.old S.old) hr0 hle).mono ?_
  rintro u h1 ⟨rfl, o1⟩
  refine ⟨_, _, rfl, ?_⟩
  refine new_rawB (S.grow o1) fun p h2 o2 S2 => ?_
  refine st_allB S2 rfl rfl arg_one fun h3 S3 => ?_
  have S3 := S3.drop
  clear S2
  refine ifB_intro (fun hc => ?_) (fun hc => ?_)
  · have e : rowWant l row N = N := by unfold rowWant; rw [if_pos hc]
    rw [e]
    exact ⟨rfl, S3⟩
  have e : rowWant l row N = wantUp l row row.length N := by unfold rowWant; rw [if_neg (by simpa using hc)]
  rw [e]
  refine loop_intro (fun k (q : Int) h' => ∃ i : Nat, q = i ∧ i ≤ row.length ∧ k = row.length - i ∧ Fw.Sep h0 h' (rawB m (mCells ls nd q1 q2 q3 q4) :: ownSl si_Lmap_int64_bool eN nd (wantUp l row i N) :: X)) row.length
    ⟨0, rfl, by omega, by omega, S3⟩ ?_
  clear S3
  rintro _ _ _ h4 ⟨i, rfl, hi, rfl, S4⟩
  refine ifB_intro (fun hc => ?_) (fun hc => ?_)
  · have hil : i < row.length := by rw [hsl] at hc; simpa using hc
    refine idx_rdN hs rfl hil fun p1 _ hp1 => ?_
    refine ld_agg hp1 S4.old.ext rfl fun x hx => ?_
    refine new_rawB S4 fun p2 h5 o5 S5 => ?_
    refine st_allB S5 rfl (size_rv hx) (fun u hu => RV.one _ hx u hu) fun h6 S6 => ?_
    refine ld_rawAgg S6 (size_rv hx).symm ?_
    refine (wants_calls (a := row[i]) S6.drop hl ok (by rw [wantUp_len, hN]) (by omega) (rv_arg.1 hx)).mono ?_
    rintro u h7 ⟨rfl, _, S7⟩
    refine ⟨rfl, ar_i64 (by omega) (by omega) ⟨row.length - (i + 1), by omega, i + 1, rfl, by omega, rfl, ?_⟩⟩
    rw [wantUp_step hil]
    exact S7
  · have hil : i = row.length := by rw [hsl] at hc; have : row.length ≤ i := by simpa using hc
                                    omega
    subst hil
    exact ⟨rfl, S4⟩

end Go.Proofs.Ytncbpalncgcoaaa

/-
  merge: what a common object needs; phis.
-/
namespace Go.Proofs.Ytncbpalncgcoaaa
open Go.Fw Go.Pl.Api Go.Pl.Vst Go.Pl.Mrg

theorem fieldL_len {l : Ways} {fs : List MObj} {at' : Nat} (h : fs.length ≤ l.length) : (fieldL l fs at').length = fs.length := by
  unfold fieldL
  rw [reallyL_len (by simpa using h), List.length_map]
theorem ext_tr {a b c : Heap} (h : hExt a b) (k : hExt b c) : hExt a c := fun p v hv => k p v (h p v hv)

set_option maxHeartbeats 1000000 in
theorem object_calls {h0 h : Heap} {X : List As} {m : Addr} {ls nd q1 q2 q3 q4 s : Sl} {l : Ways} {N : Need} {fs : List MObj}
    (S : Fw.Sep h0 h (rawB m (mCells ls nd q1 q2 q3 q4) :: ownSl si_Lmap_int64_bool eN nd N :: X)) (hl : rdSl rObj.sl.el h0 ls l) (ok : OkL l) (hN : N.length = l.length) (hs : rdSl rObj.el h s fs) (hlen : fs.length = l.length) (hf0 : 0 < fs.length)
    (hat : ∀ o ∈ fs, o.vals.length = (fs.headD zObj).vals.length) :
    ACalls Try.prog F_merge_meeting_object [.pointer (some m), s.v] h
      (fun u h' => u = .tuple #[] ∧ hExt h h' ∧ Fw.Sep h0 h' (rawB m (mCells ls nd q1 q2 q3 q4) :: ownSl si_Lmap_int64_bool eN nd (objectF l fs N) :: X)) := by
  refine merge_meeting_object_of ?_
  unfold merge_meeting_object
  have hsl := hs.lenEq
  have hbd := hs.bound
  have hfew := ok.few
  have hvn := virtN_le fs
  refine (virtual_calls hs).mono ?_
  rintro u h1 ⟨rfl, o1⟩
  refine ⟨_, rfl, ?_⟩
  refine loop_intro (fun k (q : Int) h' => ∃ i : Nat, q = i ∧ i ≤ fs.length ∧ k = fs.length - i ∧ hExt h h' ∧ Fw.Sep h0 h' (rawB m (mCells ls nd q1 q2 q3 q4) :: ownSl si_Lmap_int64_bool eN nd (if virtN fs < fs.length then wantUp l (fs.map fun o => toA o.id) i N else N) :: X)) fs.length
    ⟨0, rfl, by omega, by omega, o1.ext, by
      have : (if virtN fs < fs.length then wantUp l (fs.map fun o => toA o.id) 0 N else N) = N := by split <;> rfl
      rw [this]; exact S.grow o1⟩ ?_
  clear S o1
  rintro _ _ _ h2 ⟨i, rfl, hi, rfl, e2, S2⟩
  refine ifB_intro (fun hc => ?_) (fun hc => ?_)
  · have hil : i < fs.length := by rw [hsl] at hc; simpa using hc
    intro k hk
    refine idx_rdN hs rfl hil fun p _ hp => ?_
    refine ld_agg hp e2 rfl fun x hx => ?_
    refine new_stX hx e2 rfl rfl fun p1 h5 o5 hb1 => ?_
    have S5 := S2.grow o5
    by_cases hv : virtN fs < fs.length
    · rw [hsl, decide_eq_true (show (virtN fs : Int) < (fs.length : Int) by omega)]
      rw [if_pos hv] at S5
      refine ifB_true rfl ?_
      refine ld_intX (fld_oId.bx hb1) ?_
      refine bst_ref ?_
      refine (wants_calls (a := toA fs[i].id) S5 hl ok (by rw [wantUp_len, hN]) (by omega) rfl).mono ?_
      rintro u h6 ⟨rfl, e6, S6⟩
      refine ⟨rfl, hk _ _ fun _ => ar_i64 (by omega) (by omega) ⟨fs.length - (i + 1), by omega, i + 1, rfl, by omega, rfl, ext_tr (ext_tr e2 o5.ext) e6, ?_⟩⟩
      rw [if_pos hv, wantUp_step (by simpa using hil), List.getElem_map]
      exact S6
    · rw [hsl, decide_eq_false (show ¬ (virtN fs : Int) < (fs.length : Int) by omega)]
      rw [if_neg hv] at S5
      refine ifB_false rfl (hk _ _ fun _ => ar_i64 (by omega) (by omega) ⟨fs.length - (i + 1), by omega, i + 1, rfl, by omega, rfl, ext_tr e2 o5.ext, ?_⟩)
      rw [if_neg hv]
      exact S5
  have hil : i = fs.length := by rw [hsl] at hc; have : fs.length ≤ i := by simpa using hc
                                 omega
  subst hil
  clear hc hi
  by_cases hv : virtN fs < fs.length
  · rw [if_pos hv] at S2
    rw [hsl, decide_eq_true (show (virtN fs : Int) < (fs.length : Int) by omega)]
    have e : objectF l fs N = wantUp l (fs.map fun o => toA o.id) fs.length N := by unfold objectF; rw [if_pos hv]
    rw [e]
    exact ifB_true rfl ⟨rfl, e2, S2⟩
  rw [if_neg hv] at S2
  rw [hsl, decide_eq_false (show ¬ (virtN fs : Int) < (fs.length : Int) by omega)]
  have e : objectF l fs N = fieldsUp l fs (fs.headD zObj).vals.length N := by unfold objectF; rw [if_neg hv]
  rw [e]
  clear e
  have hhead := head_get (d := zObj) hf0
  refine ifB_false rfl ?_
  refine idx_rdN hs rfl hf0 fun p2 _ hp2 => ?_
  refine ld_lst (fld_oVals.rd hp2) e2 fun x2 hx2 => ?_
  have hx2l := hx2.lenEq
  have hx2b := hx2.bound
  rw [← hhead] at hx2l hx2b
  generalize hn : (fs.headD zObj).vals.length = n at *
  refine loop_intro (fun k (q : Int) h' => ∃ i : Nat, q = i ∧ i ≤ n ∧ k = n - i ∧ hExt h h' ∧ Fw.Sep h0 h' (rawB m (mCells ls nd q1 q2 q3 q4) :: ownSl si_Lmap_int64_bool eN nd (fieldsUp l fs i N) :: X)) n
    ⟨0, rfl, by omega, by omega, e2, S2⟩ ?_
  clear S2 e2
  rintro _ _ _ h7 ⟨i, rfl, hi, rfl, e7, S7⟩
  refine ifB_intro (fun hc => ?_) (fun hc => ?_)
  · have hil : i < n := by rw [hx2l] at hc; simpa using hc
    intro k hk
    have next : ∀ h', hExt h h' → Fw.Sep h0 h' (rawB m (mCells ls nd q1 q2 q3 q4) :: ownSl si_Lmap_int64_bool eN nd (fieldsUp l fs (i + 1) N) :: X) → k () h' := fun h' e' S' => hk _ _ fun _ => ar_i64 (by omega) (by omega) ⟨n - (i + 1), by omega, i + 1, rfl, by omega, rfl, e', S'⟩
    refine (fieldM_calls (at' := i) (m_cell S7 rfl) hl S7.old ok (hs.ext e7) (by omega) (fun o ho => by rw [hat o ho]; exact hil)).mono ?_
    rintro u h9 ⟨s1, rfl, S9⟩
    refine ⟨_, rfl, ?_⟩
    have hvl : (fieldL l fs i).length = fs.length := fieldL_len (by omega)
    have hs1 := rd_arg.1 S9.rd
    have hs1l := hs1.lenEq
    have hs1b := hs1.bound
    generalize hV : fieldL l fs i = V at *
    have o79 := S9.old
    refine (one_callsM hs1 (by omega)).mono ?_
    rintro u h10 ⟨rfl, o10⟩
    refine ⟨_, _, rfl, ?_⟩
    refine new_stR (Sep.start h10) rfl rfl arg_one fun p3 h12 S12 => ?_
    have o712 := o79.trans (o10.trans S12.old)
    have hs1 := hs1.old (o10.trans S12.old)
    have S12' := S7.grow o712
    have e12 := ext_tr e7 o712.ext
    clear S12 S9
    refine ifB_intro (fun h1 => next h12 e12 ?_) (fun h1 => ?_)
    · unfold fieldsUp
      rw [hV, if_pos h1]
      exact S12'
    refine loop_intro (fun k (q : Int) h' => ∃ j : Nat, q = j ∧ j ≤ V.length ∧ k = V.length - j ∧ hExt h12 h' ∧ Fw.Sep h0 h' (rawB m (mCells ls nd q1 q2 q3 q4) :: ownSl si_Lmap_int64_bool eN nd (wantUp l V j (fieldsUp l fs i N)) :: X)) V.length
      ⟨0, rfl, by omega, by omega, hExt.refl _, S12'⟩ ?_
    rintro _ _ _ h13 ⟨j, rfl, hj, rfl, e13, S13⟩
    refine ifB_intro (fun hc => ?_) (fun hc => ?_)
    · have hjl : j < V.length := by rw [hs1l] at hc; simpa using hc
      refine idx_rdN hs1 rfl hjl fun p4 _ hp4 => ?_
      refine ld_agg hp4 e13 rfl fun x3 hx3 => ?_
      refine new_stX hx3 e13 rfl rfl fun p5 h15 o15 hb5 => ?_
      refine ld_aggX hb5 rfl fun x4 hx4 => ?_
      refine (wants_calls (a := V[j]) (S13.grow o15) hl ok (by rw [wantUp_len, fieldsUp_len, hN]) (by omega) (rv_arg.1 hx4)).mono ?_
      rintro u h16 ⟨rfl, e16, S16⟩
      refine ⟨rfl, ar_i64 (by omega) (by omega) ⟨V.length - (j + 1), by omega, j + 1, rfl, by omega, rfl, ext_tr (ext_tr e13 o15.ext) e16, ?_⟩⟩
      rw [wantUp_step hjl]
      exact S16
    · have hjl : j = V.length := by rw [hs1l] at hc; have : V.length ≤ j := by simpa using hc
                                    omega
      subst hjl
      refine next h13 (ext_tr e12 e13) ?_
      unfold fieldsUp
      rw [hV, if_neg (by simpa using h1)]
      exact S13
  · have hil : i = n := by rw [hx2l] at hc; have : n ≤ i := by simpa using hc
                           omega
    subst hil
    exact ⟨rfl, e7, S7⟩

end Go.Proofs.Ytncbpalncgcoaaa

/-
  merge: phis, what is merged.
-/
namespace Go.Proofs.Ytncbpalncgcoaaa
open Go.Fw Go.Pl.Api Go.Pl.Vst Go.Pl.Mrg

def rPhiM : RV GPhi := (rInt.two (rInt.two (rArg.sl.two RV.unit))).via fun a => (a.id, a.field, a.ins, ())
theorem fld_pId : Fld rPhiM rInt 0 GPhi.id := Fld.fst.via
theorem fld_pField : Fld rPhiM rInt 1 GPhi.field := (Fld.snd.trans Fld.fst rfl).via
theorem fld_pIns : Fld rPhiM rArg.sl 2 GPhi.ins := (Fld.snd.trans (Fld.snd.trans Fld.fst rfl) rfl).via
theorem rv_phi {h : Heap} {cs : List Value} {o : GPhi} : rPhiM.rv h cs o ↔ ∃ s : Sl, cs = [.int .i64 o.id, .int .i64 o.field, s.v] ∧ rdSl rArg.el h s o.ins := by
  constructor
  · rintro ⟨c1, c2, rfl, h1, c3, c4, rfl, h2, c5, c6, rfl, h3, h6⟩
    have h1 : c1 = [.int .i64 o.id] := h1
    have h2 : c3 = [.int .i64 o.field] := h2
    have h6 : c6 = [] := h6
    obtain ⟨s, h3, h4⟩ := h3
    subst h1 h2 h3 h6
    exact ⟨s, rfl, h4⟩
  · rintro ⟨s, rfl, hs⟩
    exact ⟨[.int .i64 o.id], _, rfl, rfl, [.int .i64 o.field], _, rfl, rfl, [s.v], [], rfl, ⟨s, rfl, hs⟩, rfl⟩
/-- Phis of one's own. -/
def ePhi : Elem GPhi where
  size := 3
  own xs o h f := ∃ s : Sl, xs = [.int .i64 o.id, .int .i64 o.field, s.v] ∧ ownSl si_Lapi_Arg eArg s o.ins h f
  rd := rPhiM.el.rd
  len o := by obtain ⟨s, rfl, _⟩ := o; rfl
  one o v hv := by
    obtain ⟨s, rfl, _⟩ := o
    simp at hv
    rcases hv with rfl | rfl | rfl <;> rfl
  loc o hb := by obtain ⟨s, h1, h2⟩ := o; exact ⟨s, h1, loc_ownSl h2 hb⟩
  toRd o hs hc := by
    obtain ⟨s, h1, h2⟩ := o
    exact ⟨hs, _, hc, rv_phi.2 ⟨s, h1, rd_arg.1 (ownSl_rd h2)⟩⟩
  ext := rPhiM.el.ext
theorem rd_phi {h : Heap} {s : Sl} {l : List GPhi} : rdSl ePhi h s l ↔ rdSl rPhiM.el h s l := Iff.rfl

/-- A meeting, and its phis. -/
def mPhis (m : Addr) (ls nd q1 q2 q4 : Sl) (P : List GPhi) : As := fun h f => ∃ (q : Sl) (f1 f2 : List Nat), f = f1 ++ f2 ∧ rawB m (mCells ls nd q1 q2 q q4) h f1 ∧ ownSl si_Lmerge_Phi ePhi q P h f2
theorem loc_mPhis {m : Addr} {ls nd q1 q2 q4 : Sl} {P : List GPhi} : Fw.Loc (mPhis m ls nd q1 q2 q4 P) := by
  rintro h h' f ⟨q, f1, f2, rfl, h1, h2⟩ hb
  exact ⟨q, f1, f2, rfl, loc_rawB h1 fun b h => hb b (by simp [h]), loc_ownSl h2 fun b h => hb b (by simp [h])⟩
theorem phis_open {h0 h : Heap} {X : List As} {m : Addr} {ls nd q1 q2 q4 : Sl} {P : List GPhi} (S : Fw.Sep h0 h (mPhis m ls nd q1 q2 q4 P :: X)) :
    ∃ q, Fw.Sep h0 h (rawB m (mCells ls nd q1 q2 q q4) :: ownSl si_Lmerge_Phi ePhi q P :: X) := by
  obtain ⟨f, ⟨f1, f2, rfl, ⟨q, g1, g2, rfl, h1, h2⟩, ho⟩, hn, hb⟩ := S.owns
  refine ⟨q, S.old, fun A hA => ?_, g1 ++ (g2 ++ f2), ⟨g1, _, rfl, h1, g2, f2, rfl, h2, ho⟩, by rwa [List.append_assoc] at hn, by rwa [List.append_assoc] at hb⟩
  rcases List.mem_cons.1 hA with rfl | hA
  · exact loc_rawB
  · rcases List.mem_cons.1 hA with rfl | hA
    · exact loc_ownSl
    · exact S.all A (List.mem_cons_of_mem _ hA)
theorem phis_close {h0 h : Heap} {X : List As} {m : Addr} {ls nd q1 q2 q q4 : Sl} {P : List GPhi} (S : Fw.Sep h0 h (rawB m (mCells ls nd q1 q2 q q4) :: ownSl si_Lmerge_Phi ePhi q P :: X)) :
    Fw.Sep h0 h (mPhis m ls nd q1 q2 q4 P :: X) := S.two loc_mPhis fun f g h1 h2 => ⟨q, f, g, rfl, h1, h2⟩

theorem phi_calls {h0 h : Heap} {X : List As} {m : Addr} {ls nd q1 q2 q4 s : Sl} {P : List GPhi} {v : List MArg} {id field : Int}
    (S : Fw.Sep h0 h (mPhis m ls nd q1 q2 q4 P :: ownSl si_Lapi_Arg eArg s v :: X)) (hv : 0 < v.length) (hP : P.length ≤ 1000000) :
    ACalls Try.prog F_merge_meeting_phi [.pointer (some m), .int .i64 id, .int .i64 field, s.v] h
      (fun u h' => u = .agg (argC (phiF id field v P).1).toArray ∧ Fw.Sep h0 h' (mPhis m ls nd q1 q2 q4 (phiF id field v P).2 :: X)) := by
  refine merge_meeting_phi_of ?_
  unfold merge_meeting_phi
  refine new_rawB S fun p h1 o1 S1 => ?_
  refine (one_callsM (rd_arg.1 S1.rot3.rd) hv).mono ?_
  rintro u h2 ⟨rfl, o2⟩
  refine ⟨_, _, rfl, ?_⟩
  refine new_stR (S1.grow o2) rfl rfl arg_one fun p1 h4 S4 => ?_
  refine ifB_intro (fun hc => ?_) (fun hc => ?_)
  · refine ld_rawAgg S4 rfl ?_
    refine st_allB S4.swap rfl rfl arg_one fun h5 S5 => ld_rawAgg S5 rfl ?_
    have e : phiF id field v P = (v.headD zArg, P) := by unfold phiF; rw [if_pos hc]
    rw [e]
    refine ⟨by rw [if_pos hc], ?_⟩
    exact S5.drop.drop.swap.drop
  · have e : phiF id field v P = (openA, P ++ [⟨id, field, v⟩]) := by unfold phiF; rw [if_neg (by simpa using hc)]
    rw [e]
    have S5 : Fw.Sep h0 h4 (mPhis m ls nd q1 q2 q4 P :: rawB p #[.int .i64 0, .string ⟨#[]⟩, .int .i64 0] :: ownSl si_Lapi_Arg eArg s v :: X) := S4.drop.swap
    obtain ⟨q, S6⟩ := phis_open S5
    refine nil_some (ld_one (k := .sl) (x := q) (by rw [Addr.add_add]; exact m_cell S6 rfl) ?_)
    refine ⟨#[.int .i64 id, .int .i64 field, s.v], by kernel_rfl, ?_⟩
    have S7 : Fw.Sep h0 h4 (ownSl si_Lmerge_Phi ePhi q P :: ownEl ePhi (Value.agg #[.int .i64 id, .int .i64 field, s.v]).cells.toList ⟨id, field, v⟩ :: rawB m (mCells ls nd q1 q2 q q4) :: rawB p #[.int .i64 0, .string ⟨#[]⟩, .int .i64 0] :: X) := by
      have S8 := S6.rot4.conv (loc_ownEl (E := ePhi) (xs := [.int .i64 id, .int .i64 field, s.v]) (x := ⟨id, field, v⟩)) fun f o => ⟨f, .refl f, s, rfl, o⟩
      exact S8.rot3
    refine app1_rule S7 rfl (by decide) (by simp only [si_Lmerge_Phi]; omega) (by omega) fun q' h7 S8 => ?_
    refine nil_some ?_
    rw [Addr.add_add]
    refine st_rawB (i := 4) (v := q'.v) S8.swap (by simp [mCells]) rfl fun h8 S9 => ?_
    refine open_calls.mono ?_
    rintro u h9 ⟨rfl, o9⟩
    refine ⟨_, rfl, ?_⟩
    refine st_allB (S9.grow o9).rot3 rfl rfl arg_one fun h10 S10 => ld_rawAgg S10 rfl ⟨rfl, ?_⟩
    exact phis_close S10.drop

end Go.Proofs.Ytncbpalncgcoaaa

/-
  merge: what is merged.
-/
namespace Go.Proofs.Ytncbpalncgcoaaa
open Go.Fw Go.Pl.Api Go.Pl.Vst Go.Pl.Mrg

theorem rot5 {h0 h : Heap} {A B C D E : As} {L : List As} (S : Fw.Sep h0 h (A :: B :: C :: D :: E :: L)) : Fw.Sep h0 h (E :: A :: B :: C :: D :: L) :=
  S.perm (List.perm_middle (l₁ := [A, B, C, D]) (l₂ := L) (a := E))
theorem rot6 {h0 h : Heap} {A B C D E F : As} {L : List As} (S : Fw.Sep h0 h (A :: B :: C :: D :: E :: F :: L)) : Fw.Sep h0 h (F :: A :: B :: C :: D :: E :: L) :=
  S.perm (List.perm_middle (l₁ := [A, B, C, D, E]) (l₂ := L) (a := F))

def oCells (o : MObj) (s : Sl) : List Value := [.int .i64 o.id, .string o.cls, s.v, .int .i64 o.real.kind, .string o.real.s, .int .i64 o.real.n]
/-- The first one of a list away: what it leads to apart. -/
def rest0 (s : Sl) (fs : List MObj) (xs : List Value) : As := ownSl si_Lvstate_Obj (Elem.raw eO) s ((fs.map .inl).set 0 (.inr xs))
theorem raw_rd {h0 h : Heap} {L : List As} {s sl : Sl} {fs : List MObj} (hf : 0 < fs.length) (S : Fw.Sep h0 h (ownSl si_Lapi_Arg eArg sl fs[0].vals :: rest0 s fs (oCells fs[0] sl) :: L)) : rdSl rObj.el h s fs := by
  have S2 := (slice_el (o := fs[0]) S).swap.back (i := 0) (by simpa using hf) (by simp [oCells])
  have S3 : Fw.Sep h0 h (ownSl si_Lvstate_Obj eO s fs :: L) := Sep.raw.1 (S2.cast (by
    congr 2
    rw [List.set_set, ← List.map_set, List.set_getElem_self]))
  exact rd_obj.1 S3.rd
theorem valsUp_len {l : Ways} {fs : List MObj} : ∀ {i : Nat} {P : List GPhi}, (valsUp l fs i P).1.length = i
  | 0, _ => rfl
  | i + 1, P => by unfold valsUp; simp [valsUp_len]
theorem phiF_len {id field : Int} {v : List MArg} {P : List GPhi} : (phiF id field v P).2.length ≤ P.length + 1 := by unfold phiF; split <;> simp
theorem valsUp_phis {l : Ways} {fs : List MObj} : ∀ {i : Nat} {P : List GPhi}, (valsUp l fs i P).2.length ≤ P.length + i
  | 0, _ => Nat.le_refl _
  | i + 1, P => by
    unfold valsUp
    have h1 := @valsUp_phis l fs i P
    have h2 := phiF_len (id := (fs.headD zObj).id) (field := i) (v := fieldL l fs i) (P := (valsUp l fs i P).2)
    simp only
    omega
theorem ones_o {o : MObj} {s : Sl} : ∀ v ∈ (oCells o s), v.oneCell' = true := by
  intro v hv
  simp [oCells] at hv
  rcases hv with rfl | rfl | rfl | rfl | rfl | rfl <;> rfl

set_option maxHeartbeats 2000000 in
theorem merged_calls {h0 h : Heap} {X : List As} {m : Addr} {ls nd q1 q2 q4 s : Sl} {l : Ways} {P : List GPhi} {fs : List MObj}
    (S : Fw.Sep h0 h (mPhis m ls nd q1 q2 q4 P :: ownSl si_Lvstate_Obj eO s fs :: X)) (hl : rdSl rObj.sl.el h0 ls l) (ok : OkL l) (hlen : fs.length = l.length) (hf0 : 0 < fs.length)
    (hat : ∀ o ∈ fs, o.vals.length = (fs.headD zObj).vals.length) (hn : (fs.headD zObj).vals.length ≤ 1000) (hP : P.length ≤ 500000) :
    ACalls Try.prog F_merge_meeting_merged [.pointer (some m), s.v] h
      (fun u h' => ∃ cs : Array Value, u = .agg cs ∧ cs.size = 6 ∧ Fw.Sep h0 h' (mPhis m ls nd q1 q2 q4 (mergedF l fs P).2 :: ownEl eO cs.toList (mergedF l fs P).1 :: X)) := by
  refine merge_meeting_merged_of ?_
  unfold merge_meeting_merged
  have hhead := head_get (d := zObj) hf0
  rw [hhead] at hn hat
  have hfew := ok.few
  have hvn := virtN_le fs
  refine new_rawB S fun p h1 o1 S1 => ?_
  obtain ⟨xs, hxc, S2⟩ := (Sep.raw.2 S1.rot3).away (i := 0) (x := fs[0]) (by simpa using hf0) (by simp)
  obtain ⟨sl, rfl, S3⟩ := el_slice S2.swap
  have S3 : Fw.Sep h0 h1 (ownSl si_Lapi_Arg eArg sl fs[0].vals :: rest0 s fs (oCells fs[0] sl) :: rawB p #[.int .i64 0, .string ⟨#[]⟩, .slice none 0 0, .int .i64 0, .string ⟨#[]⟩, .int .i64 0] :: mPhis m ls nd q1 q2 q4 P :: X) := S3
  have rd1 := raw_rd hf0 S3
  have hsl := rd1.lenEq
  have hbd := rd1.bound
  refine idx_rdN rd1 rfl hf0 fun p1 hp1 _ => ?_
  refine ⟨(oCells fs[0] sl).toArray, ⟨rfl, fun j v hj => hxc p1 hp1 j v (by simpa [oCells] using hj)⟩, ?_⟩
  refine new_stR S3 rfl rfl ones_o fun p2 h3 S4 => ?_
  refine (virtual_calls (raw_rd hf0 S4.drop)).mono ?_
  rintro u h4 ⟨rfl, o4⟩
  refine ⟨_, rfl, ?_⟩
  have S5 := S4.grow o4
  clear S1 S2 S3 S4 rd1 hxc
  have rd5 := raw_rd hf0 S5.drop
  by_cases hv : virtN fs < fs.length
  · rw [hsl]
    show ifB (decide ((virtN fs : Int) < (fs.length : Int))) _ _
    rw [decide_eq_true (show (virtN fs : Int) < (fs.length : Int) by omega)]
    refine ifB_true rfl ?_
    refine loop_intro (fun k (q : Sl × Int) h' => ∃ i : Nat, q.2 = i ∧ i ≤ fs.length ∧ k = fs.length - i ∧ Fw.Sep h4 h' [ownSl si_Lapi_Arg eArg q.1 ((fs.take i).map fun o => o.real)]) fs.length
      ⟨0, rfl, by omega, by omega, (Sep.start h4).nil rfl⟩ ?_
    rintro _ _ ⟨out, i⟩ h5 ⟨i, hi0, hi, rfl, Sq⟩
    simp only at hi0 Sq ⊢
    subst hi0
    refine ifB_intro (fun hc => ?_) (fun hc => ?_)
    · have hil : i < fs.length := by simpa using hc
      refine idx_rdN rd5 rfl hil fun p3 _ hp3 => ?_
      refine ld_agg hp3 Sq.old.ext rfl fun x hx => ?_
      refine new_stX hx Sq.old.ext rfl rfl fun p4 h7 o7 hb4 => ?_
      refine ld_aggX (fld_oReal.bx hb4) rfl fun x2 hx2 => ?_
      refine app1_flat (v := .agg x2) (x := fs[i].real) (Sq.grow o7) (fun _ => ⟨by rw [agg_arg hx2]; rfl, rfl⟩) rfl (by decide) (by simp only [List.length_map, List.length_take, si_Lapi_Arg]; omega) (by simp only [List.length_map, List.length_take]; omega) fun s' h' S' => ?_
      refine ar_i64 (by omega) (by omega) ⟨fs.length - (i + 1), by omega, i + 1, rfl, by omega, rfl, ?_⟩
      rw [List.take_succ_eq_append_getElem hil, List.map_append]
      exact S'
    · have hil : fs.length ≤ i := by simpa using hc
      rw [List.take_of_length_le hil] at Sq
      have S6 := S5.frame Sq
      refine ld_rawB (i := 0) (k := .int .i64) (x := fs[0].id) (S6.swap) rfl rfl ?_
      refine (phi_calls (id := fs[0].id) (field := -1) (v := fs.map fun o => o.real) (rot6 S6) (by simpa using hf0) (by omega)).mono ?_
      rintro u h10 ⟨rfl, S7⟩
      refine ⟨_, rfl, rfl, ?_⟩
      have eM' : mergedF l fs P = ({ fs[0] with real := (phiF fs[0].id (-1) (fs.map fun o => o.real) P).1 }, (phiF fs[0].id (-1) (fs.map fun o => o.real) P).2) := by
        unfold mergedF
        rw [if_pos hv, hhead]
      rw [eM']
      generalize phiF fs[0].id (-1) (fs.map fun o => o.real) P = F at *
      refine st_rawsB (i := 3) S7.swap (by simp [oCells, argC]) arg_one fun h11 S8 => ?_
      refine ld_rawAgg S8 rfl ?_
      refine st_allB (rot5 S8) rfl rfl (by
        intro v hv
        simp [putAt, oCells, argC] at hv
        rcases hv with rfl | rfl | rfl | rfl | rfl | rfl <;> rfl) fun h12 S9 => ld_rawAgg S9 rfl ?_
      refine ⟨_, rfl, rfl, ?_⟩
      have S10 := slice_el (o := { fs[0] with real := F.1 }) S9.drop.drop.swap
      exact S10.rot3.drop.swap
  · rw [hsl]
    show ifB (decide ((virtN fs : Int) < (fs.length : Int))) _ _
    rw [decide_eq_false (show ¬ (virtN fs : Int) < (fs.length : Int) by omega)]
    refine ifB_false rfl ?_
    refine ld_rawB (i := 2) (k := .sl) (x := sl) S5 rfl rfl ?_
    refine (clone_calls (rd_arg.1 S5.drop.rd) (by omega)).mono ?_
    rintro u h13 ⟨r2, rfl, Sc⟩
    refine ⟨_, rfl, ?_⟩
    have S6 := rot6 (S5.frame Sc)
    clear S5 Sc rd5
    generalize hN : fs[0].vals.length = n at *
    refine loop_intro (fun k (q : Int) h' => ∃ i : Nat, q = i ∧ i ≤ n ∧ k = n - i ∧ Fw.Sep h0 h' (mPhis m ls nd q1 q2 q4 (valsUp l fs i P).2 :: ownSl si_Lapi_Arg eArg r2 ((valsUp l fs i P).1 ++ fs[0].vals.drop i) :: rawB p2 (oCells fs[0] sl).toArray :: ownSl si_Lapi_Arg eArg sl fs[0].vals :: rest0 s fs (oCells fs[0] sl) :: rawB p #[.int .i64 0, .string ⟨#[]⟩, .slice none 0 0, .int .i64 0, .string ⟨#[]⟩, .int .i64 0] :: X)) n
      ⟨0, rfl, by omega, by omega, S6⟩ ?_
    clear S6
    rintro _ _ _ h14 ⟨i, rfl, hi, rfl, S6⟩
    have hr2 := S6.swap.rd.lenEq
    have hvl := @valsUp_len l fs i P
    have hvp := @valsUp_phis l fs i P
    rw [List.length_append, hvl, List.length_drop, hN] at hr2
    refine ifB_intro (fun hc => ?_) (fun hc => ?_)
    · have hil : i < n := by rw [hr2] at hc; have := of_decide_eq_true hc; omega
      have hai : ∀ o ∈ fs, i < o.vals.length := fun o ho => by rw [hat o ho]; exact hil
      have hfl : (fieldL l fs i).length = fs.length := fieldL_len (by omega)
      have hstep : valsUp l fs (i + 1) P = ((valsUp l fs i P).1 ++ [(phiF fs[0].id i (fieldL l fs i) (valsUp l fs i P).2).1], (phiF fs[0].id i (fieldL l fs i) (valsUp l fs i P).2).2) := by
        rw [valsUp, hhead]
      generalize valsUp l fs i P = F at *
      refine ⟨fun h' => Old h0 h' ∧ hcell h' (p2.add 0) = some (.int .i64 fs[0].id), h0,
        mPhis m ls nd q1 q2 q4 F.2 :: ownSl si_Lapi_Arg eArg r2 (F.1 ++ fs[0].vals.drop i) :: rawB p2 (oCells fs[0] sl).toArray :: ownSl si_Lapi_Arg eArg sl fs[0].vals :: rest0 s fs (oCells fs[0] sl) :: rawB p #[.int .i64 0, .string ⟨#[]⟩, .slice none 0 0, .int .i64 0, .string ⟨#[]⟩, .int .i64 0] :: X,
        fun n _ => if n = 9 then ⟨fun v => ownV si_Lapi_Arg eArg (fieldL l fs i) v :: mPhis m ls nd q1 q2 q4 F.2 :: ownSl si_Lapi_Arg eArg r2 (F.1 ++ fs[0].vals.drop i) :: rawB p2 (oCells fs[0] sl).toArray :: ownSl si_Lapi_Arg eArg sl fs[0].vals :: rest0 s fs (oCells fs[0] sl) :: rawB p #[.int .i64 0, .string ⟨#[]⟩, .slice none 0 0, .int .i64 0, .string ⟨#[]⟩, .int .i64 0] :: X, fun v => ∃ s : Sl, v = s.v⟩
          else ⟨fun _ => mPhis m ls nd q1 q2 q4 (phiF fs[0].id i (fieldL l fs i) F.2).2 :: ownSl si_Lapi_Arg eArg r2 (F.1 ++ fs[0].vals.drop i) :: rawB p2 (oCells fs[0] sl).toArray :: ownSl si_Lapi_Arg eArg sl fs[0].vals :: rest0 s fs (oCells fs[0] sl) :: rawB p #[.int .i64 0, .string ⟨#[]⟩, .slice none 0 0, .int .i64 0, .string ⟨#[]⟩, .int .i64 0] :: X,
            fun v => v = .agg (argC (phiF fs[0].id i (fieldL l fs i) F.2).1).toArray⟩,
        ⟨S6.old, m_cell S6.rot3 rfl⟩, S6, ?_⟩
      refine ⟨fs[0].id, fun h' hR => hR.2, ?_⟩
      refine ⟨⟨(⟨none, 0, 0⟩ : Sl).v, _, rfl⟩, fun h' Y hR S => ?_, ?_⟩
      · rw [List.append_nil] at S
        have S : Fw.Sep h0 h' (mPhis m ls nd q1 q2 q4 F.2 :: ownSl si_Lapi_Arg eArg r2 (F.1 ++ fs[0].vals.drop i) :: rawB p2 (oCells fs[0] sl).toArray :: ownSl si_Lapi_Arg eArg sl fs[0].vals :: rest0 s fs (oCells fs[0] sl) :: rawB p #[.int .i64 0, .string ⟨#[]⟩, .slice none 0 0, .int .i64 0, .string ⟨#[]⟩, .int .i64 0] :: (X ++ Y)) := S
        obtain ⟨q, Sm⟩ := phis_open S
        refine (fieldM_calls (at' := i) (m_cell Sm rfl) hl S.old ok (raw_rd hf0 S.drop.drop.drop) (by omega) hai).mono ?_
        rintro u h'' ⟨s', rfl, S2⟩
        exact ⟨s', rfl, ⟨hR.1.trans S2.old, S2.old.ext _ _ hR.2⟩, ⟨s', rfl⟩, (S.frame S2).toV⟩
      rintro _ ⟨s1, rfl⟩
      refine ⟨s1, rfl, ?_⟩
      refine ⟨⟨_, rfl⟩, fun h' Y hR S => ?_, ?_⟩
      · rw [List.append_nil] at S
        have S : Fw.Sep h0 h' (ownV si_Lapi_Arg eArg (fieldL l fs i) s1.v :: mPhis m ls nd q1 q2 q4 F.2 :: ownSl si_Lapi_Arg eArg r2 (F.1 ++ fs[0].vals.drop i) :: rawB p2 (oCells fs[0] sl).toArray :: ownSl si_Lapi_Arg eArg sl fs[0].vals :: rest0 s fs (oCells fs[0] sl) :: rawB p #[.int .i64 0, .string ⟨#[]⟩, .slice none 0 0, .int .i64 0, .string ⟨#[]⟩, .int .i64 0] :: (X ++ Y)) := S
        refine (phi_calls (id := fs[0].id) (field := i) (v := fieldL l fs i) S.ofV.swap (by omega) (by omega)).mono ?_
        rintro u h'' ⟨rfl, S2⟩
        exact ⟨_, rfl, ⟨S2.old, m_cell S2.rot3 rfl⟩, rfl, S2⟩
      rintro _ rfl
      refine ⟨_, rfl, ?_⟩
      intro h20 _ S20
      rw [List.append_nil] at S20
      have S20 : Fw.Sep h0 h20 (mPhis m ls nd q1 q2 q4 (phiF fs[0].id i (fieldL l fs i) F.2).2 :: ownSl si_Lapi_Arg eArg r2 (F.1 ++ fs[0].vals.drop i) :: rawB p2 (oCells fs[0] sl).toArray :: ownSl si_Lapi_Arg eArg sl fs[0].vals :: rest0 s fs (oCells fs[0] sl) :: rawB p #[.int .i64 0, .string ⟨#[]⟩, .slice none 0 0, .int .i64 0, .string ⟨#[]⟩, .int .i64 0] :: X) := S20
      have hir : i < (F.1 ++ fs[0].vals.drop i).length := by rw [List.length_append, hvl, List.length_drop]; omega
      refine idx_rdN S20.swap.rd rfl hir fun p5 hp5 _ => ?_
      refine ⟨rfl, ?_⟩
      refine st_flat (x := (phiF fs[0].id i (fieldL l fs i) F.2).1) S20.swap (own_arg _) hp5 rfl hir fun h21 S21 => ?_
      refine ar_i64 (by omega) (by omega) ⟨n - (i + 1), by omega, i + 1, rfl, by omega, rfl, ?_⟩
      rw [hstep]
      have e : (F.1 ++ fs[0].vals.drop i).set i (phiF fs[0].id i (fieldL l fs i) F.2).1 = F.1 ++ [(phiF fs[0].id i (fieldL l fs i) F.2).1] ++ fs[0].vals.drop (i + 1) := by
        rw [List.set_append_right _ _ (by omega), hvl, Nat.sub_self, List.drop_eq_getElem_cons (by omega), List.set_cons_zero, List.append_assoc]
        rfl
      rw [e] at S21
      exact S21.swap
    · have hil : i = n := by rw [hr2] at hc; have := of_decide_eq_false hc; omega
      subst hil
      rw [List.drop_of_length_le (by omega), List.append_nil] at S6
      have eM' : mergedF l fs P = ({ fs[0] with vals := (valsUp l fs i P).1 }, (valsUp l fs i P).2) := by
        unfold mergedF
        rw [if_neg hv, hhead, hN]
      rw [eM']
      generalize valsUp l fs i P = F at *
      refine st_rawB (i := 2) (v := r2.v) S6.rot3 (by simp [oCells]) rfl fun h22 S7 => ?_
      refine ld_rawAgg S7 rfl ?_
      refine st_allB (rot6 S7) rfl rfl (by
        intro v hv
        simp [oCells] at hv
        rcases hv with rfl | rfl | rfl | rfl | rfl | rfl <;> rfl) fun h23 S8 => ld_rawAgg S8 rfl ?_
      refine ⟨_, rfl, rfl, ?_⟩
      have S9 := slice_el (o := { fs[0] with vals := F.1 }) S8.drop.drop.swap
      exact S9.rot4.drop.rot3.drop.swap

end Go.Proofs.Ytncbpalncgcoaaa
