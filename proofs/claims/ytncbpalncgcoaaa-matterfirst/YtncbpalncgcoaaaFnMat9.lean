/-
  Matter: the code, all of it.
-/
import Derived.Test.YtncbpalncgcoaaaFnMat5
namespace Go.Proofs.Ytncbpalncgcoaaa
open Go.Fw Go.Fw.I Go.Pl.Api Go.Pl.Vst Go.Pl.Mat Go.Pl.Put Go.Pl

variable {l : List MObj} {order : List Int} {names : List ByteArray}
theorem rv_prog' {h : Heap} {cs : Array Value} {p : MProg} (r : rProg.rv h cs.toList p) : ∃ c0 c1 c2 c3 c4 : Value, cs = #[c0, c1, c2, c3, c4] := by
  obtain ⟨a1, a2, e, h1, a3, a4, rfl, ⟨s1, rfl, _⟩, a5, a6, rfl, ⟨s2, rfl, _⟩, a7, a8, rfl, ⟨s3, rfl, _⟩, a9, a10, rfl, ⟨s4, rfl, _⟩, h2⟩ := r
  have h1 : a1 = [.bool p.ssa] := h1
  have h2 : a10 = [] := h2
  subst h1 h2
  exact ⟨_, _, _, _, _, Array.toList_inj.1 e⟩
/-- What must hold of what code is asked for. -/
structure CodeOk (l : List MObj) (order : List Int) (names : List ByteArray) (p : MProg) (c : MClass) : Prop where
  ris : Rising l
  len : l.length ≤ 1000
  vals : ∀ o ∈ l, o.vals.length ≤ 100
  once : order.Pairwise (· ≠ ·)
  olen : order.length ≤ 1000
  nlen : names.length = order.length
  cls : ∀ z ∈ order, classF p (objF l z).cls = some c
  flds : ∀ z ∈ order, (objF l z).vals.length ≤ c.fields.length
  obj : ∀ z ∈ order, ∃ o ∈ l, o.id = z
theorem news_succ (n : Nat) : newsTo l order names (n + 1) = newsTo l order names n ++ [newI l order names n] := by simp [newsTo, List.range_succ]
theorem latesTo_succ (fs : List MVar) (n : Nat) : latesTo l order fs (n + 1) = latesTo l order fs n ++ lates l order fs n (objF l (order.getD n 0)).vals.length := by simp [latesTo, List.range_succ]
theorem lates_len (fs : List MVar) (i k : Nat) : (lates l order fs i k).length ≤ k := by
  unfold lates
  exact Nat.le_trans (List.length_filterMap_le _ _) (by simp)
theorem latesTo_len {m : Nat} (hv : ∀ o ∈ l, o.vals.length ≤ m) (fs : List MVar) : ∀ n, (latesTo l order fs n).length ≤ n * m
  | 0 => by simp [latesTo]
  | n + 1 => by
    rw [latesTo_succ, List.length_append, Nat.succ_mul]
    have h1 := latesTo_len hv fs n
    have h2 := lates_len (l := l) (order := order) fs n (objF l (order.getD n 0)).vals.length
    have h3 := objF_vals_le hv (order.getD n 0)
    omega
theorem lates_in (fs : List MVar) {n i q : Nat} {b : ByteArray} (hn : n ≤ order.length) (h : (i, q, b) ∈ latesTo l order fs n) : i < n ∧ q < order.length := by
  unfold latesTo lates lateO at h
  obtain ⟨j, hj, h⟩ := List.mem_flatMap.1 h
  obtain ⟨k, _, h⟩ := List.mem_filterMap.1 h
  split at h
  · split at h
    · rename_i q' hq
      split at h
      · simp only [Option.some.injEq, Prod.mk.injEq] at h
        obtain ⟨rfl, rfl, _⟩ := h
        refine ⟨by simpa using hj, ?_⟩
        unfold tgt at hq
        split at hq
        · exact (atF_some hq).1
        · cases hq
      · cases h
    · cases h
  · cases h
structure NameI (order : List Int) (names : List ByteArray) (i : Nat) (N : List (Int × ByteArray)) : Prop where
  got : ∀ j (hj : j < order.length), j < i → aget order[j] N = some (names.getD j eS)
  only : ∀ z, aget z N ≠ none → ∃ j, ∃ hj : j < order.length, j < i ∧ order[j] = z
theorem NameI.all {N : List (Int × ByteArray)} (hn : order.Pairwise (· ≠ ·)) (P : NameI order names order.length N) : NameM order names N := ⟨fun z => by
  cases h : Mat.atF order z with
  | none =>
    cases h2 : aget z N with
    | none => rfl
    | some x =>
      obtain ⟨j, hj, _, e⟩ := P.only z (by rw [h2]; simp)
      exact absurd (by rw [← e]; exact List.getElem_mem hj) (atF_none h)
  | some k =>
    obtain ⟨hk, e⟩ := atF_some h
    rw [← e, P.got k hk hk]
    rfl⟩
def objM (o : MObj) (b : ByteArray) : MObj := { o with real := varA b }
theorem objF_state (C : Rising l) (hon : order.Pairwise (· ≠ ·)) (hobj : ∀ z ∈ order, ∃ o ∈ l, o.id = z) {n : Nat} (hn : n < order.length) : objF (stateTo l order names n) order[n] = objF l order[n] := by
  unfold objF
  rw [state_find C hon hobj n (by omega) (toA order[n]) rfl]
  have : Mat.atF order (toA order[n]).n = some n := atF_of hon hn
  rw [this]
  simp
theorem bld_old {e : SlI} {n : Nat} {parts : List (Nat × Value)} {h : Heap} {K : Sl → Heap → Prop} (H : bld e n parts h fun s h' => Old h h' → K s h') : bld e n parts h K := by
  obtain ⟨cs, h1, h2, h3⟩ := H
  exact ⟨cs, h1, h2, h3 (Old.push _ _)⟩
theorem row_fl {vs : List Value} : ∀ {l : List MObj} {vs : List Value} {h : Heap} {f : List Nat}, Row (eObj si_Lapi_Arg) vs l h f → Row (rObj.fl h) vs l h []
  | [], _, _, _, r => ⟨r.1, rfl⟩
  | o :: l, _, h, _, r => by
    obtain ⟨xs, vs', f1, f2, rfl, rfl, ⟨x, rfl, ho⟩, hr⟩ := r
    exact ⟨_, vs', [], [], rfl, rfl, ⟨rv_obj.2 ⟨x, rfl, rd_arg.1 (ownSl_rd ho)⟩, rfl⟩, row_fl (vs := []) hr⟩
theorem Sep.toFl {h0 h : Heap} {L : List As} {s : Sl} {l : List MObj} (S : Fw.Sep h0 h (ownSl si_Lvstate_Obj (eObj si_Lapi_Arg) s l :: L)) : Fw.Sep h0 h (ownSl si_Lvstate_Obj (rObj.fl h) s l :: L) :=
  S.conv loc_ownSl fun f o => by
    obtain ⟨hsz, vs, f', ho, hl, hm, hr, rfl⟩ := o
    exact ⟨s.blk.toList ++ [], List.Sublist.append (List.Sublist.refl _) (List.nil_sublist _), hsz, vs, [], ho, hl, hm, row_fl (vs := []) hr, rfl⟩
theorem hExtOld {a b : Heap} (o : Old a b) : hExt a b := o.ext
/-- What is told of the region in which a Store is laid. -/
def RR (b p7 : Addr) (cc lc : Array Value) (nm : Option Nat) (N : List (Int × ByteArray)) (h0 h : Heap) : Prop :=
  (p7.spot = none ∧ b.spot = none) ∧ (∀ i v, cc[i]? = some v → hcell h (b.add i) = some v) ∧ (∀ i v, lc[i]? = some v → hcell h (p7.add i) = some v) ∧ rdM vfS h nm N ∧ Old h0 h
theorem RR.old {b p7 : Addr} {cc lc : Array Value} {nm : Option Nat} {N : List (Int × ByteArray)} {h0 h h' : Heap} (r : RR b p7 cc lc nm N h0 h) (o : Old h h') : RR b p7 cc lc nm N h0 h' :=
  ⟨r.1, fun i v e => o.ext _ _ (r.2.1 i v e), fun i v e => o.ext _ _ (r.2.2.1 i v e), r.2.2.2.1.old o, r.2.2.2.2.trans o⟩
theorem ldF_RR1 {b p7 : Addr} {cc lc : Array Value} {nm : Option Nat} {N : List (Int × ByteArray)} {h0 : Heap} {k : TK} {x : k.T} {i : Nat} {K : k.T → Prop} (hk : k.isAgg = false) (hx : cc[i]? = some (k.val x)) (hK : K x) : ldF k (RR b p7 cc lc nm N h0) (b.add i) K :=
  ⟨x, fun h r => (by cases k <;> first | exact r.2.1 i _ hx | (cases hk)), hK⟩
theorem ldF_RR2 {b p7 : Addr} {cc lc : Array Value} {nm : Option Nat} {N : List (Int × ByteArray)} {h0 : Heap} {k : TK} {x : k.T} {i : Nat} {K : k.T → Prop} (hk : k.isAgg = false) (hx : lc[i]? = some (k.val x)) (hK : K x) : ldF k (RR b p7 cc lc nm N h0) (p7.add i) K :=
  ⟨x, fun h r => (by cases k <;> first | exact r.2.2.1 i _ hx | (cases hk)), hK⟩
def stC (field : ByteArray) (x : Sl) : Array Value := #[.int .i64 27, .string ⟨#[]⟩, .string field, x.v, .slice none 0 0, .slice none 0 0]
/-- The operations of the region. -/
def specs9 (n1 n2 : ByteArray) (st : MInstr) (CD : List MInstr) (rest : List As) (n : Nat) (_ : List Value) : Fw.Spec :=
  if n = 13 then Fw.Spec.val (.string n1) else if n = 14 then Fw.Spec.val (.agg #[.int .i64 1, .string n1, .int .i64 0]) else
  if n = 21 then Fw.Spec.val (.string n2) else if n = 22 then Fw.Spec.val (.agg #[.int .i64 1, .string n2, .int .i64 0]) else
  if n = 23 then Fw.Spec.sl si_Lapi_Arg eArg [varA n1, varA n2] else if n = 25 then Fw.Spec.sl si_Lapi_Instr (eIns si_Lapi_Arg) [st] else
  ⟨fun v => ownV si_Lapi_Instr (eIns si_Lapi_Arg) (CD ++ [st]) v :: rest, fun v => ∃ s : Sl, v = s.v⟩

set_option maxHeartbeats 4000000 in
theorem code_calls {h : Heap} {cs : Array Value} {s t u : Sl} {p : MProg} {c : MClass} (C : CodeOk l order names p c) (hp : rProg.rv h cs.toList p) (hs : rdSl rObj.el h s l) (ht : rdSl eInt h t order) (hu : rdSl eStr h u names) :
    ACalls Try.prog F_matter_Code [.agg cs, s.v, t.v, u.v] h (fun v h' => ∃ (r1 r2 : Sl) (hb : Heap), v = .tuple #[r1.v, r2.v] ∧ Old h hb ∧ Old hb h' ∧ rdSl rInstr.el h' r1 (codeF l order c.fields names) ∧
      Fw.Sep h h' [ownSl si_Lvstate_Obj (rObj.fl hb) r2 (stateTo l order names order.length)]) := by
  refine matter_Code_of ?_
  unfold matter_Code
  obtain ⟨c0, c1, c2, c3, c4, rfl⟩ := rv_prog' hp
  refine new_rawB (Sep.start h) fun p1 h1 o1 S1 => ?_
  refine ld_rawAgg S1 rfl ?_
  refine mkm_rule (vf := vfS) S1.drop fun nm h2 o2 S2 => ?_
  refine mkm_rule (vf := vfB) S2 fun md h3 o3 S3 => ?_
  refine ⟨coderC c0 c1 c2 c3 c4 s nm md ⟨none, 0, 0⟩ ⟨none, 0, 0⟩, by kernel_rfl, ?_⟩
  refine new_rawB S3 fun b h4 o4 S4 => ?_
  have htl := ht.lenEq
  have hul := hu.lenEq
  have holen := C.olen
  have hnlen := C.nlen
  have S4 : Fw.Sep h h4 [ownM vfS nm [], rawB b (coderC c0 c1 c2 c3 c4 s nm md ⟨none, 0, 0⟩ ⟨none, 0, 0⟩), ownM vfB md []] := Sep.pull [_, _] S4
  clear S1 S2 S3
  refine loop_intro (fun m (q : Int) h' => ∃ (i : Nat) (N : List (Int × ByteArray)), q = i ∧ i ≤ order.length ∧ m = order.length - i ∧ NameI order names i N ∧ Fw.Sep h h' [ownM vfS nm N, rawB b (coderC c0 c1 c2 c3 c4 s nm md ⟨none, 0, 0⟩ ⟨none, 0, 0⟩), ownM vfB md []]) order.length
    ⟨0, [], rfl, by omega, by omega, ⟨fun j hj h => by omega, fun z h => absurd rfl h⟩, S4⟩ ?_
  clear S4
  rintro _ _ _ h5 ⟨i, N, rfl, hi, rfl, P, S⟩
  refine ifB_intro (fun hc => ?_) (fun hc => ?_)
  · have hil : i < order.length := by rw [htl] at hc; simpa using hc
    refine idx_rdN ht rfl hil fun p3 _ hp3 => ld_oneB (k := .int .i64) hp3 S.old ?_
    refine ld_rawB (i := 6) (x := nm) S.swap rfl rfl ?_
    refine idx_rdN hu rfl (by omega) fun p4 _ hp4 => ld_oneB (k := .str) hp4 S.old ?_
    refine mup_rule (x := names[i]) S rfl fun h6 S6 => ?_
    refine ar_i64 (by omega) (by omega) ⟨order.length - (i + 1), by omega, i + 1, _, rfl, by omega, rfl, ⟨fun j hj hji => ?_, fun z hz => ?_⟩, S6⟩
    · rw [aget_put]
      by_cases e : order[j] = order[i]
      · rw [if_pos e, nodup_at C.once hj hil e, getD_lt (by omega)]
      · rw [if_neg e]
        refine P.got j hj ?_
        rcases Nat.lt_or_ge j i with h | h
        · exact h
        · have : j = i := by omega
          subst this
          exact absurd rfl e
    · rw [aget_put] at hz
      split at hz
      · rename_i e
        exact ⟨i, hil, by omega, e.symm⟩
      · obtain ⟨j, hj, hji, e⟩ := P.only z hz
        exact ⟨j, hj, by omega, e⟩
  have hil : i = order.length := by have hc : order.length ≤ i := by rw [htl] at hc; simpa using hc
                                    omega
  subst hil
  have hN := P.all C.once
  clear P hi hc
  have S0 : Fw.Sep h h5 [rawB b (coderC c0 c1 c2 c3 c4 s nm md ⟨none, 0, 0⟩ ⟨none, 0, 0⟩), ownM vfS nm N, ownM vfB md [], ownSl si_Lapi_Instr (eIns si_Lapi_Arg) ⟨none, 0, 0⟩ (newsTo l order names 0), ownSl si_Lmatter_late eLate ⟨none, 0, 0⟩ ((latesTo l order c.fields 0).map (lateE order))] :=
    Sep.push [_, _, _] (Sep.nil (si := si_Lapi_Instr) (E := eIns si_Lapi_Arg) (Sep.push [_, _, _] (Sep.nil (si := si_Lmatter_late) (E := eLate) S.swap rfl)) rfl)
  refine loop_intro (fun m (q : Int) h' => ∃ (i : Nat) (M : List (Int × Bool)) (cd lt : Sl), q = i ∧ i ≤ order.length ∧ m = order.length - i ∧ MadeM order i M ∧ Fw.Sep h h' [rawB b (coderC c0 c1 c2 c3 c4 s nm md cd lt), ownM vfS nm N, ownM vfB md M, ownSl si_Lapi_Instr (eIns si_Lapi_Arg) cd (newsTo l order names i), ownSl si_Lmatter_late eLate lt ((latesTo l order c.fields i).map (lateE order))]) order.length
    ⟨0, [], _, _, rfl, by omega, by omega, ⟨fun z => ⟨nofun, fun ⟨q, _, h⟩ => by omega⟩⟩, S0⟩ ?_
  clear S S0
  rintro _ _ _ h7 ⟨i, M, cd, lt, rfl, hi, rfl, hM, S⟩
  refine ifB_intro (fun hc => ?_) (fun hc => ?_)
  · have hil : i < order.length := by rw [htl] at hc; simpa using hc
    have hz : order.getD i 0 ∈ order := by rw [getD_lt hil]; exact List.getElem_mem hil
    refine idx_rdN ht rfl hil fun p5 _ hp5 => ld_oneB (k := .int .i64) hp5 S.old ?_
    have hll := latesTo_len (order := order) C.vals c.fields i
    have hmk := make_calls (X := []) (p := p) (names := names) hs hp C.ris C.len (fun o ho => Nat.le_trans (C.vals o ho) (by omega)) C.once hil C.olen (C.cls _ hz) (C.flds _ hz) (by simp [newsTo]; omega) (by rw [List.length_map]; omega) S hN hM
    rw [getD_lt hil] at hmk
    refine hmk.mono ?_
    rintro v h8 ⟨cd', lt', M', rfl, hM', S8⟩
    refine ⟨rfl, ?_⟩
    refine ar_i64 (by omega) (by omega) ⟨order.length - (i + 1), by omega, i + 1, M', cd', lt', rfl, by omega, rfl, hM', ?_⟩
    rw [news_succ, latesTo_succ, List.map_append, getD_lt hil]
    exact S8
  have hil : i = order.length := by have hc : order.length ≤ i := by rw [htl] at hc; simpa using hc
                                    omega
  subst hil
  clear hM hi hc
  refine ld_rawB (i := 9) (x := lt) S rfl rfl ?_
  have hll := latesTo_len (order := order) C.vals c.fields order.length
  have hlin : ∀ x ∈ latesTo l order c.fields order.length, x.1 < order.length ∧ x.2.1 < order.length := fun ⟨i, q, bb⟩ hx => lates_in c.fields (Nat.le_refl _) hx
  unfold codeF
  generalize latesTo l order c.fields order.length = LT at *
  have hltl := (Sep.pull [_, _, _, _] S).rd.lenEq
  rw [List.length_map] at hltl
  have hnews : (newsTo l order names order.length).length ≤ 1000 := by simp [newsTo]; omega
  generalize newsTo l order names order.length = NW at *
  refine loop_intro (fun m (q : Int) h' => ∃ (i : Nat) (cd : Sl), q = i ∧ i ≤ LT.length ∧ m = LT.length - i ∧ Fw.Sep h h' [rawB b (coderC c0 c1 c2 c3 c4 s nm md cd lt), ownM vfS nm N, ownSl si_Lapi_Instr (eIns si_Lapi_Arg) cd (NW ++ storesOf names (LT.take i)), ownSl si_Lmatter_late eLate lt (LT.map (lateE order))]) LT.length
    ⟨0, cd, rfl, by omega, by omega, by simpa [storesOf] using Sep.dropAt [_, _] S⟩ ?_
  clear S
  rintro _ _ _ h9 ⟨i, cd, rfl, hi, rfl, S⟩
  refine ifB_intro (fun hc => ?_) (fun hc => ?_)
  · have hil : i < LT.length := by rw [hltl] at hc; simpa using hc
    obtain ⟨hq1, hq2⟩ := hlin _ (List.getElem_mem hil)
    have hrow := (Sep.pull [_, _, _] S).rd
    refine idx_rdN hrow rfl (show i < (LT.map (lateE order)).length by simpa using hil) fun p6 _ hp6 => ?_
    have hp6 : eLate.rd h9 p6 (lateE order LT[i]) := by simpa using hp6
    refine ⟨(lateC (lateE order LT[i])).toArray, ⟨rfl, fun j v hj => hp6.2 j v (by simpa using hj)⟩, ?_⟩
    refine new_stR S rfl rfl ?_ fun p7 h11 S11 => ?_
    · intro v hv; simp [lateC] at hv; rcases hv with rfl | rfl | rfl <;> rfl
    generalize hx : LT[i] = x at *
    obtain ⟨xi, xq, xf⟩ := x
    simp only at hq1 hq2
    have hst : storesOf names (LT.take (i + 1)) = storesOf names (LT.take i) ++ [Mat.stI names xi xq xf] := by
      unfold storesOf
      rw [List.take_succ_eq_append_getElem hil, List.map_append, hx]
      rfl
    have hn1 : aget (order.getD xi 0) N = some (names.getD xi eS) := by rw [hN.get, getD_lt hq1, atF_of C.once hq1]; rfl
    have hn2 : aget (order.getD xq 0) N = some (names.getD xq eS) := by rw [hN.get, getD_lt hq2, atF_of C.once hq2]; rfl
    have Lall : Fw.Sep h h11 [ownSl si_Lapi_Instr (eIns si_Lapi_Arg) cd (NW ++ storesOf names (LT.take i)), rawB p7 (lateC (lateE order (xi, xq, xf))).toArray, rawB b (coderC c0 c1 c2 c3 c4 s nm md cd lt), ownM vfS nm N, ownSl si_Lmatter_late eLate lt (LT.map (lateE order))] := Sep.pull [_, _, _] S11
    have hRR : RR b p7 (coderC c0 c1 c2 c3 c4 s nm md cd lt) (lateC (lateE order (xi, xq, xf))).toArray nm N h h11 := by
      have S12 := Sep.pull [_] Lall
      have S13 := Sep.pull [_, _] Lall
      exact ⟨⟨(rawB_cell S12).1, (rawB_cell S13).1⟩, fun j v e => by rw [(rawB_cell S13).2]; exact e, fun j v e => by rw [(rawB_cell S12).2]; exact e, rdM_of (Sep.pull [_, _, _] Lall), S11.old⟩
    refine ⟨RR b p7 (coderC c0 c1 c2 c3 c4 s nm md cd lt) (lateC (lateE order (xi, xq, xf))).toArray nm N h, h, _, specs9 (names.getD xi eS) (names.getD xq eS) (Mat.stI names xi xq xf) (NW ++ storesOf names (LT.take i)) [rawB p7 (lateC (lateE order (xi, xq, xf))).toArray, rawB b (coderC c0 c1 c2 c3 c4 s nm md cd lt), ownM vfS nm N, ownSl si_Lmatter_late eLate lt (LT.map (lateE order))], hRR, Lall, ?_⟩
    clear hRR
    refine ldF_RR1 (k := .sl) (x := cd) rfl rfl ?_
    refine ldF_RR2 (k := .str) (x := xf) rfl rfl ?_
    refine ldF_RR1 (k := .map) (x := nm) rfl rfl ?_
    refine ldF_RR2 (k := .int .i64) (x := order.getD xi 0) rfl rfl ?_
    refine ⟨⟨_, rfl⟩, fun h' X' R' S' => ?_, ?_⟩
    · refine mlk_rule R'.2.2.2.1 ?_
      rw [hn1]
      exact ⟨_, rfl, R', rfl, S'⟩
    rintro v rfl
    refine ⟨_, rfl, ?_⟩
    refine ⟨⟨_, rfl⟩, fun h' X' R' S' => (mvar_calls _).mono fun v h2 ⟨e, o2⟩ => ⟨_, e, R'.old o2, rfl, Sep.grow S' o2⟩, ?_⟩
    rintro v rfl
    refine ⟨_, rfl, ?_⟩
    refine ldF_RR1 (k := .map) (x := nm) rfl rfl ?_
    refine ldF_RR2 (k := .int .i64) (x := order.getD xq 0) rfl rfl ?_
    refine ⟨⟨_, rfl⟩, fun h' X' R' S' => ?_, ?_⟩
    · refine mlk_rule R'.2.2.2.1 ?_
      rw [hn2]
      exact ⟨_, rfl, R', rfl, S'⟩
    rintro v rfl
    refine ⟨_, rfl, ?_⟩
    refine ⟨⟨_, rfl⟩, fun h' X' R' S' => (mvar_calls _).mono fun v h2 ⟨e, o2⟩ => ⟨_, e, R'.old o2, rfl, Sep.grow S' o2⟩, ?_⟩
    rintro v rfl
    refine ⟨_, rfl, ?_⟩
    refine ⟨⟨_, ⟨none, 0, 0⟩, rfl⟩, fun h' X' R' S' => ?_, ?_⟩
    · refine bld_old (bld_rule (E := eArg) (l := [varA (names.getD xi eS), varA (names.getD xq eS)]) (us := argC (varA (names.getD xi eS)) ++ argC (varA (names.getD xq eS))) (Sep.free (A := ownRow eArg _ _) S' loc_ownRow ?_) (by kernel_rfl) rfl rfl (by decide) (by decide) fun s1 h2 S2 o2 => ?_)
      · exact ⟨argC _, argC _, [], [], rfl, rfl, own_arg _ _, argC _, [], [], [], by simp, rfl, own_arg _ _, rfl, rfl⟩
      · exact ⟨R'.old o2, ⟨s1, rfl⟩, Sep.toV S2⟩
    rintro v ⟨r8, rfl⟩
    refine ⟨_, rfl, ?_⟩
    refine ⟨stC xf r8, by kernel_rfl, ?_⟩
    refine ⟨⟨_, ⟨none, 0, 0⟩, rfl⟩, fun h' X' R' S' => ?_, ?_⟩
    · have S2 : Fw.Sep h h' (ownEl (eIns si_Lapi_Arg) (Value.agg (stC xf r8)).cells.toList (Mat.stI names xi xq xf) :: X') := (Sep.ofV S').conv loc_ownEl fun f o1 => ⟨f, List.Sublist.refl f, r8, rfl, rfl, rfl, o1⟩
      refine bld_old (bld_own S2 rfl rfl (by decide) fun s1 h2 S3 o2 => ?_)
      exact ⟨R'.old o2, ⟨s1, rfl⟩, Sep.toV S3⟩
    rintro v ⟨r9, rfl⟩
    refine ⟨_, rfl, ?_⟩
    have hsl : (storesOf names (LT.take i)).length ≤ 100000 := by unfold storesOf; rw [List.length_map, List.length_take]; omega
    refine ⟨⟨_, ⟨none, 0, 0⟩, rfl⟩, fun h' X' R' S' => ?_, ?_⟩
    · have S2 : Fw.Sep h h' (ownSl si_Lapi_Instr (eIns si_Lapi_Arg) r9 [Mat.stI names xi xq xf] :: ownSl si_Lapi_Instr (eIns si_Lapi_Arg) cd (NW ++ storesOf names (LT.take i)) :: rawB p7 (lateC (lateE order (xi, xq, xf))).toArray :: rawB b (coderC c0 c1 c2 c3 c4 s nm md cd lt) :: ownM vfS nm N :: ownSl si_Lmatter_late eLate lt (LT.map (lateE order)) :: X') := Sep.ofV S'
      refine app_own S2.swap ?_ ?_ fun s3 h3 S3 => ?_
      · simp only [List.length_append, List.length_singleton, si_Lapi_Instr]; omega
      · simp only [List.length_append, List.length_singleton]; omega
      have Sa := Sep.pull [_] S3
      have Sb := Sep.pull [_, _] S3
      exact ⟨⟨⟨(rawB_cell Sa).1, (rawB_cell Sb).1⟩, fun j v e => by rw [(rawB_cell Sb).2]; exact e, fun j v e => by rw [(rawB_cell Sa).2]; exact e, rdM_of (Sep.pull [_, _, _] S3), S3.old⟩, ⟨s3, rfl⟩, Sep.toV S3⟩
    rintro v ⟨r10, rfl⟩
    refine ⟨_, rfl, ?_⟩
    intro h25 R25 S25
    have S25 : Fw.Sep h h25 [ownSl si_Lapi_Instr (eIns si_Lapi_Arg) r10 (NW ++ storesOf names (LT.take i) ++ [Mat.stI names xi xq xf]), rawB p7 (lateC (lateE order (xi, xq, xf))).toArray, rawB b (coderC c0 c1 c2 c3 c4 s nm md cd lt), ownM vfS nm N, ownSl si_Lmatter_late eLate lt (LT.map (lateE order))] := Sep.ofV S25
    refine st_rawB (i := 8) (Sep.pull [_, _] S25) (show 8 < 10 by decide) rfl fun h26 S26 => ?_
    refine ar_i64 (by omega) (by omega) ⟨LT.length - (i + 1), by omega, i + 1, r10, rfl, by omega, rfl, ?_⟩
    rw [hst, ← List.append_assoc]
    exact Sep.push [_, _] (Sep.pull [_] (Sep.dropAt [_, _] S26))
  have hil : i = LT.length := by have hc : LT.length ≤ i := by rw [hltl] at hc; simpa using hc
                                 omega
  subst hil
  rw [List.take_length] at S
  have S : Fw.Sep h h9 [rawB b (coderC c0 c1 c2 c3 c4 s nm md cd lt), ownSl si_Lapi_Instr (eIns si_Lapi_Arg) cd (NW ++ storesOf names LT)] := Sep.dropLast (L := [_, _]) (Sep.dropAt [_] S)
  clear hc hi hlin hll hltl hN
  refine loop_intro (fun m (q : Sl × Int) h' => ∃ i : Nat, q.2 = i ∧ i ≤ order.length ∧ m = order.length - i ∧ ((i = 0 ∧ q.1 = s ∧ Fw.Sep h h' [rawB b (coderC c0 c1 c2 c3 c4 s nm md cd lt), ownSl si_Lapi_Instr (eIns si_Lapi_Arg) cd (NW ++ storesOf names LT)]) ∨
      (0 < i ∧ ∃ hb, Old h hb ∧ Old hb h' ∧ Fw.Sep h h' [ownSl si_Lvstate_Obj (rObj.fl hb) q.1 (stateTo l order names i), rawB b (coderC c0 c1 c2 c3 c4 s nm md cd lt), ownSl si_Lapi_Instr (eIns si_Lapi_Arg) cd (NW ++ storesOf names LT)]))) order.length
    ⟨0, rfl, by omega, by omega, .inl ⟨rfl, rfl, S⟩⟩ ?_
  clear S
  rintro _ _ ⟨out, i⟩ h27 ⟨i, hi0, hi, rfl, hst⟩
  simp only at hi0 hst ⊢
  subst hi0
  have S : Fw.Sep h h27 [rawB b (coderC c0 c1 c2 c3 c4 s nm md cd lt), ownSl si_Lapi_Instr (eIns si_Lapi_Arg) cd (NW ++ storesOf names LT)] := by
    rcases hst with ⟨_, _, S⟩ | ⟨_, hb, _, _, S⟩
    · exact S
    · exact S.drop
  refine ifB_intro (fun hc => ?_) (fun hc => ?_)
  · have hil : i < order.length := by rw [htl] at hc; simpa using hc
    have hout : rdSl rObj.el h27 out (stateTo l order names i) := by
      rcases hst with ⟨rfl, rfl, S⟩ | ⟨_, hb, _, ob, S⟩
      · exact hs.old S.old
      · exact RV.fl_el S.rd ob.ext
    have hslen := (state_len (names := names) C.ris C.obj i (by omega)).1
    have hsv := state_vals (order := order) (names := names) C.vals i
    have hsr := state_rising (order := order) (names := names) C.ris i
    have hob := objF_state (names := names) C.ris C.once C.obj hil
    have hlen := C.len
    clear hst
    refine idx_rdN ht rfl hil fun p8 _ hp8 => ld_oneB (k := .int .i64) hp8 S.old ?_
    refine (mto_calls _).mono ?_
    rintro v h28 ⟨rfl, o28⟩
    refine ⟨_, rfl, ?_⟩
    have S28 := S.grow o28
    refine (Find_calls (a := toA order[i]) (hout.old o28) (rv_toA _) hsr (by omega) fun o ho => Nat.le_trans (hsv o ho) (by omega)).mono ?_
    rintro v h29 ⟨ds, rfl, hds, S29⟩
    refine ⟨_, _, rfl, ?_⟩
    have e : (findF (stateTo l order names i) (toA order[i])).getD zObj = objF l order[i] := hob
    rw [e] at S29
    have oF := S29.old
    obtain ⟨x, rfl, S30⟩ := own_found S29
    refine new_stR S30 rfl rfl (one_objC _ x) fun p9 h31 S31 => ?_
    refine idx_rdN hu rfl (by omega) fun p10 _ hp10 => ld_oneB (k := .str) hp10 (S28.old.trans S31.old) ?_
    refine (mvar_calls _).mono ?_
    rintro v h32 ⟨rfl, o32⟩
    refine ⟨_, rfl, rfl, ?_⟩
    refine st_rawsB (i := 3) (S31.grow o32) (show 3 + 3 ≤ 6 by decide) (by intro v hv; simp at hv; rcases hv with rfl | rfl | rfl <;> rfl) fun h33 S33 => ?_
    have S33 : Fw.Sep h28 h33 (rawB p9 (objC (madeO l order names i) x) :: ownSl si_Lapi_Arg eArg x (objF l order[i]).vals :: []) := by
      have e : putAt (objC (objF l order[i]) x) 3 [.int .i64 1, .string names[i], .int .i64 0] = objC (madeO l order names i) x := by
        unfold madeO
        rw [getD_lt hil, getD_lt (show i < names.length by omega)]
        rfl
      have e2 : (#[Value.int IntKind.i64 1, Value.string names[i], Value.int IntKind.i64 0] : Array Value).toList = [.int .i64 1, .string names[i], .int .i64 0] := rfl
      rw [e2] at S33
      rw [← e]
      exact S33
    refine ld_rawAgg S33 rfl ?_
    have hx33 := S33.drop.rd
    have hmv : (madeO l order names i).vals = (objF l order[i]).vals := by unfold madeO; rw [getD_lt hil]
    have hrv : rObj.rv h33 (objC (madeO l order names i) x).toList (madeO l order names i) := rv_obj.2 ⟨x, rfl, by rw [hmv]; exact rd_arg.1 hx33⟩
    have o9 : Old h27 h33 := o28.trans S33.old
    refine (vAdd_calls (hout.old o9) hrv hsr (by omega) (fun o ho => Nat.le_trans (hsv o ho) (by omega)) (by rw [hmv]; exact Nat.le_trans (objF_vals_le C.vals _) (by omega))).mono ?_
    rintro v h34 ⟨s', rfl, S34⟩
    refine ⟨_, rfl, ?_⟩
    have S35 := Sep.toFl ((S28.frame S33).frame S34)
    refine ar_i64 (by omega) (by omega) ⟨order.length - (i + 1), by omega, i + 1, rfl, by omega, rfl, .inr ⟨by omega, h34, S35.old, .refl _, ?_⟩⟩
    exact Sep.dropAt [_] (Sep.dropAt [_] S35)
  · have hil : i = order.length := by have hc : order.length ≤ i := by rw [htl] at hc; simpa using hc
                                      omega
    subst hil
    intro k hk
    have fin : ∀ (o2 : Sl) hb h', Old h hb → Old hb h' → Fw.Sep h h' [ownSl si_Lvstate_Obj (rObj.fl hb) o2 (stateTo l order names order.length), rawB b (coderC c0 c1 c2 c3 c4 s nm md cd lt), ownSl si_Lapi_Instr (eIns si_Lapi_Arg) cd (NW ++ storesOf names LT)] → k o2 h' := fun o2 hb h' q1 q2 S' => by
      refine hk _ _ fun _ => ?_
      refine ld_rawB (i := 8) (x := cd) S'.swap rfl rfl ?_
      exact ⟨cd, o2, hb, rfl, q1, q2, (Sep.pull [_, _] S').rd, Sep.dropLast (L := [_]) S'⟩
    rw [htl]
    refine ifB_intro (fun hz => ?_) (fun hz => ?_)
    · have hz : order.length = 0 := by have := eq_of_beq hz; omega
      refine copied_in (E := rObj.fl h) S (RV.fl_flat _ _) (RV.el_fl hs S.old.ext) rfl rfl (by have := C.len; simp only [si_Lvstate_Obj]; omega) (by have := C.len; omega) fun s' h' S' => ?_
      refine fin s' h h' (.refl _) S'.old ?_
      have : stateTo l order names order.length = l := by rw [hz]; rfl
      rw [this]
      exact S'
    · rcases hst with ⟨h0, _, _⟩ | ⟨_, hb, q1, q2, S'⟩
      · rw [h0] at hz; simp at hz
      · exact fin _ hb _ q1 q2 S'
end Go.Proofs.Ytncbpalncgcoaaa

/-
  Matter: the document's code.
-/
namespace Go.Proofs.Ytncbpalncgcoaaa
open Go.Fw Go.Fw.I Go.Pl.Api Go.Pl.Vst Go.Pl.Mat Go.Pl.Put Go.Pl

/-- Data told of one memory, wherever its own cells lie. -/
def _root_.Go.Fw.RV.pin {α : Type} (E : RV α) (h0 : Heap) : RV α where
  size := E.size
  rv _ cs x := E.rv h0 cs x
  len r := E.len r
  one r := E.one r
  ext r _ := r
theorem fld_oId_pin (h0 : Heap) : Fld (rObj.pin h0) rInt 0 MObj.id := ⟨fun hx => by
  obtain ⟨s, e, _⟩ := rv_obj.1 (show rObj.rv h0 _ _ from hx)
  subst e
  exact ⟨[.int .i64 _], fun j v hj => by
    rcases j with _ | j
    · exact hj
    · simp at hj, rfl⟩⟩
theorem refAdd_pin {h0 hb h : Heap} {s : Sl} {l : List MObj} {cs : Array Value} {o : MObj} (hs : rdSl (rObj.pin h0).el hb s l) (ob : Old hb h) (ho : rObj.rv h0 cs.toList o) (hr : Rising l) (hn : l.length ≤ 100000) :
    ACalls Try.prog F_lateenref22_Add [s.v, .agg cs] h (fun v h' => ∃ s' : Sl, v = s'.v ∧ Fw.Sep h h' [ownSl si_Llateenref22_Obj (rObj.fl h0) s' (addF l o)]) := by
  refine lateenref22_Add_of ?_
  unfold lateenref22_Add
  have hl := hs.lenEq
  refine new_rawB (Sep.start h) fun p h1 o1 S1 => ?_
  have hpc := rawB_cell S1
  have putO : ∀ {h2 : Heap} {out : Sl} {X : List MObj} {K : Sl → Heap → Prop}, Fw.Sep h h2 [ownSl si_Llateenref22_Obj (rObj.fl h0) out X, rawB p cs] → X.length ≤ 300000 → (∀ s' h', Fw.Sep h h' [ownSl si_Llateenref22_Obj (rObj.fl h0) s' (X ++ [o]), rawB p cs] → K s' h') →
      ld (.agg 6) h2 p fun (x : Array Value) => bld si_Llateenref22_Obj 1 [(0, .agg x)] h2 fun s h_3 => app si_Llateenref22_Obj out s h_3 fun s' h' => K s' h' := fun {h2 out X K} S hX hK => by
    refine ld_rawAgg S.swap (size_rv ho).symm ?_
    exact app1_flat (v := .agg cs) (x := o) S (fun _ => ⟨ho, rfl⟩) rfl (by decide) (by simp only [si_Llateenref22_Obj]; omega) (by omega) hK
  refine loop_intro (fun m (q : Sl × Bool × Int) h' => ∃ i : Nat, q.2.2 = i ∧ i ≤ l.length ∧ m = l.length - i ∧ Fw.Sep h h' [ownSl si_Llateenref22_Obj (rObj.fl h0) q.1 (outL l o i q.2.1), rawB p cs] ∧ OutI l o i q.2.1) l.length
    ⟨0, rfl, by omega, by omega, S1.nil rfl, ⟨fun _ k _ h => (by omega), fun h => by cases h⟩⟩ ?_
  clear S1
  rintro _ _ ⟨out, d, i⟩ h2 ⟨i, hi0, hil, rfl, S2, Q⟩
  simp only at hi0 S2 Q ⊢
  subst hi0
  have hX := @outL_len l o i d
  have hcell : hcell h2 (p.add 0) = some (.int .i64 o.id) := by
    rw [(rawB_cell S2.swap).2 0]
    obtain ⟨sl, rfl, _⟩ := arr_obj ho
    rfl
  refine ifB_intro (fun hc => ?_) (fun hc => ?_)
  · have hi : i < l.length := by rw [hl] at hc; simpa using hc
    intro k hk
    have next : ∀ (s' : Sl) (d' : Bool) (h' : Heap) (X : List MObj), X = outL l o (i + 1) d' → Fw.Sep h h' [ownSl si_Llateenref22_Obj (rObj.fl h0) s' X, rawB p cs] → OutI l o (i + 1) d' → k (s', d') h' := fun s' d' h' X hX S' Q' => hk _ _ fun _ => by
      subst hX
      exact ar_i64 (by omega) (by omega) ⟨l.length - (i + 1), by omega, i + 1, rfl, by omega, rfl, S', Q'⟩
    intro k1 hk1
    have k1of : ∀ (s' : Sl) (d' : Bool) (h' : Heap) (X : List MObj), X.length ≤ 300000 → Fw.Sep h h' [ownSl si_Llateenref22_Obj (rObj.fl h0) s' X, rawB p cs] → (if l[i].id = o.id then X else X ++ [l[i]]) = outL l o (i + 1) d' → OutI l o (i + 1) d' → k1 (s', d') h' := fun s' d' h' X hXl S' he Q' => hk1 _ _ fun _ => by
      simp only
      have hcell' : Go.Fw.hcell h' (p.add 0) = some (.int .i64 o.id) := by
        rw [(rawB_cell S'.swap).2 0]
        obtain ⟨sl, rfl, _⟩ := arr_obj ho
        rfl
      refine idx_rdN hs rfl hi fun p1 _ hp1 => ?_
      refine ld_int ((fld_oId_pin h0).rd hp1) (ob.trans S'.old).ext ?_
      refine ld_one (k := .int .i64) (x := o.id) hcell' ?_
      refine ifB_intro (fun hne => ?_) (fun hne => ?_)
      · have hne : l[i].id ≠ o.id := by simpa using hne
        rw [if_neg hne] at he
        refine idx_rdN hs rfl hi fun p2 _ hp2 => ?_
        refine ld_agg hp2 (ob.trans S'.old).ext rfl fun c hc => ?_
        refine app1_flat (v := .agg c) (x := l[i]) S' (fun _ => ⟨hc, rfl⟩) rfl (by decide) (by simp only [si_Llateenref22_Obj]; omega) (by omega) fun s2 h3 S3 => ?_
        exact next s2 d' h3 _ he S3 Q'
      · have he' : l[i].id = o.id := by simpa using hne
        rw [if_pos he'] at he
        exact next s' d' h' _ he S' Q'
    intro k2 hk2
    cases d with
    | true =>
      obtain ⟨e1, e2, e3⟩ := out_more hr hi Q
      refine ifB_false rfl (hk2 _ _ fun _ => ifB_false rfl ?_)
      exact k1of out true h2 _ (by omega) S2 (by rw [if_neg e3, e1]) e2
    | false =>
      refine ifB_true rfl ?_
      refine idx_rdN hs rfl hi fun p3 _ hp3 => ?_
      refine ld_int ((fld_oId_pin h0).rd hp3) (ob.trans S2.old).ext ?_
      refine ld_one (k := .int .i64) (x := o.id) hcell ?_
      by_cases hge : o.id ≤ l[i].id
      · rw [decide_eq_true (show l[i].id ≥ o.id from hge)]
        obtain ⟨e1, e2⟩ := out_first hi hge Q
        refine hk2 _ _ fun _ => ifB_true rfl ?_
        refine putO S2 (by omega) fun s' h' S' => ?_
        exact k1of s' true h' _ (by rw [List.length_append]; simp; omega) S' (by rw [e1]; split <;> simp) e2
      · rw [decide_eq_false (show ¬ l[i].id ≥ o.id from hge)]
        obtain ⟨e1, e2⟩ := out_low hi (by omega) Q
        refine hk2 _ _ fun _ => ifB_false rfl ?_
        exact k1of out false h2 _ (by omega) S2 (by rw [if_neg (by omega), e1]) e2
  · have hil : i = l.length := by rw [hl] at hc; have : l.length ≤ i := by simpa using hc
                                  omega
    subst hil
    have he := out_end Q
    intro k3 hk3
    have fin : ∀ (s' : Sl) (h' : Heap), Fw.Sep h h' [ownSl si_Llateenref22_Obj (rObj.fl h0) s' (addF l o), rawB p cs] → k3 s' h' := fun s' h' S' => hk3 _ _ fun _ => ⟨s', rfl, S'.swap.drop⟩
    cases d with
    | true =>
      refine ifB_false rfl (fin out h2 ?_)
      rw [he]
      exact S2
    | false =>
      refine ifB_true rfl ?_
      refine putO S2 (by omega) fun s' h' S' => fin s' h' ?_
      rw [he]
      exact S'

theorem Sep.pinRd {h0 hb h : Heap} {L : List As} {s : Sl} {l : List MObj} (S : Fw.Sep hb h (ownSl si_Llateenref22_Obj (rObj.fl h0) s l :: L)) : rdSl (rObj.pin h0).el h s l := S.rd
theorem pin_of {h : Heap} {s : Sl} {l : List MObj} (r : rdSl rObj.el h s l) : rdSl (rObj.pin h).el h s l := r
theorem rd_pin {h0 h : Heap} {s : Sl} {l : List MObj} (r : rdSl (rObj.pin h0).el h s l) (e : hExt h0 h) : rdSl rObj.el h s l := RV.fl_el (E := rObj) (hb := h0) r e
variable {l : List MObj} {order : List Int} {names : List ByteArray}
theorem storesOf_app (A B : List (Nat × Nat × ByteArray)) : storesOf names (A ++ B) = storesOf names A ++ storesOf names B := by simp [storesOf]
set_option maxHeartbeats 4000000 in
theorem refCode_calls {h : Heap} {cs : Array Value} {s t u : Sl} {p : MProg} {c : MClass} (C : CodeOk l order names p c) (hp : rProg.rv h cs.toList p) (hs : rdSl rObj.el h s l) (ht : rdSl eInt h t order) (hu : rdSl eStr h u names) :
    ACalls Try.prog F_lateenref24_Code [.agg cs, s.v, t.v, u.v] h (fun v h' => ∃ (r1 r2 : Sl), v = .tuple #[r1.v, r2.v] ∧ Old h h' ∧ rdSl rInstr.el h' r1 (codeF l order c.fields names) ∧ rdSl rObj.el h' r2 (stateTo l order names order.length)) := by
  refine lateenref24_Code_of ?_
  unfold lateenref24_Code
  have htl := ht.lenEq
  have hul := hu.lenEq
  have holen := C.olen
  have hnlen := C.nlen
  have hlen := C.len
  obtain ⟨c0, c1, c2, c3, c4, rfl⟩ := rv_prog' hp
  refine new_rawB (Sep.start h) fun p1 h1 o1 S1 => ?_
  have S0 : Fw.Sep h h1 [ownSl si_Lapi_Instr (eIns si_Lapi_Arg) ⟨none, 0, 0⟩ (newsTo l order names 0), ownSl si_Lapi_Instr (eIns si_Lapi_Arg) ⟨none, 0, 0⟩ (storesOf names (latesTo l order c.fields 0)), rawB p1 #[c0, c1, c2, c3, c4]] := (S1.nil rfl).nil rfl
  refine loop_intro (fun m (q : Sl × Sl × Sl × Int) h' => ∃ i : Nat, q.2.2.2 = i ∧ i ≤ order.length ∧ m = order.length - i ∧ rdSl (rObj.pin h).el h' q.2.2.1 (stateTo l order names i) ∧
      ∃ X, Fw.Sep h h' (ownSl si_Lapi_Instr (eIns si_Lapi_Arg) q.1 (newsTo l order names i) :: ownSl si_Lapi_Instr (eIns si_Lapi_Arg) q.2.1 (storesOf names (latesTo l order c.fields i)) :: rawB p1 #[c0, c1, c2, c3, c4] :: X) ∧ (i = 0 ∧ q.2.2.1 = s ∧ X = [] ∨ X = [ownSl si_Llateenref22_Obj (rObj.fl h) q.2.2.1 (stateTo l order names i)])) order.length
    ⟨0, rfl, by omega, by omega, (pin_of hs).old S0.old, [], S0, .inl ⟨rfl, rfl, rfl⟩⟩ ?_
  clear S0 S1
  rintro _ _ ⟨out, late, st, i⟩ h2 ⟨i, hi0, hi, rfl, hst, X, S, hX⟩
  simp only at hi0 hst S hX ⊢
  subst hi0
  have hll := latesTo_len (order := order) C.vals c.fields i
  refine ifB_intro (fun hc => ?_) (fun hc => ?_)
  · have hil : i < order.length := by rw [htl] at hc; simpa using hc
    have hz : order.getD i 0 ∈ order := by rw [getD_lt hil]; exact List.getElem_mem hil
    have hcl := C.cls _ hz
    have hcf := C.flds _ hz
    have hid := getD_lt (d := (0 : Int)) hil
    refine idx_rdN ht rfl hil fun p2 _ hp2 => ld_oneB (k := .int .i64) hp2 S.old ?_
    refine (rto_calls _).mono ?_
    rintro v h3 ⟨rfl, o3⟩
    refine ⟨_, rfl, ?_⟩
    have S3 := S.grow o3
    refine (refFind_callsB (a := toA order[i]) hs S3.old (rv_toA _)).mono ?_
    rintro v h4 ⟨ds, rfl, o4, hds⟩
    refine ⟨_, _, rfl, ?_⟩
    have S4 := S3.grow o4
    have hds : rObj.rv h ds.toList (objF l order[i]) := hds
    generalize ho : objF l order[i] = o at *
    have hobj : objF l (order.getD i 0) = o := by rw [hid, ho]
    rw [hobj] at hcl hcf
    obtain ⟨x, rfl, hx⟩ := arr_obj hds
    refine new_stR S4 rfl rfl (one_objC o x) fun p3 h6 S6 => ?_
    refine ld_rawAgg (Sep.pull [_, _, _] S6) rfl ?_
    refine ld_rawB (i := 1) (x := o.cls) S6 rfl rfl ?_
    refine (rclass_calls (p := p) (n := o.cls) hp S6.old).mono ?_
    rintro v h7 ⟨cds, rfl, hcds, o7, hcrv⟩
    refine ⟨_, _, rfl, ?_⟩
    rw [hcl] at hcrv
    obtain ⟨y, rfl, hy⟩ := arr_class hcrv
    have hyl := hy.lenEq
    refine new_stR (S6.grow o7) rfl rfl ?_ fun p4 h9 S9 => ?_
    · intro v hv; simp at hv; rcases hv with rfl | rfl <;> rfl
    have hin : i < names.length := by omega
    refine idx_rdN hu rfl hin fun p5 _ hp5 => ld_oneB (k := .str) hp5 S9.old ?_
    refine ld_rawB (i := 1) (x := o.cls) S9.swap rfl rfl ?_
    refine ⟨insA names[i] o.cls ⟨none, 0, 0⟩, by kernel_rfl, ?_⟩
    have one_insA : ∀ (d e : ByteArray) (x : Sl), ∀ v ∈ (insA d e x).toList, v.oneCell' = true := by
      intro d e x v hv; simp [insA] at hv; rcases hv with rfl | rfl | rfl | rfl | rfl <;> rfl
    refine new_stR S9 rfl rfl (one_insA _ _ _) fun p6 h11 S11 => ?_
    refine idx_rdN hu rfl hin fun p7 _ hp7 => ld_oneB (k := .str) hp7 S11.old ?_
    refine bst_var ?_
    refine new_stR S11 rfl rfl (by intro v hv; simp at hv; rcases hv with rfl | rfl | rfl <;> rfl) fun p8 h13 S13 => ?_
    have S14 := Sep.push [_, _] (Sep.nil (si := si_Lapi_Arg) (E := eArg) S13 rfl)
    clear S13 S11 S9 S6 S4 S3
    have hnew : newI l order names i = ⟨25, names[i], o.cls, o.vals.map (argF l order names i), [], []⟩ := by unfold newI; rw [hobj, getD_lt hin]
    have hvl : o.vals.length ≤ 100 := by rw [← ho]; exact objF_vals_le C.vals _
    have hlsucc : ∀ j, lates l order c.fields i (j + 1) = lates l order c.fields i j ++ (lateO l order c.fields i o.vals j).toList := fun j => by
      unfold lates
      rw [List.range_succ, List.filterMap_append, fm_one, hobj]
    generalize hLT : latesTo l order c.fields i = LT at *
    refine loop_intro (fun n (q : Sl × Int) h' => ∃ (j : Nat) (xs : Sl), q.2 = j ∧ j ≤ o.vals.length ∧ n = o.vals.length - j ∧ (lates l order c.fields i j).length ≤ j ∧ Old h13 h13 ∧
        Fw.Sep h h' (rawB p8 #[.int .i64 1, .string names[i], .int .i64 0] :: rawB p6 (insA names[i] o.cls xs) :: ownSl si_Lapi_Arg eArg xs ((o.vals.take j).map (argF l order names i)) :: rawB p4 #[.string c.name, y.v] :: rawB p3 (objC o x) :: ownSl si_Lapi_Instr (eIns si_Lapi_Arg) out (newsTo l order names i) ::
          ownSl si_Lapi_Instr (eIns si_Lapi_Arg) q.1 (storesOf names (LT ++ lates l order c.fields i j)) :: rawB p1 #[c0, c1, c2, c3, c4] :: X)) o.vals.length
      ⟨0, _, rfl, by omega, by omega, by simp [lates], .refl _, by rw [show lates l order c.fields i 0 = [] from rfl, List.append_nil]; exact S14⟩ ?_
    clear S14
    rintro _ _ ⟨lt, j⟩ h14 ⟨j, xs, hj0, hj, rfl, hlj, _, S⟩
    simp only at hj0 S ⊢
    subst hj0
    refine ld_rawB (i := 2) (x := x) (Sep.pull [_, _, _, _] S) rfl rfl ?_
    have hxl := hx.lenEq
    refine ifB_intro (fun hcc => ?_) (fun hcc => ?_)
    · have hjl : j < o.vals.length := by rw [hxl] at hcc; simpa using hcc
      refine ld_rawB (i := 2) (x := x) (Sep.pull [_, _, _, _] S) rfl rfl ?_
      refine idx_rdN hx rfl hjl fun p9 _ hp9 => ?_
      refine ld_agg hp9 S.old.ext rfl fun cs hcs => ?_
      refine (refReally_calls (a := o.vals[j]) (hs.old S.old) (rv_arg.2 (rv_arg.1 hcs))).mono ?_
      rintro v h15 ⟨rs, rfl, o15, hrs⟩
      refine ⟨_, rfl, ?_⟩
      have ers := arr_arg hrs
      refine new_stR (S.grow o15) rfl (size_rv hrs) (one_arg hrs) fun p10 h17 S17 => ?_
      generalize hra : reallyF l o.vals[j] = ra at *
      subst ers
      clear S
      have htgt : tgt l order o.vals[j] = if ra.kind = 5 then Mat.atF order ra.n else none := by unfold tgt; rw [hra]
      have htake : (o.vals.take (j + 1)).map (argF l order names i) = (o.vals.take j).map (argF l order names i) ++ [argF l order names i o.vals[j]] := by
        rw [List.take_succ_eq_append_getElem hjl, List.map_append]; rfl
      have hget : o.vals[j]? = some o.vals[j] := List.getElem?_eq_getElem hjl
      intro k1 hk1
      have main : ∀ av : Int, (tgt l order o.vals[j] = none ∧ av = -1) ∨ (∃ q : Nat, tgt l order o.vals[j] = some q ∧ av = (q : Int)) → k1 av h17 := fun av hav => by
        refine hk1 _ _ fun _ => ?_
        intro k2 hk2
        have fin : ∀ (lt2 : Sl) (na : MArg) (add : List (Nat × Nat × ByteArray)) h', na = argF l order names i o.vals[j] → add = (lateO l order c.fields i o.vals j).toList →
            Fw.Sep h h' (rawB p10 (argC na).toArray :: rawB p8 #[.int .i64 1, .string names[i], .int .i64 0] :: rawB p6 (insA names[i] o.cls xs) :: ownSl si_Lapi_Arg eArg xs ((o.vals.take j).map (argF l order names i)) :: rawB p4 #[.string c.name, y.v] :: rawB p3 (objC o x) :: ownSl si_Lapi_Instr (eIns si_Lapi_Arg) out (newsTo l order names i) ::
              ownSl si_Lapi_Instr (eIns si_Lapi_Arg) lt2 (storesOf names (LT ++ lates l order c.fields i j ++ add)) :: rawB p1 #[c0, c1, c2, c3, c4] :: X) → k2 lt2 h' := fun lt2 na add h' e1 e2 S' => by
          refine hk2 _ _ fun _ => ?_
          refine ld_rawB (i := 3) (x := xs) (Sep.pull [_, _] S') rfl rfl ?_
          refine ld_rawAgg (cs := (argC na).toArray) S' rfl ?_
          refine app1_flat (x := na) (Sep.pull [_, _, _] S') (fun _ => ⟨rfl, rfl⟩) rfl (by decide) ?_ ?_ fun xs' h31 S31 => ?_
          · simp only [List.length_map, List.length_take, si_Lapi_Arg]; omega
          · simp only [List.length_map, List.length_take]; omega
          refine st_rawB (i := 3) (Sep.pull [_, _, _] S31) (show 3 < 6 by decide) rfl fun h33 S33 => ?_
          refine ar_i64 (by omega) (by omega) ⟨o.vals.length - (j + 1), by omega, j + 1, xs', rfl, by omega, rfl, ?_, .refl _, ?_⟩
          · rw [hlsucc, List.length_append]
            have : (lateO l order c.fields i o.vals j).toList.length ≤ 1 := by cases lateO l order c.fields i o.vals j <;> simp
            omega
          · rw [htake, hlsucc, ← e1, ← e2, ← List.append_assoc]
            exact Sep.pull [_, _] (Sep.dropAt [_, _] S33)
        intro k3 hk3
        rcases hav with ⟨ht, rfl⟩ | ⟨q, ht, rfl⟩
        · refine ifB_false rfl (hk3 _ _ fun _ => ifB_false rfl (ifB_false rfl ?_))
          refine fin lt ra [] _ (by unfold argF; rw [ht]; exact hra.symm) (by unfold lateO; rw [hget]; simp [ht]) ?_
          rw [List.append_nil]
          exact S17
        · have hq : q < order.length := by
            rw [ht] at htgt
            split at htgt
            · exact (atF_some htgt.symm).1
            · cases htgt
          have hqn : q < names.length := by omega
          refine ifB_true (by simp) (hk3 _ _ fun _ => ?_)
          refine ifB_intro (fun hlt => ?_) (fun hge => ?_)
          · have hqi : q < i := by simpa using hlt
            refine idx_rdN hu rfl hqn fun p11 _ hp11 => ld_oneB (k := .str) hp11 S17.old ?_
            refine bst_var ?_
            refine st_allB S17 rfl rfl (by intro v hv; simp at hv; rcases hv with rfl | rfl | rfl <;> rfl) fun h24 S24 => ?_
            refine fin lt (varA names[q]) [] _ (by unfold argF; rw [ht]; simp only; rw [if_pos hqi, getD_lt hqn]) (by unfold lateO; rw [hget]; simp only [ht]; rw [if_neg (by omega)]; rfl) ?_
            rw [List.append_nil]
            exact S24
          · have hqi : i ≤ q := by simpa using hge
            refine ifB_true (by simp) ?_
            refine ld_rawB (i := 1) (x := y) (Sep.pull [_, _, _, _] S17) rfl rfl ?_
            have hjf : j < c.fields.length := by omega
            refine idx_rdN (hy.old S17.old) rfl hjf fun p12 _ hp12 => ?_
            refine ld_str (fld_vName.rd hp12) (hExt.refl _) ?_
            refine ld_rawAgg S17.swap rfl ?_
            refine idx_rdN hu rfl hqn fun p13 _ hp13 => ld_oneB (k := .str) hp13 S17.old ?_
            refine bst_var ?_
            refine bld_rule (E := eArg) (l := [varA names[i], varA names[q]]) (us := argC (varA names[i]) ++ argC (varA names[q])) (S17.free (A := ownRow eArg _ _) loc_ownRow ?_) (by kernel_rfl) rfl rfl (by decide) (by decide) fun s3 h25 S25 => ?_
            · exact ⟨argC _, argC _, [], [], rfl, rfl, own_arg _ _, argC _, [], [], [], by simp, rfl, own_arg _ _, rfl, rfl⟩
            refine ⟨stC c.fields[j].name s3, by kernel_rfl, ?_⟩
            have hsti : Mat.stI names i q c.fields[j].name = ⟨27, eS, c.fields[j].name, [varA names[i], varA names[q]], [], []⟩ := by unfold Mat.stI; rw [getD_lt hin, getD_lt hqn]
            have S26 : Fw.Sep h h25 (ownEl (eIns si_Lapi_Arg) (Value.agg (stC c.fields[j].name s3)).cells.toList (Mat.stI names i q c.fields[j].name) :: _) := S25.conv loc_ownEl fun f o1 => ⟨f, List.Sublist.refl f, s3, by rw [hsti]; rfl, by rw [hsti], by rw [hsti], by rw [hsti]; exact o1⟩
            have hsl : (storesOf names (LT ++ lates l order c.fields i j)).length ≤ 1000000 := by
              have h1 : i * 100 ≤ 1000 * 100 := Nat.mul_le_mul_right _ (by omega)
              unfold storesOf
              rw [List.length_map, List.length_append]
              omega
            have S27 := Sep.pull [_, _, _, _, _, _, _, _] S26
            refine app1_rule (x := Mat.stI names i q c.fields[j].name) S27 rfl (by decide) (by simp only [si_Lapi_Instr]; omega) (by omega) fun lt2 h27 S28 => ?_
            refine ⟨#[.int .i64 4, .string ⟨#[]⟩, .int .i64 0], by kernel_rfl, ?_⟩
            refine st_allB S28.swap rfl rfl (by intro v hv; simp at hv; rcases hv with rfl | rfl | rfl <;> rfl) fun h28 S29 => ?_
            have hlo : lateO l order c.fields i o.vals j = some (i, q, c.fields[j].name) := by
              unfold lateO
              rw [hget]
              simp only [ht]
              rw [if_pos hqi, List.getElem?_eq_getElem hjf]
              rfl
            refine fin lt2 nulA [(i, q, c.fields[j].name)] h28 (by unfold argF; rw [ht]; simp only; rw [if_neg (by omega)]) (by rw [hlo]; rfl) ?_
            rw [storesOf_app _ [_]]
            exact Sep.push [_, _, _, _, _, _, _] (Sep.pull [_] S29)
      refine ld_rawB (i := 0) (x := ra.kind) S17 rfl rfl ?_
      by_cases h5 : ra.kind = 5
      · refine ifB_true (by simp [h5]) ?_
        refine ld_rawB (i := 2) (x := ra.n) S17 rfl rfl ?_
        refine (in_calls (ht.old S17.old) _).mono ?_
        rintro v h29 ⟨rfl, e⟩
        have e := e.symm
        subst e
        refine ⟨_, rfl, ?_⟩
        rw [if_pos h5] at htgt
        refine main _ ?_
        unfold inF
        cases hat : Mat.atF order ra.n with
        | none => exact .inl ⟨by rw [htgt, hat], rfl⟩
        | some q => exact .inr ⟨q, by rw [htgt, hat], rfl⟩
      · refine ifB_false (by simp [h5]) ?_
        rw [if_neg h5] at htgt
        exact main _ (.inl ⟨htgt, rfl⟩)
    · have hjl : j = o.vals.length := by have hcc : o.vals.length ≤ j := by rw [hxl] at hcc; simpa using hcc
                                         omega
      subst hjl
      rw [List.take_length] at S
      refine ld_rawAgg S.swap rfl ?_
      have S2 : Fw.Sep h h14 (ownEl (eIns si_Lapi_Arg) (insA names[i] o.cls xs).toList (newI l order names i) :: rawB p8 #[.int .i64 1, .string names[i], .int .i64 0] :: rawB p6 (insA names[i] o.cls xs) :: rawB p4 #[.string c.name, y.v] :: rawB p3 (objC o x) :: ownSl si_Lapi_Instr (eIns si_Lapi_Arg) out (newsTo l order names i) ::
          ownSl si_Lapi_Instr (eIns si_Lapi_Arg) lt (storesOf names (LT ++ lates l order c.fields i o.vals.length)) :: rawB p1 #[c0, c1, c2, c3, c4] :: X) := (Sep.pull [_, _] S).conv loc_ownEl fun f o1 => ⟨f, List.Sublist.refl f, xs, by rw [hnew]; rfl, by rw [hnew], by rw [hnew], by rw [hnew]; exact o1⟩
      refine app1_rule (x := newI l order names i) (Sep.pull [_, _, _, _, _] S2) rfl (by decide) ?_ ?_ fun out2 h31 S31 => ?_
      · simp only [newsTo, List.length_map, List.length_range, si_Lapi_Instr]; omega
      · simp only [newsTo, List.length_map, List.length_range]; omega
      refine ld_rawAgg S31.swap rfl ?_
      refine ⟨rfl, ?_⟩
      refine st_rawsB (i := 3) (Sep.pull [_, _, _, _] S31) (show 3 + 3 ≤ 6 by decide) (by intro v hv; simp at hv; rcases hv with rfl | rfl | rfl <;> rfl) fun h32 S32 => ?_
      have S32 : Fw.Sep h h32 (rawB p3 (objC (madeO l order names i) x) :: ownSl si_Lapi_Instr (eIns si_Lapi_Arg) out2 (newsTo l order names i ++ [newI l order names i]) :: rawB p8 #[.int .i64 1, .string names[i], .int .i64 0] :: rawB p6 (insA names[i] o.cls xs) :: rawB p4 #[.string c.name, y.v] ::
          ownSl si_Lapi_Instr (eIns si_Lapi_Arg) lt (storesOf names (LT ++ lates l order c.fields i o.vals.length)) :: rawB p1 #[c0, c1, c2, c3, c4] :: X) := by
        have e : putAt (objC o x) 3 [.int .i64 1, .string names[i], .int .i64 0] = objC (madeO l order names i) x := by
          unfold madeO
          rw [hobj, getD_lt hin]
          rfl
        have e2 : (#[Value.int IntKind.i64 1, Value.string names[i], Value.int IntKind.i64 0] : Array Value).toList = [.int .i64 1, .string names[i], .int .i64 0] := rfl
        rw [e2] at S32
        rw [← e]
        exact S32
      refine ld_rawAgg S32 rfl ?_
      have hmv : (madeO l order names i).vals = o.vals := by unfold madeO; rw [hobj]
      have hrv : rObj.rv h (objC (madeO l order names i) x).toList (madeO l order names i) := rv_obj.2 ⟨x, rfl, by rw [hmv]; exact hx⟩
      have hst32 : rdSl (rObj.pin h).el h32 st (stateTo l order names i) := by
        rcases hX with ⟨rfl, rfl, rfl⟩ | rfl
        · exact (pin_of hs).old S32.old
        · exact Sep.pinRd (Sep.pull [_, _, _, _, _, _, _] S32)
      have hslen := (state_len (names := names) C.ris C.obj i (by omega)).1
      have hsr := state_rising (order := order) (names := names) C.ris i
      refine (refAdd_pin hst32 (.refl _) hrv hsr (by omega)).mono ?_
      rintro v h33 ⟨st2, rfl, S33⟩
      refine ⟨_, rfl, ?_⟩
      have S34 := S32.frame S33
      have S35 := Sep.dropAt [_, _] (Sep.dropAt [_, _] (Sep.dropAt [_, _] (Sep.dropAt [_] S34)))
      have S36 : Fw.Sep h h33 (ownSl si_Llateenref22_Obj (rObj.fl h) st2 (stateTo l order names (i + 1)) :: ownSl si_Lapi_Instr (eIns si_Lapi_Arg) out2 (newsTo l order names (i + 1)) :: ownSl si_Lapi_Instr (eIns si_Lapi_Arg) lt (storesOf names (latesTo l order c.fields (i + 1))) :: rawB p1 #[c0, c1, c2, c3, c4] :: X) := by
        rw [news_succ, latesTo_succ, hobj, hLT]
        exact S35
      have S37 := Sep.dropLast (L := [_, _, _, _]) S36
      exact ar_i64 (by omega) (by omega) ⟨order.length - (i + 1), by omega, i + 1, rfl, by omega, rfl, Sep.pinRd S37, _, Sep.push [_, _, _] S37, .inr rfl⟩
  · have hil : i = order.length := by have hc : order.length ≤ i := by rw [htl] at hc; simpa using hc
                                      omega
    subst hil
    have hsl : (storesOf names (latesTo l order c.fields order.length)).length ≤ 1000000 := by
      have h1 : order.length * 100 ≤ 1000 * 100 := Nat.mul_le_mul_right _ (by omega)
      unfold storesOf
      rw [List.length_map]
      omega
    refine app_own S ?_ ?_ fun r1 h34 S34 => ?_
    · simp only [newsTo, List.length_map, List.length_range, si_Lapi_Instr]; omega
    · simp only [newsTo, List.length_map, List.length_range]; omega
    refine ⟨r1, st, rfl, S34.old, S34.rd, ?_⟩
    refine rd_pin ?_ S34.old.ext
    rcases hX with ⟨h0, rfl, rfl⟩ | rfl
    · rw [h0]
      exact (pin_of hs).old S34.old
    · exact Sep.pinRd (Sep.pull [_, _] S34)
end Go.Proofs.Ytncbpalncgcoaaa

/-
  Matter: instructions that are the same; the answers that the document fixes.
-/
namespace Go.Proofs.Ytncbpalncgcoaaa
open Go.Fw Go.Fw.I Go.Pl.Api Go.Pl.Vst Go.Pl.Mat Go.Pl.Put Go.Pl

theorem sameArgs6_calls {h : Heap} {a b : Sl} {A B : List MArg} (ha : rdSl rArg.el h a A) (hb : rdSl rArg.el h b B) :
    ACalls Try.prog F_lateenref06_sameArgs [a.v, b.v] h (fun v h' => v = .bool (decide (A = B)) ∧ h' = h) := by
  refine lateenref06_sameArgs_of ?_
  unfold lateenref06_sameArgs
  have hla := ha.lenEq
  have hlb := hb.lenEq
  refine ifB_intro (fun hc => ?_) (fun hc => ?_)
  · refine ⟨congrArg Value.bool (decide_eq_false fun e => ?_).symm, rfl⟩
    subst e
    rw [hla, hlb] at hc
    simp at hc
  have hAB : A.length = B.length := by rw [hla, hlb] at hc; simp at hc; omega
  refine loop_intro (fun m (q : Int) h' => ∃ i : Nat, q = i ∧ i ≤ A.length ∧ m = A.length - i ∧ h' = h ∧ A.take i = B.take i) A.length
    ⟨0, rfl, by omega, by omega, rfl, rfl⟩ ?_
  rintro _ _ _ h3 ⟨i, rfl, hi, rfl, rfl, hsame⟩
  refine ifB_intro (fun hc => ?_) (fun hc => ?_)
  · have hil : i < A.length := by rw [hla] at hc; simpa using hc
    have hib : i < B.length := by omega
    refine idx_rdN ha rfl hil fun p2 _ hp2 => ?_
    refine ld_agg hp2 (hExt.refl _) rfl fun cs hcs => ?_
    refine idx_rdN hb rfl hib fun p3 _ hp3 => ?_
    refine ld_agg hp3 (hExt.refl _) rfl fun ds hds => ?_
    refine eq_arg hcs hds ?_
    refine ifB_intro (fun he => ?_) (fun he => ?_)
    · have he : A[i] ≠ B[i] := by simpa using he
      refine ⟨congrArg Value.bool (decide_eq_false fun e => he ?_).symm, rfl⟩
      subst e; rfl
    · have he : A[i] = B[i] := by simpa using he
      refine ar_i64 (by omega) (by have := ha.bound; omega) ⟨A.length - (i + 1), by omega, i + 1, rfl, by omega, rfl, rfl, ?_⟩
      rw [List.take_succ_eq_append_getElem hil, List.take_succ_eq_append_getElem hib, hsame, he]
  · have hil : A.length ≤ i := by rw [hla] at hc; simpa using hc
    rw [List.take_of_length_le hil, List.take_of_length_le (by omega)] at hsame
    exact ⟨congrArg Value.bool (decide_eq_true hsame).symm, rfl⟩

theorem sameInstr_calls {h : Heap} {c1 c2 : Array Value} {x : MInstr} (h1 : rInstr.rv h c1.toList x) (h2 : rInstr.rv h c2.toList x) (hs : x.stands = []) (ho : x.objs = []) :
    ACalls Try.prog F_lateenref06_SameInstr [.agg c1, .agg c2] h (fun v h' => v = .bool true ∧ Old h h') := by
  refine lateenref06_SameInstr_of ?_
  unfold lateenref06_SameInstr
  refine new_bx h1 fun p ha oa hp => ?_
  refine new_bx h2 fun q hb ob hq => ?_
  have hp := RV.bx_old hp ob
  have o2 := oa.trans ob
  intro k hk
  have refl : ∀ (b : ByteArray), (!(b.toList == b.toList)) = false := fun b => by simp
  refine ld_intX (fld_iOp.bx hp) (ld_intX (fld_iOp.bx hq) (ifB_false (by simp) ?_))
  refine ld_strX (fld_iDst.bx hp) (ld_strX (fld_iDst.bx hq) (ifB_false (refl _) ?_))
  refine ld_strX (fld_iName.bx hp) (ld_strX (fld_iName.bx hq) (ifB_false (refl _) ?_))
  refine ld_lstX (fld_iArgs.bx hp) fun sa hsa => ld_lstX (fld_iArgs.bx hq) fun sb hsb => ?_
  refine (sameArgs6_calls (hsa.old o2) (hsb.old o2)).mono ?_
  rintro v h3 ⟨rfl, e⟩
  have e := e.symm
  subst e
  refine ⟨_, rfl, ifB_false (by simp) ?_⟩
  refine ld_lstX (fld_iStands.bx hp) fun sc hsc => ld_lstX (fld_iStands.bx hq) fun sd hsd => ?_
  rw [hs] at hsc hsd
  refine ifB_false (by rw [hsc.lenEq, hsd.lenEq]; rfl) ?_
  refine ld_lstX (fld_iObjs.bx hp) fun se hse => ld_lstX (fld_iObjs.bx hq) fun sf hsf => ?_
  rw [ho] at hse hsf
  rw [show ((se.len : Int) != (sf.len : Int)) = false by rw [hse.lenEq, hsf.lenEq]; rfl]
  refine hk _ _ fun _ => ifB_false rfl ?_
  refine loop_intro (fun m (t : Int) h' => t = 0 ∧ h' = hb) 0 ⟨rfl, rfl⟩ ?_
  rintro _ _ _ h9 ⟨rfl, e⟩
  have e := e.symm
  subst e
  refine ld_lstX (fld_iStands.bx hp) fun sg hsg => ?_
  rw [hs] at hsg
  refine ifB_false (by rw [hsg.lenEq]; rfl) ?_
  refine loop_intro (fun m (t : Int) h' => t = 0 ∧ h' = hb) 0 ⟨rfl, rfl⟩ ?_
  rintro _ _ _ h9 ⟨rfl, e⟩
  have e := e.symm
  subst e
  refine ld_lstX (fld_iObjs.bx hp) fun sg hsg => ?_
  rw [ho] at hsg
  refine ifB_false (by rw [hsg.lenEq]; rfl) ?_
  exact ⟨rfl, o2⟩
end Go.Proofs.Ytncbpalncgcoaaa

/-
  lateenlaw24.awake.
-/
namespace Go.Proofs.Ytncbpalncgcoaaa
open Go.Fw Go.Fw.I Go.Pl.Api Go.Pl.Vst Go.Pl.Mat Go.Pl.Put Go.Pl

def ch1 : MObj := ⟨1, pS, [toA 2, nulA], zArg⟩
def ch2 : MObj := ⟨2, pS, [nulA, nulA], zArg⟩
def rd1 : MObj := ⟨1, pS, [toA 1, nulA], zArg⟩
def xS : ByteArray := ⟨#[120]⟩
theorem ris_ch : Rising [ch1, ch2] := by unfold Rising; simp [ch1, ch2]
theorem ris_rd : Rising [rd1] := by unfold Rising; simp
theorem reach_ch : reachF [ch1, ch2] [toA 1] = [1, 2] := by
  refine (reach_eq ris_ch (by simp) fun z => ?_).symm
  have h1 : Rch [ch1, ch2] [toA 1] ch1 := .base (by simp) rfl (a := toA 1) (by simp) rfl rfl
  have h2 : Rch [ch1, ch2] [toA 1] ch2 := .step h1 (by simp) rfl (a := toA 2) (by simp [ch1]) rfl rfl
  constructor
  · intro hz
    simp at hz
    rcases hz with rfl | rfl
    · exact ⟨_, h1, rfl⟩
    · exact ⟨_, h2, rfl⟩
  · rintro ⟨o, ho, rfl⟩
    have := ho.mem.1
    simp at this
    rcases this with rfl | rfl <;> simp [ch1, ch2]
theorem order_ch : orderF [ch1, ch2] [1] = [2, 1] := by
  rw [orderF_eq ris_ch]
  have e : reachF [ch1, ch2] (List.map toA [1]) = [1, 2] := reach_ch
  rw [e]
  decide +kernel
theorem code_rd : codeF [rd1] [1] clsP.fields [xS] = [⟨25, xS, pS, [nulA, nulA], [], []⟩, ⟨27, eS, nS, [varA xS, varA xS], [], []⟩] := by rfl
theorem state_rd : stateTo [rd1] [1] [xS] 1 = [⟨1, pS, [toA 1, nulA], varA xS⟩] := by rfl
theorem ok_rd : CodeOk [rd1] [1] [xS] progP clsP where
  ris := ris_rd
  len := by simp
  vals o ho := by simp at ho; subst ho; simp [rd1]
  once := by simp
  olen := by simp
  nlen := rfl
  cls z hz := by simp at hz; subst hz; kernel_rfl
  flds z hz := by simp at hz; subst hz; decide
  obj z hz := by simp at hz; subst hz; exact ⟨rd1, by simp, rfl⟩

def nulV : Array Value := #[.int .i64 4, .string ⟨#[]⟩, .int .i64 0]
theorem bare_rd {h : Heap} {s : Sl} {L : List (List Value)} {X : List MObj} (r : rdSl eBare h s L) (hl : L.length = X.length) (hx : ∀ i (h1 : i < L.length) (h2 : i < X.length), rObj.rv h L[i] X[i]) : rdSl rObj.el h s X := by
  obtain ⟨r1, r2, r3, r4, r5⟩ := r
  refine ⟨by omega, r2, by omega, r4, ?_⟩
  rcases r5 with r5 | ⟨a, ha, hs, r5⟩
  · left
    rw [r5] at hl
    exact List.eq_nil_of_length_eq_zero hl.symm
  · refine .inr ⟨a, ha, hs, fun i hi => ?_⟩
    have hil : i < L.length := by omega
    obtain ⟨q1, _, _, _, q5⟩ := r5 i hil
    exact ⟨q1, _, q5, hx i hil hi⟩
theorem own_bare {o : MObj} {x : Sl} (h : Heap) : eBare.own (objC o x).toList (objC o x).toList h [] := ⟨rfl, rfl, rfl, one_objC o x, ⟨_, _, _, _, _, x, rfl⟩⟩
theorem free_args {hb : Heap} {a b : MArg} {va vb : Array Value} {K : Value → Prop} (ha : va.toList = argC a) (hb' : vb.toList = argC b) (hK : ∀ s : Sl, K s.v) :
    freeW (Old hb) hb (Fw.Spec.sl si_Lapi_Arg eArg [a, b]) [] (fun h Kv => bld si_Lapi_Arg 2 [(0, .agg va), (1, .agg vb)] h fun s h' => Kv s.v h') K := by
  have ea : va = (argC a).toArray := by rw [← ha]
  have eb : vb = (argC b).toArray := by rw [← hb']
  subst ea eb
  refine ⟨⟨_, ⟨none, 0, 0⟩, rfl⟩, fun h' X' _ S' => ?_, fun v ⟨s, e⟩ => by rw [e]; exact hK s⟩
  refine bld_rule (E := eArg) (l := [a, b]) (us := argC a ++ argC b) (Sep.free (A := ownRow eArg _ _) S' loc_ownRow ?_) (by kernel_rfl) rfl rfl (by decide) (by decide) fun s1 h2 S2 => ⟨S2.old, ⟨s1, rfl⟩, Sep.toV S2⟩
  exact ⟨argC _, argC _, [], [], rfl, rfl, own_arg _ _, argC _, [], [], [], by simp, rfl, own_arg _ _, rfl, rfl⟩
theorem ints_one {h : Heap} (n : Int) {K : Sl → Heap → Prop} (hK : ∀ s h', Old h h' → rdSl eInt h' s [n] → K s h') : bld si_Lint64 1 [(0, .int .i64 n)] h K :=
  bld_one (si := si_Lint64) (E := eInt) (x := n) ((Sep.start h).nil rfl) (fun _ => ⟨rfl, rfl⟩) rfl (by decide) fun s h' S => hK s h' S.old S.rd
theorem strs_one {h : Heap} (n : ByteArray) {K : Sl → Heap → Prop} (hK : ∀ s h', Old h h' → rdSl eStr h' s [n] → K s h') : bld si_Lstring 1 [(0, .string n)] h K :=
  bld_one (si := si_Lstring) (E := eStr) (x := n) ((Sep.start h).nil rfl) (fun _ => ⟨rfl, rfl⟩) rfl (by decide) fun s h' S => hK s h' S.old S.rd

def spc1 (n : Nat) (args : List Value) : Fw.Spec := if n = 0 then Fw.Spec.val (.agg #[.int .i64 5, .string ⟨#[]⟩, .int .i64 2]) else if n = 2 then Fw.Spec.sl si_Lapi_Arg eArg [toA 2, nulA] else if n = 6 then Fw.Spec.sl si_Lapi_Arg eArg [nulA, nulA] else
  match args with
  | [.agg a, .agg b] => Fw.Spec.sl si_Lvstate_Obj eBare [a.toList, b.toList]
  | _ => Fw.Spec.val undef
def spc2 (n : Nat) (args : List Value) : Fw.Spec := if n = 0 then Fw.Spec.val (.agg #[.int .i64 5, .string ⟨#[]⟩, .int .i64 1]) else if n = 2 then Fw.Spec.sl si_Lapi_Arg eArg [toA 1, nulA] else
  match args with
  | [.agg a] => Fw.Spec.sl si_Lvstate_Obj eBare [a.toList]
  | _ => Fw.Spec.val undef
set_option maxHeartbeats 2000000 in
theorem awake24_calls {h : Heap} : ACalls Try.prog F_lateenlaw24_awake [] h (fun v h' => v = .bool true ∧ Old h h') := by
  refine lateenlaw24_awake_of ?_
  unfold lateenlaw24_awake
  refine ⟨nulV, by kernel_rfl, ?_⟩
  have one_nul : ∀ v ∈ nulV.toList, v.oneCell' = true := by intro v hv; simp [nulV] at hv; rcases hv with rfl | rfl | rfl <;> rfl
  refine new_stR (Sep.start h) rfl rfl one_nul fun p h2 S2 => ?_
  refine ⟨Old h2, h2, [], spc1, .refl _, Sep.start _, ?_⟩
  refine fcV (k := .agg 3) (x := #[.int .i64 5, .string ⟨#[]⟩, .int .i64 2]) (fun _ => rfl) (fun h' X' _ _ => lto_calls 2) ⟨_, rfl, ?_⟩
  refine ldF_old (ld_rawAgg S2 rfl ?_)
  refine free_args (a := toA 2) (b := nulA) rfl rfl fun r2 => ⟨r2, rfl, ?_⟩
  refine ⟨objC ch1 r2, by kernel_rfl, ?_⟩
  refine ldF_old (ld_rawAgg S2 rfl (ldF_old (ld_rawAgg S2 rfl ?_)))
  refine free_args (a := nulA) (b := nulA) rfl rfl fun r3 => ⟨r3, rfl, ?_⟩
  refine ⟨objC ch2 r3, by kernel_rfl, ?_⟩
  refine ⟨⟨_, ⟨none, 0, 0⟩, rfl⟩, fun h' X' _ S' => ?_, ?_⟩
  · refine bld_rule (E := eBare) (l := [(objC ch1 r2).toList, (objC ch2 r3).toList]) (us := (objC ch1 r2).toList ++ (objC ch2 r3).toList) (Sep.free (A := ownRow eBare _ _) S' loc_ownRow ?_) (by kernel_rfl) rfl rfl (by decide) (by decide) fun s1 h3 S3 => ⟨S3.old, ⟨s1, rfl⟩, Sep.toV S3⟩
    exact ⟨_, _, [], [], rfl, rfl, own_bare _, _, [], [], [], (List.append_nil _).symm, rfl, own_bare _, rfl, rfl⟩
  rintro v ⟨r4, rfl⟩
  refine ⟨_, rfl, ?_⟩
  intro h12 o12 S12
  have S12 : Fw.Sep h2 h12 [ownV si_Lapi_Arg eArg [toA 2, nulA] r2.v, ownV si_Lapi_Arg eArg [nulA, nulA] r3.v, ownV si_Lvstate_Obj eBare [(objC ch1 r2).toList, (objC ch2 r3).toList] r4.v] := S12
  have hr2 := rd_arg.1 (Sep.ofV S12).rd
  have hr3 := rd_arg.1 (Sep.ofV (Sep.pull [_] S12)).rd
  have hr4 := (Sep.ofV (Sep.pull [_, _] S12)).rd
  have hch : rdSl rObj.el h12 r4 [ch1, ch2] := bare_rd hr4 rfl fun i h1 h2 => by
    rcases i with _ | _ | i
    · exact rv_obj.2 ⟨r2, rfl, hr2⟩
    · exact rv_obj.2 ⟨r3, rfl, hr3⟩
    · simp at h1; omega
  have hpn : ∀ h', Old h12 h' → ∀ {K : Array Value → Prop}, K nulV → ld (.agg 3) h' p K := fun h' o' {K} hK => by
    obtain ⟨x, hx, hK'⟩ : ld (.agg 3) h2 p (fun y => y = nulV) := ld_rawAgg S2 rfl rfl
    subst hK'
    exact ⟨_, holds_ext (o12.trans o').ext hx, hK⟩
  refine ⟨Old h12, h12, [], spc2, .refl _, Sep.start _, ?_⟩
  refine fcV (k := .agg 3) (x := #[.int .i64 5, .string ⟨#[]⟩, .int .i64 1]) (fun _ => rfl) (fun h' X' _ _ => lto_calls 1) ⟨_, rfl, ?_⟩
  refine ldF_old (hpn _ (.refl _) ?_)
  refine free_args (a := toA 1) (b := nulA) rfl rfl fun r7 => ⟨r7, rfl, ?_⟩
  refine ⟨objC rd1 r7, by kernel_rfl, ?_⟩
  refine ⟨⟨_, ⟨none, 0, 0⟩, rfl⟩, fun h' X' _ S' => ?_, ?_⟩
  · exact bld_one (si := si_Lvstate_Obj) (E := eBare) (x := (objC rd1 r7).toList) (Sep.nil S' rfl) (fun _ => own_bare _) rfl (by decide) fun s1 h3 S3 => ⟨S3.old, ⟨s1, rfl⟩, Sep.toV S3⟩
  rintro v ⟨r8, rfl⟩
  refine ⟨_, rfl, ?_⟩
  intro h20 o20 S20
  have S20 : Fw.Sep h12 h20 [ownV si_Lapi_Arg eArg [toA 1, nulA] r7.v, ownV si_Lvstate_Obj eBare [(objC rd1 r7).toList] r8.v] := S20
  have hr7 := rd_arg.1 (Sep.ofV S20).rd
  have hr8 := (Sep.ofV (Sep.pull [_] S20)).rd
  have hrd : rdSl rObj.el h20 r8 [rd1] := bare_rd hr8 rfl fun i h1 h2 => by
    rcases i with _ | i
    · exact rv_obj.2 ⟨r7, rfl, hr7⟩
    · simp at h1
  have o20' : Old h h20 := S2.old.trans (o12.trans o20)
  refine ints_one 1 fun s5 h21 o21 hs5 => ?_
  refine (order_calls (hch.old (o20.trans o21)) hs5 ris_ch (by simp) (by simp) (fun o ho => ?_) fun o ho => ?_).mono ?_
  · simp at ho; rcases ho with rfl | rfl <;> simp [ch1, ch2]
  · simp at ho; rcases ho with rfl | rfl <;> simp [ch1, ch2]
  rintro v h22 ⟨r9, rfl, S22⟩
  rw [order_ch] at S22
  refine ⟨_, rfl, ?_⟩
  refine program_calls.mono ?_
  rintro v h23 ⟨pcs, rfl, _, o23, hpr⟩
  refine ⟨_, rfl, ?_⟩
  refine ints_one 1 fun s6 h24 o24 hs6 => ?_
  refine strs_one xS fun s7 h25 o25 hs7 => ?_
  have o2125 : Old h20 h25 := o21.trans (S22.old.trans (o23.trans (o24.trans o25)))
  refine (code_calls ok_rd (rProg.ext hpr (o24.trans o25).ext) (hrd.old o2125) (hs6.old o25) hs7).mono ?_
  rintro v h26 ⟨r11, r12, hb, rfl, ob1, ob2, hcode, hst⟩
  rw [code_rd] at hcode
  have hst := RV.fl_el hst.rd ob2.ext
  have e : stateTo [rd1] [1] [xS] [(1 : Int)].length = [⟨1, pS, [toA 1, nulA], varA xS⟩] := state_rd
  rw [e] at hst
  have o26 := ob1.trans ob2
  refine ⟨_, _, rfl, ?_⟩
  intro k hk
  have hr9 := S22.rd.old (o23.trans (o24.trans (o25.trans o26)))
  have hfin : Old h h26 := o20'.trans (o2125.trans o26)
  refine ifB_true (by rw [hr9.lenEq]; rfl) ?_
  refine idx_rdN (i := 0) hr9 rfl (by simp) fun p1 _ hp1 => ld_one (k := .int .i64) hp1 (ifB_true rfl ?_)
  refine idx_rdN (i := 1) hr9 rfl (by simp) fun p2 _ hp2 => ld_one (k := .int .i64) hp2 (ifB_true rfl ?_)
  refine ifB_true (by rw [hcode.lenEq]; rfl) ?_
  refine idx_rdN (i := 0) hcode rfl (by simp) fun p3 _ hp3 => ld_int (fld_iOp.rd hp3) (hExt.refl _) (ifB_true rfl ?_)
  refine idx_rdN (i := 0) hcode rfl (by simp) fun p4 _ hp4 => ld_lst (fld_iArgs.rd hp4) (hExt.refl _) fun y hy => ?_
  refine idx_rdN (i := 0) hy rfl (by simp) fun p5 _ hp5 => ld_agg hp5 (hExt.refl _) rfl fun c5 hc5 => ?_
  refine hpn _ (o20.trans (o2125.trans o26)) ?_
  refine eq_arg (h' := h26) (b := nulA) hc5 (rv_arg.2 rfl) (ifB_true (by rfl) ?_)
  refine idx_rdN (i := 1) hcode rfl (by simp) fun p6 _ hp6 => ld_int (fld_iOp.rd hp6) (hExt.refl _) (ifB_true rfl ?_)
  refine idx_rdN (i := 1) hcode rfl (by simp) fun p7 _ hp7 => ld_str (fld_iName.rd hp7) (hExt.refl _) (ifB_true (by decide +kernel) ?_)
  refine ifB_true (by rw [hst.lenEq]; rfl) ?_
  refine idx_rdN (i := 0) hst rfl (by simp) fun p8 _ hp8 => ?_
  refine ld_str (fld_argS.rd (fld_oReal.rd hp8)) (hExt.refl _) ?_
  exact hk _ _ fun _ => ⟨by rw [toList_beq]; rfl, hfin⟩
end Go.Proofs.Ytncbpalncgcoaaa
