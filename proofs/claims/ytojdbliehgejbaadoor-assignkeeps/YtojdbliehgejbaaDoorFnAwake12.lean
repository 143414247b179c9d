/-
  lateenlaw12.awake.
-/
import Derived.Test.YtojdbliehgejbaaDoorFnRef12
import Derived.Test.YtojdbliehgejbaaDoorFwFree
import Derived.Test.YtojdbliehgejbaaDoorFwApi2
import Derived.Test.YtojdbliehgejbaaDoorFnFunc
import Derived.Test.YtojdbliehgejbaaDoorFnFew
namespace Go.Proofs.YtojdbliehgejbaaDoor
open Go.Fw Go.Pl Go.Pl.Api Go.Pl.Set Go.Pl.Live

def ptrV (cs : Array Value) (v : Value) : As := fun h f => ∃ p, v = .pointer (some p) ∧ rawB p cs h f
def specP (cs : Array Value) : Fw.Spec := ⟨fun v => [ptrV cs v], fun v => ∃ p, v = .pointer (some p)⟩
theorem loc_ptrV {cs : Array Value} {v : Value} : Fw.Loc (ptrV cs v) := by
  rintro h h' f ⟨p, e, o⟩ hb
  exact ⟨p, e, loc_rawB o hb⟩
theorem Sep.ofP {h0 h : Heap} {L : List As} {p : Addr} {cs : Array Value} (S : Fw.Sep h0 h (ptrV cs (.pointer (some p)) :: L)) : Fw.Sep h0 h (rawB p cs :: L) :=
  S.conv loc_rawB fun f ⟨p', e, o⟩ => ⟨f, List.Sublist.refl f, by injection e with e; injection e with e; rw [e]; exact o⟩
theorem Sep.toP {h0 h : Heap} {L : List As} {p : Addr} {cs : Array Value} (S : Fw.Sep h0 h (rawB p cs :: L)) : Fw.Sep h0 h (ptrV cs (.pointer (some p)) :: L) :=
  S.conv loc_ptrV fun f o => ⟨f, List.Sublist.refl f, p, rfl, o⟩
theorem free_new {cs : Array Value} {t : TypeId} {hb : Heap} {K : Value → Prop} (hK : ∀ p : Addr, K (.pointer (some p))) :
    freeW (Old hb) hb (specP cs) [] (fun h K => new t cs h fun p h' => K (.pointer (some p)) h') K :=
  ⟨⟨.pointer (some ⟨0, 0, none⟩), _, rfl⟩, fun h X _ S => new_rawB S fun p h' _ S' => ⟨S'.old, ⟨p, rfl⟩, Sep.toP S'⟩, fun v ⟨p, e⟩ => by rw [e]; exact hK p⟩
theorem rd_nil {α : Type} {E : Elem α} {h : Heap} : rdSl E h (⟨none, 0, 0⟩ : Sl) [] := ⟨rfl, Nat.le_refl _, by simp, fun _ => rfl, .inl rfl⟩
/-- Bare cells, read. -/
theorem rd_cells {α : Type} {E : RV α} {h : Heap} {s : Sl} {L : List (List Value)} {X : List α} {ok : List Value → Prop} (r : rdSl (eCells E.size ok) h s L) (hl : L.length = X.length) (hr : ∀ i (h1 : i < L.length) (h2 : i < X.length), E.rv h L[i] X[i]) : rdSl E.el h s X := by
  obtain ⟨h1, h2, h3, h5, h6⟩ := r
  refine ⟨by omega, h2, by omega, h5, ?_⟩
  rcases h6 with h6 | ⟨a, ha, hs, h6⟩
  · subst h6
    exact .inl (List.eq_nil_of_length_eq_zero hl.symm)
  · refine .inr ⟨a, ha, hs, fun i hi => ?_⟩
    obtain ⟨q1, q2, q3, q4, q5⟩ := h6 i (by omega)
    exact ⟨q1, _, q5, hr i (by omega) hi⟩

theorem at_out {h : Heap} {cs : Array Value} {f : MFunc} {i k : Nat} (hf : rFunc.rv h cs.toList f) (hi : i < f.blocks.length) (hk : f.blocks[i].code.length < k) :
    ACalls Tryd.prog F_live_At [.agg cs, .int .i64 i, .int .i64 k] h (fun v h' => v = (⟨none, 0, 0⟩ : Sl).v ∧ Old h h') := by
  refine live_At_of ?_
  unfold live_At
  refine new_rv hf fun p h1 o1 hp => ?_
  intro q hq
  have go : q true h1 := hq _ _ fun _ => ifB_true rfl ⟨rfl, o1⟩
  refine ifB_false (decide_eq_false (by omega)) ?_
  refine ld_lst (fld_blocks.rd hp) (hExt.refl _) fun lb hlb => ?_
  have hlbl := hlb.lenEq
  refine ifB_false (decide_eq_false (by omega)) ?_
  refine ifB_false (decide_eq_false (by omega)) ?_
  refine ld_lst (fld_blocks.rd hp) (hExt.refl _) fun lb2 hlb2 => ?_
  refine idx_rdN hlb2 rfl hi fun p2 _ hp2 => ?_
  refine ld_lst (fld_code.rd hp2) (hExt.refl _) fun lc hlc => ?_
  have hlcl := hlc.lenEq
  rw [decide_eq_true (by omega)]
  exact go

abbrev nmX : ByteArray := ⟨#[120]⟩
abbrev nmY : ByteArray := ⟨#[121]⟩
abbrev nmZ : ByteArray := ⟨#[122]⟩
abbrev nm0 : ByteArray := ⟨#[]⟩
abbrev vA (s : ByteArray) : MArg := ⟨1, s, 0⟩
abbrev in1 : MInstr := ⟨24, nmX, nm0, [⟨2, nm0, 1⟩], [], []⟩
abbrev in2 : MInstr := ⟨1, nmY, nm0, [vA nmX, vA nmZ], [], []⟩
abbrev bl12 : MBlock := ⟨⟨#[98]⟩, [], [in1, in2], ⟨3, vA nmY, [], 0⟩⟩
abbrev f12 : MFunc := ⟨nm0, nm0, [], [], [bl12]⟩
theorem nxy : nmX ≠ nmY := by decide
theorem nzy : nmZ ≠ nmY := by decide
theorem nzx : nmZ ≠ nmX := by decide
theorem nx0 : nmX ≠ nm0 := by decide
theorem ny0 : nmY ≠ nm0 := by decide
theorem at12_2 {v : ByteArray} : atV f12 0 2 v ↔ v = nmY := by
  unfold atV
  constructor
  · rintro ⟨b, hb, h⟩
    injection hb with hb
    subst hb
    rcases h with ⟨n, hn, _⟩ | ⟨_, _, h⟩
    · cases hn
    · exact h.symm
  · rintro rfl
    exact ⟨bl12, rfl, .inr ⟨.inr rfl, rfl, rfl⟩⟩
theorem at12_1 {v : ByteArray} : atV f12 0 1 v ↔ v = nmX ∨ v = nmZ := by
  have h2 : atV f12 0 1 v ↔ overV in2 (atV f12 0 2) v := by
    unfold atV
    constructor
    · rintro ⟨b, hb, h⟩
      injection hb with hb
      subst hb
      exact h.imp id fun h => ⟨⟨_, rfl, h.1⟩, h.2⟩
    · intro h
      exact ⟨bl12, rfl, h.imp id fun ⟨⟨b, hb, h1⟩, h2⟩ => ⟨by injection hb with hb; subst hb; exact h1, h2⟩⟩
  rw [h2]
  unfold overV usesV
  simp only [at12_2]
  constructor
  · rintro ((⟨a, ha, h⟩ | ⟨t, ht, _⟩ | ⟨t, ht, _⟩) | ⟨h, h' | h'⟩)
    · simp at ha
      rcases ha with rfl | rfl
      · exact .inl h.2.symm
      · exact .inr h.2.symm
    · cases ht
    · cases ht
    · exact absurd h' ny0
    · exact absurd h h'
  · rintro (rfl | rfl)
    · exact .inl (.inl ⟨vA nmX, by simp, rfl, rfl⟩)
    · exact .inl (.inl ⟨vA nmZ, by simp, rfl, rfl⟩)
theorem at12_0 {v : ByteArray} : atV f12 0 0 v ↔ v = nmZ := by
  have h2 : atV f12 0 0 v ↔ overV in1 (atV f12 0 1) v := by
    unfold atV
    constructor
    · rintro ⟨b, hb, h⟩
      injection hb with hb
      subst hb
      exact h.imp id fun h => ⟨⟨_, rfl, h.1⟩, h.2⟩
    · intro h
      exact ⟨bl12, rfl, h.imp id fun ⟨⟨b, hb, h1⟩, h2⟩ => ⟨by injection hb with hb; subst hb; exact h1, h2⟩⟩
  rw [h2]
  unfold overV usesV
  simp only [at12_1]
  constructor
  · rintro ((⟨a, ha, h⟩ | ⟨t, ht, _⟩ | ⟨t, ht, _⟩) | ⟨h, h' | h'⟩)
    · simp at ha
      subst ha
      exact absurd h.1 (by decide)
    · cases ht
    · cases ht
    · exact absurd h' nx0
    · exact h.resolve_left h'
  · rintro rfl
    exact .inr ⟨.inr rfl, .inr nzx⟩
theorem up_one (a : ByteArray) : Up [a] := List.pairwise_singleton _ _
theorem lt_xz : ltS nmX nmZ := by decide +kernel
theorem up_xz : Up [nmX, nmZ] := by unfold Up; simp [lt_xz]
theorem sz12 : Sz (namesN f12) := ⟨by decide +kernel, by decide +kernel⟩

abbrev vC (s : ByteArray) : Array Value := #[.int .i64 1, .string s, .int .i64 0]
theorem v_calls {h : Heap} (s : ByteArray) : ACalls Tryd.prog F_lateenlaw12_v [.string s] h (fun v h' => v = .agg (vC s) ∧ Old h h') := by
  refine lateenlaw12_v_of ?_
  unfold lateenlaw12_v
  have key := new_st (E := rArg) (h := h) (t := 38) (zs := #[.int .i64 0, .string ⟨#[]⟩, .int .i64 0]) (cs := vC s) (x := vA s) (n := 3) (rv_arg.2 rfl) rfl rfl
    (K := fun p h2 => ld (.agg 3) h2 p fun (x : Array Value) => (Value.agg x) = .agg (vC s) ∧ Old h h2) (fun p h2 o hp => ld_agg hp (hExt.refl _) rfl fun cs hcs => ⟨by rw [arr_arg hcs], o⟩)
  exact ⟨vC s, by kernel_rfl, key⟩

def spC (n : Nat) (args : List Value) : Fw.Spec := match n with
  | 1 => Spec.sl si_Lapi_Arg eArg [⟨2, nm0, 1⟩]
  | 3 => Spec.val (.agg (vC nmX))
  | 4 => Spec.val (.agg (vC nmZ))
  | 5 => Spec.sl si_Lapi_Arg eArg [vA nmX, vA nmZ]
  | 7 => match args with
    | [.agg a, .agg b] => Spec.sl si_Lapi_Instr (eCells 6 fun _ => True) [a.toList, b.toList]
    | _ => Spec.val (.bool true)
  | 8 => Spec.val (.agg (vC nmY))
  | _ => specP #[.string ⟨#[]⟩, .slice none 0 0, .slice none 0 0, .int .i64 0, .int .i64 0, .string ⟨#[]⟩, .int .i64 0, .slice none 0 0, .int .i64 0]
theorem fv {s : ByteArray} {hb : Heap} {pre : List As} {K : Value → Prop} (hK : K (.agg (vC s))) :
    freeW (Old hb) hb (Spec.val (.agg (vC s))) pre (fun h Kv => ACalls Tryd.prog F_lateenlaw12_v [.string s] h fun v h' => as1 (.agg 3) v fun r => Kv (.agg r) h') K :=
  fcV (k := .agg 3) (x := vC s) (g := Value.agg) (fun _ => rfl) (fun _ _ _ _ => v_calls s) hK
theorem one_cells {cs : List Value} (h : ∀ v ∈ cs, v.oneCell' = true) (n : Nat) (hn : cs.length = n) (hh : Heap) : (eCells n fun _ => True).own cs cs hh [] := ⟨rfl, rfl, hn, h, trivial⟩

theorem lit_strs {h : Heap} {n : Nat} {parts : List (Nat × Value)} (l : List ByteArray) {K : Sl → Heap → Prop}
    (hfill : Instr.fill (fun i => some (i * si_Lstring.size, si_Lstring.size)) (madeCells si_Lstring.zero.cells (n * si_Lstring.size)) parts = some (l.map fun n => Value.string n).toArray) (hl : l.length = n) (hn : n ≤ 16777216)
    (hK : ∀ s h', Old h h' → rdSl eStr h' s l → K s h') : bld si_Lstring n parts h K :=
  bld_rule ((Fw.Sep.start h).free loc_ownRow (Row.of_cells l)) hfill hl rfl (by show n * 1 ≤ _; omega) hn fun s h' S => hK s h' S.old S.rd

theorem in1_rv {h : Heap} {s : Sl} (hs : rdSl rArg.el h s [⟨2, nm0, 1⟩]) : rInstr.rv h [.int .i64 24, .string nmX, .string ⟨#[]⟩, s.v, .slice none 0 0, .slice none 0 0] in1 :=
  ⟨[_], _, rfl, rfl, [_], _, rfl, rfl, [_], _, rfl, rfl, [_], _, rfl, ⟨s, rfl, hs⟩, [_], _, rfl, ⟨⟨none, 0, 0⟩, rfl, rd_nil⟩, [_], [], rfl, ⟨⟨none, 0, 0⟩, rfl, rd_nil⟩, rfl⟩
theorem in2_rv {h : Heap} {s : Sl} (hs : rdSl rArg.el h s [vA nmX, vA nmZ]) : rInstr.rv h [.int .i64 1, .string nmY, .string ⟨#[]⟩, s.v, .slice none 0 0, .slice none 0 0] in2 :=
  ⟨[_], _, rfl, rfl, [_], _, rfl, rfl, [_], _, rfl, rfl, [_], _, rfl, ⟨s, rfl, hs⟩, [_], _, rfl, ⟨⟨none, 0, 0⟩, rfl, rd_nil⟩, [_], [], rfl, ⟨⟨none, 0, 0⟩, rfl, rd_nil⟩, rfl⟩
theorem bl12_rv {h : Heap} {s : Sl} (hs : rdSl rInstr.el h s [in1, in2]) : rBlock.rv h [.string ⟨#[98]⟩, .slice none 0 0, s.v, .int .i64 3, .int .i64 1, .string nmY, .int .i64 0, .slice none 0 0, .int .i64 0] bl12 :=
  ⟨[_], _, rfl, rfl, [_], _, rfl, ⟨⟨none, 0, 0⟩, rfl, rd_nil⟩, [_], _, rfl, ⟨s, rfl, hs⟩, _, [], (List.append_nil _).symm,
    ⟨[_], _, rfl, rfl, [.int .i64 1, .string nmY, .int .i64 0], _, rfl, ⟨[_], _, rfl, rfl, [_], _, rfl, rfl, [_], [], rfl, rfl, rfl⟩, [_], _, rfl, ⟨⟨none, 0, 0⟩, rfl, rd_nil⟩, [_], [], rfl, rfl, rfl⟩, rfl⟩
theorem f12_rv {h : Heap} {s : Sl} (hs : rdSl rBlock.el h s [bl12]) : rFunc.rv h [.string ⟨#[]⟩, .string ⟨#[]⟩, .slice none 0 0, .slice none 0 0, s.v] f12 :=
  ⟨[_], _, rfl, rfl, [_], _, rfl, rfl, [_], _, rfl, ⟨⟨none, 0, 0⟩, rfl, rd_nil⟩, [_], _, rfl, ⟨⟨none, 0, 0⟩, rfl, rd_nil⟩, [_], [], rfl, ⟨s, rfl, hs⟩, rfl⟩

theorem at12_calls {h : Heap} {cs : Array Value} {k : Nat} {l : List ByteArray} (hf : rFunc.rv h cs.toList f12) (hk : k ≤ 2) (hl : UpS l (atV f12 0 k)) :
    ACalls Tryd.prog F_live_At [.agg cs, .int .i64 0, .int .i64 k] h (fun v h' => ∃ s : Sl, v = s.v ∧ Old h h' ∧ rdSl eStr h' s l) := by
  refine (at_calls (i := 0) (k := k) hf (by simp) sz12 (by simp) (by simpa using hk)).mono ?_
  rintro v h' ⟨s, l', rfl, hl', S⟩
  have := hl'.unique hl fun v => Iff.rfl
  subst this
  exact ⟨s, rfl, S.old, S.rd⟩

set_option maxHeartbeats 2000000 in
theorem awake12_calls {h : Heap} : ACalls Tryd.prog F_lateenlaw12_awake [] h (fun v h' => v = .bool true ∧ Old h h') := by
  refine lateenlaw12_awake_of ?_
  unfold lateenlaw12_awake
  refine ⟨#[.int .i64 2, .string ⟨#[]⟩, .int .i64 1], by kernel_rfl, ?_⟩
  refine new_st (E := rArg) (x := ⟨2, nm0, 1⟩) (rv_arg.2 rfl) rfl rfl fun p h2 o2 hp => ?_
  refine ⟨Old h2, h2, [], spC, .refl _, Fw.Sep.start h2, ?_⟩
  refine ldF_old (ld_agg hp (hExt.refl _) rfl fun x hx => ?_)
  have hx := arr_arg hx
  subst hx
  refine free_bld (E := eArg) (x := ⟨2, nm0, 1⟩) rfl (fun h => own_arg _ h) rfl (by decide) fun s => ⟨s, rfl, ?_⟩
  refine ⟨#[.int .i64 24, .string nmX, .string ⟨#[]⟩, s.v, .slice none 0 0, .slice none 0 0], by kernel_rfl, ?_⟩
  refine fv ⟨_, rfl, ?_⟩
  refine fv ⟨_, rfl, ?_⟩
  refine ⟨⟨(⟨none, 0, 0⟩ : Sl).v, _, rfl⟩, fun h' X _ S => ?_, ?_⟩
  · have S1 : Fw.Sep h2 h' (ownRow eArg (argC (vA nmX) ++ argC (vA nmZ)) [vA nmX, vA nmZ] :: X) := Fw.Sep.free (s := S) loc_ownRow ⟨argC (vA nmX), argC (vA nmZ), [], [], rfl, rfl, own_arg _ _, argC (vA nmZ), [], [], [], rfl, rfl, own_arg _ _, rfl, rfl⟩
    exact bld_rule S1 (by kernel_rfl) rfl rfl (by decide) (by decide) fun t h'' S' => ⟨S'.old, ⟨t, rfl⟩, S'.toV⟩
  rintro v5 ⟨s1, rfl⟩
  refine ⟨s1, rfl, ?_⟩
  refine ⟨#[.int .i64 1, .string nmY, .string ⟨#[]⟩, s1.v, .slice none 0 0, .slice none 0 0], by kernel_rfl, ?_⟩
  refine ⟨⟨(⟨none, 0, 0⟩ : Sl).v, _, rfl⟩, fun h' X _ S => ?_, ?_⟩
  · have S1 : Fw.Sep h2 h' (ownRow (eCells 6 fun _ => True) ([.int .i64 24, .string nmX, .string ⟨#[]⟩, s.v, .slice none 0 0, .slice none 0 0] ++ [.int .i64 1, .string nmY, .string ⟨#[]⟩, s1.v, .slice none 0 0, .slice none 0 0])
        [[.int .i64 24, .string nmX, .string ⟨#[]⟩, s.v, .slice none 0 0, .slice none 0 0], [.int .i64 1, .string nmY, .string ⟨#[]⟩, s1.v, .slice none 0 0, .slice none 0 0]] :: X) :=
      Fw.Sep.free (s := S) loc_ownRow ⟨_, _, [], [], rfl, rfl, one_cells (by simp [Value.oneCell']) 6 rfl _, _, [], [], [], (List.append_nil _).symm, rfl, one_cells (by simp [Value.oneCell']) 6 rfl _, rfl, rfl⟩
    exact bld_rule S1 (by kernel_rfl) rfl rfl (by decide) (by decide) fun t h'' S' => ⟨S'.old, ⟨t, rfl⟩, S'.toV⟩
  rintro v6 ⟨s2, rfl⟩
  refine ⟨s2, rfl, ?_⟩
  refine fv ⟨_, rfl, ?_⟩
  refine ⟨#[.int .i64 3, .int .i64 1, .string nmY, .int .i64 0, .slice none 0 0, .int .i64 0], by kernel_rfl, ?_⟩
  refine ⟨#[.string ⟨#[98]⟩, .slice none 0 0, s2.v, .int .i64 3, .int .i64 1, .string nmY, .int .i64 0, .slice none 0 0, .int .i64 0], by kernel_rfl, ?_⟩
  refine free_new fun p2 => ⟨p2, rfl, ?_⟩
  intro h18 o18 S
  have S : Fw.Sep h2 h18 [ownV si_Lapi_Arg eArg [⟨2, nm0, 1⟩] s.v, ownV si_Lapi_Arg eArg [vA nmX, vA nmZ] s1.v,
      ownV si_Lapi_Instr (eCells 6 fun _ => True) [[.int .i64 24, .string nmX, .string ⟨#[]⟩, s.v, .slice none 0 0, .slice none 0 0], [.int .i64 1, .string nmY, .string ⟨#[]⟩, s1.v, .slice none 0 0, .slice none 0 0]] s2.v, ptrV _ (.pointer (some p2))] := S
  refine st_allB (Sep.ofP S.rot4) rfl rfl (by simp [Value.oneCell']) fun h19 S => ?_
  refine ld_rawAgg S rfl ?_
  have hs := rd_arg.1 (Fw.Sep.ofV S.swap).rd
  have hs1 := rd_arg.1 (Fw.Sep.ofV S.rot3).rd
  have hs2 := rd_cells (E := rInstr) (X := [in1, in2]) (Fw.Sep.ofV S.rot4).rd rfl fun i h1 h2 => by
    match i with
    | 0 => exact in1_rv hs
    | 1 => exact in2_rv hs1
    | i + 2 => exact absurd h2 (by simp)
  have o19 := o2.trans S.old
  clear S hs hs1 hp o18 o2
  have S1 : Fw.Sep h19 h19 (ownRow (eCells 9 fun _ => True) [.string ⟨#[98]⟩, .slice none 0 0, s2.v, .int .i64 3, .int .i64 1, .string nmY, .int .i64 0, .slice none 0 0, .int .i64 0]
      [[.string ⟨#[98]⟩, .slice none 0 0, s2.v, .int .i64 3, .int .i64 1, .string nmY, .int .i64 0, .slice none 0 0, .int .i64 0]] :: []) :=
    (Fw.Sep.start h19).free loc_ownRow ⟨_, [], [], [], (List.append_nil _).symm, rfl, one_cells (by simp [Value.oneCell']) 9 rfl _, rfl, rfl⟩
  refine bld_rule S1 (by kernel_rfl) rfl rfl (by decide) (by decide) fun s3 h20 S => ?_
  have hs3 := rd_cells (E := rBlock) (X := [bl12]) S.rd rfl fun i h1 h2 => by
    match i with
    | 0 => exact bl12_rv (hs2.old S.old)
    | i + 1 => exact absurd h2 (by simp)
  refine ⟨#[.string ⟨#[]⟩, .string ⟨#[]⟩, .slice none 0 0, .slice none 0 0, s3.v], by kernel_rfl, ?_⟩
  refine new_st (E := rFunc) (x := f12) (f12_rv hs3) rfl rfl fun p3 h22 o22 hp => ?_
  have o22 := (o19.trans S.old).trans o22
  clear hs2 S1 S hs3 o19
  intro k hk
  refine ld_agg hp (hExt.refl _) rfl fun c hc => ?_
  refine (at12_calls (k := 0) (l := [nmZ]) hc (by omega) ⟨up_one _, fun v => by rw [at12_0]; simp⟩).mono ?_
  rintro v h24 ⟨r, rfl, o24, hr⟩
  refine ⟨_, rfl, lit_strs [nmZ] (by kernel_rfl) rfl (by decide) fun s4 h25 o25 hs4 => ?_⟩
  refine (same_calls (hr.old o25) hs4).mono ?_
  rintro v h26 ⟨rfl, rfl⟩
  refine ⟨_, rfl, ifB_true (decide_eq_true rfl) ?_⟩
  have o26 := o24.trans o25
  refine ld_agg hp o26.ext rfl fun c1 hc1 => ?_
  refine (at12_calls (k := 1) (l := [nmX, nmZ]) (rFunc.ext hc1 o26.ext) (by omega) ⟨up_xz, fun v => by rw [at12_1]; simp⟩).mono ?_
  rintro v h27 ⟨r1, rfl, o27, hr1⟩
  refine ⟨_, rfl, lit_strs [nmX, nmZ] (by kernel_rfl) rfl (by decide) fun s5 h28 o28 hs5 => ?_⟩
  refine (same_calls (hr1.old o28) hs5).mono ?_
  rintro v h29 ⟨rfl, rfl⟩
  refine ⟨_, rfl, ifB_true (decide_eq_true rfl) ?_⟩
  have o29 := o26.trans (o27.trans o28)
  refine ld_agg hp o29.ext rfl fun c2 hc2 => ?_
  refine (at12_calls (k := 2) (l := [nmY]) (rFunc.ext hc2 o29.ext) (by omega) ⟨up_one _, fun v => by rw [at12_2]; simp⟩).mono ?_
  rintro v h30 ⟨r2, rfl, o30, hr2⟩
  refine ⟨_, rfl, lit_strs [nmY] (by kernel_rfl) rfl (by decide) fun s6 h31 o31 hs6 => ?_⟩
  refine (same_calls (hr2.old o31) hs6).mono ?_
  rintro v h32 ⟨rfl, rfl⟩
  refine ⟨_, rfl, ifB_true (decide_eq_true rfl) ?_⟩
  have o32 := o29.trans (o30.trans o31)
  refine ld_agg hp o32.ext rfl fun c3 hc3 => ?_
  refine (at_out (i := 0) (k := 3) (rFunc.ext hc3 o32.ext) (by simp) (by simp)).mono ?_
  rintro v h33 ⟨rfl, o33⟩
  exact ⟨⟨none, 0, 0⟩, rfl, hk _ _ fun _ => ⟨rfl, o22.trans (o32.trans o33)⟩⟩

end Go.Proofs.YtojdbliehgejbaaDoor

/-
  LiveUses.
-/
namespace Go.Proofs.YtojdbliehgejbaaDoor
open Go.Fw Go.Pl Go.Pl.Api Go.Pl.Set Go.Pl.Live

theorem argN_len (a : MArg) : (argN a).length ≤ 1 := by unfold argN; split <;> simp
theorem flat_len {α β : Type} {f : α → List β} {w : α → Nat} : ∀ {l : List α}, (∀ x ∈ l, (f x).length ≤ w x) → (l.flatMap f).length ≤ (l.map w).sum
  | [], _ => by simp
  | x :: l, h => by
    have := flat_len fun y hy => h y (List.mem_cons_of_mem _ hy)
    have h1 := h x (by simp)
    simp only [List.flatMap_cons, List.length_append, List.map_cons, List.sum_cons]
    omega
theorem sum_one {α : Type} : ∀ (l : List α), (l.map fun _ => 1).sum = l.length
  | [] => rfl
  | x :: l => by have := sum_one l; simp only [List.map_cons, List.sum_cons, List.length_cons]; omega
theorem args_len (l : List MArg) : (l.flatMap argN).length ≤ l.length := by
  have := flat_len (w := fun _ => 1) fun x (_ : x ∈ l) => argN_len x
  rwa [sum_one] at this
theorem usesN_len (x : MInstr) : (usesN x).length ≤ x.args.length + (x.stands.map fun t => t.vars.length).sum + (x.objs.map fun o => o.vals.length).sum := by
  unfold usesN
  have h1 := args_len x.args
  have h2 := flat_len (w := fun t : MStand => t.vars.length) (f := fun t => t.vars.flatMap fun b => argN b.a) (l := x.stands) fun t _ => by
    have := flat_len (w := fun _ => 1) (f := fun b : MBind => argN b.a) fun y (_ : y ∈ t.vars) => argN_len y.a
    rwa [sum_one] at this
  have h3 := flat_len (w := fun t : MVirt => t.vals.length) (f := fun t => t.vals.flatMap argN) (l := x.objs) fun t _ => args_len t.vals
  simp only [List.length_append]
  omega
theorem bL_of {α : Type} {p : α → Prop} {l : List α} (h : bL p l) : ∀ x ∈ l, p x := h.2
theorem maxLen_of {s : ByteArray} (h : bStr s) : s.size ≤ maxLen := by
  have : s.size ≤ 140737488355328 := h
  simp only [maxLen]
  omega
theorem argN_sz {a : MArg} (h : bArg a) : ∀ v ∈ argN a, v.size ≤ maxLen := fun v hv => by
  have := argN_mem.1 hv
  rw [← this.2]
  exact maxLen_of h.2.1
theorem usesN_sz {x : MInstr} (h : bInstr x) : ∀ v ∈ usesN x, v.size ≤ maxLen := fun v hv => by
  obtain ⟨_, _, _, ha, hs, ho, _⟩ := h
  rcases usesN_mem.1 hv with ⟨a, h1, h2⟩ | ⟨t, h1, b, h2, h3⟩ | ⟨o, h1, a, h2, h3⟩
  · exact argN_sz (bL_of ha a h1) v (argN_mem.2 h2)
  · exact argN_sz (bL_of (bL_of hs t h1).2.2.2.1 b h2).2.1 v (argN_mem.2 h3)
  · exact argN_sz (bL_of (bL_of ho o h1).2.1 a h2) v (argN_mem.2 h3)
theorem take_sum {α : Type} {w : α → Nat} {l : List α} {j : Nat} (hj : j < l.length) : ((l.take (j + 1)).map w).sum = ((l.take j).map w).sum + w l[j] := by
  rw [List.take_succ_eq_append_getElem hj, List.map_append, List.sum_append]
  simp

/-- The rising list of some names. -/
def setN (ns : List ByteArray) : MSet := ns.foldr (fun v M => aput v true M) []
theorem setN_is : ∀ ns : List ByteArray, IsSet (setN ns) (· ∈ ns)
  | [] => IsSet.nil.iff fun v => by simp
  | n :: ns => ((setN_is ns).put n).iff fun v => by simp
def upN (ns : List ByteArray) : List ByteArray := sortB ((setN ns).map Prod.fst)
theorem upN_is (ns : List ByteArray) : UpS (upN ns) (· ∈ ns) := isUp (setN_is ns)

def spU (_cs : Array Value) (l : List ByteArray) (n : Nat) (_args : List Value) : Fw.Spec := match n with
  | 9 => Spec.sl si_Lstring eStr l
  | 11 => Spec.sl si_Lstring eStr l
  | _ => Spec.val (.bool true)

end Go.Proofs.YtojdbliehgejbaaDoor

/-
  LiveWays.
-/
namespace Go.Proofs.YtojdbliehgejbaaDoor
open Go.Fw Go.Pl Go.Pl.Api Go.Pl.Set Go.Pl.Live

theorem sum_le {α : Type} {f g : α → Nat} : ∀ {l : List α}, (∀ x ∈ l, f x ≤ g x) → (l.map f).sum ≤ (l.map g).sum
  | [], _ => by simp
  | x :: l, h => by
    have := sum_le fun y hy => h y (List.mem_cons_of_mem _ hy)
    have h1 := h x (by simp)
    simp only [List.map_cons, List.sum_cons]
    omega
theorem usesN_cnt (x : MInstr) : (usesN x).length ≤ cInstr x := by
  have h := usesN_len x
  have h1 : (x.stands.map fun t => t.vars.length).sum ≤ (x.stands.map cStand).sum := by
    refine sum_le fun t _ => ?_
    have : (t.vars.map fun _ => 1).sum ≤ (t.vars.map cBind).sum := sum_le fun b _ => by unfold cBind; omega
    rw [sum_one] at this
    unfold cStand
    omega
  have h2 : (x.objs.map fun t => t.vals.length).sum ≤ (x.objs.map cVirt).sum := sum_le fun t _ => by unfold cVirt cArgs; omega
  unfold cInstr cArgs
  omega
theorem namesN_cnt (f : MFunc) : (namesN f).length ≤ cFunc f := by
  have h := flat_len (w := cBlock) (l := f.blocks) (f := fun b => (b.phis.flatMap fun p => p.ins.flatMap fun i => argN i.a) ++ b.code.flatMap usesN ++ argN b.term.a) fun b _ => by
    have h1 := flat_len (w := cPhi) (l := b.phis) (f := fun p => p.ins.flatMap fun i => argN i.a) fun p _ => by
      have := flat_len (w := cIn) (l := p.ins) (f := fun i => argN i.a) fun i _ => by have := argN_len i.a; unfold cIn; omega
      unfold cPhi
      omega
    have h2 := flat_len (w := cInstr) (l := b.code) (f := usesN) fun x _ => usesN_cnt x
    have h3 := argN_len b.term.a
    simp only [List.length_append]
    unfold cBlock
    omega
  unfold namesN cFunc
  omega
theorem namesN_sz {f : MFunc} (h : bFunc f) : ∀ v ∈ namesN f, v.size ≤ maxLen := fun v hv => by
  obtain ⟨_, _, _, _, hbl, _⟩ := h
  obtain ⟨b, hb, hv⟩ := List.mem_flatMap.1 hv
  obtain ⟨_, hp, hc, ht, _⟩ := bL_of hbl b hb
  rcases List.mem_append.1 hv with hv | hv
  · rcases List.mem_append.1 hv with hv | hv
    · obtain ⟨p, hp1, hv⟩ := List.mem_flatMap.1 hv
      obtain ⟨i, hi, hv⟩ := List.mem_flatMap.1 hv
      exact argN_sz (bL_of (bL_of hp p hp1).2.1 i hi).2.1 v hv
    · obtain ⟨x, hx, hv⟩ := List.mem_flatMap.1 hv
      exact usesN_sz (bL_of hc x hx) v hv
  · exact argN_sz ht.2.1 v hv

/-- A little function whose shape is right. -/
structure Few12 (f : MFunc) : Prop where
  right : RightP f
  few : FewF f
  n30 : f.blocks.length ≤ 30
  cnt : cFunc f ≤ 3000
theorem Few12.sz {f : MFunc} (h : Few12 f) (hb : bFunc f) : Sz (namesN f) := ⟨Nat.le_trans (namesN_cnt f) (Nat.le_trans h.cnt (by omega)), namesN_sz hb⟩

theorem few12_calls {h : Heap} {cs : Array Value} {f : MFunc} (hf : rFunc.rv h cs.toList f) (hb : bFunc f) :
    ACalls Tryd.prog F_lateenlaw12_few [.agg cs] h (fun v h' => ∃ b, v = .bool b ∧ Old h h' ∧ (b = true → Few12 f)) := by
  refine lateenlaw12_few_of ?_
  unfold lateenlaw12_few
  refine new_rv hf fun p h1 o1 hp => ?_
  intro k hk
  have fin : ∀ b h', Old h1 h' → (b = true → Few12 f) → k b h' := fun b h' o hF => hk _ _ fun _ => ⟨b, rfl, o1.trans o, hF⟩
  refine ld_agg hp (hExt.refl _) rfl fun c1 hc1 => ?_
  refine (fewFunc_calls hc1 hb (most := 3000) (by omega)).mono ?_
  rintro v h2 ⟨n, rfl, o2, hn⟩
  refine ⟨n, rfl, ifB_intro (fun hc => ?_) (fun hc => fin _ _ o2 (fun h => by cases h))⟩
  have hcnt : cFunc f ≤ 3000 := by
    have h1 : n ≤ (3000 : Int) := of_decide_eq_true hc
    have h2 : n = (cFunc f : Int) := hn.2.2 h1
    omega
  refine ld_agg hp o2.ext rfl fun c2 hc2 => ?_
  refine (refFew_calls (rFunc.ext hc2 o2.ext)).mono ?_
  rintro v h3 ⟨b, rfl, o3, hF⟩
  refine ⟨b, rfl, ifB_intro (fun hc => ?_) (fun hc => fin _ _ (o2.trans o3) (fun h => by cases h))⟩
  have hF := hF hc
  have o3 := o2.trans o3
  refine ld_lst (fld_blocks.rd hp) o3.ext fun lb hlb => ?_
  have hlbl := hlb.lenEq
  refine ifB_intro (fun hc => ?_) (fun hc => fin _ _ o3 (fun h => by cases h))
  have h30 : f.blocks.length ≤ 30 := by have := of_decide_eq_true hc; omega
  refine ld_agg hp o3.ext rfl fun c3 hc3 => ?_
  refine (refRight_calls (rFunc.ext hc3 o3.ext) (by omega)).mono ?_
  rintro v h4 ⟨rfl, o4⟩
  exact ⟨_, rfl, fin _ _ (o3.trans o4) fun h => ⟨rightB_iff.1 h, hF, h30, hcnt⟩⟩

theorem at_zero {f : MFunc} {i : Nat} {v : ByteArray} : atV f i 0 v ↔ liveIns f i v := by
  rw [live_fix]
  unfold atV stepV
  simp only [List.drop_zero]
theorem at_next {f : MFunc} {i k : Nat} {b : MBlock} (hb : f.blocks[i]? = some b) (hk : k < b.code.length) {v : ByteArray} : atV f i k v ↔ usesV b.code[k] v ∨ (atV f i (k + 1) v ∧ (v = nm0 ∨ v ≠ b.code[k].dst)) := by
  have h1 : ∀ z, (atV f i k v ↔ z) ↔ (backV (b.code.drop k) (endV f (liveIns f) b) v ↔ z) := fun z => by
    have : atV f i k v ↔ backV (b.code.drop k) (endV f (liveIns f) b) v := ⟨fun ⟨c, hc, h⟩ => by rw [hb] at hc; injection hc with hc; subst hc; exact h, fun h => ⟨b, hb, h⟩⟩
    rw [this]
  have h2 : atV f i (k + 1) v ↔ backV (b.code.drop (k + 1)) (endV f (liveIns f) b) v := ⟨fun ⟨c, hc, h⟩ => by rw [hb] at hc; injection hc with hc; subst hc; exact h, fun h => ⟨b, hb, h⟩⟩
  rw [h1, List.drop_eq_getElem_cons hk, h2]
  show overV _ _ _ ↔ _
  unfold overV
  refine or_congr Iff.rfl (and_congr Iff.rfl ?_)
  by_cases e : v = b.code[k].dst
  · rw [← e]
  · simp [e]
theorem at_end {f : MFunc} {i : Nat} {b : MBlock} (hb : f.blocks[i]? = some b) {v : ByteArray} : atV f i b.code.length v ↔ endV f (liveIns f) b v := by
  unfold atV
  constructor
  · rintro ⟨c, hc, h⟩
    rw [hb] at hc
    injection hc with hc
    subst hc
    rw [List.drop_length] at h
    exact h
  · intro h
    exact ⟨b, hb, by rw [List.drop_length]; exact h⟩


theorem mem_sum {α : Type} {f : α → Nat} : ∀ {l : List α} {x : α}, x ∈ l → f x ≤ (l.map f).sum
  | y :: l, x, h => by
    simp only [List.map_cons, List.sum_cons]
    rcases List.mem_cons.1 h with rfl | h
    · omega
    · have := mem_sum (f := f) h
      omega
theorem Few12.instr {f : MFunc} (F : Few12 f) (hb : bFunc f) {B : MBlock} (hB : B ∈ f.blocks) {x : MInstr} (hx : x ∈ B.code) : Sz (usesN x) := by
  refine ⟨?_, fun v hv => (F.sz hb).sz v (List.mem_flatMap.2 ⟨B, hB, List.mem_append.2 (.inl (List.mem_append.2 (.inr (List.mem_flatMap.2 ⟨_, hx, hv⟩))))⟩)⟩
  have h1 := usesN_cnt x
  have h2 : cInstr x ≤ (B.code.map cInstr).sum := mem_sum hx
  have h3 : cBlock B ≤ (f.blocks.map cBlock).sum := mem_sum hB
  have h4 := F.cnt
  have h5 : (B.code.map cInstr).sum ≤ cBlock B := by unfold cBlock; exact Nat.le_add_left _ _
  have h6 : (f.blocks.map cBlock).sum ≤ cFunc f := by unfold cFunc; exact Nat.le_add_left _ _
  omega

end Go.Proofs.YtojdbliehgejbaaDoor
