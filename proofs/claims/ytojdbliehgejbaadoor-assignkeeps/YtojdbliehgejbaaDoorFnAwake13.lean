/-
  lateenlaw13.awake.
-/
import Derived.Test.YtojdbliehgejbaaDoorFnAsg
import Derived.Test.YtojdbliehgejbaaDoorFnAwake12
namespace Go.Proofs.YtojdbliehgejbaaDoor
open Go.Fw Go.Pl Go.Pl.Api Go.Pl.Set Go.Pl.Live

abbrev nmK : ByteArray := ⟨#[107]⟩
abbrev nB0 : ByteArray := ⟨#[98, 48]⟩
abbrev nB1 : ByteArray := ⟨#[98, 49]⟩
abbrev nB2 : ByteArray := ⟨#[98, 50]⟩
abbrev nInt : ByteArray := ⟨#[105, 110, 116]⟩
abbrev blA : MBlock := ⟨nB0, [], [], ⟨2, vA nmK, [nB1, nB2], 0⟩⟩
abbrev blB : MBlock := ⟨nB1, [], [in1], ⟨1, ⟨0, nm0, 0⟩, [nB2], 0⟩⟩
abbrev blC : MBlock := ⟨nB2, [], [], ⟨3, vA nmX, [], 0⟩⟩
abbrev blD : MBlock := ⟨nB2, [], [in1], ⟨3, vA nmX, [], 0⟩⟩
abbrev f13 : MFunc := ⟨nm0, nm0, [⟨nmK, nInt⟩], [], [blA, blB, blC]⟩
abbrev g13 : MFunc := ⟨nm0, nm0, [⟨nmK, nInt⟩], [], [blA, blB, blD]⟩
theorem nxk : nmX ≠ nmK := by decide
theorem par13 {v : ByteArray} : parV f13 v ↔ v = nmK := ⟨fun ⟨p, hp, e⟩ => by simp at hp; subst hp; exact e.symm, fun e => ⟨_, List.mem_singleton.2 rfl, e.symm⟩⟩
theorem bare_k {f : MFunc} {v : ByteArray} (h : parV f v) {k : Nat} : ¬ Bare f v k := fun hB => by
  induction hB with
  | start hb h1 h2 => exact h1 h
  | step _ _ _ _ _ _ ih => exact ih
theorem bare13 {v : ByteArray} : ¬ Bare f13 v 2 ↔ v = nmK := by
  refine ⟨fun h => ?_, fun e => bare_k (par13.2 e)⟩
  apply Classical.byContradiction
  intro hne
  refine h (.step (p := 0) (k := 2) (b := blA) (c := blC) (.start (b := blA) rfl (fun h => hne (par13.1 h)) ?_) rfl ?_ (by decide +kernel) rfl ?_)
  · rintro ⟨p, hp, _⟩; cases hp
  · rintro ⟨_, p, hp, _⟩; cases hp
  · rintro ⟨p, hp, _⟩; cases hp
theorem rightA_f13 : ¬ rightA f13 := fun h => by
  have := (h.1 2 blC rfl).2 (.inr rfl) nmX ⟨rfl, rfl⟩
  rcases this with h1 | ⟨_, p, hp, _⟩
  · exact nxk (bare13.1 h1)
  · cases hp
theorem no_in1 {v : ByteArray} : ¬ usesV in1 v := by
  rintro (⟨a, ha, h⟩ | ⟨t, ht, _⟩ | ⟨t, ht, _⟩)
  · simp at ha
    subst ha
    exact absurd h.1 (by decide)
  · cases ht
  · cases ht
theorem rightA_g13 : rightA g13 := by
  constructor
  · intro k B hB
    match k, hB with
    | 0, hB =>
      injection hB with hB
      subst hB
      exact ⟨fun j hj => by simp at hj, fun _ v hv => .inl (bare_k ⟨_, List.mem_singleton.2 rfl, hv.2⟩)⟩
    | 1, hB =>
      injection hB with hB
      subst hB
      refine ⟨fun j hj _ v hv => ?_, fun h => ?_⟩
      · have : j = 0 := by simp at hj; exact hj
        subst this
        exact absurd hv no_in1
      · rcases h with h | h <;> exact absurd h (by decide)
    | 2, hB =>
      injection hB with hB
      subst hB
      refine ⟨fun j hj _ v hv => ?_, fun _ v hv => .inr ⟨?_, in1, List.mem_singleton.2 rfl, hv.2⟩⟩
      · have : j = 0 := by simp at hj; exact hj
        subst this
        exact absurd hv no_in1
      · rw [← hv.2]
        exact nx0
    | k + 3, hB => simp at hB
  · intro c hc p hp
    simp at hc
    rcases hc with rfl | rfl | rfl <;> cases hp
theorem asg_f13 : AsgF f13 := ⟨by decide, by decide +kernel, by decide, by decide +kernel, ⟨by decide +kernel, by decide +kernel⟩⟩
theorem asg_g13 : AsgF g13 := ⟨by decide, by decide +kernel, by decide, by decide +kernel, ⟨by decide +kernel, by decide +kernel⟩⟩
theorem nm_f13 : ∀ i (hi : i < f13.blocks.length), place f13 f13.blocks[i].name = some i := by decide +kernel
theorem nm_g13 : ∀ i (hi : i < g13.blocks.length), place g13 g13.blocks[i].name = some i := by decide +kernel
theorem sz_in1 : Sz (usesN in1) := ⟨by decide +kernel, by decide +kernel⟩
theorem us_f13 : ∀ B ∈ f13.blocks, ∀ x ∈ B.code, Sz (usesN x) := by
  intro B hB x hx
  simp at hB
  rcases hB with rfl | rfl | rfl
  · cases hx
  · simp at hx; subst hx; exact sz_in1
  · cases hx
theorem us_g13 : ∀ B ∈ g13.blocks, ∀ x ∈ B.code, Sz (usesN x) := by
  intro B hB x hx
  simp at hB
  rcases hB with rfl | rfl | rfl
  · cases hx
  · simp at hx; subst hx; exact sz_in1
  · simp at hx; subst hx; exact sz_in1

end Go.Proofs.YtojdbliehgejbaaDoor

/-
  lateenlaw13.awake: the walk.
-/
namespace Go.Proofs.YtojdbliehgejbaaDoor
open Go.Fw Go.Pl Go.Pl.Api Go.Pl.Set Go.Pl.Live

/-- A slice of values that read. -/
theorem bld_rv {α : Type} {E : RV α} {si : SlI} {h : Heap} {n : Nat} {parts : List (Nat × Value)} {K : Sl → Heap → Prop} (css : List (List Value)) (l : List α) (hl : css.length = n) (hll : l.length = n)
    (hrv : ∀ i (h1 : i < css.length) (h2 : i < l.length), E.rv h css[i] l[i]) (hfill : Instr.fill (fun i => some (i * si.size, si.size)) (madeCells si.zero.cells (n * si.size)) parts = some css.flatten.toArray) (_hsz : si.size = E.size)
    (hb : n * si.size ≤ 16777216) (hn : n ≤ 16777216) (hK : ∀ s h', Old h h' → rdSl E.el h' s l → K s h') : bld si n parts h K := by
  have hflat : ∀ (css : List (List Value)) (l : List α), css.length = l.length → (∀ i (h1 : i < css.length) (h2 : i < l.length), E.rv h css[i] l[i]) → ∀ i (h1 : i < css.length) j v, css[i][j]? = some v → css.flatten[i * E.size + j]? = some v := by
    intro css
    induction css with
    | nil => intro l _ _ i h1; simp at h1
    | cons c css ih =>
      intro l hlen hr i h1 j v hv
      cases l with
      | nil => simp at hlen
      | cons x l =>
        have hc : c.length = E.size := E.len (hr 0 (by simp) (by simp))
        cases i with
        | zero =>
          simp only [List.getElem_cons_zero] at hv
          rw [List.flatten_cons, Nat.zero_mul, Nat.zero_add, List.getElem?_append_left (List.getElem?_eq_some_iff.1 hv).1]
          exact hv
        | succ i =>
          simp only [List.getElem_cons_succ] at hv
          rw [List.flatten_cons, List.getElem?_append_right (by rw [hc, Nat.succ_mul]; omega)]
          have := ih l (by simpa using hlen) (fun i h1 h2 => hr (i + 1) (by simpa using h1) (by simpa using h2)) i (by simpa using h1) j v hv
          rw [show (i + 1) * E.size + j - c.length = i * E.size + j by rw [hc, Nat.succ_mul]; omega]
          exact this
  refine ⟨_, hfill, hb, hK _ _ (Old.push _ _) ⟨hll.symm, Nat.le_refl _, ?_, fun e => by simp at e, ?_⟩⟩
  · rw [hll]; omega
  · by_cases hne : l = []
    · exact .inl hne
    · refine .inr ⟨_, rfl, rfl, fun i hi => ⟨Addr.spot_add _ _ rfl, css[i]'(by omega), fun j v hj => ?_, E.ext (hrv i (by omega) hi) (Old.push _ _).ext⟩⟩
      show hcell (h.push _) (((⟨h.size, 0, none⟩ : Addr).add (i * E.size)).add j) = _
      rw [Addr.add_none, Addr.add_none, Nat.zero_add]
      unfold hcell
      simp only [Array.getElem?_push_size, Option.isSome_none, Bool.false_eq_true, if_false]
      rw [List.getElem?_toArray]
      exact hflat css l (by omega) hrv i (by omega) j v hj


abbrev cA (s2 : Sl) : Array Value := #[.string nB0, .slice none 0 0, .slice none 0 0, .int .i64 2, .int .i64 1, .string nmK, .int .i64 0, s2.v, .int .i64 0]
abbrev cB (s3 s4 : Sl) : Array Value := #[.string nB1, .slice none 0 0, s3.v, .int .i64 1, .int .i64 0, .string ⟨#[]⟩, .int .i64 0, s4.v, .int .i64 0]
abbrev cC (s6 : Sl) : Array Value := #[.string nB2, .slice none 0 0, s6.v, .int .i64 3, .int .i64 1, .string nmX, .int .i64 0, .slice none 0 0, .int .i64 0]
abbrev nSl : Sl := ⟨none, 0, 0⟩
theorem bl_rv {h : Heap} {n a : ByteArray} {sc st : Sl} {k ak : Int} {C : List MInstr} {T : List ByteArray} (hc : rdSl rInstr.el h sc C) (ht : rdSl rStr.el h st T) :
    rBlock.rv h [.string n, .slice none 0 0, sc.v, .int .i64 k, .int .i64 ak, .string a, .int .i64 0, st.v, .int .i64 0] ⟨n, [], C, ⟨k, ⟨ak, a, 0⟩, T, 0⟩⟩ :=
  ⟨[_], _, rfl, rfl, [_], _, rfl, ⟨⟨none, 0, 0⟩, rfl, rd_nil⟩, [_], _, rfl, ⟨sc, rfl, hc⟩, _, [], (List.append_nil _).symm,
    ⟨[_], _, rfl, rfl, [.int .i64 ak, .string a, .int .i64 0], _, rfl, ⟨[_], _, rfl, rfl, [_], _, rfl, rfl, [_], [], rfl, rfl, rfl⟩, [_], _, rfl, ⟨st, rfl, ht⟩, [_], [], rfl, rfl, rfl⟩, rfl⟩
theorem f_rv {h : Heap} {sp sb : Sl} {P : List MVar} {Bs : List MBlock} (hp : rdSl rVar.el h sp P) (hs : rdSl rBlock.el h sb Bs) : rFunc.rv h [.string ⟨#[]⟩, .string ⟨#[]⟩, sp.v, .slice none 0 0, sb.v] ⟨nm0, nm0, P, [], Bs⟩ :=
  ⟨[_], _, rfl, rfl, [_], _, rfl, rfl, [_], _, rfl, ⟨sp, rfl, hp⟩, [_], _, rfl, ⟨⟨none, 0, 0⟩, rfl, rd_nil⟩, [_], [], rfl, ⟨sb, rfl, hs⟩, rfl⟩
theorem rv_str {h : Heap} {s : ByteArray} : rStr.rv h [.string s] s := rfl
theorem rv_var {h : Heap} {n t : ByteArray} : rVar.rv h [.string n, .string t] ⟨n, t⟩ := ⟨[_], _, rfl, rfl, [_], [], rfl, rfl, rfl⟩
theorem rows13 {h : Heap} {s5 s2 s3 s4 s6 : Sl} {C : List MInstr} (r : rdSl (eCells 9 fun _ => True) h s5 [(cA s2).toList, (cB s3 s4).toList, (cC s6).toList]) (h2 : rdSl rStr.el h s2 [nB1, nB2]) (h3 : rdSl rInstr.el h s3 [in1]) (h4 : rdSl rStr.el h s4 [nB2]) (h6 : rdSl rInstr.el h s6 C) :
    rdSl rBlock.el h s5 [blA, blB, ⟨nB2, [], C, ⟨3, vA nmX, [], 0⟩⟩] :=
  rd_cells (E := rBlock) r rfl fun i h1 h2' => by
    match i with
    | 0 => exact bl_rv rd_nil h2
    | 1 => exact bl_rv h3 h4
    | 2 => exact bl_rv h6 rd_nil
    | i + 3 => exact absurd h2' (by simp)

theorem fillI {c : Array Value} (hc : c.size = 6) : Instr.fill (fun i => some (i * si_Lapi_Instr.size, si_Lapi_Instr.size)) (madeCells si_Lapi_Instr.zero.cells (1 * si_Lapi_Instr.size)) [(0, .agg c)] = some c :=
  fill_one (size := 6) (v := .agg c) hc (by rw [size_madeCells]; rfl)

set_option maxHeartbeats 4000000 in
theorem awake13_calls {h : Heap} : ACalls Tryd.prog F_lateenlaw13_awake [] h (fun v h' => v = .bool true ∧ Old h h') := by
  refine lateenlaw13_awake_of ?_
  unfold lateenlaw13_awake
  refine ⟨#[.int .i64 1, .string nmX, .int .i64 0], by kernel_rfl, ?_⟩
  refine new_st (E := rArg) (x := vA nmX) (rv_arg.2 rfl) rfl rfl fun p h2 o2 hp => ?_
  refine ⟨#[.int .i64 2, .string ⟨#[]⟩, .int .i64 1], by kernel_rfl, ?_⟩
  refine bld_rv (E := rArg) [[.int .i64 2, .string ⟨#[]⟩, .int .i64 1]] [⟨2, nm0, 1⟩] rfl rfl (fun i h1 h2 => by match i with | 0 => exact rv_arg.2 rfl | i + 1 => exact absurd h2 (by simp)) (by kernel_rfl) rfl (by decide) (by decide) fun s h3 o3 hs => ?_
  refine ⟨#[.int .i64 24, .string nmX, .string ⟨#[]⟩, s.v, .slice none 0 0, .slice none 0 0], by kernel_rfl, ?_⟩
  refine new_st (E := rInstr) (x := in1) (in1_rv hs) rfl rfl fun p1 h5 o5 hp1 => ?_
  refine ⟨#[.string nmK, .string nInt], by kernel_rfl, ?_⟩
  refine bld_rv (E := rVar) [[.string nmK, .string nInt]] [⟨nmK, nInt⟩] rfl rfl (fun i h1 h2 => by match i with | 0 => exact rv_var | i + 1 => exact absurd h2 (by simp)) (by kernel_rfl) rfl (by decide) (by decide) fun s1 h6 o6 hs1 => ?_
  refine ⟨#[.int .i64 1, .string nmK, .int .i64 0], by kernel_rfl, ?_⟩
  refine bld_rv (E := rStr) [[.string nB1], [.string nB2]] [nB1, nB2] rfl rfl (fun i h1 h2 => by match i with | 0 => exact rv_str | 1 => exact rv_str | i + 2 => exact absurd h2 (by simp)) (by kernel_rfl) rfl (by decide) (by decide) fun s2 h7 o7 hs2 => ?_
  refine ⟨#[.int .i64 2, .int .i64 1, .string nmK, .int .i64 0, s2.v, .int .i64 0], by kernel_rfl, ?_⟩
  refine ⟨cA s2, by kernel_rfl, ?_⟩
  have o57 := o6.trans o7
  refine ld_agg hp1 o57.ext rfl fun ci hci => ?_
  refine bld_rv (E := rInstr) [ci.toList] [in1] rfl rfl (fun i h1 h2 => by match i with | 0 => exact rInstr.ext hci o57.ext | i + 1 => exact absurd h2 (by simp)) ?_ rfl (by decide) (by decide) fun s3 h8 o8 hs3 => ?_
  · rw [show [ci.toList].flatten.toArray = ci by simp]
    exact fillI (by have := rInstr.len hci; rw [Array.length_toList] at this; exact this)
  refine bld_rv (E := rStr) [[.string nB2]] [nB2] rfl rfl (fun i h1 h2 => by match i with | 0 => exact rv_str | i + 1 => exact absurd h2 (by simp)) (by kernel_rfl) rfl (by decide) (by decide) fun s4 h9 o9 hs4 => ?_
  refine ⟨#[.int .i64 1, .int .i64 0, .string ⟨#[]⟩, .int .i64 0, s4.v, .int .i64 0], by kernel_rfl, ?_⟩
  refine ⟨cB s3 s4, by kernel_rfl, ?_⟩
  have o29 := (((o3.trans o5).trans o57).trans o8).trans o9
  refine ld_agg hp o29.ext rfl fun cx hcx => ?_
  have hcx := arr_arg hcx
  subst hcx
  refine ⟨#[.int .i64 3, .int .i64 1, .string nmX, .int .i64 0, .slice none 0 0, .int .i64 0], by kernel_rfl, ?_⟩
  refine ⟨cC nSl, by kernel_rfl, ?_⟩
  have o09 := o2.trans o29
  have hs1 := hs1.old ((o7.trans o8).trans o9)
  have hs2 := hs2.old (o8.trans o9)
  have hs3 := hs3.old o9
  have hp1 : rInstr.el.rd h9 p1 in1 := rInstr.el.ext hp1 ((o57.trans o8).trans o9).ext
  clear hp hs o2 o3 o5 o6 o7 o8 o9 o57 o29 hci
  have one9 : ∀ {c : Array Value}, c.size = 9 → (∀ v ∈ c.toList, v.oneCell' = true) → ∀ hh, (eCells 9 fun _ => True).own c.toList c.toList hh [] := fun h1 h2 hh => one_cells h2 9 (by simpa using h1) hh
  have S1 : Fw.Sep h9 h9 (ownRow (eCells 9 fun _ => True) ((cA s2).toList ++ ((cB s3 s4).toList ++ (cC nSl).toList)) [(cA s2).toList, (cB s3 s4).toList, (cC nSl).toList] :: []) :=
    (Fw.Sep.start h9).free loc_ownRow ⟨_, _, [], [], rfl, rfl, one9 rfl (by simp [Value.oneCell']) _, _, _, [], [], rfl, rfl, one9 rfl (by simp [Value.oneCell']) _, _, [], [], [], (List.append_nil _).symm, rfl, one9 rfl (by simp [Value.oneCell']) _, rfl, rfl⟩
  refine bld_rule S1 (by kernel_rfl) rfl rfl (by decide) (by decide) fun s5 h10 S => ?_
  refine ⟨#[.string ⟨#[]⟩, .string ⟨#[]⟩, s1.v, .slice none 0 0, s5.v], by kernel_rfl, ?_⟩
  refine new_stR S rfl rfl (by simp [Value.oneCell']) fun p2 h12 S => ?_
  clear S1
  refine ld_rawAgg S rfl ?_
  have hf12 : rFunc.rv h12 [.string ⟨#[]⟩, .string ⟨#[]⟩, s1.v, .slice none 0 0, s5.v] f13 := f_rv (hs1.old S.old) (rows13 S.swap.rd (hs2.old S.old) (hs3.old S.old) (hs4.old S.old) rd_nil)
  refine (asgIns_calls hf12 asg_f13).mono ?_
  rintro v h13 ⟨r, ll, rfl, hll, hul, T⟩
  refine ⟨r, rfl, ?_⟩
  have S := S.frame T
  have hf13 := rFunc.ext hf12 T.old.ext
  refine ld_rawAgg S.swap rfl ?_
  refine (asgRight_calls hf13 asg_f13 nm_f13 us_f13).mono ?_
  rintro v h14 ⟨r1, rfl, hr1, o14⟩
  refine ⟨r1, rfl, ?_⟩
  have hr1 : r1 = false := by
    cases r1 with
    | false => rfl
    | true => exact absurd (hr1.1 rfl) rightA_f13
  subst hr1
  have S := S.grow o14
  refine ld_rawB (i := 4) (k := .sl) (x := s5) S.swap rfl rfl ?_
  refine ld_agg hp1 S.old.ext rfl fun c5 hc5 => ?_
  have hc5l := rInstr.len hc5
  have S2 := S.free (A := ownRow (eCells 6 fun _ => True) c5.toList [c5.toList]) loc_ownRow ⟨_, [], [], [], (List.append_nil _).symm, rfl, one_cells (rInstr.one hc5) 6 hc5l _, rfl, rfl⟩
  refine bld_rule S2 (by
    rw [show c5.toList.toArray = c5 by simp]
    exact fillI (by rw [Array.length_toList] at hc5l; exact hc5l)) rfl rfl (by decide) (by decide) fun s6 h15 S => ?_
  have S := S.rot4
  refine idx_rdN (i := 2) S.rd rfl (by simp) fun p3 hp3 _ => ?_
  refine st_sub (i := 2) (x := (cC s6).toList) S hp3 rfl (by simp) (by simp [Value.oneCell']) (by show 2 + 1 ≤ 9; decide) (fun hh xs fx o => ?_) fun h16 S => ?_
  · obtain ⟨rfl, rfl, _⟩ := o
    exact one9 (c := cC s6) rfl (by simp [Value.oneCell']) hh
  have e16 := S.old.ext
  have hs6 : rdSl rInstr.el h16 s6 [in1] := rd_cells (E := rInstr) S.swap.rd rfl fun i h1 h2 => by
    match i with
    | 0 => exact rInstr.ext hc5 e16
    | i + 1 => exact absurd h2 (by simp)
  have hf16 : rFunc.rv h16 [.string ⟨#[]⟩, .string ⟨#[]⟩, s1.v, .slice none 0 0, s5.v] g13 := f_rv (hs1.ext e16) (rows13 S.rd (hs2.ext e16) (hs3.ext e16) (hs4.ext e16) hs6)
  intro k hk
  have hrd := S.rot3.rd
  have hrl : r.len = 3 := by rw [hrd.lenEq, hll]; rfl
  refine ifB_true (by rw [hrl]; rfl) ?_
  have hll3 : ll.length = 3 := hll
  refine idx_rdN (i := 2) hrd rfl (by omega) fun p4 _ hp4 => ld_slB hp4 (.refl _) fun x6 hx6 => ?_
  refine lit_strs [nmK] (by kernel_rfl) rfl (by decide) fun s7 h18 o18 hs7 => ?_
  refine (same_calls (hx6.old o18) hs7).mono ?_
  rintro v h19 ⟨rfl, rfl⟩
  have e2 : ll[2] = [nmK] := (hul 2 (by omega)).unique (Q := fun v => v = nmK) ⟨up_one _, by simp⟩ fun v => bare13
  refine ⟨_, rfl, ifB_true (decide_eq_true e2) (ifB_true rfl ?_)⟩
  have S := S.grow o18
  refine ld_rawAgg S.rot4 rfl ?_
  refine (asgRight_calls (rFunc.ext hf16 o18.ext) asg_g13 nm_g13 us_g13).mono ?_
  rintro v h20 ⟨r3, rfl, hr3, o20⟩
  refine ⟨r3, rfl, ?_⟩
  have hr3 : r3 = true := hr3.2 rightA_g13
  subst hr3
  exact hk _ _ fun _ => ⟨rfl, o09.trans (S.old.trans o20)⟩

end Go.Proofs.YtojdbliehgejbaaDoor

/-
  The laws of layer 13.
-/
namespace Go.Proofs.YtojdbliehgejbaaDoor
open Go.Fw Go.Pl Go.Pl.Api Go.Pl.Set Go.Pl.Live

theorem few13_calls {h : Heap} {cs : Array Value} {f : MFunc} (hf : rFunc.rv h cs.toList f) (hb : bFunc f) :
    ACalls Tryd.prog F_lateenlaw13_few [.agg cs] h (fun v h' => ∃ b, v = .bool b ∧ Old h h' ∧ (b = true → Few12 f)) := by
  refine lateenlaw13_few_of ?_
  unfold lateenlaw13_few
  refine new_rv hf fun p h1 o1 hp => ?_
  intro k hk
  have fin : ∀ b h', Old h1 h' → (b = true → Few12 f) → k b h' := fun b h' o hF => hk _ _ fun _ => ⟨b, rfl, o1.trans o, hF⟩
  refine ld_agg hp (hExt.refl _) rfl fun c1 hc1 => ?_
  refine (fewFunc_calls hc1 hb (most := 3000) (by omega)).mono ?_
  rintro v h2 ⟨n, rfl, o2, hn⟩
  refine ⟨n, rfl, ifB_intro (fun hc => ?_) (fun hc => fin _ _ o2 (fun h => by cases h))⟩
  have hcnt : cFunc f ≤ 3000 := by
    have h1 : n ≤ (3000 : Int) := of_decide_eq_true hc
    have h2 : n = (cFunc f : Int) := hn.2.2 h1
    omega
  refine ld_agg hp o2.ext rfl fun c2 hc2 => ?_
  refine (refFew_calls (rFunc.ext hc2 o2.ext)).mono ?_
  rintro v h3 ⟨b, rfl, o3, hF⟩
  refine ⟨b, rfl, ifB_intro (fun hc => ?_) (fun hc => fin _ _ (o2.trans o3) (fun h => by cases h))⟩
  have hF := hF hc
  have o3 := o2.trans o3
  refine ld_lst (fld_blocks.rd hp) o3.ext fun lb hlb => ?_
  have hlbl := hlb.lenEq
  refine ifB_intro (fun hc => ?_) (fun hc => fin _ _ o3 (fun h => by cases h))
  have h30 : f.blocks.length ≤ 30 := by have := of_decide_eq_true hc; omega
  refine ld_agg hp o3.ext rfl fun c3 hc3 => ?_
  refine (refRight_calls (rFunc.ext hc3 o3.ext) (by omega)).mono ?_
  rintro v h4 ⟨rfl, o4⟩
  exact ⟨_, rfl, fin _ _ (o3.trans o4) fun h => ⟨rightB_iff.1 h, hF, h30, hcnt⟩⟩

theorem setsN_cnt (f : MFunc) : (setsN f).length ≤ cFunc f := by
  have h := flat_len (w := cBlock) (l := f.blocks) (f := fun b => b.phis.map (·.dst) ++ b.code.map (·.dst)) fun b _ => by
    have h1 : (b.phis.map fun _ => 1).sum ≤ (b.phis.map cPhi).sum := sum_le fun p _ => by unfold cPhi; omega
    have h2 : (b.code.map fun _ => 1).sum ≤ (b.code.map cInstr).sum := sum_le fun p _ => by unfold cInstr; omega
    rw [sum_one] at h1 h2
    simp only [List.length_append, List.length_map]
    unfold cBlock
    omega
  have h0 : f.params.length ≤ cVars f.params := by unfold cVars; omega
  unfold setsN cFunc
  rw [List.length_append, List.length_map]
  omega
theorem setsN_sz {f : MFunc} (h : bFunc f) : ∀ v ∈ setsN f, v.size ≤ maxLen := fun v hv => by
  obtain ⟨_, _, hpar, _, hbl, _⟩ := h
  rcases List.mem_append.1 hv with hv | hv
  · obtain ⟨p, hp, rfl⟩ := List.mem_map.1 hv
    exact maxLen_of (bL_of hpar p hp).1
  · obtain ⟨b, hb, hv⟩ := List.mem_flatMap.1 hv
    obtain ⟨_, hp, hc, _⟩ := bL_of hbl b hb
    rcases List.mem_append.1 hv with hv | hv
    · obtain ⟨p, hp1, rfl⟩ := List.mem_map.1 hv
      exact maxLen_of (bL_of hp p hp1).1
    · obtain ⟨x, hx, rfl⟩ := List.mem_map.1 hv
      exact maxLen_of (bL_of hc x hx).2.1
theorem Few12.asg {f : MFunc} (F : Few12 f) (hb : bFunc f) : AsgF f :=
  ⟨by have := F.n30; omega, fun b hb => by have := F.few.to b hb; omega, F.right.pos, F.right.come, ⟨Nat.le_trans (setsN_cnt f) (Nat.le_trans F.cnt (by omega)), setsN_sz hb⟩⟩
theorem leads_of {f : MFunc} {a k : Nat} {B : MBlock} {n : ByteArray} (hB : f.blocks[a]? = some B) (hn : n ∈ B.term.to) (hp : place f n = some k) : leadsB (graphF f) a (k : Int) = true := by
  rw [← leadsF_eq]
  unfold leadsF
  rw [hB]
  simp only [Option.map_some, Option.getD_some, List.any_eq_true]
  exact ⟨n, hn, by rw [hp]; simp⟩

end Go.Proofs.YtojdbliehgejbaaDoor

/-
  AssignLive, AssignMore.
-/
namespace Go.Proofs.YtojdbliehgejbaaDoor
open Go.Fw Go.Pl Go.Pl.Api Go.Pl.Set Go.Pl.Live

theorem backV_or : ∀ {l : List MInstr} {S : VSet} {w : ByteArray}, backV l S w → (∃ i, ∃ hi : i < l.length, usesV l[i] w ∧ ¬ codeV (l.take i) w) ∨ (S w ∧ ¬ codeV l w)
  | [], S, w, h => .inr ⟨h, by rintro ⟨_, x, hx, _⟩; cases hx⟩
  | x :: l, S, w, h => by
    rcases h with h | ⟨h, hd⟩
    · exact .inl ⟨0, by simp, h, by rintro ⟨_, x, hx, _⟩; cases hx⟩
    · have no : ∀ l', ¬ codeV l' w → ¬ codeV (x :: l') w := fun l' hl' => by
        rintro ⟨h0, y, hy, he⟩
        rcases List.mem_cons.1 hy with rfl | hy
        · rcases hd with hd | hd
          · exact h0 (he.symm.trans hd)
          · exact hd he.symm
        · exact hl' ⟨h0, y, hy, he⟩
      rcases backV_or h with ⟨i, hi, hu, hc⟩ | ⟨hs, hc⟩
      · refine .inl ⟨i + 1, by simpa using hi, by simpa using hu, ?_⟩
        rw [List.take_succ_cons]
        exact no _ hc
      · exact .inr ⟨hs, no _ hc⟩
theorem place_name {f : MFunc} {n : ByteArray} {k : Nat} {c : MBlock} (h : place f n = some k) (hc : f.blocks[k]? = some c) : c.name = n := by
  unfold place at h
  rw [List.findIdx?_eq_some_iff_getElem] at h
  obtain ⟨hk, h1, _⟩ := h
  rw [List.getElem?_eq_getElem hk] at hc
  injection hc with hc
  subst hc
  rw [toList_beq] at h1
  exact of_decide_eq_true h1
/-- What is live is set. -/
theorem live_set {f : MFunc} (hR : RightP f) (h : rightA f) : ∀ j w, liveIns f j w → ¬ Bare f w j := by
  intro j w hl
  refine hl (fun j w => ¬ Bare f w j) ?_
  clear hl j w
  rintro j w ⟨b, hb, hw⟩
  have hjl := (List.getElem?_eq_some_iff.1 hb).1
  have hok := h.1 j b hb
  rcases backV_or hw with ⟨i, hi, hu, hc⟩ | ⟨he, hc⟩
  · exact (hok.1 i hi hi w hu).resolve_right hc
  · rcases he with ⟨n, hn, k, hk, c, hck, hi⟩ | ⟨hkind, ha⟩
    · rcases hi with ⟨φ, hφ, i, hi, hib, ha⟩ | ⟨hlive, hm⟩
      · have hnm : place f i.block = some j := by
          rw [hib]
          have := hR.names j hjl
          rw [List.getElem?_eq_getElem hjl] at hb
          injection hb with hb
          rw [hb] at this
          exact this
        have := h.2 c (List.mem_of_getElem? hck) φ hφ i hi j b hnm hb (by rw [place_name hk hck]; exact hn) w ha
        exact this.resolve_right hc
      · exact fun hB => hlive (.step hB hb hc (leads_of hb hn hk) hck hm)
    · exact (hok.2 hkind w ha).resolve_right hc

theorem Few12.us {f : MFunc} (F : Few12 f) (hb : bFunc f) : ∀ B ∈ f.blocks, ∀ x ∈ B.code, Sz (usesN x) := fun _ hB _ hx => F.instr hb hB hx

def moreF (f : MFunc) (n : ByteArray) : MFunc := { f with params := f.params ++ [⟨n, nInt⟩] }
theorem bare_more {f : MFunc} {n v : ByteArray} {k : Nat} (h : Bare (moreF f n) v k) : Bare f v k := by
  induction h with
  | start hb h1 h2 => exact .start hb (fun ⟨p, hp, e⟩ => h1 ⟨p, List.mem_append.2 (.inl hp), e⟩) h2
  | step _ hb hn hk hc hm ih => exact .step ih hb hn hk hc hm
theorem right_more {f : MFunc} {n : ByteArray} (h : rightA f) : rightA (moreF f n) := by
  refine ⟨fun k B hB => ?_, fun c hc p hp i hi q B h1 h2 h3 v hv => ?_⟩
  · obtain ⟨h1, h2⟩ := h.1 k B hB
    exact ⟨fun j hj hjn v hv => (h1 j hj hjn v hv).imp (fun h hB => h (bare_more hB)) id, fun hk v hv => (h2 hk v hv).imp (fun h hB => h (bare_more hB)) id⟩
  · exact (h.2 c hc p hp i hi q B h1 h2 h3 v hv).imp (fun h hB => h (bare_more hB)) id
theorem asg_more {f : MFunc} {n : ByteArray} (A : AsgF f) (hl : (setsN f).length ≤ 3000) (hn : bStr n) : AsgF (moreF f n) := by
  refine ⟨A.n, A.to, A.pos, A.come, ⟨?_, fun v hv => ?_⟩⟩
  · have : (setsN (moreF f n)).length = (setsN f).length + 1 := by
      simp [setsN, moreF]
      omega
    omega
  · rcases List.mem_append.1 hv with hv | hv
    · obtain ⟨p, hp, rfl⟩ := List.mem_map.1 hv
      rcases List.mem_append.1 hp with hp | hp
      · exact A.sz.sz _ (par_names ⟨p, hp, rfl⟩)
      · simp at hp
        subst hp
        exact maxLen_of hn
    · exact A.sz.sz _ (List.mem_append.2 (.inr hv))
theorem rv_func {h : Heap} {cs : List Value} {f : MFunc} : rFunc.rv h cs f ↔ ∃ sp sv sb : Sl, cs = [.string f.name, .string f.result, sp.v, sv.v, sb.v] ∧ rdSl rVar.el h sp f.params ∧ rdSl rVar.el h sv f.vars ∧ rdSl rBlock.el h sb f.blocks := by
  constructor
  · rintro ⟨c1, c2, rfl, h1, c3, c4, rfl, h2, c5, c6, rfl, h3, c7, c8, rfl, h5, c9, c10, rfl, h6, h7⟩
    have h1 : c1 = [.string f.name] := h1
    have h2 : c3 = [.string f.result] := h2
    have h7 : c10 = [] := h7
    obtain ⟨sp, h3, r3⟩ := h3
    obtain ⟨sv, h5, r5⟩ := h5
    obtain ⟨sb, h6, r6⟩ := h6
    subst h1 h2 h3 h5 h6 h7
    exact ⟨sp, sv, sb, rfl, r3, r5, r6⟩
  · rintro ⟨sp, sv, sb, rfl, r3, r5, r6⟩
    exact ⟨[_], _, rfl, rfl, [_], _, rfl, rfl, [_], _, rfl, ⟨sp, rfl, r3⟩, [_], _, rfl, ⟨sv, rfl, r5⟩, [_], [], rfl, ⟨sb, rfl, r6⟩, rfl⟩

end Go.Proofs.YtojdbliehgejbaaDoor
