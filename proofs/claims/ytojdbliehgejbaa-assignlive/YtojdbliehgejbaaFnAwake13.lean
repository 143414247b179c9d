/-
  lateenlaw13.awake.
-/
import Derived.Test.YtojdbliehgejbaaPlAsg
import Derived.Test.YtojdbliehgejbaaFnWaysLaw
namespace Go.Proofs.Ytojdbliehgejbaa
open Go.Fw Go.Pl Go.Pl.Api Go.Pl.Set Go.Pl.Live

abbrev nmK : ByteArray := ⟨#[107]⟩
abbrev nB0 : ByteArray := ⟨#[98, 48]⟩
abbrev nB1 : ByteArray := ⟨#[98, 49]⟩
abbrev nB2 : ByteArray := ⟨#[98, 50]⟩
abbrev nInt : ByteArray := ⟨#[105, 110, 116]⟩
abbrev blA : MBlock := ⟨nB0, [], [], ⟨2, vA nmK, [nB1, nB2], 0⟩⟩
abbrev blB : MBlock := ⟨nB1, [], [in1], ⟨1, ⟨0, nm0, 0⟩, [nB2], 0⟩⟩
abbrev blC : MBlock := ⟨nB2, [], [], ⟨3, vA nmX, [], 0⟩⟩
abbrev blD : MBlock := ⟨nB2, [], [in1], ⟨3, vA nmX, [], 0⟩⟩
abbrev f13 : MFunc := ⟨nm0, nm0, [⟨nmK, nInt⟩], [], [blA, blB, blC]⟩
abbrev g13 : MFunc := ⟨nm0, nm0, [⟨nmK, nInt⟩], [], [blA, blB, blD]⟩
theorem nxk : nmX ≠ nmK := by decide
theorem par13 {v : ByteArray} : parV f13 v ↔ v = nmK := ⟨fun ⟨p, hp, e⟩ => by simp at hp; subst hp; exact e.symm, fun e => ⟨_, List.mem_singleton.2 rfl, e.symm⟩⟩
theorem bare_k {f : MFunc} {v : ByteArray} (h : parV f v) {k : Nat} : ¬ Bare f v k := fun hB => by
  induction hB with
  | start hb h1 h2 => exact h1 h
  | step _ _ _ _ _ _ ih => exact ih
theorem bare13 {v : ByteArray} : ¬ Bare f13 v 2 ↔ v = nmK := by
  refine ⟨fun h => ?_, fun e => bare_k (par13.2 e)⟩
  apply Classical.byContradiction
  intro hne
  refine h (.step (p := 0) (k := 2) (b := blA) (c := blC) (.start (b := blA) rfl (fun h => hne (par13.1 h)) ?_) rfl ?_ (by decide +kernel) rfl ?_)
  · rintro ⟨p, hp, _⟩; cases hp
  · rintro ⟨_, p, hp, _⟩; cases hp
  · rintro ⟨p, hp, _⟩; cases hp
theorem rightA_f13 : ¬ rightA f13 := fun h => by
  have := (h.1 2 blC rfl).2 (.inr rfl) nmX ⟨rfl, rfl⟩
  rcases this with h1 | ⟨_, p, hp, _⟩
  · exact nxk (bare13.1 h1)
  · cases hp
theorem no_in1 {v : ByteArray} : ¬ usesV in1 v := by
  rintro (⟨a, ha, h⟩ | ⟨t, ht, _⟩ | ⟨t, ht, _⟩)
  · simp at ha
    subst ha
    exact absurd h.1 (by decide)
  · cases ht
  · cases ht
theorem rightA_g13 : rightA g13 := by
  constructor
  · intro k B hB
    match k, hB with
    | 0, hB =>
      injection hB with hB
      subst hB
      exact ⟨fun j hj => by simp at hj, fun _ v hv => .inl (bare_k ⟨_, List.mem_singleton.2 rfl, hv.2⟩)⟩
    | 1, hB =>
      injection hB with hB
      subst hB
      refine ⟨fun j hj _ v hv => ?_, fun h => ?_⟩
      · have : j = 0 := by simp at hj; exact hj
        subst this
        exact absurd hv no_in1
      · rcases h with h | h <;> exact absurd h (by decide)
    | 2, hB =>
      injection hB with hB
      subst hB
      refine ⟨fun j hj _ v hv => ?_, fun _ v hv => .inr ⟨?_, in1, List.mem_singleton.2 rfl, hv.2⟩⟩
      · have : j = 0 := by simp at hj; exact hj
        subst this
        exact absurd hv no_in1
      · rw [← hv.2]
        exact nx0
    | k + 3, hB => simp at hB
  · intro c hc p hp
    simp at hc
    rcases hc with rfl | rfl | rfl <;> cases hp
theorem asg_f13 : AsgF f13 := ⟨by decide, by decide +kernel, by decide, by decide +kernel, ⟨by decide +kernel, by decide +kernel⟩⟩
theorem asg_g13 : AsgF g13 := ⟨by decide, by decide +kernel, by decide, by decide +kernel, ⟨by decide +kernel, by decide +kernel⟩⟩
theorem nm_f13 : ∀ i (hi : i < f13.blocks.length), place f13 f13.blocks[i].name = some i := by decide +kernel
theorem nm_g13 : ∀ i (hi : i < g13.blocks.length), place g13 g13.blocks[i].name = some i := by decide +kernel
theorem sz_in1 : Sz (usesN in1) := ⟨by decide +kernel, by decide +kernel⟩
theorem us_f13 : ∀ B ∈ f13.blocks, ∀ x ∈ B.code, Sz (usesN x) := by
  intro B hB x hx
  simp at hB
  rcases hB with rfl | rfl | rfl
  · cases hx
  · simp at hx; subst hx; exact sz_in1
  · cases hx
theorem us_g13 : ∀ B ∈ g13.blocks, ∀ x ∈ B.code, Sz (usesN x) := by
  intro B hB x hx
  simp at hB
  rcases hB with rfl | rfl | rfl
  · cases hx
  · simp at hx; subst hx; exact sz_in1
  · simp at hx; subst hx; exact sz_in1

end Go.Proofs.Ytojdbliehgejbaa

/-
  lateenlaw13.awake: the walk.
-/
namespace Go.Proofs.Ytojdbliehgejbaa
open Go.Fw Go.Pl Go.Pl.Api Go.Pl.Set Go.Pl.Live

/-- A slice of values that read. -/
theorem bld_rv {α : Type} {E : RV α} {si : SlI} {h : Heap} {n : Nat} {parts : List (Nat × Value)} {K : Sl → Heap → Prop} (css : List (List Value)) (l : List α) (hl : css.length = n) (hll : l.length = n)
    (hrv : ∀ i (h1 : i < css.length) (h2 : i < l.length), E.rv h css[i] l[i]) (hfill : Instr.fill (fun i => some (i * si.size, si.size)) (madeCells si.zero.cells (n * si.size)) parts = some css.flatten.toArray) (_hsz : si.size = E.size)
    (hb : n * si.size ≤ 16777216) (hn : n ≤ 16777216) (hK : ∀ s h', Old h h' → rdSl E.el h' s l → K s h') : bld si n parts h K := by
  have hflat : ∀ (css : List (List Value)) (l : List α), css.length = l.length → (∀ i (h1 : i < css.length) (h2 : i < l.length), E.rv h css[i] l[i]) → ∀ i (h1 : i < css.length) j v, css[i][j]? = some v → css.flatten[i * E.size + j]? = some v := by
    intro css
    induction css with
    | nil => intro l _ _ i h1; simp at h1
    | cons c css ih =>
      intro l hlen hr i h1 j v hv
      cases l with
      | nil => simp at hlen
      | cons x l =>
        have hc : c.length = E.size := E.len (hr 0 (by simp) (by simp))
        cases i with
        | zero =>
          simp only [List.getElem_cons_zero] at hv
          rw [List.flatten_cons, Nat.zero_mul, Nat.zero_add, List.getElem?_append_left (List.getElem?_eq_some_iff.1 hv).1]
          exact hv
        | succ i =>
          simp only [List.getElem_cons_succ] at hv
          rw [List.flatten_cons, List.getElem?_append_right (by rw [hc, Nat.succ_mul]; omega)]
          have := ih l (by simpa using hlen) (fun i h1 h2 => hr (i + 1) (by simpa using h1) (by simpa using h2)) i (by simpa using h1) j v hv
          rw [show (i + 1) * E.size + j - c.length = i * E.size + j by rw [hc, Nat.succ_mul]; omega]
          exact this
  refine ⟨_, hfill, hb, hK _ _ (Old.push _ _) ⟨hll.symm, Nat.le_refl _, ?_, fun e => by simp at e, ?_⟩⟩
  · rw [hll]; omega
  · by_cases hne : l = []
    · exact .inl hne
    · refine .inr ⟨_, rfl, rfl, fun i hi => ⟨Addr.spot_add _ _ rfl, css[i]'(by omega), fun j v hj => ?_, E.ext (hrv i (by omega) hi) (Old.push _ _).ext⟩⟩
      show hcell (h.push _) (((⟨h.size, 0, none⟩ : Addr).add (i * E.size)).add j) = _
      rw [Addr.add_none, Addr.add_none, Nat.zero_add]
      unfold hcell
      simp only [Array.getElem?_push_size, Option.isSome_none, Bool.false_eq_true, if_false]
      rw [List.getElem?_toArray]
      exact hflat css l (by omega) hrv i (by omega) j v hj


abbrev cA (s2 : Sl) : Array Value := #[.string nB0, .slice none 0 0, .slice none 0 0, .int .i64 2, .int .i64 1, .string nmK, .int .i64 0, s2.v, .int .i64 0]
abbrev cB (s3 s4 : Sl) : Array Value := #[.string nB1, .slice none 0 0, s3.v, .int .i64 1, .int .i64 0, .string ⟨#[]⟩, .int .i64 0, s4.v, .int .i64 0]
abbrev cC (s6 : Sl) : Array Value := #[.string nB2, .slice none 0 0, s6.v, .int .i64 3, .int .i64 1, .string nmX, .int .i64 0, .slice none 0 0, .int .i64 0]
abbrev nSl : Sl := ⟨none, 0, 0⟩
theorem bl_rv {h : Heap} {n a : ByteArray} {sc st : Sl} {k ak : Int} {C : List MInstr} {T : List ByteArray} (hc : rdSl rInstr.el h sc C) (ht : rdSl rStr.el h st T) :
    rBlock.rv h [.string n, .slice none 0 0, sc.v, .int .i64 k, .int .i64 ak, .string a, .int .i64 0, st.v, .int .i64 0] ⟨n, [], C, ⟨k, ⟨ak, a, 0⟩, T, 0⟩⟩ :=
  ⟨[_], _, rfl, rfl, [_], _, rfl, ⟨⟨none, 0, 0⟩, rfl, rd_nil⟩, [_], _, rfl, ⟨sc, rfl, hc⟩, _, [], (List.append_nil _).symm,
    ⟨[_], _, rfl, rfl, [.int .i64 ak, .string a, .int .i64 0], _, rfl, ⟨[_], _, rfl, rfl, [_], _, rfl, rfl, [_], [], rfl, rfl, rfl⟩, [_], _, rfl, ⟨st, rfl, ht⟩, [_], [], rfl, rfl, rfl⟩, rfl⟩
theorem f_rv {h : Heap} {sp sb : Sl} {P : List MVar} {Bs : List MBlock} (hp : rdSl rVar.el h sp P) (hs : rdSl rBlock.el h sb Bs) : rFunc.rv h [.string ⟨#[]⟩, .string ⟨#[]⟩, sp.v, .slice none 0 0, sb.v] ⟨nm0, nm0, P, [], Bs⟩ :=
  ⟨[_], _, rfl, rfl, [_], _, rfl, rfl, [_], _, rfl, ⟨sp, rfl, hp⟩, [_], _, rfl, ⟨⟨none, 0, 0⟩, rfl, rd_nil⟩, [_], [], rfl, ⟨sb, rfl, hs⟩, rfl⟩
theorem rv_str {h : Heap} {s : ByteArray} : rStr.rv h [.string s] s := rfl
theorem rv_var {h : Heap} {n t : ByteArray} : rVar.rv h [.string n, .string t] ⟨n, t⟩ := ⟨[_], _, rfl, rfl, [_], [], rfl, rfl, rfl⟩
theorem rows13 {h : Heap} {s5 s2 s3 s4 s6 : Sl} {C : List MInstr} (r : rdSl (eCells 9 fun _ => True) h s5 [(cA s2).toList, (cB s3 s4).toList, (cC s6).toList]) (h2 : rdSl rStr.el h s2 [nB1, nB2]) (h3 : rdSl rInstr.el h s3 [in1]) (h4 : rdSl rStr.el h s4 [nB2]) (h6 : rdSl rInstr.el h s6 C) :
    rdSl rBlock.el h s5 [blA, blB, ⟨nB2, [], C, ⟨3, vA nmX, [], 0⟩⟩] :=
  rd_cells (E := rBlock) r rfl fun i h1 h2' => by
    match i with
    | 0 => exact bl_rv rd_nil h2
    | 1 => exact bl_rv h3 h4
    | 2 => exact bl_rv h6 rd_nil
    | i + 3 => exact absurd h2' (by simp)

theorem fillI {c : Array Value} (hc : c.size = 6) : Instr.fill (fun i => some (i * si_Lapi_Instr.size, si_Lapi_Instr.size)) (madeCells si_Lapi_Instr.zero.cells (1 * si_Lapi_Instr.size)) [(0, .agg c)] = some c :=
  fill_one (size := 6) (v := .agg c) hc (by rw [size_madeCells]; rfl)

set_option maxHeartbeats 4000000 in
theorem awake13_calls {h : Heap} : ACalls Try.prog F_lateenlaw13_awake [] h (fun v h' => v = .bool true ∧ Old h h') := by
  refine lateenlaw13_awake_of ?_
  unfold lateenlaw13_awake
  refine ⟨#[.int .i64 1, .string nmX, .int .i64 0], by kernel_rfl, ?_⟩
  refine new_st (E := rArg) (x := vA nmX) (rv_arg.2 rfl) rfl rfl fun p h2 o2 hp => ?_
  refine ⟨#[.int .i64 2, .string ⟨#[]⟩, .int .i64 1], by kernel_rfl, ?_⟩
  refine bld_rv (E := rArg) [[.int .i64 2, .string ⟨#[]⟩, .int .i64 1]] [⟨2, nm0, 1⟩] rfl rfl (fun i h1 h2 => by match i with | 0 => exact rv_arg.2 rfl | i + 1 => exact absurd h2 (by simp)) (by kernel_rfl) rfl (by decide) (by decide) fun s h3 o3 hs => ?_
  refine ⟨#[.int .i64 24, .string nmX, .string ⟨#[]⟩, s.v, .slice none 0 0, .slice none 0 0], by kernel_rfl, ?_⟩
  refine new_st (E := rInstr) (x := in1) (in1_rv hs) rfl rfl fun p1 h5 o5 hp1 => ?_
  refine ⟨#[.string nmK, .string nInt], by kernel_rfl, ?_⟩
  refine bld_rv (E := rVar) [[.string nmK, .string nInt]] [⟨nmK, nInt⟩] rfl rfl (fun i h1 h2 => by match i with | 0 => exact rv_var | i + 1 => exact absurd h2 (by simp)) (by kernel_rfl) rfl (by decide) (by decide) fun s1 h6 o6 hs1 => ?_
  refine ⟨#[.int .i64 1, .string nmK, .int .i64 0], by kernel_rfl, ?_⟩
  refine bld_rv (E := rStr) [[.string nB1], [.string nB2]] [nB1, nB2] rfl rfl (fun i h1 h2 => by match i with | 0 => exact rv_str | 1 => exact rv_str | i + 2 => exact absurd h2 (by simp)) (by kernel_rfl) rfl (by decide) (by decide) fun s2 h7 o7 hs2 => ?_
  refine ⟨#[.int .i64 2, .int .i64 1, .string nmK, .int .i64 0, s2.v, .int .i64 0], by kernel_rfl, ?_⟩
  refine ⟨cA s2, by kernel_rfl, ?_⟩
  have o57 := o6.trans o7
  refine ld_agg hp1 o57.ext rfl fun ci hci => ?_
  refine bld_rv (E := rInstr) [ci.toList] [in1] rfl rfl (fun i h1 h2 => by match i with | 0 => exact rInstr.ext hci o57.ext | i + 1 => exact absurd h2 (by simp)) ?_ rfl (by decide) (by decide) fun s3 h8 o8 hs3 => ?_
  · rw [show [ci.toList].flatten.toArray = ci by simp]
    exact fillI (by have := rInstr.len hci; rw [Array.length_toList] at this; exact this)
  refine bld_rv (E := rStr) [[.string nB2]] [nB2] rfl rfl (fun i h1 h2 => by match i with | 0 => exact rv_str | i + 1 => exact absurd h2 (by simp)) (by kernel_rfl) rfl (by decide) (by decide) fun s4 h9 o9 hs4 => ?_
  refine ⟨#[.int .i64 1, .int .i64 0, .string ⟨#[]⟩, .int .i64 0, s4.v, .int .i64 0], by kernel_rfl, ?_⟩
  refine ⟨cB s3 s4, by kernel_rfl, ?_⟩
  have o29 := (((o3.trans o5).trans o57).trans o8).trans o9
  refine ld_agg hp o29.ext rfl fun cx hcx => ?_
  have hcx := arr_arg hcx
  subst hcx
  refine ⟨#[.int .i64 3, .int .i64 1, .string nmX, .int .i64 0, .slice none 0 0, .int .i64 0], by kernel_rfl, ?_⟩
  refine ⟨cC nSl, by kernel_rfl, ?_⟩
  have o09 := o2.trans o29
  have hs1 := hs1.old ((o7.trans o8).trans o9)
  have hs2 := hs2.old (o8.trans o9)
  have hs3 := hs3.old o9
  have hp1 : rInstr.el.rd h9 p1 in1 := rInstr.el.ext hp1 ((o57.trans o8).trans o9).ext
  clear hp hs o2 o3 o5 o6 o7 o8 o9 o57 o29 hci
  have one9 : ∀ {c : Array Value}, c.size = 9 → (∀ v ∈ c.toList, v.oneCell' = true) → ∀ hh, (eCells 9 fun _ => True).own c.toList c.toList hh [] := fun h1 h2 hh => one_cells h2 9 (by simpa using h1) hh
  have S1 : Fw.Sep h9 h9 (ownRow (eCells 9 fun _ => True) ((cA s2).toList ++ ((cB s3 s4).toList ++ (cC nSl).toList)) [(cA s2).toList, (cB s3 s4).toList, (cC nSl).toList] :: []) :=
    (Fw.Sep.start h9).free loc_ownRow ⟨_, _, [], [], rfl, rfl, one9 rfl (by simp [Value.oneCell']) _, _, _, [], [], rfl, rfl, one9 rfl (by simp [Value.oneCell']) _, _, [], [], [], (List.append_nil _).symm, rfl, one9 rfl (by simp [Value.oneCell']) _, rfl, rfl⟩
  refine bld_rule S1 (by kernel_rfl) rfl rfl (by decide) (by decide) fun s5 h10 S => ?_
  refine ⟨#[.string ⟨#[]⟩, .string ⟨#[]⟩, s1.v, .slice none 0 0, s5.v], by kernel_rfl, ?_⟩
  refine new_stR S rfl rfl (by simp [Value.oneCell']) fun p2 h12 S => ?_
  clear S1
  refine ld_rawAgg S rfl ?_
  have hf12 : rFunc.rv h12 [.string ⟨#[]⟩, .string ⟨#[]⟩, s1.v, .slice none 0 0, s5.v] f13 := f_rv (hs1.old S.old) (rows13 S.swap.rd (hs2.old S.old) (hs3.old S.old) (hs4.old S.old) rd_nil)
  refine (asgIns_calls hf12 asg_f13).mono ?_
  rintro v h13 ⟨r, ll, rfl, hll, hul, T⟩
  refine ⟨r, rfl, ?_⟩
  have S := S.frame T
  have hf13 := rFunc.ext hf12 T.old.ext
  refine ld_rawAgg S.swap rfl ?_
  refine (asgRight_calls hf13 asg_f13 nm_f13 us_f13).mono ?_
  rintro v h14 ⟨r1, rfl, hr1, o14⟩
  refine ⟨r1, rfl, ?_⟩
  have hr1 : r1 = false := by
    cases r1 with
    | false => rfl
    | true => exact absurd (hr1.1 rfl) rightA_f13
  subst hr1
  have S := S.grow o14
  refine ld_rawB (i := 4) (k := .sl) (x := s5) S.swap rfl rfl ?_
  refine ld_agg hp1 S.old.ext rfl fun c5 hc5 => ?_
  have hc5l := rInstr.len hc5
  have S2 := S.free (A := ownRow (eCells 6 fun _ => True) c5.toList [c5.toList]) loc_ownRow ⟨_, [], [], [], (List.append_nil _).symm, rfl, one_cells (rInstr.one hc5) 6 hc5l _, rfl, rfl⟩
  refine bld_rule S2 (by
    rw [show c5.toList.toArray = c5 by simp]
    exact fillI (by rw [Array.length_toList] at hc5l; exact hc5l)) rfl rfl (by decide) (by decide) fun s6 h15 S => ?_
  have S := S.rot4
  refine idx_rdN (i := 2) S.rd rfl (by simp) fun p3 hp3 _ => ?_
  refine st_sub (i := 2) (x := (cC s6).toList) S hp3 rfl (by simp) (by simp [Value.oneCell']) (by show 2 + 1 ≤ 9; decide) (fun hh xs fx o => ?_) fun h16 S => ?_
  · obtain ⟨rfl, rfl, _⟩ := o
    exact one9 (c := cC s6) rfl (by simp [Value.oneCell']) hh
  have e16 := S.old.ext
  have hs6 : rdSl rInstr.el h16 s6 [in1] := rd_cells (E := rInstr) S.swap.rd rfl fun i h1 h2 => by
    match i with
    | 0 => exact rInstr.ext hc5 e16
    | i + 1 => exact absurd h2 (by simp)
  have hf16 : rFunc.rv h16 [.string ⟨#[]⟩, .string ⟨#[]⟩, s1.v, .slice none 0 0, s5.v] g13 := f_rv (hs1.ext e16) (rows13 S.rd (hs2.ext e16) (hs3.ext e16) (hs4.ext e16) hs6)
  intro k hk
  have hrd := S.rot3.rd
  have hrl : r.len = 3 := by rw [hrd.lenEq, hll]; rfl
  refine ifB_true (by rw [hrl]; rfl) ?_
  have hll3 : ll.length = 3 := hll
  refine idx_rdN (i := 2) hrd rfl (by omega) fun p4 _ hp4 => ld_slB hp4 (.refl _) fun x6 hx6 => ?_
  refine lit_strs [nmK] (by kernel_rfl) rfl (by decide) fun s7 h18 o18 hs7 => ?_
  refine (same_calls (hx6.old o18) hs7).mono ?_
  rintro v h19 ⟨rfl, rfl⟩
  have e2 : ll[2] = [nmK] := (hul 2 (by omega)).unique (Q := fun v => v = nmK) ⟨up_one _, by simp⟩ fun v => bare13
  refine ⟨_, rfl, ifB_true (decide_eq_true e2) (ifB_true rfl ?_)⟩
  have S := S.grow o18
  refine ld_rawAgg S.rot4 rfl ?_
  refine (asgRight_calls (rFunc.ext hf16 o18.ext) asg_g13 nm_g13 us_g13).mono ?_
  rintro v h20 ⟨r3, rfl, hr3, o20⟩
  refine ⟨r3, rfl, ?_⟩
  have hr3 : r3 = true := hr3.2 rightA_g13
  subst hr3
  exact hk _ _ fun _ => ⟨rfl, o09.trans (S.old.trans o20)⟩

end Go.Proofs.Ytojdbliehgejbaa

/-
  The laws of layer 13.
-/
namespace Go.Proofs.Ytojdbliehgejbaa
open Go.Fw Go.Pl Go.Pl.Api Go.Pl.Set Go.Pl.Live

theorem few13_calls {h : Heap} {cs : Array Value} {f : MFunc} (hf : rFunc.rv h cs.toList f) (hb : bFunc f) :
    ACalls Try.prog F_lateenlaw13_few [.agg cs] h (fun v h' => ∃ b, v = .bool b ∧ Old h h' ∧ (b = true → Few12 f)) := by
  refine lateenlaw13_few_of ?_
  unfold lateenlaw13_few
  refine new_rv hf fun p h1 o1 hp => ?_
  intro k hk
  have fin : ∀ b h', Old h1 h' → (b = true → Few12 f) → k b h' := fun b h' o hF => hk _ _ fun _ => ⟨b, rfl, o1.trans o, hF⟩
  refine ld_agg hp (hExt.refl _) rfl fun c1 hc1 => ?_
  refine (fewFunc_calls hc1 hb (most := 3000) (by omega)).mono ?_
  rintro v h2 ⟨n, rfl, o2, hn⟩
  refine ⟨n, rfl, ifB_intro (fun hc => ?_) (fun hc => fin _ _ o2 (fun h => by cases h))⟩
  have hcnt : cFunc f ≤ 3000 := by
    have h1 : n ≤ (3000 : Int) := of_decide_eq_true hc
    have h2 : n = (cFunc f : Int) := hn.2.2 h1
    omega
  refine ld_agg hp o2.ext rfl fun c2 hc2 => ?_
  refine (refFew_calls (rFunc.ext hc2 o2.ext)).mono ?_
  rintro v h3 ⟨b, rfl, o3, hF⟩
  refine ⟨b, rfl, ifB_intro (fun hc => ?_) (fun hc => fin _ _ (o2.trans o3) (fun h => by cases h))⟩
  have hF := hF hc
  have o3 := o2.trans o3
  refine ld_lst (fld_blocks.rd hp) o3.ext fun lb hlb => ?_
  have hlbl := hlb.lenEq
  refine ifB_intro (fun hc => ?_) (fun hc => fin _ _ o3 (fun h => by cases h))
  have h30 : f.blocks.length ≤ 30 := by have := of_decide_eq_true hc; omega
  refine ld_agg hp o3.ext rfl fun c3 hc3 => ?_
  refine (refRight_calls (rFunc.ext hc3 o3.ext) (by omega)).mono ?_
  rintro v h4 ⟨rfl, o4⟩
  exact ⟨_, rfl, fin _ _ (o3.trans o4) fun h => ⟨rightB_iff.1 h, hF, h30, hcnt⟩⟩

theorem setsN_cnt (f : MFunc) : (setsN f).length ≤ cFunc f := by
  have h := flat_len (w := cBlock) (l := f.blocks) (f := fun b => b.phis.map (·.dst) ++ b.code.map (·.dst)) fun b _ => by
    have h1 : (b.phis.map fun _ => 1).sum ≤ (b.phis.map cPhi).sum := sum_le fun p _ => by unfold cPhi; omega
    have h2 : (b.code.map fun _ => 1).sum ≤ (b.code.map cInstr).sum := sum_le fun p _ => by unfold cInstr; omega
    rw [sum_one] at h1 h2
    simp only [List.length_append, List.length_map]
    unfold cBlock
    omega
  have h0 : f.params.length ≤ cVars f.params := by unfold cVars; omega
  unfold setsN cFunc
  rw [List.length_append, List.length_map]
  omega
theorem setsN_sz {f : MFunc} (h : bFunc f) : ∀ v ∈ setsN f, v.size ≤ maxLen := fun v hv => by
  obtain ⟨_, _, hpar, _, hbl, _⟩ := h
  rcases List.mem_append.1 hv with hv | hv
  · obtain ⟨p, hp, rfl⟩ := List.mem_map.1 hv
    exact maxLen_of (bL_of hpar p hp).1
  · obtain ⟨b, hb, hv⟩ := List.mem_flatMap.1 hv
    obtain ⟨_, hp, hc, _⟩ := bL_of hbl b hb
    rcases List.mem_append.1 hv with hv | hv
    · obtain ⟨p, hp1, rfl⟩ := List.mem_map.1 hv
      exact maxLen_of (bL_of hp p hp1).1
    · obtain ⟨x, hx, rfl⟩ := List.mem_map.1 hv
      exact maxLen_of (bL_of hc x hx).2.1
theorem Few12.asg {f : MFunc} (F : Few12 f) (hb : bFunc f) : AsgF f :=
  ⟨by have := F.n30; omega, fun b hb => by have := F.few.to b hb; omega, F.right.pos, F.right.come, ⟨Nat.le_trans (setsN_cnt f) (Nat.le_trans F.cnt (by omega)), setsN_sz hb⟩⟩
theorem leads_of {f : MFunc} {a k : Nat} {B : MBlock} {n : ByteArray} (hB : f.blocks[a]? = some B) (hn : n ∈ B.term.to) (hp : place f n = some k) : leadsB (graphF f) a (k : Int) = true := by
  rw [← leadsF_eq]
  unfold leadsF
  rw [hB]
  simp only [Option.map_some, Option.getD_some, List.any_eq_true]
  exact ⟨n, hn, by rw [hp]; simp⟩

set_option maxHeartbeats 4000000 in
theorem assignWays_calls {h : Heap} {cs : Array Value} {f : MFunc} {ts : Sl} {T : List Bool} (hf : rFunc.rv h cs.toList f) (hb : bFunc f) (hts : rdSl rBool.el h ts T) :
    ACalls Try.prog F_lateenlaw13_AssignWays [.agg cs, ts.v] h (fun v h' => v = .bool true ∧ Old h h') := by
  refine lateenlaw13_AssignWays_of ?_
  unfold lateenlaw13_AssignWays
  refine new_rv hf fun p h1 o1 hp => ?_
  have hts := hts.old o1
  have htl := hts.lenEq
  intro k hk
  have aw : ∀ h', Old h1 h' → k true h' := fun h' o => hk _ _ fun _ => ifB_true rfl (awake13_calls.mono fun v h'' ⟨e, o'⟩ => ⟨true, e, rfl, o1.trans (o.trans o')⟩)
  refine awake13_calls.mono ?_
  rintro v h2 ⟨rfl, o2⟩
  refine ⟨true, rfl, ifB_false rfl ?_⟩
  refine ld_agg hp o2.ext rfl fun c1 hc1 => ?_
  refine (few13_calls (rFunc.ext hc1 o2.ext) hb).mono ?_
  rintro v h3 ⟨b, rfl, o3, hF⟩
  have o3 := o2.trans o3
  refine ⟨b, rfl, ?_⟩
  cases b with
  | false => exact ifB_true rfl (aw _ o3)
  | true =>
  have F := hF rfl
  refine ifB_false rfl ?_
  by_cases h200 : (ts.len : Int) > 200
  · rw [decide_eq_true h200]; exact aw _ o3
  rw [decide_eq_false h200]
  refine hk _ _ fun _ => ifB_false rfl ?_
  clear aw hk k hc1 hF o2
  have A := F.asg hb
  have hn30 := F.n30
  refine ld_agg hp o3.ext rfl fun c2 hc2 => ?_
  refine (asgIns_calls (rFunc.ext hc2 o3.ext) A).mono ?_
  rintro v h4 ⟨r, ll, rfl, hll, hul, T4⟩
  refine ⟨r, rfl, ?_⟩
  have hins := T4.rd
  have o4 := o3.trans T4.old
  clear T4 hc2 o3
  have hlen : ∀ {l : List ByteArray} {P : VSet}, UpS l P → (∀ v, P v → v ∈ setsN f) → l.length ≤ 2000000 := fun hl hs => Nat.le_trans (hl.len hs) (Nat.le_trans A.sz.n (by omega))
  refine loop_intro (fun m (q : Sl × Int) h' => ∃ (i : Nat) (l : List ByteArray), q.2 = i ∧ i ≤ f.params.length ∧ m = f.params.length - i ∧ Old h4 h' ∧ rdSl eStr h' q.1 l ∧ UpS l (fun v => ∃ p ∈ f.params.take i, p.name = v)) f.params.length
    ⟨0, [], rfl, by omega, by omega, .refl _, rd_nil, ⟨List.Pairwise.nil, by simp⟩⟩ ?_
  rintro _ _ ⟨w, _⟩ h5 ⟨i, l, hq, hi, rfl, o5, hw, hl⟩
  simp only at hq hw ⊢
  subst hq
  have o15 := o4.trans o5
  refine ld_lst (fld_fParams.rd hp) o15.ext fun lp hlp => ?_
  have hlpl := hlp.lenEq
  have hlpb := hlp.bound
  refine ifB_intro (fun hc => ?_) (fun hc => ?_)
  · have hil : i < f.params.length := by rw [hlpl] at hc; simpa using hc
    refine ld_lst (fld_fParams.rd hp) o15.ext fun lp2 hlp2 => ?_
    refine idx_rdN hlp2 rfl hil fun p1 _ hp1 => ?_
    refine ld_str (fld_vName.rd hp1) o15.ext ?_
    refine (put_calls hw (hlen hl fun v ⟨p, hp, e⟩ => par_names ⟨p, List.mem_of_mem_take hp, e⟩) f.params[i].name).mono ?_
    rintro v h6 ⟨s', rfl, S6⟩
    exact ⟨_, rfl, ar_i64 (by omega) (by omega) ⟨f.params.length - (i + 1), by omega, i + 1, _, rfl, by omega, rfl, o5.trans S6.old, S6.rd, (putF_up hl _).iff fun v => by rw [take_ex hil]; exact or_congr eq_comm Iff.rfl⟩⟩
  have hil : f.params.length ≤ i := by rw [hlpl] at hc; simpa using hc
  rw [List.take_of_length_le hil] at hl
  clear hc hil hi hlp hlpl hlpb lp
  refine loop_intro (fun m (q : Sl × Int × Int) h' => ∃ (a n : Nat) (l : List ByteArray) (P : VSet), q.2.1 = a ∧ q.2.2 = n ∧ a < f.blocks.length ∧ n ≤ T.length + 1 ∧ m = T.length + 1 - n ∧ Old h4 h' ∧ rdSl eStr h' q.1 l ∧ UpS l P ∧ (∀ v, P v → v ∈ setsN f) ∧
      ∀ B, f.blocks[a]? = some B → ∀ v, ¬ Bare f v a → P v ∨ madeV B v) (T.length + 1)
    ⟨0, 0, l, parV f, rfl, rfl, A.pos, by omega, by omega, o5, hw, hl, fun v hv => par_names hv, fun B hB v hv => ?_⟩ ?_
  · apply Classical.byContradiction
    intro hno
    exact hv (.start hB (fun h => hno (.inl h)) (fun h => hno (.inr h)))
  clear hl hw o5 o15 l w i h5
  rintro _ _ ⟨w, _, _⟩ h7 ⟨a, n, l, P, hqa, hqn, hal, hn, rfl, o7, hw, hl, hPs, hP⟩
  simp only at hqa hqn hw ⊢
  subst hqa hqn
  refine ifB_intro (fun hc => ?_) (fun hc => ⟨by first | rfl | trivial, o1.trans (o4.trans o7)⟩)
  have hnT : n ≤ T.length := by have := of_decide_eq_true hc; omega
  have o17 := o4.trans o7
  refine ld_lst (fld_blocks.rd hp) o17.ext fun lb hlb => ?_
  refine idx_rdN hlb rfl hal fun p2 _ hp2 => ld_agg hp2 o17.ext rfl fun c5 hc5 => ?_
  refine new_st (rBlock.ext hc5 o17.ext) rfl rfl fun p3 h9 o9 hp3 => ?_
  have hB := List.getElem?_eq_getElem hal
  have hends := F.right.ends a hal
  have hP := hP _ hB
  generalize f.blocks[a] = B at hp3 hB hends hP
  clear hc5 hp2 hc
  have o49 := o7.trans o9
  refine loop_intro (fun m (q : Sl × Int) h' => ∃ (j : Nat) (l : List ByteArray), q.2 = j ∧ j ≤ B.phis.length ∧ m = B.phis.length - j ∧ Old h9 h' ∧ rdSl eStr h' q.1 l ∧ UpS l (fun v => (∃ p ∈ B.phis.take j, p.dst = v) ∨ P v)) B.phis.length
    ⟨0, l, rfl, by omega, by omega, .refl _, hw.old o9, hl.iff fun v => by simp⟩ ?_
  clear hl hw l w
  rintro _ _ ⟨w, _⟩ h10 ⟨j, l, hq, hj, rfl, o10, hw, hl⟩
  simp only at hq hw ⊢
  subst hq
  refine ld_lst (fld_phis.rd hp3) o10.ext fun lp hlp => ?_
  have hlpl := hlp.lenEq
  have hlpb := hlp.bound
  refine ifB_intro (fun hc => ?_) (fun hc => ?_)
  · have hjl : j < B.phis.length := by rw [hlpl] at hc; simpa using hc
    refine ld_lst (fld_phis.rd hp3) o10.ext fun lp2 hlp2 => ?_
    refine idx_rdN hlp2 rfl hjl fun p4 _ hp4 => ?_
    refine ld_str (fld_dst.rd hp4) o10.ext ?_
    refine (put_calls hw (hlen hl fun v hv => hv.elim (fun ⟨p, hp, e⟩ => made_names hB ⟨p, List.mem_of_mem_take hp, e⟩) (hPs v)) B.phis[j].dst).mono ?_
    rintro v h11 ⟨s', rfl, S11⟩
    exact ⟨_, rfl, ar_i64 (by omega) (by omega) ⟨B.phis.length - (j + 1), by omega, j + 1, _, rfl, by omega, rfl, o10.trans S11.old, S11.rd, (putF_up hl _).iff fun v => by rw [take_ex hjl, or_assoc]; exact or_congr eq_comm Iff.rfl⟩⟩
  have hjl : B.phis.length ≤ j := by rw [hlpl] at hc; simpa using hc
  rw [List.take_of_length_le hjl] at hl
  clear hc hjl hj hlp hlpl hlpb lp
  have hl : UpS l (fun v => madeV B v ∨ P v) := hl
  have hin : ∀ v, ¬ Bare f v a → v ∈ l := fun v hv => (hl.mem v).2 ((hP v hv).symm)
  have hall : a < ll.length := by omega
  refine loop_intro (fun m (q : Int) h' => ∃ k : Nat, q = k ∧ k ≤ ll[a].length ∧ m = ll[a].length - k ∧ h' = h10) ll[a].length ⟨0, rfl, by omega, by omega, rfl⟩ ?_
  rintro _ _ _ h12 ⟨k, rfl, hk, rfl, rfl⟩
  have o4_12 := o49.trans o10
  refine idx_rdN (hins.old o4_12) rfl hall fun p5 _ hp5 => ld_slB hp5 (.refl _) fun x9 hx9 => ?_
  have hx9l := hx9.lenEq
  have hx9b := hx9.bound
  refine ifB_intro (fun hc => ?_) (fun hc => ?_)
  · have hkl : k < ll[a].length := by rw [hx9l] at hc; simpa using hc
    refine idx_rdN (hins.old o4_12) rfl hall fun p6 _ hp6 => ld_slB hp6 (.refl _) fun x10 hx10 => ?_
    refine idx_rdN hx10 rfl hkl fun p7 _ hp7 => ld_eStr hp7 (hExt.refl _) ?_
    refine (in_calls hw ll[a][k]).mono ?_
    rintro v h13 ⟨rfl, rfl⟩
    refine ⟨_, rfl, ?_⟩
    have hm : ll[a][k] ∈ l := hin _ (((hul a hall).mem _).1 (List.getElem_mem hkl))
    rw [decide_eq_true hm]
    exact ifB_false rfl (ar_i64 (by omega) (by omega) ⟨ll[a].length - (k + 1), by omega, k + 1, rfl, by omega, rfl, rfl⟩)
  clear hc hx9 hx9l hx9b x9 hp5
  refine loop_intro (fun m (q : Sl × Int) h' => ∃ (j : Nat) (l : List ByteArray), q.2 = j ∧ j ≤ B.code.length ∧ m = B.code.length - j ∧ Old h9 h' ∧ rdSl eStr h' q.1 l ∧ UpS l (fun v => codeV (B.code.take j) v ∨ madeV B v ∨ P v)) B.code.length
    ⟨0, l, rfl, by omega, by omega, o10, hw, hl.iff fun v => by simp [codeV]⟩ ?_
  clear hl hw hin o4_12 o10
  rintro _ _ ⟨w, _⟩ h14 ⟨j, l, hq, hj, rfl, o14, hw, hl⟩
  simp only at hq hw ⊢
  subst hq
  refine ld_lst (fld_code.rd hp3) o14.ext fun lc hlc => ?_
  have hlcl := hlc.lenEq
  have hlcb := hlc.bound
  refine ifB_intro (fun hc => ?_) (fun hc => ?_)
  · have hjl : j < B.code.length := by rw [hlcl] at hc; simpa using hc
    intro k4 hk4
    have next : ∀ s' h' l', Old h14 h' → rdSl eStr h' s' l' → UpS l' (fun v => codeV (B.code.take (j + 1)) v ∨ madeV B v ∨ P v) → k4 s' h' := fun s' h' l' o' hw' hl' => hk4 _ _ fun _ =>
      ar_i64 (by omega) (by omega) ⟨B.code.length - (j + 1), by omega, j + 1, l', rfl, by omega, rfl, o14.trans o', hw', hl'⟩
    refine ld_lst (fld_code.rd hp3) o14.ext fun lc2 hlc2 => ?_
    refine idx_rdN hlc2 rfl hjl fun p8 _ hp8 => ?_
    refine ld_str (fld_iDst.rd hp8) o14.ext ?_
    rw [toList_beq]
    by_cases e : B.code[j].dst = nmE
    · rw [decide_eq_true e]
      refine ifB_false rfl (next w h14 l (.refl _) hw (hl.iff fun v => ?_))
      rw [codeV_take hjl]
      exact or_congr ⟨.inr, fun h => h.elim (fun ⟨h1, h2⟩ => absurd (h2.symm.trans e) h1) id⟩ Iff.rfl
    · rw [decide_eq_false e]
      refine ifB_true rfl ?_
      refine ld_lst (fld_code.rd hp3) o14.ext fun lc3 hlc3 => ?_
      refine idx_rdN hlc3 rfl hjl fun p9 _ hp9 => ?_
      refine ld_str (fld_iDst.rd hp9) o14.ext ?_
      refine (put_calls hw (hlen hl fun v hv => ?_) B.code[j].dst).mono ?_
      · rcases hv with ⟨h1, x, hx, h2⟩ | h | h
        · exact code_names hB ⟨h1, x, List.mem_of_mem_take hx, h2⟩
        · exact made_names hB h
        · exact hPs v h
      rintro v h16 ⟨s', rfl, S16⟩
      refine ⟨_, rfl, next s' h16 _ S16.old S16.rd ((putF_up hl _).iff fun v => ?_)⟩
      rw [codeV_take hjl, or_assoc]
      exact or_congr ⟨fun h => ⟨h ▸ e, h.symm⟩, fun h => h.2.symm⟩ Iff.rfl
  have hjl : B.code.length ≤ j := by rw [hlcl] at hc; simpa using hc
  rw [List.take_of_length_le hjl] at hl
  clear hc hjl hj hlc hlcl hlcb lc
  have o1_14 := o4.trans (o49.trans o14)
  intro k5 hk5
  have stop : k5 true h14 := hk5 _ _ fun _ => ifB_true rfl ⟨by first | rfl | trivial, o1.trans o1_14⟩
  refine ifB_intro (fun hc => stop) (fun hc => ?_)
  have hnl : n < T.length := by
    have : ¬ (n : Int) = (ts.len : Int) := by simpa using hc
    omega
  have hto : (rStr.sl).el.rd h9 ((p3.add 3).add 4) B.term.to := el_two hp3.1 (Fld.trans fld_term fld_to rfl |>.rd hp3)
  refine ld_lst hto o14.ext fun lt hlt => ?_
  have hltl := hlt.lenEq
  have hltb := hlt.bound
  by_cases h0 : B.term.to.length = 0
  · have : ((lt.len : Int) == 0) = true := by rw [hltl, h0]; rfl
    rw [this]
    exact stop
  have : ((lt.len : Int) == 0) = false := by rw [hltl]; simpa using h0
  rw [this]
  refine hk5 _ _ fun _ => ifB_false rfl ?_
  intro k6 hk6
  have go : ∀ t : Nat, t < B.term.to.length → k6 (t : Int) h14 := fun t ht => hk6 _ _ fun _ => by
    refine ld_agg hp o1_14.ext rfl fun c17 hc17 => ?_
    refine ld_lst hto o14.ext fun lt2 hlt2 => ?_
    refine idx_rdN hlt2 rfl ht fun p10 _ hp10 => ld_str hp10 o14.ext ?_
    refine (refPlace_calls (rFunc.ext hc17 o1_14.ext) B.term.to[t]).mono ?_
    rintro v h19 ⟨rfl, o19⟩
    obtain ⟨z, hz1, _⟩ := hends.1 _ (List.getElem_mem ht)
    have hzl := place_lt hz1
    unfold placeV
    rw [hz1]
    refine ⟨_, _, rfl, o19.ext, ?_⟩
    refine ar_i64 (by omega) (by omega) ⟨T.length + 1 - (n + 1), by omega, z, n + 1, l, _, rfl, rfl, hzl, by omega, rfl, o49.trans (o14.trans o19), hw.old o19, hl, fun v hv => ?_, fun C hC v hv => ?_⟩
    · rcases hv with h | h | h
      · exact code_names hB h
      · exact made_names hB h
      · exact hPs v h
    · by_cases hm : madeV C v
      · exact .inr hm
      · refine .inl ?_
        by_cases hcv : codeV B.code v
        · exact .inl hcv
        · refine .inr ((hP v fun hB' => hv (.step hB' hB hcv (leads_of hB (List.getElem_mem ht) hz1) hC hm)).symm)
  refine idx_rdN (hts.old o1_14) rfl hnl fun p11 _ hp11 => ld_bool hp11 (hExt.refl _) ?_
  refine ifB_intro (fun hc => ?_) (fun hc => go 0 (by omega))
  refine ld_lst hto o14.ext fun lt3 hlt3 => ?_
  have hlt3l := hlt3.lenEq
  refine ar_i64 (by omega) (by omega) ?_
  have : (lt3.len : Int) - 1 = ((B.term.to.length - 1 : Nat) : Int) := by omega
  rw [this]
  exact go _ (by omega)

end Go.Proofs.Ytojdbliehgejbaa

/-
  AssignLive, AssignMore.
-/
namespace Go.Proofs.Ytojdbliehgejbaa
open Go.Fw Go.Pl Go.Pl.Api Go.Pl.Set Go.Pl.Live

theorem backV_or : ∀ {l : List MInstr} {S : VSet} {w : ByteArray}, backV l S w → (∃ i, ∃ hi : i < l.length, usesV l[i] w ∧ ¬ codeV (l.take i) w) ∨ (S w ∧ ¬ codeV l w)
  | [], S, w, h => .inr ⟨h, by rintro ⟨_, x, hx, _⟩; cases hx⟩
  | x :: l, S, w, h => by
    rcases h with h | ⟨h, hd⟩
    · exact .inl ⟨0, by simp, h, by rintro ⟨_, x, hx, _⟩; cases hx⟩
    · have no : ∀ l', ¬ codeV l' w → ¬ codeV (x :: l') w := fun l' hl' => by
        rintro ⟨h0, y, hy, he⟩
        rcases List.mem_cons.1 hy with rfl | hy
        · rcases hd with hd | hd
          · exact h0 (he.symm.trans hd)
          · exact hd he.symm
        · exact hl' ⟨h0, y, hy, he⟩
      rcases backV_or h with ⟨i, hi, hu, hc⟩ | ⟨hs, hc⟩
      · refine .inl ⟨i + 1, by simpa using hi, by simpa using hu, ?_⟩
        rw [List.take_succ_cons]
        exact no _ hc
      · exact .inr ⟨hs, no _ hc⟩
theorem place_name {f : MFunc} {n : ByteArray} {k : Nat} {c : MBlock} (h : place f n = some k) (hc : f.blocks[k]? = some c) : c.name = n := by
  unfold place at h
  rw [List.findIdx?_eq_some_iff_getElem] at h
  obtain ⟨hk, h1, _⟩ := h
  rw [List.getElem?_eq_getElem hk] at hc
  injection hc with hc
  subst hc
  rw [toList_beq] at h1
  exact of_decide_eq_true h1
/-- What is live is set. -/
theorem live_set {f : MFunc} (hR : RightP f) (h : rightA f) : ∀ j w, liveIns f j w → ¬ Bare f w j := by
  intro j w hl
  refine hl (fun j w => ¬ Bare f w j) ?_
  clear hl j w
  rintro j w ⟨b, hb, hw⟩
  have hjl := (List.getElem?_eq_some_iff.1 hb).1
  have hok := h.1 j b hb
  rcases backV_or hw with ⟨i, hi, hu, hc⟩ | ⟨he, hc⟩
  · exact (hok.1 i hi hi w hu).resolve_right hc
  · rcases he with ⟨n, hn, k, hk, c, hck, hi⟩ | ⟨hkind, ha⟩
    · rcases hi with ⟨φ, hφ, i, hi, hib, ha⟩ | ⟨hlive, hm⟩
      · have hnm : place f i.block = some j := by
          rw [hib]
          have := hR.names j hjl
          rw [List.getElem?_eq_getElem hjl] at hb
          injection hb with hb
          rw [hb] at this
          exact this
        have := h.2 c (List.mem_of_getElem? hck) φ hφ i hi j b hnm hb (by rw [place_name hk hck]; exact hn) w ha
        exact this.resolve_right hc
      · exact fun hB => hlive (.step hB hb hc (leads_of hb hn hk) hck hm)
    · exact (hok.2 hkind w ha).resolve_right hc

theorem param_calls {h : Heap} {cs : Array Value} {f : MFunc} (hf : rFunc.rv h cs.toList f) (v : ByteArray) :
    ACalls Try.prog F_lateenref13_Param [.agg cs, .string v] h (fun u h' => ∃ t : Bool, u = .bool t ∧ (t = true ↔ parV f v) ∧ Old h h') := by
  refine lateenref13_Param_of ?_
  unfold lateenref13_Param
  refine new_rv hf fun p h1 o1 hp => ?_
  refine loop_intro (fun m (q : Int) h' => ∃ i : Nat, q = i ∧ i ≤ f.params.length ∧ m = f.params.length - i ∧ h' = h1 ∧ ∀ p ∈ f.params.take i, p.name ≠ v) f.params.length
    ⟨0, rfl, by omega, by omega, rfl, by simp⟩ ?_
  rintro _ _ _ h' ⟨i, rfl, hi, rfl, rfl, hall⟩
  refine ld_lst (fld_fParams.rd hp) (hExt.refl _) fun la hla => ?_
  have hlal := hla.lenEq
  have hlab := hla.bound
  refine ifB_intro (fun hc => ?_) (fun hc => ?_)
  · have hil : i < f.params.length := by rw [hlal] at hc; simpa using hc
    refine ld_lst (fld_fParams.rd hp) (hExt.refl _) fun lb hlb => ?_
    refine idx_rdN hlb rfl hil fun p1 _ hp1 => ?_
    refine ld_str (fld_vName.rd hp1) (hExt.refl _) ?_
    rw [toList_beq]
    by_cases e : f.params[i].name = v
    · rw [decide_eq_true e]
      exact ifB_true rfl ⟨true, rfl, ⟨fun _ => ⟨_, List.getElem_mem hil, e⟩, fun _ => rfl⟩, o1⟩
    · rw [decide_eq_false e]
      refine ifB_false rfl (ar_i64 (by omega) (by omega) ⟨f.params.length - (i + 1), by omega, i + 1, rfl, by omega, rfl, rfl, fun p hp => ?_⟩)
      rw [List.take_succ_eq_append_getElem hil, List.mem_append, List.mem_singleton] at hp
      rcases hp with hp | rfl
      · exact hall p hp
      · exact e
  · have hil : f.params.length ≤ i := by rw [hlal] at hc; simpa using hc
    rw [List.take_of_length_le hil] at hall
    exact ⟨false, rfl, ⟨fun h => (by cases h), fun ⟨p, hp, e⟩ => absurd e (hall p hp)⟩, o1⟩

theorem Few12.us {f : MFunc} (F : Few12 f) (hb : bFunc f) : ∀ B ∈ f.blocks, ∀ x ∈ B.code, Sz (usesN x) := fun _ hB _ hx => F.instr hb hB hx

theorem assignLive_calls {h : Heap} {cs : Array Value} {f : MFunc} (hf : rFunc.rv h cs.toList f) (hb : bFunc f) :
    ACalls Try.prog F_lateenlaw13_AssignLive [.agg cs] h (fun v h' => v = .bool true ∧ Old h h') := by
  refine lateenlaw13_AssignLive_of ?_
  unfold lateenlaw13_AssignLive
  refine new_rv hf fun p h1 o1 hp => ?_
  intro k hk
  have aw : ∀ h', Old h1 h' → k true h' := fun h' o => hk _ _ fun _ => ifB_true rfl (awake13_calls.mono fun v h'' ⟨e, o'⟩ => ⟨true, e, rfl, o1.trans (o.trans o')⟩)
  refine awake13_calls.mono ?_
  rintro v h2 ⟨rfl, o2⟩
  refine ⟨true, rfl, ifB_false rfl ?_⟩
  refine ld_agg hp o2.ext rfl fun c1 hc1 => ?_
  refine (few13_calls (rFunc.ext hc1 o2.ext) hb).mono ?_
  rintro v h3 ⟨b, rfl, o3, hF⟩
  have o3 := o2.trans o3
  refine ⟨b, rfl, ?_⟩
  cases b with
  | false => exact ifB_true rfl (aw _ o3)
  | true =>
  have F := hF rfl
  have A := F.asg hb
  have hn30 := F.n30
  refine ifB_false rfl ?_
  refine ld_agg hp o3.ext rfl fun c4 hc4 => ?_
  refine (asgRight_calls (rFunc.ext hc4 o3.ext) A F.right.names (F.us hb)).mono ?_
  rintro v h4 ⟨t, rfl, ht, o4⟩
  have o4 := o3.trans o4
  refine ⟨t, rfl, ?_⟩
  cases t with
  | false => exact ifB_true rfl (aw _ o4)
  | true =>
  have hRA := ht.1 rfl
  refine ifB_false rfl ?_
  refine ld_lst (fld_blocks.rd hp) o4.ext fun lb hlb => ?_
  refine idx_rdN (i := 0) hlb rfl A.pos fun p2 _ hp2 => ?_
  refine ld_lst (fld_phis.rd hp2) o4.ext fun lp hlp => ?_
  have hlpl := hlp.lenEq
  by_cases h0 : (lp.len : Int) > 0
  · rw [decide_eq_true h0]; exact aw _ o4
  rw [decide_eq_false h0]
  refine hk _ _ fun _ => ifB_false rfl ?_
  have hpos := A.pos
  have hph : f.blocks[0].phis = [] := List.eq_nil_of_length_eq_zero (by omega)
  have hB := List.getElem?_eq_getElem A.pos
  refine ld_agg hp o4.ext rfl fun c5 hc5 => ?_
  refine (at_calls (i := 0) (k := 0) (rFunc.ext hc5 o4.ext) (by omega) (F.sz hb) A.pos (by omega)).mono ?_
  rintro v h5 ⟨r, l, rfl, hl, S5⟩
  refine ⟨r, rfl, ?_⟩
  have hr := S5.rd
  have hrl := hr.lenEq
  have hrb := hr.bound
  have o5 := o4.trans S5.old
  refine loop_intro (fun m (q : Int) h' => ∃ i : Nat, q = i ∧ i ≤ l.length ∧ m = l.length - i ∧ Old h5 h') l.length ⟨0, rfl, by omega, by omega, .refl _⟩ ?_
  rintro _ _ _ h6 ⟨i, rfl, hi, rfl, o6⟩
  have o16 := o5.trans o6
  refine ifB_intro (fun hc => ?_) (fun hc => ⟨rfl, o1.trans o16⟩)
  have hil : i < l.length := by rw [hrl] at hc; simpa using hc
  refine ld_agg hp o16.ext rfl fun c6 hc6 => ?_
  refine idx_rdN (hr.old o6) rfl hil fun p3 _ hp3 => ld_eStr hp3 (hExt.refl _) ?_
  refine (param_calls (rFunc.ext hc6 o16.ext) l[i]).mono ?_
  rintro v h7 ⟨t, rfl, ht, o7⟩
  refine ⟨t, rfl, ?_⟩
  have hpar : parV f l[i] := by
    have hli := at_zero.1 ((hl.mem _).1 (List.getElem_mem hil))
    have := live_set F.right hRA 0 _ hli
    apply Classical.byContradiction
    intro hno
    refine this (.start hB hno ?_)
    rintro ⟨φ, hφ, _⟩
    rw [hph] at hφ
    cases hφ
  have : t = true := ht.2 hpar
  subst this
  exact ifB_false rfl (ar_i64 (by omega) (by omega) ⟨l.length - (i + 1), by omega, i + 1, rfl, by omega, rfl, o6.trans o7⟩)

/-! One parameter more -/
def moreF (f : MFunc) (n : ByteArray) : MFunc := { f with params := f.params ++ [⟨n, nInt⟩] }
theorem bare_more {f : MFunc} {n v : ByteArray} {k : Nat} (h : Bare (moreF f n) v k) : Bare f v k := by
  induction h with
  | start hb h1 h2 => exact .start hb (fun ⟨p, hp, e⟩ => h1 ⟨p, List.mem_append.2 (.inl hp), e⟩) h2
  | step _ hb hn hk hc hm ih => exact .step ih hb hn hk hc hm
theorem right_more {f : MFunc} {n : ByteArray} (h : rightA f) : rightA (moreF f n) := by
  refine ⟨fun k B hB => ?_, fun c hc p hp i hi q B h1 h2 h3 v hv => ?_⟩
  · obtain ⟨h1, h2⟩ := h.1 k B hB
    exact ⟨fun j hj hjn v hv => (h1 j hj hjn v hv).imp (fun h hB => h (bare_more hB)) id, fun hk v hv => (h2 hk v hv).imp (fun h hB => h (bare_more hB)) id⟩
  · exact (h.2 c hc p hp i hi q B h1 h2 h3 v hv).imp (fun h hB => h (bare_more hB)) id
theorem asg_more {f : MFunc} {n : ByteArray} (A : AsgF f) (hl : (setsN f).length ≤ 3000) (hn : bStr n) : AsgF (moreF f n) := by
  refine ⟨A.n, A.to, A.pos, A.come, ⟨?_, fun v hv => ?_⟩⟩
  · have : (setsN (moreF f n)).length = (setsN f).length + 1 := by
      simp [setsN, moreF]
      omega
    omega
  · rcases List.mem_append.1 hv with hv | hv
    · obtain ⟨p, hp, rfl⟩ := List.mem_map.1 hv
      rcases List.mem_append.1 hp with hp | hp
      · exact A.sz.sz _ (par_names ⟨p, hp, rfl⟩)
      · simp at hp
        subst hp
        exact maxLen_of hn
    · exact A.sz.sz _ (List.mem_append.2 (.inr hv))
theorem rv_func {h : Heap} {cs : List Value} {f : MFunc} : rFunc.rv h cs f ↔ ∃ sp sv sb : Sl, cs = [.string f.name, .string f.result, sp.v, sv.v, sb.v] ∧ rdSl rVar.el h sp f.params ∧ rdSl rVar.el h sv f.vars ∧ rdSl rBlock.el h sb f.blocks := by
  constructor
  · rintro ⟨c1, c2, rfl, h1, c3, c4, rfl, h2, c5, c6, rfl, h3, c7, c8, rfl, h5, c9, c10, rfl, h6, h7⟩
    have h1 : c1 = [.string f.name] := h1
    have h2 : c3 = [.string f.result] := h2
    have h7 : c10 = [] := h7
    obtain ⟨sp, h3, r3⟩ := h3
    obtain ⟨sv, h5, r5⟩ := h5
    obtain ⟨sb, h6, r6⟩ := h6
    subst h1 h2 h3 h5 h6 h7
    exact ⟨sp, sv, sb, rfl, r3, r5, r6⟩
  · rintro ⟨sp, sv, sb, rfl, r3, r5, r6⟩
    exact ⟨[_], _, rfl, rfl, [_], _, rfl, rfl, [_], _, rfl, ⟨sp, rfl, r3⟩, [_], _, rfl, ⟨sv, rfl, r5⟩, [_], [], rfl, ⟨sb, rfl, r6⟩, rfl⟩

set_option maxHeartbeats 1000000 in
theorem assignMore_calls {h : Heap} {cs : Array Value} {f : MFunc} {n : ByteArray} (hf : rFunc.rv h cs.toList f) (hb : bFunc f) (hn : bStr n) :
    ACalls Try.prog F_lateenlaw13_AssignMore [.agg cs, .string n] h (fun v h' => v = .bool true ∧ Old h h') := by
  refine lateenlaw13_AssignMore_of ?_
  unfold lateenlaw13_AssignMore
  refine new_rv hf fun p h1 o1 hp => ?_
  intro k hk
  have aw : ∀ h', Old h1 h' → k true h' := fun h' o => hk _ _ fun _ => ifB_true rfl (awake13_calls.mono fun v h'' ⟨e, o'⟩ => ⟨true, e, rfl, o1.trans (o.trans o')⟩)
  refine awake13_calls.mono ?_
  rintro v h2 ⟨rfl, o2⟩
  refine ⟨true, rfl, ifB_false rfl ?_⟩
  refine ld_agg hp o2.ext rfl fun c1 hc1 => ?_
  refine (few13_calls (rFunc.ext hc1 o2.ext) hb).mono ?_
  rintro v h3 ⟨b, rfl, o3, hF⟩
  have o3 := o2.trans o3
  refine ⟨b, rfl, ?_⟩
  cases b with
  | false => exact ifB_true rfl (aw _ o3)
  | true =>
  have F := hF rfl
  have A := F.asg hb
  have hcnt : (setsN f).length ≤ 3000 := Nat.le_trans (setsN_cnt f) F.cnt
  have hpl : f.params.length ≤ 3000 := by
    have : f.params.length ≤ (setsN f).length := by simp [setsN]
    omega
  refine ifB_false rfl ?_
  refine ld_agg hp o3.ext rfl fun c4 hc4 => ?_
  refine (asgRight_calls (rFunc.ext hc4 o3.ext) A F.right.names (F.us hb)).mono ?_
  rintro v h4 ⟨t, rfl, ht, o4⟩
  have o4 := o3.trans o4
  refine ⟨t, rfl, ?_⟩
  cases t with
  | false => exact aw _ o4
  | true =>
  have hRA := ht.1 rfl
  refine hk _ _ fun _ => ifB_false rfl ?_
  refine ld_agg hp o4.ext rfl fun c5 hc5 => ?_
  have hc5 := rFunc.ext hc5 o4.ext
  obtain ⟨sp, sv, sb, ec, r3, r5, r6⟩ := rv_func.1 hc5
  have ec : c5 = #[.string f.name, .string f.result, sp.v, sv.v, sb.v] := Array.toList_inj.1 ec
  subst ec
  refine new_stR (Fw.Sep.start h4) rfl rfl (by simp [Value.oneCell', Sl.v]) fun p1 h5 S => ?_
  have S2 := S.rowNil (E := rVar.fl h4)
  refine bld_rule S2 (by kernel_rfl) rfl rfl (by decide) (by decide) fun s h6 S => ?_
  refine ld_lst (fld_fParams.rd hp) (o4.trans S.old).ext fun x1 hx1 => ?_
  have hx1 := hx1.old o4
  refine app_copy S (RV.fl_flat _ _) (RV.el_fl hx1 S.old.ext) (by simp only [si_Lapi_Var, List.length_nil]; omega) (by simp; omega) fun s1 h7 S => ?_
  refine ⟨#[.string n, .string nInt], by kernel_rfl, ?_⟩
  refine app1_flat (x := ⟨n, nInt⟩) S (fun h => ⟨rv_var, rfl⟩) rfl (by decide) (by simp only [si_Lapi_Var, List.nil_append]; omega) (by simp; omega) fun s3 h9 S => ?_
  refine st_rawB (i := 2) S.swap (by simp) rfl fun h10 S => ?_
  refine ld_rawAgg S rfl ?_
  have hg : rFunc.rv h10 [.string f.name, .string f.result, s3.v, sv.v, sb.v] (moreF f n) := rv_func.2 ⟨s3, sv, sb, rfl, RV.fl_el S.swap.rd S.old.ext, r5.ext S.old.ext, r6.ext S.old.ext⟩
  refine (asgRight_calls hg (asg_more A hcnt hn) F.right.names (F.us hb)).mono ?_
  rintro v h11 ⟨t, rfl, ht, o11⟩
  have : t = true := ht.2 (right_more hRA)
  subst this
  exact ⟨true, rfl, rfl, o1.trans (o4.trans (S.old.trans o11))⟩

end Go.Proofs.Ytojdbliehgejbaa
