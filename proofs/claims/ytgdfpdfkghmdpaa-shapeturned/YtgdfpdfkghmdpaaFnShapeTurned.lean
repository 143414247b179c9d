/-
  ShapeTurned: in which order the blocks behind the first one stand means nothing; the walk.
-/
import Derived.Test.YtgdfpdfkghmdpaaFnShapeLess
namespace Go.Proofs.Ytgdfpdfkghmdpaa
open Go.Fw Go.Pl Go.Pl.Api

/-! Plain -/
structure Turned (a b : List MBlock) : Prop where
  perm : b.Perm a
  head : b.head? = a.head?
theorem Turned.symm {a b : List MBlock} (t : Turned a b) : Turned b a := ⟨t.perm.symm, t.head.symm⟩
theorem head_set {l : List MBlock} {i : Nat} {x : MBlock} (h : 0 < i) : (l.set i x).head? = l.head? := by
  cases l with
  | nil => rfl
  | cons a l =>
    cases i with
    | zero => omega
    | succ i => rfl
theorem Turned.swap {a b : List MBlock} (t : Turned a b) {i j : Nat} (hi : i < b.length) (hj : j < b.length) (h0 : 0 < i) (h1 : 0 < j) : Turned a ((b.set i b[j]).set j b[i]) :=
  ⟨(List.set_set_perm hi hj).trans t.perm, by rw [head_set h1, head_set h0]; exact t.head⟩

inductive NR (bs : List MBlock) : ByteArray → Prop where
  | zero {b : MBlock} (h : bs.head? = some b) : NR bs b.name
  | step {b c : MBlock} (hb : b ∈ bs) (h : NR bs b.name) (hc : c ∈ bs) (ht : c.name ∈ b.term.to) : NR bs c.name
theorem NR.turned {a b : List MBlock} (t : Turned a b) {n : ByteArray} (h : NR a n) : NR b n := by
  induction h with
  | zero h => exact .zero (t.head.trans h)
  | step hb _ hc ht ih => exact .step (t.perm.mem_iff.2 hb) ih (t.perm.mem_iff.2 hc) ht
structure RN (bs : List MBlock) : Prop where
  pos : 0 < bs.length
  names : (bs.map fun b => b.name).Nodup
  ends : ∀ b ∈ bs, (∀ t ∈ b.term.to, (∃ c ∈ bs, c.name = t) ∧ ∀ c, bs.head? = some c → c.name ≠ t) ∧ b.term.to.Pairwise (· ≠ ·)
  come : ∀ b ∈ bs, NR bs b.name
theorem RN.turned {a b : List MBlock} (t : Turned a b) (r : RN a) : RN b where
  pos := by rw [t.perm.length_eq]; exact r.pos
  names := (t.perm.map _).nodup_iff.2 r.names
  ends x hx := by
    obtain ⟨h1, h2⟩ := r.ends x (t.perm.mem_iff.1 hx)
    refine ⟨fun u hu => ?_, h2⟩
    obtain ⟨⟨c, hc, e⟩, h3⟩ := h1 u hu
    exact ⟨⟨c, t.perm.mem_iff.2 hc, e⟩, fun c hc => h3 c (t.head.symm.trans hc)⟩
  come x hx := (r.come x (t.perm.mem_iff.1 hx)).turned t
theorem head_at {bs : List MBlock} (h : 0 < bs.length) : bs.head? = some bs[0] := by
  cases bs with
  | nil => simp at h
  | cons a l => rfl
theorem rn_inj {bs : List MBlock} (h : (bs.map fun b => b.name).Nodup) {i j : Nat} (hi : i < bs.length) (hj : j < bs.length) (e : bs[i].name = bs[j].name) : i = j := by
  have h := List.pairwise_iff_getElem.1 h
  rcases Nat.lt_trichotomy i j with hlt | he | hgt
  · have := h i j (by simpa using hi) (by simpa using hj) hlt
    simp only [List.getElem_map] at this
    exact absurd e this
  · exact he
  · have := h j i (by simpa using hj) (by simpa using hi) hgt
    simp only [List.getElem_map] at this
    exact absurd e.symm this
theorem right_rn {f : MFunc} : RightP f ↔ RN f.blocks := by
  constructor
  · intro r
    refine ⟨r.pos, ?_, ?_, ?_⟩
    · refine List.pairwise_iff_getElem.2 fun i j hi hj hlt e => ?_
      simp only [List.getElem_map] at e
      have := right_inj r (by simpa using hi) (by simpa using hj) e
      omega
    · intro b hb
      obtain ⟨i, hi, rfl⟩ := List.getElem_of_mem hb
      refine ⟨fun t ht => ?_, (r.ends i hi).2⟩
      obtain ⟨k, hk, hk0⟩ := (r.ends i hi).1 t ht
      obtain ⟨hkl, hn⟩ := place_name hk
      refine ⟨⟨_, List.getElem_mem hkl, hn⟩, fun c hc e => ?_⟩
      rw [head_at r.pos] at hc
      injection hc with hc
      subst hc
      rw [← e, r.names 0 r.pos] at hk
      injection hk with hk
      exact hk0 hk.symm
    · intro b hb
      obtain ⟨i, hi, rfl⟩ := List.getElem_of_mem hb
      have key : ∀ k, Rch (graphF f) k → ∀ hk : k < f.blocks.length, NR f.blocks f.blocks[k].name := by
        intro k h
        induction h with
        | zero _ => exact fun hk => .zero (head_at hk)
        | @step i k hi hl hk ih =>
          intro hkl
          have hil : i < f.blocks.length := by have := hi.lt; rwa [graphF_len] at this
          rw [← leadsF_eq] at hl
          exact .step (List.getElem_mem hil) (ih hil) (List.getElem_mem hkl) ((leads_iff r hil hkl).1 hl)
      refine key i ?_ hi
      have hcl := come_len (graphF f)
      rw [graphF_len] at hcl
      have hic : i < (comeOf (graphF f)).length := by omega
      refine (come_reach (by rw [graphF_len]; exact r.pos) i).1 ?_
      rw [getD_lt hic]
      exact r.come _ (List.getElem_mem hic)
  · intro r
    have names : ∀ i (hi : i < f.blocks.length), place f f.blocks[i].name = some i := fun i hi => by
      obtain ⟨k, hk, _⟩ := place_self hi
      obtain ⟨hkl, hn⟩ := place_name hk
      rw [hk, rn_inj r.names hkl hi hn]
    refine ⟨r.pos, names, fun i hi => ?_, ?_⟩
    · obtain ⟨h1, h2⟩ := r.ends _ (List.getElem_mem hi)
      refine ⟨fun t ht => ?_, h2⟩
      obtain ⟨⟨c, hc, e⟩, h3⟩ := h1 t ht
      obtain ⟨j, hj, rfl⟩ := List.getElem_of_mem hc
      refine ⟨j, by rw [← e]; exact names j hj, fun h0 => ?_⟩
      subst h0
      exact h3 _ (head_at hj) e
    · intro b hb
      obtain ⟨i, hi, rfl⟩ := List.getElem_of_mem hb
      have hcl := come_len (graphF f)
      rw [graphF_len] at hcl
      have hil : i < f.blocks.length := by omega
      have key : ∀ n, NR f.blocks n → ∃ i, ∃ hi : i < f.blocks.length, f.blocks[i].name = n ∧ Rch (graphF f) i := by
        intro n h
        induction h with
        | zero h =>
          rw [head_at r.pos] at h
          injection h with h
          subst h
          exact ⟨0, r.pos, rfl, .zero (by rw [graphF_len]; exact r.pos)⟩
        | @step b c hb _ hc ht ih =>
          obtain ⟨i, hi, e, hr⟩ := ih
          obtain ⟨j, hj, rfl⟩ := List.getElem_of_mem hb
          have := rn_inj r.names hi hj e
          subst this
          obtain ⟨k, hk, rfl⟩ := List.getElem_of_mem hc
          refine ⟨k, hk, rfl, .step hr ?_ (by rw [graphF_len]; exact hk)⟩
          rw [← leadsF_eq]
          unfold leadsF
          rw [List.getElem?_eq_getElem hi]
          simp only [Option.map_some, Option.getD_some, List.any_eq_true]
          exact ⟨_, ht, by rw [names k hk]; simp⟩
      obtain ⟨j, hj, e, hr⟩ := key _ (r.come _ (List.getElem_mem hil))
      have := rn_inj r.names hj hil e
      subst this
      have := (come_reach (by rw [graphF_len]; exact r.pos) j).2 hr
      rwa [getD_lt hi] at this
theorem turned_right {f : MFunc} {bs : List MBlock} (t : Turned f.blocks bs) : rightB (withB f bs) = rightB f := by
  rw [Bool.eq_iff_iff, rightB_iff, rightB_iff, right_rn, right_rn]
  exact ⟨fun r => r.turned t.symm, fun r => r.turned t⟩

def PN (bs : List MBlock) : Prop := (∀ c, bs.head? = some c → c.phis = []) ∧ ∀ b ∈ bs, ∀ x ∈ b.phis, PhiP x (bs.flatMap fun c => whoE c.name c.term.to b.name)
theorem PN.turned {a b : List MBlock} (t : Turned a b) (p : PN a) : PN b := by
  refine ⟨fun c hc => p.1 c (t.head.symm.trans hc), fun y hy x hx => ?_⟩
  have h := p.2 y (t.perm.mem_iff.1 hy) x hx
  have hp := t.perm.flatMap_right fun c => whoE c.name c.term.to y.name
  exact ⟨by rw [hp.length_eq]; exact h.len, fun i hi => hp.mem_iff.2 (h.mem i hi), h.dis⟩
theorem phis_pn {f : MFunc} (h0 : 0 < f.blocks.length) : PhisP f ↔ PN f.blocks := by
  unfold PhisP PN
  have hw : ∀ k, whoT f f.blocks.length k = f.blocks.flatMap fun c => whoE c.name c.term.to k := fun k => by
    unfold whoT
    rw [List.take_length]
  constructor
  · intro h
    refine ⟨fun c hc => ?_, fun b hb x hx => ?_⟩
    · rw [head_at h0] at hc
      injection hc with hc
      subst hc
      exact (h 0 h0).1 rfl
    · obtain ⟨i, hi, rfl⟩ := List.getElem_of_mem hb
      rw [← hw]
      exact (h i hi).2 x hx
  · rintro ⟨h1, h2⟩ i hi
    refine ⟨fun e => ?_, fun x hx => ?_⟩
    · subst e
      exact h1 _ (head_at h0)
    · rw [hw]
      exact h2 _ (List.getElem_mem hi) x hx
theorem turned_phis {f : MFunc} {bs : List MBlock} (h0 : 0 < f.blocks.length) (t : Turned f.blocks bs) : PhisP (withB f bs) ↔ PhisP f := by
  rw [phis_pn h0, phis_pn (f := withB f bs) (by show 0 < bs.length; rw [t.perm.length_eq]; exact h0)]
  exact ⟨fun r => r.turned t.symm, fun r => r.turned t⟩

/-! The walk -/
theorem ld_fl {α : Type} {E : RV α} {hb h : Heap} {p : Addr} {n : Nat} {x : α} {K : Array Value → Prop} (r : (E.fl hb).rd h p x) (hn : n = E.size) (hK : ∀ cs : Array Value, E.rv hb cs.toList x → K cs) : ld (.agg n) h p K := by
  obtain ⟨hs, cs, hc, hx⟩ := r
  exact ⟨cs.toArray, ⟨by simp [E.len hx, hn], fun j v hj => hc j v (by simpa using hj)⟩, hK _ (by simpa using hx)⟩

set_option maxHeartbeats 1000000 in
theorem shapeTurned_calls {h : Heap} {cs : Array Value} {f : MFunc} (hf : rFunc.rv h cs.toList f) {o : Sl} {O : List Int} (ho : rdSl eInt h o O) :
    ACalls Try.prog F_lateenlaw08_ShapeTurned [.agg cs, o.v] h (fun v h' => v = .bool true ∧ Old h h') := by
  refine lateenlaw08_ShapeTurned_of ?_
  unfold lateenlaw08_ShapeTurned
  refine new_rv hf fun p h1 o1 hp => ?_
  have hb := fld_blocks.rd hp
  have hol := ho.lenEq
  intro k hk
  refine awake_calls.mono ?_
  rintro v h2 ⟨rfl, o2⟩
  refine ⟨_, rfl, ifB_false rfl ?_⟩
  refine ld_agg hp o2.ext rfl fun cs2 hcs2 => ?_
  refine (refFew_calls (rFunc.ext hcs2 o2.ext)).mono ?_
  rintro v h3 ⟨b, rfl, o3, hfew⟩
  refine ⟨_, rfl, ?_⟩
  have o13 := o2.trans o3
  cases b with
  | false => exact ifB_true rfl (hk _ _ fun _ => ifB_true rfl (awake_end (o1.trans o13)))
  | true =>
    have few := hfew rfl
    have h60 := few.blocks
    refine ifB_false rfl ?_
    refine ld_lst hb o13.ext fun x16 hx16 => ?_
    have hx16l := hx16.lenEq
    refine ifB_intro (fun _ => hk _ _ fun _ => ifB_true rfl (awake_end (o1.trans o13))) (fun hc2 => ?_)
    have h2l : 2 ≤ f.blocks.length := by have := of_decide_eq_false hc2; omega
    refine hk _ _ fun _ => ?_
    refine ifB_intro (fun _ => awake_end (o1.trans o13)) (fun hc200 => ?_)
    have h200 : O.length ≤ 200 := by have := of_decide_eq_false hc200; omega
    clear hk k hc2 hc200 hcs2
    refine ld_agg hp o13.ext rfl fun cs5 hcs5 => ?_
    have hcs5l : cs5.size = 5 := by have h9 := rFunc.len hcs5; exact (by simpa using h9 : cs5.size = rFunc.size).trans rfl
    refine new_stR (Sep.start h3) rfl hcs5l (rFunc.one hcs5) fun p1 h5 S5 => ?_
    refine bld_rule (l := []) (us := []) (S5.rowNil (E := rBlock.fl h3)) (by kernel_rfl) rfl rfl (by decide) (by decide) fun s h6 S6 => ?_
    refine ld_lst hb (o13.trans S6.old).ext fun x1 hx1 => ?_
    refine app_copy S6 (RV.fl_flat _ _) (RV.el_fl (hx1.ext o13.ext) S6.old.ext) (by simp only [si_Lapi_Block, List.length_nil]; omega) (by simp only [List.length_nil]; omega) fun s1 h7 S7 => ?_
    rw [List.nil_append] at S7
    refine st_rawB S7.swap (by omega) rfl fun h8 S8 => ?_
    clear S5 S6 S7
    have o38 := o13.trans S8.old
    refine ld_lst hb o38.ext fun x2 hx2 => ?_
    have hx2l := hx2.lenEq
    refine ar_i64 (by omega) (by omega) ?_
    rw [show (x2.len : Int) - 1 = ((f.blocks.length - 1 : Nat) : Int) from by omega]
    generalize hnn : f.blocks.length - 1 = n
    have hn0 : 0 < n := by omega
    have hu : IntKind.u64.wrap (n : Int) = (n : Int) := by
      simp [IntKind.wrap, IntKind.bits, IntKind.signed]
      omega
    have hi : IntKind.i64.wrap (n : Int) = (n : Int) := (ar_i64 (n := (n : Int)) (K := fun _ => True) (by omega) (by omega) trivial).1
    have ho3 := ho.old (o1.trans o13)
    have S8' := S8.swap
    clear S8
    have hcl : (cs5.setIfInBounds 4 s1.v)[4]? = some s1.v := by simp [hcs5l]
    refine loop_intro (fun m (t : Int) h' => ∃ (i : Nat) (B : List MBlock), t = i ∧ i ≤ O.length ∧ m = O.length - i ∧ Turned f.blocks B ∧ Sep h3 h' [ownSl si_Lapi_Block (rBlock.fl h3) s1 B, rawB p1 (cs5.setIfInBounds 4 s1.v)]) O.length
      ⟨0, _, rfl, by omega, by omega, ⟨.refl _, rfl⟩, S8'⟩ ?_
    clear S8'
    rintro _ _ t h9 ⟨i, B, rfl, hiO, rfl, tn, S⟩
    have hBl := tn.perm.length_eq
    refine ifB_intro (fun hc => ?_) (fun hc => ?_)
    · have hil : i < O.length := by rw [hol] at hc; simpa using hc
      rw [hu, hi]
      refine ⟨by omega, ?_⟩
      rw [show Int.tmod (i : Int) (n : Int) = ((i % n : Nat) : Int) from (Int.ofNat_tmod i n).symm]
      have hm1 := Nat.mod_lt i hn0
      refine ar_i64 (by omega) (by omega) ?_
      rw [show (1 : Int) + ((i % n : Nat) : Int) = ((1 + i % n : Nat) : Int) from by omega]
      generalize ha : 1 + i % n = a
      have haB : a < B.length := by omega
      refine idx_rdN ho3 rfl hil fun p2 _ hp2 => ld_oneB hp2 S.old ?_
      refine ⟨by omega, ?_⟩
      have hw0 : 0 ≤ IntKind.u64.wrap O[i] := by
        simp [IntKind.wrap, IntKind.bits, IntKind.signed]
        omega
      obtain ⟨q, hq⟩ := Int.eq_ofNat_of_zero_le hw0
      rw [hq, show Int.tmod ((q : Nat) : Int) (n : Int) = ((q % n : Nat) : Int) from (Int.ofNat_tmod q n).symm]
      have hm2 := Nat.mod_lt q hn0
      have hi2 : IntKind.i64.wrap ((q % n : Nat) : Int) = ((q % n : Nat) : Int) := (ar_i64 (n := ((q % n : Nat) : Int)) (K := fun _ => True) (by omega) (by omega) trivial).1
      rw [hi2]
      refine ar_i64 (by omega) (by omega) ?_
      rw [show (1 : Int) + ((q % n : Nat) : Int) = ((1 + q % n : Nat) : Int) from by omega]
      generalize hb' : 1 + q % n = b
      have hbB : b < B.length := by omega
      have hR : ∀ {h' : Heap} {B' : List MBlock}, Sep h3 h' [ownSl si_Lapi_Block (rBlock.fl h3) s1 B', rawB p1 (cs5.setIfInBounds 4 s1.v)] → holds h' (p1.add 4) .sl s1 := fun S' => by
        have := (rawB_cell S'.swap).2 4
        rw [hcl] at this
        exact this
      refine ⟨fun h' => holds h' (p1.add 4) .sl s1, hR S, ?_⟩
      refine ld_one (k := .sl) (hR S) ?_
      refine ⟨s1, fun _ h => h, ?_⟩
      refine ld_one (k := .sl) (hR S) ?_
      refine idx_rdN S.rd rfl hbB fun p3 hat3 hp3 => ?_
      refine ld_fl hp3 rfl fun x7 hx7 => ?_
      refine ld_one (k := .sl) (hR S) ?_
      refine idx_rdN S.rd rfl haB fun p4 hat4 hp4 => ?_
      refine ld_fl hp4 rfl fun x9 hx9 => ?_
      refine idx_rdN S.rd rfl haB fun p5 hat5 _ => ?_
      refine ⟨by have h9 := rBlock.len hx7; exact (by simpa using h9 : x7.size = rBlock.size).trans rfl, ?_⟩
      refine st_flat (x := B[b]) S (fun _ => ⟨hx7, rfl⟩) hat5 rfl haB fun h10 S10 => ⟨hR S10, ?_⟩
      refine idx_rdN S10.rd rfl (show b < (B.set a B[b]).length by simpa using hbB) fun p6 hat6 _ => ?_
      refine ⟨by have h9 := rBlock.len hx9; exact (by simpa using h9 : x9.size = rBlock.size).trans rfl, ?_⟩
      refine st_flat (x := B[a]) S10 (fun _ => ⟨hx9, rfl⟩) hat6 rfl (by simpa using hbB) fun h11 S11 => ⟨hR S11, ?_⟩
      exact ar_i64 (by omega) (by omega) ⟨O.length - (i + 1), by omega, i + 1, _, rfl, by omega, rfl, tn.swap haB hbB (by omega) (by omega), S11⟩
    · have oo := o13.trans S.old
      have hs := RV.fl_el S.rd S.old.ext
      have hg := func_set hcs5 oo.ext hs
      refine ld_agg hp oo.ext rfl fun cs10 hcs10 => ?_
      refine (right_calls (rFunc.ext hcs10 oo.ext) (by omega)).mono ?_
      rintro v h12 ⟨rfl, o12⟩
      refine ⟨_, rfl, o12.ext, ?_⟩
      refine ld_rawAgg S.swap (by simp [hcs5l]) ?_
      refine (right_calls (f := withB f B) (rFunc.ext hg o12.ext) (by show B.length ≤ 1000; omega)).mono ?_
      rintro v h13 ⟨rfl, o13'⟩
      refine ⟨_, rfl, o13'.ext, ?_⟩
      rw [turned_right tn]
      refine ifB_false (by simp) ?_
      have S13 := (S.grow o12).grow o13'
      have o913 := o12.trans o13'
      have oo13 := oo.trans o913
      intro k1 hk1
      have fin : ∀ h', Old h13 h' → k1 true h' := fun h' o' => hk1 _ _ fun _ => ⟨rfl, o1.trans (oo13.trans o')⟩
      have hB0 : 0 < f.blocks.length := by omega
      have hrawld : ∀ {K : Array Value → Prop}, K (cs5.setIfInBounds 4 s1.v) → ld (.agg 5) h13 p1 K := fun hK => ld_rawAgg S13.swap (by simp [hcs5l]) hK
      have hph := turned_phis hB0 tn
      -- whether the phis are right
      have key : ∃ b, b = true ↔ PhisP f := by
        by_cases hP : PhisP f
        · exact ⟨true, by simp [hP]⟩
        · exact ⟨false, by simp [hP]⟩
      obtain ⟨pb, hpb⟩ := key
      refine ⟨Old h13, h13, [], fun n _ => if n = 1 then Spec.val (.bool (rightB f)) else Spec.val (.bool pb), .refl _, Sep.start _, ?_⟩
      refine ldF_old (ld_agg hp oo13.ext rfl fun cs12 hcs12 => ?_)
      refine free_val (u := .bool (rightB f)) (fun h' o' => ?_) (fun {h K K'} hK hm => hK.mono ?_) ?_
      · refine (right_calls (rFunc.ext hcs12 (oo13.trans o').ext) (by omega)).mono ?_
        rintro v h17 ⟨rfl, o17⟩
        exact ⟨_, rfl, rfl, o17⟩
      · rintro v h17 ⟨r, e, hK⟩
        exact ⟨r, e, hm _ _ hK⟩
      refine ⟨_, rfl, ?_⟩
      refine ifB_intro (fun _ h18 _ T => fin h18 T.old) (fun _ => ?_)
      refine ldF_old (ld_agg hp oo13.ext rfl fun cs13 hcs13 => ?_)
      refine free_val (u := .bool pb) (fun h' o' => ?_) (fun {h K K'} hK hm => hK.mono ?_) ?_
      · refine (phis_calls (rFunc.ext hcs13 (oo13.trans o').ext) (by omega) few.to).mono ?_
        rintro v h17 ⟨b, rfl, o17, hbp⟩
        have : b = pb := by rw [Bool.eq_iff_iff, hbp, hpb]
        subst this
        exact ⟨_, rfl, rfl, o17⟩
      · rintro v h17 ⟨r, e, hK⟩
        exact ⟨r, e, hm _ _ hK⟩
      refine ⟨_, rfl, ?_⟩
      refine ldF_old (hrawld ?_)
      refine free_val (u := .bool pb) (fun h' o' => ?_) (fun {h K K'} hK hm => hK.mono ?_) ?_
      · refine (phis_calls (f := withB f B) (rFunc.ext hg (o913.trans o').ext) (by show B.length ≤ 1000; omega) (fun b hb => few.to b (tn.perm.mem_iff.1 hb))).mono ?_
        rintro v h17 ⟨b, rfl, o17, hbp⟩
        have : b = pb := by rw [Bool.eq_iff_iff, hbp, hpb, hph]
        subst this
        exact ⟨_, rfl, rfl, o17⟩
      · rintro v h17 ⟨r, e, hK⟩
        exact ⟨r, e, hm _ _ hK⟩
      refine ⟨_, rfl, ?_⟩
      intro h23 _ T
      have : (pb == pb) = true := by simp
      rw [this]
      exact fin h23 T.old

end Go.Proofs.Ytgdfpdfkghmdpaa
