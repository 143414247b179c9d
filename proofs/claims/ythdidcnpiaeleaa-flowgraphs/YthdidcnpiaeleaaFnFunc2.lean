/-
  Contracts over functions of the program's data, further: ends, what can be come to, the graph.
-/
import Derived.Test.YthdidcnpiaeleaaFnFunc
namespace Go.Proofs.Ythdidcnpiaeleaa
open Go.Fw Go.Pl Go.Pl.Api

def leadsF (f : MFunc) (a : Nat) (b : Int) : Bool := ((f.blocks[a]?).map fun x => x.term.to.any fun t => match place f t with
  | some k => (k : Int) == b
  | none => false).getD false

theorem place_as {f : MFunc} {t : ByteArray} {K : Int → Bool → Prop} (hs : ∀ k : Nat, place f t = some k → K k true) (hn : place f t = none → K 0 false) : as2 (.int .i64) .bool (placeV f t) K := by
  unfold placeV
  cases hp : place f t with
  | some k => exact ⟨(k : Int), true, rfl, hs k hp⟩
  | none => exact ⟨0, false, rfl, hn hp⟩

theorem to_rd {h : Heap} {q : Addr} {b : MBlock} (hq : rBlock.el.rd h q b) : rStr.sl.el.rd h ((q.add 3).add 4) b.term.to :=
  el_two hq.1 ((Fld.trans fld_term fld_to rfl).rd hq)

theorem refLeads_calls {h : Heap} {cs : Array Value} {f : MFunc} (hf : rFunc.rv h cs.toList f) {a : Nat} (ha : a < f.blocks.length) (b : Int) :
    ACalls Try.prog F_lateenref08_Leads [.agg cs, .int .i64 a, .int .i64 b] h (fun v h' => v = .bool (leadsF f a b) ∧ Old h h') := by
  refine lateenref08_Leads_of ?_
  unfold lateenref08_Leads
  refine new_rv hf fun p h1 o1 hp => ?_
  have hb := fld_blocks.rd hp
  refine loop_intro (fun m t h' => ∃ j : Nat, t = j ∧ j ≤ f.blocks[a].term.to.length ∧ m = f.blocks[a].term.to.length - j ∧ Old h1 h' ∧ ∀ i (hi : i < j) (hl : i < f.blocks[a].term.to.length), (match place f f.blocks[a].term.to[i] with | some k => (k : Int) == b | none => false) = false) f.blocks[a].term.to.length
    ⟨0, rfl, by omega, by omega, .refl _, fun i hi => by omega⟩ ?_
  rintro m _ t h2 ⟨j, rfl, hj, rfl, o2, hno⟩
  refine ld_lst hb o2.ext fun x hx => ?_
  refine idx_rdN hx rfl ha fun q _ hq => ?_
  refine ld_lst (to_rd hq) o2.ext fun x1 hx1 => ?_
  have hx1l := hx1.lenEq
  have hx1b := hx1.bound
  refine ifB_intro (fun hc => ?_) (fun hc => ?_)
  · have hjl : j < f.blocks[a].term.to.length := by rw [hx1l] at hc; simpa using hc
    refine ld_agg hp o2.ext rfl fun cs2 hcs2 => ?_
    refine ld_lst hb o2.ext fun x3 hx3 => ?_
    refine idx_rdN hx3 rfl ha fun q2 _ hq2 => ?_
    refine ld_lst (to_rd hq2) o2.ext fun x4 hx4 => ?_
    refine idx_rdN hx4 rfl hjl fun q3 _ hq3 => ?_
    refine ld_str hq3 o2.ext ?_
    refine (refPlace_calls (rFunc.ext hcs2 o2.ext) _).mono ?_
    rintro v h3 ⟨rfl, o3⟩
    refine place_as (fun k hk => ?_) (fun hk => ?_)
    · refine ⟨o3.ext, ?_⟩
      intro kk hkk
      refine ifB_true rfl ?_
      refine hkk _ _ fun _ => ?_
      refine ifB_intro (fun hkb => ⟨?_, (o1.trans o2).trans o3⟩) (fun hkb => ?_)
      · unfold leadsF
        rw [List.getElem?_eq_getElem ha]
        simp only [Option.map_some, Option.getD_some]
        symm
        congr 1
        rw [List.any_eq_true]
        exact ⟨_, List.getElem_mem hjl, by rw [hk]; exact hkb⟩
      · refine ar_i64 (by omega) (by omega) ⟨f.blocks[a].term.to.length - (j + 1), by omega, j + 1, rfl, by omega, rfl, o2.trans o3, fun i hi hl => ?_⟩
        by_cases e : i = j
        · subst e; rw [hk]; exact hkb
        · exact hno i (by omega) hl
    · refine ⟨o3.ext, ?_⟩
      intro kk hkk
      refine ifB_false rfl ?_
      refine hkk _ _ fun _ => ?_
      refine ifB_false rfl ?_
      refine ar_i64 (by omega) (by omega) ⟨f.blocks[a].term.to.length - (j + 1), by omega, j + 1, rfl, by omega, rfl, o2.trans o3, fun i hi hl => ?_⟩
      by_cases e : i = j
      · subst e; rw [hk]
      · exact hno i (by omega) hl
  · have hjl : f.blocks[a].term.to.length ≤ j := by rw [hx1l] at hc; simpa using hc
    refine ⟨?_, o1.trans o2⟩
    unfold leadsF
    rw [List.getElem?_eq_getElem ha]
    simp only [Option.map_some, Option.getD_some]
    symm
    congr 1
    rw [List.any_eq_false]
    intro t ht
    obtain ⟨i, hi, rfl⟩ := List.getElem_of_mem ht
    rw [hno i (by omega) hi]
    simp

theorem refCome_weak {h : Heap} {cs : Array Value} {f : MFunc} (hf : rFunc.rv h cs.toList f) (hn : f.blocks.length ≤ 1000) :
    ACalls Try.prog F_lateenref08_Come [.agg cs] h (fun v h' => ∃ (s : Sl) (B : List Bool), v = s.v ∧ B.length = f.blocks.length ∧ Sep h h' [ownSl si_Lbool eBool s B]) := by
  refine lateenref08_Come_of ?_
  unfold lateenref08_Come
  refine new_rv hf fun p h1 o1 hp => ?_
  have hb := fld_blocks.rd hp
  refine ld_lst hb (hExt.refl _) fun x hx => ?_
  have hxl := hx.lenEq
  refine ⟨rfl, ?_⟩
  refine mk_rule (x := false) (E := eBool) (Sep.start h1) rfl (fun h => own_bool false h) (by omega) (by omega) (by simp only [si_Lbool]; omega) fun s h2 S => ?_
  rw [hxl, Int.toNat_natCast] at S
  have hsl := S.rd.lenEq
  rw [List.length_replicate] at hsl
  refine loop_intro (fun m t h' => ∃ B : List Bool, B.length = f.blocks.length ∧ (t = true → 0 < f.blocks.length) ∧ m = open' B + (if t then 1 else 0) ∧ Sep h1 h' [ownSl si_Lbool eBool s B]) _
    ⟨_, by simp, fun ht => by rw [hsl] at ht; simpa using ht, rfl, S⟩ ?_
  clear S
  rintro m _ t h3 ⟨B, hB, hpos, rfl, S⟩
  refine ifB_intro (fun hc => ?_) (fun hc => ⟨s, B, rfl, hB, S.since o1⟩)
  subst hc
  have h0 : 0 < B.length := by rw [hB]; exact hpos rfl
  refine idx_rdN S.rd rfl h0 fun p1 hat _ => ?_
  refine st_flat S (x := true) (own_bool true) hat rfl h0 fun h4 S4 => ?_
  clear S
  have hB2 : (B.set 0 true).length = f.blocks.length := by simpa using hB
  have ho : open' (B.set 0 true) ≤ open' B := open_set_le
  generalize hBB : B.set 0 true = B1 at S4 hB2 ho
  refine loop_intro (fun m t h' => ∃ (i : Nat) (C : List Bool), t.2 = i ∧ i ≤ f.blocks.length ∧ m = f.blocks.length - i ∧ C.length = f.blocks.length ∧ open' C ≤ open' B ∧ (t.1 = true → open' C < open' B) ∧ Sep h1 h' [ownSl si_Lbool eBool s C]) f.blocks.length
    ⟨0, B1, rfl, by omega, by omega, hB2, ho, (fun h => by cases h), S4⟩ ?_
  clear S4
  rintro m _ ⟨more, i⟩ h5 ⟨i, C, hi0, hi, rfl, hC, hCo, hm, S⟩
  simp only at hi0 hm ⊢
  subst hi0
  refine ifB_intro (fun hc => ?_) (fun hc => ?_)
  · have hil : i < f.blocks.length := by rw [hsl] at hc; simpa using hc
    refine loop_intro (fun m t h' => ∃ (k : Nat) (C : List Bool), t.2 = k ∧ k ≤ f.blocks.length ∧ m = f.blocks.length - k ∧ C.length = f.blocks.length ∧ open' C ≤ open' B ∧ (t.1 = true → open' C < open' B) ∧ Sep h1 h' [ownSl si_Lbool eBool s C]) f.blocks.length
      ⟨0, C, rfl, by omega, by omega, hC, hCo, hm, S⟩ ?_
    clear S hm hCo hC
    rintro m _ ⟨more, k⟩ h6 ⟨k, C, hk0, hk, rfl, hC, hCo, hm, S⟩
    simp only at hk0 hm ⊢
    subst hk0
    intro k1 hk1
    have out : k1 false h6 := hk1 _ _ fun _ => ifB_false rfl (ar_i64 (by omega) (by omega) ⟨f.blocks.length - (i + 1), by omega, i + 1, C, rfl, by omega, rfl, hC, hCo, hm, S⟩)
    refine ifB_intro (fun hc => ?_) (fun _ => out)
    have hkl : k < f.blocks.length := by rw [hsl] at hc; simpa using hc
    refine idx_rdN S.rd rfl (show i < C.length by omega) fun p4 _ hp4 => ld_one hp4 ?_
    cases C[i] with
    | false => exact out
    | true =>
      refine hk1 _ _ fun _ => ifB_true rfl ?_
      intro k2 hk2
      have nxt : ∀ (more' : Bool) h' (C' : List Bool), C'.length = f.blocks.length → open' C' ≤ open' B → (more' = true → open' C' < open' B) → Sep h1 h' [ownSl si_Lbool eBool s C'] → k2 more' h' := fun more' h' C' q1 q2 q3 q4 =>
        hk2 _ _ fun _ => ar_i64 (by omega) (by omega) ⟨f.blocks.length - (k + 1), by omega, k + 1, C', rfl, by omega, rfl, q1, q2, q3, q4⟩
      intro k3 hk3
      have hkC : k < C.length := by omega
      have skip : ∀ h', Sep h1 h' [ownSl si_Lbool eBool s C] → k3 false h' := fun h' S' => hk3 _ _ fun _ => ifB_false rfl (nxt more h' C hC hCo hm S')
      refine idx_rdN S.rd rfl hkC fun p3 _ hp3 => ld_one hp3 ?_
      refine ifB_intro (fun hno => ?_) (fun _ => skip _ S)
      have hfalse : C[k] = false := by simpa using hno
      refine ld_agg hp S.old.ext rfl fun cs2 hcs2 => ?_
      refine (refLeads_calls (rFunc.ext hcs2 S.old.ext) hil (k : Int)).mono ?_
      rintro v h7 ⟨rfl, o7⟩
      refine ⟨_, rfl, ?_⟩
      cases leadsF f i k with
      | false => exact skip _ (S.grow o7)
      | true =>
        refine hk3 _ _ fun _ => ifB_true rfl ?_
        have S7 := S.grow o7
        refine idx_rdN S7.rd rfl hkC fun p2 hat2 _ => ?_
        refine st_flat S7 (x := true) (own_bool true) hat2 rfl hkC fun h8 S8 => ?_
        have hcs := count_set hkC hfalse
        exact nxt true h8 _ (by simpa using hC) (by omega) (fun _ => by omega) S8
  · refine ⟨open' C + (if more then 1 else 0), ?_, C, hC, fun _ => hpos rfl, rfl, S⟩
    cases more with
    | true => have := hm rfl; simp; omega
    | false => simp; omega

end Go.Proofs.Ythdidcnpiaeleaa
