/-
  Contracts over functions of the program's data, further: ends, what can be come to, the graph.
-/
import Derived.Test.YtgdfpdfkghmdpaaFnFunc
import Derived.Test.YtgdfpdfkghmdpaaPlShape
namespace Go.Proofs.Ytgdfpdfkghmdpaa
open Go.Fw Go.Pl Go.Pl.Api

theorem place_as {f : MFunc} {t : ByteArray} {K : Int → Bool → Prop} (hs : ∀ k : Nat, place f t = some k → K k true) (hn : place f t = none → K 0 false) : as2 (.int .i64) .bool (placeV f t) K := by
  unfold placeV
  cases hp : place f t with
  | some k => exact ⟨(k : Int), true, rfl, hs k hp⟩
  | none => exact ⟨0, false, rfl, hn hp⟩

theorem to_rd {h : Heap} {q : Addr} {b : MBlock} (hq : rBlock.el.rd h q b) : rStr.sl.el.rd h ((q.add 3).add 4) b.term.to :=
  el_two hq.1 ((Fld.trans fld_term fld_to rfl).rd hq)

theorem refLeads_calls {h : Heap} {cs : Array Value} {f : MFunc} (hf : rFunc.rv h cs.toList f) {a : Nat} (ha : a < f.blocks.length) (b : Int) :
    ACalls Try.prog F_lateenref08_Leads [.agg cs, .int .i64 a, .int .i64 b] h (fun v h' => v = .bool (leadsF f a b) ∧ Old h h') := by
  refine lateenref08_Leads_of ?_
  unfold lateenref08_Leads
  refine new_rv hf fun p h1 o1 hp => ?_
  have hb := fld_blocks.rd hp
  refine loop_intro (fun m t h' => ∃ j : Nat, t = j ∧ j ≤ f.blocks[a].term.to.length ∧ m = f.blocks[a].term.to.length - j ∧ Old h1 h' ∧ ∀ i (hi : i < j) (hl : i < f.blocks[a].term.to.length), (match place f f.blocks[a].term.to[i] with | some k => (k : Int) == b | none => false) = false) f.blocks[a].term.to.length
    ⟨0, rfl, by omega, by omega, .refl _, fun i hi => by omega⟩ ?_
  rintro m _ t h2 ⟨j, rfl, hj, rfl, o2, hno⟩
  refine ld_lst hb o2.ext fun x hx => ?_
  refine idx_rdN hx rfl ha fun q _ hq => ?_
  refine ld_lst (to_rd hq) o2.ext fun x1 hx1 => ?_
  have hx1l := hx1.lenEq
  have hx1b := hx1.bound
  refine ifB_intro (fun hc => ?_) (fun hc => ?_)
  · have hjl : j < f.blocks[a].term.to.length := by rw [hx1l] at hc; simpa using hc
    refine ld_agg hp o2.ext rfl fun cs2 hcs2 => ?_
    refine ld_lst hb o2.ext fun x3 hx3 => ?_
    refine idx_rdN hx3 rfl ha fun q2 _ hq2 => ?_
    refine ld_lst (to_rd hq2) o2.ext fun x4 hx4 => ?_
    refine idx_rdN hx4 rfl hjl fun q3 _ hq3 => ?_
    refine ld_str hq3 o2.ext ?_
    refine (refPlace_calls (rFunc.ext hcs2 o2.ext) _).mono ?_
    rintro v h3 ⟨rfl, o3⟩
    refine place_as (fun k hk => ?_) (fun hk => ?_)
    · refine ⟨o3.ext, ?_⟩
      intro kk hkk
      refine ifB_true rfl ?_
      refine hkk _ _ fun _ => ?_
      refine ifB_intro (fun hkb => ⟨?_, (o1.trans o2).trans o3⟩) (fun hkb => ?_)
      · unfold leadsF
        rw [List.getElem?_eq_getElem ha]
        simp only [Option.map_some, Option.getD_some]
        symm
        congr 1
        rw [List.any_eq_true]
        exact ⟨_, List.getElem_mem hjl, by rw [hk]; exact hkb⟩
      · refine ar_i64 (by omega) (by omega) ⟨f.blocks[a].term.to.length - (j + 1), by omega, j + 1, rfl, by omega, rfl, o2.trans o3, fun i hi hl => ?_⟩
        by_cases e : i = j
        · subst e; rw [hk]; exact hkb
        · exact hno i (by omega) hl
    · refine ⟨o3.ext, ?_⟩
      intro kk hkk
      refine ifB_false rfl ?_
      refine hkk _ _ fun _ => ?_
      refine ifB_false rfl ?_
      refine ar_i64 (by omega) (by omega) ⟨f.blocks[a].term.to.length - (j + 1), by omega, j + 1, rfl, by omega, rfl, o2.trans o3, fun i hi hl => ?_⟩
      by_cases e : i = j
      · subst e; rw [hk]
      · exact hno i (by omega) hl
  · have hjl : f.blocks[a].term.to.length ≤ j := by rw [hx1l] at hc; simpa using hc
    refine ⟨?_, o1.trans o2⟩
    unfold leadsF
    rw [List.getElem?_eq_getElem ha]
    simp only [Option.map_some, Option.getD_some]
    symm
    congr 1
    rw [List.any_eq_false]
    intro t ht
    obtain ⟨i, hi, rfl⟩ := List.getElem_of_mem ht
    have h2 := hno i (by omega) hi
    exact fun hx => Bool.noConfusion (hx.symm.trans h2)

theorem refCome_calls {h : Heap} {cs : Array Value} {f : MFunc} (hf : rFunc.rv h cs.toList f) (hn : f.blocks.length ≤ 1000) :
    ACalls Try.prog F_lateenref08_Come [.agg cs] h (fun v h' => ∃ s : Sl, v = s.v ∧ Sep h h' [ownSl si_Lbool eBool s (comeOf (graphF f))]) := by
  refine lateenref08_Come_of ?_
  unfold lateenref08_Come
  refine new_rv hf fun p h1 o1 hp => ?_
  have hb := fld_blocks.rd hp
  refine ld_lst hb (hExt.refl _) fun x hx => ?_
  have hxl := hx.lenEq
  refine ⟨rfl, ?_⟩
  refine mk_rule (x := false) (E := eBool) (Sep.start h1) rfl (fun h => own_bool false h) (by omega) (by omega) (by simp only [si_Lbool]; omega) fun s h2 S => ?_
  rw [hxl, Int.toNat_natCast] at S
  have hsl := S.rd.lenEq
  rw [List.length_replicate] at hsl
  have hgl := graphF_len f
  have hrep : ∀ i, (List.replicate f.blocks.length false).getD i false = false := fun i => by
    simp [List.getD_eq_getElem?_getD, List.getElem?_replicate]; split <;> rfl
  refine loop_intro (fun m t h' => ∃ B : List Bool, B.length = f.blocks.length ∧ (t = true → 0 < f.blocks.length) ∧ (∀ k, B.getD k false = true → Rch (graphF f) k) ∧
      (t = false → 0 < f.blocks.length → B.getD 0 false = true ∧ ∀ i k : Nat, B.getD i false = true → k < f.blocks.length → leadsF f i k = true → B.getD k false = true) ∧ m = open' B + (if t then 1 else 0) ∧ Sep h1 h' [ownSl si_Lbool eBool s B]) _
    ⟨_, by simp, fun ht => by rw [hsl] at ht; simpa using ht, (fun k hk => by rw [hrep] at hk; cases hk), (fun ht h0 => by rw [hsl] at ht; have := of_decide_eq_false ht; omega), rfl, S⟩ ?_
  clear S
  rintro m _ t h3 ⟨B, hB, hpos, hsound, hcl, rfl, S⟩
  refine ifB_intro (fun hc => ?_) (fun hc => ⟨s, rfl, (S.since o1).cast ?_⟩)
  case refine_2 =>
    congr 2
    refine come_unique (by omega) fun k hk => ⟨hsound k, fun hr => ?_⟩
    obtain ⟨z0, zc⟩ := hcl hc (by omega)
    induction hr with
    | zero _ => exact z0
    | step hi hl hk2 ih => exact zc _ _ (ih hi.lt) (by omega) (by rw [leadsF_eq]; exact hl)
  subst hc
  have hn0 : 0 < f.blocks.length := hpos rfl
  have h0 : 0 < B.length := by omega
  refine idx_rdN S.rd rfl h0 fun p1 hat _ => ?_
  refine st_flat S (x := true) (own_bool true) hat rfl h0 fun h4 S4 => ?_
  clear S
  have hB2 : (B.set 0 true).length = f.blocks.length := by simpa using hB
  have ho : open' (B.set 0 true) ≤ open' B := open_set_le
  have hs1 : ∀ k, (B.set 0 true).getD k false = true → Rch (graphF f) k := fun k hk => by
    rw [getD_set h0] at hk
    split at hk
    · rename_i e; subst e; exact .zero (by omega)
    · exact hsound k hk
  have hz1 : (B.set 0 true).getD 0 false = true := by rw [getD_set h0]; simp
  generalize hBB : B.set 0 true = B1 at S4 hB2 ho hs1 hz1
  refine loop_intro (fun m t h' => ∃ (i : Nat) (C : List Bool), t.2 = i ∧ i ≤ f.blocks.length ∧ m = f.blocks.length - i ∧ C.length = f.blocks.length ∧ open' C ≤ open' B ∧ (t.1 = true → open' C < open' B) ∧
      (∀ k, C.getD k false = true → Rch (graphF f) k) ∧ C.getD 0 false = true ∧ (t.1 = false → ∀ i' k : Nat, i' < i → C.getD i' false = true → k < f.blocks.length → leadsF f i' k = true → C.getD k false = true) ∧ Sep h1 h' [ownSl si_Lbool eBool s C]) f.blocks.length
    ⟨0, B1, rfl, by omega, by omega, hB2, ho, (fun h => by cases h), hs1, hz1, (fun _ i' k h => by omega), S4⟩ ?_
  clear S4
  rintro m _ ⟨more, i⟩ h5 ⟨i, C, hi0, hi, rfl, hC, hCo, hm, hCs, hC0, hCc, S⟩
  simp only at hi0 hm hCc ⊢
  subst hi0
  refine ifB_intro (fun hc => ?_) (fun hc => ?_)
  · have hil : i < f.blocks.length := by rw [hsl] at hc; simpa using hc
    refine loop_intro (fun m t h' => ∃ (k : Nat) (C : List Bool), t.2 = k ∧ k ≤ f.blocks.length ∧ m = f.blocks.length - k ∧ C.length = f.blocks.length ∧ open' C ≤ open' B ∧ (t.1 = true → open' C < open' B) ∧
        (∀ k, C.getD k false = true → Rch (graphF f) k) ∧ C.getD 0 false = true ∧ (t.1 = false → ∀ i' k : Nat, i' < i → C.getD i' false = true → k < f.blocks.length → leadsF f i' k = true → C.getD k false = true) ∧
        (t.1 = false → ∀ k' : Nat, k' < k → leadsF f i k' = true → C.getD k' false = true) ∧ Sep h1 h' [ownSl si_Lbool eBool s C]) f.blocks.length
      ⟨0, C, rfl, by omega, by omega, hC, hCo, hm, hCs, hC0, hCc, (fun _ k h => by omega), S⟩ ?_
    clear S hm hCo hC hCs hC0 hCc
    rintro m _ ⟨more, k⟩ h6 ⟨k, C, hk0, hk, rfl, hC, hCo, hm, hCs, hC0, hCc, hCi, S⟩
    simp only at hk0 hm hCc hCi ⊢
    subst hk0
    intro k1 hk1
    have out : (C.getD i false = true → f.blocks.length ≤ k) → k1 false h6 := fun hdone => hk1 _ _ fun _ => ifB_false rfl (ar_i64 (by omega) (by omega) ⟨f.blocks.length - (i + 1), by omega, i + 1, C, rfl, by omega, rfl, hC, hCo, hm, hCs, hC0, fun hmore i' k' hi' hci hk' hl => by
      by_cases e : i' = i
      · subst e; exact hCi hmore k' (by have := hdone hci; omega) hl
      · exact hCc hmore i' k' (by omega) hci hk' hl, S⟩)
    refine ifB_intro (fun hc => ?_) (fun hc => out fun _ => by rw [hsl] at hc; simpa using hc)
    have hkl : k < f.blocks.length := by rw [hsl] at hc; simpa using hc
    have hiC : i < C.length := by omega
    refine idx_rdN S.rd rfl hiC fun p4 _ hp4 => ld_one hp4 ?_
    cases hCii : C[i] with
    | false => exact out fun h => by rw [getD_lt hiC, hCii] at h; cases h
    | true =>
      have hri : Rch (graphF f) i := hCs i (by rw [getD_lt hiC]; exact hCii)
      refine hk1 _ _ fun _ => ifB_true rfl ?_
      intro k2 hk2
      have nxt : ∀ (more' : Bool) h' (C' : List Bool), C'.length = f.blocks.length → open' C' ≤ open' B → (more' = true → open' C' < open' B) → (∀ k, C'.getD k false = true → Rch (graphF f) k) → C'.getD 0 false = true →
          (more' = false → ∀ i' k : Nat, i' < i → C'.getD i' false = true → k < f.blocks.length → leadsF f i' k = true → C'.getD k false = true) →
          (more' = false → ∀ k' : Nat, k' < k + 1 → leadsF f i k' = true → C'.getD k' false = true) → Sep h1 h' [ownSl si_Lbool eBool s C'] → k2 more' h' := fun more' h' C' q1 q2 q3 q4 q5 q6 q7 q8 =>
        hk2 _ _ fun _ => ar_i64 (by omega) (by omega) ⟨f.blocks.length - (k + 1), by omega, k + 1, C', rfl, by omega, rfl, q1, q2, q3, q4, q5, q6, q7, q8⟩
      intro k3 hk3
      have hkC : k < C.length := by omega
      have skip : ∀ h', (leadsF f i k = true → C.getD k false = true) → Sep h1 h' [ownSl si_Lbool eBool s C] → k3 false h' := fun h' hno S' => hk3 _ _ fun _ => ifB_false rfl (nxt more h' C hC hCo hm hCs hC0 hCc (fun hmore k' hk' hl => by
        by_cases e : k' = k
        · subst e; exact hno hl
        · exact hCi hmore k' (by omega) hl) S')
      refine idx_rdN S.rd rfl hkC fun p3 _ hp3 => ld_one hp3 ?_
      refine ifB_intro (fun hno => ?_) (fun hyes => skip _ (fun _ => by rw [getD_lt hkC]; simpa using hyes) S)
      have hfalse : C[k] = false := by simpa using hno
      refine ld_agg hp S.old.ext rfl fun cs2 hcs2 => ?_
      refine (refLeads_calls (rFunc.ext hcs2 S.old.ext) hil (k : Int)).mono ?_
      rintro v h7 ⟨rfl, o7⟩
      refine ⟨_, rfl, ?_⟩
      cases hlk : leadsF f i k with
      | false => exact skip _ (fun h => by rw [hlk] at h; cases h) (S.grow o7)
      | true =>
        refine hk3 _ _ fun _ => ifB_true rfl ?_
        have S7 := S.grow o7
        refine idx_rdN S7.rd rfl hkC fun p2 hat2 _ => ?_
        refine st_flat S7 (x := true) (own_bool true) hat2 rfl hkC fun h8 S8 => ?_
        have hcs := count_set hkC hfalse
        refine nxt true h8 _ (by simpa using hC) (by omega) (fun _ => by omega) (fun z hz => ?_) ?_ (fun h => by cases h) (fun h => by cases h) S8
        · rw [getD_set hkC] at hz
          split at hz
          · rename_i e; subst e; exact .step hri (by rw [← leadsF_eq]; exact hlk) (by omega)
          · exact hCs z hz
        · rw [getD_set hkC]; split
          · rfl
          · exact hC0
  · have hie : f.blocks.length ≤ i := by rw [hsl] at hc; simpa using hc
    refine ⟨open' C + (if more then 1 else 0), ?_, C, hC, fun _ => hpos rfl, hCs, fun hmore _ => ⟨hC0, fun i' k hci hk hl => ?_⟩, rfl, S⟩
    · cases more with
      | true => have := hm rfl; simp; omega
      | false => simp; omega
    · have : i' < f.blocks.length := by have := (hCs i' hci).lt; omega
      exact hCc hmore i' k (by omega) hci hk hl

end Go.Proofs.Ytgdfpdfkghmdpaa
