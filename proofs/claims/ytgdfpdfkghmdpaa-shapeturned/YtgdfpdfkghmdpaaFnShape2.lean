/-
  shape.Right, by its parts.
-/
import Derived.Test.YtgdfpdfkghmdpaaFnShape
namespace Go.Proofs.Ytgdfpdfkghmdpaa
open Go.Fw Go.Pl Go.Pl.Api

abbrev vfI : Int → Value := fun n => .int .i64 n
abbrev vfB : Bool → Value := fun b => .bool b

/-- Where a name stands among the first blocks. -/
def placeT (f : MFunc) (t : Nat) (k : ByteArray) : Option Nat := (f.blocks.take t).findIdx? fun b => b.name.toList == k.toList
theorem placeT_all {f : MFunc} {t : Nat} (h : f.blocks.length ≤ t) (k : ByteArray) : placeT f t k = place f k := by unfold placeT place; rw [List.take_of_length_le h]
theorem placeT_succ {f : MFunc} {t : Nat} (h : t < f.blocks.length) (hno : placeT f t f.blocks[t].name = none) (k : ByteArray) : placeT f (t + 1) k = if k = f.blocks[t].name then some t else placeT f t k := by
  unfold placeT at *
  rw [List.take_succ_eq_append_getElem h, List.findIdx?_append]
  split
  · rename_i e
    subst e
    rw [hno]
    simp [List.findIdx?_cons]; omega
  · rename_i e
    have : (f.blocks[t].name.toList == k.toList) = false := by rw [bytes_eq]; exact decide_eq_false fun h => e h.symm
    simp [List.findIdx?_cons, this]
theorem placeT_some {f : MFunc} {t k : Nat} {n : ByteArray} (h : placeT f t n = some k) : k < t ∧ place f n = some k := by
  unfold placeT at h
  obtain ⟨hk, h1, h2⟩ := List.findIdx?_eq_some_iff_getElem.1 h
  rw [List.length_take] at hk
  refine ⟨by omega, ?_⟩
  unfold place
  rw [List.findIdx?_eq_some_iff_getElem]
  refine ⟨by omega, by rw [List.getElem_take] at h1; exact h1, fun j hj => ?_⟩
  have := h2 j hj
  rw [List.getElem_take] at this
  exact this
theorem placeT_none {f : MFunc} {t : Nat} (ht : t < f.blocks.length) (h : placeT f t f.blocks[t].name = none) : place f f.blocks[t].name = some t := by
  obtain ⟨k, hk, hkt⟩ := place_self ht
  rcases Nat.lt_or_ge k t with hlt | hge
  · unfold placeT at h
    have hkl := place_lt hk
    have := List.findIdx?_eq_none_iff.1 h f.blocks[k] (by rw [List.mem_take_iff_getElem]; exact ⟨k, by omega, rfl⟩)
    unfold place at hk
    obtain ⟨_, h1, _⟩ := List.findIdx?_eq_some_iff_getElem.1 hk
    rw [h1] at this
    cases this
  · have : k = t := by omega
    rw [hk, this]

theorem places_calls {h : Heap} {cs : Array Value} {f : MFunc} (hf : rFunc.rv h cs.toList f) (hn : f.blocks.length ≤ 1000) :
    ACalls Try.prog F_shape_places [.agg cs] h (fun v h' => ∃ m b, v = .tuple #[.map m, .bool b] ∧ Old h h' ∧ (b = true ↔ ∀ i (hi : i < f.blocks.length), place f f.blocks[i].name = some i) ∧
      (b = true → ∃ l, rdM vfI h' m l ∧ ∀ k, aget k l = (place f k).map fun (n : Nat) => (n : Int))) := by
  refine shape_places_of ?_
  unfold shape_places
  refine new_rv hf fun p h1 o1 hp => ?_
  have hb := fld_blocks.rd hp
  refine ld_lst hb (hExt.refl _) fun x hx => ?_
  refine mkm_rule (vf := vfI) (Sep.start h1) fun m h2 _ S => ?_
  refine ld_lst hb S.old.ext fun x1 hx1 => ?_
  have hx1l := hx1.lenEq
  refine loop_intro (fun q t h' => ∃ (i : Nat) (l : List (ByteArray × Int)), t = i ∧ i ≤ f.blocks.length ∧ q = f.blocks.length - i ∧ (∀ j (hj : j < i) (hl : j < f.blocks.length), place f f.blocks[j].name = some j) ∧
      (∀ k, aget k l = (placeT f i k).map fun (n : Nat) => (n : Int)) ∧ Sep h1 h' [ownM vfI m l]) f.blocks.length
    ⟨0, [], rfl, by omega, by omega, (fun j hj => by omega), (fun k => by simp [aget, placeT]), S⟩ ?_
  clear S
  rintro q _ t h3 ⟨i, l, rfl, hi, rfl, hnm, hget, S⟩
  refine ifB_intro (fun hc => ?_) (fun hc => ?_)
  · have hil : i < f.blocks.length := by rw [hx1l] at hc; simpa using hc
    refine idx_rdN hx1 rfl hil fun p1 _ hp1 => ?_
    refine ld_agg hp1 S.old.ext rfl fun cs2 hcs2 => ?_
    refine new_stX hcs2 S.old.ext rfl rfl fun p2 h5 o5 hp2 => ?_
    have S5 := S.grow o5
    refine ld_strX (fld_name.bx hp2) ?_
    refine mlk_rule S5.rdM ?_
    rw [hget]
    cases hpl : placeT f i f.blocks[i].name with
    | some k =>
      refine ⟨(k : Int), rfl, ?_⟩
      refine ifB_true rfl ?_
      obtain ⟨hk1, hk2⟩ := placeT_some hpl
      refine ⟨none, false, rfl, o1.trans S5.old, ⟨(fun h => by cases h), fun hall => ?_⟩, fun h => by cases h⟩
      have := hall i hil
      rw [hk2] at this
      injection this with this
      omega
    | none =>
      refine ⟨0, rfl, ?_⟩
      refine ifB_false rfl ?_
      refine ld_strX (fld_name.bx hp2) ?_
      refine mup_rule S5 (x := (i : Int)) rfl fun h6 S6 => ?_
      refine ar_i64 (by omega) (by omega) ⟨f.blocks.length - (i + 1), by omega, i + 1, _, rfl, by omega, rfl, (fun j hj hl => ?_), (fun k => ?_), S6⟩
      · by_cases e : j = i
        · subst e; exact placeT_none hil hpl
        · exact hnm j (by omega) hl
      · rw [aget_put, hget, placeT_succ hil hpl]
        split <;> rfl
  · have hil : f.blocks.length ≤ i := by rw [hx1l] at hc; simpa using hc
    exact ⟨m, true, rfl, o1.trans S.old, ⟨fun _ j hj => hnm j (by omega) hj, fun _ => rfl⟩, fun _ => ⟨l, S.rdM, fun k => by rw [hget, placeT_all hil]⟩⟩

theorem ends_calls {h : Heap} {cs : Array Value} {f : MFunc} (hf : rFunc.rv h cs.toList f) (hn : f.blocks.length ≤ 1000) {m : Option Nat} {l : List (ByteArray × Int)} (hm : rdM vfI h m l) (hget : ∀ k, aget k l = (place f k).map fun (n : Nat) => (n : Int)) :
    ACalls Try.prog F_shape_ends [.agg cs, .map m] h (fun v h' => ∃ b, v = .bool b ∧ Old h h' ∧ (b = true ↔ ∀ i (hi : i < f.blocks.length), (∀ t ∈ f.blocks[i].term.to, ∃ k, place f t = some k ∧ k ≠ 0) ∧ f.blocks[i].term.to.Pairwise (· ≠ ·))) := by
  refine shape_ends_of ?_
  unfold shape_ends
  refine new_rv hf fun p h1 o1 hp => ?_
  have hb := fld_blocks.rd hp
  have hm1 := hm.old o1
  refine ld_lst hb (hExt.refl _) fun x hx => ?_
  have hxl := hx.lenEq
  refine loop_intro (fun q t h' => ∃ i : Nat, t = i ∧ i ≤ f.blocks.length ∧ q = f.blocks.length - i ∧ Old h1 h' ∧ ∀ j (hj : j < i) (hl : j < f.blocks.length), (∀ t ∈ f.blocks[j].term.to, ∃ k, place f t = some k ∧ k ≠ 0) ∧ f.blocks[j].term.to.Pairwise (· ≠ ·)) f.blocks.length
    ⟨0, rfl, by omega, by omega, .refl _, fun j hj => by omega⟩ ?_
  rintro q _ t h2 ⟨i, rfl, hi, rfl, o2, hyes⟩
  refine ifB_intro (fun hc => ?_) (fun hc => ?_)
  · have hil : i < f.blocks.length := by rw [hxl] at hc; simpa using hc
    refine idx_rdN hx rfl hil fun p1 _ hp1 => ?_
    refine ld_agg hp1 o2.ext rfl fun cs2 hcs2 => ?_
    refine new_stX hcs2 o2.ext rfl rfl fun p2 h4 o4 hp2 => ?_
    have o14 := o2.trans o4
    refine mkm_rule (vf := vfB) ((Sep.start h1).grow o14) fun km h5 o5 S5 => ?_
    have hbx := RV.bx_old hp2 o5
    refine ld_lstX (bx_two hp2.1 ((Fld.trans fld_term fld_to rfl).bx hbx)) fun x2 hx2 => ?_
    have hx2l := hx2.lenEq
    have hx2b := hx2.bound
    refine loop_intro (fun q t h' => ∃ (j : Nat) (kl : List (ByteArray × Bool)), t = j ∧ j ≤ f.blocks[i].term.to.length ∧ q = f.blocks[i].term.to.length - j ∧ (∀ t ∈ f.blocks[i].term.to.take j, ∃ k, place f t = some k ∧ k ≠ 0) ∧ (f.blocks[i].term.to.take j).Pairwise (· ≠ ·) ∧
        (∀ k, (k ∈ f.blocks[i].term.to.take j → aget k kl = some true) ∧ (k ∉ f.blocks[i].term.to.take j → aget k kl = none)) ∧ Sep h1 h' [ownM vfB km kl]) f.blocks[i].term.to.length
      ⟨0, [], rfl, by omega, by omega, by simp, by simp, by simp [aget], S5⟩ ?_
    rintro q _ t h6 ⟨j, kl, rfl, hj, rfl, hpl, hpw, hkl, S⟩
    refine ifB_intro (fun hc => ?_) (fun hc => ?_)
    · have hjl : j < f.blocks[i].term.to.length := by rw [hx2l] at hc; simpa using hc
      refine idx_rdN hx2 rfl hjl fun p3 _ hp3 => ?_
      refine ld_str hp3 S.old.ext ?_
      refine mlk_rule (hm1.old S.old) ?_
      rw [hget]
      have hbad : ¬ (∀ i (hi : i < f.blocks.length), (∀ t ∈ f.blocks[i].term.to, ∃ k, place f t = some k ∧ k ≠ 0) ∧ f.blocks[i].term.to.Pairwise (· ≠ ·)) → ∃ b, (Value.bool false) = .bool b ∧ Old h h6 ∧ (b = true ↔ ∀ i (hi : i < f.blocks.length), (∀ t ∈ f.blocks[i].term.to, ∃ k, place f t = some k ∧ k ≠ 0) ∧ f.blocks[i].term.to.Pairwise (· ≠ ·)) := fun hn => ⟨false, rfl, o1.trans S.old, fun h => (by cases h), fun hall => absurd hall hn⟩
      have htk : f.blocks[i].term.to.take (j + 1) = f.blocks[i].term.to.take j ++ [f.blocks[i].term.to[j]] := List.take_succ_eq_append_getElem hjl
      cases hpt : place f f.blocks[i].term.to[j] with
      | none =>
        refine ⟨0, rfl, ?_⟩
        intro k hk
        refine ifB_true rfl ?_
        refine hk _ _ fun _ => ifB_true rfl (hbad fun hall => ?_)
        obtain ⟨q, hq, _⟩ := (hall i hil).1 _ (List.getElem_mem hjl)
        rw [hpt] at hq; cases hq
      | some n =>
        refine ⟨(n : Int), rfl, ?_⟩
        intro k hk
        refine ifB_false rfl ?_
        refine ifB_intro (fun hz => ?_) (fun hz => ?_)
        · refine hk _ _ fun _ => ifB_true rfl (hbad fun hall => ?_)
          obtain ⟨q, hq, hq0⟩ := (hall i hil).1 _ (List.getElem_mem hjl)
          rw [hpt] at hq
          injection hq with hq
          subst hq
          have : (n : Int) = 0 := by simpa using hz
          omega
        · have hn0 : n ≠ 0 := fun e => by subst e; simp at hz
          refine mlk_rule S.rdM ?_
          by_cases hmem : f.blocks[i].term.to[j] ∈ f.blocks[i].term.to.take j
          · rw [(hkl _).1 hmem]
            refine ⟨true, rfl, ?_⟩
            refine hk _ _ fun _ => ifB_true rfl (hbad fun hall => ?_)
            obtain ⟨z, hz1, hz2⟩ := List.getElem_of_mem hmem
            rw [List.length_take] at hz1
            rw [List.getElem_take] at hz2
            exact List.pairwise_iff_getElem.1 (hall i hil).2 z j (by omega) hjl (by omega) hz2
          · rw [(hkl _).2 hmem]
            refine ⟨false, rfl, ?_⟩
            refine hk _ _ fun _ => ifB_false rfl ?_
            refine mup_rule S (x := true) rfl fun h8 S8 => ?_
            refine ar_i64 (by omega) (by omega) ⟨f.blocks[i].term.to.length - (j + 1), by omega, j + 1, _, rfl, by omega, rfl, ?_, ?_, (fun k => ?_), S8⟩
            · rw [htk]
              intro t ht
              rcases List.mem_append.1 ht with ht | ht
              · exact hpl t ht
              · simp at ht; subst ht; exact ⟨n, hpt, hn0⟩
            · rw [htk]
              refine List.pairwise_append.2 ⟨hpw, by simp, fun a ha b hb e => ?_⟩
              simp at hb; subst hb; subst e; exact hmem ha
            · rw [aget_put, htk]
              by_cases e : k = f.blocks[i].term.to[j]
              · rw [if_pos e]
                exact ⟨fun _ => rfl, fun hn => absurd (List.mem_append.2 (.inr (by rw [e]; exact List.mem_singleton.2 rfl))) hn⟩
              · rw [if_neg e]
                refine ⟨fun hk => (hkl k).1 ?_, fun hk => (hkl k).2 fun h => hk (List.mem_append.2 (.inl h))⟩
                rcases List.mem_append.1 hk with hk | hk
                · exact hk
                · simp at hk; exact absurd hk e
    · have hjl : f.blocks[i].term.to.length ≤ j := by rw [hx2l] at hc; simpa using hc
      rw [List.take_of_length_le hjl] at hpl hpw
      refine ar_i64 (by omega) (by omega) ⟨f.blocks.length - (i + 1), by omega, i + 1, rfl, by omega, rfl, S.old, fun z hz hl => ?_⟩
      by_cases e : z = i
      · subst e; exact ⟨hpl, hpw⟩
      · exact hyes z (by omega) hl
  · have hil : f.blocks.length ≤ i := by rw [hxl] at hc; simpa using hc
    exact ⟨true, rfl, o1.trans o2, fun _ j hj => hyes j (by omega) hj, fun _ => rfl⟩

end Go.Proofs.Ytgdfpdfkghmdpaa
