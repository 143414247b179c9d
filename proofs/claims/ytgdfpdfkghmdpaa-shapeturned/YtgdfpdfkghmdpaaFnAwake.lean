/-
  awake, of layer 8.
-/
import Derived.Test.YtgdfpdfkghmdpaaFnPhis3
namespace Go.Proofs.Ytgdfpdfkghmdpaa
open Go.Fw Go.Pl Go.Pl.Api

/-- Cells that are told. -/
def RV.lit (cs0 : List Value) (h1 : ∀ v ∈ cs0, v.oneCell' = true) : RV Unit where
  size := cs0.length
  rv _ cs _ := cs = cs0
  len h := by rw [h]
  one h := by rw [h]; exact h1
  ext h _ := h

abbrev jumpC (name : ByteArray) (s : Sl) : Array Value := #[.string name, .slice none 0 0, .slice none 0 0, .int .i64 1, .int .i64 0, .string ⟨#[]⟩, .int .i64 0, s.v, .int .i64 0]
theorem jump_calls {h : Heap} (name : ByteArray) (s : Sl) : ACalls Try.prog F_lateenlaw08_jump [.string name, s.v] h (fun v h' => v = .agg (jumpC name s) ∧ Old h h') := by
  refine lateenlaw08_jump_of ?_
  unfold lateenlaw08_jump
  have key := new_st (E := RV.lit (jumpC name s).toList (by intro v hv; simp at hv; rcases hv with rfl | rfl | rfl | rfl | rfl | rfl | rfl | rfl <;> rfl)) (h := h) (t := 40)
    (zs := #[.string ⟨#[]⟩, .slice none 0 0, .slice none 0 0, .int .i64 0, .int .i64 0, .string ⟨#[]⟩, .int .i64 0, .slice none 0 0, .int .i64 0]) (cs := jumpC name s) (x := ()) (n := 9) rfl rfl rfl
    (K := fun p h2 => ld (.agg 9) h2 p fun (x : Array Value) => (Value.agg x) = .agg (jumpC name s) ∧ Old h h2) (fun p h2 o hp => ld_agg hp (hExt.refl _) rfl fun cs hcs => ⟨by rw [Array.toList_inj.1 hcs], o⟩)
  refine ⟨#[.int .i64 1, .int .i64 0, .string ⟨#[]⟩, .int .i64 0, s.v, .int .i64 0], by kernel_rfl, jumpC name s, by kernel_rfl, key⟩

/-- A block that leads to some. -/
def jumpB (name : ByteArray) (to : List ByteArray) : MBlock := ⟨name, [], [], ⟨1, ⟨0, ⟨#[]⟩, 0⟩, to, 0⟩⟩
theorem rd_nil {α : Type} {E : Elem α} {h : Heap} : rdSl E h (⟨none, 0, 0⟩ : Sl) [] := ⟨rfl, Nat.le_refl _, by simp, fun _ => rfl, .inl rfl⟩
theorem jump_rv {h : Heap} {name : ByteArray} {s : Sl} {to : List ByteArray} (hs : rdSl rStr.el h s to) : rBlock.rv h (jumpC name s).toList (jumpB name to) :=
  ⟨[_], _, rfl, rfl, [_], _, rfl, ⟨⟨none, 0, 0⟩, rfl, rd_nil⟩, [_], _, rfl, ⟨⟨none, 0, 0⟩, rfl, rd_nil⟩, _, [], (List.append_nil _).symm,
    ⟨[_], _, rfl, rfl, [.int .i64 0, .string ⟨#[]⟩, .int .i64 0], _, rfl, ⟨[_], _, rfl, rfl, [_], _, rfl, rfl, [_], [], rfl, rfl, rfl⟩, [_], _, rfl, ⟨s, rfl, hs⟩, [_], [], rfl, rfl, rfl⟩, rfl⟩

/-- A slice of values that read. -/
theorem bld_rv {α : Type} {E : RV α} {si : SlI} {h : Heap} {n : Nat} {parts : List (Nat × Value)} {K : Sl → Heap → Prop} (css : List (List Value)) (l : List α) (hl : css.length = n) (hll : l.length = n)
    (hrv : ∀ i (h1 : i < css.length) (h2 : i < l.length), E.rv h css[i] l[i]) (hfill : Instr.fill (fun i => some (i * si.size, si.size)) (madeCells si.zero.cells (n * si.size)) parts = some css.flatten.toArray) (hsz : si.size = E.size)
    (hb : n * si.size ≤ 16777216) (hn : n ≤ 16777216) (hK : ∀ s h', Old h h' → rdSl E.el h' s l → K s h') : bld si n parts h K := by
  have hflat : ∀ (css : List (List Value)) (l : List α), css.length = l.length → (∀ i (h1 : i < css.length) (h2 : i < l.length), E.rv h css[i] l[i]) → ∀ i (h1 : i < css.length) j v, css[i][j]? = some v → css.flatten[i * E.size + j]? = some v := by
    intro css
    induction css with
    | nil => intro l _ _ i h1; simp at h1
    | cons c css ih =>
      intro l hlen hr i h1 j v hv
      cases l with
      | nil => simp at hlen
      | cons x l =>
        have hc : c.length = E.size := E.len (hr 0 (by simp) (by simp))
        cases i with
        | zero =>
          simp only [List.getElem_cons_zero] at hv
          rw [List.flatten_cons, Nat.zero_mul, Nat.zero_add, List.getElem?_append_left (List.getElem?_eq_some_iff.1 hv).1]
          exact hv
        | succ i =>
          simp only [List.getElem_cons_succ] at hv
          rw [List.flatten_cons, List.getElem?_append_right (by rw [hc, Nat.succ_mul]; omega)]
          have := ih l (by simpa using hlen) (fun i h1 h2 => hr (i + 1) (by simpa using h1) (by simpa using h2)) i (by simpa using h1) j v hv
          rw [show (i + 1) * E.size + j - c.length = i * E.size + j by rw [hc, Nat.succ_mul]; omega]
          exact this
  refine ⟨_, hfill, hb, hK _ _ (Old.push _ _) ⟨hll.symm, Nat.le_refl _, ?_, fun e => by simp at e, ?_⟩⟩
  · rw [hll]; omega
  · by_cases hne : l = []
    · exact .inl hne
    · refine .inr ⟨_, rfl, rfl, fun i hi => ⟨Addr.spot_add _ _ rfl, css[i]'(by omega), fun j v hj => ?_, E.ext (hrv i (by omega) hi) (Old.push _ _).ext⟩⟩
      show hcell (h.push _) (((⟨h.size, 0, none⟩ : Addr).add (i * E.size)).add j) = _
      rw [Addr.add_none, Addr.add_none, Nat.zero_add]
      unfold hcell
      simp only [Array.getElem?_push_size, Option.isSome_none, Bool.false_eq_true, if_false]
      rw [List.getElem?_toArray]
      exact hflat css l (by omega) hrv i (by omega) j v hj

end Go.Proofs.Ytgdfpdfkghmdpaa
