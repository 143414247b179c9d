/-
  From a law's contract to its given statement.
-/
import Derived.Test.YtojdbliehgejbaaDoorFwRules
import Derived.ProofKit
import Derived.Deep.OwnRows
import Derived.Deep.Matrix
import Derived.WideKeyArgs
namespace Go.Fw
open Go.ChangeShapes Go.WideShapes Go.Deep

theorem args_stay {H : Type} {enc : TypeId × Value → H} {P : Program} (hl : laidOutB P = true) {W W' : World} (hs : W.Since W.heap.size W') : ∀ {ts : List TypeId} {vs : List Value} {ds : List (DataW H)} {ps : List MemPlace},
    (∀ t ∈ ts, P.readableRec t = true ∧ t < P.types.size) → (∀ p ∈ ps, p.block < W.heap.size) → DataW.TrodAll enc P W 0 (fun _ => true) true ts vs ds ps →
    DataW.TrodAll enc P W' 0 (fun b => decide (b < W.heap.size)) true ts vs ds ps
  | [], vs, ds, ps, _, _, h => by
    cases vs <;> cases ds <;> simp_all [DataW.TrodAll]
  | t :: ts, vs, ds, ps, ht, hp, h => by
    obtain ⟨v, vs', d, ds', p, q, rfl, rfl, rfl, hd, hrest⟩ := trodAll_cons h
    refine ⟨p, q, ?_, args_stay hl hs (fun u hu => ht u (by simp [hu])) (fun x hx => hp x (by simp [hx])) hrest, rfl⟩
    exact WideElems.Trod_stays hl (ht t (by simp)).1 (ht t (by simp)).2 hd (fun x hx => hs.sameAt (hp x (by simp [hx]))) (fun x hx => by simpa using hp x (by simp [hx]))

theorem trodAll_length {H : Type} {enc : TypeId × Value → H} {P : Program} {w : World} {b : Nat} {sp : Nat → Bool} {hd : Bool} : ∀ {ts : List TypeId} {vs : List Value} {ds : List (DataW H)} {ps : List MemPlace},
    DataW.TrodAll enc P w b sp hd ts vs ds ps → ds.length = ts.length
  | [], vs, ds, ps, h => by cases vs <;> cases ds <;> simp_all [DataW.TrodAll]
  | t :: ts, vs, ds, ps, h => by
    obtain ⟨v, vs', d, ds', p, q, rfl, rfl, rfl, _, hrest⟩ := trodAll_cons h
    simp [trodAll_length hrest]

theorem law_lifted {C : Checked} {os : Os} {f : FuncId} {fn : Func} {s : ChangeSpec} {tb : TypeId} {H : Type} {enc : TypeId × Value → H}
    (own : ownKnob C.prog.godebug = none) (started : os.Started) (noInit : C.prog.inits.idxOf? f = none) (hfn : C.prog.funcs[f]? = some fn) (hl : laidOutB C.prog = true)
    (hvars : s.vars = []) (hres : fn.resultTypes = #[tb]) (htb : C.prog.underlying tb = some .bool) (hpar : ∀ t ∈ fn.params.toList, C.prog.readableRec t = true ∧ t < C.prog.types.size)
    (hspec : ∀ ds : List (DataW H), ds.length = fn.params.toList.length → s.fn H ds = { results := [.lit (.bool true)], args := ds })
    (witness : ∃ (w : World) (tape : Tape) (i : Input), w.os = os ∧ (w.forCall tape i).Shaped C.prog ∧ i.vars = [] ∧ Input.okWide C.prog (w.forCall tape i) .any w.heap.size f i ∧
      s.pre6 enc C.prog fn [] false (w.forCall tape i).memory i.args ∧ ({} : Assume).holds C.prog (lone (Frame.enter C.prog f i.args .normal) [] (w.forCall tape i)))
    (contract : ∀ (W : World) (args : Array Value) (ds : List (DataW H)) (ps : List MemPlace) (base : Nat), (∀ (j : Nat) t v, fn.params[j]? = some t → args[j]? = some v → Value.okWide C.prog W .any base t v) →
      DataW.TrodAll enc C.prog W 0 (fun _ => true) true fn.params.toList args.toList ds ps →
      ACalls C.prog f args.toList W.heap (fun v h' => v = .bool true ∧ Old W.heap h')) :
    ReturnsInHanded {} C os f .any (s.pre6 enc C.prog fn [] false) (s.post enc C.prog fn false true false false) := by
  refine returnsInHanded_of_change own started noInit hfn witness ?_
  intro W base args ds gs before hval hW _ _
  have hlt := hW.lt
  have hW' := hW
  obtain ⟨p, q, hA, hV, rfl, _, _⟩ := hW
  rw [hvars] at hV
  obtain ⟨rfl, rfl⟩ := trodVars_none hV
  refine Calls.mono (contract W args ds p base hval hA W rfl) ?_
  rintro e W' ⟨v, rfl, hs, rfl, ho⟩
  have hsince : W.Since W.heap.size W' := ⟨hs.os, hs.tape, hs.output, ho.size, ho.block⟩
  have hsp := hspec ds (trodAll_length hA)
  have hdg : ds ++ ([] : List (DataW H)) = ds := List.append_nil ds
  refine ⟨_, rfl, ds, [], p ++ [], [], p, [], hW', ?_, ?_, ?_, hsince.frame _, fun h => by cases h⟩
  · rw [hdg, hsp, hres]
    exact trodAll_mk1 (Go.RowKit.shut_bool htb true)
  · rw [hdg, hsp]
    exact args_stay hl hsince hpar (fun x hx => hlt x (by simp [hx])) hA
  · rw [hdg, hsp, hvars]
    rfl

/-- A slice of slices of numbers that came in. -/
theorem rd_rows {H : Type} {enc : TypeId × Value → H} {P : Program} {w : World} {t e q : TypeId} {v : Value} {d : DataW H} {ps : List MemPlace} {ri : SlI} (ht : P.underlying t = some (.slice e)) (he : P.underlying e = some (.slice q)) (hq : P.underlying q = some (.int .i64))
    (ce : P.cellsOf e = 1) (cq : P.cellsOf q = 1) (hv : ∃ a n c, v = .slice a n c) (h : DataW.Trod enc P w 0 (fun _ => true) true t v d ps) :
    ∃ (s : Sl) (G : List (List Int)), v = s.v ∧ rdSl (Elem.sl ri eInt) w.heap s G := by
  obtain ⟨fuel, hf⟩ := h
  obtain ⟨va, vn, vc, rfl⟩ := hv
  rcases open_int_rows ht he hq ce cq hf with ⟨hcs, _⟩ | ⟨a, len, cap, A, L, C, Z, hcs, _, hl, hm, _, hrows⟩
  · simp [Value.cells] at hcs
    obtain ⟨rfl, rfl, rfl⟩ := hcs
    exact ⟨⟨none, 0, 0⟩, [], rfl, rfl, Nat.le_refl _, by simp, fun _ => rfl, .inl rfl⟩
  · simp [Value.cells] at hcs
    obtain ⟨rfl, rfl, rfl⟩ := hcs
    have hm' : vc ≤ 9223372036854775807 := by simpa [maxLen] using hm
    refine ⟨⟨some a, vn, vc⟩, (List.range vn).map fun r => (Z r).take (L r), rfl, by simp, hl, by simp; omega, by simp, ?_⟩
    by_cases h0 : vn = 0
    · left; subst h0; simp
    · right
      refine ⟨a, rfl, World.cell?_spot (by have := (hrows 0 (by omega)).1; simpa [Addr.add] using this), fun r hr => ?_⟩
      simp only [List.length_map, List.length_range] at hr
      obtain ⟨h1, h2, h3, h4, _, h5, h6⟩ := hrows r (by omega)
      simp only [List.getElem_map, List.getElem_range]
      refine ⟨⟨A r, L r, C r⟩, by rw [show r * (Elem.sl ri eInt).size = r from Nat.mul_one r]; exact h1, by simp; omega, h2, ?_, fun e => h5 e, ?_⟩
      · have : C r ≤ 9223372036854775807 := by simpa [maxLen] using h3
        simp; omega
      · by_cases hL : L r = 0
        · left; rw [hL]; simp
        · right
          cases hA : A r with
          | none => have := h5 hA; omega
          | some a' =>
            refine ⟨a', rfl, World.cell?_spot (by have := (h6 a' hA).2 0 (by omega); simpa [Addr.add] using this), fun c hc => ?_⟩
            simp only [List.length_take] at hc
            have := (h6 a' hA).2 c (by omega)
            rw [show c * eInt.size = c from Nat.mul_one c]
            show hcell w.heap _ = _
            rw [← cell_eq, this, List.getElem_take]
            simp [show c < (Z r).length by omega]

end Go.Fw
