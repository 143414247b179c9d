/-
  What the statement tells of arguments, with their bounds.
-/
import Derived.Test.YtojdbliehgejbaaDoorFwDec
import Derived.SizedLaws
namespace Go.Fw
open Go.ChangeShapes Go.WideShapes Go.Deep

def bInt (n : Int) : Prop := -9223372036854775808 ≤ n ∧ n ≤ 9223372036854775807
def bStr (s : ByteArray) : Prop := s.size ≤ 140737488355328
def bL {α : Type} (b : α → Prop) (l : List α) : Prop := l.length ≤ 140737488355328 ∧ ∀ x ∈ l, b x
def DecB {α : Type} (H : Type) (enc : TypeId × Value → H) (P : Program) (w : World) (t : TypeId) (E : RV α) (b : α → Prop) : Prop :=
  ∀ {fuel : Nat} {cs : List Value} {x : DataW H × List MemPlace}, DataW.trod enc P w 0 (fun _ => true) true fuel t cs = some x → (∀ n ∈ x.1.weights P t, n ≤ reachBytes) → ∃ y, E.rv w.heap cs y ∧ b y

section
variable {H : Type} {enc : TypeId × Value → H} {P : Program} {w : World}
theorem DecB.int {t : TypeId} (ht : P.underlying t = some (.int .i64)) : DecB H enc P w t rInt bInt := fun h _ => by
  obtain ⟨n, rfl, _, hw⟩ := DataW.trod_int ht h
  refine ⟨n, rfl, ?_⟩
  simp [Lit.wf, IntKind.min, IntKind.max, IntKind.bits, IntKind.signed] at hw
  exact ⟨by omega, by omega⟩
theorem DecB.str {t : TypeId} (ht : P.underlying t = some .string) : DecB H enc P w t rStr bStr := fun h hw => by
  obtain ⟨s, rfl, rfl, _⟩ := DataW.trod_string ht h
  refine ⟨s, rfl, ?_⟩
  have := hw s.data.toList.length (by simp [DataW.weights])
  have h2 := reachBytes_lt
  unfold bStr
  have h3 : s.size = s.data.toList.length := by simp
  omega
theorem DecB.bool {t : TypeId} (ht : P.underlying t = some .bool) : DecB H enc P w t rBool (fun _ => True) := fun h _ => by
  obtain ⟨y, hy⟩ := Dec.bool ht h
  exact ⟨y, hy, trivial⟩
theorem weightsAll_mem {e : TypeId} {n : Nat} : ∀ {l : List (DataW H)} {d : DataW H}, d ∈ l → n ∈ d.weights P e → n ∈ DataW.weightsAll P e l
  | c :: l, d, hd, hn => by
    simp only [DataW.weightsAll, List.mem_append]
    rcases List.mem_cons.1 hd with rfl | hd
    · exact .inl hn
    · exact .inr (weightsAll_mem hd hn)
theorem DecB.sl {α : Type} {E : RV α} {b : α → Prop} {t e : TypeId} (ht : P.underlying t = some (.slice e)) (he : P.cellsOf e = E.size) (hz : 0 < E.size) (hbt : 0 < P.bytesOf e) (d : DecB H enc P w e E b) : DecB H enc P w t E.sl (bL b) := by
  intro fuel cs x h hw
  rcases DataW.trod_slice ht h with ⟨rfl, _⟩ | ⟨a, len, cap, elems, rest, n, _, rfl, hx, _, hl, hm, hlen, hel, _, _⟩
  · exact ⟨[], ⟨⟨none, 0, 0⟩, rfl, rfl, Nat.le_refl _, by simp, fun _ => rfl, .inl rfl⟩, by simp, by simp⟩
  · subst hx
    have hws : ∀ i (hi : i < elems.length), ∀ m ∈ elems[i].1.weights P e, m ≤ reachBytes := fun i hi m hm => by
      refine hw m ?_
      simp only [DataW.weights, ht, List.mem_cons, List.mem_append]
      exact .inr (.inl (weightsAll_mem (List.mem_map.2 ⟨_, List.getElem_mem hi, rfl⟩) hm))
    have key : ∀ i, i < len → ∃ y, (∃ cs, cs.length = E.size ∧ (∀ j, j < E.size → w.cell? ((a.add (i * E.size)).add j) = cs[j]?) ∧ E.rv w.heap cs y) ∧ b y := fun i hi => by
      have h1 := hel i hi
      have h2 : elems[i]? = some (elems[i]'(by omega)) := List.getElem?_eq_getElem _
      rw [h2] at h1
      simp only [Option.bind_eq_some_iff] at h1
      obtain ⟨cs', hc, hd⟩ := h1
      obtain ⟨_, hcl, hcc⟩ := World.cells?_some hc
      obtain ⟨y, hy, hby⟩ := d hd (hws i (by omega))
      rw [he] at hcl hcc
      exact ⟨y, ⟨cs', hcl, hcc, hy⟩, hby⟩
    obtain ⟨l, hll, hr⟩ := list_of (R := fun i y => (∃ cs, cs.length = E.size ∧ (∀ j, j < E.size → w.cell? ((a.add (i * E.size)).add j) = cs[j]?) ∧ E.rv w.heap cs y) ∧ b y) len key
    have hm' : cap ≤ 9223372036854775807 := by simpa [maxLen] using hm
    have hbl : len ≤ 140737488355328 := by
      have h1 := hw (((elems.map (·.1)).length + (rest.map (·.1)).length) * P.bytesOf e) (by simp only [DataW.weights, ht]; exact List.mem_cons_self)
      have h2 := reachBytes_lt
      have h3 : len ≤ ((elems.map (·.1)).length + (rest.map (·.1)).length) * P.bytesOf e := by
        refine Nat.le_trans ?_ (Nat.le_mul_of_pos_right _ hbt)
        simp only [List.length_map]
        omega
      omega
    refine ⟨l, ⟨⟨some a, len, cap⟩, rfl, hll.symm, hl, by omega, by simp, ?_⟩, by omega, fun x hx => by obtain ⟨i, hi, rfl⟩ := List.getElem_of_mem hx; exact (hr i hi).2⟩
    by_cases h0 : l = []
    · exact .inl h0
    · have hlp : 0 < l.length := List.length_pos_iff.2 h0
      have hspot : a.spot = none := by
        obtain ⟨⟨cs', h1, h2, _⟩, _⟩ := hr 0 hlp
        have := h2 0 hz
        rw [Nat.zero_mul, Addr.add_zero', Addr.add_zero', List.getElem?_eq_getElem (by omega)] at this
        exact World.cell?_spot this
      refine .inr ⟨a, rfl, hspot, fun i hi => ?_⟩
      obtain ⟨⟨cs', h1, h2, h3⟩, _⟩ := hr i hi
      refine ⟨Addr.spot_add _ _ hspot, cs', fun j v hj => ?_, h3⟩
      have hj' := (List.getElem?_eq_some_iff.1 hj).1
      rw [← cell_eq]
      show w.cell? ((a.add (i * E.size)).add j) = some v
      rw [h2 j (by omega), hj]

/-- Fields, from an offset on. -/
def DecFB {α : Type} (H : Type) (enc : TypeId × Value → H) (P : Program) (w : World) (fs : List Field) (o : Nat) (E : RV α) (b : α → Prop) : Prop :=
  ∀ {n : Nat} {cs : List Value} (xs : List (DataW H)), xs.length = fs.length →
    (∀ (i : Nat) (f : Field), fs[i]? = some f → ∃ y, DataW.trod enc P w 0 (fun _ => true) true n f.type ((cs.drop f.offset).take (P.cellsOf f.type)) = some y ∧ xs[i]? = some y.1) →
    (∀ m ∈ DataW.weightsEach P (fs.map (·.type)) xs, m ≤ reachBytes) → cs.length = o + E.size → ∃ y, E.rv w.heap (cs.drop o) y ∧ b y
theorem DecFB.nil {o : Nat} : DecFB H enc P w [] o RV.unit (fun _ => True) := fun _ _ _ _ hl => ⟨(), by show _ = []; exact List.drop_of_length_le (by rw [hl]; exact Nat.le_refl _), trivial⟩
theorem DecFB.cons {α β : Type} {A : RV α} {B : RV β} {ba : α → Prop} {bb : β → Prop} {f : Field} {fs : List Field} {o : Nat} (ho : f.offset = o) (hs : P.cellsOf f.type = A.size) (d : DecB H enc P w f.type A ba) (ds : DecFB H enc P w fs (o + A.size) B bb) :
    DecFB H enc P w (f :: fs) o (A.two B) (fun x => ba x.1 ∧ bb x.2) := by
  intro n cs xs hxl h hw hl
  obtain ⟨x0, xs, rfl⟩ : ∃ x0 r, xs = x0 :: r := by
    cases xs with
    | nil => simp at hxl
    | cons a r => exact ⟨a, r, rfl⟩
  obtain ⟨y, hy, hxy⟩ := h 0 f rfl
  have hxy : x0 = y.1 := by simpa using hxy
  subst hxy
  obtain ⟨x, hx, hbx⟩ := d hy (fun m hm => hw m (by simp only [List.map_cons, DataW.weightsEach, List.mem_append]; exact .inl hm))
  obtain ⟨z, hz, hbz⟩ := ds xs (by simpa using hxl) (fun i g hg => by simpa using h (i + 1) g (by simpa using hg)) (fun m hm => hw m (by simp only [List.map_cons, DataW.weightsEach, List.mem_append]; exact .inr hm)) (by rw [hl]; show o + (A.size + B.size) = _; omega)
  refine ⟨(x, z), ⟨(cs.drop o).take A.size, cs.drop (o + A.size), ?_, ?_, hz⟩, hbx, hbz⟩
  · rw [← List.drop_drop, List.take_append_drop]
  · rw [ho, hs] at hx; exact hx
theorem DecB.struct {α : Type} {E : RV α} {b : α → Prop} {t : TypeId} {fs : Array Field} (ht : P.underlying t = some (.struct fs)) (hc : P.cellsOf t = E.size) (d : DecFB H enc P w fs.toList 0 E b) : DecB H enc P w t E b := by
  intro fuel cs x h hw
  obtain ⟨xs, n, _, rfl, hl, hxl, hf⟩ := DataW.trod_struct ht h
  obtain ⟨y, hy, hb⟩ := d (n := n) (cs := cs) (xs.map (·.1)) (by simp [hxl]) (fun i f hi => by
    have h1 := hf i f (by rw [← Array.getElem?_toList]; exact hi)
    have hil : i < xs.length := by have := (List.getElem?_eq_some_iff.1 hi).1; rw [Array.length_toList] at this; omega
    rw [List.getElem?_eq_getElem hil] at h1
    exact ⟨_, h1, by simp [hil]⟩) (fun m hm => hw m (by simp only [DataW.weights, ht]; exact hm)) (by rw [hl, hc]; omega)
  exact ⟨y, by simpa using hy, hb⟩
theorem DecB.via {α β : Type} {E : RV α} {b : α → Prop} {t : TypeId} {f : β → α} (g : α → β) (hg : ∀ x, f (g x) = x) (d : DecB H enc P w t E b) : DecB H enc P w t (E.via f) (fun y => b (f y)) := fun h hw => by
  obtain ⟨y, hy, hb⟩ := d h hw
  exact ⟨g y, by show E.rv _ _ (f (g y)); rw [hg]; exact hy, by show b (f (g y)); rw [hg]; exact hb⟩
end

theorem law_lifted_sized {C : Checked} {os : Os} {f : FuncId} {fn : Func} {s : ChangeSpec} {tb : TypeId} {H : Type} {enc : TypeId × Value → H}
    (own : ownKnob C.prog.godebug = none) (started : os.Started) (noInit : C.prog.inits.idxOf? f = none) (hfn : C.prog.funcs[f]? = some fn) (hl : laidOutB C.prog = true)
    (hvars : s.vars = []) (hres : fn.resultTypes = #[tb]) (htb : C.prog.underlying tb = some .bool) (hpar : ∀ t ∈ fn.params.toList, C.prog.readableRec t = true ∧ t < C.prog.types.size)
    (hspec : ∀ ds : List (DataW H), ds.length = fn.params.toList.length → s.fn H ds = { results := [.lit (.bool true)], args := ds })
    (witness : ∃ (w : World) (tape : Tape) (i : Input), w.os = os ∧ (w.forCall tape i).Shaped C.prog ∧ i.vars = [] ∧ Input.okWide C.prog (w.forCall tape i) .any w.heap.size f i ∧
      s.pre6 enc C.prog fn [] false (w.forCall tape i).memory i.args ∧ ({} : Assume).holds C.prog (lone (Frame.enter C.prog f i.args .normal) [] (w.forCall tape i)))
    (contract : ∀ (W : World) (args : Array Value) (ds : List (DataW H)) (ps : List MemPlace) (base : Nat), (∀ (j : Nat) t v, fn.params[j]? = some t → args[j]? = some v → Value.okWide C.prog W .any base t v) →
      DataW.TrodAll enc C.prog W 0 (fun _ => true) true fn.params.toList args.toList ds ps → (∀ n ∈ DataW.weightsEach C.prog fn.params.toList ds, n ≤ reachBytes) →
      ACalls C.prog f args.toList W.heap (fun v h' => v = .bool true ∧ Old W.heap h')) :
    ReturnsInHanded {} C os f .any (s.pre6 enc C.prog fn [] false) (s.post enc C.prog fn false true false false) := by
  refine returnsInHanded_of_change_sized own started noInit hfn witness ?_
  intro W base args ds gs before hval hW _ hwt _
  have hlt := hW.lt
  have hW' := hW
  obtain ⟨p, q, hA, hV, rfl, _, _⟩ := hW
  rw [hvars] at hV
  obtain ⟨rfl, rfl⟩ := trodVars_none hV
  have hwt' : ∀ n ∈ DataW.weightsEach C.prog fn.params.toList ds, n ≤ reachBytes := fun n hn => by
    have hv : s.plain.varTypes C.prog = [] := by
      simp [ChangeSpec.plain, DataSpec.varTypes, hvars]
    rw [hv, List.append_nil, List.append_nil] at hwt
    simpa using List.all_eq_true.1 hwt n hn
  refine Calls.mono (contract W args ds p base hval hA hwt' W rfl) ?_
  rintro e W' ⟨v, rfl, hs, rfl, ho⟩
  have hsince : W.Since W.heap.size W' := ⟨hs.os, hs.tape, hs.output, ho.size, ho.block⟩
  have hsp := hspec ds (trodAll_length hA)
  have hdg : ds ++ ([] : List (DataW H)) = ds := List.append_nil ds
  refine ⟨_, rfl, ds, [], p ++ [], [], p, [], hW', ?_, ?_, ?_, hsince.frame _, fun h => by cases h⟩
  · rw [hdg, hsp, hres]
    exact trodAll_mk1 (Go.RowKit.shut_bool htb true)
  · rw [hdg, hsp]
    exact args_stay hl hsince hpar (fun x hx => hlt x (by simp [hx])) hA
  · rw [hdg, hsp, hvars]
    rfl

end Go.Fw
