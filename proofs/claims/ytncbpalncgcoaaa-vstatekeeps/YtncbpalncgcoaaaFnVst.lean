/-
  vstate: what is found.
-/
import Derived.Test.YtncbpalncgcoaaaGen
import Derived.Test.YtncbpalncgcoaaaFwVst
namespace Go.Proofs.Ytncbpalncgcoaaa
open Go.Fw Go.Pl.Api Go.Pl.Vst

theorem mid_eq {i j : Nat} (h : i + j ≤ 9223372036854775807) : IntKind.i64.wrap (Int.fdiv (IntKind.u64.wrap ((i : Int) + j)) (2 ^ min (Int.toNat 1) (IntKind.bits .u64))) = ((i + j) / 2 : Nat) := by
  have h1 : IntKind.u64.wrap ((i : Int) + j) = (i : Int) + j := by
    simp [IntKind.wrap, IntKind.bits, IntKind.signed]
    omega
  rw [h1]
  have h2 : (2 : Int) ^ min (Int.toNat 1) (IntKind.bits .u64) = 2 := by decide
  rw [h2, Int.fdiv_eq_ediv_of_nonneg _ (by decide), IntKind.wrap_i64]
  omega

/-- sort.Search, of a function that only reads. -/
theorem search_calls {h : Heap} {n : Nat} {g : FuncId} {caps : Array Value} {p : Nat → Bool} (hn : n ≤ 4611686018427387903) (hg : FnOk Try.prog g)
    (hf : ∀ i, i < n → ACalls Try.prog g ([.int .i64 (i : Int)] ++ caps.toList) h (fun v h' => v = .bool (p i) ∧ h' = h))
    (mono : ∀ a b, a ≤ b → b < n → p a = true → p b = true) :
    ACalls Try.prog F_sort_Search [.int .i64 (n : Int), .func (.func g) #[] caps] h (fun v h' => ∃ r : Nat, v = .int .i64 (r : Int) ∧ h' = h ∧ r ≤ n ∧ (∀ k, k < r → p k = false) ∧ ∀ k, r ≤ k → k < n → p k = true) := by
  refine sort_Search_of ?_
  unfold sort_Search
  refine loop_intro (fun m (q : Int × Int) h' => ∃ i j : Nat, q = ((i : Int), (j : Int)) ∧ i ≤ j ∧ j ≤ n ∧ m = j - i ∧ h' = h ∧ (∀ k, k < i → p k = false) ∧ ∀ k, j ≤ k → k < n → p k = true) n
    ⟨0, n, rfl, by omega, by omega, by omega, rfl, fun k hk => by omega, fun k h1 h2 => by omega⟩ ?_
  rintro _ _ _ h1 ⟨i, j, rfl, hij, hjn, rfl, rfl, lo, hi⟩
  simp only
  refine ifB_intro (fun hc => ?_) (fun hc => ?_)
  · have hlt : i < j := by have := of_decide_eq_true hc; omega
    refine ar_i64 (by omega) (by omega) ⟨by decide, ?_⟩
    rw [mid_eq (by omega)]
    refine ⟨g, caps, rfl, hg, (hf ((i + j) / 2) (by omega)).mono ?_⟩
    rintro v h2 ⟨rfl, rfl⟩
    refine ⟨_, rfl, ?_⟩
    refine ifB_intro (fun hp => ?_) (fun hp => ?_)
    · have hp : p ((i + j) / 2) = false := by simpa using hp
      refine ar_i64 (by omega) (by omega) ⟨j - ((i + j) / 2 + 1), by omega, (i + j) / 2 + 1, j, rfl, by omega, hjn, rfl, rfl, fun k hk => ?_, hi⟩
      cases e : p k with
      | false => rfl
      | true =>
        have := mono k ((i + j) / 2) (by omega) (by omega) e
        rw [hp] at this
        cases this
    · have hp : p ((i + j) / 2) = true := by simpa using hp
      refine ⟨(i + j) / 2 - i, by omega, i, (i + j) / 2, rfl, by omega, by omega, rfl, rfl, lo, fun k h1 h2 => ?_⟩
      exact mono _ k h1 h2 hp
  · have hlt : j = i := by have := of_decide_eq_false hc; omega
    subst hlt
    exact ⟨j, rfl, trivial, hjn, lo, hi⟩

theorem place1_calls {h : Heap} {p p1 : Addr} {s : Sl} {l : List MObj} {id : Int} {i : Nat} (hp : hcell h p = some s.v) (hp1 : hcell h p1 = some (.int .i64 id)) (hs : rdSl rObj.el h s l) (hi : i < l.length) :
    ACalls Try.prog F_vstate_place_1 [.int .i64 (i : Int), .pointer (some p), .pointer (some p1)] h (fun v h' => v = .bool (decide (id ≤ l[i].id)) ∧ h' = h) := by
  refine vstate_place_1_of ?_
  unfold vstate_place_1
  refine ld_one (k := .sl) (x := s) hp ?_
  refine idx_rdN hs rfl hi fun p2 _ hp2 => ?_
  refine ld_int (fld_oId.rd hp2) (hExt.refl h) ?_
  exact ld_one (k := .int .i64) (x := id) hp1 ⟨rfl, rfl⟩

theorem place_calls {h : Heap} {s : Sl} {l : List MObj} (hs : rdSl rObj.el h s l) (hr : Rising l) (id : Int) (hn : l.length ≤ 4611686018427387903) :
    ACalls Try.prog F_vstate_place [s.v, .int .i64 id] h (fun v h' => ∃ r : Nat, v = .tuple #[.int .i64 (r : Int), .bool (hitF l id r)] ∧ Old h h' ∧ PlaceF l id r) := by
  refine vstate_place_of ?_
  unfold vstate_place
  refine new_rawB (Sep.start h) fun p h1 o1 S1 => ?_
  refine new_rawB S1 fun p1 h2 o2 S2 => ?_
  have hp : hcell h2 p = some s.v := by have := (rawB_cell S2.swap).2 0; rwa [Go.Fw.Addr.add_zero'] at this
  have hp1 : hcell h2 p1 = some (.int .i64 id) := by have := (rawB_cell S2).2 0; rwa [Go.Fw.Addr.add_zero'] at this
  have hs2 := hs.old S2.old
  have hl := hs.lenEq
  refine ld_one (k := .sl) (x := s) hp ?_
  rw [hl]
  refine (search_calls (p := fun i => match l[i]? with | some o => decide (id ≤ o.id) | none => true) hn (by unfold FnOk; kernel_rfl) (fun i hi => ?_) (fun a b hab hb ha => ?_)).mono ?_
  · have := place1_calls hp hp1 hs2 hi
    rw [List.getElem?_eq_getElem hi]
    exact this
  · rw [List.getElem?_eq_getElem (by omega)] at ha ⊢
    have ha := of_decide_eq_true ha
    refine decide_eq_true ?_
    by_cases e : a = b
    · subst e; exact ha
    · have := rising_get hr (show a < b by omega) hb
      omega
  · rintro v h3 ⟨r, rfl, rfl, hrn, lo, hi⟩
    refine ⟨_, rfl, ?_⟩
    have pl : PlaceF l id r := ⟨hrn, fun k hk h => by
        have := lo k h
        rw [List.getElem?_eq_getElem hk] at this
        have := of_decide_eq_false this
        omega, fun k hk h => by
        have := hi k h hk
        rw [List.getElem?_eq_getElem hk] at this
        exact of_decide_eq_true this⟩
    intro k hk
    have fin : k ((r : Int), hitF l id r) h3 := hk _ _ fun _ => ⟨r, rfl, S2.old, pl⟩
    refine ld_one (k := .sl) (x := s) hp ?_
    refine ifB_intro (fun hc => ?_) (fun hc => ?_)
    · have hrl : r < l.length := by rw [hl] at hc; simpa using hc
      refine ld_one (k := .sl) (x := s) hp ?_
      refine idx_rdN hs2 rfl hrl fun p2 _ hp2 => ?_
      refine ld_int (fld_oId.rd hp2) (hExt.refl _) ?_
      refine ld_one (k := .int .i64) (x := id) hp1 ?_
      have : hitF l id r = (l[r].id == id) := by unfold hitF; rw [List.getElem?_eq_getElem hrl]
      rw [← this]
      exact fin
    · have hrl : l.length ≤ r := by rw [hl] at hc; simpa using hc
      have : hitF l id r = false := by unfold hitF; rw [List.getElem?_eq_none hrl]
      rw [← this]
      exact fin

/-- A result's variable, laid out of zeros, filled, told. -/
theorem new_out {α : Type} {E : RV α} {hb h : Heap} {t : TypeId} {zs cs : Array Value} {x : α} {n : Nat} {K : Array Value → Heap → Prop} (r : E.rv hb cs.toList x) (hz : zs.size = n) (hn : n = E.size)
    (hK : ∀ h', Old h h' → K cs h') : new t zs h fun p h1 => cs.size = n ∧ st cs.toList h1 p fun h2 => ld (.agg n) h2 p fun x => K x h2 := by
  have hcs : cs.size = n := by have := E.len r; simp at this; omega
  exact new_stR (Sep.start h) hz hcs (fun v hv => E.one r v hv) fun p h' S' => ld_rawAgg S' hcs.symm (hK h' S'.old)

end Go.Proofs.Ytncbpalncgcoaaa
