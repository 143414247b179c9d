/-
  What FwCore's words promise, the model keeps.
-/
import Derived.Test.YtojdbliehgejbaaDoorFwCore
import Derived.Laws.StructEq
import Derived.Maps.RangeRun
namespace Go.Fw

def dAgg : TypeDesc → Bool
  | .struct _ | .array _ _ => true
  | _ => false
def TK.isAgg : TK → Bool
  | .agg _ => true
  | _ => false
def TK.size : TK → Nat
  | .agg n => n
  | _ => 1
def TK.desc : TK → TypeDesc → Prop
  | .int k, d => d = .int k
  | .bool, d => d = .bool
  | .str, d => d = .string
  | .sl, d => ∃ e, d = .slice e
  | .map, d => ∃ k e, d = .map k e
  | .ptr, d => ∃ e, d = .pointer e
  | _, _ => True
def TkOk (P : Program) (x : TypeId × TK) : Prop :=
  (∃ d, P.underlying x.1 = some d ∧ dAgg d = x.2.isAgg ∧ x.2.desc d) ∧ (P.info? x.1).map (·.size) = some x.2.size
def SlOk (P : Program) (x : TypeId × SlI) : Prop :=
  P.underlying x.1 = some (.slice x.2.e) ∧ (P.info? x.2.e).map (fun i => (i.zero, i.size, i.bytes)) = some (some x.2.zero, x.2.size, x.2.bytes) ∧
  x.2.zero.cells.size = x.2.size ∧ 0 < x.2.size
def ZsOk (P : Program) (x : TypeId × Value) : Prop := (P.info? x.1).map (·.zero) = some (some x.2)
def OffOk (P : Program) (x : (TypeId × Nat) × Nat) : Prop :=
  ∃ fs f, P.underlying x.1.1 = some (.struct fs) ∧ fs[x.1.2]? = some f ∧ f.offset = x.2 ∧ ((P.info? f.type).map fun i => decide (i.size = 0)) = some false


def BsOk (P : Program) (x : TypeId × (List (Nat × Nat) × Value)) : Prop :=
  ∃ fs, P.underlying x.1 = some (.struct fs) ∧ fs.toList.mapM (fun f => (P.info? f.type).map fun i => (f.offset, i.size)) = some x.2.1 ∧ (P.info? x.1).map (·.zero) = some (some x.2.2)

def MpOk (P : Program) (x : TypeId × (TypeDesc × Value × TK)) : Prop := ∃ k e, P.underlying x.1 = some (.map k e) ∧ P.underlying k = some x.2.1 ∧ ZsOk P (e, x.2.2.1)
def flatK : TypeDesc → Option TK
  | .int k => some (.int k)
  | .bool => some .bool
  | .string => some .str
  | _ => none
def fldsB (P : Program) : List TK → Nat → List Field → Bool
  | [], _, [] => true
  | k :: ks, n, f :: fs => (f.name != "_") && Nat.beq f.offset n && (match (P.underlying f.type).bind flatK with
    | some k' => decide (k' = k)
    | none => false) && fldsB P ks (n + 1) fs
  | _, _, _ => false
/-- The same, where a field may be a struct of flat fields. -/
def flds2B (P : Program) : List TK → Nat → List Field → Bool
  | [], _, [] => true
  | _ :: _, _, [] => false
  | ks, n, f :: fs => (f.name != "_") && Nat.beq f.offset n && match P.underlying f.type with
    | some (.struct gs) => !P.stoodInHeld f.type && (match (P.info? f.type).map (·.size) with
      | some m => Nat.beq m gs.size && Nat.ble m ks.length && fldsB P (ks.take m) 0 gs.toList && flds2B P (ks.drop m) (n + m) fs
      | none => false)
    | some d => (match flatK d, ks with
      | some k', k :: ks' => decide (k' = k) && flds2B P ks' (n + 1) fs
      | _, _ => false)
    | none => false
def EqOk (P : Program) (x : TypeId × List TK) : Prop :=
  P.underlying x.1 = some (.struct (P.fieldsOf x.1)) ∧ P.stoodInHeld x.1 = false ∧ P.eqGuardType P.depth x.1 = false ∧ flds2B P x.2 0 (P.fieldsOf x.1).toList = true
def FldOk (P : Program) (x : (TypeId × Nat) × (Nat × TK)) : Prop :=
  ∃ fs f, P.underlying x.1.1 = some (.struct fs) ∧ fs[x.1.2]? = some f ∧ f.offset = x.2.1 ∧ ((P.underlying f.type).map dAgg) = some false
def ArOk (P : Program) (x : TypeId × (Nat × Nat)) : Prop := ∃ e, P.underlying x.1 = some (.array x.2.1 e) ∧ (P.info? e).map (·.size) = some x.2.2
structure TOk (P : Program) (T : Tys) : Prop where
  tk : ∀ x ∈ T.tk, TkOk P x
  sl : ∀ x ∈ T.sl, SlOk P x
  zs : ∀ x ∈ T.zs, ZsOk P x
  off : ∀ x ∈ T.off, OffOk P x
  fns : ∀ f ∈ T.fns, FnOk P f
  bs : ∀ x ∈ T.bs, BsOk P x
  mp : ∀ x ∈ T.mp, MpOk P x := by intro x hx; cases hx
  eqs : ∀ x ∈ T.eqs, EqOk P x := by intro x hx; cases hx
  fld : ∀ x ∈ T.fld, FldOk P x := by intro x hx; cases hx
  ars : ∀ x ∈ T.ars, ArOk P x := by intro x hx; cases hx

theorem look_mem {α : Type} {t : Nat} {a : α} : ∀ {l : List (Nat × α)}, look t l = some a → (t, a) ∈ l
  | [], h => by simp [look] at h
  | (u, b) :: r, h => by
    unfold look at h
    cases hb : t.beq u with
    | true =>
      rw [hb] at h
      have := Nat.eq_of_beq_eq_true hb
      simp at h
      subst this; subst h
      exact List.mem_cons_self
    | false => rw [hb] at h; exact List.mem_cons_of_mem _ (look_mem h)
theorem look2_mem {α : Type} {t i : Nat} {a : α} : ∀ {l : List ((Nat × Nat) × α)}, look2 t i l = some a → ((t, i), a) ∈ l
  | [], h => by simp [look2] at h
  | ((u, j), b) :: r, h => by
    unfold look2 at h
    cases hb : (t.beq u && i.beq j) with
    | true =>
      rw [hb] at h
      rw [Bool.and_eq_true] at hb
      have h1 := Nat.eq_of_beq_eq_true hb.1
      have h2 := Nat.eq_of_beq_eq_true hb.2
      simp at h
      subst h1; subst h2; subst h
      exact List.mem_cons_self
    | false => rw [hb] at h; exact List.mem_cons_of_mem _ (look2_mem h)

theorem run_isAgg {P : Program} {w : World} {t : TypeId} {k : TK} (h : TkOk P (t, k)) : (isAgg t).run P w = .ok k.isAgg w := by
  obtain ⟨⟨d, hd, ha, _⟩, _⟩ := h
  unfold isAgg
  simp only at hd ha
  rw [← ha]
  simp only [Sem.run_bind, run_underlying hd, Result.andThen_ok]
  cases d <;> rfl
theorem run_sizeOf' {P : Program} {w : World} {t : TypeId} {n : Nat} (h : (P.info? t).map (·.size) = some n) : (sizeOf t).run P w = .ok n w := by
  obtain ⟨i, hi, hs⟩ := Option.map_eq_some_iff.1 h
  simp [sizeOf, typeInfo, hi, hs]

theorem run_load_some {P : Program} {w : World} {a : Addr} {v : Value} (h : w.cell? a = some v) : (load a).run P w = .ok v w := by
  simp [load, Sem.run, h]

theorem run_loadAt {P : Program} {w : World} {t : TypeId} {k : TK} (ht : TkOk P (t, k)) {p : Addr} {x : k.T} (hx : holds w.heap p k x) :
    (Instr.loadAt t (.pointer (some p))).run P w = .ok (k.val x) w := by
  unfold Instr.loadAt loadVar
  simp only [Instr.sureAddr, Sem.run_bind, Sem.run_pure, Result.andThen_ok, run_isAgg ht]
  cases k with
  | agg n =>
    obtain ⟨hs, hc⟩ := hx
    have h2 := run_sizeOf' (w := w) (P := P) (t := t) (n := n) ht.2
    have h3 : (loadCells p n).run P w = .ok x w := by
      have := run_loadCells_list (P := P) (w := w) p x.toList (fun j v hj => by
        rw [cell_eq]; exact hc j v (by simpa using hj))
      simpa [hs] using this
    simp [TK.isAgg, h2, h3, TK.val]
  | int k => exact run_load_some hx
  | bool => exact run_load_some hx
  | str => exact run_load_some hx
  | sl => exact run_load_some hx
  | ptr => exact run_load_some hx
  | map => exact run_load_some hx
  | fn => exact run_load_some hx

theorem eqGuard_ok {P : Program} {w : World} {op : BinOp} {t : TypeId} {x y : Operand} {a b : Value} (h1 : a ≠ .nilIface) (h2 : ∀ cs, a ≠ .agg cs) :
    (eqGuard op t x y a b).run P w = .ok () w := by
  unfold eqGuard
  cases a <;> first | exact absurd rfl h1 | exact absurd rfl (h2 _) | (split <;> first | rfl | (simp))

theorem kEq_spec {k k' : IntKind} {p : Prop} (h : kEq k k' p) : k = k' ∧ p := by
  cases k <;> cases k' <;> simp_all [kEq]

theorem eq_slice_nil {P : Program} (w : World) (t e : TypeId) (a : Option Addr) (l c l' c' : Nat) (h : P.underlying t = some (.slice e)) : (Op.equal t (.slice a l c) (.slice none l' c')).run P w = .ok a.isNone w := by
  have : ∀ d, (Op.equalIn (d + 1) t (.slice a l c) (.slice none l' c')).run P w = .ok a.isNone w := fun d => by cases a <;> simp [Op.equalIn, run_underlying h]
  exact this 9999
theorem eq_map_nil {P : Program} (w : World) (t k e : TypeId) (a : Option Nat) (h : P.underlying t = some (.map k e)) : (Op.equal t (.map a) (.map none)).run P w = .ok a.isNone w := by
  have : ∀ d, (Op.equalIn (d + 1) t (.map a) (.map none)).run P w = .ok a.isNone w := fun d => by cases a <;> simp [Op.equalIn, run_underlying h]
  exact this 9999
theorem eq_ptr_nil {P : Program} (w : World) (t e : TypeId) (a : Option Addr) (h : P.underlying t = some (.pointer e)) : (Op.equal t (.pointer a) (.pointer none)).run P w = .ok a.isNone w := by
  have : ∀ d, (Op.equalIn (d + 1) t (.pointer a) (.pointer none)).run P w = .ok a.isNone w := fun d => by cases a <;> simp [Op.equalIn, run_underlying h]
  exact this 9999
theorem bop_sound {P : Program} {t : TypeId} {tk : TK} (ht : TkOk P (t, tk)) {op : BinOp} {x y : Operand} {a b : Value} {K : Value → Prop} (h : bop tk op a b K) :
    ∃ v, (∀ w : World, (do eqGuard op t x y a b; binOp op t a b : Sem Value).run P w = .ok v w) ∧ K v := by
  unfold bop at h
  split at h
  case h_1 => obtain ⟨rfl, hk⟩ := kEq_spec h; exact ⟨_, fun w => by simp [eqGuard_ok, binOp, Op.intArith], hk⟩
  case h_2 => obtain ⟨rfl, hk⟩ := kEq_spec h; exact ⟨_, fun w => by simp [eqGuard_ok, binOp, Op.intArith], hk⟩
  case h_3 => obtain ⟨rfl, hk⟩ := kEq_spec h; exact ⟨_, fun w => by simp [eqGuard_ok, binOp, Op.intArith], hk⟩
  case h_4 => obtain ⟨rfl, hi, hk⟩ := kEq_spec h; exact ⟨_, fun w => by simp [eqGuard_ok, binOp, Op.intDiv, hi], hk⟩
  case h_5 => obtain ⟨rfl, hk⟩ := kEq_spec h; exact ⟨_, fun w => by simp [eqGuard_ok, binOp, Op.intCmp], hk⟩
  case h_6 => obtain ⟨rfl, hk⟩ := kEq_spec h; exact ⟨_, fun w => by simp [eqGuard_ok, binOp, Op.intCmp], hk⟩
  case h_7 => obtain ⟨rfl, hk⟩ := kEq_spec h; exact ⟨_, fun w => by simp [eqGuard_ok, binOp, Op.intCmp], hk⟩
  case h_8 => obtain ⟨rfl, hk⟩ := kEq_spec h; exact ⟨_, fun w => by simp [eqGuard_ok, binOp, Op.intCmp], hk⟩
  case h_9 => obtain ⟨rfl, hk⟩ := kEq_spec h; exact ⟨_, fun w => by simp [eqGuard_ok, binOp, Op.intCmp], hk⟩
  case h_10 => obtain ⟨rfl, hk⟩ := kEq_spec h; exact ⟨_, fun w => by simp [eqGuard_ok, binOp, Op.intCmp], hk⟩
  case h_11 =>
    split at h
    · obtain ⟨⟨d, hd, _, rfl⟩, _⟩ := ht
      exact ⟨_, fun w => by simp [eqGuard_ok, run_eql_bool w t _ _ hd], h⟩
    · exact h.elim
  case h_12 =>
    split at h
    · obtain ⟨⟨d, hd, _, rfl⟩, _⟩ := ht
      exact ⟨_, fun w => by simp [eqGuard_ok, run_neq_bool w t _ _ hd], h⟩
    · exact h.elim
  case h_13 => exact ⟨_, fun w => by simp [eqGuard_ok, binOp, Op.stringOp], h⟩
  case h_14 => exact ⟨_, fun w => by simp [eqGuard_ok, binOp, Op.stringOp], h⟩
  case h_15 => exact ⟨_, fun w => by simp [eqGuard_ok, binOp, Op.stringOp], h⟩
  case h_16 =>
    obtain ⟨h1, h2⟩ := h
    exact ⟨_, fun w => by simp only [Sem.run_bind, eqGuard_ok (P := P) (w := w) (op := .add) (t := t) (x := x) (y := y) (a := .string _) (b := .string _) (by simp) (by simp), Result.andThen_ok, binOp, Op.stringOp]; rw [if_neg (by omega)]; rfl, h2⟩
  case h_17 =>
    split at h
    · obtain ⟨⟨d, hd, _, e, rfl⟩, _⟩ := ht
      exact ⟨_, fun w => by simp only [Sem.run_bind, eqGuard_ok (P := P) (w := w) (op := .eql) (t := t) (x := x) (y := y) (a := .slice _ _ _) (b := .slice none _ _) (by simp) (by simp), Result.andThen_ok, binOp, eq_slice_nil w t e _ _ _ _ _ hd]; rfl, h⟩
    · exact h.elim
  case h_18 =>
    split at h
    · obtain ⟨⟨d, hd, _, e, rfl⟩, _⟩ := ht
      exact ⟨_, fun w => by simp only [Sem.run_bind, eqGuard_ok (P := P) (w := w) (op := .neq) (t := t) (x := x) (y := y) (a := .slice _ _ _) (b := .slice none _ _) (by simp) (by simp), Result.andThen_ok, binOp, eq_slice_nil w t e _ _ _ _ _ hd]; rfl, h⟩
    · exact h.elim
  case h_19 =>
    split at h
    · obtain ⟨⟨d, hd, _, k, e, rfl⟩, _⟩ := ht
      exact ⟨_, fun w => by simp only [Sem.run_bind, eqGuard_ok (P := P) (w := w) (op := .eql) (t := t) (x := x) (y := y) (a := .map _) (b := .map none) (by simp) (by simp), Result.andThen_ok, binOp, eq_map_nil w t k e _ hd]; rfl, h⟩
    · exact h.elim
  case h_20 =>
    split at h
    · obtain ⟨⟨d, hd, _, k, e, rfl⟩, _⟩ := ht
      exact ⟨_, fun w => by simp only [Sem.run_bind, eqGuard_ok (P := P) (w := w) (op := .neq) (t := t) (x := x) (y := y) (a := .map _) (b := .map none) (by simp) (by simp), Result.andThen_ok, binOp, eq_map_nil w t k e _ hd]; rfl, h⟩
    · exact h.elim
  case h_21 =>
    split at h
    · obtain ⟨⟨d, hd, _, e, rfl⟩, _⟩ := ht
      exact ⟨_, fun w => by simp only [Sem.run_bind, eqGuard_ok (P := P) (w := w) (op := .eql) (t := t) (x := x) (y := y) (a := .pointer _) (b := .pointer none) (by simp) (by simp), Result.andThen_ok, binOp, eq_ptr_nil w t e _ hd]; rfl, h⟩
    · exact h.elim
  case h_22 =>
    split at h
    · obtain ⟨⟨d, hd, _, e, rfl⟩, _⟩ := ht
      exact ⟨_, fun w => by simp only [Sem.run_bind, eqGuard_ok (P := P) (w := w) (op := .neq) (t := t) (x := x) (y := y) (a := .pointer _) (b := .pointer none) (by simp) (by simp), Result.andThen_ok, binOp, eq_ptr_nil w t e _ hd]; rfl, h⟩
    · exact h.elim
  case h_23 => obtain ⟨rfl, hi, hk⟩ := kEq_spec h; exact ⟨_, fun w => by simp [eqGuard_ok, binOp, Op.intDiv, hi], hk⟩
  case h_24 => obtain ⟨hi, hk⟩ := h; exact ⟨_, fun w => by simp [eqGuard_ok, binOp, Op.shift, show ¬ _ < (0 : Int) from Int.not_lt.2 hi], hk⟩
  case h_25 => obtain ⟨hi, hk⟩ := h; exact ⟨_, fun w => by simp [eqGuard_ok, binOp, Op.shift, show ¬ _ < (0 : Int) from Int.not_lt.2 hi], hk⟩
  case h_26 => obtain ⟨rfl, hk⟩ := kEq_spec h; exact ⟨_, fun w => by simp [eqGuard_ok, binOp, Op.intBits], hk⟩
  case h_27 => obtain ⟨rfl, hk⟩ := kEq_spec h; exact ⟨_, fun w => by simp [eqGuard_ok, binOp, Op.intBits], hk⟩
  case h_28 => obtain ⟨rfl, hk⟩ := kEq_spec h; exact ⟨_, fun w => by simp [eqGuard_ok, binOp, Op.intBits], hk⟩
  case h_29 => exact ⟨_, fun w => by simp [eqGuard_ok, binOp, Op.stringOp], h⟩
  case h_30 => exact h.elim

theorem hcell_hset_some {h : Heap} {a b : Addr} {v : Value} (hs : (hcell h b).isSome = true) : (hcell (hset h a v) b).isSome = true := by
  unfold hcell hset at *
  rw [Array.getElem?_modify]
  by_cases e : a.block = b.block
  · rw [if_pos e]
    cases hb : h[b.block]? with
    | none => rw [hb] at hs; simp at hs
    | some o =>
      rw [hb] at hs
      cases o <;> simp at hs ⊢
      by_cases hsp : a.spot.isSome <;> by_cases hbs : b.spot.isSome <;> simp_all
  · rw [if_neg e]; exact hs
theorem hfrozen_hset {h : Heap} {a b : Addr} {v : Value} : hfrozen (hset h a v) b = hfrozen h b := by
  unfold hfrozen hset
  rw [Array.getElem?_modify]
  by_cases e : a.block = b.block
  · rw [if_pos e]
    cases hb : h[b.block]? with
    | none => simp
    | some o => cases o <;> simp
  · rw [if_neg e]

theorem run_storeCells' {P : Program} {p : Addr} : ∀ (vs : List Value) (i : Nat) (w : World), (∀ j, j < vs.length → (hcell w.heap (p.add (i + j))).isSome = true ∧ hfrozen w.heap (p.add (i + j)) = false) →
    (∀ v ∈ vs, v.oneCell' = true) → (storeCells p vs i).run P w = .ok () { w with heap := hsets w.heap p vs i }
  | [], i, w, _, _ => rfl
  | v :: vs, i, w, hc, h1 => by
    have h0 := hc 0 (by simp)
    simp only [Nat.add_zero] at h0
    unfold storeCells
    have hr := run_store P w (p.add i) v .plain (h1 v (by simp))
    obtain ⟨u, hu⟩ := Option.isSome_iff_exists.1 h0.1
    have hs : (store (p.add i) v).run P w = .ok () (w.setCell (p.add i) v) := by
      rw [hr]
      have h2 : w.cell? (p.add i) = some u := hu
      have h3 : w.frozen? (p.add i) = false := h0.2
      simp [h2, h3]
    rw [Sem.run_bind, hs, Result.andThen_ok]
    rw [run_storeCells' vs (i + 1) (w.setCell (p.add i) v) (fun j hj => by
      have := hc (j + 1) (by simpa using hj)
      rw [set_eq, hfrozen_hset]
      rw [show i + 1 + j = i + (j + 1) from by omega]
      exact ⟨hcell_hset_some this.1, this.2⟩) (fun v hv => h1 v (List.mem_cons_of_mem _ hv))]
    rfl

theorem fieldPlace_ok {P : Program} {w : World} {a : Addr} {f : Field} (h : ((P.info? f.type).map fun i => decide (i.size = 0)) = some false) :
    (fieldPlace a f).run P w = .ok (a.add f.offset) w := by
  obtain ⟨i, hi, hz⟩ := Option.map_eq_some_iff.1 h
  have hz' : i.size ≠ 0 := by simpa using hz
  simp [fieldPlace, sizeOf, typeInfo, hi, hz']

theorem hExt.refl (h : Heap) : hExt h h := fun _ _ e => e
theorem hExt.trans {a b c : Heap} (h : hExt a b) (k : hExt b c) : hExt a c := fun p v e => k p v (h p v e)
theorem hExt_push (h : Heap) (o : Obj) : hExt h (h.push o) := fun p v e => by
  unfold hcell at *
  cases hb : h[p.block]? with
  | none => rw [hb] at e; simp at e
  | some x =>
    have hlt : p.block < h.size := (Array.getElem?_eq_some_iff.1 hb).1
    rw [Array.getElem?_push_lt hlt]
    rw [hb] at e
    have : h[p.block] = x := (Array.getElem?_eq_some_iff.1 hb).2
    rw [this]
    exact e
theorem holds_ext {h h' : Heap} (he : hExt h h') {p : Addr} {k : TK} {x : k.T} (hx : holds h p k x) : holds h' p k x := by
  cases k with
  | agg n => exact ⟨hx.1, fun j v hj => he _ _ (hx.2 j v hj)⟩
  | int k => exact he _ _ hx
  | bool => exact he _ _ hx
  | str => exact he _ _ hx
  | sl => exact he _ _ hx
  | ptr => exact he _ _ hx
  | map => exact he _ _ hx
  | fn => exact he _ _ hx

theorem flat_agg {d : TypeDesc} {k : TK} (h : flatK d = some k) : dAgg d = false := by
  cases d <;> simp_all [flatK, dAgg]
theorem run_isAgg_flat {P : Program} {w : World} {t : TypeId} {d : TypeDesc} {k : TK} (hd : P.underlying t = some d) (h : flatK d = some k) : (isAgg t).run P w = .ok false w := by
  have := flat_agg h
  unfold isAgg
  cases d <;> simp_all [run_underlying hd, dAgg]
theorem eqFields_sound {P : Program} {d : Nat} {xs ys : Array Value} {w : World} : ∀ (fs : List Field) (ks : List TK) (n : Nat), fldsB P ks n fs = true → cellsAre ks (xs.toList.drop n) → cellsAre ks (ys.toList.drop n) →
    (Op.eqFields (d + 1) xs ys fs).run P w = .ok (cellsEq (xs.toList.drop n) (ys.toList.drop n)) w
  | [], [], n, _, hx, hy => by
    cases e : xs.toList.drop n with
    | nil => rw [Op.eqFields]; rfl
    | cons a l => rw [e] at hx; exact hx.elim
  | [], _ :: _, _, h, _, _ => by cases h
  | _ :: _, [], _, h, _, _ => by cases h
  | f :: fs, k :: ks, n, h, hx, hy => by
    simp only [fldsB, Bool.and_eq_true] at h
    obtain ⟨⟨⟨h1, h2⟩, h3⟩, h4⟩ := h
    have hn : f.name ≠ "_" := by simpa using h1
    have ho := Nat.eq_of_beq_eq_true h2
    cases ex : xs.toList.drop n with
    | nil => rw [ex] at hx; exact hx.elim
    | cons a la =>
    cases ey : ys.toList.drop n with
    | nil => rw [ey] at hy; exact hy.elim
    | cons b lb =>
    rw [ex] at hx
    rw [ey] at hy
    obtain ⟨⟨u, hu⟩, hx'⟩ := hx
    obtain ⟨⟨v, hv⟩, hy'⟩ := hy
    have hxd : xs.toList.drop (n + 1) = la := by rw [← List.tail_drop, ex]; rfl
    have hyd : ys.toList.drop (n + 1) = lb := by rw [← List.tail_drop, ey]; rfl
    have hxn : xs[n]? = some a := by rw [← Array.getElem?_toList, ← List.head?_drop, ex]; rfl
    have hyn : ys[n]? = some b := by rw [← Array.getElem?_toList, ← List.head?_drop, ey]; rfl
    cases hu1 : P.underlying f.type with
    | none => rw [hu1] at h3; cases h3
    | some dsc =>
    rw [hu1] at h3
    cases hfk : flatK dsc with
    | none => simp only [Option.bind_some, hfk] at h3; cases h3
    | some k' =>
    simp only [Option.bind_some, hfk, decide_eq_true_eq] at h3
    subst h3
    have ha : ∀ w : World, (isAgg f.type).run P w = .ok false w := fun w => run_isAgg_flat hu1 hfk
    have hp1 : ∀ w : World, (part f.type xs f.offset).run P w = .ok a w := fun w => by simp [part, ha, ho, hxn]
    have hp2 : ∀ w : World, (part f.type ys f.offset).run P w = .ok b w := fun w => by simp [part, ha, ho, hyn]
    have he : ∀ w : World, (Op.equalIn (d + 1) f.type a b).run P w = .ok (cellEq a b) w := fun w => by
      subst hu; subst hv
      cases dsc <;> simp only [flatK, Option.some.injEq, reduceCtorEq] at hfk
      all_goals subst hfk
      · exact run_equalIn_bool' w d _ _ _ hu1
      · exact run_equalIn_int w d _ _ _ _ _ hu1
      · exact run_equalIn_string w d _ _ _ hu1
    have ih := eqFields_sound (d := d) (w := w) fs ks (n + 1) h4 (by rw [hxd]; exact hx') (by rw [hyd]; exact hy')
    rw [hxd, hyd] at ih
    rw [Op.eqFields, if_pos hn]
    simp only [Sem.run_bind, hp1, hp2, he, Result.andThen_ok, Sem.run_ite]
    simp only [cellsEq]
    cases cellEq a b
    · simp
    · simpa using ih
theorem fldsB_len {P : Program} : ∀ {fs : List Field} {ks : List TK} {n : Nat}, fldsB P ks n fs = true → ks.length = fs.length
  | [], [], _, _ => rfl
  | [], _ :: _, _, h => by cases h
  | _ :: _, [], _, h => by cases h
  | f :: fs, k :: ks, n, h => by
    simp only [fldsB, Bool.and_eq_true] at h
    simp [fldsB_len h.2]
theorem cellsAre_split : ∀ {ks js : List TK} {l : List Value}, cellsAre (ks ++ js) l → cellsAre ks (l.take ks.length) ∧ cellsAre js (l.drop ks.length)
  | [], _, _, h => ⟨trivial, by simpa using h⟩
  | k :: ks, js, [], h => h.elim
  | k :: ks, js, v :: l, h => ⟨⟨h.1, (cellsAre_split h.2).1⟩, (cellsAre_split h.2).2⟩
theorem cellsAre_len : ∀ {ks : List TK} {l : List Value}, cellsAre ks l → l.length = ks.length
  | [], [], _ => rfl
  | [], _ :: _, h => h.elim
  | _ :: _, [], h => h.elim
  | k :: ks, v :: l, h => by simp [cellsAre_len h.2]
theorem cellsEq_split : ∀ (a b : List Value) (m : Nat), cellsEq a b = (cellsEq (a.take m) (b.take m) && cellsEq (a.drop m) (b.drop m))
  | a, b, 0 => by
    cases a <;> cases b <;> simp [cellsEq]
  | [], b, m + 1 => by simp [cellsEq]
  | a :: as, [], m + 1 => by simp [cellsEq]
  | a :: as, b :: bs, m + 1 => by
    simp only [cellsEq, List.take_succ_cons, List.drop_succ_cons]
    rw [cellsEq_split as bs m, Bool.and_assoc]
theorem eqFields2_sound {P : Program} {d : Nat} {xs ys : Array Value} {w : World} : ∀ (fs : List Field) (ks : List TK) (n : Nat), flds2B P ks n fs = true → cellsAre ks (xs.toList.drop n) → cellsAre ks (ys.toList.drop n) →
    (Op.eqFields (d + 3) xs ys fs).run P w = .ok (cellsEq (xs.toList.drop n) (ys.toList.drop n)) w
  | [], [], n, _, hx, hy => by
    cases e : xs.toList.drop n with
    | nil => rw [Op.eqFields]; rfl
    | cons a l => rw [e] at hx; exact hx.elim
  | [], _ :: _, _, h, _, _ => by simp [flds2B] at h
  | f :: fs, ks, n, h, hx, hy => by
    have h : ((f.name != "_") && Nat.beq f.offset n && match (generalizing := false) P.underlying f.type with
      | some (.struct gs) => !P.stoodInHeld f.type && (match (generalizing := false) (P.info? f.type).map (·.size) with
        | some m => Nat.beq m gs.size && Nat.ble m ks.length && fldsB P (ks.take m) 0 gs.toList && flds2B P (ks.drop m) (n + m) fs
        | none => false)
      | some d => (match (generalizing := false) flatK d, ks with
        | some k', k :: ks' => decide (k' = k) && flds2B P ks' (n + 1) fs
        | _, _ => false)
      | none => false) = true := by cases ks <;> exact h
    rw [Bool.and_eq_true, Bool.and_eq_true] at h
    obtain ⟨⟨h1, h2⟩, h3⟩ := h
    have hn : f.name ≠ "_" := by simpa using h1
    have ho := Nat.eq_of_beq_eq_true h2
    split at h3
    · rename_i gs hu1
      rw [Bool.and_eq_true] at h3
      obtain ⟨hst, h3⟩ := h3
      split at h3
      · rename_i m hm
        simp only [Bool.and_eq_true] at h3
        obtain ⟨⟨⟨hmg, hmk⟩, hf⟩, hrest⟩ := h3
        have hmg := Nat.eq_of_beq_eq_true hmg
        have hmk := Nat.le_of_ble_eq_true hmk
        obtain ⟨inf, hinf, hsz⟩ := Option.map_eq_some_iff.1 hm
        have hlt : (ks.take m).length = m := by simp; omega
        have hx2 := cellsAre_split (ks := ks.take m) (js := ks.drop m) (l := xs.toList.drop n) (by rw [List.take_append_drop]; exact hx)
        have hy2 := cellsAre_split (ks := ks.take m) (js := ks.drop m) (l := ys.toList.drop n) (by rw [List.take_append_drop]; exact hy)
        rw [hlt] at hx2 hy2
        have hfo : P.fieldsOf f.type = gs := by unfold Program.fieldsOf; rw [hu1]
        have hag : ∀ w : World, (isAgg f.type).run P w = .ok true w := fun w => by
          unfold isAgg
          simp only [Sem.run_bind, run_underlying hu1, Result.andThen_ok]
          rfl
        have hsz2 : ∀ w : World, (sizeOf f.type).run P w = .ok m w := fun w => run_sizeOf' hm
        have hp1 : ∀ w : World, (part f.type xs f.offset).run P w = .ok (.agg (xs.extract n (n + m))) w := fun w => by simp [part, hag, hsz2, ho]
        have hp2 : ∀ w : World, (part f.type ys f.offset).run P w = .ok (.agg (ys.extract n (n + m))) w := fun w => by simp [part, hag, hsz2, ho]
        have hex : ∀ zs : Array Value, (zs.extract n (n + m)).toList = (zs.toList.drop n).take m := fun zs => by
          rw [Array.toList_extract, List.extract_eq_take_drop]
          congr 1
          omega
        have he : ∀ w : World, (Op.equalIn (d + 3) f.type (.agg (xs.extract n (n + m))) (.agg (ys.extract n (n + m)))).run P w = .ok (cellsEq ((xs.toList.drop n).take m) ((ys.toList.drop n).take m)) w := fun w => by
          rw [show d + 3 = (d + 2) + 1 from rfl, run_equalIn_agg w (d + 2) f.type _ _ (by rw [hfo]; exact hu1) (by simpa using hst), hfo]
          have := eqFields_sound (P := P) (d := d + 1) (w := w) (xs := xs.extract n (n + m)) (ys := ys.extract n (n + m)) gs.toList (ks.take m) 0 hf (by rw [List.drop_zero, hex]; exact hx2.1) (by rw [List.drop_zero, hex]; exact hy2.1)
          rw [List.drop_zero, List.drop_zero, hex, hex] at this
          exact this
        have ih := eqFields2_sound (d := d) (w := w) fs (ks.drop m) (n + m) hrest (by rw [← List.drop_drop]; exact hx2.2) (by rw [← List.drop_drop]; exact hy2.2)
        rw [Op.eqFields, if_pos hn]
        simp only [Sem.run_bind, hp1, hp2, he, Result.andThen_ok, Sem.run_ite]
        rw [cellsEq_split (xs.toList.drop n) (ys.toList.drop n) m, List.drop_drop, List.drop_drop]
        cases cellsEq ((xs.toList.drop n).take m) ((ys.toList.drop n).take m)
        · simp
        · simpa using ih
      · cases h3
    · rename_i dsc hns hu1
      split at h3
      · rename_i k' k ks' hfk
        simp only [Bool.and_eq_true, decide_eq_true_eq] at h3
        obtain ⟨rfl, h4⟩ := h3
        cases ex : xs.toList.drop n with
        | nil => rw [ex] at hx; exact hx.elim
        | cons a la =>
        cases ey : ys.toList.drop n with
        | nil => rw [ey] at hy; exact hy.elim
        | cons b lb =>
        rw [ex] at hx
        rw [ey] at hy
        obtain ⟨⟨u, hu⟩, hx'⟩ := hx
        obtain ⟨⟨v, hv⟩, hy'⟩ := hy
        have hxd : xs.toList.drop (n + 1) = la := by rw [← List.tail_drop, ex]; rfl
        have hyd : ys.toList.drop (n + 1) = lb := by rw [← List.tail_drop, ey]; rfl
        have hxn : xs[n]? = some a := by rw [← Array.getElem?_toList, ← List.head?_drop, ex]; rfl
        have hyn : ys[n]? = some b := by rw [← Array.getElem?_toList, ← List.head?_drop, ey]; rfl
        have ha : ∀ w : World, (isAgg f.type).run P w = .ok false w := fun w => run_isAgg_flat hu1 hfk
        have hp1 : ∀ w : World, (part f.type xs f.offset).run P w = .ok a w := fun w => by simp [part, ha, ho, hxn]
        have hp2 : ∀ w : World, (part f.type ys f.offset).run P w = .ok b w := fun w => by simp [part, ha, ho, hyn]
        have he : ∀ w : World, (Op.equalIn (d + 3) f.type a b).run P w = .ok (cellEq a b) w := fun w => by
          subst hu; subst hv
          cases dsc <;> simp only [flatK, Option.some.injEq, reduceCtorEq] at hfk
          all_goals subst hfk
          · exact run_equalIn_bool' w (d + 2) _ _ _ hu1
          · exact run_equalIn_int w (d + 2) _ _ _ _ _ hu1
          · exact run_equalIn_string w (d + 2) _ _ _ hu1
        have ih := eqFields2_sound (d := d) (w := w) fs ks' (n + 1) h4 (by rw [hxd]; exact hx') (by rw [hyd]; exact hy')
        rw [hxd, hyd] at ih
        rw [Op.eqFields, if_pos hn]
        simp only [Sem.run_bind, hp1, hp2, he, Result.andThen_ok, Sem.run_ite]
        simp only [cellsEq]
        cases cellEq a b
        · simp
        · simpa using ih
      · cases h3
    · cases h3
theorem eq_sound {P : Program} {t : TypeId} {ks : List TK} (h : EqOk P (t, ks)) {a b : Array Value} (ha : cellsAre ks a.toList) (hb : cellsAre ks b.toList) (x y : Operand) (w : World) :
    (do eqGuard .eql t x y (.agg a) (.agg b); binOp .eql t (.agg a) (.agg b) : Sem Value).run P w = .ok (.bool (cellsEq a.toList b.toList)) w ∧
    (do eqGuard .neq t x y (.agg a) (.agg b); binOp .neq t (.agg a) (.agg b) : Sem Value).run P w = .ok (.bool (!cellsEq a.toList b.toList)) w := by
  obtain ⟨h1, h2, h3, h4⟩ := h
  have hf : (Op.equalIn 10000 t (.agg a) (.agg b)).run P w = .ok (cellsEq a.toList b.toList) w := by
    rw [show (10000 : Nat) = 9999 + 1 from rfl, run_equalIn_agg w 9999 t a b h1 h2]
    have := eqFields2_sound (P := P) (d := 9996) (w := w) _ ks 0 h4 (by simpa using ha) (by simpa using hb)
    simpa using this
  constructor
  · rw [Sem.run_bind, run_eqGuard_agg w _ t x y a b h3, Result.andThen_ok, run_eql_struct, hf]; rfl
  · rw [Sem.run_bind, run_eqGuard_agg w _ t x y a b h3, Result.andThen_ok, run_neq_struct, hf]; rfl
theorem bytes_arr (z : ByteArray) : Array.map (fun b : UInt8 => Value.int IntKind.u8 (b.toNat : Int)) z.data = (bytesV z).toArray := by
  apply Array.toList_inj.1
  rw [Array.toList_map]
  rfl
theorem run_firstCells_str {P : Program} (w : World) (size : Nat) (z : ByteArray) : (Builtin.firstCells size z.size (.string z)).run P w = .ok (bytesV z).toArray w := by
  have h : z.extract 0 z.size = z := by
    apply ByteArray.ext
    rw [ByteArray.data_extract]
    show z.data.extract 0 z.data.size = z.data
    exact Array.extract_size
  rw [← bytes_arr]
  simp [Builtin.firstCells, h]
theorem len_bytesV (z : ByteArray) : (bytesV z).length = z.size := by
  unfold bytesV
  rw [List.length_map, Array.length_toList]
  rfl
theorem one_bytesV (z : ByteArray) : ∀ u ∈ bytesV z, u.oneCell' = true := by
  intro u hu
  unfold bytesV at hu
  obtain ⟨b, _, rfl⟩ := List.mem_map.1 hu
  rfl
theorem bytes_back (z : ByteArray) : (⟨ByteArray.empty.data ++ ((z.data.toList.map fun b => (b.toNat : Int)).map fun n => UInt8.ofNat n.toNat).toArray⟩ : ByteArray) = z := by
  apply ByteArray.ext
  apply Array.toList_inj.1
  simp only [Array.toList_append, List.map_map]
  rw [show ByteArray.empty.data.toList = [] from rfl, List.nil_append]
  rw [show ((fun n : Int => UInt8.ofNat n.toNat) ∘ fun b : UInt8 => (b.toNat : Int)) = id from funext fun b => by simp]
  simp
theorem opR_sound {P : Program} {T : Tys} (hT : TOk P T) {o : Oper} {env : Env} {K : Value → Prop} {hp0 : Heap} (h : opR T o env hp0 K) :
    ∃ v, (∀ w : World, (clsOf o = .pure ∨ hExt hp0 w.heap) → (execOp (ev env) o).run P w = .ok (.value v) w) ∧ K v := by
  unfold opR at h
  split at h
  case h_1 x hx => exact ⟨_, fun w hw => by simp [execOp, hx], h⟩
  case h_2 x hx => exact ⟨_, fun w hw => by simp [execOp, hx], h⟩
  case h_3 c a b hx =>
    split at h
    · rename_i hc; exact ⟨_, fun w hw => by simp [execOp, hx, hc, asBool], h⟩
    · rename_i hc; exact ⟨_, fun w hw => by simp [execOp, hx, hc, asBool], h⟩
    · exact h.elim
  case h_4 t p hx =>
    split at h
    · rename_i k q hk hp
      obtain ⟨x, hh, hK⟩ := h
      exact ⟨_, fun w hw => by
        have hw' : hExt hp0 w.heap := by
          rcases hw with hw | hw
          · simp [clsOf, hx] at hw
          · exact hw
        have hl := run_loadAt (P := P) (w := w) (hT.tk _ (look_mem hk)) (holds_ext hw' hh)
        simp [execOp, hx, hp, hl], hK⟩
    · exact h.elim
  case h_5 x hx =>
    split at h
    · rename_i a ha
      cases a with
      | none => exact h.elim
      | some p => exact ⟨_, fun w hw => by simp [execOp, hx, ha], h⟩
    · exact h.elim
  case h_6 op t x y ty hx =>
    split at h
    · rename_i n htk
      split at h
      · rename_i ks a b he ha hb
        obtain ⟨h1, h2, hK⟩ := h
        refine ⟨_, fun w hw => ?_, hK⟩
        simp only [execOp, hx, ha, hb]
        rw [Sem.run_bind, (eq_sound (hT.eqs _ (look_mem he)) h1 h2 x y w).1]
        rfl
      · rename_i ks a b he ha hb
        obtain ⟨h1, h2, hK⟩ := h
        refine ⟨_, fun w hw => ?_, hK⟩
        simp only [execOp, hx, ha, hb]
        rw [Sem.run_bind, (eq_sound (hT.eqs _ (look_mem he)) h1 h2 x y w).2]
        rfl
      · exact h.elim
    · rename_i tk _ htk
      obtain ⟨v, hv, hK⟩ := bop_sound (x := x) (y := y) (hT.tk _ (look_mem htk)) h
      refine ⟨v, fun w hw => ?_, hK⟩
      simp only [execOp, hx]
      rw [Sem.run_bind, hv]
      rfl
    · exact h.elim
  case h_7 t x hx =>
    split at h
    · rename_i b hb; exact ⟨_, fun w hw => by simp [execOp, hx, hb, Op.unary], h⟩
    · exact h.elim
  case h_8 t x hx =>
    split at h
    · rename_i k n hb
      refine ⟨_, fun w hw => ?_, h⟩
      simp only [execOp, hx, hb, Op.unary, Op.intArith]
      rfl
    · exact h.elim
  case h_9 s t x hx =>
    split at h
    · rename_i ks k k' n hsrc hk hb
      obtain ⟨⟨d, hd, _, rfl⟩, _⟩ := hT.tk _ (look_mem hk)
      simp only at hd
      have hd' : P.underlying t = some (.int (P.intKind t)) := by simp [Program.intKind, hd]
      have hk2 : P.intKind t = k := by simp [Program.intKind, hd]
      obtain ⟨⟨ds, hds, _, _⟩, _⟩ := hT.tk _ (look_mem hsrc)
      refine ⟨_, fun w hw => ?_, h⟩
      have hr := run_convert_int w s t k' n (by rw [hds]; rfl) hd'
      rw [hk2] at hr
      simp [execOp, hx, hb, hr]
    · rename_i a n c hsrc hk hb
      split at h
      · rename_i e he
        split at h
        · rename_i hu8 hbyte
          obtain ⟨z, hz, hcs, hK⟩ := h
          obtain ⟨⟨d, hd, _, rfl⟩, _⟩ := hT.tk _ (look_mem hk)
          obtain ⟨⟨d8, hd8, _, rfl⟩, _⟩ := hT.tk _ (look_mem hu8)
          obtain ⟨s1, _⟩ := hT.sl _ (look_mem he)
          simp only at hd hd8 s1 hz
          refine ⟨_, fun w hw => ?_, hK⟩
          have hw' : hExt hp0 w.heap := by
            rcases hw with hw | hw
            · unfold clsOf at hw
              rw [hx] at hw
              simp only at hw
              split at hw
              · cases hw
              · rename_i hbt
                exact absurd hbyte (by rw [hbt]; exact Bool.false_ne_true)
            · exact hw
          have hr : (convert s t (.slice a n c)).run P w = .ok (.string z) w := by
            rw [run_convert_bytes_string w s t e.e a n c s1 hd8 hd]
            cases a with
            | none =>
              rcases hcs with hcs | ⟨_, h0, _⟩
              · have : z = ByteArray.empty := ByteArray.ext (Array.eq_empty_of_size_eq_zero hcs)
                subst this
                simp [Conv.bytesToString]
              · cases h0
            | some p =>
              have hl : (loadCells p n).run P w = .ok (((z.data.toList.map fun b => (b.toNat : Int))).map (Value.int .u8)).toArray w := by
                have := run_loadCells_list (P := P) (w := w) p (bytesV z) (fun j v hj => by
                  rcases hcs with hcs | ⟨q, hq, hcs⟩
                  · have h0 := (List.getElem?_eq_some_iff.1 hj).1
                    rw [len_bytesV] at h0
                    omega
                  · simp only [Option.some.injEq] at hq
                    subst hq
                    rw [cell_eq]
                    exact hw' _ _ (hcs j v hj))
                rw [len_bytesV, hz] at this
                rw [this, List.map_map]
                rfl
              rw [run_bytesToString w p n c _ hl, foldl_push_bytes, bytes_back]
          simp [execOp, hx, hb, hr]
        · exact h.elim
      · exact h.elim
    · exact h.elim
  case h_10 t parts hx =>
    split at h
    · rename_i b hb
      obtain ⟨cs, hf, hK⟩ := h
      obtain ⟨fs, h1, h2, h3⟩ := hT.bs _ (look_mem hb)
      simp only at h1 h2 h3
      refine ⟨_, fun w hw => ?_, hK⟩
      obtain ⟨i, hi, hz⟩ := Option.map_eq_some_iff.1 h3
      have hbt : P.built t (parts.map fun (x : Nat × Operand) => (x.1, ev env x.2)).toList = some cs := by
        unfold Program.built
        rw [hi, h1]
        simp only [hz, h2]
        rw [Array.toList_map]
        exact hf
      have hr := run_build w t _ cs hbt
      simp [execOp, hx, hr]
    · exact h.elim
  case h_11 t p i hx =>
    split at h
    · rename_i off q ho hp
      obtain ⟨fs, f, h1, h2, h3, h4⟩ := hT.off _ (look2_mem ho)
      simp only at h1 h2 h3
      refine ⟨_, fun w hw => ?_, h⟩
      have hf := fieldPlace_ok (P := P) (w := w) (a := q) h4
      simp [execOp, hx, hp, Instr.fieldAt, run_underlying h1, h2, Instr.sureAddr, hf, h3]
    · exact h.elim
  case h_12 t x i hx =>
    split at h
    · rename_i e a n c k i' he hv hi
      obtain ⟨q, ha, h0, h1, hK⟩ := h
      simp only at ha h1
      subst ha
      obtain ⟨s1, s2, s3, s4⟩ := hT.sl _ (look_mem he)
      simp only at s1 s2 s3 s4
      obtain ⟨inf, hinf, hz⟩ := Option.map_eq_some_iff.1 s2
      simp only [Prod.mk.injEq] at hz
      refine ⟨_, fun w hw => ?_, hK⟩
      simp [execOp, hx, hv, hi, Instr.indexAt, run_underlying s1, asIntOf, h0, h1, sizeOf, typeInfo, hinf, hz.2.1]
    · rename_i p k i' he hv hi
      split at h
      · rename_i q hq
        obtain ⟨h0, h1, hK⟩ := h
        obtain ⟨e, u1, u2⟩ := hT.ars _ (look_mem hq)
        simp only at u1 u2
        obtain ⟨inf, hinf, hz⟩ := Option.map_eq_some_iff.1 u2
        refine ⟨_, fun w hw => ?_, hK⟩
        simp [execOp, hx, hv, hi, Instr.indexAt, Instr.sureAddr, run_underlying u1, asIntOf, h0, h1, sizeOf, typeInfo, hinf, hz]
      · exact h.elim
    · exact h.elim
  case h_13 t x i hx =>
    split at h
    · rename_i s k i' ht hv hi
      obtain ⟨h0, b, hb, hK⟩ := h
      obtain ⟨⟨d, hd, _, rfl⟩, _⟩ := hT.tk _ (look_mem ht)
      simp only at hd
      obtain ⟨hlt, rfl⟩ := List.getElem?_eq_some_iff.1 hb
      have hlt' : i'.toNat < s.size := by rw [Array.length_toList] at hlt; exact hlt
      refine ⟨_, fun w hw => ?_, hK⟩
      have hr := run_index_string (P := P) (w := w) t s k i' hd
      rw [dif_pos ⟨h0, by omega⟩] at hr
      simp [execOp, hx, hv, hi, hr]
      rfl
    · exact h.elim
  case h_14 t x lo hi hx =>
    have key : ∀ (e : SlI) (a : Option Addr) (n c : Nat) (l u : Option (IntKind × Int)) (K : Sl → Prop), look t T.sl = some e → slc e.size ⟨a, n, c⟩ (l.map (·.2)) (u.map (·.2)) K →
        ∃ s : Sl, (∀ w : World, (Instr.sliceAt t (.slice a n c) (l.map fun x => .int x.1 x.2) (u.map fun x => .int x.1 x.2) none).run P w = .ok s.v w) ∧ K s := by
      intro e a n c l u K he hs
      obtain ⟨s1, s2, s3, s4⟩ := hT.sl _ (look_mem he)
      simp only at s1 s2 s3 s4
      obtain ⟨inf, hinf, hz⟩ := Option.map_eq_some_iff.1 s2
      simp only [Prod.mk.injEq] at hz
      have hel : P.elem t = e.e := by simp [Program.elem, s1]
      have s1' : P.underlying t = some (.slice (P.elem t)) := by rw [hel]; exact s1
      have hsz : ∀ w : World, (sizeOf (P.elem t)).run P w = .ok e.size w := by intro w; rw [hel]; simp [sizeOf, typeInfo, hinf, hz.2.1]
      obtain ⟨h0, h1, h2, hK⟩ := hs
      refine ⟨_, fun w => ?_, hK⟩
      rw [run_sliceAt_slice w t _ _ _ _ s1']
      cases l with
      | none => cases u with
        | none => simp only [Option.map_none]; rw [run_slice_all w t a n c s1', hsz]; simp [sliced, Sl.v]
        | some u =>
          simp only [Option.getD_none, Option.getD_some, Option.map_none, Option.map_some] at *
          rw [run_slice_h w t a n c s1' u.1 u.2 (by omega) h2, hsz]; simp [sliced, Sl.v]
      | some l => cases u with
        | none =>
          simp only [Option.getD_none, Option.getD_some, Option.map_none, Option.map_some] at *
          rw [run_slice_l w t a n c s1' l.1 l.2 h0 h1, hsz]; simp [sliced, Sl.v]
        | some u =>
          simp only [Option.getD_some, Option.map_some] at *
          rw [run_slice_lh w t a n c s1' l.1 u.1 l.2 u.2 h0 h1 h2, hsz]; simp [sliced, Sl.v]
    split at h
    · rename_i e a n c he hv hl hh
      obtain ⟨s, hr, hK⟩ := key e a n c none none _ he h
      refine ⟨s.v, fun w hw => ?_, hK⟩
      simp only [Option.map_none] at hr
      simp [execOp, hx, hv, hl, hh, hr]
    · rename_i e a n c k l he hv hl hh
      obtain ⟨s, hr, hK⟩ := key e a n c (some (k, l)) none _ he h
      refine ⟨s.v, fun w hw => ?_, hK⟩
      simp only [Option.map_none, Option.map_some] at hr
      simp [execOp, hx, hv, hl, hh, hr]
    · rename_i e a n c k l he hv hl hh
      obtain ⟨s, hr, hK⟩ := key e a n c none (some (k, l)) _ he h
      refine ⟨s.v, fun w hw => ?_, hK⟩
      simp only [Option.map_none, Option.map_some] at hr
      simp [execOp, hx, hv, hl, hh, hr]
    · rename_i e a n c k l k' l' he hv hl hh
      obtain ⟨s, hr, hK⟩ := key e a n c (some (k, l)) (some (k', l')) _ he h
      refine ⟨s.v, fun w hw => ?_, hK⟩
      simp only [Option.map_some] at hr
      simp [execOp, hx, hv, hl, hh, hr]
    · rename_i z k l he hv hl hh
      split at h
      · rename_i ht
        obtain ⟨h0, h1, h2, hK⟩ := h
        simp only [Option.getD_some, Option.getD_none] at h0 h1 h2 hK
        obtain ⟨⟨d, hd, _, rfl⟩, _⟩ := hT.tk _ (look_mem ht)
        simp only at hd
        refine ⟨_, fun w hw => ?_, hK⟩
        have hr := run_slice_string_l (P := P) (w := w) t z hd k l h0 h1
        simp [execOp, hx, hv, hl, hh, run_sliceAt_string (P := P) (w := w) t _ _ _ _ hd, hr]
      · exact h.elim
    · rename_i z k l he hv hl hh
      split at h
      · rename_i ht
        obtain ⟨h0, h1, h2, hK⟩ := h
        simp only [Option.getD_some, Option.getD_none] at h0 h1 h2 hK
        obtain ⟨⟨d, hd, _, rfl⟩, _⟩ := hT.tk _ (look_mem ht)
        simp only at hd
        refine ⟨_, fun w hw => ?_, hK⟩
        have hr := run_slice_string_h (P := P) (w := w) t z hd k l h1 h2
        simp [execOp, hx, hv, hl, hh, run_sliceAt_string (P := P) (w := w) t _ _ _ _ hd, hr]
      · exact h.elim
    · rename_i z k l k' u he hv hl hh
      split at h
      · rename_i ht
        obtain ⟨h0, h1, h2, hK⟩ := h
        simp only [Option.getD_some] at h0 h1 h2 hK
        obtain ⟨⟨d, hd, _, rfl⟩, _⟩ := hT.tk _ (look_mem ht)
        simp only at hd
        refine ⟨_, fun w hw => ?_, hK⟩
        have hr := run_slice_string (P := P) (w := w) t z k k' l u hd h0 h1 h2
        simp [execOp, hx, hv, hl, hh, run_sliceAt_string (P := P) (w := w) t _ _ _ _ hd, hr]
      · exact h.elim
    · exact h.elim
  case h_15 x i hx =>
    split at h
    · rename_i vs hv
      split at h
      · rename_i v hvv
        refine ⟨v, fun w hw => ?_, h⟩
        have : vs[i]? = some v := by simpa using hvv
        simp [execOp, hx, hv, Instr.extract, this]
      · exact h.elim
    · exact h.elim
  case h_16 c hx =>
    obtain ⟨callee, args, tys⟩ := c
    simp only at h
    split at h
    case h_1 _ _ _ x t ha hy =>
      have ha' : args = #[x] := by rw [← Array.toList_inj, ha]
      have hy' : tys = #[t] := by rw [← Array.toList_inj, hy]
      subst ha'; subst hy'
      split at h
      · rename_i e a n c he hv
        obtain ⟨s1, _⟩ := hT.sl _ (look_mem he)
        simp only at s1
        have hel : P.elem t = e.e := by simp [Program.elem, s1]
        have s1' : P.underlying t = some (.slice (P.elem t)) := by rw [hel]; exact s1
        refine ⟨_, fun w hw => ?_, h⟩
        simp [execOp, hx, resolve, invoke, builtin, hv, run_len_slice w t o.type a n c s1', goInt]
      · rename_i s he hv
        obtain ⟨⟨d, hd, _, rfl⟩, _⟩ := hT.tk _ (look_mem he)
        simp only at hd
        refine ⟨_, fun w hw => ?_, h⟩
        simp [execOp, hx, resolve, invoke, builtin, hv, run_len_string w t o.type s hd, goInt]
      · exact h.elim
    case h_2 _ _ _ x y ha =>
      have ha' : args = #[x, y] := by rw [← Array.toList_inj, ha]
      subst ha'
      split at h
      · rename_i k a k' b hv hv2
        refine ⟨_, fun w hw => ?_, h⟩
        simp [execOp, hx, resolve, invoke, builtin, hv, hv2, run_min_int2]
      · exact h.elim
    case h_3 _ _ _ x y ha =>
      have ha' : args = #[x, y] := by rw [← Array.toList_inj, ha]
      subst ha'
      split at h
      · rename_i k a k' b hv hv2
        refine ⟨_, fun w hw => ?_, h⟩
        simp [execOp, hx, resolve, invoke, builtin, hv, hv2, run_max_int2]
      · exact h.elim
    case h_4 _ _ _ x t ha hy =>
      have ha' : args = #[x] := by rw [← Array.toList_inj, ha]
      have hy' : tys = #[t] := by rw [← Array.toList_inj, hy]
      subst ha'; subst hy'
      split at h
      · rename_i e a n c he hv
        obtain ⟨s1, _⟩ := hT.sl _ (look_mem he)
        simp only at s1
        have hel : P.elem t = e.e := by simp [Program.elem, s1]
        have s1' : P.underlying t = some (.slice (P.elem t)) := by rw [hel]; exact s1
        refine ⟨_, fun w hw => ?_, h⟩
        simp [execOp, hx, resolve, invoke, builtin, hv, run_cap_slice w t o.type a n c s1', goInt]
      · exact h.elim
    case h_5 => exact h.elim
  case h_17 g f caps hx =>
    split at h
    · rename_i hf
      have hf' : f = #[] := by rw [← Array.toList_inj, hf]
      subst hf'
      refine ⟨_, fun w hw => ?_, h⟩
      simp only [execOp, hx, Instr.makeFunc]
      rw [← Array.toList_map, Array.toArray_toList]
      simp only [Sem.run_bind, Sem.run_pure, Result.andThen_ok]
      rw [show Array.map (ev env) #[] = #[] by simp]
    · exact h.elim
  case h_18 t x i hx =>
    split at h
    · rename_i off k cs hl hv
      obtain ⟨y, hy, hK⟩ := h
      obtain ⟨fs, f, h1, h2, h3, h4⟩ := hT.fld _ (look2_mem hl)
      simp only at h1 h2 h3
      obtain ⟨d, hd, hda⟩ := Option.map_eq_some_iff.1 h4
      have hagg : ∀ w : World, (isAgg f.type).run P w = .ok false w := fun w => by
        unfold isAgg
        rw [← hda]
        simp only [Sem.run_bind, run_underlying hd, Result.andThen_ok]
        cases d <;> rfl
      have hy' : cs[off]? = some (k.val y) := by simpa using hy
      refine ⟨_, fun w hw => ?_, hK⟩
      simp [execOp, hx, hv, Instr.field, run_underlying h1, h2, asAgg, part, hagg, h3, hy']
    · exact h.elim
  case h_19 => exact h.elim

theorem asRes_spec {T : Tys} {t : TypeId} {v : Value} {K : Value → Prop} (h : asRes T t v K) : K v := by
  unfold asRes at h
  split at h
  · obtain ⟨rfl, h⟩ := h; exact h
  · obtain ⟨x, rfl, h⟩ := h; exact h
  · obtain ⟨x, y, rfl, h⟩ := h; exact h
  · obtain ⟨x, y, z, rfl, h⟩ := h; exact h
  · exact h.elim

theorem run_callFunc' {P : Program} {f : FuncId} (hf : FnOk P f) (args : Array Value) (w : World) : (callFunc f args).run P w = .ok (.enter f args) w := by
  obtain ⟨fn, h1, h2⟩ := Option.map_eq_some_iff.1 hf
  simp only [Prod.mk.injEq] at h2
  unfold callFunc
  simp only [Sem.run_bind, run_program, Result.andThen_ok, h1, h2.1, h2.2, Bool.false_eq_true, if_false]
  rfl

theorem wp_value {P : Program} {o : Oper} {a : Act} {w w' : World} {v : Value} {next : Act → World → Prop} {Q : Exit → Act → World → Prop}
    (h : (execOp a.eval o).run P w = .ok (.value v) w') (hn : next (a.put o.dst v) w') : o.wp P a w next Q := by
  unfold Oper.wp
  rw [h]
  exact hn
theorem wp_skipped {P : Program} {o : Oper} {a : Act} {w w' : World} {next : Act → World → Prop} {Q : Exit → Act → World → Prop}
    (h : (execOp a.eval o).run P w = .ok .skip w') (hn : next (a.put o.dst undef) w') : o.wp P a w next Q := by
  unfold Oper.wp
  rw [h]
  exact hn

/-! Operations by how they stand to memory -/
def sOp (P : Program) (ops : Array Oper) (o : Oper) (K : Act → World → Prop) (a : Act) (w : World) : Prop :=
  if Region.wanted o (yielded ops a.tmps) then
    match clsOf o with
    | .pure => ∃ v, (∀ w'' : World, (execOp a.eval o).run P w'' = .ok (.value v) w'') ∧ K (a.put o.dst v) w
    | .read => ∃ v, (∀ w'' : World, hExt w.heap w''.heap → (execOp a.eval o).run P w'' = .ok (.value v) w'') ∧ K (a.put o.dst v) w
    | .alloc => ∃ v w', (execOp a.eval o).run P w = .ok (.value v) w' ∧ hExt w.heap w'.heap ∧ K (a.put o.dst v) w'
    | .other => o.wp P a w K (fun _ _ _ => False)
  else K (a.put o.dst undef) w

theorem ownsRow_heap {w w' : World} (h : w.heap = w'.heap) {b e s : Nat} {v : Value} {n : Nat} {xs : List Value} (ho : w.ownsRow b e s v n xs) : w'.ownsRow b e s v n xs := by
  unfold World.ownsRow at *
  rw [← h]
  exact ho
theorem hOwn_of {w : World} {e size : Nat} {s : Sl} {xs : List Value} (h : hOwn w.heap e size s xs) : w.ownsRow 0 e size (.slice s.a s.len s.cap) s.len xs :=
  ownsRow_heap (w := wOf w.heap) rfl h
theorem of_hOwn {w : World} {e size : Nat} {s : Sl} {xs : List Value} (h : w.ownsRow 0 e size (.slice s.a s.len s.cap) s.len xs) : hOwn w.heap e size s xs :=
  ownsRow_heap (w' := wOf w.heap) rfl h

theorem app_sound {P : Program} {T : Tys} (hT : TOk P T) {t : TypeId} {e : SlI} (he : look t T.sl = some e) {s x : Sl} {w : World} {K : Sl → Heap → Prop} (ty : TypeId)
    (h : app e s x w.heap K) : ∃ s' w', (Builtin.append_ #[t, t] ty #[s.v, x.v]).run P w = .ok s'.v w' ∧ Same w w' ∧ K s' w'.heap := by
  obtain ⟨xs, news, ho, ⟨hl, hr⟩, h1, hx0, b1, b2, hK⟩ := h
  obtain ⟨s1, s2, s3, s4⟩ := hT.sl _ (look_mem he)
  simp only at s1 s2 s3 s4
  obtain ⟨inf, hinf, hz⟩ := Option.map_eq_some_iff.1 s2
  simp only [Prod.mk.injEq] at hz
  have ho' := hOwn_of ho
  cases hxa : x.a with
  | none =>
    obtain ⟨e1, e2⟩ := hx0 hxa
    have hn : news = [] := by apply List.eq_nil_of_length_eq_zero; rw [hl, e1]; simp
    subst hn
    have hrun := run_append_owned_none (P := P) (w := w) 0 t ty e.e inf e.size s1 hinf s.v s.len xs ho'
    have hcap : s.len ≤ s.cap := by
      have ho2 := ho'.2
      rcases ho2 with ⟨h5, h6⟩ | ⟨g, cap, cur, h5, _, hg, hnc, hcm, hcs, htake⟩
      · omega
      · injection h5 with _ _ h7; omega
    refine ⟨s, w, ?_, Same.refl w, hK s w.heap (by simpa using ho) (by omega) ⟨Nat.le_refl _, fun _ _ _ => rfl⟩ (.inl rfl) (fun h => ⟨h, e1⟩) fun h => by omega⟩
    unfold Sl.v
    rw [hxa, e1, e2]
    exact hrun
  | some ad =>
    have hnews : ∀ j u, news[j]? = some u → w.cell? (ad.add j) = some u := by
      intro j u hj
      rcases hr with hr | ⟨a, ha, hr⟩
      · subst hr; simp at hj
      · rw [hxa] at ha; injection ha with ha; subst ha; exact hr j u hj
    obtain ⟨v', w', hrun, h2, h3, h4⟩ := run_append_own (P := P) w 0 t ty e.e inf e.zero e.size e.bytes s1 hinf hz.1 hz.2.1 hz.2.2 s3 s4 s.v s.len xs ho' ad x.len x.cap news hl hnews h1 b1 b2 (Nat.zero_le _)
    have hv' : ∃ s' : Sl, v' = s'.v ∧ s'.len = s.len + x.len := by
      rcases h2.2 with ⟨h5, h6⟩ | ⟨g, cap, cur, h5, _⟩
      · exact ⟨⟨none, 0, 0⟩, h5, h6.symm⟩
      · exact ⟨⟨some ⟨g, 0, none⟩, s.len + x.len, cap⟩, h5, rfl⟩
    obtain ⟨s', rfl, hlen⟩ := hv'
    have hblk : (s'.blk = s.blk ∨ s'.blk = some w.heap.size) ∧ (s.cap < s.len + x.len → s'.blk = some w.heap.size) := by
      have ho2 := ho'.2
      rcases ho2 with ⟨h5, h6⟩ | ⟨g, cap, cur, h5, _, hg, hnc, hcm, hcs, htake⟩
      · have hxs : xs = [] := List.eq_nil_of_length_eq_zero (by rw [ho'.1, h6]; simp)
        by_cases hm : x.len = 0
        · have h7 := h4.2 ⟨h5, hm⟩
          have hc0 : s.cap = 0 := by injection h5
          refine ⟨?_, fun h => by omega⟩
          left
          unfold Sl.v at h7
          simp only [Value.slice.injEq] at h7 h5
          unfold Sl.blk
          rw [h7.1, h5.1]
        · have hr2 := run_append_nil (P := P) w t ty e.e inf e.zero s1 hinf hz.1 ad x.len x.cap news (by rw [hz.2.1]; exact hl) hnews (by omega) (by simp only [maxLen] at b1; omega) (by
            rw [hz.2.2]; rw [h6, Nat.zero_add] at b2; omega)
          unfold Sl.v at hrun
          rw [h5, hr2] at hrun
          injection hrun with h8 _

          injection h8 with h8 _ _
          have : s'.blk = some w.heap.size := by
            unfold Sl.blk
            rw [← h8]
            rfl
          exact ⟨.inr this, fun _ => this⟩
      · unfold Sl.v at hrun
        rw [h5] at hrun
        simp only [Value.slice.injEq] at h5
        by_cases hroom : s.len + x.len ≤ cap
        · have hr2 := run_append_room (P := P) w t ty e.e inf s1 hinf g s.len cap cur hg ad x.len x.cap news (by rw [hz.2.1]; exact hl) hnews h1 hroom (by
            rw [hl, hcs, hz.2.1, ← Nat.add_mul]; exact Nat.mul_le_mul_right _ hroom)
          rw [hr2] at hrun
          injection hrun with h8 _

          injection h8 with h8 _ _
          refine ⟨?_, fun h => by omega⟩
          left
          unfold Sl.blk
          rw [← h8, h5.1]
        · have holds : ∀ j u, xs[j]? = some u → w.cell? ((⟨g, 0, none⟩ : Addr).add j) = some u := ho'.cells (g := g) (by rw [h5.1]; rfl)
          have hr2 := run_append_grow (P := P) w t ty e.e inf e.zero s1 hinf hz.1 ⟨g, 0, none⟩ s.len cap xs (by rw [hz.2.1]; exact ho'.1) holds ad x.len x.cap news (by rw [hz.2.1]; exact hl) hnews (by omega) (by simp only [maxLen] at b1; omega) (by
            rw [hz.2.2]; exact growslice_fits (by omega) b2)
          rw [hr2] at hrun
          injection hrun with h8 _

          injection h8 with h8 _ _
          have : s'.blk = some w.heap.size := by
            unfold Sl.blk
            rw [← h8]
            rfl
          exact ⟨.inr this, fun _ => this⟩
    refine ⟨s', w', ?_, ⟨h3.os, h3.tape, h3.output⟩, hK s' w'.heap (of_hOwn (by have h2' := h2; unfold Sl.v at h2'; rw [hlen] at h2' ⊢; exact h2')) hlen ⟨h3.size, fun k hk hne => h3.block k hk (by
      intro e; apply hne; rw [e]; unfold Sl.v Value.ownBlock Sl.blk; cases s.a <;> simp)⟩ hblk.1 ?_ hblk.2⟩
    · unfold Sl.v at hrun ⊢; rw [hxa]; exact hrun
    · intro hnone
      have h2' := h2.2
      rcases h2' with ⟨h5, h6⟩ | ⟨g, cap, cur, h5, _⟩
      · have := (h4.1 h5)
        exact ⟨by have := this.1; unfold Sl.v at this; injection this, this.2⟩
      · unfold Sl.v at h5; rw [hnone] at h5; simp at h5

theorem apz_sound {P : Program} {T : Tys} (hT : TOk P T) {t t' : TypeId} {e : SlI} {k : IntKind} (he : look t T.sl = some e) (hk : look t' T.tk = some (.int k)) {s : Sl} {z : Int} {w : World} {K : Sl → Heap → Prop} (ty : TypeId)
    (h : apz e s z w.heap K) : ∃ s' w', (Builtin.append_ #[t, t'] ty #[s.v, .int .i64 z]).run P w = .ok s'.v w' ∧ Same w w' ∧ K s' w'.heap := by
  obtain ⟨a, xs, ha, hl, hr, h0, hc, hb, hm, hK⟩ := h
  obtain ⟨s1, s2, s3, s4⟩ := hT.sl _ (look_mem he)
  simp only at s1 s2 s3 s4
  obtain ⟨inf, hinf, hz⟩ := Option.map_eq_some_iff.1 s2
  simp only [Prod.mk.injEq] at hz
  obtain ⟨hz1, hz2, hz3⟩ := hz
  obtain ⟨⟨d, hd, _, rfl⟩, _⟩ := hT.tk _ (look_mem hk)
  simp only at hd
  obtain ⟨n, rfl⟩ : ∃ n : Nat, z = n := ⟨z.toNat, by omega⟩
  simp only [Int.toNat_natCast] at hb hm hK
  have hm' : s.len + n ≤ 9223372036854775807 := by simp only [maxLen] at hm; omega
  have hw : IntKind.i64.wrap (n : Int) = n := by
    simp [IntKind.wrap, IntKind.bits, IntKind.signed]
    omega
  obtain ⟨sa, sl, sc⟩ := s
  simp only at ha hl hc hb hm hm' hK
  subst ha
  have hfo := run_firstCells_some (P := P) w.drew e.size sl a sl sc xs hl (fun j v hj => hr j v hj)
  have hn : ¬ (sl + n ≤ sc) := by omega
  have h63' : ¬ (9223372036854775807 < ((sl : Int) + (n : Int))) := by omega
  have hfit := growslice_fits (need := sl + n) (old := sc) (bytes := e.bytes) (by omega) hb
  have h48' : ¬ (281474976710656 < Builtin.nextslicecap (sl + n) sc * e.bytes) := by omega
  have hnb : ¬ ((281474976710656 : Int) < (n : Int) * (e.bytes : Int)) := by
    have h1 : n * e.bytes ≤ (sl + n) * e.bytes := Nat.mul_le_mul_right _ (by omega)
    have h2 : ((n * e.bytes : Nat) : Int) = (n : Int) * (e.bytes : Int) := by simp
    omega
  have hne : ¬ (n = 0) := by omega
  have hne' : ¬ (n * e.size = 0) := by
    intro h
    rcases Nat.mul_eq_zero.1 h with h | h <;> omega
  have hneg : ¬ ((n : Int) < 0) := by omega
  have hai : ∀ w : World, (asInt (.int .i64 n)).run P w = .ok (n : Int) w := fun w => rfl
  refine ⟨⟨some ⟨w.heap.size, 0, none⟩, sl + n, grownCap w (sl + n) sc e.e⟩, w.drew.alloc (.cells (xs.toArray ++ Builtin.zeroCells e.zero.cells n ++ Builtin.zeroCells e.zero.cells (grownCap w (sl + n) sc e.e - (sl + n))) e.e), ?_, ⟨rfl, rfl, rfl⟩, ?_⟩
  · simp only [Sl.v]
    have hz : e.size ≠ 0 := by omega
    simp [Builtin.append_, run_underlying s1, run_underlying hd, sizeOf, typeInfo, zeroValue, hinf, hz1, hz2, hz3, hw, hai, hneg, hnb, hn, h63', h48', Question.forced, hfo, newRow, grownCap]
    exact fun h => absurd h hne'
  · refine hK _ _ (grownCap_ge w _ _ _) (grownCap_le_maxLen w _ _ _ hm) ?_ ?_
    · have hge := grownCap_ge w (sl + n) sc e.e
      simp only [Array.size_append, List.size_toArray, size_zeroCells, s3, hl, ← Nat.add_mul]
      congr 1
      omega
    · simp only [Array.toList_append, List.append_assoc]
      rw [← hl]
      exact List.take_left
theorem apS_sound {P : Program} {T : Tys} (hT : TOk P T) {t t' : TypeId} {e : SlI} (he : look t T.sl = some e) (hk : look t' T.tk = some .str) {s : Sl} {z : ByteArray} {w : World} {K : Sl → Heap → Prop} (ty : TypeId)
    (h : apS e s z w.heap K) : ∃ s' w', (Builtin.append_ #[t, t'] ty #[s.v, .string z]).run P w = .ok s'.v w' ∧ Same w w' ∧ K s' w'.heap := by
  obtain ⟨xs, ho, hs1, b1, b2, hK⟩ := h
  obtain ⟨s1, s2, s3, s4⟩ := hT.sl _ (look_mem he)
  simp only at s1 s2 s3 s4
  obtain ⟨inf, hinf, hz⟩ := Option.map_eq_some_iff.1 s2
  simp only [Prod.mk.injEq] at hz
  obtain ⟨hz1, hz2, hz3⟩ := hz
  obtain ⟨⟨d, hu, _, rfl⟩, _⟩ := hT.tk _ (look_mem hk)
  simp only at hu
  obtain ⟨hxl, hcase⟩ := hOwn_of ho
  have hfc := fun w : World => run_firstCells_str (P := P) w e.size z
  have hbl := len_bytesV z
  have hm' : s.len + z.size ≤ 9223372036854775807 := by simp only [maxLen] at b1; omega
  have h63' : ¬ (9223372036854775807 < ((s.len : Int) + (z.size : Int))) := by omega
  rw [hs1] at hxl s3 hz2
  have grown : ∀ old, old < s.len + z.size →
      hOwn (w.drew.alloc (.cells (xs.toArray ++ (bytesV z).toArray ++ Builtin.zeroCells e.zero.cells (grownCap w (s.len + z.size) old e.e - (s.len + z.size))) e.e)).heap e.e e.size ⟨some ⟨w.heap.size, 0, none⟩, s.len + z.size, grownCap w (s.len + z.size) old e.e⟩ (xs ++ bytesV z) ∧
      hGrown w.heap (w.drew.alloc (.cells (xs.toArray ++ (bytesV z).toArray ++ Builtin.zeroCells e.zero.cells (grownCap w (s.len + z.size) old e.e - (s.len + z.size))) e.e)).heap s.blk := by
    intro old ho
    have hge := grownCap_ge w (s.len + z.size) old e.e
    have hcm : grownCap w (s.len + z.size) old e.e ≤ maxLen := grownCap_le_maxLen w (s.len + z.size) old e.e b1
    have hlen : (xs ++ bytesV z).length = s.len + z.size := by rw [List.length_append, hxl, hbl]; omega
    refine ⟨of_hOwn ⟨by rw [hs1]; simpa using hlen, .inr ⟨w.heap.size, _, _, rfl, Nat.zero_le _, heap_alloc_new w.drew _, hge, hcm, ?_, ?_⟩⟩, ⟨by simp, fun k hk _ => heap_alloc_old w.drew _ hk⟩⟩
    · simp only [Array.size_append, List.size_toArray, size_zeroCells, s3, hxl, hbl, hs1]
      omega
    · simp only [Array.toList_append, List.append_assoc, hs1, Nat.mul_one]
      rw [← List.append_assoc, ← hlen]
      exact List.take_left
  rcases hcase with ⟨h5, h6⟩ | ⟨g, cap, cur, h5, _, hg, hnc, hcm, hcs, htake⟩
  · have hs : s = ⟨none, 0, 0⟩ := by
      obtain ⟨a, n, c⟩ := s
      simp only [Value.slice.injEq] at h5
      obtain ⟨rfl, rfl, rfl⟩ := h5
      rfl
    subst hs
    have hxs : xs = [] := List.eq_nil_of_length_eq_zero (by simpa using hxl)
    subst hxs
    by_cases hz0 : z.size = 0
    · have hb0 : bytesV z = [] := List.eq_nil_of_length_eq_zero (by omega)
      refine ⟨⟨none, 0, 0⟩, w, ?_, Same.refl w, hK _ _ (by rw [hb0]; exact ho) (by simp [hz0]) ⟨Nat.le_refl _, fun _ _ _ => rfl⟩ (.inl rfl) (fun _ => ⟨rfl, hz0⟩) (fun h => by simp [hz0] at h)⟩
      have hf := hfc w
      rw [hz0, hb0] at hf
      simp [Builtin.append_, run_underlying s1, run_underlying hu, sizeOf, typeInfo, hinf, Builtin.lenOf, hz0, hz2, Sl.v]
      rw [hs1] at hf
      simp [hf]
    · have h48 : z.size * inf.bytes ≤ 281474976710656 := by rw [hz3]; simp only [Nat.zero_add] at b2; omega
      have hr := run_append_nil_string (P := P) w t t' ty e.e inf e.zero s1 hu hinf hz1 z (by omega) (by omega) h48
      have hgr := grown 0 (by simp; omega)
      simp only [Nat.zero_add, List.nil_append, Array.empty_append] at hgr
      refine ⟨⟨some ⟨w.heap.size, 0, none⟩, z.size, grownCap w z.size 0 e.e⟩, _, hr, ⟨rfl, rfl, rfl⟩, hK _ _ ?_ (by simp) ?_ (.inr rfl) (fun h => by cases h) (fun _ => rfl)⟩
      · rw [bytes_arr]
        exact hgr.1
      · rw [bytes_arr]
        exact hgr.2
  · simp only [Value.slice.injEq] at h5
    obtain ⟨h5, _, h7⟩ := h5
    by_cases hroom : s.len + z.size ≤ cap
    · have hfit : s.len * 1 + (bytesV z).length ≤ cur.size := by rw [hbl, hcs, hs1]; omega
      have hst := run_storeCells_at P g (s.len * 1) e.e (bytesV z) 0 cur w hg (by simpa using hfit) (one_bytesV z)
      simp only [Nat.add_zero] at hst
      have hr : (Builtin.append_ #[t, t'] ty #[s.v, .string z]).run P w = .ok (.slice (some ⟨g, 0, none⟩) (s.len + z.size) s.cap) (w.setRow g (cur.toList.take (s.len * 1) ++ bytesV z ++ cur.toList.drop (s.len * 1 + (bytesV z).length)).toArray) := by
        have hfc1 := hfc w
        rw [hs1] at hfc1
        simp only [Sl.v, h5]
        simp only [Nat.mul_one] at hst
        simp [Builtin.append_, run_underlying s1, run_underlying hu, sizeOf, typeInfo, hinf, Builtin.lenOf, h7 ▸ hroom, hfc1, Addr.add_lit, hst, hz2]
      refine ⟨⟨some ⟨g, 0, none⟩, s.len + z.size, s.cap⟩, _, hr, ⟨rfl, rfl, rfl⟩, hK _ _ (of_hOwn ⟨?_, .inr ⟨g, s.cap, _, rfl, Nat.zero_le _, setRow_heap w g cur _ e.e _ hg, (by show s.len + z.size ≤ s.cap; rw [h7]; exact hroom), (by rw [h7]; exact hcm), ?_, ?_⟩⟩) rfl ⟨by simp, fun k _ hk => setRow_other w g k _ (fun e => hk (by simp [Sl.blk, h5, e]))⟩ (.inl (by simp [Sl.blk, h5])) (fun h => by cases h) (fun h => absurd hroom (by rw [← h7]; exact Nat.not_le.2 h))⟩
      · rw [List.length_append, hxl, hbl, hs1]; simp only [Nat.mul_one]
      · simp only [List.size_toArray, List.length_append, List.length_take, List.length_drop, Array.length_toList]
        rw [hs1] at hcs ⊢
        omega
      · rw [hs1] at htake ⊢
        rw [htake, Nat.mul_one]
        have hlen : (xs ++ bytesV z).length = s.len + z.size := by rw [List.length_append, hxl, hbl]; omega
        rw [← hlen]
        exact List.take_left
    · have holds : ∀ j u, xs[j]? = some u → w.cell? ((⟨g, 0, none⟩ : Addr).add j) = some u := World.ownsRow.cells (hOwn_of ho) (g := g) (by rw [h5]; rfl)
      have hfo := run_firstCells_some (P := P) w.drew 1 s.len ⟨g, 0, none⟩ s.len s.cap xs (by simpa using hxl) (by simpa using holds)
      have hfit := growslice_fits (need := s.len + z.size) (old := s.cap) (bytes := e.bytes) (by omega) b2
      have h48' : ¬ (281474976710656 < Builtin.nextslicecap (s.len + z.size) s.cap * e.bytes) := by omega
      have hn : ¬ (s.len + z.size ≤ s.cap) := by omega
      have hfc1 := hfc w.drew
      rw [hs1] at hfc1
      have hgr := grown s.cap (by omega)
      refine ⟨⟨some ⟨w.heap.size, 0, none⟩, s.len + z.size, grownCap w (s.len + z.size) s.cap e.e⟩, w.drew.alloc (.cells (xs.toArray ++ (bytesV z).toArray ++ Builtin.zeroCells e.zero.cells (grownCap w (s.len + z.size) s.cap e.e - (s.len + z.size))) e.e), ?_, ⟨rfl, rfl, rfl⟩, hK _ _ hgr.1 rfl hgr.2 (.inr rfl) (fun h => by cases h) (fun _ => rfl)⟩
      simp only [Sl.v, h5]
      simp [Builtin.append_, run_underlying s1, run_underlying hu, sizeOf, typeInfo, zeroValue, hinf, hz1, hz2, hz3, Builtin.lenOf, hn, h63', h48', Question.forced, hfc1, hfo, newRow, grownCap]
      congr 2
      apply Array.ext'
      simp [List.append_assoc]
theorem cpy_sound {P : Program} {T : Tys} (hT : TOk P T) {t : TypeId} {e : SlI} (he : look t T.sl = some e) {d s : Sl} {w : World} {K : Nat → Heap → Prop} (ty : TypeId)
    (h : cpy e.size d s w.heap K) : ∃ w', (Builtin.copy_ #[t, t] ty #[d.v, s.v]).run P w = .ok (.int .i64 (min s.len d.len : Nat)) w' ∧ Same w w' ∧ K (min s.len d.len) w'.heap := by
  obtain ⟨xs, hl, h1, hc, hK⟩ := h
  obtain ⟨s1, s2, s3, s4⟩ := hT.sl _ (look_mem he)
  simp only at s1 s2 s3 s4
  obtain ⟨inf, hinf, hz⟩ := Option.map_eq_some_iff.1 s2
  simp only [Prod.mk.injEq] at hz
  refine ⟨{ w with heap := cpyH (min s.len d.len) d w.heap xs }, ?_, ⟨rfl, rfl, rfl⟩, hK⟩
  have hsz : (sizeOf e.e).run P w = .ok e.size w := by simp [sizeOf, typeInfo, hinf, hz.2.1]
  by_cases h0 : min s.len d.len = 0
  · have hx : xs = [] := List.eq_nil_of_length_eq_zero (by rw [hl, h0]; simp)
    subst hx
    have hf : (Builtin.firstCells e.size 0 s.v).run P w = .ok #[] w := by
      cases hsa : s.a with
      | none => unfold Sl.v; rw [hsa]; simp [Builtin.firstCells]
      | some a => unfold Sl.v; rw [hsa]; exact run_firstCells_some w _ _ _ _ _ [] (by simp) (by simp)
    rw [h0]
    have h0' : Nat.min s.len d.len = 0 := h0
    unfold Sl.v at hf
    obtain ⟨da, dn, dc⟩ := d
    cases da <;> simp only at h0 h0' <;> simp [Builtin.copy_, run_underlying s1, Builtin.lenOf, hsz, h0', hf, storeCells, goInt, Sl.v, cpyH]
  · obtain ⟨a, b, ha, hb, hr, hst⟩ := hc h0
    have hf : (Builtin.firstCells e.size (min s.len d.len) s.v).run P w = .ok xs.toArray w := by
      unfold Sl.v; rw [ha]; exact run_firstCells_some w _ _ _ _ _ xs hl hr
    have hs' := run_storeCells' (P := P) (p := b) xs 0 w (by simpa using hst) h1
    have hh : cpyH (min s.len d.len) d w.heap xs = hsets w.heap b xs 0 := by
      unfold cpyH
      rw [hb]
      cases hm : min s.len d.len with
      | zero => exact absurd hm h0
      | succ n => rfl
    rw [hh]
    unfold Sl.v at hf
    have hmin : Nat.min s.len d.len = min s.len d.len := rfl
    simp [Builtin.copy_, run_underlying s1, Builtin.lenOf, hsz, hmin, hf, hs', goInt, Sl.v, hb]
theorem map_lookup {P : Program} {w : World} {t kt et : TypeId} {d : TypeDesc} {m : Option Nat} {key z : Value} {K : Option Value → Prop} (u1 : P.underlying t = some (.map kt et)) (u2 : P.underlying kt = some d)
    (hz : (zeroValue et).run P w = .ok z w) (h : mlk d m key w.heap K) (ok : Bool) :
    ∃ r, K r ∧ (Instr.lookup t (.map m) key ok).run P w = .ok (if ok then .tuple #[r.getD z, .bool r.isSome] else r.getD z) w := by
  obtain ⟨hk, h⟩ := h
  cases m with
  | none =>
    refine ⟨none, h, ?_⟩
    have hf : (Instr.findKey kt key []).run P w = .ok none w := MapKept.run_findKey u2 rfl
    simp [Instr.lookup, run_underlying u1, MapKept.run_checkKey u2 hk, hf, hz, Result.andThen]
  | some b =>
    obtain ⟨es, clock, r, hb, hf, hK⟩ := h
    refine ⟨_, hK, ?_⟩
    cases r with
    | none => simp [Instr.lookup, run_underlying u1, MapKept.run_getObj_map hb, MapKept.run_checkKey u2 hk, MapKept.run_findKey u2 hf, hz, Result.andThen]
    | some iv => simp [Instr.lookup, run_underlying u1, MapKept.run_getObj_map hb, MapKept.run_checkKey u2 hk, MapKept.run_findKey u2 hf, Result.andThen]

theorem map_update {P : Program} {w : World} {t kt et : TypeId} {d : TypeDesc} {b : Nat} {es : Array MapEntry} {clock : Nat} {key : Value} (u1 : P.underlying t = some (.map kt et)) (u2 : P.underlying kt = some d)
    (hb : w.heap[b]? = some (.map es clock)) (hk : MapKept.IsKey d key) (hks : ∀ x ∈ es.toList, MapKept.IsKey d x.key) (val : Value) :
    ∃ r, Instr.findNow d key es.toList 0 = some r ∧ (Instr.mapUpdate t (.map (some b)) key val).run P w = .ok () { w with heap := mupH w.heap b es clock key val r } := by
  rcases MapKept.findNow_spec hk es.toList 0 hks with ⟨h1, _⟩ | ⟨j, e, h1, h2, h3⟩
  · refine ⟨none, h1, ?_⟩
    simp [Instr.mapUpdate, run_underlying u1, MapKept.run_getObj_map hb, MapKept.run_checkKey u2 hk, MapKept.run_findKey u2 h1, MapKept.run_setObj_map _ hb, Result.andThen, mupH]
  · refine ⟨some (0 + j, e.val), h1, ?_⟩
    have hj : es[j]? = some e := by simpa using h2
    simp [Instr.mapUpdate, run_underlying u1, MapKept.run_getObj_map hb, MapKept.run_checkKey u2 hk, MapKept.run_findKey u2 h1, hj, h3, MapKept.run_keyThatStays hk, MapKept.run_setObj_map _ hb, Result.andThen, mupH]

theorem opW_sound {P : Program} {T : Tys} (hT : TOk P T) {ops : Array Oper} {o : Oper} {env : Env} {K : Value → Heap → Prop} {w : World} {a : Act} (hev : a.eval = ev env)
    (hw : Region.wanted o (yielded ops a.tmps) = true) (h : opW P T o env w.heap K) {next : Act → World → Prop}
    (hn : ∀ v w', Same w w' → K v w'.heap → next (a.put o.dst v) w') : sOp P ops o next a w := by
  have other : clsOf o = .other → o.wp P a w next (fun _ _ _ => False) → sOp P ops o next a w := fun hc h => by
    unfold sOp
    rw [if_pos hw, hc]
    exact h
  have alloc : clsOf o = .alloc → ∀ {v : Value} {w' : World}, (execOp a.eval o).run P w = .ok (.value v) w' → hExt w.heap w'.heap → next (a.put o.dst v) w' → sOp P ops o next a w := fun hc v w' h1 h2 h3 => by
    unfold sOp
    rw [if_pos hw, hc]
    exact ⟨v, w', h1, h2, h3⟩
  have hread : opR T o env w.heap (fun v => K v w.heap) → sOp P ops o next a w := fun h => by
    obtain ⟨v, hr, hK⟩ := opR_sound hT h
    have hnx := hn v w (Same.refl w) hK
    unfold sOp
    rw [if_pos hw]
    split
    · rename_i hc; exact ⟨v, fun w'' => by rw [hev]; exact hr w'' (.inl hc), hnx⟩
    · exact ⟨v, fun w'' he => by rw [hev]; exact hr w'' (.inr he), hnx⟩
    · exact ⟨v, w, by rw [hev]; exact hr w (.inr (hExt.refl _)), hExt.refl _, hnx⟩
    · exact wp_value (by rw [hev]; exact hr w (.inr (hExt.refl _))) hnx
  unfold opW at h
  split at h
  case h_1 t hx =>
    split at h
    · rename_i z hz
      obtain ⟨i, hi, hzz⟩ := Option.map_eq_some_iff.1 (hT.zs _ (look_mem hz))
      simp only at hi
      refine alloc (by simp [clsOf, hx]) (v := .pointer (some ⟨w.heap.size, 0, none⟩)) (w' := { w with heap := w.heap.push (.cells z.cells t) }) ?_ (hExt_push _ _) (hn _ _ ⟨rfl, rfl, rfl⟩ h)
      rw [hev]
      simp [execOp, hx, Instr.alloc, zeroValue, typeInfo, hi, hzz, newVar, newRow]
    · exact h.elim
  case h_2 t x hx =>
    refine alloc (by simp [clsOf, hx]) (v := .pointer (some ⟨w.heap.size, 0, none⟩)) (w' := { w with heap := w.heap.push (.cells (ev env x).cells t) }) ?_ (hExt_push _ _) (hn _ _ ⟨rfl, rfl, rfl⟩ h)
    rw [hev]
    simp [execOp, hx, Instr.box, newVar, newRow]
  case h_3 t len parts hx =>
    split at h
    · rename_i e he
      obtain ⟨cs, hf, hb, hK⟩ := h
      obtain ⟨s1, s2, s3, s4⟩ := hT.sl _ (look_mem he)
      simp only at s1 s2 s3 s4
      obtain ⟨inf, hinf, hz⟩ := Option.map_eq_some_iff.1 s2
      simp only [Prod.mk.injEq] at hz
      refine alloc (by simp [clsOf, hx]) (v := .slice (some ⟨w.heap.size, 0, none⟩) len len) (w' := { w with heap := w.heap.push (.cells cs e.e) }) ?_ (hExt_push _ _) (hn _ _ ⟨rfl, rfl, rfl⟩ hK)
      rw [hev]
      have hf' : Instr.fill (fun i => some (i * e.size, e.size)) ((Array.range (len * e.size)).map (e.zero.cells[· % e.zero.cells.size]!)) (parts.map fun (x : Nat × Operand) => (x.1, ev env x.2)).toList = some cs := by
        rw [Array.toList_map]; exact hf
      rw [Array.toList_map] at hf'
      by_cases hlen : len * e.size = 0
      · have hl0 : len = 0 := by rcases Nat.mul_eq_zero.1 hlen with h | h <;> omega
        subst hl0
        simp only [Nat.zero_mul, Array.range_zero', Array.map_empty] at hf'
        simp [execOp, hx, Instr.buildSlice, run_underlying s1, sizeOf, typeInfo, hinf, hz.2.1, hf', newRow, Array.range_zero']
      · have : ¬ (16777216 < len * e.size) := by omega
        simp [execOp, hx, Instr.buildSlice, run_underlying s1, sizeOf, typeInfo, hinf, hz.2.1, hz.1, hf', newRow, this, hlen, zeroValue]
    · exact h.elim
  case h_4 t p x hx =>
    split at h
    · rename_i n q htk hp
      split at h
      · rename_i cs hcs
        obtain ⟨hsz, hc, h1, hK⟩ := h
        have hz := run_sizeOf' (w := w) (hT.tk _ (look_mem htk)).2
        simp only [TK.size] at hz
        have hst := run_storeCells' (P := P) (p := q) cs.toList 0 w (by simpa using hc) h1
        refine other (by simp [clsOf, hx]) (wp_skipped (w' := { w with heap := hsets w.heap q cs.toList 0 }) ?_ (hn _ _ ⟨rfl, rfl, rfl⟩ hK))
        rw [hev]
        simp [execOp, hx, hp, hcs, Instr.storeAt, Instr.sureAddr, storeVar, hz, Value.cells, hsz, hst]
      · exact h.elim
    · rename_i k q hne htk hp
      split at h
      · rename_i y hy
        obtain ⟨hc, h1, hK⟩ := h
        have hy' := TK.get?_spec hy
        have hz := run_sizeOf' (w := w) (hT.tk _ (look_mem htk)).2
        have hks : k.size = 1 := by cases k <;> first | rfl | exact absurd rfl (hne _)
        simp only [hks] at hz
        have h1' : (k.val y).oneCell' = true := h1 _ (by simp)
        have hcells : (k.val y).cells = #[k.val y] := by
          cases hk : k.val y <;> first | rfl | (rw [hk] at h1'; simp [Value.oneCell'] at h1')
        have hst := run_storeCells' (P := P) (p := q) [k.val y] 0 w (by simpa using hc) h1
        refine other (by simp [clsOf, hx]) (wp_skipped (w' := { w with heap := hsets w.heap q [k.val y] 0 }) ?_ (hn _ _ ⟨rfl, rfl, rfl⟩ hK))
        rw [hev]
        simp [execOp, hx, hp, hy', Instr.storeAt, Instr.sureAddr, storeVar, hz, hcells, hst]
      · exact h.elim
    · exact h.elim
  case h_5 t l c hx =>
    split at h
    · rename_i e k n k' m he hl hc
      obtain ⟨hnm, h0, hb, h63, hK⟩ := h
      subst hnm
      obtain ⟨s1, s2, s3, s4⟩ := hT.sl _ (look_mem he)
      simp only at s1 s2 s3 s4
      obtain ⟨inf, hinf, hz⟩ := Option.map_eq_some_iff.1 s2
      simp only [Prod.mk.injEq] at hz
      have hr := run_make (P := P) w t e.e inf e.zero s1 hinf hz.1 k k' n n h0 (Int.le_refl _) (by rw [hz.2.2]; exact hb) h63
      rw [hz.2.1] at hr
      refine alloc (by simp [clsOf, hx]) (v := .slice (some ⟨w.heap.size, 0, none⟩) n.toNat n.toNat) (w' := w.alloc (.cells (madeCells e.zero.cells (n.toNat * e.size)) e.e)) ?_ (hExt_push _ _) (hn _ _ ⟨rfl, rfl, rfl⟩ hK)
      rw [hev]
      simp [execOp, hx, hl, hc, hr]
    · exact h.elim
  case h_6 c hx =>
    obtain ⟨callee, args, tys⟩ := c
    simp only at h
    split at h
    case h_1 _ _ _ x y t t' ha hy =>
      have ha' : args = #[x, y] := by rw [← Array.toList_inj, ha]
      have hy' : tys = #[t, t'] := by rw [← Array.toList_inj, hy]
      subst ha'; subst hy'
      split at h
      · rename_i _ _ _ _ e an n cp bn m cq hbeq he hv hw
        have := Nat.eq_of_beq_eq_true hbeq
        subst this
        obtain ⟨s', w', hr, hs, hK⟩ := app_sound hT he (w := w) o.type h
        refine other (by simp [clsOf, hx]) (wp_value (v := s'.v) (w' := w') ?_ (hn _ _ hs hK))
        rw [hev]
        simp only [Sl.v] at hr
        simp [execOp, hx, resolve, invoke, builtin, hv, hw, hr]
      · rename_i _ _ _ _ e an n cp z hbeq he hv hw
        split at h
        · rename_i k hk
          obtain ⟨s', w', hr, hs, hK⟩ := apz_sound hT he hk (w := w) o.type h
          refine other (by simp [clsOf, hx]) (wp_value (v := s'.v) (w' := w') ?_ (hn _ _ hs hK))
          rw [hev]
          simp only [Sl.v] at hr
          simp [execOp, hx, resolve, invoke, builtin, hv, hw, hr]
        · exact h.elim
      · rename_i _ _ _ _ e an n cp z hbeq he hv hw
        split at h
        · rename_i hk
          obtain ⟨s', w', hr, hs, hK⟩ := apS_sound hT he hk (w := w) o.type h
          refine other (by simp [clsOf, hx]) (wp_value (v := s'.v) (w' := w') ?_ (hn _ _ hs hK))
          rw [hev]
          simp only [Sl.v] at hr
          simp [execOp, hx, resolve, invoke, builtin, hv, hw, hr]
        · exact h.elim
      · exact h.elim
    case h_2 _ _ _ f =>
      split at h
      · rename_i hmem
        have hf := hT.fns f (by simpa using hmem)
        have hrun : (execOp a.eval o).run P w = .ok (.enter f (args.map (ev env))) w := by
          rw [hev]
          simp [execOp, hx, resolve, invoke, ev, Deferred.ofValue, run_callFunc' hf]
        have hc := h w rfl
        have hargs : (args.toList.map (ev env)).toArray = args.map (ev env) := by rw [← Array.toList_map, Array.toArray_toList]
        rw [hargs] at hc
        refine other (by simp [clsOf, hx]) ?_
        unfold Oper.wp
        rw [hrun]
        refine Calls.mono hc ?_
        rintro e w' ⟨v, rfl, hs, hR⟩
        exact hn v w' hs (asRes_spec hR)
      · obtain ⟨v, hc, hK⟩ := h
        have hargs : (args.toList.map (ev env)).toArray = args.map (ev env) := by rw [← Array.toList_map, Array.toArray_toList]
        rw [hargs] at hc
        have hrun : (execOp a.eval o).run P w = .ok (.value v) w := by
          rw [hev]
          simp [execOp, hx, resolve, invoke, ev, Deferred.ofValue, hc w rfl]
        exact other (by simp [clsOf, hx]) (wp_value hrun (hn v w (.refl w) (asRes_spec hK)))
    case h_3 _ _ _ x y t t' ha hy =>
      have ha' : args = #[x, y] := by rw [← Array.toList_inj, ha]
      have hy' : tys = #[t, t'] := by rw [← Array.toList_inj, hy]
      subst ha'; subst hy'
      split at h
      · rename_i q m hq hm
        obtain ⟨kt, et, u1, u2, u3⟩ := hT.mp _ (look_mem hq)
        obtain ⟨hk, h⟩ := h
        simp only at u1 u2
        cases m with
        | none =>
          refine other (by simp [clsOf, hx]) (wp_value (v := .tuple #[]) (w' := w) ?_ (hn _ _ (.refl w) h))
          rw [hev]
          simp [execOp, hx, resolve, invoke, builtin, hm, Builtin.delete_, run_underlying u1, MapKept.run_checkKey u2 hk, Result.andThen]
        | some b =>
          obtain ⟨es, clock, r, hb, hf, hK⟩ := h
          cases r with
          | none =>
            refine other (by simp [clsOf, hx]) (wp_value (v := .tuple #[]) (w' := { w with heap := w.heap.setIfInBounds b (.map es clock) }) ?_ (hn _ _ ⟨rfl, rfl, rfl⟩ hK))
            rw [hev]
            simp [execOp, hx, resolve, invoke, builtin, hm, Builtin.delete_, run_underlying u1, MapKept.run_getObj_map hb, MapKept.run_checkKey u2 hk, MapKept.run_findKey u2 hf, MapKept.run_setObj_map _ hb, Result.andThen]
          | some iv =>
            obtain ⟨i, v⟩ := iv
            refine other (by simp [clsOf, hx]) (wp_value (v := .tuple #[]) (w' := { w with heap := w.heap.setIfInBounds b (.map (es.eraseIdxIfInBounds i) clock) }) ?_ (hn _ _ ⟨rfl, rfl, rfl⟩ hK))
            rw [hev]
            simp [execOp, hx, resolve, invoke, builtin, hm, Builtin.delete_, run_underlying u1, MapKept.run_getObj_map hb, MapKept.run_checkKey u2 hk, MapKept.run_findKey u2 hf, MapKept.run_setObj_map _ hb, Result.andThen]
      · exact h.elim
    case h_4 _ _ _ x =>
      obtain ⟨f, caps, hfv, hf, hc⟩ := h
      have hrun : (execOp a.eval o).run P w = .ok (.enter f (args.map (ev env) ++ caps)) w := by
        rw [hev]
        simp [execOp, hx, resolve, invoke, ev, hfv, Deferred.ofValue, run_callFunc' hf]
      have hc := hc w rfl
      have hargs : (args.toList.map (ev env) ++ caps.toList).toArray = args.map (ev env) ++ caps := by rw [← Array.toList_map, ← Array.toList_append, Array.toArray_toList]
      rw [hargs] at hc
      refine other (by simp [clsOf, hx]) ?_
      unfold Oper.wp
      rw [hrun]
      refine Calls.mono hc ?_
      rintro e w' ⟨v, rfl, hs, hR⟩
      exact hn v w' hs (asRes_spec hR)
    case h_5 _ _ _ x t ha hy =>
      have ha' : args = #[x] := by rw [← Array.toList_inj, ha]
      have hy' : tys = #[t] := by rw [← Array.toList_inj, hy]
      subst ha'; subst hy'
      split at h
      · rename_i q m hmt hq hm
        obtain ⟨kt, et, u1, u2, u3⟩ := hT.mp _ (look_mem hq)
        simp only at u1
        cases m with
        | none =>
          refine other (by simp only [clsOf, hx, hmt]) (wp_value (v := .int .i64 0) (w' := w) ?_ (hn _ _ (.refl w) h))
          rw [hev]
          simp [execOp, hx, resolve, invoke, builtin, hm, Builtin.len_, run_underlying u1, goInt, Result.andThen]
        | some b =>
          obtain ⟨es, clock, hb, hK⟩ := h
          refine other (by simp only [clsOf, hx, hmt]) (wp_value (v := .int .i64 es.size) (w' := w) ?_ (hn _ _ (.refl w) hK))
          rw [hev]
          simp [execOp, hx, resolve, invoke, builtin, hm, Builtin.len_, run_underlying u1, MapKept.run_getObj_map hb, goInt, Result.andThen]
      · exact h.elim
      · exact hread h
    case h_6 _ _ _ x y t t' ha hy =>
      have ha' : args = #[x, y] := by rw [← Array.toList_inj, ha]
      have hy' : tys = #[t, t'] := by rw [← Array.toList_inj, hy]
      subst ha'; subst hy'
      split at h
      · rename_i _ _ _ _ e an n cp bn m cq hbeq he hv hw
        have := Nat.eq_of_beq_eq_true hbeq
        subst this
        obtain ⟨w', hr, hs, hK⟩ := cpy_sound hT he (w := w) o.type h
        refine other (by simp [clsOf, hx]) (wp_value (v := .int .i64 (min m n : Nat)) (w' := w') ?_ (hn _ _ hs hK))
        rw [hev]
        simp only [Sl.v] at hr
        simp [execOp, hx, resolve, invoke, builtin, hv, hw, hr]
      · exact h.elim
    case h_7 => exact hread h
  case h_7 t r hx =>
    split at h
    · rename_i q hq
      refine other (by simp [clsOf, hx]) (wp_value (v := .map (some w.heap.size)) (w' := { w with heap := w.heap.push (.map #[] 0) }) ?_ (hn _ _ ⟨rfl, rfl, rfl⟩ h))
      rw [hev]
      simp [execOp, hx, Instr.makeMap, newObj]
      rfl
    · rename_i q x hq
      split at h
      · rename_i k n hkn
        obtain ⟨kt, et, u1, u2, u3⟩ := hT.mp _ (look_mem hq)
        refine other (by simp [clsOf, hx]) (wp_value (v := .map (some w.heap.size)) (w' := { w with heap := w.heap.push (.map #[] 0) }) ?_ (hn _ _ ⟨rfl, rfl, rfl⟩ h))
        rw [hev]
        simp [execOp, hx, Instr.makeMap, newObj, hkn, run_underlying u1, asInt, asIntOf, Result.andThen]
        rfl
      · exact h.elim
    · exact h.elim
  case h_8 t x k ok hx =>
    split at h
    · rename_i q m hq hm
      obtain ⟨kt, et, u1, u2, u3⟩ := hT.mp _ (look_mem hq)
      simp only at u1 u2
      obtain ⟨inf, hinf, hz⟩ := Option.map_eq_some_iff.1 u3
      simp only at hinf hz
      have hzr : (zeroValue et).run P w = .ok q.2.1 w := by simp [zeroValue, typeInfo, hinf, hz]
      obtain ⟨r, ⟨y, hy, hK⟩, hrun⟩ := map_lookup u1 u2 hzr h ok
      refine other (by simp [clsOf, hx]) ?_
      rw [hy] at hrun
      cases ok with
      | true =>
        refine wp_value (v := .tuple #[q.2.2.val y, .bool r.isSome]) (w' := w) ?_ (hn _ _ (.refl w) hK)
        rw [hev]
        simp only [if_true] at hrun
        simp [execOp, hx, hm, hrun]
      | false =>
        refine wp_value (v := q.2.2.val y) (w' := w) ?_ (hn _ _ (.refl w) hK)
        rw [hev]
        simp only [Bool.false_eq_true, if_false] at hrun
        simp [execOp, hx, hm, hrun]
    · exact h.elim
  case h_9 t x k y hx =>
    split at h
    · rename_i q m hq hm
      obtain ⟨kt, et, u1, u2, u3⟩ := hT.mp _ (look_mem hq)
      obtain ⟨b, es, clock, rfl, hb, hk, hks, hK⟩ := h
      simp only at u1 u2
      have hup := map_update (P := P) (w := w) u1 u2 hb hk hks (ev env y)
      obtain ⟨r, hf, hrun⟩ := hup
      refine other (by simp [clsOf, hx]) (wp_skipped (w' := { w with heap := mupH w.heap b es clock (ev env k) (ev env y) r }) ?_ (hn _ _ ⟨rfl, rfl, rfl⟩ (hK r hf)))
      rw [hev]
      simp [execOp, hx, hm, hrun]
    · exact h.elim
  case h_10 t x k y hx =>
    split at h
    · rename_i q m hq hm
      obtain ⟨kt, et, u1, u2, u3⟩ := hT.mp _ (look_mem hq)
      obtain ⟨b, es, clock, rfl, hb, hk, hks, hK⟩ := h
      simp only at u1 u2
      have hup := map_update (P := P) (w := w) u1 u2 hb hk hks (ev env y)
      obtain ⟨r, hf, hrun⟩ := hup
      refine other (by simp [clsOf, hx]) (wp_skipped (w' := { w with heap := mupH w.heap b es clock (ev env k) (ev env y) r }) ?_ (hn _ _ ⟨rfl, rfl, rfl⟩ (hK r hf)))
      rw [hev]
      simp [execOp, hx, hm, hrun]
    · exact h.elim
  case h_11 t x hx =>
    split at h
    · rename_i q m hq hm
      obtain ⟨kt, et, u1, u2, u3⟩ := hT.mp _ (look_mem hq)
      simp only at u1
      cases m with
      | none => exact h.elim
      | some b =>
        obtain ⟨es, clock, hb, hK⟩ := h
        refine other (by simp [clsOf, hx]) (wp_value (v := .pointer (some ⟨w.heap.size, 0, none⟩)) (w' := { w with heap := w.heap.push (.mapIter (some b) clock #[] clock) }) ?_ (hn _ _ ⟨rfl, rfl, rfl⟩ hK))
        rw [hev]
        simp [execOp, hx, hm, Instr.range, run_underlying u1, MapKept.run_getObj_map hb, newObj, Result.andThen]
        rfl
    · exact h.elim
  case h_12 it b hx =>
    split at h
    · rename_i r hit
      obtain ⟨b, since, seen, c0, es, clock, hr, hb, hold, hsc, hf, ht⟩ := h
      rcases run_next_at (P := P) w o.type r b since c0 seen es clock hr hb hold hsc with ⟨h0, hrun⟩ | ⟨e, he, w1, hw1, hrun⟩
      · refine other (by simp [clsOf, hx]) (wp_value (v := .tuple #[.bool false]) (w' := w) ?_ (hn _ _ (.refl w) (hf h0)))
        rw [hev]
        simp [execOp, hx, hit, hrun]
      · have hs : Same w (ChangeMaps.setBlock w1 r (.mapIter (some b) since (seen.push e.born) clock)) := by rcases hw1 with rfl | rfl <;> exact ⟨rfl, rfl, rfl⟩
        have hh : (ChangeMaps.setBlock w1 r (.mapIter (some b) since (seen.push e.born) clock)).heap = w.heap.setIfInBounds r (.mapIter (some b) since (seen.push e.born) clock) := by rcases hw1 with rfl | rfl <;> rfl
        refine other (by simp [clsOf, hx]) (wp_value (v := .tuple #[.bool true, e.key, e.val]) (w' := ChangeMaps.setBlock w1 r (.mapIter (some b) since (seen.push e.born) clock)) ?_ (hn _ _ hs (by rw [hh]; exact ht e he)))
        rw [hev]
        simp [execOp, hx, hit, hrun]
    · exact h.elim
  case h_13 it hx =>
    split at h
    · rename_i r hit
      obtain ⟨b, since, seen, es, clock, e, hr, hb, he, hnd, hK⟩ := h
      refine other (by simp [clsOf, hx]) (wp_value (v := .tuple #[e.key, e.val]) (w' := w) ?_ (hn _ _ (.refl w) hK))
      rw [hev]
      simp [execOp, hx, hit, run_entry_at w r b since seen es clock e hr hb he hnd]
    · exact h.elim
  case h_14 => exact hread h



theorem sOp.wp {P : Program} {ops : Array Oper} {o : Oper} {K : Act → World → Prop} {a : Act} {w : World} (h : sOp P ops o K a w) (Q : Exit → Act → World → Prop) :
    if Region.wanted o (yielded ops a.tmps) then o.wp P a w K Q else K (a.put o.dst undef) w := by
  unfold sOp at h
  by_cases hw : Region.wanted o (yielded ops a.tmps) = true
  · rw [if_pos hw] at h ⊢
    split at h
    · obtain ⟨v, hv, hK⟩ := h; exact wp_value (hv w) hK
    · obtain ⟨v, hv, hK⟩ := h; exact wp_value (hv w (hExt.refl _)) hK
    · obtain ⟨v, w', hv, _, hK⟩ := h; exact wp_value hv hK
    · unfold Oper.wp at *
      generalize (execOp a.eval o).run P w = r at *
      cases r with
      | ok n w' =>
        cases n with
        | enter f args =>
          simp only [Oper.upon] at h ⊢
          refine Calls.mono h ?_
          intro e w'' he
          cases e with
          | returned v => exact he
          | panicked c => exact he.elim
          | outgrown => obtain ⟨_, _, h⟩ := he; exact h.elim
        | _ => simp only [Oper.upon] at h ⊢ <;> exact h
      | halt x w' => cases x <;> simp only [Oper.upon] at h
  · rw [if_neg hw] at h ⊢
    exact h

theorem sOp_mono {P : Program} {ops : Array Oper} {o : Oper} {K K' : Act → World → Prop} {a : Act} {w : World} (h : sOp P ops o K a w) (hk : ∀ a w, K a w → K' a w) : sOp P ops o K' a w := by
  unfold sOp at *
  split
  · rename_i hw
    rw [if_pos hw] at h
    split
    · rename_i hc; rw [hc] at h; obtain ⟨v, hv, hK⟩ := h; exact ⟨v, hv, hk _ _ hK⟩
    · rename_i hc; rw [hc] at h; obtain ⟨v, hv, hK⟩ := h; exact ⟨v, hv, hk _ _ hK⟩
    · rename_i hc; rw [hc] at h; obtain ⟨v, w', hv, he, hK⟩ := h; exact ⟨v, w', hv, he, hk _ _ hK⟩
    · rename_i hc
      rw [hc] at h
      simp only at h
      unfold Oper.wp at *
      generalize (execOp a.eval o).run P w = r at *
      cases r with
      | ok n w' =>
        cases n with
        | enter f args =>
          simp only [Oper.upon] at h ⊢
          refine Calls.mono h ?_
          intro e w'' he
          cases e with
          | returned v => exact hk _ _ he
          | panicked c => exact he.elim
          | outgrown => obtain ⟨_, _, h⟩ := he; exact h.elim
        | row r args =>
          simp only [Oper.upon] at h ⊢
          exact Rows.mono h fun v w' h => hk _ _ h
        | value v => exact hk _ _ h
        | skip => exact hk _ _ h
        | defer d => exact hk _ _ h
        | _ => simp only [Oper.upon] at h
      | halt x w' => cases x <;> simp only [Oper.upon] at h
  · rename_i hw
    rw [if_neg hw] at h
    exact hk _ _ h

theorem sOp_put {P : Program} {ops : Array Oper} {oj : Oper} {d : Option Nat} {v : Value} (h1 : ∀ t, d = some t → t ∉ oj.looksAt ops) (h2 : ∀ t, d = some t → oj.dst ≠ some t)
    (hsj : ∀ cs b, oj.op ≠ .select cs b) {K : Act → World → Prop} {a : Act} {w : World} : sOp P ops oj K (a.put d v) w ↔ sOp P ops oj (fun a1 w1 => K (a1.put d v) w1) a w := by
  unfold sOp
  rw [wanted_put oj a d v h1]
  have he := execOp_put oj hsj a d v h1
  have hp : ∀ u, (a.put d v).put oj.dst u = (a.put oj.dst u).put d v := fun u => Act.put_comm a v u h2
  split
  · split
    · simp only [he, hp]
    · simp only [he, hp]
    · simp only [he, hp]
    · unfold Oper.wp
      rw [he]
      generalize (execOp a.eval oj).run P w = r
      cases r with
      | ok n w' =>
        cases n with
        | enter f args =>
          simp only [Oper.upon, hp]
        | defer df =>
          simp only [Oper.upon]
          have : ({ (a.put d v) with defers := df :: (a.put d v).defers } : Act).put oj.dst undef = (({ a with defers := df :: a.defers } : Act).put oj.dst undef).put d v := by
            have := Act.put_comm ({ a with defers := df :: a.defers } : Act) v undef h2
            rw [← this]
            cases d <;> rfl
          rw [this]
        | _ => simp only [Oper.upon, hp]
      | halt x w' => cases x <;> simp only [Oper.upon]
  · simp only [hp]

/-! ### Statements whose order is open -/

theorem opQ_sound {P : Program} {T : Tys} (hT : TOk P T) {o : Oper} {env : Env} {K : Value → Prop} {w : World} {a : Act} (hev : a.eval = ev env)
    (h : opQ P T o env w.heap K) : ∃ v, (∀ w', w'.heap = w.heap ∧ Same w w' → o.quietAt P a (fun w' => w'.heap = w.heap ∧ Same w w') w' v) ∧ K v := by
  have hread : opR T o env w.heap K → ∃ v, (∀ w', w'.heap = w.heap ∧ Same w w' → o.quietAt P a (fun w' => w'.heap = w.heap ∧ Same w w') w' v) ∧ K v := fun h => by
    obtain ⟨v, hr, hK⟩ := opR_sound hT h
    refine ⟨v, fun w' ⟨hh, _⟩ => ?_, hK⟩
    unfold Oper.quietAt
    rw [hev, hr w' (.inr (by rw [hh]; exact hExt.refl _))]
    exact ⟨rfl, rfl⟩
  unfold opQ at h
  split at h
  case h_1 c hx =>
    obtain ⟨callee, args, tys⟩ := c
    simp only at h
    split at h
    case h_1 _ _ _ f =>
      split at h
      · rename_i hmem
        have hf := hT.fns f (by simpa using hmem)
        obtain ⟨v, hc, hK⟩ := h
        refine ⟨v, fun w' ⟨hh, hs⟩ => ?_, asRes_spec hK⟩
        have hrun : (execOp a.eval o).run P w' = .ok (.enter f (args.map (ev env))) w' := by
          rw [hev]
          simp [execOp, hx, resolve, invoke, ev, Deferred.ofValue, run_callFunc' hf]
        unfold Oper.quietAt
        rw [hrun]
        refine ⟨rfl, ?_⟩
        have hc' := hc w' hh
        have hargs : (args.toList.map (ev env)).toArray = args.map (ev env) := by rw [← Array.toList_map, Array.toArray_toList]
        rw [hargs] at hc'
        refine Calls.mono hc' ?_
        rintro e w'' ⟨u, rfl, hs', rfl, hh'⟩
        exact ⟨rfl, hh'.trans rfl, hs.trans hs'⟩
      · exact h.elim
    case h_2 _ _ _ x t ha hy =>
      have ha' : args = #[x] := by rw [← Array.toList_inj, ha]
      have hy' : tys = #[t] := by rw [← Array.toList_inj, hy]
      subst ha'; subst hy'
      split at h
      · rename_i q m hmt hq hm
        obtain ⟨kt, et, u1, u2, u3⟩ := hT.mp _ (look_mem hq)
        simp only at u1
        cases m with
        | none =>
          refine ⟨.int .i64 0, fun w' ⟨hh, _⟩ => ?_, h⟩
          unfold Oper.quietAt
          rw [hev]
          simp [execOp, hx, resolve, invoke, builtin, hm, Builtin.len_, run_underlying u1, goInt, Result.andThen]
          exact ⟨rfl, rfl⟩
        | some b =>
          obtain ⟨es, clock, hb, hK⟩ := h
          refine ⟨.int .i64 es.size, fun w' ⟨hh, _⟩ => ?_, hK⟩
          have hb' : w'.heap[b]? = some (.map es clock) := by rw [hh]; exact hb
          unfold Oper.quietAt
          rw [hev]
          simp [execOp, hx, resolve, invoke, builtin, hm, Builtin.len_, run_underlying u1, MapKept.run_getObj_map hb', goInt, Result.andThen]
          exact ⟨rfl, rfl⟩
      · exact h.elim
      · exact hread h
    case h_3 => exact hread h
  case h_2 => exact hread h
/-! ### Regions -/

def envOf (a : Act) : Env := fun s => a.tmps.getD s undef
theorem eval_envOf (a : Act) : a.eval = ev (envOf a) := by funext x; cases x <;> rfl
theorem envOf_put {a : Act} {d : Option Nat} {v : Value} (h : ∀ t, d = some t → t < a.tmps.size) : envOf (a.put d v) = upd (envOf a) d v := by
  funext s
  cases d with
  | none => rfl
  | some t =>
    have ht := h t rfl
    unfold upd
    simp only
    cases hb : s.beq t with
    | true =>
      have := Nat.eq_of_beq_eq_true hb
      subst this
      simp [envOf, Act.put, Array.getD, ht]
    | false =>
      have hne : s ≠ t := by intro e; subst e; simp at hb
      simp only [envOf, Act.put]
      rw [Array.getD_eq_getD_getElem?, Array.getD_eq_getD_getElem?, Array.getElem?_setIfInBounds_ne (Ne.symm hne)]
theorem put_size (a : Act) (d : Option Nat) (v : Value) : (a.put d v).tmps.size = a.tmps.size := by cases d <;> simp [Act.put]
theorem put_defers (a : Act) (d : Option Nat) (v : Value) : (a.put d v).defers = a.defers := by cases d <;> rfl
theorem upd_same {env : Env} {g : Nat} {v : Value} (h : env g = v) : upd env (some g) v = env := by
  funext s
  unfold upd
  simp only
  cases hb : s.beq g with
  | true => have := Nat.eq_of_beq_eq_true hb; subst this; simp [h]
  | false => rfl
theorem wanted_spec {ops : Array Oper} {o : Oper} {a : Act} {j : Nat} {want b : Bool} {g : Nat} (hg : o.guard = some (j, want)) (hs : slotOf ops j = some g)
    (hb : envOf a g = .bool b) : Region.wanted o (yielded ops a.tmps) = (b == want) := by
  unfold Region.wanted
  rw [hg]
  simp only
  unfold yielded
  unfold slotOf at hs
  rw [hs]
  unfold envOf at hb
  have : a.tmps[g]? = some (.bool b) := by
    rw [Array.getD_eq_getD_getElem?] at hb
    cases h : a.tmps[g]? with
    | none => rw [h] at hb; simp [undef] at hb
    | some v => rw [h] at hb; simp at hb; rw [hb]
  simp [this]

theorem unwanted_spec {ops : Array Oper} {o : Oper} {a : Act} {j : Nat} {want : Bool} {g : Nat} (hg : o.guard = some (j, want)) (hs : slotOf ops j = some g)
    (hb : ∀ b, envOf a g = .bool b → False) : Region.wanted o (yielded ops a.tmps) = false := by
  unfold Region.wanted
  rw [hg]
  simp only
  unfold yielded
  unfold slotOf at hs
  rw [hs]
  unfold envOf at hb
  cases h : a.tmps[g]? with
  | none => simp [h]
  | some v =>
    cases v with
    | bool b => exact (hb b (by rw [Array.getD_eq_getD_getElem?, h]; rfl)).elim
    | _ => simp [h]

/-- The slots that are written. -/
def wrs : List Oper → List Nat
  | [] => []
  | o :: r => match o.dst with | some d => d :: wrs r | none => wrs r
/-- What a stretch of code has left as it was. -/
structure Left (ws : List Nat) (a a' : Act) : Prop where
  size : a'.tmps.size = a.tmps.size
  defers : a'.defers = a.defers
  slots : ∀ s, s ∉ ws → envOf a' s = envOf a s
theorem Left.refl (ws : List Nat) (a : Act) : Left ws a a := ⟨rfl, rfl, fun _ _ => rfl⟩
theorem Left.trans {ws : List Nat} {a b c : Act} (h : Left ws a b) (k : Left ws b c) : Left ws a c :=
  ⟨k.size.trans h.size, k.defers.trans h.defers, fun s hs => (k.slots s hs).trans (h.slots s hs)⟩
theorem Left.mono {ws ws' : List Nat} {a b : Act} (h : Left ws a b) (hw : ∀ s ∈ ws, s ∈ ws') : Left ws' a b :=
  ⟨h.size, h.defers, fun s hs => h.slots s fun h' => hs (hw s h')⟩
theorem Left.put {ws : List Nat} {a : Act} {d : Option Nat} {v : Value} (hlt : ∀ t, d = some t → t < a.tmps.size) (hd : ∀ t, d = some t → t ∈ ws) : Left ws a (a.put d v) :=
  ⟨put_size a d v, put_defers a d v, fun s hs => by
    rw [envOf_put hlt]
    cases d with
    | none => rfl
    | some t =>
      unfold upd
      simp only
      cases hb : s.beq t with
      | true => exact absurd (Nat.eq_of_beq_eq_true hb ▸ hd t rfl) hs
      | false => rfl⟩

def sOps (P : Program) (ops : Array Oper) (Q : Act → World → Prop) : List Oper → Act → World → Prop
  | [], a, w => Q a w
  | o :: rest, a, w => sOp P ops o (sOps P ops Q rest) a w

theorem opsW_sound {P : Program} {T : Tys} (hT : TOk P T) {ops : Array Oper} {K : Env → Heap → Prop} {ws : List Nat} {Q : Act → World → Prop} {a0 : Act} {w0 : World} :
    ∀ (l : List Oper) (a : Act) (w : World), Left ws a0 a → Same w0 w → (∀ s ∈ wrs l, s ∈ ws) → (∀ s ∈ wrs l, s < a0.tmps.size) → opsW P T ops l (envOf a) w.heap K →
    (∀ a' w', Left ws a0 a' → Same w0 w' → K (envOf a') w'.heap → Q a' w') → sOps P ops Q l a w
  | [], a, w, hL, hS, _, _, h, hq => hq a w hL hS h
  | o :: rest, a, w, hL, hS, hws, hlt, h, hq => by
    have hd : ∀ t, o.dst = some t → t ∈ ws := fun t ht => hws t (by simp [wrs, ht])
    have hdl : ∀ t, o.dst = some t → t < a.tmps.size := fun t ht => by rw [hL.size]; exact hlt t (by simp [wrs, ht])
    have hws' : ∀ s ∈ wrs rest, s ∈ ws := fun s hs => hws s (by unfold wrs; cases o.dst <;> simp [hs])
    have hlt' : ∀ s ∈ wrs rest, s < a0.tmps.size := fun s hs => hlt s (by unfold wrs; cases o.dst <;> simp [hs])
    have go : Region.wanted o (yielded ops a.tmps) = true → opW P T o (envOf a) w.heap (fun v h' => opsW P T ops rest (upd (envOf a) o.dst v) h' K) → sOps P ops Q (o :: rest) a w := fun hw h =>
      opW_sound hT (eval_envOf a) hw h fun v w' hs hK => opsW_sound hT rest (a.put o.dst v) w' (hL.trans (Left.put hdl hd)) (hS.trans hs) hws' hlt' (by rw [envOf_put hdl]; exact hK) hq
    have skip : opsW P T ops rest (upd (envOf a) o.dst undef) w.heap K → Region.wanted o (yielded ops a.tmps) = false → sOps P ops Q (o :: rest) a w := fun h hw => by
      unfold sOps sOp
      rw [hw]
      exact opsW_sound hT rest (a.put o.dst undef) w (hL.trans (Left.put hdl hd)) hS hws' hlt' (by rw [envOf_put hdl]; exact h) hq
    unfold opsW at h
    split at h
    · rename_i hg
      exact go (by simp [Region.wanted, hg]) h
    · rename_i j want hg
      split at h
      · exact h.elim
      · rename_i g hs
        split at h
        · rename_i b hb
          have hw := wanted_spec hg hs hb
          cases b with
          | true =>
            simp only [ifB, upd_same hb] at h
            cases want with
            | true => exact go hw h
            | false => exact skip h hw
          | false =>
            simp only [ifB, upd_same hb] at h
            cases want with
            | true => exact skip h hw
            | false => exact go hw h
        · rename_i hnb
          exact skip h (unwanted_spec hg hs hnb)

theorem sOps.list {P : Program} {ops : Array Oper} {Q : Exit → Act → World → Prop} : ∀ (l : List Oper) (a : Act) (w : World), sOps P ops (Q .normal) l a w → wpList P ops Q l a w
  | [], _, _, h => h
  | o :: rest, a, w, h => by
    unfold wpList
    have h2 := sOp.wp (sOp_mono h fun a w h => sOps.list rest a w h) Q
    split
    · rename_i hw; rw [if_pos hw] at h2; exact .inl h2
    · rename_i hw; rw [if_neg hw] at h2; exact h2

/-! Whatever order: which operations may stand in either order -/
def pairOk : Cls → Cls → Bool
  | .pure, _ => true
  | _, .pure => true
  | .read, .read => true
  | .read, .alloc => true
  | _, _ => false

theorem wp_const {P : Program} {o : Oper} {a : Act} {w : World} {F : Prop} {X : Act → World → Prop} (h : o.wp P a w (fun a w => F ∧ X a w) (fun _ _ _ => False)) : F := by
  unfold Oper.wp at h
  generalize (execOp a.eval o).run P w = r at *
  cases r with
  | ok n w' =>
    cases n with
    | enter f args =>
      simp only [Oper.upon] at h
      obtain ⟨e, w'', fr, hR, _⟩ := h []
      cases e with
      | returned v => exact hR.1
      | panicked c => exact hR.elim
      | outgrown => obtain ⟨_, _, h⟩ := hR; exact h.elim
    | row r args =>
      simp only [Oper.upon] at h
      obtain ⟨v, w'', hR, _⟩ := h default []
      exact hR.1
    | value v => exact h.1
    | skip => exact h.1
    | defer d => exact h.1
    | _ => simp only [Oper.upon] at h
  | halt x w' => cases x <;> simp only [Oper.upon] at h

theorem sOp_const {P : Program} {ops : Array Oper} {o : Oper} {a : Act} {w : World} {F : Prop} {X : Act → World → Prop} (h : sOp P ops o (fun a w => F ∧ X a w) a w) : F := by
  unfold sOp at h
  split at h
  · split at h
    · obtain ⟨_, _, h⟩ := h; exact h.1
    · obtain ⟨_, _, h⟩ := h; exact h.1
    · obtain ⟨_, _, _, _, h⟩ := h; exact h.1
    · exact wp_const h
  · exact h.1

theorem sOp_at {P : Program} {ops : Array Oper} {o : Oper} {K K' : Act → World → Prop} {a : Act} {w : World} (h : sOp P ops o K a w)
    (hk : ∀ a1 w1, (∃ u, a1.tmps = (a.put o.dst u).tmps) → (clsOf o = .other ∨ hExt w.heap w1.heap) → K a1 w1 → K' a1 w1) : sOp P ops o K' a w := by
  unfold sOp at *
  split
  · rename_i hw
    rw [if_pos hw] at h
    split
    · rename_i hc; rw [hc] at h; obtain ⟨v, hv, hK⟩ := h; exact ⟨v, hv, hk _ _ ⟨v, rfl⟩ (.inr (hExt.refl _)) hK⟩
    · rename_i hc; rw [hc] at h; obtain ⟨v, hv, hK⟩ := h; exact ⟨v, hv, hk _ _ ⟨v, rfl⟩ (.inr (hExt.refl _)) hK⟩
    · rename_i hc; rw [hc] at h; obtain ⟨v, w', hv, he, hK⟩ := h; exact ⟨v, w', hv, he, hk _ _ ⟨v, rfl⟩ (.inr he) hK⟩
    · rename_i hc
      rw [hc] at h
      simp only at h
      unfold Oper.wp at *
      generalize (execOp a.eval o).run P w = r at *
      cases r with
      | ok n w' =>
        cases n with
        | enter f args =>
          simp only [Oper.upon] at h ⊢
          refine Calls.mono h ?_
          intro e w'' he
          cases e with
          | returned v => exact hk _ _ ⟨v, rfl⟩ (.inl hc) he
          | panicked c => exact he.elim
          | outgrown => obtain ⟨_, _, h⟩ := he; exact h.elim
        | row r args =>
          simp only [Oper.upon] at h ⊢
          exact Rows.mono h fun v w' h => hk _ _ ⟨v, rfl⟩ (.inl hc) h
        | value v => exact hk _ _ ⟨v, rfl⟩ (.inl hc) h
        | skip => exact hk _ _ ⟨undef, rfl⟩ (.inl hc) h
        | defer d => exact hk _ _ ⟨undef, by cases o.dst <;> rfl⟩ (.inl hc) h
        | _ => simp only [Oper.upon] at h
      | halt x w' => cases x <;> simp only [Oper.upon] at h
  · rename_i hw
    rw [if_neg hw] at h
    exact hk _ _ ⟨undef, rfl⟩ (.inr (hExt.refl _)) h

theorem eval_tmps {a b : Act} (h : a.tmps = b.tmps) : a.eval = b.eval := by
  funext x
  cases x <;> simp [Act.eval, h]

theorem sOp_swap {P : Program} {ops : Array Oper} {oi oj : Oper} (hap : oi.apart ops oj = true) (hp : pairOk (clsOf oi) (clsOf oj) = true)
    (hsi : ∀ cs b, oi.op ≠ .select cs b) (hsj : ∀ cs b, oj.op ≠ .select cs b) {K : Act → World → Prop} {a : Act} {w : World}
    (h : sOp P ops oi (fun a1 w1 => sOp P ops oj K a1 w1) a w) : sOp P ops oj (fun a1 w1 => sOp P ops oi K a1 w1) a w := by
  obtain ⟨h1, h2, h3⟩ := Oper.apart_spec hap
  have h2' : ∀ t, oj.dst = some t → oi.dst ≠ some t := fun t ht e => h2 t e ht
  -- what 'oi' asks does not hang on 'oj', and the other way
  have ei : ∀ (a1 : Act) u, a1.tmps = (a.put oj.dst u).tmps → execOp a1.eval oi = execOp a.eval oi := fun a1 u e => by rw [eval_tmps e]; exact execOp_put oi hsi a oj.dst u h3
  have ej : ∀ (a1 : Act) u, a1.tmps = (a.put oi.dst u).tmps → execOp a1.eval oj = execOp a.eval oj := fun a1 u e => by rw [eval_tmps e]; exact execOp_put oj hsj a oi.dst u h1
  have wi : ∀ (a1 : Act) u, a1.tmps = (a.put oj.dst u).tmps → Region.wanted oi (yielded ops a1.tmps) = Region.wanted oi (yielded ops a.tmps) := fun a1 u e => by rw [e]; exact wanted_put oi a oj.dst u h3
  have wj : ∀ (a1 : Act) u, a1.tmps = (a.put oi.dst u).tmps → Region.wanted oj (yielded ops a1.tmps) = Region.wanted oj (yielded ops a.tmps) := fun a1 u e => by rw [e]; exact wanted_put oj a oi.dst u h1
  by_cases hwi : Region.wanted oi (yielded ops a.tmps) = true
  case neg =>
    have h' : sOp P ops oj K (a.put oi.dst undef) w := by unfold sOp at h; rw [if_neg hwi] at h; exact h
    rw [sOp_put h1 h2 hsj] at h'
    refine sOp_at h' fun a1 w1 ⟨u, hu⟩ _ hK => ?_
    unfold sOp
    rw [wi a1 u hu, if_neg hwi]
    exact hK
  case pos =>
    have easy : ∀ v, sOp P ops oj K (a.put oi.dst v) w → (∀ w1 : World, (clsOf oj = .other ∨ hExt w.heap w1.heap) → ∀ a1 : Act, execOp a1.eval oi = execOp a.eval oi → Region.wanted oi (yielded ops a1.tmps) = true →
        K (a1.put oi.dst v) w1 → sOp P ops oi K a1 w1) → sOp P ops oj (fun a1 w1 => sOp P ops oi K a1 w1) a w := by
      intro v h' hk
      rw [sOp_put h1 h2 hsj] at h'
      exact sOp_at h' fun a1 w1 ⟨u, hu⟩ hc hK => hk w1 hc a1 (ei a1 u hu) (by rw [wi a1 u hu]; exact hwi) hK
    have hard : clsOf oj = .pure → sOp P ops oj (fun a1 w1 => sOp P ops oi K a1 w1) a w := by
      intro hcj
      by_cases hwj : Region.wanted oj (yielded ops a.tmps) = true
      · have hF : ∃ u, ∀ w'' : World, (execOp a.eval oj).run P w'' = .ok (.value u) w'' := by
          refine sOp_const (X := fun _ _ => True) (sOp_at h fun a1 w1 ⟨u, hu⟩ _ hK => ⟨?_, trivial⟩)
          unfold sOp at hK
          rw [wj a1 u hu, if_pos hwj, hcj] at hK
          obtain ⟨v, hv, _⟩ := hK
          exact ⟨v, fun w'' => by rw [← ej a1 u hu]; exact hv w''⟩
        obtain ⟨u, hu⟩ := hF
        have h' : sOp P ops oi (fun a1 w1 => K (a1.put oj.dst u) w1) a w := sOp_at h fun a1 w1 ⟨x, hx⟩ _ hK => by
          unfold sOp at hK
          rw [wj a1 x hx, if_pos hwj, hcj] at hK
          obtain ⟨v, hv, hK⟩ := hK
          have e1 := hv w1
          rw [ej a1 x hx, hu w1] at e1
          injection e1 with e1 _
          injection e1 with e1
          rw [e1]
          exact hK
        rw [← sOp_put h3 h2' hsi] at h'
        unfold sOp
        rw [if_pos hwj, hcj]
        exact ⟨u, hu, h'⟩
      · have h' : sOp P ops oi (fun a1 w1 => K (a1.put oj.dst undef) w1) a w := sOp_at h fun a1 w1 ⟨x, hx⟩ _ hK => by
          unfold sOp at hK
          rw [wj a1 x hx, if_neg hwj] at hK
          exact hK
        rw [← sOp_put h3 h2' hsi] at h'
        unfold sOp
        rw [if_neg hwj]
        exact h'
    cases hci : clsOf oi with
    | pure =>
      unfold sOp at h
      rw [if_pos hwi, hci] at h
      obtain ⟨v, hv, h'⟩ := h
      refine easy v h' fun w1 _ a1 e1 e2 hK => ?_
      unfold sOp
      rw [if_pos e2, hci]
      exact ⟨v, fun w'' => by rw [e1]; exact hv w'', hK⟩
    | read =>
      unfold sOp at h
      rw [if_pos hwi, hci] at h
      obtain ⟨v, hv, h'⟩ := h
      refine easy v h' fun w1 hc a1 e1 e2 hK => ?_
      have hx : hExt w.heap w1.heap := by
        rcases hc with hc | hc
        · rw [hci, hc] at hp; simp [pairOk] at hp
        · exact hc
      unfold sOp
      rw [if_pos e2, hci]
      exact ⟨v, fun w'' hw'' => by rw [e1]; exact hv w'' (hx.trans hw''), hK⟩
    | alloc => rw [hci] at hp; exact hard (by cases hcj : clsOf oj <;> simp_all [pairOk])
    | other => rw [hci] at hp; exact hard (by cases hcj : clsOf oj <;> simp_all [pairOk])

/-- Whatever order is picked. -/
def anyX (P : Program) (ops : Array Oper) (K : Act → World → Prop) : Nat → Array Bool → Act → World → Prop
  | 0, listed, a, w => Region.ready .any ops listed = [] ∧ K a w
  | fuel + 1, listed, a, w =>
    (Region.ready .any ops listed = [] → K a w) ∧ ∀ i ∈ Region.ready .any ops listed, ∀ o, ops[i]? = some o → sOp P ops o (anyX P ops K fuel (listed.setIfInBounds i true)) a w
theorem anyX.any {P : Program} {ops : Array Oper} {Q : Exit → Act → World → Prop} : ∀ (fuel : Nat) (listed : Array Bool) (a : Act) (w : World), anyX P ops (Q .normal) fuel listed a w → wpAny P .any ops Q fuel listed a w
  | 0, _, _, _, h => h
  | fuel + 1, listed, a, w, h => ⟨h.1, fun i hi => by
    obtain ⟨_, o, ho, _⟩ := mem_ready.1 hi
    have h2 := sOp.wp (sOp_mono (h.2 i hi o ho) fun a w h => anyX.any fuel _ a w h) Q
    unfold wpOp
    rw [ho]
    simp only
    split
    · rename_i hw; rw [if_pos hw] at h2; exact .inl h2
    · rename_i hw; rw [if_neg hw] at h2; exact h2⟩

def freeX (ops : Array Oper) (listed : Array Bool) (i : Nat) : Bool :=
  match ops[i]? with
  | none => false
  | some oi => (List.range ops.size).all fun j => j == i || listed.getD j true || match ops[j]? with
      | some oj => oj.after.any (fun e => Region.binds .any e && e.on == i) || (oi.apart ops oj && pairOk (clsOf oi) (clsOf oj))
      | none => true
theorem freeX_spec {ops : Array Oper} {i : Nat} {oi : Oper} {listed : Array Bool} (hi : ops[i]? = some oi) (h : freeX ops listed i = true) (j : Nat) (oj : Oper)
    (hj : ops[j]? = some oj) (hne : j ≠ i) (hun : listed.getD j true = false) (hno : ∀ e ∈ oj.after, Region.binds .any e = true → e.on ≠ i) :
    oi.apart ops oj = true ∧ pairOk (clsOf oi) (clsOf oj) = true := by
  simp only [freeX, hi, List.all_eq_true, List.mem_range] at h
  have h1 := h j (Array.getElem?_eq_some_iff.1 hj).1
  simp only [hj, Bool.or_eq_true, beq_iff_eq, hne, false_or, hun, Bool.false_eq_true] at h1
  rcases h1 with h1 | h1
  · obtain ⟨e, he, hb⟩ := Array.any_eq_true'.1 h1
    simp only [Bool.and_eq_true, beq_iff_eq] at hb
    exact absurd hb.2 (hno e he hb.1)
  · simpa using h1

theorem anyX_first {P : Program} {ops : Array Oper} {K : Act → World → Prop} {i : Nat} {oi : Oper} (hi : ops[i]? = some oi) (hsel : ∀ (j : Nat) (o : Oper) cs b, ops[j]? = some o → o.op ≠ .select cs b) :
    ∀ (fuel : Nat) (listed : Array Bool) (a : Act) (w : World),
      (∀ j oj, ops[j]? = some oj → j ≠ i → listed.getD j true = false → (∀ e ∈ oj.after, Region.binds .any e = true → e.on ≠ i) → oi.apart ops oj = true ∧ pairOk (clsOf oi) (clsOf oj) = true) →
      i ∈ Region.ready .any ops listed → sOp P ops oi (anyX P ops K fuel (listed.setIfInBounds i true)) a w → anyX P ops K (fuel + 1) listed a w := by
  intro fuel
  induction fuel with
  | zero =>
    intro listed a w _ hr H
    refine ⟨fun h => (by rw [h] at hr; cases hr), fun j hj oj hoj => ?_⟩
    by_cases hji : j = i
    · subst hji
      have : oj = oi := Option.some.inj (hoj.symm.trans hi)
      subst this
      exact H
    · have h1 := ready_mono hj hji
      have h2 : Region.ready .any ops (listed.setIfInBounds i true) = [] := sOp_const (X := fun a w => K a w) H
      rw [h2] at h1
      cases h1
  | succ fuel ih =>
    intro listed a w hfree hr H
    refine ⟨fun h => (by rw [h] at hr; cases hr), fun j hj oj hoj => ?_⟩
    by_cases hji : j = i
    · subst hji
      have : oj = oi := Option.some.inj (hoj.symm.trans hi)
      subst this
      exact H
    · obtain ⟨hjun, oj', hoj', hall⟩ := mem_ready.1 hj
      have : oj' = oj := Option.some.inj (hoj'.symm.trans hoj)
      subst this
      have hnot : ∀ e ∈ oj'.after, Region.binds .any e = true → e.on ≠ i := fun e he hb heq => by
        have h1 := hall e he hb
        have h0 := (mem_ready.1 hr).1
        rw [heq] at h1
        rcases Nat.lt_or_ge i listed.size with h' | h'
        · simp [h'] at h0 h1; rw [h0] at h1; cases h1
        · simp [Array.getElem?_eq_none h'] at h1
      have hpr := hfree j oj' hoj hji hjun hnot
      have h1 : sOp P ops oi (fun a1 w1 => sOp P ops oj' (anyX P ops K fuel ((listed.setIfInBounds i true).setIfInBounds j true)) a1 w1) a w :=
        sOp_mono H fun a1 w1 h => h.2 j (ready_mono hj hji) oj' hoj
      have h2 := sOp_swap hpr.1 hpr.2 (fun cs b => hsel i oi cs b hi) (fun cs b => hsel j oj' cs b hoj) h1
      have hfree' : ∀ k ok, ops[k]? = some ok → k ≠ i → (listed.setIfInBounds j true).getD k true = false →
          (∀ e ∈ ok.after, Region.binds .any e = true → e.on ≠ i) → oi.apart ops ok = true ∧ pairOk (clsOf oi) (clsOf ok) = true := fun k ok hk hki hun hno => by
        refine hfree k ok hk hki ?_ hno
        by_cases hjk : j = k
        · subst hjk; exact hjun
        · rw [getD_set_ne true hjk] at hun; exact hun
      refine sOp_mono h2 fun a1 w1 h3 => ih (listed.setIfInBounds j true) a1 w1 hfree' (ready_mono hr (Ne.symm hji)) ?_
      rw [Array.setIfInBounds_comm _ _ hji]
      exact h3

/-! What waits for an operation through others cannot come ahead of it. -/
def depX (ops : Array Oper) (i : Nat) : List Oper → Nat → List Nat → List Nat
  | [], _, D => D
  | o :: l, n, D => match o.after.any (fun e => Region.binds .any e && (e.on == i || D.contains e.on)) with
      | true => depX ops i l (n + 1) (n :: D)
      | false => depX ops i l (n + 1) D
def freeXD (ops : Array Oper) (listed : Array Bool) (i : Nat) (D : List Nat) : Bool :=
  match ops[i]? with
  | none => false
  | some oi => (D.all fun j => !(listed.getD j true) && match ops[j]? with
      | some oj => oj.after.any (fun e => Region.binds .any e && (e.on == i || D.contains e.on))
      | none => false) && ((List.range ops.size).all fun j => j == i || listed.getD j true || D.contains j || match ops[j]? with
      | some oj => oi.apart ops oj && pairOk (clsOf oi) (clsOf oj)
      | none => true)
theorem anyX_firstD {P : Program} {ops : Array Oper} {K : Act → World → Prop} {i : Nat} {oi : Oper} (hi : ops[i]? = some oi) (hsel : ∀ (j : Nat) (o : Oper) cs b, ops[j]? = some o → o.op ≠ .select cs b) (D : List Nat)
    (hD : ∀ j ∈ D, ∃ oj, ops[j]? = some oj ∧ ∃ e ∈ oj.after, Region.binds .any e = true ∧ (e.on = i ∨ e.on ∈ D)) :
    ∀ (fuel : Nat) (listed : Array Bool) (a : Act) (w : World), (∀ j ∈ D, listed.getD j true = false) →
      (∀ j oj, ops[j]? = some oj → j ≠ i → listed.getD j true = false → j ∉ D → oi.apart ops oj = true ∧ pairOk (clsOf oi) (clsOf oj) = true) →
      i ∈ Region.ready .any ops listed → sOp P ops oi (anyX P ops K fuel (listed.setIfInBounds i true)) a w → anyX P ops K (fuel + 1) listed a w := by
  intro fuel
  induction fuel with
  | zero =>
    intro listed a w _ _ hr H
    refine ⟨fun h => (by rw [h] at hr; cases hr), fun j hj oj hoj => ?_⟩
    by_cases hji : j = i
    · subst hji
      have : oj = oi := Option.some.inj (hoj.symm.trans hi)
      subst this
      exact H
    · have h1 := ready_mono hj hji
      have h2 : Region.ready .any ops (listed.setIfInBounds i true) = [] := sOp_const (X := fun a w => K a w) H
      rw [h2] at h1
      cases h1
  | succ fuel ih =>
    intro listed a w hDl hfree hr H
    refine ⟨fun h => (by rw [h] at hr; cases hr), fun j hj oj hoj => ?_⟩
    by_cases hji : j = i
    · subst hji
      have : oj = oi := Option.some.inj (hoj.symm.trans hi)
      subst this
      exact H
    · obtain ⟨hjun, oj', hoj', hall⟩ := mem_ready.1 hj
      have : oj' = oj := Option.some.inj (hoj'.symm.trans hoj)
      subst this
      have hnotD : j ∉ D := fun hjD => by
        obtain ⟨oj2, ho2, e, he, hb, hon⟩ := hD j hjD
        have : oj2 = oj' := Option.some.inj (ho2.symm.trans hoj')
        subst this
        have h1 := hall e he hb
        have h0 : listed.getD e.on true = false := by
          rcases hon with hon | hon
          · rw [hon]; exact (mem_ready.1 hr).1
          · exact hDl _ hon
        rcases Nat.lt_or_ge e.on listed.size with h' | h'
        · simp [h'] at h0 h1; rw [h0] at h1; cases h1
        · simp [Array.getElem?_eq_none h'] at h1
      have hpr := hfree j oj' hoj hji hjun hnotD
      have h1 : sOp P ops oi (fun a1 w1 => sOp P ops oj' (anyX P ops K fuel ((listed.setIfInBounds i true).setIfInBounds j true)) a1 w1) a w :=
        sOp_mono H fun a1 w1 h => h.2 j (ready_mono hj hji) oj' hoj
      have h2 := sOp_swap hpr.1 hpr.2 (fun cs b => hsel i oi cs b hi) (fun cs b => hsel j oj' cs b hoj) h1
      have hfree' : ∀ k ok, ops[k]? = some ok → k ≠ i → (listed.setIfInBounds j true).getD k true = false → k ∉ D →
          oi.apart ops ok = true ∧ pairOk (clsOf oi) (clsOf ok) = true := fun k ok hk hki hun hno => by
        refine hfree k ok hk hki ?_ hno
        by_cases hjk : j = k
        · subst hjk; exact hjun
        · rw [getD_set_ne true hjk] at hun; exact hun
      have hDl' : ∀ k ∈ D, (listed.setIfInBounds j true).getD k true = false := fun k hk => by
        rw [getD_set_ne true (show j ≠ k from fun e => by subst e; exact hnotD hk)]
        exact hDl k hk
      refine sOp_mono h2 fun a1 w1 h3 => ih (listed.setIfInBounds j true) a1 w1 hDl' hfree' (ready_mono hr (Ne.symm hji)) ?_
      rw [Array.setIfInBounds_comm _ _ hji]
      exact h3
theorem freeXD_spec {ops : Array Oper} {i : Nat} {oi : Oper} {listed : Array Bool} {D : List Nat} (hi : ops[i]? = some oi) (h : freeXD ops listed i D = true) :
    (∀ j ∈ D, ∃ oj, ops[j]? = some oj ∧ ∃ e ∈ oj.after, Region.binds .any e = true ∧ (e.on = i ∨ e.on ∈ D)) ∧ (∀ j ∈ D, listed.getD j true = false) ∧
    (∀ j oj, ops[j]? = some oj → j ≠ i → listed.getD j true = false → j ∉ D → oi.apart ops oj = true ∧ pairOk (clsOf oi) (clsOf oj) = true) := by
  simp only [freeXD, hi, Bool.and_eq_true, List.all_eq_true, List.mem_range] at h
  obtain ⟨h1, h2⟩ := h
  refine ⟨fun j hj => ?_, fun j hj => ?_, fun j oj hoj hne hun hno => ?_⟩
  · have := (h1 j hj).2
    cases ho : ops[j]? with
    | none => rw [ho] at this; cases this
    | some oj =>
      rw [ho] at this
      obtain ⟨e, he, hb⟩ := Array.any_eq_true'.1 this
      simp only [Bool.and_eq_true, Bool.or_eq_true, beq_iff_eq, List.contains_iff_mem] at hb
      exact ⟨oj, rfl, e, he, hb.1, hb.2⟩
  · simpa using (h1 j hj).1
  · have h3 := h2 j (Array.getElem?_eq_some_iff.1 hoj).1
    simp only [hoj, Bool.or_eq_true, beq_iff_eq, hne, false_or, hun, Bool.false_eq_true, List.contains_iff_mem, hno] at h3
    simpa using h3

def lexFromX (ops : Array Oper) : Nat → Nat → Array Bool → Bool
  | 0, _, listed => (Region.ready .any ops listed).isEmpty
  | fuel + 1, k, listed => (Region.ready .any ops listed).contains k && (freeX ops listed k || freeXD ops listed k (depX ops k ops.toList 0 [])) && lexFromX ops fuel (k + 1) (listed.setIfInBounds k true)
def lexX (ops : Array Oper) : Bool := Region.noSelect ops && lexFromX ops ops.size 0 (Array.replicate ops.size false)

theorem anyX_lex {P : Program} {ops : Array Oper} {K : Act → World → Prop} (hs : Region.noSelect ops = true) : ∀ (l : List Oper) (k : Nat) (listed : Array Bool) (a : Act) (w : World), (∀ j, l[j]? = ops[k + j]?) →
    lexFromX ops l.length k listed = true → sOps P ops K l a w → anyX P ops K l.length listed a w
  | [], _, _, _, _, _, hB, h => ⟨by simpa [lexFromX] using hB, h⟩
  | o :: l, k, listed, a, w, hl, hB, h => by
    have h0 : ops[k]? = some o := by simpa using (hl 0).symm
    simp only [List.length_cons, lexFromX, Bool.and_eq_true] at hB
    obtain ⟨⟨hr, hf⟩, hB'⟩ := hB
    have hS : sOp P ops o (anyX P ops K l.length (listed.setIfInBounds k true)) a w → anyX P ops K (l.length + 1) listed a w := fun hh => by
      rcases Bool.or_eq_true _ _ ▸ hf with hf | hf
      · exact anyX_first h0 (Region.noSelect_spec hs) l.length listed a w (freeX_spec h0 hf) (by simpa using hr) hh
      · obtain ⟨f1, f2, f3⟩ := freeXD_spec h0 hf
        exact anyX_firstD h0 (Region.noSelect_spec hs) _ f1 l.length listed a w f2 f3 (by simpa using hr) hh
    refine hS ?_
    exact sOp_mono h fun a1 w1 h1 => anyX_lex hs l (k + 1) _ a1 w1 (fun j => by have := hl (j + 1); simpa [Nat.add_assoc, Nat.add_comm 1 j] using this) hB' h1

theorem wp_region_lexX {P : Program} {ops : Array Oper} {id : Nat} {Q : Exit → Act → World → Prop} {a : Act} {w : World} (hm : P.follows .mixedOrders = true) (hB : lexX ops = true)
    (h : sOps P ops (Q .normal) ops.toList a { w with drawn := w.drawn + 1 }) : (Code.region id ops true).wp P Q a w := by
  simp only [lexX, Bool.and_eq_true] at hB
  refine wp_region_any hm (anyX.any _ _ _ _ ?_)
  have := anyX_lex hB.1 ops.toList 0 (Array.replicate ops.size false) a _ (by simp) (by simpa using hB.2) h
  simpa using this

/-! ### The same, what is read being read at the statement's start -/
def sOpB (P : Program) (ops : Array Oper) (hb : Heap) (o : Oper) (K : Act → World → Prop) (a : Act) (w : World) : Prop :=
  if Region.wanted o (yielded ops a.tmps) then
    match clsOf o with
    | .pure => ∃ v, (∀ w'' : World, (execOp a.eval o).run P w'' = .ok (.value v) w'') ∧ K (a.put o.dst v) w
    | .read => ∃ v, (∀ w'' : World, hExt hb w''.heap → (execOp a.eval o).run P w'' = .ok (.value v) w'') ∧ K (a.put o.dst v) w
    | .alloc => ∃ v w', (execOp a.eval o).run P w = .ok (.value v) w' ∧ hExt w.heap w'.heap ∧ K (a.put o.dst v) w'
    | .other => o.wp P a w (fun a1 w1 => hExt w.heap w1.heap ∧ K a1 w1) (fun _ _ _ => False)
  else K (a.put o.dst undef) w

theorem wp_other_mono {P : Program} {o : Oper} {a : Act} {w : World} {K K' : Act → World → Prop} (h : o.wp P a w K (fun _ _ _ => False))
    (hk : ∀ a1 w1, (∃ u, a1.tmps = (a.put o.dst u).tmps) → K a1 w1 → K' a1 w1) (Q : Exit → Act → World → Prop) : o.wp P a w K' Q := by
  unfold Oper.wp at *
  generalize (execOp a.eval o).run P w = r at *
  cases r with
  | ok n w' =>
    cases n with
    | enter f args =>
      simp only [Oper.upon] at h ⊢
      refine Calls.mono h ?_
      intro e w'' he
      cases e with
      | returned v => exact hk _ _ ⟨v, rfl⟩ he
      | panicked c => exact he.elim
      | outgrown => obtain ⟨_, _, h⟩ := he; exact h.elim
    | row r args =>
      simp only [Oper.upon] at h ⊢
      exact Rows.mono h fun v w' h => hk _ _ ⟨v, rfl⟩ h
    | value v => exact hk _ _ ⟨v, rfl⟩ h
    | skip => exact hk _ _ ⟨undef, rfl⟩ h
    | defer d => exact hk _ _ ⟨undef, by cases o.dst <;> rfl⟩ h
    | _ => simp only [Oper.upon] at h
  | halt x w' => cases x <;> simp only [Oper.upon] at h

theorem sOpB_at {P : Program} {ops : Array Oper} {hb : Heap} {o : Oper} {K K' : Act → World → Prop} {a : Act} {w : World} (h : sOpB P ops hb o K a w)
    (hk : ∀ a1 w1, (∃ u, a1.tmps = (a.put o.dst u).tmps) → hExt w.heap w1.heap → K a1 w1 → K' a1 w1) : sOpB P ops hb o K' a w := by
  unfold sOpB at *
  split
  · rename_i hw
    rw [if_pos hw] at h
    split
    · rename_i hc; rw [hc] at h; obtain ⟨v, hv, hK⟩ := h; exact ⟨v, hv, hk _ _ ⟨v, rfl⟩ (hExt.refl _) hK⟩
    · rename_i hc; rw [hc] at h; obtain ⟨v, hv, hK⟩ := h; exact ⟨v, hv, hk _ _ ⟨v, rfl⟩ (hExt.refl _) hK⟩
    · rename_i hc; rw [hc] at h; obtain ⟨v, w', hv, he, hK⟩ := h; exact ⟨v, w', hv, he, hk _ _ ⟨v, rfl⟩ he hK⟩
    · rename_i hc
      rw [hc] at h
      exact wp_other_mono h (fun a1 w1 hu ⟨he, hK⟩ => ⟨he, hk a1 w1 hu he hK⟩) _
  · rename_i hw
    rw [if_neg hw] at h
    exact hk _ _ ⟨undef, rfl⟩ (hExt.refl _) h
theorem sOpB_mono {P : Program} {ops : Array Oper} {hb : Heap} {o : Oper} {K K' : Act → World → Prop} {a : Act} {w : World} (h : sOpB P ops hb o K a w) (hk : ∀ a w, K a w → K' a w) : sOpB P ops hb o K' a w :=
  sOpB_at h fun a1 w1 _ _ hK => hk a1 w1 hK

theorem sOpB.wp {P : Program} {ops : Array Oper} {hb : Heap} {o : Oper} {K : Act → World → Prop} {a : Act} {w : World} (hx : hExt hb w.heap) (h : sOpB P ops hb o K a w) (Q : Exit → Act → World → Prop) :
    if Region.wanted o (yielded ops a.tmps) then o.wp P a w K Q else K (a.put o.dst undef) w := by
  unfold sOpB at h
  by_cases hw : Region.wanted o (yielded ops a.tmps) = true
  · rw [if_pos hw] at h ⊢
    split at h
    · obtain ⟨v, hv, hK⟩ := h; exact wp_value (hv w) hK
    · obtain ⟨v, hv, hK⟩ := h; exact wp_value (hv w hx) hK
    · obtain ⟨v, w', hv, _, hK⟩ := h; exact wp_value hv hK
    · exact wp_other_mono h (fun _ _ _ hK => hK.2) Q
  · rw [if_neg hw] at h ⊢
    exact h

theorem sOpB_put {P : Program} {ops : Array Oper} {hb : Heap} {oj : Oper} {d : Option Nat} {v : Value} (h1 : ∀ t, d = some t → t ∉ oj.looksAt ops) (h2 : ∀ t, d = some t → oj.dst ≠ some t)
    (hsj : ∀ cs b, oj.op ≠ .select cs b) {K : Act → World → Prop} {a : Act} {w : World} : sOpB P ops hb oj K (a.put d v) w ↔ sOpB P ops hb oj (fun a1 w1 => K (a1.put d v) w1) a w := by
  unfold sOpB
  rw [wanted_put oj a d v h1]
  have he := execOp_put oj hsj a d v h1
  have hp : ∀ u, (a.put d v).put oj.dst u = (a.put oj.dst u).put d v := fun u => Act.put_comm a v u h2
  split
  · split
    · simp only [he, hp]
    · simp only [he, hp]
    · simp only [he, hp]
    · unfold Oper.wp
      rw [he]
      generalize (execOp a.eval oj).run P w = r
      cases r with
      | ok n w' =>
        cases n with
        | enter f args =>
          simp only [Oper.upon, hp]
        | defer df =>
          simp only [Oper.upon]
          have : ({ (a.put d v) with defers := df :: (a.put d v).defers } : Act).put oj.dst undef = (({ a with defers := df :: a.defers } : Act).put oj.dst undef).put d v := by
            have := Act.put_comm ({ a with defers := df :: a.defers } : Act) v undef h2
            rw [← this]
            cases d <;> rfl
          rw [this]
        | _ => simp only [Oper.upon, hp]
      | halt x w' => cases x <;> simp only [Oper.upon]
  · simp only [hp]

theorem sOpB_const {P : Program} {ops : Array Oper} {hb : Heap} {o : Oper} {a : Act} {w : World} {F : Prop} {X : Act → World → Prop} (h : sOpB P ops hb o (fun a w => F ∧ X a w) a w) : F := by
  unfold sOpB at h
  split at h
  · split at h
    · obtain ⟨_, _, h⟩ := h; exact h.1
    · obtain ⟨_, _, h⟩ := h; exact h.1
    · obtain ⟨_, _, _, _, h⟩ := h; exact h.1
    · exact wp_const (X := fun _ _ => True) (wp_other_mono h (fun _ _ _ hK => ⟨hK.2.1, trivial⟩) _)
  · exact h.1

def pairOkB : Cls → Cls → Bool
  | .pure, _ => true
  | _, .pure => true
  | .read, _ => true
  | _, .read => true
  | _, _ => false

theorem sOpB_swap {P : Program} {ops : Array Oper} {hb : Heap} {oi oj : Oper} (hap : oi.apart ops oj = true) (hp : pairOkB (clsOf oi) (clsOf oj) = true)
    (hsi : ∀ cs b, oi.op ≠ .select cs b) (hsj : ∀ cs b, oj.op ≠ .select cs b) {K : Act → World → Prop} {a : Act} {w : World}
    (h : sOpB P ops hb oi (fun a1 w1 => sOpB P ops hb oj K a1 w1) a w) : sOpB P ops hb oj (fun a1 w1 => sOpB P ops hb oi K a1 w1) a w := by
  obtain ⟨h1, h2, h3⟩ := Oper.apart_spec hap
  have h2' : ∀ t, oj.dst = some t → oi.dst ≠ some t := fun t ht e => h2 t e ht
  have ei : ∀ (a1 : Act) u, a1.tmps = (a.put oj.dst u).tmps → execOp a1.eval oi = execOp a.eval oi := fun a1 u e => by rw [eval_tmps e]; exact execOp_put oi hsi a oj.dst u h3
  have ej : ∀ (a1 : Act) u, a1.tmps = (a.put oi.dst u).tmps → execOp a1.eval oj = execOp a.eval oj := fun a1 u e => by rw [eval_tmps e]; exact execOp_put oj hsj a oi.dst u h1
  have wi : ∀ (a1 : Act) u, a1.tmps = (a.put oj.dst u).tmps → Region.wanted oi (yielded ops a1.tmps) = Region.wanted oi (yielded ops a.tmps) := fun a1 u e => by rw [e]; exact wanted_put oi a oj.dst u h3
  have wj : ∀ (a1 : Act) u, a1.tmps = (a.put oi.dst u).tmps → Region.wanted oj (yielded ops a1.tmps) = Region.wanted oj (yielded ops a.tmps) := fun a1 u e => by rw [e]; exact wanted_put oj a oi.dst u h1
  by_cases hwi : Region.wanted oi (yielded ops a.tmps) = true
  case neg =>
    have h' : sOpB P ops hb oj K (a.put oi.dst undef) w := by unfold sOpB at h; rw [if_neg hwi] at h; exact h
    rw [sOpB_put h1 h2 hsj] at h'
    refine sOpB_at h' fun a1 w1 ⟨u, hu⟩ _ hK => ?_
    unfold sOpB
    rw [wi a1 u hu, if_neg hwi]
    exact hK
  case pos =>
    have easy : ∀ v, sOpB P ops hb oj K (a.put oi.dst v) w → (∀ w1 : World, ∀ a1 : Act, execOp a1.eval oi = execOp a.eval oi → Region.wanted oi (yielded ops a1.tmps) = true →
        K (a1.put oi.dst v) w1 → sOpB P ops hb oi K a1 w1) → sOpB P ops hb oj (fun a1 w1 => sOpB P ops hb oi K a1 w1) a w := by
      intro v h' hk
      rw [sOpB_put h1 h2 hsj] at h'
      exact sOpB_at h' fun a1 w1 ⟨u, hu⟩ hc hK => hk w1 a1 (ei a1 u hu) (by rw [wi a1 u hu]; exact hwi) hK
    have hard : clsOf oj = .pure ∨ clsOf oj = .read → sOpB P ops hb oj (fun a1 w1 => sOpB P ops hb oi K a1 w1) a w := by
      intro hcj
      by_cases hwj : Region.wanted oj (yielded ops a.tmps) = true
      · -- one answer, wherever memory has what it had at the start
        have one : ∀ {a1 : Act} {w1 : World}, (∃ u, a1.tmps = (a.put oi.dst u).tmps) → sOpB P ops hb oj K a1 w1 →
            ∃ v, (∀ w'' : World, (clsOf oj = .pure ∨ hExt hb w''.heap) → (execOp a.eval oj).run P w'' = .ok (.value v) w'') ∧ K (a1.put oj.dst v) w1 := by
          rintro a1 w1 ⟨u, hu⟩ hK
          unfold sOpB at hK
          rw [wj a1 u hu, if_pos hwj] at hK
          rcases hcj with hcj | hcj
          · rw [hcj] at hK
            obtain ⟨v, hv, hK⟩ := hK
            exact ⟨v, fun w'' _ => by rw [← ej a1 u hu]; exact hv w'', hK⟩
          · rw [hcj] at hK
            obtain ⟨v, hv, hK⟩ := hK
            refine ⟨v, fun w'' hw'' => ?_, hK⟩
            rw [← ej a1 u hu]
            refine hv w'' ?_
            rcases hw'' with e | e
            · rw [hcj] at e; cases e
            · exact e
        have hF : ∃ u, ∀ w'' : World, (clsOf oj = .pure ∨ hExt hb w''.heap) → (execOp a.eval oj).run P w'' = .ok (.value u) w'' := by
          refine sOpB_const (X := fun _ _ => True) (sOpB_at h fun a1 w1 hu _ hK => ⟨?_, trivial⟩)
          obtain ⟨v, hv, _⟩ := one hu hK
          exact ⟨v, hv⟩
        obtain ⟨u, hu⟩ := hF
        have h' : sOpB P ops hb oi (fun a1 w1 => K (a1.put oj.dst u) w1) a w := sOpB_at h fun a1 w1 hx _ hK => by
          obtain ⟨v, hv, hK⟩ := one hx hK
          have e1 := hv { w with heap := hb } (.inr (hExt.refl _))
          rw [hu { w with heap := hb } (.inr (hExt.refl _))] at e1
          injection e1 with e1 _
          injection e1 with e1
          rw [e1]
          exact hK
        rw [← sOpB_put h3 h2' hsi] at h'
        unfold sOpB
        rw [if_pos hwj]
        rcases hcj with hcj | hcj
        · rw [hcj]; exact ⟨u, fun w'' => hu w'' (.inl hcj), h'⟩
        · rw [hcj]; exact ⟨u, fun w'' hw'' => hu w'' (.inr hw''), h'⟩
      · have h' : sOpB P ops hb oi (fun a1 w1 => K (a1.put oj.dst undef) w1) a w := sOpB_at h fun a1 w1 ⟨x, hx⟩ _ hK => by
          unfold sOpB at hK
          rw [wj a1 x hx, if_neg hwj] at hK
          exact hK
        rw [← sOpB_put h3 h2' hsi] at h'
        unfold sOpB
        rw [if_neg hwj]
        exact h'
    cases hci : clsOf oi with
    | pure =>
      unfold sOpB at h
      rw [if_pos hwi, hci] at h
      obtain ⟨v, hv, h'⟩ := h
      refine easy v h' fun w1 a1 e1 e2 hK => ?_
      unfold sOpB
      rw [if_pos e2, hci]
      exact ⟨v, fun w'' => by rw [e1]; exact hv w'', hK⟩
    | read =>
      unfold sOpB at h
      rw [if_pos hwi, hci] at h
      obtain ⟨v, hv, h'⟩ := h
      refine easy v h' fun w1 a1 e1 e2 hK => ?_
      unfold sOpB
      rw [if_pos e2, hci]
      exact ⟨v, fun w'' hw'' => by rw [e1]; exact hv w'' hw'', hK⟩
    | alloc => rw [hci] at hp; exact hard (by cases hcj : clsOf oj <;> simp_all [pairOkB])
    | other => rw [hci] at hp; exact hard (by cases hcj : clsOf oj <;> simp_all [pairOkB])

def anyB (P : Program) (ops : Array Oper) (hb : Heap) (K : Act → World → Prop) : Nat → Array Bool → Act → World → Prop
  | 0, listed, a, w => Region.ready .any ops listed = [] ∧ K a w
  | fuel + 1, listed, a, w =>
    (Region.ready .any ops listed = [] → K a w) ∧ ∀ i ∈ Region.ready .any ops listed, ∀ o, ops[i]? = some o → sOpB P ops hb o (anyB P ops hb K fuel (listed.setIfInBounds i true)) a w
theorem anyB.any {P : Program} {ops : Array Oper} {hb : Heap} {Q : Exit → Act → World → Prop} : ∀ (fuel : Nat) (listed : Array Bool) (a : Act) (w : World), hExt hb w.heap → anyB P ops hb (Q .normal) fuel listed a w → wpAny P .any ops Q fuel listed a w
  | 0, _, _, _, _, h => h
  | fuel + 1, listed, a, w, hx, h => ⟨h.1, fun i hi => by
    obtain ⟨_, o, ho, _⟩ := mem_ready.1 hi
    have h2 := sOpB.wp hx (sOpB_at (h.2 i hi o ho) fun a w1 _ he h => anyB.any fuel _ a w1 (hx.trans he) h) Q
    unfold wpOp
    rw [ho]
    simp only
    split
    · rename_i hw; rw [if_pos hw] at h2; exact .inl h2
    · rename_i hw; rw [if_neg hw] at h2; exact h2⟩

def freeB (ops : Array Oper) (listed : Array Bool) (i : Nat) : Bool :=
  match ops[i]? with
  | none => false
  | some oi => (List.range ops.size).all fun j => j == i || listed.getD j true || match ops[j]? with
      | some oj => oj.after.any (fun e => Region.binds .any e && e.on == i) || (oi.apart ops oj && pairOkB (clsOf oi) (clsOf oj))
      | none => true
theorem freeB_spec {ops : Array Oper} {i : Nat} {oi : Oper} {listed : Array Bool} (hi : ops[i]? = some oi) (h : freeB ops listed i = true) (j : Nat) (oj : Oper)
    (hj : ops[j]? = some oj) (hne : j ≠ i) (hun : listed.getD j true = false) (hno : ∀ e ∈ oj.after, Region.binds .any e = true → e.on ≠ i) :
    oi.apart ops oj = true ∧ pairOkB (clsOf oi) (clsOf oj) = true := by
  simp only [freeB, hi, List.all_eq_true, List.mem_range] at h
  have h1 := h j (Array.getElem?_eq_some_iff.1 hj).1
  simp only [hj, Bool.or_eq_true, beq_iff_eq, hne, false_or, hun, Bool.false_eq_true] at h1
  rcases h1 with h1 | h1
  · obtain ⟨e, he, hb⟩ := Array.any_eq_true'.1 h1
    simp only [Bool.and_eq_true, beq_iff_eq] at hb
    exact absurd hb.2 (hno e he hb.1)
  · simpa using h1

theorem anyB_first {P : Program} {ops : Array Oper} {hb : Heap} {K : Act → World → Prop} {i : Nat} {oi : Oper} (hi : ops[i]? = some oi) (hsel : ∀ (j : Nat) (o : Oper) cs b, ops[j]? = some o → o.op ≠ .select cs b) :
    ∀ (fuel : Nat) (listed : Array Bool) (a : Act) (w : World),
      (∀ j oj, ops[j]? = some oj → j ≠ i → listed.getD j true = false → (∀ e ∈ oj.after, Region.binds .any e = true → e.on ≠ i) → oi.apart ops oj = true ∧ pairOkB (clsOf oi) (clsOf oj) = true) →
      i ∈ Region.ready .any ops listed → sOpB P ops hb oi (anyB P ops hb K fuel (listed.setIfInBounds i true)) a w → anyB P ops hb K (fuel + 1) listed a w := by
  intro fuel
  induction fuel with
  | zero =>
    intro listed a w _ hr H
    refine ⟨fun h => (by rw [h] at hr; cases hr), fun j hj oj hoj => ?_⟩
    by_cases hji : j = i
    · subst hji
      have : oj = oi := Option.some.inj (hoj.symm.trans hi)
      subst this
      exact H
    · have h1 := ready_mono hj hji
      have h2 : Region.ready .any ops (listed.setIfInBounds i true) = [] := sOpB_const (X := fun a w => K a w) H
      rw [h2] at h1
      cases h1
  | succ fuel ih =>
    intro listed a w hfree hr H
    refine ⟨fun h => (by rw [h] at hr; cases hr), fun j hj oj hoj => ?_⟩
    by_cases hji : j = i
    · subst hji
      have : oj = oi := Option.some.inj (hoj.symm.trans hi)
      subst this
      exact H
    · obtain ⟨hjun, oj', hoj', hall⟩ := mem_ready.1 hj
      have : oj' = oj := Option.some.inj (hoj'.symm.trans hoj)
      subst this
      have hnot : ∀ e ∈ oj'.after, Region.binds .any e = true → e.on ≠ i := fun e he hb heq => by
        have h1 := hall e he hb
        have h0 := (mem_ready.1 hr).1
        rw [heq] at h1
        rcases Nat.lt_or_ge i listed.size with h' | h'
        · simp [h'] at h0 h1; rw [h0] at h1; cases h1
        · simp [Array.getElem?_eq_none h'] at h1
      have hpr := hfree j oj' hoj hji hjun hnot
      have h1 : sOpB P ops hb oi (fun a1 w1 => sOpB P ops hb oj' (anyB P ops hb K fuel ((listed.setIfInBounds i true).setIfInBounds j true)) a1 w1) a w :=
        sOpB_mono H fun a1 w1 h => h.2 j (ready_mono hj hji) oj' hoj
      have h2 := sOpB_swap hpr.1 hpr.2 (fun cs b => hsel i oi cs b hi) (fun cs b => hsel j oj' cs b hoj) h1
      have hfree' : ∀ k ok, ops[k]? = some ok → k ≠ i → (listed.setIfInBounds j true).getD k true = false →
          (∀ e ∈ ok.after, Region.binds .any e = true → e.on ≠ i) → oi.apart ops ok = true ∧ pairOkB (clsOf oi) (clsOf ok) = true := fun k ok hk hki hun hno => by
        refine hfree k ok hk hki ?_ hno
        by_cases hjk : j = k
        · subst hjk; exact hjun
        · rw [getD_set_ne true hjk] at hun; exact hun
      refine sOpB_mono h2 fun a1 w1 h3 => ih (listed.setIfInBounds j true) a1 w1 hfree' (ready_mono hr (Ne.symm hji)) ?_
      rw [Array.setIfInBounds_comm _ _ hji]
      exact h3

def lexFromB (ops : Array Oper) : Nat → Nat → Array Bool → Bool
  | 0, _, listed => (Region.ready .any ops listed).isEmpty
  | fuel + 1, k, listed => (Region.ready .any ops listed).contains k && freeB ops listed k && lexFromB ops fuel (k + 1) (listed.setIfInBounds k true)
def lexB (ops : Array Oper) : Bool := Region.noSelect ops && lexFromB ops ops.size 0 (Array.replicate ops.size false)
def sOpsB (P : Program) (ops : Array Oper) (hb : Heap) (Q : Act → World → Prop) : List Oper → Act → World → Prop
  | [], a, w => Q a w
  | o :: rest, a, w => sOpB P ops hb o (sOpsB P ops hb Q rest) a w

theorem anyB_lex {P : Program} {ops : Array Oper} {hb : Heap} {K : Act → World → Prop} (hs : Region.noSelect ops = true) : ∀ (l : List Oper) (k : Nat) (listed : Array Bool) (a : Act) (w : World), (∀ j, l[j]? = ops[k + j]?) →
    lexFromB ops l.length k listed = true → sOpsB P ops hb K l a w → anyB P ops hb K l.length listed a w
  | [], _, _, _, _, _, hB, h => ⟨by simpa [lexFromB] using hB, h⟩
  | o :: l, k, listed, a, w, hl, hB, h => by
    have h0 : ops[k]? = some o := by simpa using (hl 0).symm
    simp only [List.length_cons, lexFromB, Bool.and_eq_true] at hB
    obtain ⟨⟨hr, hf⟩, hB'⟩ := hB
    refine anyB_first h0 (Region.noSelect_spec hs) l.length listed a w (freeB_spec h0 hf) (by simpa using hr) ?_
    exact sOpB_mono h fun a1 w1 h1 => anyB_lex hs l (k + 1) _ a1 w1 (fun j => by have := hl (j + 1); simpa [Nat.add_assoc, Nat.add_comm 1 j] using this) hB' h1

theorem wp_region_lexB' {P : Program} {ops : Array Oper} {id : Nat} {Q : Exit → Act → World → Prop} {a : Act} {w : World} (hm : P.follows .mixedOrders = true) (hB : lexB ops = true)
    (h : sOpsB P ops w.heap (Q .normal) ops.toList a { w with drawn := w.drawn + 1 }) : (Code.region id ops true).wp P Q a w := by
  simp only [lexB, Bool.and_eq_true] at hB
  refine wp_region_any hm (anyB.any (hb := w.heap) _ _ _ _ (hExt.refl _) ?_)
  have := anyB_lex hB.1 ops.toList 0 (Array.replicate ops.size false) a _ (by simp) (by simpa using hB.2) h
  simpa using this

theorem opB_sound {P : Program} {T : Tys} (hT : TOk P T) {ops : Array Oper} {o : Oper} {env : Env} {hb : Heap} {K : Value → Heap → Prop} {w : World} {a : Act} (hev : a.eval = ev env)
    (hw : Region.wanted o (yielded ops a.tmps) = true) (h : opB P T o env hb w.heap K) {next : Act → World → Prop}
    (hn : ∀ v w', Same w w' → K v w'.heap → next (a.put o.dst v) w') : sOpB P ops hb o next a w := by
  unfold opB at h
  split at h
  · rename_i hc
    obtain ⟨v, hr, hK⟩ := opR_sound hT h
    unfold sOpB
    rw [if_pos hw, hc]
    exact ⟨v, fun w'' he => by rw [hev]; exact hr w'' (.inr he), hn v w (Same.refl w) hK⟩
  · rename_i hc
    have := opW_sound hT (ops := ops) hev hw h (next := fun a1 w1 => hExt w.heap w1.heap ∧ next a1 w1) fun v w' hs hK => ⟨hK.1, hn v w' hs hK.2⟩
    unfold sOp at this
    rw [if_pos hw, hc] at this
    unfold sOpB
    rw [if_pos hw, hc]
    exact this
  · rename_i hc1 hc2
    have := opW_sound hT (ops := ops) hev hw h hn
    unfold sOp at this
    rw [if_pos hw] at this
    unfold sOpB
    rw [if_pos hw]
    cases hc : clsOf o with
    | pure => rw [hc] at this; exact this
    | alloc => rw [hc] at this; exact this
    | read => exact absurd hc hc1
    | other => exact absurd hc hc2

theorem opsB_sound {P : Program} {T : Tys} (hT : TOk P T) {ops : Array Oper} {hb : Heap} {K : Env → Heap → Prop} {ws : List Nat} {Q : Act → World → Prop} {a0 : Act} {w0 : World} :
    ∀ (l : List Oper) (a : Act) (w : World), Left ws a0 a → Same w0 w → (∀ s ∈ wrs l, s ∈ ws) → (∀ s ∈ wrs l, s < a0.tmps.size) → opsB P T ops l (envOf a) hb w.heap K →
    (∀ a' w', Left ws a0 a' → Same w0 w' → K (envOf a') w'.heap → Q a' w') → sOpsB P ops hb Q l a w
  | [], a, w, hL, hS, _, _, h, hq => hq a w hL hS h
  | o :: rest, a, w, hL, hS, hws, hlt, h, hq => by
    have hd : ∀ t, o.dst = some t → t ∈ ws := fun t ht => hws t (by simp [wrs, ht])
    have hdl : ∀ t, o.dst = some t → t < a.tmps.size := fun t ht => by rw [hL.size]; exact hlt t (by simp [wrs, ht])
    have hws' : ∀ s ∈ wrs rest, s ∈ ws := fun s hs => hws s (by unfold wrs; cases o.dst <;> simp [hs])
    have hlt' : ∀ s ∈ wrs rest, s < a0.tmps.size := fun s hs => hlt s (by unfold wrs; cases o.dst <;> simp [hs])
    have go : Region.wanted o (yielded ops a.tmps) = true → opB P T o (envOf a) hb w.heap (fun v h' => opsB P T ops rest (upd (envOf a) o.dst v) hb h' K) → sOpsB P ops hb Q (o :: rest) a w := fun hw h =>
      opB_sound hT (eval_envOf a) hw h fun v w' hs hK => opsB_sound hT rest (a.put o.dst v) w' (hL.trans (Left.put hdl hd)) (hS.trans hs) hws' hlt' (by rw [envOf_put hdl]; exact hK) hq
    have skip : opsB P T ops rest (upd (envOf a) o.dst undef) hb w.heap K → Region.wanted o (yielded ops a.tmps) = false → sOpsB P ops hb Q (o :: rest) a w := fun h hw => by
      unfold sOpsB sOpB
      rw [hw]
      exact opsB_sound hT rest (a.put o.dst undef) w (hL.trans (Left.put hdl hd)) hS hws' hlt' (by rw [envOf_put hdl]; exact h) hq
    unfold opsB at h
    split at h
    · rename_i hg
      exact go (by simp [Region.wanted, hg]) h
    · rename_i j want hg
      split at h
      · exact h.elim
      · rename_i g hs
        split at h
        · rename_i b hbb
          have hw := wanted_spec hg hs hbb
          cases b with
          | true =>
            simp only [ifB, upd_same hbb] at h
            cases want with
            | true => exact go hw h
            | false => exact skip h hw
          | false =>
            simp only [ifB, upd_same hbb] at h
            cases want with
            | true => exact skip h hw
            | false => exact go hw h
        · rename_i hnb
          exact skip h (unwanted_spec hg hs hnb)

/-! ### The same, beside what stays true all along -/
inductive KC where
  | pure | early | late | act
def kcOf (late : List Nat) (o : Oper) : KC := match clsOf o with
  | .pure => .pure
  | .read => (match isLate late o with | true => .late | false => .early)
  | _ => .act
def sOpK (P : Program) (ops : Array Oper) (late : List Nat) (R : Heap → Prop) (o : Oper) (K : Act → World → Prop) (a : Act) (w : World) : Prop :=
  if Region.wanted o (yielded ops a.tmps) then
    match kcOf late o with
    | .pure => ∃ v, (∀ w'' : World, (execOp a.eval o).run P w'' = .ok (.value v) w'') ∧ K (a.put o.dst v) w
    | .late => ∃ v, (∀ w'' : World, R w''.heap → (execOp a.eval o).run P w'' = .ok (.value v) w'') ∧ K (a.put o.dst v) w
    | .early => ∃ v, (∀ w'' : World, w''.heap = w.heap → (execOp a.eval o).run P w'' = .ok (.value v) w'') ∧ K (a.put o.dst v) w
    | .act => o.wp P a w (fun a1 w1 => R w1.heap ∧ K a1 w1) (fun _ _ _ => False)
  else K (a.put o.dst undef) w

theorem sOpK_at {P : Program} {ops : Array Oper} {late : List Nat} {R : Heap → Prop} {o : Oper} {K K' : Act → World → Prop} {a : Act} {w : World} (h : sOpK P ops late R o K a w)
    (hk : ∀ a1 w1, (∃ u, a1.tmps = (a.put o.dst u).tmps) → (kcOf late o ≠ .act → w1 = w) → (R w.heap → R w1.heap) → K a1 w1 → K' a1 w1) : sOpK P ops late R o K' a w := by
  unfold sOpK at *
  split
  · rename_i hw
    rw [if_pos hw] at h
    split
    · rename_i hc; rw [hc] at h; obtain ⟨v, hv, hK⟩ := h; exact ⟨v, hv, hk _ _ ⟨v, rfl⟩ (fun _ => rfl) id hK⟩
    · rename_i hc; rw [hc] at h; obtain ⟨v, hv, hK⟩ := h; exact ⟨v, hv, hk _ _ ⟨v, rfl⟩ (fun _ => rfl) id hK⟩
    · rename_i hc; rw [hc] at h; obtain ⟨v, hv, hK⟩ := h; exact ⟨v, hv, hk _ _ ⟨v, rfl⟩ (fun _ => rfl) id hK⟩
    · rename_i hc
      rw [hc] at h
      exact wp_other_mono h (fun a1 w1 hu ⟨he, hK⟩ => ⟨he, hk a1 w1 hu (fun hne => absurd hc hne) (fun _ => he) hK⟩) _
  · rename_i hw
    rw [if_neg hw] at h
    exact hk _ _ ⟨undef, rfl⟩ (fun _ => rfl) id h
theorem sOpK_mono {P : Program} {ops : Array Oper} {late : List Nat} {R : Heap → Prop} {o : Oper} {K K' : Act → World → Prop} {a : Act} {w : World} (h : sOpK P ops late R o K a w) (hk : ∀ a w, K a w → K' a w) : sOpK P ops late R o K' a w :=
  sOpK_at h fun a1 w1 _ _ _ hK => hk a1 w1 hK
theorem sOpK.wp {P : Program} {ops : Array Oper} {late : List Nat} {R : Heap → Prop} {o : Oper} {K : Act → World → Prop} {a : Act} {w : World} (hx : R w.heap) (h : sOpK P ops late R o K a w) (Q : Exit → Act → World → Prop) :
    if Region.wanted o (yielded ops a.tmps) then o.wp P a w K Q else K (a.put o.dst undef) w := by
  unfold sOpK at h
  by_cases hw : Region.wanted o (yielded ops a.tmps) = true
  · rw [if_pos hw] at h ⊢
    split at h
    · obtain ⟨v, hv, hK⟩ := h; exact wp_value (hv w) hK
    · obtain ⟨v, hv, hK⟩ := h; exact wp_value (hv w hx) hK
    · obtain ⟨v, hv, hK⟩ := h; exact wp_value (hv w rfl) hK
    · exact wp_other_mono h (fun _ _ _ hK => hK.2) Q
  · rw [if_neg hw] at h ⊢
    exact h

theorem sOpK_put {P : Program} {ops : Array Oper} {late : List Nat} {R : Heap → Prop} {oj : Oper} {d : Option Nat} {v : Value} (h1 : ∀ t, d = some t → t ∉ oj.looksAt ops) (h2 : ∀ t, d = some t → oj.dst ≠ some t)
    (hsj : ∀ cs b, oj.op ≠ .select cs b) {K : Act → World → Prop} {a : Act} {w : World} : sOpK P ops late R oj K (a.put d v) w ↔ sOpK P ops late R oj (fun a1 w1 => K (a1.put d v) w1) a w := by
  unfold sOpK
  rw [wanted_put oj a d v h1]
  have he := execOp_put oj hsj a d v h1
  have hp : ∀ u, (a.put d v).put oj.dst u = (a.put oj.dst u).put d v := fun u => Act.put_comm a v u h2
  split
  · split
    · simp only [he, hp]
    · simp only [he, hp]
    · simp only [he, hp]
    · unfold Oper.wp
      rw [he]
      generalize (execOp a.eval oj).run P w = r
      cases r with
      | ok n w' =>
        cases n with
        | enter f args =>
          simp only [Oper.upon, hp]
        | defer df =>
          simp only [Oper.upon]
          have : ({ (a.put d v) with defers := df :: (a.put d v).defers } : Act).put oj.dst undef = (({ a with defers := df :: a.defers } : Act).put oj.dst undef).put d v := by
            have := Act.put_comm ({ a with defers := df :: a.defers } : Act) v undef h2
            rw [← this]
            cases d <;> rfl
          rw [this]
        | _ => simp only [Oper.upon, hp]
      | halt x w' => cases x <;> simp only [Oper.upon]
  · simp only [hp]

theorem sOpK_const {P : Program} {ops : Array Oper} {late : List Nat} {R : Heap → Prop} {o : Oper} {a : Act} {w : World} {F : Prop} {X : Act → World → Prop} (h : sOpK P ops late R o (fun a w => F ∧ X a w) a w) : F := by
  unfold sOpK at h
  split at h
  · split at h
    · obtain ⟨_, _, h⟩ := h; exact h.1
    · obtain ⟨_, _, h⟩ := h; exact h.1
    · obtain ⟨_, _, h⟩ := h; exact h.1
    · exact wp_const (X := fun _ _ => True) (wp_other_mono h (fun _ _ _ hK => ⟨hK.2.1, trivial⟩) _)
  · exact h.1

def pairOkK : KC → KC → Bool
  | .act, .act => false
  | .act, .early => false
  | .early, .act => false
  | _, _ => true

theorem sOpK_swap {P : Program} {ops : Array Oper} {late : List Nat} {R : Heap → Prop} {oi oj : Oper} (hap : oi.apart ops oj = true) (hp : pairOkK (kcOf late oi) (kcOf late oj) = true)
    (hsi : ∀ cs b, oi.op ≠ .select cs b) (hsj : ∀ cs b, oj.op ≠ .select cs b) {K : Act → World → Prop} {a : Act} {w : World} (hR : R w.heap)
    (h : sOpK P ops late R oi (fun a1 w1 => sOpK P ops late R oj K a1 w1) a w) : sOpK P ops late R oj (fun a1 w1 => sOpK P ops late R oi K a1 w1) a w := by
  obtain ⟨h1, h2, h3⟩ := Oper.apart_spec hap
  have h2' : ∀ t, oj.dst = some t → oi.dst ≠ some t := fun t ht e => h2 t e ht
  have ei : ∀ (a1 : Act) u, a1.tmps = (a.put oj.dst u).tmps → execOp a1.eval oi = execOp a.eval oi := fun a1 u e => by rw [eval_tmps e]; exact execOp_put oi hsi a oj.dst u h3
  have ej : ∀ (a1 : Act) u, a1.tmps = (a.put oi.dst u).tmps → execOp a1.eval oj = execOp a.eval oj := fun a1 u e => by rw [eval_tmps e]; exact execOp_put oj hsj a oi.dst u h1
  have wi : ∀ (a1 : Act) u, a1.tmps = (a.put oj.dst u).tmps → Region.wanted oi (yielded ops a1.tmps) = Region.wanted oi (yielded ops a.tmps) := fun a1 u e => by rw [e]; exact wanted_put oi a oj.dst u h3
  have wj : ∀ (a1 : Act) u, a1.tmps = (a.put oi.dst u).tmps → Region.wanted oj (yielded ops a1.tmps) = Region.wanted oj (yielded ops a.tmps) := fun a1 u e => by rw [e]; exact wanted_put oj a oi.dst u h1
  by_cases hwi : Region.wanted oi (yielded ops a.tmps) = true
  case neg =>
    have h' : sOpK P ops late R oj K (a.put oi.dst undef) w := by unfold sOpK at h; rw [if_neg hwi] at h; exact h
    rw [sOpK_put h1 h2 hsj] at h'
    refine sOpK_at h' fun a1 w1 ⟨u, hu⟩ _ _ hK => ?_
    unfold sOpK
    rw [wi a1 u hu, if_neg hwi]
    exact hK
  case pos =>
    have easy : ∀ v, sOpK P ops late R oj K (a.put oi.dst v) w → (∀ w1 : World, (kcOf late oj ≠ .act → w1 = w) → ∀ a1 : Act, execOp a1.eval oi = execOp a.eval oi → Region.wanted oi (yielded ops a1.tmps) = true →
        K (a1.put oi.dst v) w1 → sOpK P ops late R oi K a1 w1) → sOpK P ops late R oj (fun a1 w1 => sOpK P ops late R oi K a1 w1) a w := by
      intro v h' hk
      rw [sOpK_put h1 h2 hsj] at h'
      exact sOpK_at h' fun a1 w1 ⟨u, hu⟩ hc _ hK => hk w1 hc a1 (ei a1 u hu) (by rw [wi a1 u hu]; exact hwi) hK
    have hard : kcOf late oj = .pure ∨ kcOf late oj = .late → sOpK P ops late R oj (fun a1 w1 => sOpK P ops late R oi K a1 w1) a w := by
      intro hcj
      by_cases hwj : Region.wanted oj (yielded ops a.tmps) = true
      · have one : ∀ {a1 : Act} {w1 : World}, (∃ u, a1.tmps = (a.put oi.dst u).tmps) → sOpK P ops late R oj K a1 w1 →
            ∃ v, (∀ w'' : World, (kcOf late oj = .pure ∨ R w''.heap) → (execOp a.eval oj).run P w'' = .ok (.value v) w'') ∧ K (a1.put oj.dst v) w1 := by
          rintro a1 w1 ⟨u, hu⟩ hK
          unfold sOpK at hK
          rw [wj a1 u hu, if_pos hwj] at hK
          rcases hcj with hcj | hcj
          · rw [hcj] at hK
            obtain ⟨v, hv, hK⟩ := hK
            exact ⟨v, fun w'' _ => by rw [← ej a1 u hu]; exact hv w'', hK⟩
          · rw [hcj] at hK
            obtain ⟨v, hv, hK⟩ := hK
            refine ⟨v, fun w'' hw'' => ?_, hK⟩
            rw [← ej a1 u hu]
            refine hv w'' ?_
            rcases hw'' with e | e
            · rw [hcj] at e; cases e
            · exact e
        have hF : ∃ u, ∀ w'' : World, (kcOf late oj = .pure ∨ R w''.heap) → (execOp a.eval oj).run P w'' = .ok (.value u) w'' := by
          refine sOpK_const (X := fun _ _ => True) (sOpK_at h fun a1 w1 hu _ _ hK => ⟨?_, trivial⟩)
          obtain ⟨v, hv, _⟩ := one hu hK
          exact ⟨v, hv⟩
        obtain ⟨u, hu⟩ := hF
        have h' : sOpK P ops late R oi (fun a1 w1 => K (a1.put oj.dst u) w1) a w := sOpK_at h fun a1 w1 hx _ _ hK => by
          obtain ⟨v, hv, hK⟩ := one hx hK
          have e1 := hv w (.inr hR)
          rw [hu w (.inr hR)] at e1
          injection e1 with e1 _
          injection e1 with e1
          rw [e1]
          exact hK
        rw [← sOpK_put h3 h2' hsi] at h'
        unfold sOpK
        rw [if_pos hwj]
        rcases hcj with hcj | hcj
        · rw [hcj]; exact ⟨u, fun w'' => hu w'' (.inl hcj), h'⟩
        · rw [hcj]; exact ⟨u, fun w'' hw'' => hu w'' (.inr hw''), h'⟩
      · have h' : sOpK P ops late R oi (fun a1 w1 => K (a1.put oj.dst undef) w1) a w := sOpK_at h fun a1 w1 ⟨x, hx⟩ _ _ hK => by
          unfold sOpK at hK
          rw [wj a1 x hx, if_neg hwj] at hK
          exact hK
        rw [← sOpK_put h3 h2' hsi] at h'
        unfold sOpK
        rw [if_neg hwj]
        exact h'
    cases hci : kcOf late oi with
    | pure =>
      unfold sOpK at h
      rw [if_pos hwi, hci] at h
      obtain ⟨v, hv, h'⟩ := h
      refine easy v h' fun w1 _ a1 e1 e2 hK => ?_
      unfold sOpK
      rw [if_pos e2, hci]
      exact ⟨v, fun w'' => by rw [e1]; exact hv w'', hK⟩
    | late =>
      unfold sOpK at h
      rw [if_pos hwi, hci] at h
      obtain ⟨v, hv, h'⟩ := h
      refine easy v h' fun w1 _ a1 e1 e2 hK => ?_
      unfold sOpK
      rw [if_pos e2, hci]
      exact ⟨v, fun w'' hw'' => by rw [e1]; exact hv w'' hw'', hK⟩
    | early =>
      unfold sOpK at h
      rw [if_pos hwi, hci] at h
      obtain ⟨v, hv, h'⟩ := h
      refine easy v h' fun w1 hw1 a1 e1 e2 hK => ?_
      have hne : kcOf late oj ≠ .act := fun e => by rw [hci, e] at hp; cases hp
      have := hw1 hne
      subst this
      unfold sOpK
      rw [if_pos e2, hci]
      exact ⟨v, fun w'' hw'' => by rw [e1]; exact hv w'' hw'', hK⟩
    | act =>
      rw [hci] at hp
      exact hard (by cases hcj : kcOf late oj <;> simp_all [pairOkK])

def anyK (P : Program) (ops : Array Oper) (late : List Nat) (R : Heap → Prop) (K : Act → World → Prop) : Nat → Array Bool → Act → World → Prop
  | 0, listed, a, w => Region.ready .any ops listed = [] ∧ K a w
  | fuel + 1, listed, a, w =>
    (Region.ready .any ops listed = [] → K a w) ∧ ∀ i ∈ Region.ready .any ops listed, ∀ o, ops[i]? = some o → sOpK P ops late R o (anyK P ops late R K fuel (listed.setIfInBounds i true)) a w
theorem anyK.any {P : Program} {ops : Array Oper} {late : List Nat} {R : Heap → Prop} {Q : Exit → Act → World → Prop} : ∀ (fuel : Nat) (listed : Array Bool) (a : Act) (w : World), R w.heap → anyK P ops late R (Q .normal) fuel listed a w → wpAny P .any ops Q fuel listed a w
  | 0, _, _, _, _, h => h
  | fuel + 1, listed, a, w, hx, h => ⟨h.1, fun i hi => by
    obtain ⟨_, o, ho, _⟩ := mem_ready.1 hi
    have h2 := sOpK.wp hx (sOpK_at (h.2 i hi o ho) fun a w1 _ _ he h => anyK.any fuel _ a w1 (he hx) h) Q
    unfold wpOp
    rw [ho]
    simp only
    split
    · rename_i hw; rw [if_pos hw] at h2; exact .inl h2
    · rename_i hw; rw [if_neg hw] at h2; exact h2⟩

def freeKD (late : List Nat) (ops : Array Oper) (listed : Array Bool) (i : Nat) (D : List Nat) : Bool :=
  match ops[i]? with
  | none => false
  | some oi => (D.all fun j => !(listed.getD j true) && match ops[j]? with
      | some oj => oj.after.any (fun e => Region.binds .any e && (e.on == i || D.contains e.on))
      | none => false) && ((List.range ops.size).all fun j => j == i || listed.getD j true || D.contains j || match ops[j]? with
      | some oj => oi.apart ops oj && pairOkK (kcOf late oi) (kcOf late oj)
      | none => true)
theorem anyK_first {P : Program} {ops : Array Oper} {late : List Nat} {R : Heap → Prop} {K : Act → World → Prop} {i : Nat} {oi : Oper} (hi : ops[i]? = some oi) (hsel : ∀ (j : Nat) (o : Oper) cs b, ops[j]? = some o → o.op ≠ .select cs b) (D : List Nat)
    (hD : ∀ j ∈ D, ∃ oj, ops[j]? = some oj ∧ ∃ e ∈ oj.after, Region.binds .any e = true ∧ (e.on = i ∨ e.on ∈ D)) :
    ∀ (fuel : Nat) (listed : Array Bool) (a : Act) (w : World), R w.heap → (∀ j ∈ D, listed.getD j true = false) →
      (∀ j oj, ops[j]? = some oj → j ≠ i → listed.getD j true = false → j ∉ D → oi.apart ops oj = true ∧ pairOkK (kcOf late oi) (kcOf late oj) = true) →
      i ∈ Region.ready .any ops listed → sOpK P ops late R oi (anyK P ops late R K fuel (listed.setIfInBounds i true)) a w → anyK P ops late R K (fuel + 1) listed a w := by
  intro fuel
  induction fuel with
  | zero =>
    intro listed a w _ _ _ hr H
    refine ⟨fun h => (by rw [h] at hr; cases hr), fun j hj oj hoj => ?_⟩
    by_cases hji : j = i
    · subst hji
      have : oj = oi := Option.some.inj (hoj.symm.trans hi)
      subst this
      exact H
    · have h1 := ready_mono hj hji
      have h2 : Region.ready .any ops (listed.setIfInBounds i true) = [] := sOpK_const (X := fun a w => K a w) H
      rw [h2] at h1
      cases h1
  | succ fuel ih =>
    intro listed a w hR hDl hfree hr H
    refine ⟨fun h => (by rw [h] at hr; cases hr), fun j hj oj hoj => ?_⟩
    by_cases hji : j = i
    · subst hji
      have : oj = oi := Option.some.inj (hoj.symm.trans hi)
      subst this
      exact H
    · obtain ⟨hjun, oj', hoj', hall⟩ := mem_ready.1 hj
      have : oj' = oj := Option.some.inj (hoj'.symm.trans hoj)
      subst this
      have hnotD : j ∉ D := fun hjD => by
        obtain ⟨oj2, ho2, e, he, hb, hon⟩ := hD j hjD
        have : oj2 = oj' := Option.some.inj (ho2.symm.trans hoj')
        subst this
        have h1 := hall e he hb
        have h0 : listed.getD e.on true = false := by
          rcases hon with hon | hon
          · rw [hon]; exact (mem_ready.1 hr).1
          · exact hDl _ hon
        rcases Nat.lt_or_ge e.on listed.size with h' | h'
        · simp [h'] at h0 h1; rw [h0] at h1; cases h1
        · simp [Array.getElem?_eq_none h'] at h1
      have hpr := hfree j oj' hoj hji hjun hnotD
      have h1 : sOpK P ops late R oi (fun a1 w1 => sOpK P ops late R oj' (anyK P ops late R K fuel ((listed.setIfInBounds i true).setIfInBounds j true)) a1 w1) a w :=
        sOpK_mono H fun a1 w1 h => h.2 j (ready_mono hj hji) oj' hoj
      have h2 := sOpK_swap hpr.1 hpr.2 (fun cs b => hsel i oi cs b hi) (fun cs b => hsel j oj' cs b hoj) hR h1
      have hfree' : ∀ k ok, ops[k]? = some ok → k ≠ i → (listed.setIfInBounds j true).getD k true = false → k ∉ D →
          oi.apart ops ok = true ∧ pairOkK (kcOf late oi) (kcOf late ok) = true := fun k ok hk hki hun hno => by
        refine hfree k ok hk hki ?_ hno
        by_cases hjk : j = k
        · subst hjk; exact hjun
        · rw [getD_set_ne true hjk] at hun; exact hun
      have hDl' : ∀ k ∈ D, (listed.setIfInBounds j true).getD k true = false := fun k hk => by
        rw [getD_set_ne true (show j ≠ k from fun e => by subst e; exact hnotD hk)]
        exact hDl k hk
      refine sOpK_at h2 fun a1 w1 _ _ hRR h3 => ih (listed.setIfInBounds j true) a1 w1 (hRR hR) hDl' hfree' (ready_mono hr (Ne.symm hji)) ?_
      rw [Array.setIfInBounds_comm _ _ hji]
      exact h3
theorem freeKD_spec {late : List Nat} {ops : Array Oper} {i : Nat} {oi : Oper} {listed : Array Bool} {D : List Nat} (hi : ops[i]? = some oi) (h : freeKD late ops listed i D = true) :
    (∀ j ∈ D, ∃ oj, ops[j]? = some oj ∧ ∃ e ∈ oj.after, Region.binds .any e = true ∧ (e.on = i ∨ e.on ∈ D)) ∧ (∀ j ∈ D, listed.getD j true = false) ∧
    (∀ j oj, ops[j]? = some oj → j ≠ i → listed.getD j true = false → j ∉ D → oi.apart ops oj = true ∧ pairOkK (kcOf late oi) (kcOf late oj) = true) := by
  simp only [freeKD, hi, Bool.and_eq_true, List.all_eq_true, List.mem_range] at h
  obtain ⟨h1, h2⟩ := h
  refine ⟨fun j hj => ?_, fun j hj => ?_, fun j oj hoj hne hun hno => ?_⟩
  · have := (h1 j hj).2
    cases ho : ops[j]? with
    | none => rw [ho] at this; cases this
    | some oj =>
      rw [ho] at this
      obtain ⟨e, he, hb⟩ := Array.any_eq_true'.1 this
      simp only [Bool.and_eq_true, Bool.or_eq_true, beq_iff_eq, List.contains_iff_mem] at hb
      exact ⟨oj, rfl, e, he, hb.1, hb.2⟩
  · simpa using (h1 j hj).1
  · have h3 := h2 j (Array.getElem?_eq_some_iff.1 hoj).1
    simp only [hoj, Bool.or_eq_true, beq_iff_eq, hne, false_or, hun, Bool.false_eq_true, List.contains_iff_mem, hno] at h3
    simpa using h3
def lexFromK (late : List Nat) (ops : Array Oper) : Nat → Nat → Array Bool → Bool
  | 0, _, listed => (Region.ready .any ops listed).isEmpty
  | fuel + 1, k, listed => (Region.ready .any ops listed).contains k && freeKD late ops listed k (depX ops k ops.toList 0 []) && lexFromK late ops fuel (k + 1) (listed.setIfInBounds k true)
def lexK (late : List Nat) (ops : Array Oper) : Bool := Region.noSelect ops && lexFromK late ops ops.size 0 (Array.replicate ops.size false)
def sOpsK (P : Program) (ops : Array Oper) (late : List Nat) (R : Heap → Prop) (Q : Act → World → Prop) : List Oper → Act → World → Prop
  | [], a, w => Q a w
  | o :: rest, a, w => sOpK P ops late R o (sOpsK P ops late R Q rest) a w
theorem anyK_lex {P : Program} {ops : Array Oper} {late : List Nat} {R : Heap → Prop} {K : Act → World → Prop} (hs : Region.noSelect ops = true) : ∀ (l : List Oper) (k : Nat) (listed : Array Bool) (a : Act) (w : World), (∀ j, l[j]? = ops[k + j]?) →
    lexFromK late ops l.length k listed = true → R w.heap → sOpsK P ops late R K l a w → anyK P ops late R K l.length listed a w
  | [], _, _, _, _, _, hB, _, h => ⟨by simpa [lexFromK] using hB, h⟩
  | o :: l, k, listed, a, w, hl, hB, hR, h => by
    have h0 : ops[k]? = some o := by simpa using (hl 0).symm
    simp only [List.length_cons, lexFromK, Bool.and_eq_true] at hB
    obtain ⟨⟨hr, hf⟩, hB'⟩ := hB
    obtain ⟨f1, f2, f3⟩ := freeKD_spec h0 hf
    refine anyK_first h0 (Region.noSelect_spec hs) _ f1 l.length listed a w hR f2 f3 (by simpa using hr) ?_
    exact sOpK_at h fun a1 w1 _ _ hRR h1 => anyK_lex hs l (k + 1) _ a1 w1 (fun j => by have := hl (j + 1); simpa [Nat.add_assoc, Nat.add_comm 1 j] using this) hB' (hRR hR) h1
theorem wp_region_lexK {P : Program} {ops : Array Oper} {id : Nat} {late : List Nat} {R : Heap → Prop} {Q : Exit → Act → World → Prop} {a : Act} {w : World} (hm : P.follows .mixedOrders = true) (hB : lexK late ops = true) (hR : R w.heap)
    (h : sOpsK P ops late R (Q .normal) ops.toList a { w with drawn := w.drawn + 1 }) : (Code.region id ops true).wp P Q a w := by
  simp only [lexK, Bool.and_eq_true] at hB
  refine wp_region_any hm (anyK.any (late := late) (R := R) _ _ _ _ hR ?_)
  have := anyK_lex (R := R) hB.1 ops.toList 0 (Array.replicate ops.size false) a { w with drawn := w.drawn + 1 } (by simp) (by simpa using hB.2) hR h
  simpa using this

theorem opK_sound {P : Program} {T : Tys} (hT : TOk P T) {ops : Array Oper} {o : Oper} {env : Env} {late : List Nat} {R : Heap → Prop} {K : Value → Heap → Prop} {w : World} {a : Act} (hev : a.eval = ev env)
    (hw : Region.wanted o (yielded ops a.tmps) = true) (hR : R w.heap) (h : opK P T late R o env w.heap K) {next : Act → World → Prop}
    (hn : ∀ v w', Same w w' → (R w'.heap) → K v w'.heap → next (a.put o.dst v) w') : sOpK P ops late R o next a w := by
  unfold opK at h
  have hact : clsOf o = .alloc ∨ clsOf o = .other → (opW P T o env w.heap fun v h' => R h' ∧ K v h') → sOpK P ops late R o next a w := fun hc h => by
    have := opW_sound hT (ops := ops) hev hw h (next := fun a1 w1 => R w1.heap ∧ next a1 w1) fun v w' hs hK => ⟨hK.1, hn v w' hs hK.1 hK.2⟩
    unfold sOp at this
    rw [if_pos hw] at this
    unfold sOpK
    rw [if_pos hw]
    have hk : kcOf late o = .act := by
      unfold kcOf
      rcases hc with hc | hc <;> rw [hc]
    rw [hk]
    rcases hc with hc | hc
    · rw [hc] at this
      obtain ⟨v, w', hv, _, hK⟩ := this
      exact wp_value hv hK
    · rw [hc] at this
      exact this
  split at h
  · rename_i hc
    obtain ⟨v, hr, hK⟩ := opR_sound hT h
    have hk : kcOf late o = .pure := by unfold kcOf; rw [hc]
    unfold sOpK
    rw [if_pos hw, hk]
    exact ⟨v, fun w'' => by rw [hev]; exact hr w'' (.inl hc), hn v w (Same.refl w) hR hK⟩
  · rename_i hc
    split at h
    · rename_i hl
      have hk : kcOf late o = .late := by unfold kcOf; rw [hc]; simp only [hl]
      unfold sOpK
      rw [if_pos hw, hk]
      split at h
      · rename_i t p hop
        split at h
        · rename_i k p' hlk hev'
          obtain ⟨x, hx, hK⟩ := h
          refine ⟨k.val x, fun w'' hR'' => ?_, hn _ w (Same.refl w) hR hK⟩
          have h2 : opR T o env w''.heap (fun v => v = k.val x) := by
            unfold opR
            simp only [hop, hlk, hev']
            exact ⟨x, hx _ hR'', rfl⟩
          obtain ⟨v, hr, rfl⟩ := opR_sound (P := P) hT h2
          rw [hev]
          exact hr w'' (.inr (hExt.refl _))
        · exact h.elim
      · exact h.elim
    · rename_i hl
      have hk : kcOf late o = .early := by unfold kcOf; rw [hc]; simp only [hl]
      obtain ⟨v, hr, hK⟩ := opR_sound hT h
      unfold sOpK
      rw [if_pos hw, hk]
      exact ⟨v, fun w'' e => by rw [hev]; exact hr w'' (.inr (by rw [e]; exact hExt.refl _)), hn v w (Same.refl w) hR hK⟩
  · rename_i hc1 hc2
    exact hact (by cases hc : clsOf o <;> simp_all) h

theorem opsK_sound {P : Program} {T : Tys} (hT : TOk P T) {ops : Array Oper} {late : List Nat} {R : Heap → Prop} {K : Env → Heap → Prop} {ws : List Nat} {Q : Act → World → Prop} {a0 : Act} {w0 : World} :
    ∀ (l : List Oper) (a : Act) (w : World), R w.heap → Left ws a0 a → Same w0 w → (∀ s ∈ wrs l, s ∈ ws) → (∀ s ∈ wrs l, s < a0.tmps.size) → opsK P T late R ops l (envOf a) w.heap K →
    (∀ a' w', Left ws a0 a' → Same w0 w' → K (envOf a') w'.heap → Q a' w') → sOpsK P ops late R Q l a w
  | [], a, w, _, hL, hS, _, _, h, hq => hq a w hL hS h
  | o :: rest, a, w, hR, hL, hS, hws, hlt, h, hq => by
    have hd : ∀ t, o.dst = some t → t ∈ ws := fun t ht => hws t (by simp [wrs, ht])
    have hdl : ∀ t, o.dst = some t → t < a.tmps.size := fun t ht => by rw [hL.size]; exact hlt t (by simp [wrs, ht])
    have hws' : ∀ s ∈ wrs rest, s ∈ ws := fun s hs => hws s (by unfold wrs; cases o.dst <;> simp [hs])
    have hlt' : ∀ s ∈ wrs rest, s < a0.tmps.size := fun s hs => hlt s (by unfold wrs; cases o.dst <;> simp [hs])
    have go : Region.wanted o (yielded ops a.tmps) = true → opK P T late R o (envOf a) w.heap (fun v h' => opsK P T late R ops rest (upd (envOf a) o.dst v) h' K) → sOpsK P ops late R Q (o :: rest) a w := fun hw h =>
      opK_sound hT (eval_envOf a) hw hR h fun v w' hs hR' hK => opsK_sound hT rest (a.put o.dst v) w' hR' (hL.trans (Left.put hdl hd)) (hS.trans hs) hws' hlt' (by rw [envOf_put hdl]; exact hK) hq
    have skip : opsK P T late R ops rest (upd (envOf a) o.dst undef) w.heap K → Region.wanted o (yielded ops a.tmps) = false → sOpsK P ops late R Q (o :: rest) a w := fun h hw => by
      unfold sOpsK sOpK
      rw [hw]
      exact opsK_sound hT rest (a.put o.dst undef) w hR (hL.trans (Left.put hdl hd)) hS hws' hlt' (by rw [envOf_put hdl]; exact h) hq
    unfold opsK at h
    split at h
    · rename_i hg
      exact go (by simp [Region.wanted, hg]) h
    · rename_i j want hg
      split at h
      · exact h.elim
      · rename_i g hs
        split at h
        · rename_i b hbb
          have hw := wanted_spec hg hs hbb
          cases b with
          | true =>
            simp only [ifB, upd_same hbb] at h
            cases want with
            | true => exact go hw h
            | false => exact skip h hw
          | false =>
            simp only [ifB, upd_same hbb] at h
            cases want with
            | true => exact skip h hw
            | false => exact go hw h
        · rename_i hnb
          exact skip h (unwanted_spec hg hs hnb)

theorem opsQ_sound {P : Program} {T : Tys} (hT : TOk P T) {ops : Array Oper} {K : Env → Prop} {ws : List Nat} {a0 : Act} {w : World} {Q : Act → Prop} :
    ∀ (l : List Oper) (a : Act), Left ws a0 a → (∀ s ∈ wrs l, s ∈ ws) → (∀ s ∈ wrs l, s < a0.tmps.size) → opsQ P T ops l (envOf a) w.heap K →
    (∀ a', Left ws a0 a' → K (envOf a') → Q a') → wpQuiet P ops (fun w' => w'.heap = w.heap ∧ Same w w') Q l a
  | [], a, hL, _, _, h, hq => hq a hL h
  | o :: rest, a, hL, hws, hlt, h, hq => by
    have hd : ∀ t, o.dst = some t → t ∈ ws := fun t ht => hws t (by simp [wrs, ht])
    have hdl : ∀ t, o.dst = some t → t < a.tmps.size := fun t ht => by rw [hL.size]; exact hlt t (by simp [wrs, ht])
    have hws' : ∀ s ∈ wrs rest, s ∈ ws := fun s hs => hws s (by unfold wrs; cases o.dst <;> simp [hs])
    have hlt' : ∀ s ∈ wrs rest, s < a0.tmps.size := fun s hs => hlt s (by unfold wrs; cases o.dst <;> simp [hs])
    have go : opQ P T o (envOf a) w.heap (fun v => opsQ P T ops rest (upd (envOf a) o.dst v) w.heap K) → o.quiet P a (fun w' => w'.heap = w.heap ∧ Same w w') (wpQuiet P ops (fun w' => w'.heap = w.heap ∧ Same w w') Q rest) := fun h => by
      obtain ⟨v, hv, hK⟩ := opQ_sound hT (eval_envOf a) h
      exact ⟨v, hv, opsQ_sound hT rest (a.put o.dst v) (hL.trans (Left.put hdl hd)) hws' hlt' (by rw [envOf_put hdl]; exact hK) hq⟩
    have skip : opsQ P T ops rest (upd (envOf a) o.dst undef) w.heap K → wpQuiet P ops (fun w' => w'.heap = w.heap ∧ Same w w') Q rest (a.put o.dst undef) := fun h =>
      opsQ_sound hT rest (a.put o.dst undef) (hL.trans (Left.put hdl hd)) hws' hlt' (by rw [envOf_put hdl]; exact h) hq
    unfold opsQ at h
    split at h
    · rename_i hg
      unfold wpQuiet
      rw [if_pos (by simp [Region.wanted, hg])]
      exact go h
    · rename_i j want hg
      split at h
      · exact h.elim
      · rename_i g hs
        split at h
        · rename_i b hb
          have hw := wanted_spec hg hs hb
          unfold wpQuiet
          rw [hw]
          cases b with
          | true =>
            simp only [ifB, upd_same hb] at h
            cases want with
            | true => exact go h
            | false => exact skip h
          | false =>
            simp only [ifB, upd_same hb] at h
            cases want with
            | true => exact skip h
            | false => exact go h
        · rename_i hnb
          unfold wpQuiet
          rw [unwanted_spec hg hs hnb]
          exact skip h

/-! ### Statements whose order is open, in which memory is laid -/

/-- What an operation comes to, whatever comes of it. -/
def ctr (P : Program) (o : Oper) (a : Act) (w : World) (R : Value → World → Prop) : Prop :=
  match (execOp a.eval o).run P w with
  | .ok (.enter f args) w' => Calls P f args w' fun e w'' => ∃ v u, e = .returned v ∧ (o.dst = none ∨ u = v) ∧ R u w''
  | .ok (.value v) w' => ∃ u, (o.dst = none ∨ u = v) ∧ R u w'
  | .ok .skip w' => ∃ u, (o.dst = none ∨ u = undef) ∧ R u w'
  | .ok (.row row args) w' => Rows P row args w' fun v w'' => ∃ u, (o.dst = none ∨ u = v) ∧ R u w''
  | _ => False
theorem put_none {a : Act} {d : Option Nat} {u v : Value} (h : d = none ∨ u = v) : a.put d v = a.put d u := by
  rcases h with rfl | rfl <;> rfl
theorem ctr_wp {P : Program} {o : Oper} {a : Act} {w : World} {R : Value → World → Prop} (h : ctr P o a w R) {K : Act → World → Prop} (hk : ∀ u w', R u w' → K (a.put o.dst u) w') (Q : Exit → Act → World → Prop) : o.wp P a w K Q := by
  unfold ctr at h
  unfold Oper.wp
  generalize (execOp a.eval o).run P w = r at *
  cases r with
  | ok n w' =>
    cases n with
    | enter f args =>
      simp only [Oper.upon] at h ⊢
      refine Calls.mono h ?_
      rintro e w'' ⟨v, u, rfl, hu, hR⟩
      show K (a.put o.dst v) w''
      rw [put_none hu]
      exact hk u w'' hR
    | value v =>
      obtain ⟨u, hu, hR⟩ := h
      show K (a.put o.dst v) w'
      rw [put_none hu]
      exact hk u w' hR
    | skip =>
      obtain ⟨u, hu, hR⟩ := h
      show K (a.put o.dst undef) w'
      rw [put_none hu]
      exact hk u w' hR
    | row r args =>
      refine Rows.mono h fun v w'' ⟨u, hu, hR⟩ => ?_
      show K (a.put o.dst v) w''
      rw [put_none hu]
      exact hk u w'' hR
    | _ => exact h.elim
  | halt x w' => exact h.elim
theorem put_inj {a : Act} {d : Option Nat} {u v : Value} (hd : ∀ t, d = some t → t < a.tmps.size) (h : a.put d v = a.put d u) : d = none ∨ u = v := by
  cases d with
  | none => exact .inl rfl
  | some t =>
    right
    have ht := hd t rfl
    have h1 := congrArg (fun x : Act => x.tmps.getD t undef) h
    simp [Act.put, ht] at h1
    exact h1.symm
theorem wp_ctr {P : Program} {o : Oper} {a : Act} {w : World} {R : Value → World → Prop} (hd : ∀ t, o.dst = some t → t < a.tmps.size) (h : o.wp P a w (fun a' w' => ∃ v, a' = a.put o.dst v ∧ R v w') (fun _ _ _ => False)) : ctr P o a w R := by
  unfold Oper.wp at h
  unfold ctr
  generalize (execOp a.eval o).run P w = r at *
  cases r with
  | ok n w' =>
    cases n with
    | enter f args =>
      simp only [Oper.upon] at h ⊢
      refine Calls.mono h ?_
      intro e w'' he
      cases e with
      | returned v =>
        obtain ⟨u, hu, hR⟩ := he
        exact ⟨v, u, rfl, put_inj hd hu, hR⟩
      | panicked c => exact he.elim
      | outgrown => obtain ⟨_, _, h⟩ := he; exact h.elim
    | value v =>
      obtain ⟨u, hu, hR⟩ := h
      exact ⟨u, put_inj hd hu, hR⟩
    | skip =>
      obtain ⟨u, hu, hR⟩ := h
      exact ⟨u, put_inj hd hu, hR⟩
    | defer d =>
      obtain ⟨u, hu, _⟩ := h
      have := congrArg (fun x : Act => x.defers.length) hu
      rw [put_defers, put_defers] at this
      simp at this
    | row f args =>
      exact Rows.mono h fun v w'' ⟨u, hu, hR⟩ => ⟨u, put_inj hd hu, hR⟩
    | _ => simp only [Oper.upon] at h
  | halt x w' => cases x <;> simp only [Oper.upon] at h

def opV (ops : Array Oper) (o : Oper) (a : Act) : List Value := (o.looksAt ops).map (envOf a)
def VF (P : Program) (ops : Array Oper) (R : Heap → Prop) (S : Specs) (n : Nat) (o : Oper) (a : Act) (v : Value) : Prop :=
  if Region.wanted o (yielded ops a.tmps) then
    match clsOf o with
    | .pure => ∀ w'' : World, (execOp a.eval o).run P w'' = .ok (.value v) w''
    | .read => ∀ w'' : World, R w''.heap → (execOp a.eval o).run P w'' = .ok (.value v) w''
    | _ => (S n (opV ops o a)).P v
  else v = undef
def CF (P : Program) (ops : Array Oper) (R : Heap → Prop) (h0 : Heap) (w0 : World) (S : Specs) (fs : List (List Nat)) (n : Nat) (o : Oper) (a : Act) (D : Nat → List As) : Prop :=
  if Region.wanted o (yielded ops a.tmps) && isRes o then
    ∀ (w : World) X, Same w0 w → R w.heap → Sep h0 w.heap ((rowF fs n).flatMap D ++ X) → ctr P o a w fun v w' => Same w0 w' ∧ R w'.heap ∧ (S n (opV ops o a)).P v ∧ Sep h0 w'.heap ((S n (opV ops o a)).A v ++ X)
  else True
def EF (ops : Array Oper) (S : Specs) (fs : List (List Nat)) (n : Nat) (o : Oper) (a : Act) (v : Value) (D : Nat → List As) : Nat → List As :=
  if Region.wanted o (yielded ops a.tmps) && isRes o then putD D (memF fs n) n ((S n (opV ops o a)).A v) else D
def sOpF (P : Program) (ops : Array Oper) (R : Heap → Prop) (h0 : Heap) (w0 : World) (S : Specs) (fs : List (List Nat)) (n : Nat) (o : Oper) (K : Act → (Nat → List As) → Prop) (a : Act) (D : Nat → List As) : Prop :=
  CF P ops R h0 w0 S fs n o a D ∧ (∃ v, VF P ops R S n o a v) ∧ ∀ v, VF P ops R S n o a v → K (a.put o.dst v) (EF ops S fs n o a v D)
theorem sOpF_mono {P : Program} {ops : Array Oper} {R : Heap → Prop} {h0 : Heap} {w0 : World} {S : Specs} {fs : List (List Nat)} {n : Nat} {o : Oper} {K K' : Act → (Nat → List As) → Prop} {a : Act} {D : Nat → List As} (h : sOpF P ops R h0 w0 S fs n o K a D) (hk : ∀ a D, K a D → K' a D) : sOpF P ops R h0 w0 S fs n o K' a D :=
  ⟨h.1, h.2.1, fun v hv => hk _ _ (h.2.2 v hv)⟩
theorem envOf_ne {a : Act} {d : Option Nat} {v : Value} {t : Nat} (h : d ≠ some t) : envOf (a.put d v) t = envOf a t := by
  unfold envOf
  cases d with
  | none => rfl
  | some u =>
    have : u ≠ t := fun e => h (by rw [e])
    simp only [Act.put, Array.getD_eq_getD_getElem?]
    rw [Array.getElem?_setIfInBounds_ne this]
theorem opV_put {ops : Array Oper} {o : Oper} {a : Act} {d : Option Nat} {v : Value} (h : ∀ t, d = some t → t ∉ o.looksAt ops) : opV ops o (a.put d v) = opV ops o a := by
  unfold opV
  exact List.map_congr_left fun t ht => envOf_ne fun e => h t e ht
theorem VF_put {P : Program} {ops : Array Oper} {R : Heap → Prop} {S : Specs} {n : Nat} {o : Oper} {a : Act} {d : Option Nat} {u : Value} (h : ∀ t, d = some t → t ∉ o.looksAt ops) (hs : ∀ cs b, o.op ≠ .select cs b) (v : Value) :
    VF P ops R S n o (a.put d u) v ↔ VF P ops R S n o a v := by
  unfold VF
  rw [wanted_put o a d u h, execOp_put o hs a d u h, opV_put h]
theorem CF_put {P : Program} {ops : Array Oper} {R : Heap → Prop} {h0 : Heap} {w0 : World} {S : Specs} {fs : List (List Nat)} {n : Nat} {o : Oper} {a : Act} {d : Option Nat} {u : Value} (h : ∀ t, d = some t → t ∉ o.looksAt ops) (hs : ∀ cs b, o.op ≠ .select cs b) (D : Nat → List As) :
    CF P ops R h0 w0 S fs n o (a.put d u) D ↔ CF P ops R h0 w0 S fs n o a D := by
  unfold CF ctr
  rw [wanted_put o a d u h, execOp_put o hs a d u h, opV_put h]
theorem EF_put {ops : Array Oper} {S : Specs} {fs : List (List Nat)} {n : Nat} {o : Oper} {a : Act} {d : Option Nat} {u : Value} (h : ∀ t, d = some t → t ∉ o.looksAt ops) (v : Value) (D : Nat → List As) :
    EF ops S fs n o (a.put d u) v D = EF ops S fs n o a v D := by
  unfold EF
  rw [wanted_put o a d u h, opV_put h]

theorem beq_ne {a b : Nat} (h : a ≠ b) : Nat.beq a b = false := by
  cases h' : Nat.beq a b with
  | false => rfl
  | true => exact absurd (Nat.eq_of_beq_eq_true h') h
/-- Neither takes what the other one laid, nor both the same. -/
def pairF (fs : List (List Nat)) (i j : Nat) : Bool := !(memF fs j i) && !(memF fs i j) && (rowF fs j).all fun m => !(memF fs i m)
theorem memB_iff {m : Nat} : ∀ {l : List Nat}, memB l m = true ↔ m ∈ l
  | [] => by simp [memB]
  | x :: l => by
    unfold memB
    cases h : Nat.beq x m with
    | true => have := Nat.eq_of_beq_eq_true h; simp [this]
    | false =>
      have hne : ¬ m = x := fun e => by subst e; rw [Nat.beq_refl] at h; cases h
      simp only
      rw [memB_iff, List.mem_cons]
      exact ⟨.inr, fun h => h.resolve_left hne⟩
theorem putD_comm {D : Nat → List As} {p q : Nat → Bool} {i j : Nat} {A B : List As} (hne : i ≠ j) (h1 : q i = false) (h2 : p j = false) : putD (putD D p i A) q j B = putD (putD D q j B) p i A := by
  funext x
  unfold putD
  by_cases e1 : x = i
  · subst e1
    have e2 : Nat.beq x j = false := beq_ne hne
    simp [Nat.beq_refl, e2, h1]
  · have e1' : Nat.beq x i = false := beq_ne e1
    by_cases e2 : x = j
    · subst e2
      simp [Nat.beq_refl, e1', h2]
    · have e2' : Nat.beq x j = false := beq_ne e2
      simp only [e1', e2']
      cases p x <;> cases q x <;> rfl
theorem EF_comm {ops : Array Oper} {S : Specs} {fs : List (List Nat)} {i j : Nat} {oi oj : Oper} {a : Act} {u v : Value} {D : Nat → List As} (hne : i ≠ j) (hp : pairF fs i j = true) :
    EF ops S fs j oj a v (EF ops S fs i oi a u D) = EF ops S fs i oi a u (EF ops S fs j oj a v D) := by
  simp only [pairF, Bool.and_eq_true, Bool.not_eq_true'] at hp
  unfold EF
  split
  · split
    · exact putD_comm hne hp.1.1 hp.1.2
    · rfl
  · rfl
theorem CF_E {P : Program} {ops : Array Oper} {R : Heap → Prop} {h0 : Heap} {w0 : World} {S : Specs} {fs : List (List Nat)} {i j : Nat} {oi oj : Oper} {a a' : Act} {u : Value} {D : Nat → List As} (hp : pairF fs i j = true) :
    CF P ops R h0 w0 S fs j oj a (EF ops S fs i oi a' u D) ↔ CF P ops R h0 w0 S fs j oj a D := by
  simp only [pairF, Bool.and_eq_true, Bool.not_eq_true'] at hp
  have e : (rowF fs j).flatMap (EF ops S fs i oi a' u D) = (rowF fs j).flatMap D := by
    unfold EF
    split
    · have key : ∀ l : List Nat, (∀ m ∈ l, m ∈ rowF fs j) → l.flatMap (putD D (memF fs i) i ((S i (opV ops oi a')).A u)) = l.flatMap D := by
        intro l hl
        induction l with
        | nil => rfl
        | cons m l ih =>
          rw [List.flatMap_cons, List.flatMap_cons, ih fun x hx => hl x (by simp [hx])]
          congr 1
          have hm := hl m (by simp)
          have h1 : m ≠ i := fun e => by
            subst e
            have : memF fs j m = true := memB_iff.2 hm
            rw [hp.1.1] at this; cases this
          have h2 : memF fs i m = false := by
            have := List.all_eq_true.1 hp.2 m hm
            simpa using this
          unfold putD
          rw [beq_ne h1, h2]
      exact key _ fun m hm => hm
    · rfl
  unfold CF
  rw [e]
theorem sOpF_swap {P : Program} {ops : Array Oper} {R : Heap → Prop} {h0 : Heap} {w0 : World} {S : Specs} {fs : List (List Nat)} {i j : Nat} {oi oj : Oper} (hne : i ≠ j) (hap : oi.apart ops oj = true) (hp : pairF fs i j = true)
    (hsi : ∀ cs b, oi.op ≠ .select cs b) (hsj : ∀ cs b, oj.op ≠ .select cs b) {K : Act → (Nat → List As) → Prop} {a : Act} {D : Nat → List As}
    (h : sOpF P ops R h0 w0 S fs i oi (fun a1 D1 => sOpF P ops R h0 w0 S fs j oj K a1 D1) a D) : sOpF P ops R h0 w0 S fs j oj (fun a1 D1 => sOpF P ops R h0 w0 S fs i oi K a1 D1) a D := by
  obtain ⟨h1, h2, h3⟩ := Oper.apart_spec hap
  have hp' : pairF fs j i = true := by
    simp only [pairF, Bool.and_eq_true, Bool.not_eq_true'] at hp ⊢
    refine ⟨⟨hp.1.2, hp.1.1⟩, List.all_eq_true.2 fun m hm => ?_⟩
    cases hh : memF fs j m with
    | false => rfl
    | true =>
      have h1 := List.all_eq_true.1 hp.2 m (memB_iff.1 hh)
      have h2 : memF fs i m = true := memB_iff.2 hm
      rw [h2] at h1; cases h1
  obtain ⟨hc, ⟨u0, hu0⟩, hk⟩ := h
  obtain ⟨hcj, ⟨v0, hv0⟩, _⟩ := hk u0 hu0
  rw [CF_put h1 hsj, CF_E hp] at hcj
  rw [VF_put h1 hsj] at hv0
  refine ⟨hcj, ⟨v0, hv0⟩, fun v hv => ⟨?_, ⟨u0, ?_⟩, fun u hu => ?_⟩⟩
  · rw [CF_put h3 hsi, CF_E hp']; exact hc
  · rw [VF_put h3 hsi]; exact hu0
  · rw [VF_put h3 hsi] at hu
    have := (hk u hu).2.2 v ((VF_put h1 hsj v).2 hv)
    rw [EF_put h3, Act.put_comm a v u (fun d hd e => h2 d e hd), ← EF_comm hne hp]
    rw [EF_put h1] at this
    exact this

def listM (ops : Array Oper) (m : Nat) : Array Bool := (List.replicate m true ++ List.replicate (ops.size - m) false).toArray
def anyF (P : Program) (ops : Array Oper) (R : Heap → Prop) (h0 : Heap) (w0 : World) (S : Specs) (fs : List (List Nat)) (m : Nat) (K : Act → (Nat → List As) → Prop) : Nat → Array Bool → Act → (Nat → List As) → Prop
  | 0, listed, a, D => listed = listM ops m ∧ K a D
  | fuel + 1, listed, a, D =>
    (Region.ready .any ops listed ≠ [] ∧ ∀ i ∈ Region.ready .any ops listed, i < m) ∧ ∀ i ∈ Region.ready .any ops listed, ∀ o, ops[i]? = some o → sOpF P ops R h0 w0 S fs i o (anyF P ops R h0 w0 S fs m K fuel (listed.setIfInBounds i true)) a D

theorem flat_split (D : Nat → List As) (p : Nat → Bool) : ∀ l : List Nat, (l.flatMap D).Perm ((l.filter p).flatMap D ++ (l.filter fun m => !p m).flatMap D)
  | [] => .refl _
  | m :: l => by
    have ih := flat_split D p l
    rw [List.flatMap_cons]
    cases hm : p m with
    | true =>
      rw [List.filter_cons_of_pos hm, List.filter_cons_of_neg (by simp [hm]), List.flatMap_cons, List.append_assoc]
      exact ih.append_left _
    | false =>
      rw [List.filter_cons_of_neg (by simp [hm]), List.filter_cons_of_pos (by simp [hm]), List.flatMap_cons]
      refine (ih.append_left _).trans ?_
      rw [← List.append_assoc, ← List.append_assoc]
      exact List.perm_append_comm.append_right _
theorem flat_put (D : Nat → List As) (p : Nat → Bool) (n : Nat) (A : List As) (hp : p n = false) (hD : D n = []) : ∀ l : List Nat, l.Nodup →
    (l.flatMap (putD D p n A)).Perm ((if n ∈ l then A else []) ++ (l.filter fun m => !p m).flatMap D)
  | [], _ => by simp
  | m :: l, hn => by
    have hn := List.nodup_cons.1 hn
    have ih := flat_put D p n A hp hD l hn.2
    rw [List.flatMap_cons]
    by_cases e : m = n
    · subst e
      have h1 : putD D p m A m = A := by unfold putD; rw [Nat.beq_refl]
      rw [h1, if_pos (by simp), List.filter_cons_of_pos (by simp [hp]), List.flatMap_cons, hD, List.nil_append]
      rw [if_neg hn.1, List.nil_append] at ih
      exact ih.append_left _
    · have e' : ¬ n = m := fun h => e h.symm
      have hin : (n ∈ m :: l) ↔ n ∈ l := by
        rw [List.mem_cons]; exact ⟨fun h => h.resolve_left e', .inr⟩
      have h1 : putD D p n A m = if p m then [] else D m := by
        unfold putD; rw [beq_ne e]; cases p m <;> rfl
      have h2 : (if n ∈ m :: l then A else []) = (if n ∈ l then A else []) := by
        by_cases h : n ∈ l
        · rw [if_pos h, if_pos (hin.2 h)]
        · rw [if_neg h, if_neg fun h' => h (hin.1 h')]
      rw [h1, h2]
      cases hm : p m with
      | true => rw [List.filter_cons_of_neg (by simp [hm])]; exact ih
      | false =>
        rw [List.filter_cons_of_pos (by simp [hm]), List.flatMap_cons]
        simp only [Bool.false_eq_true, if_false]
        refine (ih.append_left _).trans ?_
        rw [← List.append_assoc, ← List.append_assoc]
        exact List.perm_append_comm.append_right _

def flatD (ops : Array Oper) (D : Nat → List As) : List As := (List.range (ops.size + 1)).flatMap D
def rowsB (ops : Array Oper) (fs : List (List Nat)) : Bool := (List.range ops.size).all fun n => (rowF fs n == (List.range (ops.size + 1)).filter (memF fs n)) && !(memF fs n n)
theorem rowsB_spec {ops : Array Oper} {fs : List (List Nat)} (h : rowsB ops fs = true) {n : Nat} (hn : n < ops.size) : rowF fs n = (List.range (ops.size + 1)).filter (memF fs n) ∧ memF fs n n = false := by
  have := List.all_eq_true.1 h n (List.mem_range.2 hn)
  simpa using this
theorem anyF.any {P : Program} {ops : Array Oper} {R : Heap → Prop} {h0 : Heap} {w0 : World} {S : Specs} {fs : List (List Nat)} {Q : Exit → Act → World → Prop} {m r : Nat} (hrw : rowsB ops fs = true) : ∀ (fuel : Nat) (listed : Array Bool) (a : Act) (w : World) (D : Nat → List As), Same w0 w → R w.heap → Sep h0 w.heap (flatD ops D) →
    (∀ i, listed.getD i true = false → D i = []) → anyF P ops R h0 w0 S fs m (fun a D => ∀ w, Same w0 w → R w.heap → Sep h0 w.heap (flatD ops D) → wpAny P .any ops Q r (listM ops m) a w) fuel listed a D → wpAny P .any ops Q (r + fuel) listed a w
  | 0, listed, a, w, D, hs, hR, hsep, _, h => by rw [h.1]; exact h.2 w hs hR hsep
  | fuel + 1, listed, a, w, D, hs, hR, hsep, hD, h => ⟨fun hr => absurd hr h.1.1, fun i hi => by
    obtain ⟨hun, o, ho, _⟩ := mem_ready.1 hi
    obtain ⟨hc, ⟨v0, hv0⟩, hk⟩ := h.2 i hi o ho
    have hin : i < ops.size := (Array.getElem?_eq_some_iff.1 ho).1
    unfold wpOp
    rw [ho]
    simp only
    have keep : ∀ D' : Nat → List As, (∀ m, m ≠ i → D m = [] → D' m = []) → ∀ m, (listed.setIfInBounds i true).getD m true = false → D' m = [] := fun D' hD' m hm => by
      by_cases e : i = m
      · subst e
        exfalso
        rcases Nat.lt_or_ge i listed.size with h' | h'
        · simp [h'] at hm
        · simp at hm
      · rw [getD_set_ne true e] at hm
        exact hD' m (fun h => e h.symm) (hD m hm)
    by_cases hw : Region.wanted o (yielded ops a.tmps) = true
    · rw [if_pos hw]
      left
      by_cases hr : isRes o = true
      · have hcond : (Region.wanted o (yielded ops a.tmps) && isRes o) = true := by rw [hw, hr]; rfl
        unfold CF at hc
        rw [if_pos hcond] at hc
        rw [(rowsB_spec hrw hin).1] at hc
        have hperm := flat_split D (memF fs i) (List.range (ops.size + 1))
        refine ctr_wp (hc w _ hs hR (hsep.perm hperm)) (fun u w' ⟨hs', hR', hP, hsep'⟩ => ?_) Q
        have hV : VF P ops R S i o a u := by
          unfold VF
          rw [if_pos hw]
          unfold isRes at hr
          cases hcl : clsOf o with
          | pure => rw [hcl] at hr; cases hr
          | read => rw [hcl] at hr; cases hr
          | alloc => exact hP
          | other => exact hP
        have hE : EF ops S fs i o a u D = putD D (memF fs i) i ((S i (opV ops o a)).A u) := by unfold EF; rw [if_pos hcond]
        have hk' := hk u hV
        rw [hE] at hk'
        refine anyF.any hrw fuel _ _ w' _ hs' hR' ?_ (keep _ fun m hm hDm => ?_) hk'
        · have := flat_put D (memF fs i) i ((S i (opV ops o a)).A u) (rowsB_spec hrw hin).2 (hD i hun) (List.range (ops.size + 1)) List.nodup_range
          rw [if_pos (List.mem_range.2 (by omega))] at this
          exact hsep'.perm this.symm
        · unfold putD
          rw [beq_ne hm]
          simp only
          rw [hDm]
          cases memF fs i m <;> rfl
      · have hcond : ¬ (Region.wanted o (yielded ops a.tmps) && isRes o) = true := by rw [hw]; simpa using hr
        have hE : ∀ u, EF ops S fs i o a u D = D := fun u => by unfold EF; rw [if_neg hcond]
        have hk' := hk v0 hv0
        rw [hE] at hk'
        unfold VF at hv0
        rw [if_pos hw] at hv0
        have hrun : (execOp a.eval o).run P w = .ok (.value v0) w := by
          unfold isRes at hr
          cases hcl : clsOf o with
          | pure => rw [hcl] at hv0; exact hv0 w
          | read =>
            rw [hcl] at hv0
            exact hv0 w hR
          | alloc => rw [hcl] at hr; exact absurd rfl hr
          | other => rw [hcl] at hr; exact absurd rfl hr
        exact wp_value hrun (anyF.any hrw fuel _ _ w D hs hR hsep (keep D fun m _ h => h) hk')
    · rw [if_neg hw]
      have hcond : ¬ (Region.wanted o (yielded ops a.tmps) && isRes o) = true := by simp [hw]
      have hE : ∀ u, EF ops S fs i o a u D = D := fun u => by unfold EF; rw [if_neg hcond]
      have hk' := hk undef (by unfold VF; rw [if_neg hw])
      rw [hE] at hk'
      exact anyF.any hrw fuel _ _ w D hs hR hsep (keep D fun m _ h => h) hk'⟩

def freeFD (ops : Array Oper) (fs : List (List Nat)) (listed : Array Bool) (i : Nat) (D : List Nat) : Bool :=
  match ops[i]? with
  | none => false
  | some oi => (D.all fun j => !(listed.getD j true) && match ops[j]? with
      | some oj => oj.after.any (fun e => Region.binds .any e && (e.on == i || D.contains e.on))
      | none => false) && ((List.range ops.size).all fun j => j == i || listed.getD j true || D.contains j || match ops[j]? with
      | some oj => oi.apart ops oj && pairF fs i j
      | none => true)
theorem freeFD_spec {ops : Array Oper} {fs : List (List Nat)} {i : Nat} {oi : Oper} {listed : Array Bool} {D : List Nat} (hi : ops[i]? = some oi) (h : freeFD ops fs listed i D = true) :
    (∀ j ∈ D, ∃ oj, ops[j]? = some oj ∧ ∃ e ∈ oj.after, Region.binds .any e = true ∧ (e.on = i ∨ e.on ∈ D)) ∧ (∀ j ∈ D, listed.getD j true = false) ∧
    (∀ j oj, ops[j]? = some oj → j ≠ i → listed.getD j true = false → j ∉ D → oi.apart ops oj = true ∧ pairF fs i j = true) := by
  simp only [freeFD, hi, Bool.and_eq_true, List.all_eq_true, List.mem_range] at h
  obtain ⟨h1, h2⟩ := h
  refine ⟨fun j hj => ?_, fun j hj => ?_, fun j oj hoj hne hun hno => ?_⟩
  · have := (h1 j hj).2
    cases ho : ops[j]? with
    | none => rw [ho] at this; cases this
    | some oj =>
      rw [ho] at this
      obtain ⟨e, he, hb⟩ := Array.any_eq_true'.1 this
      simp only [Bool.and_eq_true, Bool.or_eq_true, beq_iff_eq, List.contains_iff_mem] at hb
      exact ⟨oj, rfl, e, he, hb.1, hb.2⟩
  · simpa using (h1 j hj).1
  · have h3 := h2 j (Array.getElem?_eq_some_iff.1 hoj).1
    simp only [hoj, Bool.or_eq_true, beq_iff_eq, hne, false_or, hun, Bool.false_eq_true, List.contains_iff_mem, hno] at h3
    simpa using h3

/-- What stands behind the first ones waits for all of them. -/
def tailB (ops : Array Oper) (m : Nat) : Bool := (List.range ops.size).all fun t => Nat.blt t m || match ops[t]? with
  | some o => (List.range m).all fun i => o.after.any fun e => Region.binds .any e && e.on == i
  | none => false
theorem tail_ready {ops : Array Oper} {m : Nat} (hT : tailB ops m = true) {listed : Array Bool} {i : Nat} (him : i < m) (hi : listed.getD i true = false) : ∀ j ∈ Region.ready .any ops listed, j < m := by
  intro j hj
  obtain ⟨_, o, ho, hall⟩ := mem_ready.1 hj
  rcases Nat.lt_or_ge j m with h | h
  · exact h
  · have h1 := List.all_eq_true.1 hT j (List.mem_range.2 (Array.getElem?_eq_some_iff.1 ho).1)
    rw [ho] at h1
    have hb : Nat.blt j m = false := by
      cases hh : Nat.blt j m with
      | false => rfl
      | true => have : j + 1 ≤ m := Nat.le_of_ble_eq_true hh; omega
    rw [hb, Bool.false_or] at h1
    have h2 := List.all_eq_true.1 h1 i (List.mem_range.2 him)
    obtain ⟨e, he, hb2⟩ := Array.any_eq_true'.1 h2
    simp only [Bool.and_eq_true, beq_iff_eq] at hb2
    have h3 := hall e he hb2.1
    rw [hb2.2] at h3
    rcases Nat.lt_or_ge i listed.size with h' | h'
    · simp [h'] at hi h3; rw [hi] at h3; cases h3
    · simp [Array.getElem?_eq_none h'] at h3
theorem listM_true {ops : Array Oper} {m j : Nat} (h : j < m) : (listM ops m).getD j true = true := by
  unfold listM
  rw [Array.getD_eq_getD_getElem?, List.getElem?_toArray, List.getElem?_append_left (by simpa using h), List.getElem?_replicate]
  simp [h]

theorem anyF_first {P : Program} {ops : Array Oper} {R : Heap → Prop} {h0 : Heap} {w0 : World} {S : Specs} {fs : List (List Nat)} {m : Nat} {K : Act → (Nat → List As) → Prop} {i : Nat} {oi : Oper} (hi : ops[i]? = some oi) (him : i < m) (hT : tailB ops m = true) (hsel : ∀ (j : Nat) (o : Oper) cs b, ops[j]? = some o → o.op ≠ .select cs b) :
    ∀ (X : List Nat), (∀ j ∈ X, ∃ oj, ops[j]? = some oj ∧ ∃ e ∈ oj.after, Region.binds .any e = true ∧ (e.on = i ∨ e.on ∈ X)) → ∀ (fuel : Nat) (listed : Array Bool) (a : Act) (D : Nat → List As),
      (∀ j ∈ X, listed.getD j true = false) → (∀ j oj, ops[j]? = some oj → j ≠ i → listed.getD j true = false → j ∉ X → oi.apart ops oj = true ∧ pairF fs i j = true) →
      i ∈ Region.ready .any ops listed → sOpF P ops R h0 w0 S fs i oi (anyF P ops R h0 w0 S fs m K fuel (listed.setIfInBounds i true)) a D → anyF P ops R h0 w0 S fs m K (fuel + 1) listed a D := by
  intro X hX fuel
  induction fuel with
  | zero =>
    intro listed a D _ _ hr H
    have hlow := tail_ready hT him (mem_ready.1 hr).1
    refine ⟨⟨fun h => (by rw [h] at hr; cases hr), hlow⟩, fun j hj oj hoj => ?_⟩
    by_cases hji : j = i
    · subst hji
      have : oj = oi := Option.some.inj (hoj.symm.trans hi)
      subst this
      exact H
    · obtain ⟨_, ⟨v, hv⟩, hk⟩ := H
      have h2 : listed.setIfInBounds i true = listM ops m := (hk v hv).1
      have h3 := (mem_ready.1 hj).1
      rw [← getD_set_ne true (Ne.symm hji), h2, listM_true (hlow j hj)] at h3
      cases h3
  | succ fuel ih =>
    intro listed a D hXl hfree hr H
    have hlow := tail_ready hT him (mem_ready.1 hr).1
    refine ⟨⟨fun h => (by rw [h] at hr; cases hr), hlow⟩, fun j hj oj hoj => ?_⟩
    by_cases hji : j = i
    · subst hji
      have : oj = oi := Option.some.inj (hoj.symm.trans hi)
      subst this
      exact H
    · obtain ⟨hjun, oj', hoj', hall⟩ := mem_ready.1 hj
      have : oj' = oj := Option.some.inj (hoj'.symm.trans hoj)
      subst this
      have hnotD : j ∉ X := fun hjD => by
        obtain ⟨oj2, ho2, e, he, hb, hon⟩ := hX j hjD
        have : oj2 = oj' := Option.some.inj (ho2.symm.trans hoj')
        subst this
        have h1 := hall e he hb
        have h0 : listed.getD e.on true = false := by
          rcases hon with hon | hon
          · rw [hon]; exact (mem_ready.1 hr).1
          · exact hXl _ hon
        rcases Nat.lt_or_ge e.on listed.size with h' | h'
        · simp [h'] at h0 h1; rw [h0] at h1; cases h1
        · simp [Array.getElem?_eq_none h'] at h1
      have hpr := hfree j oj' hoj hji hjun hnotD
      have h1 : sOpF P ops R h0 w0 S fs i oi (fun a1 D1 => sOpF P ops R h0 w0 S fs j oj' (anyF P ops R h0 w0 S fs m K fuel ((listed.setIfInBounds i true).setIfInBounds j true)) a1 D1) a D :=
        sOpF_mono H fun a1 D1 h => h.2 j (ready_mono hj hji) oj' hoj
      have h2 := sOpF_swap (Ne.symm hji) hpr.1 hpr.2 (fun cs b => hsel i oi cs b hi) (fun cs b => hsel j oj' cs b hoj) h1
      have hfree' : ∀ k ok, ops[k]? = some ok → k ≠ i → (listed.setIfInBounds j true).getD k true = false →
          k ∉ X → oi.apart ops ok = true ∧ pairF fs i k = true := fun k ok hk hki hun hno => by
        refine hfree k ok hk hki ?_ hno
        by_cases hjk : j = k
        · subst hjk; exact hjun
        · rw [getD_set_ne true hjk] at hun; exact hun
      have hXl' : ∀ k ∈ X, (listed.setIfInBounds j true).getD k true = false := fun k hk => by
        rw [getD_set_ne true (show j ≠ k from fun e => by subst e; exact hnotD hk)]
        exact hXl k hk
      refine sOpF_mono h2 fun a1 D1 h3 => ih (listed.setIfInBounds j true) a1 D1 hXl' hfree' (ready_mono hr (Ne.symm hji)) ?_
      rw [Array.setIfInBounds_comm _ _ hji]
      exact h3

def lexFromF (ops : Array Oper) (fs : List (List Nat)) (m : Nat) : Nat → Nat → Array Bool → Bool
  | 0, _, listed => listed == listM ops m
  | fuel + 1, k, listed => (Region.ready .any ops listed).contains k && Nat.blt k m && freeFD ops fs listed k (depX ops k ops.toList 0 []) && lexFromF ops fs m fuel (k + 1) (listed.setIfInBounds k true)
def lexF (ops : Array Oper) (m : Nat) (fs : List (List Nat)) (lv : List Nat) : Bool := (lv == (List.range (ops.size + 1)).filter (memB lv)) && rowsB ops fs && Region.noSelect ops && Nat.ble m ops.size && tailB ops m && lexFromF ops fs m m 0 (Array.replicate ops.size false) && lexFromX ops (ops.size - m) m (listM ops m)
def sOpsF (P : Program) (ops : Array Oper) (R : Heap → Prop) (h0 : Heap) (w0 : World) (S : Specs) (fs : List (List Nat)) (K : Act → (Nat → List As) → Prop) : List Oper → Nat → Act → (Nat → List As) → Prop
  | [], _, a, D => K a D
  | o :: rest, n, a, D => sOpF P ops R h0 w0 S fs n o (sOpsF P ops R h0 w0 S fs K rest (n + 1)) a D
theorem anyF_lex {P : Program} {ops : Array Oper} {R : Heap → Prop} {h0 : Heap} {w0 : World} {S : Specs} {fs : List (List Nat)} {m : Nat} {K : Act → (Nat → List As) → Prop} (hs : Region.noSelect ops = true) (hT : tailB ops m = true) : ∀ (l : List Oper) (k : Nat) (listed : Array Bool) (a : Act) (D : Nat → List As), (∀ j, j < l.length → l[j]? = ops[k + j]?) →
    lexFromF ops fs m l.length k listed = true → sOpsF P ops R h0 w0 S fs K l k a D → anyF P ops R h0 w0 S fs m K l.length listed a D
  | [], _, _, _, _, _, hB, h => ⟨by simpa [lexFromF] using hB, h⟩
  | o :: l, k, listed, a, D, hl, hB, h => by
    have h0 : ops[k]? = some o := by simpa using (hl 0 (by simp)).symm
    simp only [List.length_cons, lexFromF, Bool.and_eq_true] at hB
    obtain ⟨⟨⟨hr, hm⟩, hf⟩, hB'⟩ := hB
    obtain ⟨f1, f2, f3⟩ := freeFD_spec h0 hf
    refine anyF_first h0 (Nat.le_of_ble_eq_true hm) hT (Region.noSelect_spec hs) _ f1 l.length listed a D f2 f3 (by simpa using hr) ?_
    exact sOpF_mono h fun a1 D1 h1 => anyF_lex hs hT l (k + 1) _ a1 D1 (fun j hj => by have := hl (j + 1) (by simpa using hj); simpa [Nat.add_assoc, Nat.add_comm 1 j] using this) hB' h1
theorem Sep.dropLast {h0 h : Heap} {L M : List As} (s : Sep h0 h (L ++ M)) : Sep h0 h L := by
  have key : ∀ (M L : List As), Sep h0 h (M ++ L) → Sep h0 h L := by
    intro M
    induction M with
    | nil => intro L h; exact h
    | cons A M ih => intro L h; exact ih L h.drop
  exact key M L (s.perm List.perm_append_comm)
theorem wp_region_lexF {P : Program} {ops : Array Oper} {id : Nat} {R : Heap → Prop} {h0 : Heap} {L0 : List As} {S : Specs} {m : Nat} {fs : List (List Nat)} {lv : List Nat} {Q : Exit → Act → World → Prop} {a : Act} {w : World} (hm : P.follows .mixedOrders = true) (hB : lexF ops m fs lv = true)
    (hR : R w.heap) (hL : Sep h0 w.heap L0)
    (h : sOpsF P ops R h0 w S fs (fun a D => ∀ w', Same w w' → R w'.heap → Sep h0 w'.heap (lv.flatMap D) → sOps P ops (Q .normal) (ops.toList.drop m) a w') (ops.toList.take m) 0 a (startD ops L0)) : (Code.region id ops true).wp P Q a w := by
  simp only [lexF, Bool.and_eq_true] at hB
  obtain ⟨⟨⟨⟨⟨⟨hlv, hrw⟩, hns⟩, hle⟩, hT⟩, hF⟩, hX⟩ := hB
  have hlv : lv = (List.range (ops.size + 1)).filter (memB lv) := by simpa using hlv
  have hle : m ≤ ops.size := Nat.le_of_ble_eq_true hle
  have hz : ∀ i, i < ops.size → startD ops L0 i = [] := fun i hi => by unfold startD; rw [beq_ne (show i ≠ ops.size by omega)]
  have hfl : flatD ops (startD ops L0) = L0 := by
    unfold flatD
    rw [List.range_succ, List.flatMap_append]
    have h1 : (List.range ops.size).flatMap (startD ops L0) = [] := by
      rw [List.flatMap_eq_nil_iff]
      exact fun i hi => hz i (List.mem_range.1 hi)
    rw [h1, List.nil_append, List.flatMap_singleton]
    unfold startD
    rw [Nat.beq_refl]
  have hlen : (ops.toList.take m).length = m := by rw [List.length_take, Array.length_toList]; omega
  have hlen2 : (ops.toList.drop m).length = ops.size - m := by rw [List.length_drop, Array.length_toList]
  refine wp_region_any hm ?_
  have key := anyF.any (P := P) (ops := ops) (R := R) (h0 := h0) (w0 := w) (S := S) (fs := fs) (Q := Q) (m := m) (r := ops.size - m) hrw m (Array.replicate ops.size false) a { w with drawn := w.drawn + 1 } (startD ops L0) ⟨rfl, rfl, rfl⟩ hR (by rw [hfl]; exact hL) (fun i hi => ?_) ?_
  · rw [Nat.sub_add_cancel hle] at key
    exact key
  · rcases Nat.lt_or_ge i ops.size with h | h
    · exact hz i h
    · rw [Array.getD_eq_getD_getElem?, Array.getElem?_eq_none (by simpa using h)] at hi
      cases hi
  · have := anyF_lex (P := P) (ops := ops) (R := R) (h0 := h0) (w0 := w) (S := S) (fs := fs) (m := m) hns hT (ops.toList.take m) 0 (Array.replicate ops.size false) a (startD ops L0) (K := fun a D => ∀ w', Same w w' → R w'.heap → Sep h0 w'.heap (flatD ops D) → wpAny P .any ops Q (ops.size - m) (listM ops m) a w')
      (fun j hj => by rw [hlen] at hj; rw [List.getElem?_take]; simp [hj]) (by rw [hlen]; exact hF) ?_
    · rw [hlen] at this; exact this
    · have mono : ∀ (l : List Oper) (n : Nat) (a : Act) (D : Nat → List As), sOpsF P ops R h0 w S fs (fun a D => ∀ w', Same w w' → R w'.heap → Sep h0 w'.heap (lv.flatMap D) → sOps P ops (Q .normal) (ops.toList.drop m) a w') l n a D →
          sOpsF P ops R h0 w S fs (fun a D => ∀ w', Same w w' → R w'.heap → Sep h0 w'.heap (flatD ops D) → wpAny P .any ops Q (ops.size - m) (listM ops m) a w') l n a D := by
        intro l
        induction l with
        | nil =>
          intro n a D h w' hs hR' hsep
          refine anyX.any _ _ _ _ ?_
          have := anyX_lex hns (ops.toList.drop m) m (listM ops m) a w' (fun j => by simp) (by rw [hlen2]; exact hX) (h w' hs hR' ?_)
          rotate_left
          · rw [hlv]
            exact Sep.dropLast (hsep.perm (flat_split D (memB lv) (List.range (ops.size + 1))))
          rw [hlen2] at this
          exact this
        | cons o l ih => intro n a D h; exact sOpF_mono h fun a D h => ih (n + 1) a D h
      exact mono _ _ _ _ h

theorem run_kind {P : Program} {T : Tys} (hT : TOk P T) {ops : Array Oper} {o : Oper} {env : Env} {K : Value → Heap → Prop} {w : World} {a : Act} (hev : a.eval = ev env) (hd : ∀ t, o.dst = some t → t < a.tmps.size)
    (hw : Region.wanted o (yielded ops a.tmps) = true) (h : opW P T o env w.heap K) : ctr P o a w fun v w' => Same w w' ∧ K v w'.heap := by
  have hs := opW_sound hT (ops := ops) hev hw h (next := fun a1 w1 => ∃ v, a1 = a.put o.dst v ∧ Same w w1 ∧ K v w1.heap) fun v w' hs hK => ⟨v, rfl, hs, hK⟩
  unfold sOp at hs
  rw [if_pos hw] at hs
  have val : ∀ v w', (execOp a.eval o).run P w = .ok (.value v) w' → (∃ u, a.put o.dst v = a.put o.dst u ∧ Same w w' ∧ K u w'.heap) → ctr P o a w fun v w' => Same w w' ∧ K v w'.heap := fun v w' hr ⟨u, hu, h1, h2⟩ => by
    unfold ctr
    rw [hr]
    exact ⟨u, put_inj hd hu, h1, h2⟩
  split at hs
  · obtain ⟨v, hv, hn⟩ := hs; exact val v w (hv w) hn
  · obtain ⟨v, hv, hn⟩ := hs; exact val v w (hv w (hExt.refl _)) hn
  · obtain ⟨v, w', hv, _, hn⟩ := hs; exact val v w' hv hn
  · exact wp_ctr hd hs

theorem opsF_sound {P : Program} {T : Tys} (hT : TOk P T) {ops : Array Oper} {R : Heap → Prop} {h0 : Heap} {S : Specs} {fs : List (List Nat)} {K : Env → (Nat → List As) → Prop} {ws : List Nat} {Q : Act → (Nat → List As) → Prop} {a0 : Act} {w0 : World} (hR : R w0.heap) :
    ∀ (l : List Oper) (n : Nat) (a : Act) (D : Nat → List As), Left ws a0 a → (∀ s ∈ wrs l, s ∈ ws) → (∀ s ∈ wrs l, s < a0.tmps.size) → opsF P T ops R h0 S fs l n (envOf a) D K →
    (∀ a' D', Left ws a0 a' → K (envOf a') D' → Q a' D') → sOpsF P ops R h0 w0 S fs Q l n a D
  | [], n, a, D, hL, _, _, h, hq => hq a D hL h
  | o :: rest, n, a, D, hL, hws, hlt, h, hq => by
    have hd : ∀ t, o.dst = some t → t ∈ ws := fun t ht => hws t (by simp [wrs, ht])
    have hdl : ∀ t, o.dst = some t → t < a.tmps.size := fun t ht => by rw [hL.size]; exact hlt t (by simp [wrs, ht])
    have hws' : ∀ s ∈ wrs rest, s ∈ ws := fun s hs => hws s (by unfold wrs; cases o.dst <;> simp [hs])
    have hlt' : ∀ s ∈ wrs rest, s < a0.tmps.size := fun s hs => hlt s (by unfold wrs; cases o.dst <;> simp [hs])
    have next : ∀ v D', opsF P T ops R h0 S fs rest (n + 1) (upd (envOf a) o.dst v) D' K → sOpsF P ops R h0 w0 S fs Q rest (n + 1) (a.put o.dst v) D' := fun v D' hK =>
      opsF_sound hT hR rest (n + 1) (a.put o.dst v) D' (hL.trans (Left.put hdl hd)) hws' hlt' (by rw [envOf_put hdl]; exact hK) hq
    have go : Region.wanted o (yielded ops a.tmps) = true → opF P T ops R h0 S fs n o (envOf a) D (fun v D' => opsF P T ops R h0 S fs rest (n + 1) (upd (envOf a) o.dst v) D' K) → sOpsF P ops R h0 w0 S fs Q (o :: rest) n a D := fun hw h => by
      unfold opF at h
      unfold sOpsF sOpF
      have res : isRes o = true → freeW R h0 (S n ((o.looksAt ops).map (envOf a))) ((rowF fs n).flatMap D) (fun h K => opW P T o (envOf a) h K) (fun v =>
          asT T o v fun u => opsF P T ops R h0 S fs rest (n + 1) (upd (envOf a) o.dst u) (putD D (memF fs n) n ((S n ((o.looksAt ops).map (envOf a))).A v)) K) →
          (CF P ops R h0 w0 S fs n o a D ∧ (∃ v, (S n (opV ops o a)).P v) ∧ ∀ v, (S n (opV ops o a)).P v → sOpsF P ops R h0 w0 S fs Q rest (n + 1) (a.put o.dst v) (EF ops S fs n o a v D)) := fun hr hf => by
        have hcond : (Region.wanted o (yielded ops a.tmps) && isRes o) = true := by rw [hw, hr]; rfl
        obtain ⟨h1, h2, h3⟩ := hf
        refine ⟨?_, h1, fun v hv => ?_⟩
        · unfold CF
          rw [if_pos hcond]
          intro w X hs hR' hsep
          have := run_kind hT (ops := ops) (eval_envOf a) hdl hw (h2 w.heap X hR' hsep)
          unfold ctr at this ⊢
          generalize (execOp a.eval o).run P w = r at *
          cases r with
          | ok nx w' =>
            cases nx with
            | enter f args =>
              refine Calls.mono this ?_
              rintro e w'' ⟨v, u, he, hu, hs', hP⟩
              exact ⟨v, u, he, hu, hs.trans hs', hP⟩
            | value v => obtain ⟨u, hu, hs', hP⟩ := this; exact ⟨u, hu, hs.trans hs', hP⟩
            | skip => obtain ⟨u, hu, hs', hP⟩ := this; exact ⟨u, hu, hs.trans hs', hP⟩
            | row f args => exact Rows.mono this fun v w'' ⟨u, hu, hs', hP⟩ => ⟨u, hu, hs.trans hs', hP⟩
            | _ => exact this.elim
          | halt x w' => exact this.elim
        · have hE : EF ops S fs n o a v D = putD D (memF fs n) n ((S n (opV ops o a)).A v) := by unfold EF; rw [if_pos hcond]
          rw [hE]
          refine next v _ ?_
          have := h3 v hv
          unfold asT at this
          split at this
          · exact this
          · split at this
            · obtain ⟨p, hp, hk⟩ := this
              rw [hp]
              exact hp ▸ hk
            · exact asRes_spec this
      have hE : isRes o = false → ∀ v, EF ops S fs n o a v D = D := fun hr v => by unfold EF; rw [hr, Bool.and_false]; rfl
      have hC : isRes o = false → CF P ops R h0 w0 S fs n o a D := fun hr => by unfold CF; rw [hr, Bool.and_false]; trivial
      cases hc : clsOf o with
      | pure =>
        rw [hc] at h
        have hr : isRes o = false := by unfold isRes; rw [hc]
        obtain ⟨v, hv, hK⟩ := opR_sound hT h
        have hv' : ∀ w'' : World, (execOp a.eval o).run P w'' = .ok (.value v) w'' := fun w'' => by rw [eval_envOf a]; exact hv w'' (.inl hc)
        have hVF : ∀ u, VF P ops R S n o a u ↔ ∀ w'' : World, (execOp a.eval o).run P w'' = .ok (.value u) w'' := fun u => by unfold VF; rw [if_pos hw, hc]
        refine ⟨hC hr, ⟨v, (hVF v).2 hv'⟩, fun u hu => ?_⟩
        have e1 := (hVF u).1 hu default
        rw [hv' default] at e1
        injection e1 with e1 _
        injection e1 with e1
        rw [hE hr, ← e1]
        exact next v D hK
      | read =>
        rw [hc] at h
        have hr : isRes o = false := by unfold isRes; rw [hc]
        simp only at h
        split at h
        · rename_i t p hop
          split at h
          · rename_i k q hlk hev
            obtain ⟨x, hx, hK⟩ := h
            have hv' : ∀ w'' : World, R w''.heap → (execOp a.eval o).run P w'' = .ok (.value (k.val x)) w'' := fun w'' he => by
              have hopR : opR T o (envOf a) w''.heap (fun v => v = k.val x) := by
                unfold opR
                rw [hop]
                simp only
                rw [hlk, hev]
                exact ⟨x, hx _ he, rfl⟩
              obtain ⟨v, hv, rfl⟩ := opR_sound hT hopR
              rw [eval_envOf a]; exact hv w'' (.inr (hExt.refl _))
            have hVF : ∀ u, VF P ops R S n o a u ↔ ∀ w'' : World, R w''.heap → (execOp a.eval o).run P w'' = .ok (.value u) w'' := fun u => by unfold VF; rw [if_pos hw, hc]
            refine ⟨hC hr, ⟨_, (hVF _).2 hv'⟩, fun u hu => ?_⟩
            have e1 := (hVF u).1 hu w0 hR
            rw [hv' w0 hR] at e1
            injection e1 with e1 _
            injection e1 with e1
            rw [hE hr, ← e1]
            exact next _ D hK
          · exact h.elim
        · exact h.elim
      | alloc =>
        rw [hc] at h
        have := res (by unfold isRes; rw [hc]) h
        have hVF : ∀ u, VF P ops R S n o a u ↔ (S n (opV ops o a)).P u := fun u => by unfold VF; rw [if_pos hw, hc]
        exact ⟨this.1, this.2.1.imp fun v hv => (hVF v).2 hv, fun v hv => this.2.2 v ((hVF v).1 hv)⟩
      | other =>
        rw [hc] at h
        have := res (by unfold isRes; rw [hc]) h
        have hVF : ∀ u, VF P ops R S n o a u ↔ (S n (opV ops o a)).P u := fun u => by unfold VF; rw [if_pos hw, hc]
        exact ⟨this.1, this.2.1.imp fun v hv => (hVF v).2 hv, fun v hv => this.2.2 v ((hVF v).1 hv)⟩
    have skip : opsF P T ops R h0 S fs rest (n + 1) (upd (envOf a) o.dst undef) D K → Region.wanted o (yielded ops a.tmps) = false → sOpsF P ops R h0 w0 S fs Q (o :: rest) n a D := fun h hw => by
      unfold sOpsF sOpF CF VF EF
      rw [hw]
      refine ⟨trivial, ⟨undef, rfl⟩, fun v hv => ?_⟩
      have hv : v = undef := hv
      subst hv
      exact next undef D h
    unfold opsF at h
    split at h
    · rename_i hg
      exact go (by simp [Region.wanted, hg]) h
    · rename_i j want hg
      split at h
      · exact h.elim
      · rename_i g hs
        split at h
        · rename_i b hbb
          have hw := wanted_spec hg hs hbb
          cases b with
          | true =>
            simp only [ifB, upd_same hbb] at h
            cases want with
            | true => exact go hw h
            | false => exact skip h hw
          | false =>
            simp only [ifB, upd_same hbb] at h
            cases want with
            | true => exact skip h hw
            | false => exact go hw h
        · rename_i hnb
          exact skip h (unwanted_spec hg hs hnb)

/-! ### Code -/

def Out.toExit : Out → Exit
  | .norm => .normal
  | .exit id => .exit id
  | .ret => .ret

def writes : Code → List Nat
  | .region _ ops _ => wrs ops.toList
  | .seq a b => writes a ++ writes b
  | .cond _ a b => writes a ++ writes b
  | .block _ a => writes a
  | .loop a => writes a
  | _ => []

def apartB (keep ws : List Nat) : Bool := keep.all fun s => !ws.elem s
def okB : Ann → Code → Bool
  | .leaf, .region _ ops true => lexX ops
  | .quiet, .region _ ops true => Region.lexB .any ops
  | .quiet, _ => false
  | .based, .region _ ops true => lexB ops
  | .kept late, .region _ ops true => lexK late ops
  | .kept _, _ => false
  | .free m fs lv, .region _ ops true => lexF ops m fs lv
  | .free _ _ _, _ => false
  | .based, _ => false
  | .leaf, _ => true
  | .seq a b, .seq x y => okB a x && okB b y
  | .join _ keep a b, .seq x y => okB a x && okB b y && apartB keep (writes x)
  | .cond a b, .cond _ x y => okB a x && okB b y
  | .block a, .block _ c => okB a c
  | .loop _ keep a, .loop c => okB a c && apartB keep (writes c)
  | _, _ => false

theorem getS_spec : ∀ (ss : List (Nat × TK)) (env : Env) (t : Tup ss), getS ss env = some t → setS ss t env = env
  | [], _, _, _ => rfl
  | [(s, k)], env, t, h => by
    unfold setS
    exact upd_same (TK.get?_spec h)
  | (s, k) :: r1 :: r, env, t, h => by
    unfold getS at h
    split at h
    · rename_i x xs hx hxs
      injection h with h
      subst h
      unfold setS
      rw [getS_spec (r1 :: r) env xs hxs]
      exact upd_same (TK.get?_spec hx)
    · simp at h
theorem setS_kept : ∀ (ss : List (Nat × TK)) (t : Tup ss) (env env' : Env), env = env' → setS ss t env = setS ss t env' := fun _ _ _ _ h => by rw [h]
theorem kept_eq {keep ws : List Nat} (hk : apartB keep ws = true) {a a' : Act} (hL : ∀ s, s ∉ ws → envOf a' s = envOf a s) : kept keep (envOf a') (envOf a) = envOf a' := by
  funext s
  unfold kept
  cases h : keep.elem s with
  | false => rfl
  | true =>
    have h1 : s ∈ keep := by simpa using h
    unfold apartB at hk
    have h2 := List.all_eq_true.1 hk s h1
    simp at h2
    exact (hL s h2).symm

theorem least_of {p : Nat → Prop} (h : ∃ n, p n) : ∃ n, p n ∧ ∀ m, p m → n ≤ m := by
  obtain ⟨n, hn⟩ := h
  induction n using Nat.strongRecOn with
  | _ n ih =>
    by_cases hs : ∃ m, m < n ∧ p m
    · obtain ⟨m, hm, hp⟩ := hs; exact ih m hm hp
    · exact ⟨n, hn, fun m hm => by
        rcases Nat.lt_or_ge m n with hlt | hge
        · exact absurd ⟨m, hlt, hm⟩ hs
        · exact hge⟩
theorem leasts_of {T : Type} (I : Nat → T → Heap → Prop) : ∃ μ : T → Heap → Nat, ∀ t h, (∃ n, I n t h) → I (μ t h) t h ∧ ∀ m, I m t h → μ t h ≤ m := by
  refine ⟨fun t h => Classical.epsilon fun n => I n t h ∧ ∀ m, I m t h → n ≤ m, fun t h hx => ?_⟩
  exact Classical.epsilon_spec (p := fun n => I n t h ∧ ∀ m, I m t h → n ≤ m) (least_of hx)

theorem awp_sound {P : Program} {T : Tys} (hT : TOk P T) (hm : P.follows .mixedOrders = true) : ∀ (ann : Ann) (c : Code) (Q : Out → Env → Heap → Prop) (a : Act) (w : World),
    okB ann c = true → (∀ s ∈ writes c, s < a.tmps.size) → awp P T ann c Q (envOf a) w.heap →
    c.wp P (fun e a' w' => ∃ o : Out, e = o.toExit ∧ Left (writes c) a a' ∧ Same w w' ∧ Q o (envOf a') w'.heap) a w := by
  intro ann
  induction ann with
  | leaf =>
    intro c Q a w hok hlt h
    cases c with
    | skip => exact wp_skip ⟨.norm, rfl, .refl _ a, .refl w, h⟩
    | ret => exact wp_ret ⟨.ret, rfl, .refl _ a, .refl w, h⟩
    | exit id => exact wp_exit ⟨.exit id, rfl, .refl _ a, .refl w, h⟩
    | region id ops draw =>
      cases draw with
      | false =>
        refine wp_region_list ?_
        exact sOps.list _ _ _ (opsW_sound hT (ws := wrs ops.toList) (a0 := a) (w0 := w) ops.toList a w (.refl _ a) (.refl w) (fun _ h => h) hlt h (fun a' w' h1 h2 h3 => ⟨.norm, rfl, h1, h2, h3⟩))
      | true =>
        refine wp_region_lexX hm hok ?_
        exact opsW_sound hT (ws := wrs ops.toList) (a0 := a) (w0 := w) ops.toList a { w with drawn := w.drawn + 1 } (.refl _ a) ⟨rfl, rfl, rfl⟩ (fun _ h => h) hlt h (fun a' w' h1 h2 h3 => ⟨.norm, rfl, h1, h2, h3⟩)
    | _ => exact h.elim
  | quiet =>
    intro c Q a w hok hlt h
    cases c with
    | region id ops draw =>
      cases draw with
      | false => simp [okB] at hok
      | true =>
        refine wp_region_quiet (C := fun w' => w'.heap = w.heap ∧ Same w w') hm hok ⟨rfl, ⟨rfl, rfl, rfl⟩⟩ ?_
        exact opsQ_sound hT (ws := wrs ops.toList) (a0 := a) ops.toList a (.refl _ a) (fun _ h => h) hlt h (fun a' h1 h2 w' ⟨h3, h4⟩ => ⟨.norm, rfl, h1, h4, by rw [h3]; exact h2⟩)
    | _ => exact h.elim
  | based =>
    intro c Q a w hok hlt h
    cases c with
    | region id ops draw =>
      cases draw with
      | false => simp [okB] at hok
      | true =>
        refine wp_region_lexB' hm hok ?_
        exact opsB_sound hT (ws := wrs ops.toList) (a0 := a) (w0 := w) ops.toList a { w with drawn := w.drawn + 1 } (.refl _ a) ⟨rfl, rfl, rfl⟩ (fun _ h => h) hlt h (fun a' w' h1 h2 h3 => ⟨.norm, rfl, h1, h2, h3⟩)
    | _ => exact h.elim
  | kept late =>
    intro c Q a w hok hlt h
    cases c with
    | region id ops draw =>
      cases draw with
      | false => simp [okB] at hok
      | true =>
        obtain ⟨R, hR, h⟩ := h
        refine wp_region_lexK hm hok hR ?_
        exact opsK_sound hT (ws := wrs ops.toList) (a0 := a) (w0 := w) ops.toList a { w with drawn := w.drawn + 1 } hR (.refl _ a) ⟨rfl, rfl, rfl⟩ (fun _ h => h) hlt h (fun a' w' h1 h2 h3 => ⟨.norm, rfl, h1, h2, h3⟩)
    | _ => exact h.elim
  | free m fs lv =>
    intro c Q a w hok hlt h
    cases c with
    | region id ops draw =>
      cases draw with
      | false => simp [okB] at hok
      | true =>
        obtain ⟨R, h0, L0, S, hR, hL, h⟩ := h
        have hsplit : ops.toList = ops.toList.take m ++ ops.toList.drop m := by simp
        have wrs_app : ∀ l l' : List Oper, wrs (l ++ l') = wrs l ++ wrs l' := by
          intro l l'
          induction l with
          | nil => rfl
          | cons o l ih =>
            simp only [List.cons_append, wrs, ih]
            cases o.dst <;> simp
        have hw : wrs ops.toList = wrs (ops.toList.take m) ++ wrs (ops.toList.drop m) := by rw [← wrs_app, ← hsplit]
        refine wp_region_lexF hm hok (S := S) hR hL ?_
        refine opsF_sound hT hR (ws := wrs ops.toList) (a0 := a) (w0 := w) (ops.toList.take m) 0 a (startD ops L0) (.refl _ a) (fun s h => by rw [hw]; simp [h]) (fun s h => hlt s (by show s ∈ wrs ops.toList; rw [hw]; simp [h])) h (fun a' D h1 h2 w' hS hR' hsep => ?_)
        exact opsW_sound hT (ws := wrs ops.toList) (a0 := a) (w0 := w) (ops.toList.drop m) a' w' h1 hS (fun s h => by rw [hw]; simp [h]) (fun s h => hlt s (by show s ∈ wrs ops.toList; rw [hw]; simp [h])) (h2 _ hR' hsep) (fun a'' w'' e1 e2 e3 => ⟨.norm, rfl, e1, e2, e3⟩)
    | _ => exact h.elim
  | seq a1 b1 iha ihb =>
    intro c Q a w hok hlt h
    cases c with
    | seq x y =>
      simp only [okB, Bool.and_eq_true] at hok
      have hx := iha x _ a w hok.1 (fun s hs => hlt s (by simp [writes, hs])) h
      refine wp_seq (wp_mono hx ?_)
      rintro e a' w' ⟨o, rfl, hL, hS, hq⟩
      have hL' : Left (writes (x.seq y)) a a' := hL.mono fun s hs => by simp [writes, hs]
      cases o with
      | norm =>
        refine wp_mono (ihb y Q a' w' hok.2 (fun s hs => by rw [hL.size]; exact hlt s (by simp [writes, hs])) hq) ?_
        rintro e a'' w'' ⟨o, rfl, hL2, hS2, hq2⟩
        exact ⟨o, rfl, hL'.trans (hL2.mono fun s hs => by simp [writes, hs]), hS.trans hS2, hq2⟩
      | exit id => exact ⟨.exit id, rfl, hL', hS, hq⟩
      | ret => exact ⟨.ret, rfl, hL', hS, hq⟩
    | _ => exact h.elim
  | join ss keep a1 b1 iha ihb =>
    intro c Q a w hok hlt h
    cases c with
    | seq x y =>
      simp only [okB, Bool.and_eq_true] at hok
      have h' := h (fun t h => ∀ junk, awp P T b1 y Q (setS ss t (kept keep junk (envOf a))) h) (fun t h hk => hk)
      have hx := iha x _ a w hok.1.1 (fun s hs => hlt s (by simp [writes, hs])) h'
      refine wp_seq (wp_mono hx ?_)
      rintro e a' w' ⟨o, rfl, hL, hS, hq⟩
      have hL' : Left (writes (x.seq y)) a a' := hL.mono fun s hs => by simp [writes, hs]
      cases o with
      | norm =>
        simp only [rdS] at hq
        split at hq
        · rename_i t ht
          have hq' := hq (envOf a')
          rw [kept_eq hok.2 hL.slots, getS_spec ss _ t ht] at hq'
          refine wp_mono (ihb y Q a' w' hok.1.2 (fun s hs => by rw [hL.size]; exact hlt s (by simp [writes, hs])) hq') ?_
          rintro e a'' w'' ⟨o, rfl, hL2, hS2, hq2⟩
          exact ⟨o, rfl, hL'.trans (hL2.mono fun s hs => by simp [writes, hs]), hS.trans hS2, hq2⟩
        · exact hq.elim
      | exit id => exact ⟨.exit id, rfl, hL', hS, hq⟩
      | ret => exact ⟨.ret, rfl, hL', hS, hq⟩
    | _ => exact h.elim
  | cond a1 b1 iha ihb =>
    intro c Q a w hok hlt h
    cases c with
    | cond cc x y =>
      simp only [okB, Bool.and_eq_true] at hok
      unfold awp at h
      split at h
      · rename_i t ht
        refine wp_cond_split (t := t) (by rw [eval_envOf]; exact ht) (fun e => ?_) (fun e => ?_)
        · subst e
          refine wp_mono (iha x Q a w hok.1 (fun s hs => hlt s (by simp [writes, hs])) h) ?_
          rintro e a'' w'' ⟨o, rfl, hL2, hS2, hq2⟩
          exact ⟨o, rfl, hL2.mono fun s hs => by simp [writes, hs], hS2, hq2⟩
        · subst e
          refine wp_mono (ihb y Q a w hok.2 (fun s hs => hlt s (by simp [writes, hs])) h) ?_
          rintro e a'' w'' ⟨o, rfl, hL2, hS2, hq2⟩
          exact ⟨o, rfl, hL2.mono fun s hs => by simp [writes, hs], hS2, hq2⟩
      · exact h.elim
    | _ => exact h.elim
  | block a1 iha =>
    intro c Q a w hok hlt h
    cases c with
    | block id x =>
      have hx := iha x _ a w hok hlt h
      refine wp_block (wp_mono hx ?_)
      rintro e a' w' ⟨o, rfl, hL, hS, hq⟩
      cases o with
      | norm => exact ⟨.norm, rfl, hL, hS, hq⟩
      | exit id' =>
        simp only [Out.toExit, Exit.inBlock]
        simp only at hq
        split
        · rename_i he
          rw [he] at hq
          simp at hq
          exact ⟨.norm, rfl, hL, hS, hq⟩
        · rename_i he
          have : id'.beq id = false := by
            cases hb : id'.beq id with
            | true => exact absurd (Nat.eq_of_beq_eq_true hb) he
            | false => rfl
          rw [this] at hq
          exact ⟨.exit id', rfl, hL, hS, hq⟩
      | ret => exact ⟨.ret, rfl, hL, hS, hq⟩
    | _ => exact h.elim
  | loop ss keep a1 iha =>
    intro c Q a w hok hlt h
    cases c with
    | loop x =>
      simp only [okB, Bool.and_eq_true] at hok
      unfold awp at h
      simp only [rdS] at h
      split at h
      · rename_i t0 ht0
        obtain ⟨I, hI0, hr⟩ := h
        obtain ⟨μ, hμ⟩ := leasts_of I
        refine wp_loop (fun a' w' => Left (writes x) a a' ∧ Same w w' ∧ ∃ t, getS ss (envOf a') = some t ∧ ∃ n, I n t w'.heap)
          (fun a' w' => match getS ss (envOf a') with | some t => μ t w'.heap | none => 0) ⟨.refl _ a, .refl w, t0, ht0, hI0⟩ ?_
        rintro a' w' ⟨hL, hS, t, ht, hI⟩
        have hb := hr (μ t w'.heap) (envOf a') t w'.heap (hμ t _ hI).1
        simp only [] at hb
        rw [kept_eq hok.2 hL.slots, getS_spec ss _ t ht] at hb
        refine wp_mono (iha x _ a' w' hok.1 (fun s hs => by rw [hL.size]; exact hlt s hs) hb) ?_
        rintro e a'' w'' ⟨o, rfl, hL2, hS2, hq⟩
        cases o with
        | norm =>
          simp only at hq
          split at hq
          · rename_i t' ht'
            simp only [Out.toExit, Exit.then]
            obtain ⟨m, hm, hIm⟩ := hq
            refine ⟨⟨hL.trans hL2, hS.trans hS2, t', ht', m, hIm⟩, ?_⟩
            rw [ht', ht]
            exact Nat.lt_of_le_of_lt ((hμ t' w''.heap ⟨m, hIm⟩).2 m hIm) hm
          · exact hq.elim
        | exit id => exact ⟨.exit id, rfl, hL.trans hL2, hS.trans hS2, hq⟩
        | ret => exact ⟨.ret, rfl, hL.trans hL2, hS.trans hS2, hq⟩
      · exact h.elim
    | _ => exact h.elim

/-! ### Functions -/

def resOf (T : Tys) (rs : List ResultVar) (env : Env) (h : Heap) (K : Value → Prop) : Prop :=
  match rs with
  | [] => K (.tuple #[])
  | [.tmp t] => K (env t)
  | [.cell a t] => match env a, look t T.tk with
    | .pointer (some p), some k => ld k h p fun x => K (k.val x)
    | _, _ => False
  | [.tmp t, .tmp u] => K (.tuple #[env t, env u])
  | [.cell a t, .tmp u] => match env a, look t T.tk with
    | .pointer (some p), some k => ld k h p fun x => K (.tuple #[k.val x, env u])
    | _, _ => False
  | [.tmp t, .tmp u, .tmp v] => K (.tuple #[env t, env u, env v])
  | _ => False

def argEnv (args : List Value) : Env := fun s => args.getD s undef

/-- A function's text, said of its arguments. -/
def fnW (P : Program) (T : Tys) (ann : Ann) (c : Code) (rs : List ResultVar) (args : List Value) (h : Heap) (K : Value → Heap → Prop) : Prop :=
  awp P T ann c (fun o env h => match o with | .norm => resOf T rs env h fun v => K v h | .ret => resOf T rs env h fun v => K v h | .exit _ => False) (argEnv args) h

theorem resOf_spec {P : Program} {T : Tys} (hT : TOk P T) {fn : Func} {a : Act} {w : World} {K : Value → Prop} (h : resOf T fn.results.toList (envOf a) w.heap K) : ∃ v, (results fn a.tmps).run P w = .ok v w ∧ K v := by
  obtain ⟨rs, hrs⟩ : ∃ rs, fn.results = rs := ⟨_, rfl⟩
  unfold results
  rw [hrs] at h ⊢
  obtain ⟨l⟩ := rs
  simp only at h
  unfold resOf at h
  split at h
  · exact ⟨_, by simp, h⟩
  · exact ⟨_, by simp [envOf], h⟩
  · rename_i sa t
    split at h
    · rename_i p k hp hk
      obtain ⟨x, hx, hK⟩ := h
      have hl := run_loadAt (P := P) (w := w) (hT.tk _ (look_mem hk)) hx
      simp only [Instr.loadAt, Instr.sureAddr, Sem.run_bind, Sem.run_pure, Result.andThen_ok] at hl
      refine ⟨_, ?_, hK⟩
      unfold envOf at hp
      simp only [List.mapM_toArray, List.mapM_cons, List.mapM_nil, hp, asAddr, Sem.run_bind, Sem.run_pure, Sem.run_map, Result.andThen_ok, hl]
      rfl
    · exact h.elim
  · exact ⟨_, by simp [envOf], h⟩
  · rename_i sa t u
    split at h
    · rename_i p k hp hk
      obtain ⟨x, hx, hK⟩ := h
      have hl := run_loadAt (P := P) (w := w) (hT.tk _ (look_mem hk)) hx
      simp only [Instr.loadAt, Instr.sureAddr, Sem.run_bind, Sem.run_pure, Result.andThen_ok] at hl
      refine ⟨_, ?_, hK⟩
      unfold envOf at hp
      simp only [List.mapM_toArray, List.mapM_cons, List.mapM_nil, hp, asAddr, Sem.run_bind, Sem.run_pure, Sem.run_map, Result.andThen_ok, hl]
      rfl
    · exact h.elim
  · exact ⟨_, by simp [envOf], h⟩
  · exact h.elim

def bodyOf (f : Func) : Code := match f.body with | some c => c | none => .skip

theorem calls_sound {P : Program} {T : Tys} (hT : TOk P T) (hm : P.follows .mixedOrders = true) {f : FuncId} {fn : Func} {c : Code} (ann : Ann) {args : List Value} {h : Heap} {K : Value → Heap → Prop}
    (hf : P.funcs[f]? = some fn) (hb : fn.body = some c) (hok : okB ann c = true) (hlt : (writes c).all (· < fn.ntmps) = true) (ha : args.length ≤ fn.ntmps)
    (hw : fnW P T ann c fn.results.toList args h K) : ACalls P f args h K := by
  intro w hh
  refine calls_of_wp hf hb ?_
  have hsz : (args.toArray ++ Array.replicate (fn.ntmps - args.toArray.size) undef).size = fn.ntmps := by simp; omega
  have henv : envOf ⟨args.toArray ++ Array.replicate (fn.ntmps - args.toArray.size) undef, []⟩ = argEnv args := by
    funext s
    simp only [envOf, argEnv]
    rw [Array.getD_eq_getD_getElem?, List.getD_eq_getElem?_getD, Array.getElem?_append]
    by_cases hs : s < args.length
    · simp [hs]
    · rw [if_neg (by simpa using hs)]
      rw [List.getElem?_eq_none (by omega)]
      rw [Array.getElem?_replicate]
      split <;> rfl
  have hlt' : ∀ s ∈ writes c, s < (Act.mk (args.toArray ++ Array.replicate (fn.ntmps - args.toArray.size) undef) []).tmps.size := fun s hs => by
    show s < (args.toArray ++ Array.replicate (fn.ntmps - args.toArray.size) undef).size
    rw [hsz]
    simpa using List.all_eq_true.1 hlt s hs
  unfold fnW at hw
  rw [← henv, ← hh] at hw
  refine wp_mono (awp_sound hT hm ann c _ _ w hok hlt' hw) ?_
  rintro e a' w' ⟨o, rfl, hL, hS, hq⟩
  have hd : a'.defers = [] := hL.defers
  cases o with
  | norm =>
    obtain ⟨v, hr, hK⟩ := resOf_spec (P := P) hT (w := w') hq
    exact ⟨hd, v, hr, v, rfl, hS, hK⟩
  | ret =>
    obtain ⟨v, hr, hK⟩ := resOf_spec (P := P) hT (w := w') hq
    exact ⟨hd, v, hr, v, rfl, hS, hK⟩
  | exit id => exact hq.elim

end Go.Fw
