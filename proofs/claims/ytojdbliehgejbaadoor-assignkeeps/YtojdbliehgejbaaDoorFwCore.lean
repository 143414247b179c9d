/-
  A layer over the walk's rules: regions and calls said of the heap alone (the tape, the count of draws, the streams left out), every value by its kind.
-/
import Derived.Test.YtojdbliehgejbaaDoorFwSep
import Derived.Test.YtojdbliehgejbaaDoorSeat
import Derived.WalkKit
import Derived.Deep.Quiet
import Derived.Laws.AppendOwnNone
import Derived.Laws.OwnMore
import Derived.MapKept
import Derived.Laws.IdiomRangeMap
namespace Go.Fw

abbrev Env := Nat → Value

/-- Two worlds that differ in memory and in the count of draws alone. -/
structure Same (w w' : World) : Prop where
  os : w'.os = w.os
  tape : w'.tape = w.tape
  output : w'.output = w.output

theorem Same.refl (w : World) : Same w w := ⟨rfl, rfl, rfl⟩
theorem Same.trans {a b c : World} (h : Same a b) (k : Same b c) : Same a c :=
  ⟨k.os.trans h.os, k.tape.trans h.tape, k.output.trans h.output⟩

def hcell (h : Heap) (a : Addr) : Option Value :=
  match h[a.block]? with
  | some (.cells c _ _) => if a.spot.isSome then none else c[a.off]?
  | _ => none
def hfrozen (h : Heap) (a : Addr) : Bool :=
  match h[a.block]? with
  | some (.cells _ _ (lo, hi)) => lo ≤ a.off && a.off < hi
  | _ => false
def hset (h : Heap) (a : Addr) (v : Value) : Heap :=
  h.modify a.block fun
      | .cells c elem frozen => .cells (if a.spot.isSome then c else c.setIfInBounds a.off v) elem frozen
      | o => o
theorem cell_eq (w : World) (a : Addr) : w.cell? a = hcell w.heap a := rfl
theorem frozen_eq (w : World) (a : Addr) : w.frozen? a = hfrozen w.heap a := rfl
theorem set_eq (w : World) (a : Addr) (v : Value) : (w.setCell a v).heap = hset w.heap a v := rfl

/-- The cells of a row of values, laid one behind another from a place on. -/
def hsets (h : Heap) (p : Addr) : List Value → Nat → Heap
  | [], _ => h
  | v :: vs, i => hsets (hset h (p.add i) v) p vs (i + 1)

/-- The kinds of values. -/
inductive TK where
  | int (k : IntKind)
  | bool
  | str
  | sl
  | ptr
  | map
  | agg (n : Nat)
  | fn
  deriving DecidableEq

structure Sl where
  a : Option Addr
  len : Nat
  cap : Nat

@[reducible] def TK.T : TK → Type
  | .int _ => Int
  | .bool => Bool
  | .str => ByteArray
  | .sl => Sl
  | .ptr => Option Addr
  | .map => Option Nat
  | .agg _ => Array Value
  | .fn => Value

def TK.val : (k : TK) → k.T → Value
  | .int k, n => .int k n
  | .bool, b => .bool b
  | .str, s => .string s
  | .sl, s => .slice s.a s.len s.cap
  | .ptr, a => .pointer a
  | .map, r => .map r
  | .agg _, cs => .agg cs
  | .fn, v => v

@[reducible] def Sl.v (s : Sl) : Value := .slice s.a s.len s.cap

def TK.get? : (k : TK) → Value → Option k.T
  | .int k, .int k' n => if k' = k then some n else none
  | .bool, .bool b => some b
  | .str, .string s => some s
  | .sl, .slice a n c => some ⟨a, n, c⟩
  | .ptr, .pointer a => some a
  | .map, .map r => some r
  | .agg _, .agg cs => some cs
  | .fn, v => some v
  | _, _ => none

theorem TK.get?_spec {k : TK} {v : Value} {x : k.T} (h : k.get? v = some x) : v = k.val x := by
  cases k <;> cases v <;> simp_all [TK.get?, TK.val]
  all_goals first
    | (obtain ⟨h1, h2⟩ := h; exact ⟨h1, h2⟩)
    | (subst h; simp)
    | (subst h; rfl)
    | skip

/-- What a variable of a kind holds at a place. -/
def holds (h : Heap) (p : Addr) : (k : TK) → k.T → Prop
  | .agg n, cs => cs.size = n ∧ ∀ j v, cs[j]? = some v → hcell h (p.add j) = some v
  | .int k, x => hcell h p = some (.int k x)
  | .bool, x => hcell h p = some (.bool x)
  | .str, x => hcell h p = some (.string x)
  | .sl, x => hcell h p = some (.slice x.a x.len x.cap)
  | .ptr, x => hcell h p = some (.pointer x)
  | .map, x => hcell h p = some (.map x)
  | .fn, x => hcell h p = some x

/-! ### The words of a program -/

def ifB (b : Bool) (t e : Prop) : Prop := match b with | true => t | false => e
def ld (k : TK) (h : Heap) (p : Addr) (K : k.T → Prop) : Prop := ∃ x : k.T, holds h p k x ∧ K x
def st (vs : List Value) (h : Heap) (p : Addr) (K : Heap → Prop) : Prop :=
  (∀ j, j < vs.length → (hcell h (p.add j)).isSome = true ∧ hfrozen h (p.add j) = false) ∧ (∀ v ∈ vs, v.oneCell' = true) ∧ K (hsets h p vs 0)
def new (t : TypeId) (cs : Array Value) (h : Heap) (K : Addr → Heap → Prop) : Prop := K ⟨h.size, 0, none⟩ (h.push (.cells cs t))
def idx (size : Nat) (s : Sl) (i : Int) (K : Addr → Prop) : Prop := ∃ a, s.a = some a ∧ 0 ≤ i ∧ i < s.len ∧ K (a.add (i.toNat * size))
def nilck (a : Option Addr) (K : Addr → Prop) : Prop := match a with | some p => K p | none => False
def InK (k : IntKind) (n : Int) : Prop := k.wrap n = n
/-- A number that an operation yields: cut to its kind. -/
def ar (k : IntKind) (n : Int) (K : Int → Prop) : Prop := K (k.wrap n)

/-- What is known of a slice's type: its element's type, how many cells and bytes one takes, its zero's cells. -/
structure SlI where
  e : TypeId
  size : Nat
  bytes : Nat
  zero : Value

def mk (e : SlI) (n : Int) (h : Heap) (K : Sl → Heap → Prop) : Prop :=
  0 ≤ n ∧ (e.bytes : Int) * n ≤ 281474976710656 ∧ n ≤ 9223372036854775807 ∧
  K ⟨some ⟨h.size, 0, none⟩, n.toNat, n.toNat⟩ (h.push (.cells (madeCells e.zero.cells (n.toNat * e.size)) e.e))
def bld (e : SlI) (len : Nat) (parts : List (Nat × Value)) (h : Heap) (K : Sl → Heap → Prop) : Prop :=
  ∃ cs, Instr.fill (fun i => some (i * e.size, e.size)) (madeCells e.zero.cells (len * e.size)) parts = some cs ∧ len * e.size ≤ 16777216 ∧
  K ⟨some ⟨h.size, 0, none⟩, len, len⟩ (h.push (.cells cs e.e))

def wOf (h : Heap) : World := { (default : World) with heap := h }
/-- A slice that owns its row: its cells. -/
def hOwn (h : Heap) (e : TypeId) (size : Nat) (s : Sl) (xs : List Value) : Prop := (wOf h).ownsRow 0 e size (.slice s.a s.len s.cap) s.len xs
/-- What a slice's own cells read as. -/
def hRead (h : Heap) (size : Nat) (s : Sl) (xs : List Value) : Prop :=
  xs.length = s.len * size ∧ (xs = [] ∨ ∃ a, s.a = some a ∧ ∀ j u, xs[j]? = some u → hcell h (a.add j) = some u)
/-- Memory grows, and a row alone may turn. -/
structure hGrown (h h' : Heap) (row : Option Nat) : Prop where
  size : h.size ≤ h'.size
  block : ∀ k, k < h.size → some k ≠ row → h'[k]? = h[k]?
def Sl.blk (s : Sl) : Option Nat := s.a.map (·.block)

def app (e : SlI) (s t : Sl) (h : Heap) (K : Sl → Heap → Prop) : Prop :=
  ∃ xs news, hOwn h e.e e.size s xs ∧ hRead h e.size t news ∧ (∀ u ∈ news, u.oneCell' = true) ∧ (t.a = none → t.len = 0 ∧ t.cap = 0) ∧
    s.len + t.len ≤ maxLen ∧ (s.len + t.len) * e.bytes ≤ 140737488355328 ∧
    ∀ s' h', hOwn h' e.e e.size s' (xs ++ news) → s'.len = s.len + t.len → hGrown h h' s.blk → (s'.blk = s.blk ∨ s'.blk = some h.size) → (s'.a = none → s.a = none ∧ t.len = 0) → (s.cap < s.len + t.len → s'.blk = some h.size) → K s' h'

/-- 'append(s, make(S, n)...)', where there is no room. -/
def apz (e : SlI) (s : Sl) (n : Int) (h : Heap) (K : Sl → Heap → Prop) : Prop :=
  ∃ a xs, s.a = some a ∧ xs.length = s.len * e.size ∧ (∀ j u, xs[j]? = some u → hcell h (a.add j) = some u) ∧ 0 < n ∧ (s.cap : Int) < s.len + n ∧ (s.len + n.toNat) * e.bytes ≤ 140737488355328 ∧ s.len + n.toNat ≤ maxLen ∧
  ∀ cap (cur : Array Value), s.len + n.toNat ≤ cap → cap ≤ maxLen → cur.size = cap * e.size → cur.toList.take (s.len * e.size) = xs → K ⟨some ⟨h.size, 0, none⟩, s.len + n.toNat, cap⟩ (h.push (.cells cur e.e))

/-- 's[lo:hi]' -/
def slc (size : Nat) (s : Sl) (lo hi : Option Int) (K : Sl → Prop) : Prop :=
  0 ≤ lo.getD 0 ∧ lo.getD 0 ≤ hi.getD s.len ∧ hi.getD s.len ≤ s.cap ∧
  K ⟨if s.cap = (lo.getD 0).toNat then s.a else s.a.map (·.add ((lo.getD 0).toNat * size)), (hi.getD s.len).toNat - (lo.getD 0).toNat, s.cap - (lo.getD 0).toNat⟩

/-- 's[lo:hi]' of a string; a string's byte; an array's element; a row of bytes as a string; bytes of a string behind a row. -/
def slcS (s : ByteArray) (lo hi : Option Int) (K : ByteArray → Prop) : Prop :=
  0 ≤ lo.getD 0 ∧ lo.getD 0 ≤ hi.getD s.size ∧ hi.getD s.size ≤ s.size ∧ K (s.extract (lo.getD 0).toNat (hi.getD s.size).toNat)
def idxS (s : ByteArray) (i : Int) (K : Int → Prop) : Prop := 0 ≤ i ∧ ∃ b : UInt8, s.data.toList[i.toNat]? = some b ∧ K (b.toNat : Int)
def idxP (n size : Nat) (p : Addr) (i : Int) (K : Addr → Prop) : Prop := 0 ≤ i ∧ i < n ∧ K (p.add (i.toNat * size))
def byV (b : UInt8) : Value := .int .u8 (b.toNat : Int)
def bytesV (t : ByteArray) : List Value := t.data.toList.map byV
def toS (h : Heap) (s : Sl) (K : ByteArray → Prop) : Prop :=
  ∃ t : ByteArray, t.size = s.len ∧ (t.size = 0 ∨ ∃ a, s.a = some a ∧ ∀ j u, (bytesV t)[j]? = some u → hcell h (a.add j) = some u) ∧ K t
def apS (e : SlI) (s : Sl) (t : ByteArray) (h : Heap) (K : Sl → Heap → Prop) : Prop :=
  ∃ xs, hOwn h e.e e.size s xs ∧ e.size = 1 ∧ s.len + t.size ≤ maxLen ∧ (s.len + t.size) * e.bytes ≤ 140737488355328 ∧
    ∀ s' h', hOwn h' e.e e.size s' (xs ++ bytesV t) → s'.len = s.len + t.size → hGrown h h' s.blk → (s'.blk = s.blk ∨ s'.blk = some h.size) → (s'.a = none → s.a = none ∧ t.size = 0) → (s.cap < s.len + t.size → s'.blk = some h.size) → K s' h'

/-- Structs of flat fields: what kinds their cells are of; are they alike? -/
def cellsAre : List TK → List Value → Prop
  | [], [] => True
  | k :: ks, v :: vs => (∃ x : k.T, v = k.val x) ∧ cellsAre ks vs
  | _, _ => False
def cellEq : Value → Value → Bool
  | .int _ a, .int _ b => a == b
  | .bool a, .bool b => a == b
  | .string a, .string b => a.toList == b.toList
  | _, _ => false
def cellsEq : List Value → List Value → Bool
  | a :: as, b :: bs => cellEq a b && cellsEq as bs
  | _, _ => true
def eqA (ks : List TK) (a b : Array Value) (K : Bool → Prop) : Prop := cellsAre ks a.toList ∧ cellsAre ks b.toList ∧ K (cellsEq a.toList b.toList)
/-- A field of one cell of a struct's value. -/
def fldA (k : TK) (cs : Array Value) (off : Nat) (K : k.T → Prop) : Prop := ∃ x : k.T, cs.toList[off]? = some (k.val x) ∧ K x
/-- 'copy(d, s)': all is read ahead of what is written. -/
def cpyH (n : Nat) (d : Sl) (h : Heap) (xs : List Value) : Heap := match n, d.a with
  | 0, _ => h
  | _, some b => hsets h b xs 0
  | _, none => h
def cpy (size : Nat) (d s : Sl) (h : Heap) (K : Nat → Heap → Prop) : Prop :=
  ∃ xs, xs.length = min s.len d.len * size ∧ (∀ v ∈ xs, v.oneCell' = true) ∧
    (min s.len d.len ≠ 0 → ∃ a b, s.a = some a ∧ d.a = some b ∧ (∀ j u, xs[j]? = some u → hcell h (a.add j) = some u) ∧ ∀ j, j < xs.length → (hcell h (b.add j)).isSome = true ∧ hfrozen h (b.add j) = false) ∧
    K (min s.len d.len) (cpyH (min s.len d.len) d h xs)

/-- A struct's value, of its fields' places and sizes, its zero's cells and its parts. -/
def bst (places : List (Nat × Nat)) (zero : Array Value) (parts : List (Nat × Value)) (K : Array Value → Prop) : Prop :=
  ∃ cs, Instr.fill (fun i => places.toArray[i]?) zero parts = some cs ∧ K cs

/-- A call of a function of the program, said of the heap. -/
def ACalls (P : Program) (f : FuncId) (args : List Value) (h : Heap) (R : Value → Heap → Prop) : Prop :=
  ∀ w : World, w.heap = h → Calls P f args.toArray w (fun e w' => ∃ v, e = .returned v ∧ Same w w' ∧ R v w'.heap)
theorem ACalls.mono {P : Program} {f : FuncId} {args : List Value} {h : Heap} {R R' : Value → Heap → Prop} (H : ACalls P f args h R)
    (hr : ∀ v h', R v h' → R' v h') : ACalls P f args h R' :=
  fun w hw => (H w hw).mono fun _ _ ⟨v, he, hs, hR⟩ => ⟨v, he, hs, hr _ _ hR⟩
/-! Maps: their block, what a key leads to. -/
def mkm (h : Heap) (K : Option Nat → Heap → Prop) : Prop := K (some h.size) (h.push (.map #[] 0))
def mlk (d : TypeDesc) (m : Option Nat) (key : Value) (h : Heap) (K : Option Value → Prop) : Prop := MapKept.IsKey d key ∧
  match m with
  | none => K none
  | some b => ∃ es clock r, h[b]? = some (.map es clock) ∧ Instr.findNow d key es.toList 0 = some r ∧ K (r.map (·.2))
def mupH (h : Heap) (b : Nat) (es : Array MapEntry) (clock : Nat) (key val : Value) : Option (Nat × Value) → Heap
  | some (i, _) => h.setIfInBounds b (.map (es.modify i fun e => { e with key := key, val := val }) clock)
  | none => h.setIfInBounds b (.map (es.push { key := key, val := val, born := clock }) (clock + 1))
def mup (d : TypeDesc) (m : Option Nat) (key val : Value) (h : Heap) (K : Heap → Prop) : Prop :=
  ∃ b es clock, m = some b ∧ h[b]? = some (.map es clock) ∧ MapKept.IsKey d key ∧ (∀ x ∈ es.toList, MapKept.IsKey d x.key) ∧
    ∀ r, Instr.findNow d key es.toList 0 = some r → K (mupH h b es clock key val r)
def mdl (d : TypeDesc) (m : Option Nat) (key : Value) (h : Heap) (K : Heap → Prop) : Prop := MapKept.IsKey d key ∧
  match m with
  | none => K h
  | some b => ∃ es clock r, h[b]? = some (.map es clock) ∧ Instr.findNow d key es.toList 0 = some r ∧ K (match r with
      | some (i, _) => h.setIfInBounds b (.map (es.eraseIdxIfInBounds i) clock)
      | none => h.setIfInBounds b (.map es clock))

def FnOk (P : Program) (f : FuncId) : Prop := ((P.funcs[f]?).map fun fn => (fn.name == "runtime.NumGoroutine", fn.body.isNone)) = some (false, false)
/-- A call of a function's value. -/
def callV (P : Program) (fv : Value) (args : List Value) (h : Heap) (R : Value → Heap → Prop) : Prop :=
  ∃ f caps, fv = .func (.func f) #[] caps ∧ FnOk P f ∧ ACalls P f (args ++ caps.toList) h R
/-- A call of a function without code. -/
def callX (P : Program) (f : FuncId) (args : List Value) (h : Heap) (K : Value → Prop) : Prop :=
  ∃ v, (∀ w : World, w.heap = h → (callFunc f args.toArray).run P w = .ok (.value v) w) ∧ K v
/-- A map's length. -/
def mln (m : Option Nat) (h : Heap) (K : Int → Prop) : Prop := match m with
  | none => K 0
  | some b => ∃ es clock, h[b]? = some (.map es clock) ∧ K es.size
/-- 'for k, x := range m': the iterator, laid; a step; what the step handed out. -/
def rng (m : Option Nat) (h : Heap) (K : Nat → Heap → Prop) : Prop := match m with
  | none => False
  | some b => ∃ es clock, h[b]? = some (.map es clock) ∧ K h.size (h.push (.mapIter (some b) clock #[] clock))
def nxt (r : Nat) (h : Heap) (Kf : Prop) (Kt : Value → Value → Heap → Prop) : Prop :=
  ∃ b since seen c0 es clock, h[r]? = some (.mapIter (some b) since seen c0) ∧ h[b]? = some (.map es clock) ∧ (∀ x ∈ es.toList, x.born < since) ∧ since ≤ c0 ∧
    ((leftOf es seen).size = 0 → Kf) ∧ ∀ e ∈ (leftOf es seen).toList, Kt e.key e.val (h.setIfInBounds r (.mapIter (some b) since (seen.push e.born) clock))
def ent (r : Nat) (h : Heap) (K : Value → Value → Prop) : Prop :=
  ∃ (b since : Nat) (seen : Array Nat) (es : Array MapEntry) (clock : Nat) (e : MapEntry), h[r]? = some (.mapIter (some b) since (seen.push e.born) clock) ∧ h[b]? = some (.map es clock) ∧ e ∈ es.toList ∧ (es.toList.map (·.born)).Nodup ∧ K e.key e.val
/-- A call in a statement whose order is open: it leaves memory alone. -/
def callQ (P : Program) (f : FuncId) (args : List Value) (h : Heap) (K : Value → Prop) : Prop :=
  ∃ v, ACalls P f args h (fun v' h' => v' = v ∧ h' = h) ∧ K v
def as0 (v : Value) (K : Prop) : Prop := v = .tuple #[] ∧ K
def as1 (k : TK) (v : Value) (K : k.T → Prop) : Prop := ∃ x : k.T, v = k.val x ∧ K x
def as2 (k1 k2 : TK) (v : Value) (K : k1.T → k2.T → Prop) : Prop := ∃ x y, v = .tuple #[k1.val x, k2.val y] ∧ K x y
def as3 (k1 k2 k3 : TK) (v : Value) (K : k1.T → k2.T → k3.T → Prop) : Prop := ∃ x y z, v = .tuple #[k1.val x, k2.val y, k3.val z] ∧ K x y z

def joinW {T : Type} (K : Env → T → Heap → Prop) (body : (T → Heap → Prop) → Prop) : Prop :=
  ∀ k : T → Heap → Prop, (∀ t h, (∀ junk, K junk t h) → k t h) → body k
def loopW {T : Type} (body : Env → T → Heap → (T → Heap → Prop) → Prop) (t : T) (h : Heap) : Prop :=
  ∃ I : Nat → T → Heap → Prop, (∃ n, I n t h) ∧ ∀ n junk t h, I n t h → body junk t h (fun t' h' => ∃ m, m < n ∧ I m t' h')

/-! ### What the types are -/

structure Tys where
  tk : List (TypeId × TK)
  sl : List (TypeId × SlI)
  zs : List (TypeId × Value)
  off : List ((TypeId × Nat) × Nat)
  res : List (TypeId × List TK)
  fns : List FuncId
  bs : List (TypeId × (List (Nat × Nat) × Value))
  mp : List (TypeId × (TypeDesc × Value × TK)) := []
  eqs : List (TypeId × List TK) := []
  exts : List FuncId := []
  fld : List ((TypeId × Nat) × (Nat × TK)) := []
  ars : List (TypeId × (Nat × Nat)) := []

def look {α : Type} (t : Nat) : List (Nat × α) → Option α
  | [] => none
  | (u, a) :: r => match t.beq u with | true => some a | false => look t r
def look2 {α : Type} (t i : Nat) : List ((Nat × Nat) × α) → Option α
  | [] => none
  | ((u, j), a) :: r => match (t.beq u && i.beq j) with | true => some a | false => look2 t i r

/-! ### The operations -/

def ev (env : Env) : Operand → Value
  | .tmp t => env t
  | .const v => v
  | .global g => .pointer (some ⟨g, 0, none⟩)
  | .func f => .func (.func f) #[] #[]

def upd (env : Env) (d : Option Nat) (v : Value) : Env :=
  match d with
  | some t => fun s => match s.beq t with | true => v | false => env s
  | none => env

def kEq (k k' : IntKind) (p : Prop) : Prop :=
  match k, k' with
  | .i64, .i64 => p
  | .u8, .u8 => p
  | .u64, .u64 => p
  | .i32, .i32 => p
  | _, _ => False

def bop (tk : TK) (op : BinOp) (x y : Value) (K : Value → Prop) : Prop :=
  match op, x, y with
  | .add, .int k a, .int k' b => kEq k k' (ar k (a + b) fun n => K (.int k n))
  | .sub, .int k a, .int k' b => kEq k k' (ar k (a - b) fun n => K (.int k n))
  | .mul, .int k a, .int k' b => kEq k k' (ar k (a * b) fun n => K (.int k n))
  | .rem, .int k a, .int k' b => kEq k k' (b ≠ 0 ∧ K (.int k (a.tmod b)))
  | .eql, .int k a, .int k' b => kEq k k' (K (.bool (a == b)))
  | .neq, .int k a, .int k' b => kEq k k' (K (.bool (a != b)))
  | .lss, .int k a, .int k' b => kEq k k' (K (.bool (decide (a < b))))
  | .leq, .int k a, .int k' b => kEq k k' (K (.bool (decide (a ≤ b))))
  | .gtr, .int k a, .int k' b => kEq k k' (K (.bool (decide (a > b))))
  | .geq, .int k a, .int k' b => kEq k k' (K (.bool (decide (a ≥ b))))
  | .eql, .bool a, .bool b => (match tk with | .bool => K (.bool (a == b)) | _ => False)
  | .neq, .bool a, .bool b => (match tk with | .bool => K (.bool (!(a == b))) | _ => False)
  | .eql, .string a, .string b => K (.bool (a.toList == b.toList))
  | .neq, .string a, .string b => K (.bool (!(a.toList == b.toList)))
  | .lss, .string a, .string b => K (.bool (Op.bytesLess a.toList b.toList))
  | .add, .string a, .string b => ((a.size + b.size : Nat) : Int) ≤ IntKind.i64.max ∧ K (.string (a ++ b))
  | .eql, .slice a _ _, .slice none _ _ => (match tk with | .sl => K (.bool a.isNone) | _ => False)
  | .neq, .slice a _ _, .slice none _ _ => (match tk with | .sl => K (.bool (!a.isNone)) | _ => False)
  | .eql, .map a, .map none => (match tk with | .map => K (.bool a.isNone) | _ => False)
  | .neq, .map a, .map none => (match tk with | .map => K (.bool (!a.isNone)) | _ => False)
  | .eql, .pointer a, .pointer none => (match tk with | .ptr => K (.bool a.isNone) | _ => False)
  | .neq, .pointer a, .pointer none => (match tk with | .ptr => K (.bool (!a.isNone)) | _ => False)
  | .quo, .int k a, .int k' b => kEq k k' (b ≠ 0 ∧ K (.int k (k.wrap (a.tdiv b))))
  | .shl, .int k a, .int _ b => 0 ≤ b ∧ K (.int k (k.wrap (a * 2 ^ min b.toNat k.bits)))
  | .shr, .int k a, .int _ b => 0 ≤ b ∧ K (.int k (a.fdiv (2 ^ min b.toNat k.bits)))
  | .and, .int k a, .int k' b => kEq k k' (K (.int k (k.wrap (((a % 2 ^ k.bits).toNat &&& (b % 2 ^ k.bits).toNat : Nat) : Int))))
  | .or, .int k a, .int k' b => kEq k k' (K (.int k (k.wrap (((a % 2 ^ k.bits).toNat ||| (b % 2 ^ k.bits).toNat : Nat) : Int))))
  | .xor, .int k a, .int k' b => kEq k k' (K (.int k (k.wrap (((a % 2 ^ k.bits).toNat ^^^ (b % 2 ^ k.bits).toNat : Nat) : Int))))
  | .gtr, .string a, .string b => K (.bool (!(Op.bytesLess a.toList b.toList || a.toList == b.toList)))
  | _, _, _ => False

def slotOf (ops : Array Oper) (j : Nat) : Option Nat := (ops[j]?).bind (·.dst)

/-- The operations that leave memory alone. -/
def opR (T : Tys) (o : Oper) (env : Env) (h : Heap) (K : Value → Prop) : Prop :=
  match o.op with
  | .move x => K (ev env x)
  | .assign x => K (ev env x)
  | .pick c a b => match ev env c with
    | .bool true => K (ev env a)
    | .bool false => K (ev env b)
    | _ => False
  | .load t p => match look t T.tk, ev env p with
    | some k, .pointer (some p) => ld k h p fun x => K (k.val x)
    | _, _ => False
  | .nilCheck x => match ev env x with
    | .pointer a => nilck a fun p => K (.pointer (some p))
    | _ => False
  | .binOp op t x y _ => match look t T.tk with
    | some (.agg _) => match look t T.eqs, op, ev env x, ev env y with
      | some ks, .eql, .agg a, .agg b => eqA ks a b fun r => K (.bool r)
      | some ks, .neq, .agg a, .agg b => eqA ks a b fun r => K (.bool (!r))
      | _, _, _, _ => False
    | some tk => bop tk op (ev env x) (ev env y) K
    | none => False
  | .unOp .not _ x => match ev env x with
    | .bool b => K (.bool (!b))
    | _ => False
  | .unOp .neg _ x => match ev env x with
    | .int k n => ar k (0 - n) fun m => K (.int k m)
    | _ => False
  | .convert s t x => match look s T.tk, look t T.tk, ev env x with
    | some _, some (.int k), .int _ n => K (.int k (k.wrap n))
    | some .sl, some .str, .slice a n c => (match look s T.sl with
      | some e => (match look e.e T.tk, byteTys.elem s with
        | some (.int .u8), true => toS h ⟨a, n, c⟩ fun t => K (.string t)
        | _, _ => False)
      | none => False)
    | _, _, _ => False
  | .build t parts => match look t T.bs with
    | some b => bst b.1 b.2.cells (parts.toList.map fun (i, x) => (i, ev env x)) fun cs => K (.agg cs)
    | none => False
  | .fieldAddr t p i => match look2 t i T.off, ev env p with
    | some off, .pointer (some p) => K (.pointer (some (p.add off)))
    | _, _ => False
  | .indexAddr t x i => match look t T.sl, ev env x, ev env i with
    | some e, .slice a n c, .int _ i => idx e.size ⟨a, n, c⟩ i fun p => K (.pointer (some p))
    | none, .pointer (some p), .int _ i => (match look t T.ars with
      | some q => idxP q.1 q.2 p i fun p => K (.pointer (some p))
      | none => False)
    | _, _, _ => False
  | .index t x i => match look t T.tk, ev env x, ev env i with
    | some .str, .string s, .int _ i => idxS s i fun n => K (.int .u8 n)
    | _, _, _ => False
  | .slice t x lo hi none => match look t T.sl, ev env x, lo.map (ev env), hi.map (ev env) with
    | some e, .slice a n c, none, none => slc e.size ⟨a, n, c⟩ none none fun s => K s.v
    | some e, .slice a n c, some (.int _ l), none => slc e.size ⟨a, n, c⟩ (some l) none fun s => K s.v
    | some e, .slice a n c, none, some (.int _ u) => slc e.size ⟨a, n, c⟩ none (some u) fun s => K s.v
    | some e, .slice a n c, some (.int _ l), some (.int _ u) => slc e.size ⟨a, n, c⟩ (some l) (some u) fun s => K s.v
    | none, .string s, some (.int _ l), none => (match look t T.tk with
      | some .str => slcS s (some l) none fun r => K (.string r)
      | _ => False)
    | none, .string s, none, some (.int _ u) => (match look t T.tk with
      | some .str => slcS s none (some u) fun r => K (.string r)
      | _ => False)
    | none, .string s, some (.int _ l), some (.int _ u) => (match look t T.tk with
      | some .str => slcS s (some l) (some u) fun r => K (.string r)
      | _ => False)
    | _, _, _, _ => False
  | .extract x i => match ev env x with
    | .tuple vs => match vs.toList[i]? with
      | some v => K v
      | none => False
    | _ => False
  | .call c => match c.callee, c.args.toList, c.argTypes.toList with
    | .builtin .len, [x], [t] => match look t T.sl, look t T.tk, ev env x with
      | some _, _, .slice _ n _ => K (.int .i64 n)
      | _, some .str, .string s => K (.int .i64 s.size)
      | _, _, _ => False
    | .builtin .min, [x, y], _ => match ev env x, ev env y with
      | .int k a, .int _ b => K (.int k (if b < a then b else a))
      | _, _ => False
    | .builtin .max, [x, y], _ => match ev env x, ev env y with
      | .int k a, .int _ b => K (.int k (if b > a then b else a))
      | _, _ => False
    | .builtin .cap, [x], [t] => match look t T.sl, ev env x with
      | some _, .slice _ _ c => K (.int .i64 c)
      | _, _ => False
    | _, _, _ => False
  | .makeFunc (.func g) f caps => match f.toList with
    | [] => K (.func (.func g) #[] (caps.toList.map (ev env)).toArray)
    | _ => False
  | .field t x i => match look2 t i T.fld, ev env x with
    | some (off, k), .agg cs => fldA k cs off fun y => K (k.val y)
    | _, _ => False
  | _ => False

def asRes (T : Tys) (t : TypeId) (v : Value) (K : Value → Prop) : Prop :=
  match look t T.res with
  | some [] => as0 v (K (.tuple #[]))
  | some [k] => as1 k v fun x => K (k.val x)
  | some [k1, k2] => as2 k1 k2 v fun x y => K (.tuple #[k1.val x, k2.val y])
  | some [k1, k2, k3] => as3 k1 k2 k3 v fun x y z => K (.tuple #[k1.val x, k2.val y, k3.val z])
  | _ => False

/-- All operations. -/
def opW (P : Program) (T : Tys) (o : Oper) (env : Env) (h : Heap) (K : Value → Heap → Prop) : Prop :=
  match o.op with
  | .alloc t => match look t T.zs with
    | some z => new t z.cells h fun p h => K (.pointer (some p)) h
    | none => False
  | .box t x => new t (ev env x).cells h fun p h => K (.pointer (some p)) h
  | .buildSlice t len parts => match look t T.sl with
    | some e => bld e len (parts.toList.map fun (i, x) => (i, ev env x)) h fun s h => K s.v h
    | none => False
  | .store t p x => match look t T.tk, ev env p with
    | some (.agg n), .pointer (some p) => match ev env x with
      | .agg cs => cs.size = n ∧ st cs.toList h p fun h => K undef h
      | _ => False
    | some k, .pointer (some p) => match k.get? (ev env x) with
      | some y => st [k.val y] h p fun h => K undef h
      | none => False
    | _, _ => False
  | .makeSlice t l c => match look t T.sl, ev env l, ev env c with
    | some e, .int _ n, .int _ m => n = m ∧ mk e n h fun s h => K s.v h
    | _, _, _ => False
  | .call c => match c.callee, c.args.toList, c.argTypes.toList with
    | .builtin .append, [x, y], [t, t'] => match t.beq t', look t T.sl, ev env x, ev env y with
      | true, some e, .slice a n cp, .slice b m cq => app e ⟨a, n, cp⟩ ⟨b, m, cq⟩ h fun s h => K s.v h
      | false, some e, .slice a n cp, .int .i64 z => (match look t' T.tk with
        | some (.int _) => apz e ⟨a, n, cp⟩ z h fun s h => K s.v h
        | _ => False)
      | false, some e, .slice a n cp, .string z => (match look t' T.tk with
        | some .str => apS e ⟨a, n, cp⟩ z h fun s h => K s.v h
        | _ => False)
      | _, _, _, _ => False
    | .value (.func f), args, _ => match T.fns.elem f with
      | true => ACalls P f (args.map (ev env)) h fun v h' => asRes T o.type v fun v => K v h'
      | false => callX P f (args.map (ev env)) h fun v => asRes T o.type v fun v => K v h
    | .builtin .delete, [x, y], [t, _] => match look t T.mp, ev env x with
      | some q, .map m => mdl q.1 m (ev env y) h fun h => K (.tuple #[]) h
      | _, _ => False
    | .value (.tmp x), args, _ => callV P (env x) (args.map (ev env)) h fun v h' => asRes T o.type v fun v => K v h'
    | .builtin .len, [x], [t] => match mapTys.elem t, look t T.mp, ev env x with
      | true, some _, .map m => mln m h fun n => K (.int .i64 n) h
      | true, _, _ => False
      | false, _, _ => opR T o env h fun v => K v h
    | .builtin .copy, [x, y], [t, t'] => match t.beq t', look t T.sl, ev env x, ev env y with
      | true, some e, .slice a n cp, .slice b m cq => cpy e.size ⟨a, n, cp⟩ ⟨b, m, cq⟩ h fun n h => K (.int .i64 n) h
      | _, _, _, _ => False
    | _, _, _ => opR T o env h fun v => K v h
  | .makeMap t r => match look t T.mp, r with
    | some _, none => mkm h fun m h => K (.map m) h
    | some _, some x => (match ev env x with
      | .int _ _ => mkm h fun m h => K (.map m) h
      | _ => False)
    | _, _ => False
  | .lookup t x k ok => match look t T.mp, ev env x with
    | some q, .map m => mlk q.1 m (ev env k) h fun r => as1 q.2.2 (r.getD q.2.1) fun y => (match ok with
      | true => K (.tuple #[q.2.2.val y, .bool r.isSome]) h
      | false => K (q.2.2.val y) h)
    | _, _ => False
  | .mapUpdate t x k y => match look t T.mp, ev env x with
    | some q, .map m => mup q.1 m (ev env k) (ev env y) h fun h => K undef h
    | _, _ => False
  | .insert t x k y => match look t T.mp, ev env x with
    | some q, .map m => mup q.1 m (ev env k) (ev env y) h fun h => K undef h
    | _, _ => False
  | .range t x => match look t T.mp, ev env x with
    | some _, .map m => rng m h fun r h => K (.pointer (some ⟨r, 0, none⟩)) h
    | _, _ => False
  | .next it b => match b, ev env it with
    | false, .pointer (some ⟨r, 0, none⟩) => nxt r h (K (.tuple #[.bool false]) h) fun k x h => K (.tuple #[.bool true, k, x]) h
    | _, _ => False
  | .entry it => match ev env it with
    | .pointer (some ⟨r, 0, none⟩) => ent r h fun k x => K (.tuple #[k, x]) h
    | _ => False
  | _ => opR T o env h fun v => K v h

/-- Operations whose order is open. -/
def opQ (P : Program) (T : Tys) (o : Oper) (env : Env) (h : Heap) (K : Value → Prop) : Prop :=
  match o.op with
  | .call c => match c.callee, c.args.toList, c.argTypes.toList with
    | .value (.func f), args, _ => match T.fns.elem f with
      | true => callQ P f (args.map (ev env)) h fun v => asRes T o.type v K
      | false => False
    | .builtin .len, [x], [t] => match mapTys.elem t, look t T.mp, ev env x with
      | true, some _, .map m => mln m h fun n => K (.int .i64 n)
      | true, _, _ => False
      | false, _, _ => opR T o env h K
    | _, _, _ => opR T o env h K
  | _ => opR T o env h K

def opsW (P : Program) (T : Tys) (ops : Array Oper) : List Oper → Env → Heap → (Env → Heap → Prop) → Prop
  | [], env, h, K => K env h
  | o :: rest, env, h, K =>
    match o.guard with
    | none => opW P T o env h fun v h' => opsW P T ops rest (upd env o.dst v) h' K
    | some (j, want) => match slotOf ops j with
      | none => False
      | some g => match env g with
        | .bool b => ifB b
            (match want with
              | true => opW P T o (upd env (some g) (.bool true)) h fun v h' => opsW P T ops rest (upd (upd env (some g) (.bool true)) o.dst v) h' K
              | false => opsW P T ops rest (upd (upd env (some g) (.bool true)) o.dst undef) h K)
            (match want with
              | false => opW P T o (upd env (some g) (.bool false)) h fun v h' => opsW P T ops rest (upd (upd env (some g) (.bool false)) o.dst v) h' K
              | true => opsW P T ops rest (upd (upd env (some g) (.bool false)) o.dst undef) h K)
        | _ => opsW P T ops rest (upd env o.dst undef) h K

def opsQ (P : Program) (T : Tys) (ops : Array Oper) : List Oper → Env → Heap → (Env → Prop) → Prop
  | [], env, _, K => K env
  | o :: rest, env, h, K =>
    match o.guard with
    | none => opQ P T o env h fun v => opsQ P T ops rest (upd env o.dst v) h K
    | some (j, want) => match slotOf ops j with
      | none => False
      | some g => match env g with
        | .bool b => ifB b
            (match want with
              | true => opQ P T o (upd env (some g) (.bool true)) h fun v => opsQ P T ops rest (upd (upd env (some g) (.bool true)) o.dst v) h K
              | false => opsQ P T ops rest (upd (upd env (some g) (.bool true)) o.dst undef) h K)
            (match want with
              | false => opQ P T o (upd env (some g) (.bool false)) h fun v => opsQ P T ops rest (upd (upd env (some g) (.bool false)) o.dst v) h K
              | true => opsQ P T ops rest (upd (upd env (some g) (.bool false)) o.dst undef) h K)
        | _ => opsQ P T ops rest (upd env o.dst undef) h K

/-- As 'opsW', in a statement whose order is open: what is read is read at the statement's start; what is called leaves readable what was. -/
def hExt (h h' : Heap) : Prop := ∀ p v, hcell h p = some v → hcell h' p = some v
inductive Cls where
  | pure | read | alloc | other
def clsOf (o : Oper) : Cls :=
  match o.op with
  | .move _ | .assign _ | .pick .. | .nilCheck _ | .binOp .. | .unOp .. | .build .. | .fieldAddr .. | .indexAddr .. | .index .. | .slice .. | .extract .. | .makeFunc .. | .field .. => .pure
  | .convert s _ _ => (match byteTys.elem s with
    | true => .read
    | false => .pure)
  | .load .. => .read
  | .alloc .. | .box .. | .buildSlice .. | .makeSlice .. => .alloc
  | .call { callee := .builtin .len, argTypes := ts, .. } => match ts.toList with
    | [t] => match mapTys.elem t with
      | true => .other
      | false => .pure
    | _ => .other
  | .call { callee := .builtin .min, .. } | .call { callee := .builtin .max, .. } | .call { callee := .builtin .cap, .. } => .pure
  | _ => .other
def opB (P : Program) (T : Tys) (o : Oper) (env : Env) (hb h : Heap) (K : Value → Heap → Prop) : Prop :=
  match clsOf o with
  | .read => opR T o env hb fun v => K v h
  | .other => opW P T o env h fun v h' => hExt h h' ∧ K v h'
  | _ => opW P T o env h K
def opsB (P : Program) (T : Tys) (ops : Array Oper) : List Oper → Env → Heap → Heap → (Env → Heap → Prop) → Prop
  | [], env, _, h, K => K env h
  | o :: rest, env, hb, h, K =>
    match o.guard with
    | none => opB P T o env hb h fun v h' => opsB P T ops rest (upd env o.dst v) hb h' K
    | some (j, want) => match slotOf ops j with
      | none => False
      | some g => match env g with
        | .bool b => ifB b
            (match want with
              | true => opB P T o (upd env (some g) (.bool true)) hb h fun v h' => opsB P T ops rest (upd (upd env (some g) (.bool true)) o.dst v) hb h' K
              | false => opsB P T ops rest (upd (upd env (some g) (.bool true)) o.dst undef) hb h K)
            (match want with
              | false => opB P T o (upd env (some g) (.bool false)) hb h fun v h' => opsB P T ops rest (upd (upd env (some g) (.bool false)) o.dst v) hb h' K
              | true => opsB P T ops rest (upd (upd env (some g) (.bool false)) o.dst undef) hb h K)
        | _ => opsB P T ops rest (upd env o.dst undef) hb h K

/-! Statements whose order is open, in which memory is laid: what each operation lays is told ahead, and owned apart. -/
structure Spec where
  A : Value → List As
  P : Value → Prop
abbrev Specs := Nat → List Value → Spec
def freeW (R : Heap → Prop) (h0 : Heap) (sp : Spec) (pre : List As) (run : Heap → (Value → Heap → Prop) → Prop) (K : Value → Prop) : Prop :=
  (∃ v, sp.P v) ∧ (∀ h X, R h → Sep h0 h (pre ++ X) → run h fun v h' => R h' ∧ sp.P v ∧ Sep h0 h' (sp.A v ++ X)) ∧ ∀ v, sp.P v → K v
/-- What is read at whatever time. -/
def ldF (k : TK) (R : Heap → Prop) (p : Addr) (K : k.T → Prop) : Prop := ∃ x : k.T, (∀ h, R h → holds h p k x) ∧ K x
def endF (R : Heap → Prop) (h0 : Heap) (L : List As) (K : Heap → Prop) : Prop := ∀ h, R h → Sep h0 h L → K h
def isRes (o : Oper) : Bool := match clsOf o with | .pure => false | .read => false | _ => true
/-- Which ones' memory an operation takes. -/
def rowF : List (List Nat) → Nat → List Nat
  | [], _ => []
  | l :: _, 0 => l
  | _ :: r, n + 1 => rowF r n
def memB : List Nat → Nat → Bool
  | [], _ => false
  | x :: l, m => match Nat.beq x m with
    | true => true
    | false => memB l m
def memF (fs : List (List Nat)) (n m : Nat) : Bool := memB (rowF fs n) m
def putD (D : Nat → List As) (p : Nat → Bool) (n : Nat) (A : List As) : Nat → List As := fun q => match Nat.beq q n with
  | true => A
  | false => match p q with
    | true => []
    | false => D q
def startD (ops : Array Oper) (L0 : List As) : Nat → List As := fun q => match Nat.beq q ops.size with
  | true => L0
  | false => []
def asP (v : Value) (K : Addr → Prop) : Prop := ∃ p : Addr, v = .pointer (some p) ∧ K p
def isNew (o : Oper) : Bool := match o.op with
  | .alloc .. => true
  | .box .. => true
  | _ => false
def asT (T : Tys) (o : Oper) (v : Value) (K : Value → Prop) : Prop := match o.dst with
  | none => K v
  | some _ => match isNew o with
    | true => asP v fun p => K (.pointer (some p))
    | false => asRes T o.type v K
def opF (P : Program) (T : Tys) (ops : Array Oper) (R : Heap → Prop) (h0 : Heap) (S : Specs) (fs : List (List Nat)) (n : Nat) (o : Oper) (env : Env) (D : Nat → List As) (K : Value → (Nat → List As) → Prop) : Prop :=
  match clsOf o with
  | .pure => opR T o env h0 fun v => K v D
  | .read => match o.op with
    | .load t p => match look t T.tk, ev env p with
      | some k, .pointer (some p) => ldF k R p fun x => K (k.val x) D
      | _, _ => False
    | _ => False
  | _ => freeW R h0 (S n ((o.looksAt ops).map env)) ((rowF fs n).flatMap D) (fun h K => opW P T o env h K) fun v =>
      asT T o v fun u => K u (putD D (memF fs n) n ((S n ((o.looksAt ops).map env)).A v))
def opsF (P : Program) (T : Tys) (ops : Array Oper) (R : Heap → Prop) (h0 : Heap) (S : Specs) (fs : List (List Nat)) : List Oper → Nat → Env → (Nat → List As) → (Env → (Nat → List As) → Prop) → Prop
  | [], _, env, D, K => K env D
  | o :: rest, n, env, D, K =>
    match o.guard with
    | none => opF P T ops R h0 S fs n o env D fun v D' => opsF P T ops R h0 S fs rest (n + 1) (upd env o.dst v) D' K
    | some (j, want) => match slotOf ops j with
      | none => False
      | some g => match env g with
        | .bool b => ifB b
            (match want with
              | true => opF P T ops R h0 S fs n o (upd env (some g) (.bool true)) D fun v D' => opsF P T ops R h0 S fs rest (n + 1) (upd (upd env (some g) (.bool true)) o.dst v) D' K
              | false => opsF P T ops R h0 S fs rest (n + 1) (upd (upd env (some g) (.bool true)) o.dst undef) D K)
            (match want with
              | false => opF P T ops R h0 S fs n o (upd env (some g) (.bool false)) D fun v D' => opsF P T ops R h0 S fs rest (n + 1) (upd (upd env (some g) (.bool false)) o.dst v) D' K
              | true => opsF P T ops R h0 S fs rest (n + 1) (upd (upd env (some g) (.bool false)) o.dst undef) D K)
        | _ => opsF P T ops R h0 S fs rest (n + 1) (upd env o.dst undef) D K

/-! Statements whose order is open, in which memory is written: what stays true all along ('R') is told; what may be read beside the writing is read by it. -/
def isLate (late : List Nat) (o : Oper) : Bool := match o.dst with
  | some t => memB late t
  | none => false
def opK (P : Program) (T : Tys) (late : List Nat) (R : Heap → Prop) (o : Oper) (env : Env) (h : Heap) (K : Value → Heap → Prop) : Prop :=
  match clsOf o with
  | .pure => opR T o env h fun v => K v h
  | .read => match isLate late o with
    | true => (match o.op with
      | .load t p => match look t T.tk, ev env p with
        | some k, .pointer (some p) => ldF k R p fun x => K (k.val x) h
        | _, _ => False
      | _ => False)
    | false => opR T o env h fun v => K v h
  | _ => opW P T o env h fun v h' => R h' ∧ K v h'
def opsK (P : Program) (T : Tys) (late : List Nat) (R : Heap → Prop) (ops : Array Oper) : List Oper → Env → Heap → (Env → Heap → Prop) → Prop
  | [], env, h, K => K env h
  | o :: rest, env, h, K =>
    match o.guard with
    | none => opK P T late R o env h fun v h' => opsK P T late R ops rest (upd env o.dst v) h' K
    | some (j, want) => match slotOf ops j with
      | none => False
      | some g => match env g with
        | .bool b => ifB b
            (match want with
              | true => opK P T late R o (upd env (some g) (.bool true)) h fun v h' => opsK P T late R ops rest (upd (upd env (some g) (.bool true)) o.dst v) h' K
              | false => opsK P T late R ops rest (upd (upd env (some g) (.bool true)) o.dst undef) h K)
            (match want with
              | false => opK P T late R o (upd env (some g) (.bool false)) h fun v h' => opsK P T late R ops rest (upd (upd env (some g) (.bool false)) o.dst v) h' K
              | true => opsK P T late R ops rest (upd (upd env (some g) (.bool false)) o.dst undef) h K)
        | _ => opsK P T late R ops rest (upd env o.dst undef) h K

/-! ### Code -/

inductive Out where
  | norm
  | exit (id : Nat)
  | ret

/-- Beside the code: where ways meet, and at a loop's head, which slots are told on, and which stay. -/
inductive Ann where
  | leaf
  | quiet
  | based
  | free (m : Nat) (fs : List (List Nat)) (lv : List Nat)
  | kept (late : List Nat)
  | seq (a b : Ann)
  | join (ss : List (Nat × TK)) (keep : List Nat) (a b : Ann)
  | cond (a b : Ann)
  | block (a : Ann)
  | loop (ss : List (Nat × TK)) (keep : List Nat) (a : Ann)

@[reducible] def Tup : List (Nat × TK) → Type
  | [] => Unit
  | [(_, k)] => k.T
  | (_, k) :: r => k.T × Tup r

def getS : (ss : List (Nat × TK)) → Env → Option (Tup ss)
  | [], _ => some ()
  | [(s, k)], env => k.get? (env s)
  | (s, k) :: r1 :: r, env => match k.get? (env s), getS (r1 :: r) env with
    | some x, some xs => some (x, xs)
    | _, _ => none
def setS : (ss : List (Nat × TK)) → Tup ss → Env → Env
  | [], _, env => env
  | [(s, k)], x, env => upd env (some s) (k.val x)
  | (s, k) :: r1 :: r, x, env => upd (setS (r1 :: r) x.2 env) (some s) (k.val x.1)
def rdS (ss : List (Nat × TK)) (env : Env) (K : Tup ss → Prop) : Prop :=
  match getS ss env with
  | some t => K t
  | none => False
def kept (keep : List Nat) (junk env : Env) : Env := fun s => match keep.elem s with | true => env s | false => junk s

def awp (P : Program) (T : Tys) : Ann → Code → (Out → Env → Heap → Prop) → Env → Heap → Prop
  | .leaf, .skip, Q, env, h => Q .norm env h
  | .leaf, .ret, Q, env, h => Q .ret env h
  | .leaf, .exit id, Q, env, h => Q (.exit id) env h
  | .leaf, .region _ ops _, Q, env, h => opsW P T ops ops.toList env h fun env h => Q .norm env h
  | .quiet, .region _ ops _, Q, env, h => opsQ P T ops ops.toList env h fun env => Q .norm env h
  | .kept late, .region _ ops _, Q, env, h => ∃ R : Heap → Prop, R h ∧ opsK P T late R ops ops.toList env h fun env h => Q .norm env h
  | .based, .region _ ops _, Q, env, h => opsB P T ops ops.toList env h h fun env h => Q .norm env h
  | .free m fs lv, .region _ ops _, Q, env, h => ∃ (R : Heap → Prop) (h0 : Heap) (L0 : List As) (S : Specs), R h ∧ Sep h0 h L0 ∧ opsF P T ops R h0 S fs (ops.toList.take m) 0 env (startD ops L0) fun env D => endF R h0 (lv.flatMap D) fun h' => opsW P T ops (ops.toList.drop m) env h' fun env h' => Q .norm env h'
  | .seq a b, .seq x y, Q, env, h => awp P T a x (fun e env h => match e with | .norm => awp P T b y Q env h | .exit id => Q (.exit id) env h | .ret => Q .ret env h) env h
  | .join ss keep a b, .seq x y, Q, env, h =>
    joinW (T := Tup ss) (fun junk t h => awp P T b y Q (setS ss t (kept keep junk env)) h) fun k =>
      awp P T a x (fun e env h => match e with | .norm => rdS ss env fun t => k t h | .exit id => Q (.exit id) env h | .ret => Q .ret env h) env h
  | .cond a b, .cond c x y, Q, env, h => match ev env c with
    | .bool t => ifB t (awp P T a x Q env h) (awp P T b y Q env h)
    | _ => False
  | .block a, .block id c, Q, env, h =>
    awp P T a c (fun e env h => match e with | .norm => Q .norm env h | .exit id' => (match id'.beq id with | true => Q .norm env h | false => Q (.exit id') env h) | .ret => Q .ret env h) env h
  | .loop ss keep a, .loop c, Q, env, h =>
    rdS ss env fun t => loopW (T := Tup ss) (fun junk t h next =>
      awp P T a c (fun e env h => match e with | .norm => rdS ss env fun t => next t h | .exit id => Q (.exit id) env h | .ret => Q .ret env h) (setS ss t (kept keep junk env)) h) t h
  | _, _, _, _, _ => False

end Go.Fw
