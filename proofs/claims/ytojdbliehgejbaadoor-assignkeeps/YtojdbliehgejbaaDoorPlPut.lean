/-
  Plain: numbers as texts, as the document writes them.
-/
import Derived.Test.YtojdbliehgejbaaDoorFwApi2
namespace Go.Pl.Put

/-- Digits ahead of what is there already. -/
def digs : Nat → Nat → List UInt8 → List UInt8
  | 0, _, acc => acc
  | f + 1, m, acc => if m / 10 = 0 then UInt8.ofNat (48 + m % 10) :: acc else digs f (m / 10) (UInt8.ofNat (48 + m % 10) :: acc)
def putF (n : Int) : ByteArray := if n < 0 then ⟨#[45]⟩ ++ ⟨(digs 20 n.natAbs []).toArray⟩ else ⟨(digs 20 n.natAbs []).toArray⟩
theorem digs_len : ∀ (f m : Nat) (acc : List UInt8), (digs f m acc).length ≤ f + acc.length
  | 0, _, acc => by simp [digs]
  | f + 1, m, acc => by
    unfold digs
    split
    · simp only [List.length_cons]; omega
    · have := digs_len f (m / 10) (UInt8.ofNat (48 + m % 10) :: acc)
      simp only [List.length_cons] at this
      omega
theorem put_size (n : Int) : (putF n).size ≤ 21 := by
  have h := digs_len 20 n.natAbs []
  simp only [List.length_nil] at h
  unfold putF
  split
  · rw [ByteArray.size_append]
    show 1 + (digs 20 n.natAbs []).length ≤ 21
    omega
  · show (digs 20 n.natAbs []).length ≤ 21
    omega

end Go.Pl.Put

/-
  Plain: the text that a program has, as the document writes it.
-/
namespace Go.Pl.Lines
open Go.Pl.Api Go.Pl.Put Go.Fw

def eB : ByteArray := ⟨#[]⟩
/-- A word's bytes. -/
def byL (w : ByteArray) : List UInt8 := w.data.toList
theorem byL_len (w : ByteArray) : (byL w).length = w.size := by
  show w.data.toList.length = w.data.size
  rw [Array.length_toList]

/-! Names -/
/-- May a byte stand in a name, at a place? -/
def okC (i : Nat) (c : UInt8) : Bool := (decide (48 ≤ c.toNat) && decide (c.toNat ≤ 57) && decide (0 < i)) || c.toNat == 95 || (decide (65 ≤ c.toNat) && decide (c.toNat ≤ 90)) || (decide (97 ≤ c.toNat) && decide (c.toNat ≤ 122))
def okTo (s : ByteArray) (n : Nat) : Bool := (List.range n).all fun i => okC i ((byL s).getD i 0)
def nullS : ByteArray := ⟨#[110, 117, 108, 108]⟩
def intS : ByteArray := ⟨#[105, 110, 116]⟩
def floatS : ByteArray := ⟨#[102, 108, 111, 97, 116]⟩
def nameB (s : ByteArray) : Bool := okTo s s.size && (decide (1 ≤ s.size) && decide (s.size ≤ 16) && decide (s ≠ nullS) && decide (s ≠ intS) && decide (s ≠ floatS))
theorem okTo_succ (s : ByteArray) (n : Nat) : okTo s (n + 1) = (okTo s n && okC n ((byL s).getD n 0)) := by simp [okTo, List.range_succ]
theorem okTo_false {s : ByteArray} {n m : Nat} (h : okTo s n = false) (hnm : n ≤ m) : okTo s m = false := by
  induction m with
  | zero => have : n = 0 := by omega
            subst this; exact h
  | succ m ih =>
    rw [okTo_succ]
    by_cases e : n = m + 1
    · subst e; rw [← okTo_succ]; exact h
    · rw [ih (by omega)]; rfl

/-! Floats -/
def isNan (n : Int) : Bool := decide (9218868437227405312 < (IntKind.u64.wrap n) % 9223372036854775808)
def nanN : Int := 9221120237041090560
def plainF (n : Int) : Int := if isNan n then nanN else n
def hexD (d : Nat) : UInt8 := UInt8.ofNat (if d < 10 then d + 48 else d + 87)
/-- Hexadecimal digits ahead of what is there already. -/
def hexs : Nat → Nat → List UInt8 → List UInt8
  | 0, _, acc => acc
  | f + 1, m, acc => hexs f (m / 16) (hexD (m % 16) :: acc)
def zfS : ByteArray := ⟨#[48, 102]⟩
def hexF (n : Int) : ByteArray := zfS ++ ⟨(hexs 16 (IntKind.u64.wrap (plainF n)).toNat []).toArray⟩
theorem hexs_len : ∀ (f m : Nat) (acc : List UInt8), (hexs f m acc).length = f + acc.length
  | 0, _, acc => by simp [hexs]
  | f + 1, m, acc => by
    unfold hexs
    rw [hexs_len f]
    simp only [List.length_cons]
    omega

/-! Arguments -/
def rightA (a : MArg) : Bool :=
  if a.kind = 1 then nameB a.s && decide (a.n = 0)
  else if a.kind < 1 ∨ 5 < a.kind ∨ a.s ≠ eB then false
  else decide (a.kind = 2) || (decide (a.kind = 3) && decide (plainF a.n = a.n)) || (decide (a.kind = 4) && decide (a.n = 0)) || (decide (a.kind = 5) && decide (0 ≤ a.n) && decide (a.n ≤ 999))
def hashS : ByteArray := ⟨#[35]⟩
def argW (a : MArg) : ByteArray :=
  if rightA a then (if a.kind = 1 then a.s else if a.kind = 2 then putF a.n else if a.kind = 3 then hexF a.n else if a.kind = 4 then nullS else hashS ++ putF a.n) else eB
theorem argW_size (a : MArg) : (argW a).size ≤ 22 := by
  unfold argW
  split
  · rename_i h
    unfold rightA at h
    split
    · rename_i h1
      rw [if_pos h1] at h
      unfold nameB at h
      simp only [Bool.and_eq_true, decide_eq_true_eq] at h
      omega
    · split
      · have := put_size a.n; omega
      · split
        · unfold hexF
          rw [ByteArray.size_append]
          show 2 + (hexs 16 _ []).length ≤ 22
          rw [hexs_len]
          simp
        · split
          · decide
          · rw [ByteArray.size_append]
            have := put_size a.n
            have : hashS.size = 1 := rfl
            omega
  · decide

/-! Lines -/
def jb (l : List ByteArray) (i : Nat) : List UInt8 := (if 0 < i then [32] else []) ++ byL (l.getD i eB)
def joinTo (l : List ByteArray) (n : Nat) : List UInt8 := (List.range n).flatMap (jb l)
def lineF (l : List ByteArray) : List UInt8 := joinTo l l.length ++ [10]
theorem joinTo_succ (l : List ByteArray) (n : Nat) : joinTo l (n + 1) = joinTo l n ++ jb l n := by simp [joinTo, List.range_succ]
/-- How long words are, with a byte for each. -/
def wS (l : List ByteArray) : Nat := (l.map fun w => w.size + 1).sum
theorem wS_app (a b : List ByteArray) : wS (a ++ b) = wS a + wS b := by simp [wS]
theorem wS_cons (a : ByteArray) (b : List ByteArray) : wS (a :: b) = a.size + 1 + wS b := by simp [wS]
theorem wS_nil : wS [] = 0 := rfl
theorem joinTo_len (l : List ByteArray) : ∀ n, n ≤ l.length → (joinTo l n).length ≤ wS (l.take n)
  | 0, _ => by simp [joinTo]
  | n + 1, h => by
    have ih := joinTo_len l n (by omega)
    rw [joinTo_succ, List.length_append, List.take_succ_eq_append_getElem (show n < l.length by omega), wS_app, wS_cons, wS_nil]
    have : (jb l n).length ≤ l[n].size + 1 := by
      unfold jb
      rw [List.length_append, byL_len]
      have e : l.getD n eB = l[n] := by rw [List.getD_eq_getElem?_getD, List.getElem?_eq_getElem (by omega)]; rfl
      rw [e]
      split <;> simp <;> omega
    omega
theorem lineF_len (l : List ByteArray) : (lineF l).length ≤ wS l + 1 := by
  have := joinTo_len l l.length (Nat.le_refl _)
  rw [List.take_length] at this
  unfold lineF
  simp only [List.length_append, List.length_singleton]
  omega

/-- The words of the instructions. -/
def opWords : List ByteArray := [⟨#[]⟩, ⟨#[97, 100, 100]⟩, ⟨#[115, 117, 98]⟩, ⟨#[109, 117, 108]⟩, ⟨#[100, 105, 118]⟩, ⟨#[114, 101, 109]⟩, ⟨#[97, 110, 100]⟩, ⟨#[111, 114]⟩, ⟨#[120, 111, 114]⟩, ⟨#[115, 104, 108]⟩, ⟨#[115, 104, 114]⟩, ⟨#[101, 113]⟩, ⟨#[110, 101]⟩, ⟨#[108, 116]⟩, ⟨#[108, 101]⟩, ⟨#[102, 97, 100, 100]⟩, ⟨#[102, 115, 117, 98]⟩, ⟨#[102, 109, 117, 108]⟩, ⟨#[102, 100, 105, 118]⟩, ⟨#[102, 101, 113]⟩, ⟨#[102, 108, 116]⟩, ⟨#[102, 108, 101]⟩, ⟨#[105, 116, 111, 102]⟩, ⟨#[102, 116, 111, 105]⟩, ⟨#[109, 111, 118]⟩, ⟨#[110, 101, 119]⟩, ⟨#[108, 111, 97, 100]⟩, ⟨#[115, 116, 111, 114, 101]⟩, ⟨#[115, 97, 109, 101]⟩, ⟨#[103, 108, 111, 97, 100]⟩, ⟨#[103, 115, 116, 111, 114, 101]⟩, ⟨#[99, 97, 108, 108]⟩, ⟨#[101, 120, 116]⟩, ⟨#[111, 117, 116]⟩, ⟨#[103, 117, 97, 114, 100]⟩]
def isOp (op : Int) : Bool := decide (1 ≤ op) && decide (op ≤ 34)
def opWord (op : Int) : ByteArray := if isOp op then opWords.getD op.toNat eB else eB
def opDst (op : Int) : Bool := isOp op && (op != 27 && op != 30 && op != 33 && op != 34)
def opNamed (op : Int) : Bool := isOp op && (op == 25 || op == 26 || op == 27 || (decide (29 ≤ op) && decide (op ≤ 32)))
theorem opWords_size : ∀ w ∈ opWords, w.size ≤ 6 := by decide
theorem opWord_size (op : Int) : (opWord op).size ≤ 6 := by
  unfold opWord
  split
  · by_cases h : op.toNat < opWords.length
    · have e : opWords.getD op.toNat eB = opWords[op.toNat] := by rw [List.getD_eq_getElem?_getD, List.getElem?_eq_getElem h]; rfl
      rw [e]
      exact opWords_size _ (List.getElem_mem h)
    · have e : opWords.getD op.toNat eB = eB := by rw [List.getD_eq_getElem?_getD, List.getElem?_eq_none (by omega)]; rfl
      rw [e]
      decide
  · decide

def eqS : ByteArray := ⟨#[61]⟩
def atS : ByteArray := ⟨#[97, 116]⟩
def objS : ByteArray := ⟨#[111, 98, 106]⟩
def argsW (a : List MArg) : List ByteArray := a.map argW
def headW (x : MInstr) : List ByteArray := (if opDst x.op then [x.dst, eqS] else []) ++ [opWord x.op]
def instrW (x : MInstr) : List ByteArray :=
  if (x.op = 26 ∨ x.op = 27) ∧ 0 < x.args.length then headW x ++ argsW (x.args.take 1) ++ [x.name] ++ argsW (x.args.drop 1)
  else headW x ++ (if opNamed x.op then [x.name] else []) ++ argsW x.args
def bindW (b : MBind) : List ByteArray := [b.name, argW b.a]
def standW (s : MStand) : List ByteArray := [atS, s.func, s.block, putF s.at'] ++ s.vars.flatMap bindW
def virtW (v : MVirt) : List ByteArray := [objS, v.cls] ++ argsW v.vals
def codeL (x : MInstr) : List UInt8 := lineF (instrW x) ++ x.stands.flatMap (fun s => lineF (standW s)) ++ x.objs.flatMap fun v => lineF (virtW v)
def endWords : List ByteArray := [⟨#[]⟩, ⟨#[106, 117, 109, 112]⟩, ⟨#[98, 114, 97, 110, 99, 104]⟩, ⟨#[114, 101, 116]⟩, ⟨#[116, 114, 97, 112]⟩]
def endW (t : MTerm) : List ByteArray := [endWords.getD t.kind.toNat eB] ++ (if t.kind = 2 ∨ t.kind = 3 then [argW t.a] else []) ++ t.to ++ (if t.kind = 4 then [putF t.n] else [])
def endL (t : MTerm) : List UInt8 := if 1 ≤ t.kind ∧ t.kind ≤ 4 then lineF (endW t) else []
def phiS : ByteArray := ⟨#[112, 104, 105]⟩
def inW (i : MIn) : List ByteArray := [i.block, argW i.a]
def phiW (p : MPhi) : List ByteArray := [phiS, p.dst] ++ p.ins.flatMap inW
def blockS : ByteArray := ⟨#[98, 108, 111, 99, 107]⟩
def blockL (b : MBlock) : List UInt8 := lineF [blockS, b.name] ++ b.phis.flatMap (fun p => lineF (phiW p)) ++ b.code.flatMap codeL ++ endL b.term
def varL (first : ByteArray) (v : MVar) : List UInt8 := lineF [first, v.name, v.type]
def varsL (first : ByteArray) (l : List MVar) : List UInt8 := l.flatMap (varL first)
def funcS : ByteArray := ⟨#[102, 117, 110, 99]⟩
def paramS : ByteArray := ⟨#[112, 97, 114, 97, 109]⟩
def varS : ByteArray := ⟨#[118, 97, 114]⟩
def headL (f : MFunc) : List UInt8 := lineF [funcS, f.name, f.result] ++ varsL paramS f.params ++ varsL varS f.vars
def funcL (f : MFunc) : List UInt8 := headL f ++ f.blocks.flatMap blockL
end Go.Pl.Lines
