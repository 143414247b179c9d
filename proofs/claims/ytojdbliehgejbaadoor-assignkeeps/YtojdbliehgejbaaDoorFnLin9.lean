/-
  How long a text is, by the count of parts.
-/
import Derived.Test.YtojdbliehgejbaaDoorFnLin5
import Derived.Test.YtojdbliehgejbaaDoorFnFew
namespace Go.Proofs.YtojdbliehgejbaaDoor
open Go.Fw Go.Pl.Api Go.Pl.Put Go.Pl.Lines

theorem sum_lin {α : Type} {f g : α → Nat} {a b : Nat} (h : ∀ x, f x ≤ a + b * g x) : ∀ l : List α, (l.map f).sum ≤ a * l.length + b * (l.map g).sum
  | [] => by simp
  | x :: l => by
    have ih := sum_lin h l
    have hx := h x
    simp only [List.map_cons, List.sum_cons, List.length_cons, Nat.mul_add, Nat.mul_one]
    omega
theorem wS_flat {α : Type} (f : α → List ByteArray) : ∀ l : List α, wS (l.flatMap f) = (l.map fun x => wS (f x)).sum
  | [] => rfl
  | x :: l => by rw [List.flatMap_cons, wS_app, wS_flat f l]; simp
theorem wS_args (l : List MArg) : wS (argsW l) ≤ 23 * l.length := by
  induction l with
  | nil => simp [argsW, wS]
  | cons a l ih =>
    have h := argW_size a
    show wS (argW a :: argsW l) ≤ _
    rw [wS_cons, List.length_cons]
    omega
theorem lVar_c (first : ByteArray) (hf : first.size ≤ 8) (v : MVar) : lVar first v ≤ 12 + 1 * cVar v := by
  unfold lVar cVar; omega
theorem lStand_c (s : MStand) : lStand s ≤ 40 + 24 * cStand s := by
  unfold lStand standW cStand
  rw [wS_app, wS_flat]
  have h := sum_lin (f := fun b => wS (bindW b)) (g := cBind) (a := 0) (b := 24) (fun b => by
    have := argW_size b.a
    show wS [b.name, argW b.a] ≤ _
    simp only [wS_cons, wS_nil, cBind]
    omega) s.vars
  have := put_size s.at'
  have e : atS.size = 2 := rfl
  simp only [wS_cons, wS_nil]
  omega
theorem lVirt_c (v : MVirt) : lVirt v ≤ 40 + 24 * cVirt v := by
  unfold lVirt virtW cVirt cArgs
  rw [wS_app]
  have := wS_args v.vals
  have e : objS.size = 3 := rfl
  simp only [wS_cons, wS_nil]
  omega
theorem wS_instr (x : MInstr) : wS (instrW x) ≤ 12 + x.dst.size + x.name.size + 23 * x.args.length + 2 := by
  have hh : wS (headW x) ≤ x.dst.size + 1 + 2 + 7 := by
    unfold headW
    have := opWord_size x.op
    have e : eqS.size = 1 := rfl
    rw [wS_app]
    split <;> simp only [wS_cons, wS_nil] <;> omega
  unfold instrW
  split
  · have h1 := wS_args (x.args.take 1)
    have h2 := wS_args (x.args.drop 1)
    have h3 : (x.args.take 1).length + (x.args.drop 1).length = x.args.length := by rw [← List.length_append, List.take_append_drop]
    simp only [wS_app, wS_cons, wS_nil]
    omega
  · have h1 := wS_args x.args
    rw [wS_app, wS_app]
    split <;> simp only [wS_cons, wS_nil] <;> omega
theorem lCode_c (x : MInstr) : lCode x ≤ 0 + 64 * cInstr x := by
  unfold lCode cInstr
  have h1 := wS_instr x
  have h2 := sum_lin lStand_c x.stands
  have h3 := sum_lin lVirt_c x.objs
  have h4 : x.args.length ≤ cArgs x.args := by unfold cArgs; omega
  omega
theorem lPhi_c (p : MPhi) : lPhi p ≤ 0 + 64 * cPhi p := by
  unfold lPhi phiW cPhi
  rw [wS_app, wS_flat]
  have h := sum_lin (f := fun b => wS (inW b)) (g := cIn) (a := 0) (b := 24) (fun b => by
    have := argW_size b.a
    show wS [b.block, argW b.a] ≤ _
    simp only [wS_cons, wS_nil, cIn]
    omega) p.ins
  have e : phiS.size = 3 := rfl
  simp only [wS_cons, wS_nil]
  omega
theorem endWord_size (t : MTerm) : (endWords.getD t.kind.toNat eB).size ≤ 6 := by
  by_cases h : t.kind.toNat < endWords.length
  · have e : endWords.getD t.kind.toNat eB = endWords[t.kind.toNat] := by rw [List.getD_eq_getElem?_getD, List.getElem?_eq_getElem h]; rfl
    rw [e]
    have : ∀ w ∈ endWords, w.size ≤ 6 := by decide
    exact this _ (List.getElem_mem h)
  · have e : endWords.getD t.kind.toNat eB = eB := by rw [List.getD_eq_getElem?_getD, List.getElem?_eq_none (by omega)]; rfl
    rw [e]
    decide
theorem lEnd_c (t : MTerm) : lEnd t ≤ 60 + (t.to.map cTo).sum := by
  unfold lEnd endW
  have h1 := endWord_size t
  have h2 := argW_size t.a
  have h3 := put_size t.n
  have h4 : wS t.to = (t.to.map cTo).sum := by
    unfold wS
    congr 1
    refine List.map_congr_left fun w _ => ?_
    unfold cTo; omega
  simp only [wS_app, wS_cons, wS_nil]
  rw [h4]
  split <;> split <;> simp only [wS_cons, wS_nil] <;> omega
theorem lBlock_c (b : MBlock) : lBlock b ≤ 0 + 128 * cBlock b := by
  unfold lBlock cBlock
  have h1 := sum_lin lPhi_c b.phis
  have h2 := sum_lin lCode_c b.code
  have h3 := lEnd_c b.term
  have e : blockS.size = 5 := rfl
  simp only [wS_cons, wS_nil]
  omega
theorem lFunc_c (f : MFunc) : lFunc f ≤ 128 * cFunc f := by
  unfold lFunc lHead cFunc cVars
  have h1 := sum_lin (lVar_c paramS (by decide)) f.params
  have h2 := sum_lin (lVar_c varS (by decide)) f.vars
  have h3 := sum_lin lBlock_c f.blocks
  have e : funcS.size = 4 := rfl
  simp only [wS_cons, wS_nil]
  omega
end Go.Proofs.YtojdbliehgejbaaDoor
