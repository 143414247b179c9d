/-
  More of the program's data: fields, whole programs, bounds.
-/
import Derived.Test.YtojdbliehgejbaaDoorFwApi
import Derived.Test.YtojdbliehgejbaaDoorFwDecB
namespace Go.Pl.Api
structure MClass where
  name : ByteArray
  fields : List MVar
structure MExtern where
  name : ByteArray
  n : Int
structure MProg where
  ssa : Bool
  classes : List MClass
  globals : List MVar
  externs : List MExtern
  funcs : List MFunc
end Go.Pl.Api
namespace Go.Fw
open Go.Pl.Api

def rClass : RV MClass := (rStr.two (rVar.sl.two RV.unit)).via fun a => (a.name, a.fields, ())
def rExtern : RV MExtern := (rStr.two (rInt.two RV.unit)).via fun a => (a.name, a.n, ())
def rProg : RV MProg := (rBool.two (rClass.sl.two (rVar.sl.two (rExtern.sl.two (rFunc.sl.two RV.unit))))).via fun a => (a.ssa, a.classes, a.globals, a.externs, a.funcs, ())

theorem fld_argK : Fld rArg rInt 0 MArg.kind := Fld.fst.via
theorem fld_argS : Fld rArg rStr 1 MArg.s := (Fld.snd.trans Fld.fst rfl).via
theorem fld_argN : Fld rArg rInt 2 MArg.n := (Fld.snd.trans (Fld.snd.trans Fld.fst rfl) rfl).via
theorem fld_inA : Fld rIn rArg 1 MIn.a := (Fld.snd.trans Fld.fst rfl).via
theorem fld_bindName : Fld rBind rStr 0 MBind.name := Fld.fst.via
theorem fld_bindA : Fld rBind rArg 1 MBind.a := (Fld.snd.trans Fld.fst rfl).via
theorem fld_stFunc : Fld rStand rStr 0 MStand.func := Fld.fst.via
theorem fld_stBlock : Fld rStand rStr 1 MStand.block := (Fld.snd.trans Fld.fst rfl).via
theorem fld_stAt : Fld rStand rInt 2 MStand.at' := (Fld.snd.trans (Fld.snd.trans Fld.fst rfl) rfl).via
theorem fld_stVars : Fld rStand rBind.sl 3 MStand.vars := (Fld.snd.trans (Fld.snd.trans (Fld.snd.trans Fld.fst rfl) rfl) rfl).via
theorem fld_virtCls : Fld rVirt rStr 0 MVirt.cls := Fld.fst.via
theorem fld_virtVals : Fld rVirt rArg.sl 1 MVirt.vals := (Fld.snd.trans Fld.fst rfl).via
theorem fld_iOp : Fld rInstr rInt 0 MInstr.op := Fld.fst.via
theorem fld_iDst : Fld rInstr rStr 1 MInstr.dst := (Fld.snd.trans Fld.fst rfl).via
theorem fld_iName : Fld rInstr rStr 2 MInstr.name := (Fld.snd.trans (Fld.snd.trans Fld.fst rfl) rfl).via
theorem fld_iArgs : Fld rInstr rArg.sl 3 MInstr.args := (Fld.snd.trans (Fld.snd.trans (Fld.snd.trans Fld.fst rfl) rfl) rfl).via
theorem fld_iStands : Fld rInstr rStand.sl 4 MInstr.stands := (Fld.snd.trans (Fld.snd.trans (Fld.snd.trans (Fld.snd.trans Fld.fst rfl) rfl) rfl) rfl).via
theorem fld_iObjs : Fld rInstr rVirt.sl 5 MInstr.objs := (Fld.snd.trans (Fld.snd.trans (Fld.snd.trans (Fld.snd.trans (Fld.snd.trans Fld.fst rfl) rfl) rfl) rfl) rfl).via
theorem fld_tKind : Fld rTerm rInt 0 MTerm.kind := Fld.fst.via
theorem fld_tA : Fld rTerm rArg 1 MTerm.a := (Fld.snd.trans Fld.fst rfl).via
theorem fld_tN : Fld rTerm rInt 5 MTerm.n := (Fld.snd.trans (Fld.snd.trans (Fld.snd.trans Fld.fst rfl) rfl) rfl).via
theorem fld_vName : Fld rVar rStr 0 MVar.name := Fld.fst.via
theorem fld_vType : Fld rVar rStr 1 MVar.type := (Fld.snd.trans Fld.fst rfl).via
theorem fld_fName : Fld rFunc rStr 0 MFunc.name := Fld.fst.via
theorem fld_fResult : Fld rFunc rStr 1 MFunc.result := (Fld.snd.trans Fld.fst rfl).via
theorem fld_fParams : Fld rFunc rVar.sl 2 MFunc.params := (Fld.snd.trans (Fld.snd.trans Fld.fst rfl) rfl).via
theorem fld_fVars : Fld rFunc rVar.sl 3 MFunc.vars := (Fld.snd.trans (Fld.snd.trans (Fld.snd.trans Fld.fst rfl) rfl) rfl).via
theorem fld_cName : Fld rClass rStr 0 MClass.name := Fld.fst.via
theorem fld_cFields : Fld rClass rVar.sl 1 MClass.fields := (Fld.snd.trans Fld.fst rfl).via
theorem fld_xName : Fld rExtern rStr 0 MExtern.name := Fld.fst.via
theorem fld_xN : Fld rExtern rInt 1 MExtern.n := (Fld.snd.trans Fld.fst rfl).via
theorem fld_pSsa : Fld rProg rBool 0 MProg.ssa := Fld.fst.via
theorem fld_pClasses : Fld rProg rClass.sl 1 MProg.classes := (Fld.snd.trans Fld.fst rfl).via
theorem fld_pGlobals : Fld rProg rVar.sl 2 MProg.globals := (Fld.snd.trans (Fld.snd.trans Fld.fst rfl) rfl).via
theorem fld_pExterns : Fld rProg rExtern.sl 3 MProg.externs := (Fld.snd.trans (Fld.snd.trans (Fld.snd.trans Fld.fst rfl) rfl) rfl).via
theorem fld_pFuncs : Fld rProg rFunc.sl 4 MProg.funcs := (Fld.snd.trans (Fld.snd.trans (Fld.snd.trans (Fld.snd.trans Fld.fst rfl) rfl) rfl) rfl).via

/-! Bounds -/
def bArg (a : MArg) : Prop := bInt a.kind ∧ bStr a.s ∧ bInt a.n ∧ True
def bIn (a : MIn) : Prop := bStr a.block ∧ bArg a.a ∧ True
def bPhi (a : MPhi) : Prop := bStr a.dst ∧ bL bIn a.ins ∧ True
def bBind (a : MBind) : Prop := bStr a.name ∧ bArg a.a ∧ True
def bStand (a : MStand) : Prop := bStr a.func ∧ bStr a.block ∧ bInt a.at' ∧ bL bBind a.vars ∧ True
def bVirt (a : MVirt) : Prop := bStr a.cls ∧ bL bArg a.vals ∧ True
def bInstr (a : MInstr) : Prop := bInt a.op ∧ bStr a.dst ∧ bStr a.name ∧ bL bArg a.args ∧ bL bStand a.stands ∧ bL bVirt a.objs ∧ True
def bTerm (a : MTerm) : Prop := bInt a.kind ∧ bArg a.a ∧ bL bStr a.to ∧ bInt a.n ∧ True
def bBlock (a : MBlock) : Prop := bStr a.name ∧ bL bPhi a.phis ∧ bL bInstr a.code ∧ bTerm a.term ∧ True
def bVar (a : MVar) : Prop := bStr a.name ∧ bStr a.type ∧ True
def bFunc (a : MFunc) : Prop := bStr a.name ∧ bStr a.result ∧ bL bVar a.params ∧ bL bVar a.vars ∧ bL bBlock a.blocks ∧ True
def bClass (a : MClass) : Prop := bStr a.name ∧ bL bVar a.fields ∧ True
def bExtern (a : MExtern) : Prop := bStr a.name ∧ bInt a.n ∧ True
def bProg (a : MProg) : Prop := True ∧ bL bClass a.classes ∧ bL bVar a.globals ∧ bL bExtern a.externs ∧ bL bFunc a.funcs ∧ True

end Go.Fw
