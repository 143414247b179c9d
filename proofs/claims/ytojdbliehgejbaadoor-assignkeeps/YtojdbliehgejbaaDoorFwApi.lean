/-
  The program's data, as it reads.
-/
import Derived.Test.YtojdbliehgejbaaDoorFwDec
import Derived.Test.YtojdbliehgejbaaDoorPlApi
namespace Go.Fw
open Go.Pl.Api

def rArg : RV MArg := (rInt.two (rStr.two (rInt.two RV.unit))).via fun a => (a.kind, a.s, a.n, ())
def rIn : RV MIn := (rStr.two (rArg.two RV.unit)).via fun a => (a.block, a.a, ())
def rPhi : RV MPhi := (rStr.two (rIn.sl.two RV.unit)).via fun a => (a.dst, a.ins, ())
def rBind : RV MBind := (rStr.two (rArg.two RV.unit)).via fun a => (a.name, a.a, ())
def rStand : RV MStand := (rStr.two (rStr.two (rInt.two (rBind.sl.two RV.unit)))).via fun a => (a.func, a.block, a.at', a.vars, ())
def rVirt : RV MVirt := (rStr.two (rArg.sl.two RV.unit)).via fun a => (a.cls, a.vals, ())
def rInstr : RV MInstr := (rInt.two (rStr.two (rStr.two (rArg.sl.two (rStand.sl.two (rVirt.sl.two RV.unit)))))).via fun a => (a.op, a.dst, a.name, a.args, a.stands, a.objs, ())
def rTerm : RV MTerm := (rInt.two (rArg.two (rStr.sl.two (rInt.two RV.unit)))).via fun a => (a.kind, a.a, a.to, a.n, ())
def rBlock : RV MBlock := (rStr.two (rPhi.sl.two (rInstr.sl.two (rTerm.two RV.unit)))).via fun a => (a.name, a.phis, a.code, a.term, ())
def rVar : RV MVar := (rStr.two (rStr.two RV.unit)).via fun a => (a.name, a.type, ())
def rFunc : RV MFunc := (rStr.two (rStr.two (rVar.sl.two (rVar.sl.two (rBlock.sl.two RV.unit))))).via fun a => (a.name, a.result, a.params, a.vars, a.blocks, ())

theorem fld_blocks : Fld rFunc rBlock.sl 4 MFunc.blocks := (Fld.snd.trans (Fld.snd.trans (Fld.snd.trans (Fld.snd.trans Fld.fst rfl) rfl) rfl) rfl).via
theorem fld_name : Fld rBlock rStr 0 MBlock.name := Fld.fst.via
theorem fld_phis : Fld rBlock rPhi.sl 1 MBlock.phis := (Fld.snd.trans Fld.fst rfl).via
theorem fld_code : Fld rBlock rInstr.sl 2 MBlock.code := (Fld.snd.trans (Fld.snd.trans Fld.fst rfl) rfl).via
theorem fld_term : Fld rBlock rTerm 3 MBlock.term := (Fld.snd.trans (Fld.snd.trans (Fld.snd.trans Fld.fst rfl) rfl) rfl).via
theorem fld_to : Fld rTerm rStr.sl 4 MTerm.to := (Fld.snd.trans (Fld.snd.trans Fld.fst rfl) rfl).via
theorem fld_dst : Fld rPhi rStr 0 MPhi.dst := Fld.fst.via
theorem fld_ins : Fld rPhi rIn.sl 1 MPhi.ins := (Fld.snd.trans Fld.fst rfl).via
theorem fld_inblock : Fld rIn rStr 0 MIn.block := Fld.fst.via

end Go.Fw
