/-
  The program's data, as plain data.
-/
namespace Go.Pl.Api

structure MArg where
  kind : Int
  s : ByteArray
  n : Int
structure MIn where
  block : ByteArray
  a : MArg
structure MPhi where
  dst : ByteArray
  ins : List MIn
structure MBind where
  name : ByteArray
  a : MArg
structure MStand where
  func : ByteArray
  block : ByteArray
  at' : Int
  vars : List MBind
structure MVirt where
  cls : ByteArray
  vals : List MArg
structure MInstr where
  op : Int
  dst : ByteArray
  name : ByteArray
  args : List MArg
  stands : List MStand
  objs : List MVirt
structure MTerm where
  kind : Int
  a : MArg
  to : List ByteArray
  n : Int
structure MBlock where
  name : ByteArray
  phis : List MPhi
  code : List MInstr
  term : MTerm
structure MVar where
  name : ByteArray
  type : ByteArray
structure MFunc where
  name : ByteArray
  result : ByteArray
  params : List MVar
  vars : List MVar
  blocks : List MBlock

/-- Where a block stands. -/
def place (f : MFunc) (name : ByteArray) : Option Nat := f.blocks.findIdx? fun b => b.name.toList == name.toList

theorem place_lt {f : MFunc} {name : ByteArray} {k : Nat} (h : place f name = some k) : k < f.blocks.length := by
  unfold place at h
  exact (List.findIdx?_eq_some_iff_getElem.1 h).1

end Go.Pl.Api
