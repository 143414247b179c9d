/-
  DERIVED. GIVEN WITH THE SEED: THE CARDS: each row of YtojdbliehgejbaaDoorRows.lean that lists a variable, with what it lists TIED to the program's text (the seventh form; the later family's looks); each row that meets fmt, with fmt's text TOLD by the authors' own Lean function (tested against real Go, not proved from fmt's source: count such statements apart). THE CARD IS WHAT COUNTS. Prove the row's statement (the work); the ties are given (YtojdbliehgejbaaDoorTie.lean); close each card by the builder's one call (the guide's Derived/Test/ToyasCard.lean, 'card_holds'). Laid BY PROGRAM, IN A SANDBOX (cutbox-door.mjs). By AI agents, Wed Nov 11 2026. No macro, syntax, notation, axiom, sorry.
-/
import Derived.Test.YtojdbliehgejbaaDoorRows
import GoSem.ClaimSeven
namespace Go.Proofs.YtojdbliehgejbaaDoor
namespace Rows

/-- THE TIED CARD OF 'lateenlaw12.LiveKeeps'. -/
def liveKeepsCard : Claim7 := { stood := { row := liveKeepsRow, standIns := [], harness := (true, "8d0a40ecac758f61445a808a071a8d5fecdd3675c19376a4d90d0e3496def583"), looks := true }, kinds := [], alts := [], laidByText := true, laidKinds := [.data], laidTests := true, laidLooks := .later }
def LiveKeepsCardSaid : Prop := Claim7.holds Tryd.pinned (.plain (OpenSpec.ofChange liveKeepsSpec)) liveKeepsCard

/-- THE TIED CARD OF 'lateenlaw13.AssignKeeps'. -/
def assignKeepsCard : Claim7 := { stood := { row := assignKeepsRow, standIns := [], harness := (true, "8d0a40ecac758f61445a808a071a8d5fecdd3675c19376a4d90d0e3496def583"), looks := true }, kinds := [], alts := [], laidByText := true, laidKinds := [.data], laidTests := true, laidLooks := .later }
def AssignKeepsCardSaid : Prop := Claim7.holds Tryd.pinned (.plain (OpenSpec.ofChange assignKeepsSpec)) assignKeepsCard

/-- THE SECOND FORM's CARD OF 'lateenlaw12.LiveKeeps'. -/
def liveKeepsUptoCard : Claim7 := { stood := { row := liveKeepsUptoRow, standIns := [], harness := (true, "8d0a40ecac758f61445a808a071a8d5fecdd3675c19376a4d90d0e3496def583"), looks := true }, kinds := [], alts := [], laidByText := true, laidKinds := [.data], laidTests := true, laidLooks := .later }
def LiveKeepsUptoCardSaid : Prop := Claim7.holds Tryd.pinned (.plain (OpenSpec.upto liveKeepsSpec)) liveKeepsUptoCard

/-- THE SECOND FORM's CARD OF 'lateenlaw13.AssignKeeps'. -/
def assignKeepsUptoCard : Claim7 := { stood := { row := assignKeepsUptoRow, standIns := [], harness := (true, "8d0a40ecac758f61445a808a071a8d5fecdd3675c19376a4d90d0e3496def583"), looks := true }, kinds := [], alts := [], laidByText := true, laidKinds := [.data], laidTests := true, laidLooks := .later }
def AssignKeepsUptoCardSaid : Prop := Claim7.holds Tryd.pinned (.plain (OpenSpec.upto assignKeepsSpec)) assignKeepsUptoCard
end Rows
end Go.Proofs.YtojdbliehgejbaaDoor
