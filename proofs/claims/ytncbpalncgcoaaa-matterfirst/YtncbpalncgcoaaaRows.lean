/-
  No cell of these rows narrows 'for every input' (looked for: loops, veiled, ifaces, maps, wideKeys, modest, calm, conditions, laid).
  DERIVED. THE GIVEN ROWS OF THIS SEAT. 13 by the template 'for every input the law returns true; each argument reads behind the call as it read before'; 0 by the template 'total and deterministic' (their statements: YtncbpalncgcoaaaTotals.lean).
  GIVEN WITH THE SEED: the statements are not yours to turn. If you find one false, say at which input.
  Laid BY PROGRAM, IN A SANDBOX (cutbox-rows.mjs): the forced cells as the released guide's own fill.sh prints them over the translation 1fb2cd8511b21e96… (all of the seat's roots in one cut). By AI agents, Wed Nov 11 2026. No macro, syntax, notation, axiom, sorry.
-/
import Derived.Test.YtncbpalncgcoaaaChecked
import GoSem.Claim
import GoSem.ClaimJoined
import GoSem.ClaimMapViews
import Derived.JoinedTies
import Derived.KernelRfl
namespace Go.Proofs.Ytncbpalncgcoaaa
/- THE CELL 'sum', in the pinned program and in every row, IS THE sha256 OF THE DUMP (.gsa) THAT YtncbpalncgcoaaaProg.lean LOADS. Nothing in Lean hashes anything: it is a label: what it is worth is what the hold of that sum in a sandbox is worth. -/
noncomputable def Try.pinned : Pinned := { name := "ytncbpalncgcoaaa", sum := "1fb2cd8511b21e96c10c8c56ae9a9ecbd3962e005cb7cc95222731b6afd721da", checked := Try.checked }
namespace Rows
def none {H : Type} : Left H := { results := [], args := [] }

/-- 'lateenlaw23.MergeMeans': WHATEVER THE INPUT: true; the input reads as it did. -/
def mergeMeansSpec : ChangeSpec := { name := "mergeMeans", fn := fun _ => fun
  | [d1, d2] => { results := [.lit (.bool true)], args := [d1, d2] }
  | _ => none }
def mergeMeansRow : OpenClaim := { program := "ytncbpalncgcoaaa", sum := "1fb2cd8511b21e96c10c8c56ae9a9ecbd3962e005cb7cc95222731b6afd721da", func := "lateen/lateenlaw23.MergeMeans", spec := "mergeMeans", unfollowed := true, recurses := true, apart := false }
def MergeMeansSaid : Prop := mergeMeansRow.holds Try.pinned (OpenSpec.ofChange mergeMeansSpec)

/-- ITS FALSE NEIGHBOUR: 'it returns false'. Refute it at one input. -/
def mergeMeansWrong : ChangeSpec := { name := "mergeMeans", fn := fun _ => fun
  | [d1, d2] => { results := [.lit (.bool false)], args := [d1, d2] }
  | _ => none }
def MergeMeansWrongFalsely : Prop := mergeMeansRow.holds Try.pinned (OpenSpec.ofChange mergeMeansWrong)

/-- 'lateenlaw23.MergeTwice': WHATEVER THE INPUT: true; the input reads as it did. -/
def mergeTwiceSpec : ChangeSpec := { name := "mergeTwice", fn := fun _ => fun
  | [d1, d2] => { results := [.lit (.bool true)], args := [d1, d2] }
  | _ => none }
def mergeTwiceRow : OpenClaim := { program := "ytncbpalncgcoaaa", sum := "1fb2cd8511b21e96c10c8c56ae9a9ecbd3962e005cb7cc95222731b6afd721da", func := "lateen/lateenlaw23.MergeTwice", spec := "mergeTwice", unfollowed := true, recurses := true, apart := false }
def MergeTwiceSaid : Prop := mergeTwiceRow.holds Try.pinned (OpenSpec.ofChange mergeTwiceSpec)

/-- ITS FALSE NEIGHBOUR: 'it returns false'. Refute it at one input. -/
def mergeTwiceWrong : ChangeSpec := { name := "mergeTwice", fn := fun _ => fun
  | [d1, d2] => { results := [.lit (.bool false)], args := [d1, d2] }
  | _ => none }
def MergeTwiceWrongFalsely : Prop := mergeTwiceRow.holds Try.pinned (OpenSpec.ofChange mergeTwiceWrong)

/-- 'lateenlaw23.MergeKeeps': WHATEVER THE INPUT: true; the input reads as it did. -/
def mergeKeepsSpec : ChangeSpec := { name := "mergeKeeps", fn := fun _ => fun
  | [d1, d2] => { results := [.lit (.bool true)], args := [d1, d2] }
  | _ => none }
def mergeKeepsRow : OpenClaim := { program := "ytncbpalncgcoaaa", sum := "1fb2cd8511b21e96c10c8c56ae9a9ecbd3962e005cb7cc95222731b6afd721da", func := "lateen/lateenlaw23.MergeKeeps", spec := "mergeKeeps", unfollowed := true, recurses := true, apart := false }
def MergeKeepsSaid : Prop := mergeKeepsRow.holds Try.pinned (OpenSpec.ofChange mergeKeepsSpec)

/-- ITS FALSE NEIGHBOUR: 'it returns false'. Refute it at one input. -/
def mergeKeepsWrong : ChangeSpec := { name := "mergeKeeps", fn := fun _ => fun
  | [d1, d2] => { results := [.lit (.bool false)], args := [d1, d2] }
  | _ => none }
def MergeKeepsWrongFalsely : Prop := mergeKeepsRow.holds Try.pinned (OpenSpec.ofChange mergeKeepsWrong)

/-- 'lateenlaw22.VstateFinds': WHATEVER THE INPUT: true; the input reads as it did. -/
def vstateFindsSpec : ChangeSpec := { name := "vstateFinds", fn := fun _ => fun
  | [d1, d2] => { results := [.lit (.bool true)], args := [d1, d2] }
  | _ => none }
def vstateFindsRow : OpenClaim := { program := "ytncbpalncgcoaaa", sum := "1fb2cd8511b21e96c10c8c56ae9a9ecbd3962e005cb7cc95222731b6afd721da", func := "lateen/lateenlaw22.VstateFinds", spec := "vstateFinds", inPlace := ["slices.overlaps[lateen/vstate.Obj]"], unfollowed := true, recurses := true, apart := false }
def VstateFindsSaid : Prop := vstateFindsRow.holds Try.pinned (OpenSpec.ofChange vstateFindsSpec)

/-- ITS FALSE NEIGHBOUR: 'it returns false'. Refute it at one input. -/
def vstateFindsWrong : ChangeSpec := { name := "vstateFinds", fn := fun _ => fun
  | [d1, d2] => { results := [.lit (.bool false)], args := [d1, d2] }
  | _ => none }
def VstateFindsWrongFalsely : Prop := vstateFindsRow.holds Try.pinned (OpenSpec.ofChange vstateFindsWrong)

/-- 'lateenlaw22.VstateReach': WHATEVER THE INPUT: true; the input reads as it did. -/
def vstateReachSpec : ChangeSpec := { name := "vstateReach", fn := fun _ => fun
  | [d1, d2] => { results := [.lit (.bool true)], args := [d1, d2] }
  | _ => none }
def vstateReachRow : OpenClaim := { program := "ytncbpalncgcoaaa", sum := "1fb2cd8511b21e96c10c8c56ae9a9ecbd3962e005cb7cc95222731b6afd721da", func := "lateen/lateenlaw22.VstateReach", spec := "vstateReach", inPlace := ["slices.overlaps[lateen/vstate.Obj]"], unfollowed := true, recurses := true, apart := false }
def VstateReachSaid : Prop := vstateReachRow.holds Try.pinned (OpenSpec.ofChange vstateReachSpec)

/-- ITS FALSE NEIGHBOUR: 'it returns false'. Refute it at one input. -/
def vstateReachWrong : ChangeSpec := { name := "vstateReach", fn := fun _ => fun
  | [d1, d2] => { results := [.lit (.bool false)], args := [d1, d2] }
  | _ => none }
def VstateReachWrongFalsely : Prop := vstateReachRow.holds Try.pinned (OpenSpec.ofChange vstateReachWrong)

/-- 'lateenlaw22.VstateChanges': WHATEVER THE INPUT: true; the input reads as it did. -/
def vstateChangesSpec : ChangeSpec := { name := "vstateChanges", fn := fun _ => fun
  | [d1, d2, d3, d4, d5] => { results := [.lit (.bool true)], args := [d1, d2, d3, d4, d5] }
  | _ => none }
def vstateChangesRow : OpenClaim := { program := "ytncbpalncgcoaaa", sum := "1fb2cd8511b21e96c10c8c56ae9a9ecbd3962e005cb7cc95222731b6afd721da", func := "lateen/lateenlaw22.VstateChanges", spec := "vstateChanges", inPlace := ["slices.overlaps[lateen/vstate.Obj]"], unfollowed := true, recurses := true, apart := false }
def VstateChangesSaid : Prop := vstateChangesRow.holds Try.pinned (OpenSpec.ofChange vstateChangesSpec)

/-- ITS FALSE NEIGHBOUR: 'it returns false'. Refute it at one input. -/
def vstateChangesWrong : ChangeSpec := { name := "vstateChanges", fn := fun _ => fun
  | [d1, d2, d3, d4, d5] => { results := [.lit (.bool false)], args := [d1, d2, d3, d4, d5] }
  | _ => none }
def VstateChangesWrongFalsely : Prop := vstateChangesRow.holds Try.pinned (OpenSpec.ofChange vstateChangesWrong)

/-- 'lateenlaw22.VstateSets': WHATEVER THE INPUT: true; the input reads as it did. -/
def vstateSetsSpec : ChangeSpec := { name := "vstateSets", fn := fun _ => fun
  | [d1, d2, d3, d4, d5, d6] => { results := [.lit (.bool true)], args := [d1, d2, d3, d4, d5, d6] }
  | _ => none }
def vstateSetsRow : OpenClaim := { program := "ytncbpalncgcoaaa", sum := "1fb2cd8511b21e96c10c8c56ae9a9ecbd3962e005cb7cc95222731b6afd721da", func := "lateen/lateenlaw22.VstateSets", spec := "vstateSets", inPlace := ["slices.overlaps[lateen/vstate.Obj]"], unfollowed := true, recurses := true, apart := false }
def VstateSetsSaid : Prop := vstateSetsRow.holds Try.pinned (OpenSpec.ofChange vstateSetsSpec)

/-- ITS FALSE NEIGHBOUR: 'it returns false'. Refute it at one input. -/
def vstateSetsWrong : ChangeSpec := { name := "vstateSets", fn := fun _ => fun
  | [d1, d2, d3, d4, d5, d6] => { results := [.lit (.bool false)], args := [d1, d2, d3, d4, d5, d6] }
  | _ => none }
def VstateSetsWrongFalsely : Prop := vstateSetsRow.holds Try.pinned (OpenSpec.ofChange vstateSetsWrong)

/-- 'lateenlaw22.VstateKeeps': WHATEVER THE INPUT: true; the input reads as it did. -/
def vstateKeepsSpec : ChangeSpec := { name := "vstateKeeps", fn := fun _ => fun
  | [d1, d2, d3] => { results := [.lit (.bool true)], args := [d1, d2, d3] }
  | _ => none }
def vstateKeepsRow : OpenClaim := { program := "ytncbpalncgcoaaa", sum := "1fb2cd8511b21e96c10c8c56ae9a9ecbd3962e005cb7cc95222731b6afd721da", func := "lateen/lateenlaw22.VstateKeeps", spec := "vstateKeeps", inPlace := ["slices.overlaps[lateen/vstate.Obj]"], unfollowed := true, recurses := true, apart := false }
def VstateKeepsSaid : Prop := vstateKeepsRow.holds Try.pinned (OpenSpec.ofChange vstateKeepsSpec)

/-- ITS FALSE NEIGHBOUR: 'it returns false'. Refute it at one input. -/
def vstateKeepsWrong : ChangeSpec := { name := "vstateKeeps", fn := fun _ => fun
  | [d1, d2, d3] => { results := [.lit (.bool false)], args := [d1, d2, d3] }
  | _ => none }
def VstateKeepsWrongFalsely : Prop := vstateKeepsRow.holds Try.pinned (OpenSpec.ofChange vstateKeepsWrong)

/-- 'lateenlaw22.VstateReaches': WHATEVER THE INPUT: true; the input reads as it did. -/
def vstateReachesSpec : ChangeSpec := { name := "vstateReaches", fn := fun _ => fun
  | [d1, d2, d3] => { results := [.lit (.bool true)], args := [d1, d2, d3] }
  | _ => none }
def vstateReachesRow : OpenClaim := { program := "ytncbpalncgcoaaa", sum := "1fb2cd8511b21e96c10c8c56ae9a9ecbd3962e005cb7cc95222731b6afd721da", func := "lateen/lateenlaw22.VstateReaches", spec := "vstateReaches", inPlace := ["slices.overlaps[lateen/vstate.Obj]"], unfollowed := true, recurses := true, apart := false }
def VstateReachesSaid : Prop := vstateReachesRow.holds Try.pinned (OpenSpec.ofChange vstateReachesSpec)

/-- ITS FALSE NEIGHBOUR: 'it returns false'. Refute it at one input. -/
def vstateReachesWrong : ChangeSpec := { name := "vstateReaches", fn := fun _ => fun
  | [d1, d2, d3] => { results := [.lit (.bool false)], args := [d1, d2, d3] }
  | _ => none }
def VstateReachesWrongFalsely : Prop := vstateReachesRow.holds Try.pinned (OpenSpec.ofChange vstateReachesWrong)

/-- 'lateenlaw24.MatterCodes': WHATEVER THE INPUT: true; the input reads as it did. -/
def matterCodesSpec : ChangeSpec := { name := "matterCodes", fn := fun _ => fun
  | [d1, d2] => { results := [.lit (.bool true)], args := [d1, d2] }
  | _ => none }
def matterCodesRow : OpenClaim := { program := "ytncbpalncgcoaaa", sum := "1fb2cd8511b21e96c10c8c56ae9a9ecbd3962e005cb7cc95222731b6afd721da", func := "lateen/lateenlaw24.MatterCodes", spec := "matterCodes", inPlace := ["slices.overlaps[lateen/vstate.Obj]"], unfollowed := true, recurses := true, apart := false }
def MatterCodesSaid : Prop := matterCodesRow.holds Try.pinned (OpenSpec.ofChange matterCodesSpec)

/-- ITS FALSE NEIGHBOUR: 'it returns false'. Refute it at one input. -/
def matterCodesWrong : ChangeSpec := { name := "matterCodes", fn := fun _ => fun
  | [d1, d2] => { results := [.lit (.bool false)], args := [d1, d2] }
  | _ => none }
def MatterCodesWrongFalsely : Prop := matterCodesRow.holds Try.pinned (OpenSpec.ofChange matterCodesWrong)

/-- 'lateenlaw24.MatterFirst': WHATEVER THE INPUT: true; the input reads as it did. -/
def matterFirstSpec : ChangeSpec := { name := "matterFirst", fn := fun _ => fun
  | [d1, d2] => { results := [.lit (.bool true)], args := [d1, d2] }
  | _ => none }
def matterFirstRow : OpenClaim := { program := "ytncbpalncgcoaaa", sum := "1fb2cd8511b21e96c10c8c56ae9a9ecbd3962e005cb7cc95222731b6afd721da", func := "lateen/lateenlaw24.MatterFirst", spec := "matterFirst", inPlace := ["slices.overlaps[lateen/vstate.Obj]"], unfollowed := true, recurses := true, apart := false }
def MatterFirstSaid : Prop := matterFirstRow.holds Try.pinned (OpenSpec.ofChange matterFirstSpec)

/-- ITS FALSE NEIGHBOUR: 'it returns false'. Refute it at one input. -/
def matterFirstWrong : ChangeSpec := { name := "matterFirst", fn := fun _ => fun
  | [d1, d2] => { results := [.lit (.bool false)], args := [d1, d2] }
  | _ => none }
def MatterFirstWrongFalsely : Prop := matterFirstRow.holds Try.pinned (OpenSpec.ofChange matterFirstWrong)

/-- 'lateenlaw24.MatterAll': WHATEVER THE INPUT: true; the input reads as it did. -/
def matterAllSpec : ChangeSpec := { name := "matterAll", fn := fun _ => fun
  | [d1, d2] => { results := [.lit (.bool true)], args := [d1, d2] }
  | _ => none }
def matterAllRow : OpenClaim := { program := "ytncbpalncgcoaaa", sum := "1fb2cd8511b21e96c10c8c56ae9a9ecbd3962e005cb7cc95222731b6afd721da", func := "lateen/lateenlaw24.MatterAll", spec := "matterAll", inPlace := ["slices.overlaps[lateen/vstate.Obj]"], unfollowed := true, recurses := true, apart := false }
def MatterAllSaid : Prop := matterAllRow.holds Try.pinned (OpenSpec.ofChange matterAllSpec)

/-- ITS FALSE NEIGHBOUR: 'it returns false'. Refute it at one input. -/
def matterAllWrong : ChangeSpec := { name := "matterAll", fn := fun _ => fun
  | [d1, d2] => { results := [.lit (.bool false)], args := [d1, d2] }
  | _ => none }
def MatterAllWrongFalsely : Prop := matterAllRow.holds Try.pinned (OpenSpec.ofChange matterAllWrong)

/-- 'lateenlaw24.MatterKeeps': WHATEVER THE INPUT: true; the input reads as it did. -/
def matterKeepsSpec : ChangeSpec := { name := "matterKeeps", fn := fun _ => fun
  | [d1, d2] => { results := [.lit (.bool true)], args := [d1, d2] }
  | _ => none }
def matterKeepsRow : OpenClaim := { program := "ytncbpalncgcoaaa", sum := "1fb2cd8511b21e96c10c8c56ae9a9ecbd3962e005cb7cc95222731b6afd721da", func := "lateen/lateenlaw24.MatterKeeps", spec := "matterKeeps", inPlace := ["slices.overlaps[lateen/vstate.Obj]"], unfollowed := true, recurses := true, apart := false }
def MatterKeepsSaid : Prop := matterKeepsRow.holds Try.pinned (OpenSpec.ofChange matterKeepsSpec)

/-- ITS FALSE NEIGHBOUR: 'it returns false'. Refute it at one input. -/
def matterKeepsWrong : ChangeSpec := { name := "matterKeeps", fn := fun _ => fun
  | [d1, d2] => { results := [.lit (.bool false)], args := [d1, d2] }
  | _ => none }
def MatterKeepsWrongFalsely : Prop := matterKeepsRow.holds Try.pinned (OpenSpec.ofChange matterKeepsWrong)

/- THE SECOND FORM. 'bulk': how many values and letters a reading holds, each counted each time it is reached (what is shared counts as often as it is met; a slice's spare places count too). A statement '..UptoSaid' is the law's where the arguments, and the package variables that the reading takes, are together of bulk at most 1048576: NARROWER than '..Said'. Prove '..Said' where nothing that the law and all that it calls make is longer than what came in: it says more and counts as full. Else prove '..UptoSaid'. A law counts once. -/
mutual
def uptoBulk {H : Type} : DataW H → Nat
  | .lit (.string bytes) => bytes.length + 1
  | .lit _ => 1
  | .nil => 1
  | .ptr d => uptoBulk d + 1
  | .slice elems spare => uptoBulkAll elems + uptoBulkAll spare + 1
  | .agg parts => uptoBulkAll parts + 1
  | .iface _ d => uptoBulk d + 1
  | .map entries => uptoBulkEntries entries + 1
  | .held _ => 1
def uptoBulkAll {H : Type} : List (DataW H) → Nat
  | [] => 0
  | d :: r => uptoBulk d + uptoBulkAll r
def uptoBulkEntries {H : Type} : List (Lit × DataW H) → Nat
  | [] => 0
  | x :: r => uptoBulkEntry x + uptoBulkEntries r
def uptoBulkEntry {H : Type} : Lit × DataW H → Nat
  | (.string bytes, d) => bytes.length + uptoBulk d + 1
  | (_, d) => uptoBulk d + 1
 end
def uptoSmall : (H : Type) → List (DataW H) → Bool := fun _ ds => decide (uptoBulkAll ds ≤ 1048576)
def OpenSpec.upto (s : _root_.Go.ChangeSpec) : _root_.Go.OpenSpec := { _root_.Go.OpenSpec.ofChange s with cond := some uptoSmall }

/-- 'lateenlaw23.MergeMeans', WHERE WHAT IT READS IS OF BULK AT MOST 1048576: true; the input reads as it did. -/
def mergeMeansUptoRow : OpenClaim := { program := "ytncbpalncgcoaaa", sum := "1fb2cd8511b21e96c10c8c56ae9a9ecbd3962e005cb7cc95222731b6afd721da", func := "lateen/lateenlaw23.MergeMeans", spec := "mergeMeans", unfollowed := true, recurses := true, apart := false, narrowed := true }
def MergeMeansUptoSaid : Prop := mergeMeansUptoRow.holds Try.pinned (OpenSpec.upto mergeMeansSpec)

/-- 'lateenlaw23.MergeTwice', WHERE WHAT IT READS IS OF BULK AT MOST 1048576: true; the input reads as it did. -/
def mergeTwiceUptoRow : OpenClaim := { program := "ytncbpalncgcoaaa", sum := "1fb2cd8511b21e96c10c8c56ae9a9ecbd3962e005cb7cc95222731b6afd721da", func := "lateen/lateenlaw23.MergeTwice", spec := "mergeTwice", unfollowed := true, recurses := true, apart := false, narrowed := true }
def MergeTwiceUptoSaid : Prop := mergeTwiceUptoRow.holds Try.pinned (OpenSpec.upto mergeTwiceSpec)

/-- 'lateenlaw23.MergeKeeps', WHERE WHAT IT READS IS OF BULK AT MOST 1048576: true; the input reads as it did. -/
def mergeKeepsUptoRow : OpenClaim := { program := "ytncbpalncgcoaaa", sum := "1fb2cd8511b21e96c10c8c56ae9a9ecbd3962e005cb7cc95222731b6afd721da", func := "lateen/lateenlaw23.MergeKeeps", spec := "mergeKeeps", unfollowed := true, recurses := true, apart := false, narrowed := true }
def MergeKeepsUptoSaid : Prop := mergeKeepsUptoRow.holds Try.pinned (OpenSpec.upto mergeKeepsSpec)

/-- 'lateenlaw22.VstateFinds', WHERE WHAT IT READS IS OF BULK AT MOST 1048576: true; the input reads as it did. -/
def vstateFindsUptoRow : OpenClaim := { program := "ytncbpalncgcoaaa", sum := "1fb2cd8511b21e96c10c8c56ae9a9ecbd3962e005cb7cc95222731b6afd721da", func := "lateen/lateenlaw22.VstateFinds", spec := "vstateFinds", inPlace := ["slices.overlaps[lateen/vstate.Obj]"], unfollowed := true, recurses := true, apart := false, narrowed := true }
def VstateFindsUptoSaid : Prop := vstateFindsUptoRow.holds Try.pinned (OpenSpec.upto vstateFindsSpec)

/-- 'lateenlaw22.VstateReach', WHERE WHAT IT READS IS OF BULK AT MOST 1048576: true; the input reads as it did. -/
def vstateReachUptoRow : OpenClaim := { program := "ytncbpalncgcoaaa", sum := "1fb2cd8511b21e96c10c8c56ae9a9ecbd3962e005cb7cc95222731b6afd721da", func := "lateen/lateenlaw22.VstateReach", spec := "vstateReach", inPlace := ["slices.overlaps[lateen/vstate.Obj]"], unfollowed := true, recurses := true, apart := false, narrowed := true }
def VstateReachUptoSaid : Prop := vstateReachUptoRow.holds Try.pinned (OpenSpec.upto vstateReachSpec)

/-- 'lateenlaw22.VstateChanges', WHERE WHAT IT READS IS OF BULK AT MOST 1048576: true; the input reads as it did. -/
def vstateChangesUptoRow : OpenClaim := { program := "ytncbpalncgcoaaa", sum := "1fb2cd8511b21e96c10c8c56ae9a9ecbd3962e005cb7cc95222731b6afd721da", func := "lateen/lateenlaw22.VstateChanges", spec := "vstateChanges", inPlace := ["slices.overlaps[lateen/vstate.Obj]"], unfollowed := true, recurses := true, apart := false, narrowed := true }
def VstateChangesUptoSaid : Prop := vstateChangesUptoRow.holds Try.pinned (OpenSpec.upto vstateChangesSpec)

/-- 'lateenlaw22.VstateSets', WHERE WHAT IT READS IS OF BULK AT MOST 1048576: true; the input reads as it did. -/
def vstateSetsUptoRow : OpenClaim := { program := "ytncbpalncgcoaaa", sum := "1fb2cd8511b21e96c10c8c56ae9a9ecbd3962e005cb7cc95222731b6afd721da", func := "lateen/lateenlaw22.VstateSets", spec := "vstateSets", inPlace := ["slices.overlaps[lateen/vstate.Obj]"], unfollowed := true, recurses := true, apart := false, narrowed := true }
def VstateSetsUptoSaid : Prop := vstateSetsUptoRow.holds Try.pinned (OpenSpec.upto vstateSetsSpec)

/-- 'lateenlaw22.VstateKeeps', WHERE WHAT IT READS IS OF BULK AT MOST 1048576: true; the input reads as it did. -/
def vstateKeepsUptoRow : OpenClaim := { program := "ytncbpalncgcoaaa", sum := "1fb2cd8511b21e96c10c8c56ae9a9ecbd3962e005cb7cc95222731b6afd721da", func := "lateen/lateenlaw22.VstateKeeps", spec := "vstateKeeps", inPlace := ["slices.overlaps[lateen/vstate.Obj]"], unfollowed := true, recurses := true, apart := false, narrowed := true }
def VstateKeepsUptoSaid : Prop := vstateKeepsUptoRow.holds Try.pinned (OpenSpec.upto vstateKeepsSpec)

/-- 'lateenlaw22.VstateReaches', WHERE WHAT IT READS IS OF BULK AT MOST 1048576: true; the input reads as it did. -/
def vstateReachesUptoRow : OpenClaim := { program := "ytncbpalncgcoaaa", sum := "1fb2cd8511b21e96c10c8c56ae9a9ecbd3962e005cb7cc95222731b6afd721da", func := "lateen/lateenlaw22.VstateReaches", spec := "vstateReaches", inPlace := ["slices.overlaps[lateen/vstate.Obj]"], unfollowed := true, recurses := true, apart := false, narrowed := true }
def VstateReachesUptoSaid : Prop := vstateReachesUptoRow.holds Try.pinned (OpenSpec.upto vstateReachesSpec)

/-- 'lateenlaw24.MatterCodes', WHERE WHAT IT READS IS OF BULK AT MOST 1048576: true; the input reads as it did. -/
def matterCodesUptoRow : OpenClaim := { program := "ytncbpalncgcoaaa", sum := "1fb2cd8511b21e96c10c8c56ae9a9ecbd3962e005cb7cc95222731b6afd721da", func := "lateen/lateenlaw24.MatterCodes", spec := "matterCodes", inPlace := ["slices.overlaps[lateen/vstate.Obj]"], unfollowed := true, recurses := true, apart := false, narrowed := true }
def MatterCodesUptoSaid : Prop := matterCodesUptoRow.holds Try.pinned (OpenSpec.upto matterCodesSpec)

/-- 'lateenlaw24.MatterFirst', WHERE WHAT IT READS IS OF BULK AT MOST 1048576: true; the input reads as it did. -/
def matterFirstUptoRow : OpenClaim := { program := "ytncbpalncgcoaaa", sum := "1fb2cd8511b21e96c10c8c56ae9a9ecbd3962e005cb7cc95222731b6afd721da", func := "lateen/lateenlaw24.MatterFirst", spec := "matterFirst", inPlace := ["slices.overlaps[lateen/vstate.Obj]"], unfollowed := true, recurses := true, apart := false, narrowed := true }
def MatterFirstUptoSaid : Prop := matterFirstUptoRow.holds Try.pinned (OpenSpec.upto matterFirstSpec)

/-- 'lateenlaw24.MatterAll', WHERE WHAT IT READS IS OF BULK AT MOST 1048576: true; the input reads as it did. -/
def matterAllUptoRow : OpenClaim := { program := "ytncbpalncgcoaaa", sum := "1fb2cd8511b21e96c10c8c56ae9a9ecbd3962e005cb7cc95222731b6afd721da", func := "lateen/lateenlaw24.MatterAll", spec := "matterAll", inPlace := ["slices.overlaps[lateen/vstate.Obj]"], unfollowed := true, recurses := true, apart := false, narrowed := true }
def MatterAllUptoSaid : Prop := matterAllUptoRow.holds Try.pinned (OpenSpec.upto matterAllSpec)

/-- 'lateenlaw24.MatterKeeps', WHERE WHAT IT READS IS OF BULK AT MOST 1048576: true; the input reads as it did. -/
def matterKeepsUptoRow : OpenClaim := { program := "ytncbpalncgcoaaa", sum := "1fb2cd8511b21e96c10c8c56ae9a9ecbd3962e005cb7cc95222731b6afd721da", func := "lateen/lateenlaw24.MatterKeeps", spec := "matterKeeps", inPlace := ["slices.overlaps[lateen/vstate.Obj]"], unfollowed := true, recurses := true, apart := false, narrowed := true }
def MatterKeepsUptoSaid : Prop := matterKeepsUptoRow.holds Try.pinned (OpenSpec.upto matterKeepsSpec)

end Rows
end Go.Proofs.Ytncbpalncgcoaaa
