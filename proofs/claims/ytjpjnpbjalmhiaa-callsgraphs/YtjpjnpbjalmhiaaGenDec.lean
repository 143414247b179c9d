/-
  Printed by gendec.py: what the statement tells of arguments of the program's data.
-/
import Derived.Test.YtjpjnpbjalmhiaaFwApi2
import Derived.Test.YtjpjnpbjalmhiaaChecked
namespace Go.Proofs.Ytjpjnpbjalmhiaa
open Go.Fw Go.Pl.Api
variable {H : Type} {enc : TypeId × Value → H} {w : World}

theorem und_4 : Try.prog.underlying 4 = some .bool := by kernel_rfl
theorem dec_4 : DecB H enc Try.prog w 4 rBool (fun _ => True) := DecB.bool und_4
theorem und_9 : Try.prog.underlying 9 = some .string := by kernel_rfl
theorem dec_9 : DecB H enc Try.prog w 9 rStr bStr := DecB.str und_9
theorem dec_73 : DecB H enc Try.prog w 73 rVar bVar := DecB.via (fun x => ⟨x.1, x.2.1⟩) (fun _ => rfl) (DecB.struct Try.underlying73 (by kernel_rfl) (DecFB.cons rfl (by kernel_rfl) dec_9 (DecFB.cons rfl (by kernel_rfl) dec_9 (DecFB.nil))))
theorem und_23 : Try.prog.underlying 23 = some (.slice 73) := by kernel_rfl
theorem dec_23 : DecB H enc Try.prog w 23 (RV.sl rVar) (bL bVar) := DecB.sl und_23 (by kernel_rfl) (by decide) (of_decide_eq_true (by kernel_rfl)) dec_73
theorem dec_42 : DecB H enc Try.prog w 42 rClass bClass := DecB.via (fun x => ⟨x.1, x.2.1⟩) (fun _ => rfl) (DecB.struct Try.underlying42 (by kernel_rfl) (DecFB.cons rfl (by kernel_rfl) dec_9 (DecFB.cons rfl (by kernel_rfl) dec_23 (DecFB.nil))))
theorem und_22 : Try.prog.underlying 22 = some (.slice 42) := by kernel_rfl
theorem dec_22 : DecB H enc Try.prog w 22 (RV.sl rClass) (bL bClass) := DecB.sl und_22 (by kernel_rfl) (by decide) (of_decide_eq_true (by kernel_rfl)) dec_42
theorem und_3 : Try.prog.underlying 3 = some (.int .i64) := by kernel_rfl
theorem dec_3 : DecB H enc Try.prog w 3 rInt bInt := DecB.int und_3
theorem dec_44 : DecB H enc Try.prog w 44 rExtern bExtern := DecB.via (fun x => ⟨x.1, x.2.1⟩) (fun _ => rfl) (DecB.struct Try.underlying44 (by kernel_rfl) (DecFB.cons rfl (by kernel_rfl) dec_9 (DecFB.cons rfl (by kernel_rfl) dec_3 (DecFB.nil))))
theorem und_24 : Try.prog.underlying 24 = some (.slice 44) := by kernel_rfl
theorem dec_24 : DecB H enc Try.prog w 24 (RV.sl rExtern) (bL bExtern) := DecB.sl und_24 (by kernel_rfl) (by decide) (of_decide_eq_true (by kernel_rfl)) dec_44
theorem und_2 : Try.prog.underlying 2 = some (.int .i64) := by kernel_rfl
theorem dec_2 : DecB H enc Try.prog w 2 rInt bInt := DecB.int und_2
theorem dec_53 : DecB H enc Try.prog w 53 rArg bArg := DecB.via (fun x => ⟨x.1, x.2.1, x.2.2.1⟩) (fun _ => rfl) (DecB.struct Try.underlying53 (by kernel_rfl) (DecFB.cons rfl (by kernel_rfl) dec_3 (DecFB.cons rfl (by kernel_rfl) dec_9 (DecFB.cons rfl (by kernel_rfl) dec_2 (DecFB.nil)))))
theorem dec_83 : DecB H enc Try.prog w 83 rIn bIn := DecB.via (fun x => ⟨x.1, x.2.1⟩) (fun _ => rfl) (DecB.struct Try.underlying83 (by kernel_rfl) (DecFB.cons rfl (by kernel_rfl) dec_9 (DecFB.cons rfl (by kernel_rfl) dec_53 (DecFB.nil))))
theorem und_79 : Try.prog.underlying 79 = some (.slice 83) := by kernel_rfl
theorem dec_79 : DecB H enc Try.prog w 79 (RV.sl rIn) (bL bIn) := DecB.sl und_79 (by kernel_rfl) (by decide) (of_decide_eq_true (by kernel_rfl)) dec_83
theorem dec_81 : DecB H enc Try.prog w 81 rPhi bPhi := DecB.via (fun x => ⟨x.1, x.2.1⟩) (fun _ => rfl) (DecB.struct Try.underlying81 (by kernel_rfl) (DecFB.cons rfl (by kernel_rfl) dec_9 (DecFB.cons rfl (by kernel_rfl) dec_79 (DecFB.nil))))
theorem und_50 : Try.prog.underlying 50 = some (.slice 81) := by kernel_rfl
theorem dec_50 : DecB H enc Try.prog w 50 (RV.sl rPhi) (bL bPhi) := DecB.sl und_50 (by kernel_rfl) (by decide) (of_decide_eq_true (by kernel_rfl)) dec_81
theorem und_59 : Try.prog.underlying 59 = some (.slice 53) := by kernel_rfl
theorem dec_59 : DecB H enc Try.prog w 59 (RV.sl rArg) (bL bArg) := DecB.sl und_59 (by kernel_rfl) (by decide) (of_decide_eq_true (by kernel_rfl)) dec_53
theorem dec_108 : DecB H enc Try.prog w 108 rBind bBind := DecB.via (fun x => ⟨x.1, x.2.1⟩) (fun _ => rfl) (DecB.struct Try.underlying108 (by kernel_rfl) (DecFB.cons rfl (by kernel_rfl) dec_9 (DecFB.cons rfl (by kernel_rfl) dec_53 (DecFB.nil))))
theorem und_104 : Try.prog.underlying 104 = some (.slice 108) := by kernel_rfl
theorem dec_104 : DecB H enc Try.prog w 104 (RV.sl rBind) (bL bBind) := DecB.sl und_104 (by kernel_rfl) (by decide) (of_decide_eq_true (by kernel_rfl)) dec_108
theorem dec_106 : DecB H enc Try.prog w 106 rStand bStand := DecB.via (fun x => ⟨x.1, x.2.1, x.2.2.1, x.2.2.2.1⟩) (fun _ => rfl) (DecB.struct Try.underlying106 (by kernel_rfl) (DecFB.cons rfl (by kernel_rfl) dec_9 (DecFB.cons rfl (by kernel_rfl) dec_9 (DecFB.cons rfl (by kernel_rfl) dec_3 (DecFB.cons rfl (by kernel_rfl) dec_104 (DecFB.nil))))))
theorem und_60 : Try.prog.underlying 60 = some (.slice 106) := by kernel_rfl
theorem dec_60 : DecB H enc Try.prog w 60 (RV.sl rStand) (bL bStand) := DecB.sl und_60 (by kernel_rfl) (by decide) (of_decide_eq_true (by kernel_rfl)) dec_106
theorem dec_110 : DecB H enc Try.prog w 110 rVirt bVirt := DecB.via (fun x => ⟨x.1, x.2.1⟩) (fun _ => rfl) (DecB.struct Try.underlying110 (by kernel_rfl) (DecFB.cons rfl (by kernel_rfl) dec_9 (DecFB.cons rfl (by kernel_rfl) dec_59 (DecFB.nil))))
theorem und_61 : Try.prog.underlying 61 = some (.slice 110) := by kernel_rfl
theorem dec_61 : DecB H enc Try.prog w 61 (RV.sl rVirt) (bL bVirt) := DecB.sl und_61 (by kernel_rfl) (by decide) (of_decide_eq_true (by kernel_rfl)) dec_110
theorem dec_63 : DecB H enc Try.prog w 63 rInstr bInstr := DecB.via (fun x => ⟨x.1, x.2.1, x.2.2.1, x.2.2.2.1, x.2.2.2.2.1, x.2.2.2.2.2.1⟩) (fun _ => rfl) (DecB.struct Try.underlying63 (by kernel_rfl) (DecFB.cons rfl (by kernel_rfl) dec_3 (DecFB.cons rfl (by kernel_rfl) dec_9 (DecFB.cons rfl (by kernel_rfl) dec_9 (DecFB.cons rfl (by kernel_rfl) dec_59 (DecFB.cons rfl (by kernel_rfl) dec_60 (DecFB.cons rfl (by kernel_rfl) dec_61 (DecFB.nil))))))))
theorem und_51 : Try.prog.underlying 51 = some (.slice 63) := by kernel_rfl
theorem dec_51 : DecB H enc Try.prog w 51 (RV.sl rInstr) (bL bInstr) := DecB.sl und_51 (by kernel_rfl) (by decide) (of_decide_eq_true (by kernel_rfl)) dec_63
theorem und_54 : Try.prog.underlying 54 = some (.slice 9) := by kernel_rfl
theorem dec_54 : DecB H enc Try.prog w 54 (RV.sl rStr) (bL bStr) := DecB.sl und_54 (by kernel_rfl) (by decide) (of_decide_eq_true (by kernel_rfl)) dec_9
theorem dec_56 : DecB H enc Try.prog w 56 rTerm bTerm := DecB.via (fun x => ⟨x.1, x.2.1, x.2.2.1, x.2.2.2.1⟩) (fun _ => rfl) (DecB.struct Try.underlying56 (by kernel_rfl) (DecFB.cons rfl (by kernel_rfl) dec_3 (DecFB.cons rfl (by kernel_rfl) dec_53 (DecFB.cons rfl (by kernel_rfl) dec_54 (DecFB.cons rfl (by kernel_rfl) dec_2 (DecFB.nil))))))
theorem dec_58 : DecB H enc Try.prog w 58 rBlock bBlock := DecB.via (fun x => ⟨x.1, x.2.1, x.2.2.1, x.2.2.2.1⟩) (fun _ => rfl) (DecB.struct Try.underlying58 (by kernel_rfl) (DecFB.cons rfl (by kernel_rfl) dec_9 (DecFB.cons rfl (by kernel_rfl) dec_50 (DecFB.cons rfl (by kernel_rfl) dec_51 (DecFB.cons rfl (by kernel_rfl) dec_56 (DecFB.nil))))))
theorem und_46 : Try.prog.underlying 46 = some (.slice 58) := by kernel_rfl
theorem dec_46 : DecB H enc Try.prog w 46 (RV.sl rBlock) (bL bBlock) := DecB.sl und_46 (by kernel_rfl) (by decide) (of_decide_eq_true (by kernel_rfl)) dec_58
theorem dec_48 : DecB H enc Try.prog w 48 rFunc bFunc := DecB.via (fun x => ⟨x.1, x.2.1, x.2.2.1, x.2.2.2.1, x.2.2.2.2.1⟩) (fun _ => rfl) (DecB.struct Try.underlying48 (by kernel_rfl) (DecFB.cons rfl (by kernel_rfl) dec_9 (DecFB.cons rfl (by kernel_rfl) dec_9 (DecFB.cons rfl (by kernel_rfl) dec_23 (DecFB.cons rfl (by kernel_rfl) dec_23 (DecFB.cons rfl (by kernel_rfl) dec_46 (DecFB.nil)))))))
theorem und_25 : Try.prog.underlying 25 = some (.slice 48) := by kernel_rfl
theorem dec_25 : DecB H enc Try.prog w 25 (RV.sl rFunc) (bL bFunc) := DecB.sl und_25 (by kernel_rfl) (by decide) (of_decide_eq_true (by kernel_rfl)) dec_48
theorem dec_27 : DecB H enc Try.prog w 27 rProg bProg := DecB.via (fun x => ⟨x.1, x.2.1, x.2.2.1, x.2.2.2.1, x.2.2.2.2.1⟩) (fun _ => rfl) (DecB.struct Try.underlying27 (by kernel_rfl) (DecFB.cons rfl (by kernel_rfl) dec_4 (DecFB.cons rfl (by kernel_rfl) dec_22 (DecFB.cons rfl (by kernel_rfl) dec_23 (DecFB.cons rfl (by kernel_rfl) dec_24 (DecFB.cons rfl (by kernel_rfl) dec_25 (DecFB.nil)))))))

end Go.Proofs.Ytjpjnpbjalmhiaa
