/-
  Printed by gendec.py: what the statement tells of arguments of the program's data.
-/
import Derived.Test.YtojdbliehgejbaaFwApi2
import Derived.Test.YtojdbliehgejbaaChecked
namespace Go.Proofs.Ytojdbliehgejbaa
open Go.Fw Go.Pl.Api
variable {H : Type} {enc : TypeId × Value → H} {w : World}

theorem und_3 : Try.prog.underlying 3 = some (.int .i64) := by kernel_rfl
theorem dec_3 : DecB H enc Try.prog w 3 rInt bInt := DecB.int und_3
theorem und_9 : Try.prog.underlying 9 = some .string := by kernel_rfl
theorem dec_9 : DecB H enc Try.prog w 9 rStr bStr := DecB.str und_9
theorem und_2 : Try.prog.underlying 2 = some (.int .i64) := by kernel_rfl
theorem dec_2 : DecB H enc Try.prog w 2 rInt bInt := DecB.int und_2
theorem dec_47 : DecB H enc Try.prog w 47 rArg bArg := DecB.via (fun x => ⟨x.1, x.2.1, x.2.2.1⟩) (fun _ => rfl) (DecB.struct Try.underlying47 (by kernel_rfl) (DecFB.cons rfl (by kernel_rfl) dec_3 (DecFB.cons rfl (by kernel_rfl) dec_9 (DecFB.cons rfl (by kernel_rfl) dec_2 (DecFB.nil)))))
theorem und_22 : Try.prog.underlying 22 = some (.slice 47) := by kernel_rfl
theorem dec_22 : DecB H enc Try.prog w 22 (RV.sl rArg) (bL bArg) := DecB.sl und_22 (by kernel_rfl) (by decide) (of_decide_eq_true (by kernel_rfl)) dec_47
theorem dec_72 : DecB H enc Try.prog w 72 rBind bBind := DecB.via (fun x => ⟨x.1, x.2.1⟩) (fun _ => rfl) (DecB.struct Try.underlying72 (by kernel_rfl) (DecFB.cons rfl (by kernel_rfl) dec_9 (DecFB.cons rfl (by kernel_rfl) dec_47 (DecFB.nil))))
theorem und_28 : Try.prog.underlying 28 = some (.slice 72) := by kernel_rfl
theorem dec_28 : DecB H enc Try.prog w 28 (RV.sl rBind) (bL bBind) := DecB.sl und_28 (by kernel_rfl) (by decide) (of_decide_eq_true (by kernel_rfl)) dec_72
theorem dec_30 : DecB H enc Try.prog w 30 rStand bStand := DecB.via (fun x => ⟨x.1, x.2.1, x.2.2.1, x.2.2.2.1⟩) (fun _ => rfl) (DecB.struct Try.underlying30 (by kernel_rfl) (DecFB.cons rfl (by kernel_rfl) dec_9 (DecFB.cons rfl (by kernel_rfl) dec_9 (DecFB.cons rfl (by kernel_rfl) dec_3 (DecFB.cons rfl (by kernel_rfl) dec_28 (DecFB.nil))))))
theorem und_23 : Try.prog.underlying 23 = some (.slice 30) := by kernel_rfl
theorem dec_23 : DecB H enc Try.prog w 23 (RV.sl rStand) (bL bStand) := DecB.sl und_23 (by kernel_rfl) (by decide) (of_decide_eq_true (by kernel_rfl)) dec_30
theorem dec_32 : DecB H enc Try.prog w 32 rVirt bVirt := DecB.via (fun x => ⟨x.1, x.2.1⟩) (fun _ => rfl) (DecB.struct Try.underlying32 (by kernel_rfl) (DecFB.cons rfl (by kernel_rfl) dec_9 (DecFB.cons rfl (by kernel_rfl) dec_22 (DecFB.nil))))
theorem und_24 : Try.prog.underlying 24 = some (.slice 32) := by kernel_rfl
theorem dec_24 : DecB H enc Try.prog w 24 (RV.sl rVirt) (bL bVirt) := DecB.sl und_24 (by kernel_rfl) (by decide) (of_decide_eq_true (by kernel_rfl)) dec_32
theorem dec_26 : DecB H enc Try.prog w 26 rInstr bInstr := DecB.via (fun x => ⟨x.1, x.2.1, x.2.2.1, x.2.2.2.1, x.2.2.2.2.1, x.2.2.2.2.2.1⟩) (fun _ => rfl) (DecB.struct Try.underlying26 (by kernel_rfl) (DecFB.cons rfl (by kernel_rfl) dec_3 (DecFB.cons rfl (by kernel_rfl) dec_9 (DecFB.cons rfl (by kernel_rfl) dec_9 (DecFB.cons rfl (by kernel_rfl) dec_22 (DecFB.cons rfl (by kernel_rfl) dec_23 (DecFB.cons rfl (by kernel_rfl) dec_24 (DecFB.nil))))))))
theorem dec_62 : DecB H enc Try.prog w 62 rVar bVar := DecB.via (fun x => ⟨x.1, x.2.1⟩) (fun _ => rfl) (DecB.struct Try.underlying62 (by kernel_rfl) (DecFB.cons rfl (by kernel_rfl) dec_9 (DecFB.cons rfl (by kernel_rfl) dec_9 (DecFB.nil))))
theorem und_37 : Try.prog.underlying 37 = some (.slice 62) := by kernel_rfl
theorem dec_37 : DecB H enc Try.prog w 37 (RV.sl rVar) (bL bVar) := DecB.sl und_37 (by kernel_rfl) (by decide) (of_decide_eq_true (by kernel_rfl)) dec_62
theorem dec_108 : DecB H enc Try.prog w 108 rIn bIn := DecB.via (fun x => ⟨x.1, x.2.1⟩) (fun _ => rfl) (DecB.struct Try.underlying108 (by kernel_rfl) (DecFB.cons rfl (by kernel_rfl) dec_9 (DecFB.cons rfl (by kernel_rfl) dec_47 (DecFB.nil))))
theorem und_56 : Try.prog.underlying 56 = some (.slice 108) := by kernel_rfl
theorem dec_56 : DecB H enc Try.prog w 56 (RV.sl rIn) (bL bIn) := DecB.sl und_56 (by kernel_rfl) (by decide) (of_decide_eq_true (by kernel_rfl)) dec_108
theorem dec_58 : DecB H enc Try.prog w 58 rPhi bPhi := DecB.via (fun x => ⟨x.1, x.2.1⟩) (fun _ => rfl) (DecB.struct Try.underlying58 (by kernel_rfl) (DecFB.cons rfl (by kernel_rfl) dec_9 (DecFB.cons rfl (by kernel_rfl) dec_56 (DecFB.nil))))
theorem und_44 : Try.prog.underlying 44 = some (.slice 58) := by kernel_rfl
theorem dec_44 : DecB H enc Try.prog w 44 (RV.sl rPhi) (bL bPhi) := DecB.sl und_44 (by kernel_rfl) (by decide) (of_decide_eq_true (by kernel_rfl)) dec_58
theorem und_45 : Try.prog.underlying 45 = some (.slice 26) := by kernel_rfl
theorem dec_45 : DecB H enc Try.prog w 45 (RV.sl rInstr) (bL bInstr) := DecB.sl und_45 (by kernel_rfl) (by decide) (of_decide_eq_true (by kernel_rfl)) dec_26
theorem und_34 : Try.prog.underlying 34 = some (.slice 9) := by kernel_rfl
theorem dec_34 : DecB H enc Try.prog w 34 (RV.sl rStr) (bL bStr) := DecB.sl und_34 (by kernel_rfl) (by decide) (of_decide_eq_true (by kernel_rfl)) dec_9
theorem dec_49 : DecB H enc Try.prog w 49 rTerm bTerm := DecB.via (fun x => ⟨x.1, x.2.1, x.2.2.1, x.2.2.2.1⟩) (fun _ => rfl) (DecB.struct Try.underlying49 (by kernel_rfl) (DecFB.cons rfl (by kernel_rfl) dec_3 (DecFB.cons rfl (by kernel_rfl) dec_47 (DecFB.cons rfl (by kernel_rfl) dec_34 (DecFB.cons rfl (by kernel_rfl) dec_2 (DecFB.nil))))))
theorem dec_51 : DecB H enc Try.prog w 51 rBlock bBlock := DecB.via (fun x => ⟨x.1, x.2.1, x.2.2.1, x.2.2.2.1⟩) (fun _ => rfl) (DecB.struct Try.underlying51 (by kernel_rfl) (DecFB.cons rfl (by kernel_rfl) dec_9 (DecFB.cons rfl (by kernel_rfl) dec_44 (DecFB.cons rfl (by kernel_rfl) dec_45 (DecFB.cons rfl (by kernel_rfl) dec_49 (DecFB.nil))))))
theorem und_38 : Try.prog.underlying 38 = some (.slice 51) := by kernel_rfl
theorem dec_38 : DecB H enc Try.prog w 38 (RV.sl rBlock) (bL bBlock) := DecB.sl und_38 (by kernel_rfl) (by decide) (of_decide_eq_true (by kernel_rfl)) dec_51
theorem dec_40 : DecB H enc Try.prog w 40 rFunc bFunc := DecB.via (fun x => ⟨x.1, x.2.1, x.2.2.1, x.2.2.2.1, x.2.2.2.2.1⟩) (fun _ => rfl) (DecB.struct Try.underlying40 (by kernel_rfl) (DecFB.cons rfl (by kernel_rfl) dec_9 (DecFB.cons rfl (by kernel_rfl) dec_9 (DecFB.cons rfl (by kernel_rfl) dec_37 (DecFB.cons rfl (by kernel_rfl) dec_37 (DecFB.cons rfl (by kernel_rfl) dec_38 (DecFB.nil)))))))

end Go.Proofs.Ytojdbliehgejbaa
