/-
  Printed by gendec.py: what the statement tells of arguments of the program's data.
-/
import Derived.Test.YtgdfpdfkghmdpaaFwApi
import Derived.Test.YtgdfpdfkghmdpaaChecked
namespace Go.Proofs.Ytgdfpdfkghmdpaa
open Go.Fw Go.Pl.Api
variable {H : Type} {enc : TypeId × Value → H} {w : World}

theorem und_9 : Try.prog.underlying 9 = some .string := by kernel_rfl
theorem dec_9 : Dec H enc Try.prog w 9 rStr := Dec.str und_9
theorem dec_79 : Dec H enc Try.prog w 79 rVar := Dec.via (fun x => ⟨x.1, x.2.1⟩) (fun _ => rfl) (Dec.struct Try.underlying79 (by kernel_rfl) (DecF.cons rfl (by kernel_rfl) dec_9 (DecF.cons rfl (by kernel_rfl) dec_9 (DecF.nil))))
theorem und_22 : Try.prog.underlying 22 = some (.slice 79) := by kernel_rfl
theorem dec_22 : Dec H enc Try.prog w 22 (RV.sl rVar) := Dec.sl und_22 (by kernel_rfl) (by decide) dec_79
theorem und_3 : Try.prog.underlying 3 = some (.int .i64) := by kernel_rfl
theorem dec_3 : Dec H enc Try.prog w 3 rInt := Dec.int und_3
theorem und_2 : Try.prog.underlying 2 = some (.int .i64) := by kernel_rfl
theorem dec_2 : Dec H enc Try.prog w 2 rInt := Dec.int und_2
theorem dec_33 : Dec H enc Try.prog w 33 rArg := Dec.via (fun x => ⟨x.1, x.2.1, x.2.2.1⟩) (fun _ => rfl) (Dec.struct Try.underlying33 (by kernel_rfl) (DecF.cons rfl (by kernel_rfl) dec_3 (DecF.cons rfl (by kernel_rfl) dec_9 (DecF.cons rfl (by kernel_rfl) dec_2 (DecF.nil)))))
theorem dec_48 : Dec H enc Try.prog w 48 rIn := Dec.via (fun x => ⟨x.1, x.2.1⟩) (fun _ => rfl) (Dec.struct Try.underlying48 (by kernel_rfl) (DecF.cons rfl (by kernel_rfl) dec_9 (DecF.cons rfl (by kernel_rfl) dec_33 (DecF.nil))))
theorem und_49 : Try.prog.underlying 49 = some (.slice 48) := by kernel_rfl
theorem dec_49 : Dec H enc Try.prog w 49 (RV.sl rIn) := Dec.sl und_49 (by kernel_rfl) (by decide) dec_48
theorem dec_51 : Dec H enc Try.prog w 51 rPhi := Dec.via (fun x => ⟨x.1, x.2.1⟩) (fun _ => rfl) (Dec.struct Try.underlying51 (by kernel_rfl) (DecF.cons rfl (by kernel_rfl) dec_9 (DecF.cons rfl (by kernel_rfl) dec_49 (DecF.nil))))
theorem und_37 : Try.prog.underlying 37 = some (.slice 51) := by kernel_rfl
theorem dec_37 : Dec H enc Try.prog w 37 (RV.sl rPhi) := Dec.sl und_37 (by kernel_rfl) (by decide) dec_51
theorem und_80 : Try.prog.underlying 80 = some (.slice 33) := by kernel_rfl
theorem dec_80 : Dec H enc Try.prog w 80 (RV.sl rArg) := Dec.sl und_80 (by kernel_rfl) (by decide) dec_33
theorem dec_92 : Dec H enc Try.prog w 92 rBind := Dec.via (fun x => ⟨x.1, x.2.1⟩) (fun _ => rfl) (Dec.struct Try.underlying92 (by kernel_rfl) (DecF.cons rfl (by kernel_rfl) dec_9 (DecF.cons rfl (by kernel_rfl) dec_33 (DecF.nil))))
theorem und_86 : Try.prog.underlying 86 = some (.slice 92) := by kernel_rfl
theorem dec_86 : Dec H enc Try.prog w 86 (RV.sl rBind) := Dec.sl und_86 (by kernel_rfl) (by decide) dec_92
theorem dec_88 : Dec H enc Try.prog w 88 rStand := Dec.via (fun x => ⟨x.1, x.2.1, x.2.2.1, x.2.2.2.1⟩) (fun _ => rfl) (Dec.struct Try.underlying88 (by kernel_rfl) (DecF.cons rfl (by kernel_rfl) dec_9 (DecF.cons rfl (by kernel_rfl) dec_9 (DecF.cons rfl (by kernel_rfl) dec_3 (DecF.cons rfl (by kernel_rfl) dec_86 (DecF.nil))))))
theorem und_81 : Try.prog.underlying 81 = some (.slice 88) := by kernel_rfl
theorem dec_81 : Dec H enc Try.prog w 81 (RV.sl rStand) := Dec.sl und_81 (by kernel_rfl) (by decide) dec_88
theorem dec_90 : Dec H enc Try.prog w 90 rVirt := Dec.via (fun x => ⟨x.1, x.2.1⟩) (fun _ => rfl) (Dec.struct Try.underlying90 (by kernel_rfl) (DecF.cons rfl (by kernel_rfl) dec_9 (DecF.cons rfl (by kernel_rfl) dec_80 (DecF.nil))))
theorem und_82 : Try.prog.underlying 82 = some (.slice 90) := by kernel_rfl
theorem dec_82 : Dec H enc Try.prog w 82 (RV.sl rVirt) := Dec.sl und_82 (by kernel_rfl) (by decide) dec_90
theorem dec_84 : Dec H enc Try.prog w 84 rInstr := Dec.via (fun x => ⟨x.1, x.2.1, x.2.2.1, x.2.2.2.1, x.2.2.2.2.1, x.2.2.2.2.2.1⟩) (fun _ => rfl) (Dec.struct Try.underlying84 (by kernel_rfl) (DecF.cons rfl (by kernel_rfl) dec_3 (DecF.cons rfl (by kernel_rfl) dec_9 (DecF.cons rfl (by kernel_rfl) dec_9 (DecF.cons rfl (by kernel_rfl) dec_80 (DecF.cons rfl (by kernel_rfl) dec_81 (DecF.cons rfl (by kernel_rfl) dec_82 (DecF.nil))))))))
theorem und_38 : Try.prog.underlying 38 = some (.slice 84) := by kernel_rfl
theorem dec_38 : Dec H enc Try.prog w 38 (RV.sl rInstr) := Dec.sl und_38 (by kernel_rfl) (by decide) dec_84
theorem und_34 : Try.prog.underlying 34 = some (.slice 9) := by kernel_rfl
theorem dec_34 : Dec H enc Try.prog w 34 (RV.sl rStr) := Dec.sl und_34 (by kernel_rfl) (by decide) dec_9
theorem dec_36 : Dec H enc Try.prog w 36 rTerm := Dec.via (fun x => ⟨x.1, x.2.1, x.2.2.1, x.2.2.2.1⟩) (fun _ => rfl) (Dec.struct Try.underlying36 (by kernel_rfl) (DecF.cons rfl (by kernel_rfl) dec_3 (DecF.cons rfl (by kernel_rfl) dec_33 (DecF.cons rfl (by kernel_rfl) dec_34 (DecF.cons rfl (by kernel_rfl) dec_2 (DecF.nil))))))
theorem dec_40 : Dec H enc Try.prog w 40 rBlock := Dec.via (fun x => ⟨x.1, x.2.1, x.2.2.1, x.2.2.2.1⟩) (fun _ => rfl) (Dec.struct Try.underlying40 (by kernel_rfl) (DecF.cons rfl (by kernel_rfl) dec_9 (DecF.cons rfl (by kernel_rfl) dec_37 (DecF.cons rfl (by kernel_rfl) dec_38 (DecF.cons rfl (by kernel_rfl) dec_36 (DecF.nil))))))
theorem und_23 : Try.prog.underlying 23 = some (.slice 40) := by kernel_rfl
theorem dec_23 : Dec H enc Try.prog w 23 (RV.sl rBlock) := Dec.sl und_23 (by kernel_rfl) (by decide) dec_40
theorem dec_25 : Dec H enc Try.prog w 25 rFunc := Dec.via (fun x => ⟨x.1, x.2.1, x.2.2.1, x.2.2.2.1, x.2.2.2.2.1⟩) (fun _ => rfl) (Dec.struct Try.underlying25 (by kernel_rfl) (DecF.cons rfl (by kernel_rfl) dec_9 (DecF.cons rfl (by kernel_rfl) dec_9 (DecF.cons rfl (by kernel_rfl) dec_22 (DecF.cons rfl (by kernel_rfl) dec_22 (DecF.cons rfl (by kernel_rfl) dec_23 (DecF.nil)))))))

end Go.Proofs.Ytgdfpdfkghmdpaa
