/-
  Printed by gendec.py: what the statement tells of arguments of the program's data.
-/
import Derived.Test.YthdidcnpiaeleaaFwApi
import Derived.Test.YthdidcnpiaeleaaChecked
namespace Go.Proofs.Ythdidcnpiaeleaa
open Go.Fw Go.Pl.Api
variable {H : Type} {enc : TypeId × Value → H} {w : World}

theorem und_9 : Try.prog.underlying 9 = some .string := by kernel_rfl
theorem dec_9 : Dec H enc Try.prog w 9 rStr := Dec.str und_9
theorem dec_104 : Dec H enc Try.prog w 104 rVar := Dec.via (fun x => ⟨x.1, x.2.1⟩) (fun _ => rfl) (Dec.struct Try.underlying104 (by kernel_rfl) (DecF.cons rfl (by kernel_rfl) dec_9 (DecF.cons rfl (by kernel_rfl) dec_9 (DecF.nil))))
theorem und_36 : Try.prog.underlying 36 = some (.slice 104) := by kernel_rfl
theorem dec_36 : Dec H enc Try.prog w 36 (RV.sl rVar) := Dec.sl und_36 (by kernel_rfl) (by decide) dec_104
theorem und_3 : Try.prog.underlying 3 = some (.int .i64) := by kernel_rfl
theorem dec_3 : Dec H enc Try.prog w 3 rInt := Dec.int und_3
theorem und_2 : Try.prog.underlying 2 = some (.int .i64) := by kernel_rfl
theorem dec_2 : Dec H enc Try.prog w 2 rInt := Dec.int und_2
theorem dec_52 : Dec H enc Try.prog w 52 rArg := Dec.via (fun x => ⟨x.1, x.2.1, x.2.2.1⟩) (fun _ => rfl) (Dec.struct Try.underlying52 (by kernel_rfl) (DecF.cons rfl (by kernel_rfl) dec_3 (DecF.cons rfl (by kernel_rfl) dec_9 (DecF.cons rfl (by kernel_rfl) dec_2 (DecF.nil)))))
theorem dec_111 : Dec H enc Try.prog w 111 rIn := Dec.via (fun x => ⟨x.1, x.2.1⟩) (fun _ => rfl) (Dec.struct Try.underlying111 (by kernel_rfl) (DecF.cons rfl (by kernel_rfl) dec_9 (DecF.cons rfl (by kernel_rfl) dec_52 (DecF.nil))))
theorem und_60 : Try.prog.underlying 60 = some (.slice 111) := by kernel_rfl
theorem dec_60 : Dec H enc Try.prog w 60 (RV.sl rIn) := Dec.sl und_60 (by kernel_rfl) (by decide) dec_111
theorem dec_62 : Dec H enc Try.prog w 62 rPhi := Dec.via (fun x => ⟨x.1, x.2.1⟩) (fun _ => rfl) (Dec.struct Try.underlying62 (by kernel_rfl) (DecF.cons rfl (by kernel_rfl) dec_9 (DecF.cons rfl (by kernel_rfl) dec_60 (DecF.nil))))
theorem und_56 : Try.prog.underlying 56 = some (.slice 62) := by kernel_rfl
theorem dec_56 : Dec H enc Try.prog w 56 (RV.sl rPhi) := Dec.sl und_56 (by kernel_rfl) (by decide) dec_62
theorem und_105 : Try.prog.underlying 105 = some (.slice 52) := by kernel_rfl
theorem dec_105 : Dec H enc Try.prog w 105 (RV.sl rArg) := Dec.sl und_105 (by kernel_rfl) (by decide) dec_52
theorem dec_119 : Dec H enc Try.prog w 119 rBind := Dec.via (fun x => ⟨x.1, x.2.1⟩) (fun _ => rfl) (Dec.struct Try.underlying119 (by kernel_rfl) (DecF.cons rfl (by kernel_rfl) dec_9 (DecF.cons rfl (by kernel_rfl) dec_52 (DecF.nil))))
theorem und_113 : Try.prog.underlying 113 = some (.slice 119) := by kernel_rfl
theorem dec_113 : Dec H enc Try.prog w 113 (RV.sl rBind) := Dec.sl und_113 (by kernel_rfl) (by decide) dec_119
theorem dec_115 : Dec H enc Try.prog w 115 rStand := Dec.via (fun x => ⟨x.1, x.2.1, x.2.2.1, x.2.2.2.1⟩) (fun _ => rfl) (Dec.struct Try.underlying115 (by kernel_rfl) (DecF.cons rfl (by kernel_rfl) dec_9 (DecF.cons rfl (by kernel_rfl) dec_9 (DecF.cons rfl (by kernel_rfl) dec_3 (DecF.cons rfl (by kernel_rfl) dec_113 (DecF.nil))))))
theorem und_106 : Try.prog.underlying 106 = some (.slice 115) := by kernel_rfl
theorem dec_106 : Dec H enc Try.prog w 106 (RV.sl rStand) := Dec.sl und_106 (by kernel_rfl) (by decide) dec_115
theorem dec_117 : Dec H enc Try.prog w 117 rVirt := Dec.via (fun x => ⟨x.1, x.2.1⟩) (fun _ => rfl) (Dec.struct Try.underlying117 (by kernel_rfl) (DecF.cons rfl (by kernel_rfl) dec_9 (DecF.cons rfl (by kernel_rfl) dec_105 (DecF.nil))))
theorem und_107 : Try.prog.underlying 107 = some (.slice 117) := by kernel_rfl
theorem dec_107 : Dec H enc Try.prog w 107 (RV.sl rVirt) := Dec.sl und_107 (by kernel_rfl) (by decide) dec_117
theorem dec_109 : Dec H enc Try.prog w 109 rInstr := Dec.via (fun x => ⟨x.1, x.2.1, x.2.2.1, x.2.2.2.1, x.2.2.2.2.1, x.2.2.2.2.2.1⟩) (fun _ => rfl) (Dec.struct Try.underlying109 (by kernel_rfl) (DecF.cons rfl (by kernel_rfl) dec_3 (DecF.cons rfl (by kernel_rfl) dec_9 (DecF.cons rfl (by kernel_rfl) dec_9 (DecF.cons rfl (by kernel_rfl) dec_105 (DecF.cons rfl (by kernel_rfl) dec_106 (DecF.cons rfl (by kernel_rfl) dec_107 (DecF.nil))))))))
theorem und_57 : Try.prog.underlying 57 = some (.slice 109) := by kernel_rfl
theorem dec_57 : Dec H enc Try.prog w 57 (RV.sl rInstr) := Dec.sl und_57 (by kernel_rfl) (by decide) dec_109
theorem und_53 : Try.prog.underlying 53 = some (.slice 9) := by kernel_rfl
theorem dec_53 : Dec H enc Try.prog w 53 (RV.sl rStr) := Dec.sl und_53 (by kernel_rfl) (by decide) dec_9
theorem dec_55 : Dec H enc Try.prog w 55 rTerm := Dec.via (fun x => ⟨x.1, x.2.1, x.2.2.1, x.2.2.2.1⟩) (fun _ => rfl) (Dec.struct Try.underlying55 (by kernel_rfl) (DecF.cons rfl (by kernel_rfl) dec_3 (DecF.cons rfl (by kernel_rfl) dec_52 (DecF.cons rfl (by kernel_rfl) dec_53 (DecF.cons rfl (by kernel_rfl) dec_2 (DecF.nil))))))
theorem dec_59 : Dec H enc Try.prog w 59 rBlock := Dec.via (fun x => ⟨x.1, x.2.1, x.2.2.1, x.2.2.2.1⟩) (fun _ => rfl) (Dec.struct Try.underlying59 (by kernel_rfl) (DecF.cons rfl (by kernel_rfl) dec_9 (DecF.cons rfl (by kernel_rfl) dec_56 (DecF.cons rfl (by kernel_rfl) dec_57 (DecF.cons rfl (by kernel_rfl) dec_55 (DecF.nil))))))
theorem und_37 : Try.prog.underlying 37 = some (.slice 59) := by kernel_rfl
theorem dec_37 : Dec H enc Try.prog w 37 (RV.sl rBlock) := Dec.sl und_37 (by kernel_rfl) (by decide) dec_59
theorem dec_39 : Dec H enc Try.prog w 39 rFunc := Dec.via (fun x => ⟨x.1, x.2.1, x.2.2.1, x.2.2.2.1, x.2.2.2.2.1⟩) (fun _ => rfl) (Dec.struct Try.underlying39 (by kernel_rfl) (DecF.cons rfl (by kernel_rfl) dec_9 (DecF.cons rfl (by kernel_rfl) dec_9 (DecF.cons rfl (by kernel_rfl) dec_36 (DecF.cons rfl (by kernel_rfl) dec_36 (DecF.cons rfl (by kernel_rfl) dec_37 (DecF.nil)))))))

end Go.Proofs.Ythdidcnpiaeleaa
