/-
  Printed by gendec.py: what the statement tells of arguments of the program's data.
-/
import Derived.Test.YtncbpalncgcoaaaFwApi2
import Derived.Test.YtncbpalncgcoaaaFwVst
import Derived.Test.YtncbpalncgcoaaaChecked
namespace Go.Proofs.Ytncbpalncgcoaaa
open Go.Fw Go.Pl.Api Go.Pl.Vst
variable {H : Type} {enc : TypeId × Value → H} {w : World}

theorem und_2 : Try.prog.underlying 2 = some (.int .i64) := by kernel_rfl
theorem dec_2 : DecB H enc Try.prog w 2 rInt bInt := DecB.int und_2
theorem und_9 : Try.prog.underlying 9 = some .string := by kernel_rfl
theorem dec_9 : DecB H enc Try.prog w 9 rStr bStr := DecB.str und_9
theorem und_3 : Try.prog.underlying 3 = some (.int .i64) := by kernel_rfl
theorem dec_3 : DecB H enc Try.prog w 3 rInt bInt := DecB.int und_3
theorem dec_37 : DecB H enc Try.prog w 37 rArg bArg := DecB.via (fun x => ⟨x.1, x.2.1, x.2.2.1⟩) (fun _ => rfl) (DecB.struct Try.underlying37 (by kernel_rfl) (DecFB.cons rfl (by kernel_rfl) dec_3 (DecFB.cons rfl (by kernel_rfl) dec_9 (DecFB.cons rfl (by kernel_rfl) dec_2 (DecFB.nil)))))
theorem und_29 : Try.prog.underlying 29 = some (.slice 37) := by kernel_rfl
theorem dec_29 : DecB H enc Try.prog w 29 (RV.sl rArg) (bL bArg) := DecB.sl und_29 (by kernel_rfl) (by decide) (of_decide_eq_true (by kernel_rfl)) dec_37
theorem dec_40 : DecB H enc Try.prog w 40 rObj bObj := DecB.via (fun x => ⟨x.1, x.2.1, x.2.2.1, x.2.2.2.1⟩) (fun _ => rfl) (DecB.struct Try.underlying40 (by kernel_rfl) (DecFB.cons rfl (by kernel_rfl) dec_2 (DecFB.cons rfl (by kernel_rfl) dec_9 (DecFB.cons rfl (by kernel_rfl) dec_29 (DecFB.cons rfl (by kernel_rfl) dec_37 (DecFB.nil))))))
theorem und_43 : Try.prog.underlying 43 = some (.slice 40) := by kernel_rfl
theorem dec_43 : DecB H enc Try.prog w 43 (RV.sl rObj) (bL bObj) := DecB.sl und_43 (by kernel_rfl) (by decide) (of_decide_eq_true (by kernel_rfl)) dec_40

end Go.Proofs.Ytncbpalncgcoaaa
