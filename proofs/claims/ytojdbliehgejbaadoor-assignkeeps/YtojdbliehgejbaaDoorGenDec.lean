/-
  Printed by gendec.py: what the statement tells of arguments of the program's data.
-/
import Derived.Test.YtojdbliehgejbaaDoorFwApi2
import Derived.Test.YtojdbliehgejbaaDoorChecked
namespace Go.Proofs.YtojdbliehgejbaaDoor
open Go.Fw Go.Pl.Api
variable {H : Type} {enc : TypeId × Value → H} {w : World}

theorem und_9 : Tryd.prog.underlying 9 = some .string := by kernel_rfl
theorem dec_9 : DecB H enc Tryd.prog w 9 rStr bStr := DecB.str und_9
theorem dec_76 : DecB H enc Tryd.prog w 76 rVar bVar := DecB.via (fun x => ⟨x.1, x.2.1⟩) (fun _ => rfl) (DecB.struct Tryd.underlying76 (by kernel_rfl) (DecFB.cons rfl (by kernel_rfl) dec_9 (DecFB.cons rfl (by kernel_rfl) dec_9 (DecFB.nil))))
theorem und_22 : Tryd.prog.underlying 22 = some (.slice 76) := by kernel_rfl
theorem dec_22 : DecB H enc Tryd.prog w 22 (RV.sl rVar) (bL bVar) := DecB.sl und_22 (by kernel_rfl) (by decide) (of_decide_eq_true (by kernel_rfl)) dec_76
theorem und_3 : Tryd.prog.underlying 3 = some (.int .i64) := by kernel_rfl
theorem dec_3 : DecB H enc Tryd.prog w 3 rInt bInt := DecB.int und_3
theorem und_2 : Tryd.prog.underlying 2 = some (.int .i64) := by kernel_rfl
theorem dec_2 : DecB H enc Tryd.prog w 2 rInt bInt := DecB.int und_2
theorem dec_38 : DecB H enc Tryd.prog w 38 rArg bArg := DecB.via (fun x => ⟨x.1, x.2.1, x.2.2.1⟩) (fun _ => rfl) (DecB.struct Tryd.underlying38 (by kernel_rfl) (DecFB.cons rfl (by kernel_rfl) dec_3 (DecFB.cons rfl (by kernel_rfl) dec_9 (DecFB.cons rfl (by kernel_rfl) dec_2 (DecFB.nil)))))
theorem dec_66 : DecB H enc Tryd.prog w 66 rIn bIn := DecB.via (fun x => ⟨x.1, x.2.1⟩) (fun _ => rfl) (DecB.struct Tryd.underlying66 (by kernel_rfl) (DecFB.cons rfl (by kernel_rfl) dec_9 (DecFB.cons rfl (by kernel_rfl) dec_38 (DecFB.nil))))
theorem und_62 : Tryd.prog.underlying 62 = some (.slice 66) := by kernel_rfl
theorem dec_62 : DecB H enc Tryd.prog w 62 (RV.sl rIn) (bL bIn) := DecB.sl und_62 (by kernel_rfl) (by decide) (of_decide_eq_true (by kernel_rfl)) dec_66
theorem dec_64 : DecB H enc Tryd.prog w 64 rPhi bPhi := DecB.via (fun x => ⟨x.1, x.2.1⟩) (fun _ => rfl) (DecB.struct Tryd.underlying64 (by kernel_rfl) (DecFB.cons rfl (by kernel_rfl) dec_9 (DecFB.cons rfl (by kernel_rfl) dec_62 (DecFB.nil))))
theorem und_48 : Tryd.prog.underlying 48 = some (.slice 64) := by kernel_rfl
theorem dec_48 : DecB H enc Tryd.prog w 48 (RV.sl rPhi) (bL bPhi) := DecB.sl und_48 (by kernel_rfl) (by decide) (of_decide_eq_true (by kernel_rfl)) dec_64
theorem und_39 : Tryd.prog.underlying 39 = some (.slice 38) := by kernel_rfl
theorem dec_39 : DecB H enc Tryd.prog w 39 (RV.sl rArg) (bL bArg) := DecB.sl und_39 (by kernel_rfl) (by decide) (of_decide_eq_true (by kernel_rfl)) dec_38
theorem dec_108 : DecB H enc Tryd.prog w 108 rBind bBind := DecB.via (fun x => ⟨x.1, x.2.1⟩) (fun _ => rfl) (DecB.struct Tryd.underlying108 (by kernel_rfl) (DecFB.cons rfl (by kernel_rfl) dec_9 (DecFB.cons rfl (by kernel_rfl) dec_38 (DecFB.nil))))
theorem und_104 : Tryd.prog.underlying 104 = some (.slice 108) := by kernel_rfl
theorem dec_104 : DecB H enc Tryd.prog w 104 (RV.sl rBind) (bL bBind) := DecB.sl und_104 (by kernel_rfl) (by decide) (of_decide_eq_true (by kernel_rfl)) dec_108
theorem dec_106 : DecB H enc Tryd.prog w 106 rStand bStand := DecB.via (fun x => ⟨x.1, x.2.1, x.2.2.1, x.2.2.2.1⟩) (fun _ => rfl) (DecB.struct Tryd.underlying106 (by kernel_rfl) (DecFB.cons rfl (by kernel_rfl) dec_9 (DecFB.cons rfl (by kernel_rfl) dec_9 (DecFB.cons rfl (by kernel_rfl) dec_3 (DecFB.cons rfl (by kernel_rfl) dec_104 (DecFB.nil))))))
theorem und_40 : Tryd.prog.underlying 40 = some (.slice 106) := by kernel_rfl
theorem dec_40 : DecB H enc Tryd.prog w 40 (RV.sl rStand) (bL bStand) := DecB.sl und_40 (by kernel_rfl) (by decide) (of_decide_eq_true (by kernel_rfl)) dec_106
theorem dec_110 : DecB H enc Tryd.prog w 110 rVirt bVirt := DecB.via (fun x => ⟨x.1, x.2.1⟩) (fun _ => rfl) (DecB.struct Tryd.underlying110 (by kernel_rfl) (DecFB.cons rfl (by kernel_rfl) dec_9 (DecFB.cons rfl (by kernel_rfl) dec_39 (DecFB.nil))))
theorem und_41 : Tryd.prog.underlying 41 = some (.slice 110) := by kernel_rfl
theorem dec_41 : DecB H enc Tryd.prog w 41 (RV.sl rVirt) (bL bVirt) := DecB.sl und_41 (by kernel_rfl) (by decide) (of_decide_eq_true (by kernel_rfl)) dec_110
theorem dec_43 : DecB H enc Tryd.prog w 43 rInstr bInstr := DecB.via (fun x => ⟨x.1, x.2.1, x.2.2.1, x.2.2.2.1, x.2.2.2.2.1, x.2.2.2.2.2.1⟩) (fun _ => rfl) (DecB.struct Tryd.underlying43 (by kernel_rfl) (DecFB.cons rfl (by kernel_rfl) dec_3 (DecFB.cons rfl (by kernel_rfl) dec_9 (DecFB.cons rfl (by kernel_rfl) dec_9 (DecFB.cons rfl (by kernel_rfl) dec_39 (DecFB.cons rfl (by kernel_rfl) dec_40 (DecFB.cons rfl (by kernel_rfl) dec_41 (DecFB.nil))))))))
theorem und_45 : Tryd.prog.underlying 45 = some (.slice 43) := by kernel_rfl
theorem dec_45 : DecB H enc Tryd.prog w 45 (RV.sl rInstr) (bL bInstr) := DecB.sl und_45 (by kernel_rfl) (by decide) (of_decide_eq_true (by kernel_rfl)) dec_43
theorem und_36 : Tryd.prog.underlying 36 = some (.slice 9) := by kernel_rfl
theorem dec_36 : DecB H enc Tryd.prog w 36 (RV.sl rStr) (bL bStr) := DecB.sl und_36 (by kernel_rfl) (by decide) (of_decide_eq_true (by kernel_rfl)) dec_9
theorem dec_47 : DecB H enc Tryd.prog w 47 rTerm bTerm := DecB.via (fun x => ⟨x.1, x.2.1, x.2.2.1, x.2.2.2.1⟩) (fun _ => rfl) (DecB.struct Tryd.underlying47 (by kernel_rfl) (DecFB.cons rfl (by kernel_rfl) dec_3 (DecFB.cons rfl (by kernel_rfl) dec_38 (DecFB.cons rfl (by kernel_rfl) dec_36 (DecFB.cons rfl (by kernel_rfl) dec_2 (DecFB.nil))))))
theorem dec_50 : DecB H enc Tryd.prog w 50 rBlock bBlock := DecB.via (fun x => ⟨x.1, x.2.1, x.2.2.1, x.2.2.2.1⟩) (fun _ => rfl) (DecB.struct Tryd.underlying50 (by kernel_rfl) (DecFB.cons rfl (by kernel_rfl) dec_9 (DecFB.cons rfl (by kernel_rfl) dec_48 (DecFB.cons rfl (by kernel_rfl) dec_45 (DecFB.cons rfl (by kernel_rfl) dec_47 (DecFB.nil))))))
theorem und_23 : Tryd.prog.underlying 23 = some (.slice 50) := by kernel_rfl
theorem dec_23 : DecB H enc Tryd.prog w 23 (RV.sl rBlock) (bL bBlock) := DecB.sl und_23 (by kernel_rfl) (by decide) (of_decide_eq_true (by kernel_rfl)) dec_50
theorem dec_25 : DecB H enc Tryd.prog w 25 rFunc bFunc := DecB.via (fun x => ⟨x.1, x.2.1, x.2.2.1, x.2.2.2.1, x.2.2.2.2.1⟩) (fun _ => rfl) (DecB.struct Tryd.underlying25 (by kernel_rfl) (DecFB.cons rfl (by kernel_rfl) dec_9 (DecFB.cons rfl (by kernel_rfl) dec_9 (DecFB.cons rfl (by kernel_rfl) dec_22 (DecFB.cons rfl (by kernel_rfl) dec_22 (DecFB.cons rfl (by kernel_rfl) dec_23 (DecFB.nil)))))))
theorem und_28 : Tryd.prog.underlying 28 = some (.slice 25) := by kernel_rfl
theorem dec_28 : DecB H enc Tryd.prog w 28 (RV.sl rFunc) (bL bFunc) := DecB.sl und_28 (by kernel_rfl) (by decide) (of_decide_eq_true (by kernel_rfl)) dec_25

end Go.Proofs.YtojdbliehgejbaaDoor
