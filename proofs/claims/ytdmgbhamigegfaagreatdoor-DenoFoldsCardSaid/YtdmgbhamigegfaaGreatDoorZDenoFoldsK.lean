/- The closed facts of the row DenoFolds, each by itself. -/
import Derived.Test.YtdmgbhamigegfaaGreatDoorRows
import Derived.Test.YtdmgbhamigegfaaGreatDoorA3
import Derived.OpenShut
import Derived.JoinedOf
import Derived.KernelRfl
namespace Go.Proofs.YtdmgbhamigegfaaGreatDoor.denoFolds
open Go Go.Abs
theorem and_in {a b:Bool} (h:a = true) (k:b = true):(a && b) = true:=by rw [h,k]; rfl
theorem ckA0:(Rows.denoFoldsRow.wf (OpenSpec.ofChange Rows.denoFoldsSpec)) = true:=by kernel_rfl
theorem ckA1:(laidOutB Tryz.prog) = true:=by kernel_rfl
theorem ckA2:(mapsRowed Tryz.prog) = true:=by kernel_rfl
theorem ckA3:(Tryz.f7.params.all (Tryz.prog.readableRec ·)) = true:=by kernel_rfl
theorem ckA4:(namedTie Tryz.prog Rows.denoFoldsRow.named Rows.denoFoldsSpec.vars) = true:=by kernel_rfl
theorem ckI0:((Rows.denoFoldsRow.stops == [])) = true:=by kernel_rfl
theorem ckI1:((Tryz.prog.stops == [])) = true:=by kernel_rfl
theorem ckI2:((Rows.denoFoldsRow.knobs == [])) = true:=by kernel_rfl
theorem ckI3:((Tryz.prog.stopKnobs == [])) = true:=by kernel_rfl
theorem ckB0:((Rows.denoFoldsRow.inPlace == Tryz.prog.inPlace 7)) = true:=by kernel_rfl
theorem ckC0:((Rows.denoFoldsRow.unfollowed == Tryz.prog.unfollowed 7)) = true:=by kernel_rfl
theorem ckD0:((Rows.denoFoldsRow.recurses == Tryz.prog.recurses 7)) = true:=by kernel_rfl
theorem ckE0:((Rows.denoFoldsRow.named == Tryz.prog.varsNamed 7)) = true:=by kernel_rfl
theorem ckF0:((Rows.denoFoldsRow.maps == (Tryz.f7.params.toList ++ Rows.denoFoldsSpec.plain.varTypes Tryz.prog).any (Tryz.prog.mapsRec ·))) = true:=by kernel_rfl
theorem ckF1:((Rows.denoFoldsRow.ifaces == (Tryz.f7.params.toList ++ Rows.denoFoldsSpec.plain.varTypes Tryz.prog).any (Tryz.prog.ifacesRec ·))) = true:=by kernel_rfl
theorem ckF2:((Rows.denoFoldsRow.mapsOut == Tryz.prog.mapsAmong Tryz.f7.resultTypes.toList)) = true:=by kernel_rfl
theorem ckF3:((Rows.denoFoldsRow.loops == (Tryz.f7.params.toList ++ Rows.denoFoldsSpec.plain.varTypes Tryz.prog).any (Tryz.prog.loopsFrom ·))) = true:=by kernel_rfl
theorem ckF4:((Rows.denoFoldsRow.wideKeys == (Tryz.f7.params.toList ++ Rows.denoFoldsSpec.plain.varTypes Tryz.prog ++ Tryz.f7.resultTypes.toList).any (Tryz.prog.wideKeysFrom ·))) = true:=by kernel_rfl
theorem ckG0:(Rows.denoFoldsSpec.vars.all (Tryz.prog.varReadable ·)) = true:=by kernel_rfl
theorem ckG1:(Tryz.f7.resultTypes.all (fun t=>Tryz.prog.readableRec t && decide (t < Tryz.prog.types.size))) = true:=by kernel_rfl
theorem ckG2:((Rows.denoFoldsRow.ifacesOut == Tryz.f7.resultTypes.toList.any (Tryz.prog.ifacesRec ·))) = true:=by kernel_rfl
theorem ckG3:((Rows.denoFoldsRow.loopsOut == Tryz.f7.resultTypes.toList.any (Tryz.prog.loopsFrom ·))) = true:=by kernel_rfl
theorem ckG4:((Rows.denoFoldsRow.plainKeys == Tryz.prog.plainKeys)) = true:=by kernel_rfl
theorem ckG5:(Rows.denoFoldsRow.shortTexts.isNone) = true:=by kernel_rfl
theorem ckG6:(Tryz.prog.stopsHeard) = true:=by kernel_rfl
theorem ckG7:(Tryz.prog.mayEnter) = true:=by kernel_rfl
theorem ckG8:((Rows.denoFoldsRow.lifted == Tryz.prog.liftsFinal)) = true:=by kernel_rfl
theorem ckJ0:((Tryz.prog.make == some Rows.denoFoldsRow.make)) = true:=by kernel_rfl
theorem ckJ2:((Rows.denoFoldsRow.pinned == Rows.denoFoldsRow.pinnedBy)) = true:=by kernel_rfl
theorem ckH0:((Rows.denoFoldsRow.veiled == (Tryz.f7.params.toList ++ Rows.denoFoldsSpec.plain.varTypes Tryz.prog ++ Tryz.f7.resultTypes.toList).any (Tryz.prog.veiledRec ·))) = true:=by kernel_rfl
theorem ckH1:(Rows.denoFoldsRow.veiledFits Tryz.prog Tryz.f7.params.toList (Tryz.f7.params.toList ++ Rows.denoFoldsSpec.plain.varTypes Tryz.prog ++ Tryz.f7.resultTypes.toList)) = true:=by kernel_rfl
end Go.Proofs.YtdmgbhamigegfaaGreatDoor.denoFolds
