/- The closed facts of the row DenoTwo, each by itself. -/
import Derived.Test.YtdmgbhamigegfaaGreatDoorRows
import Derived.Test.YtdmgbhamigegfaaGreatDoorA3
import Derived.OpenShut
import Derived.JoinedOf
import Derived.KernelRfl
namespace Go.Proofs.YtdmgbhamigegfaaGreatDoor.denoTwo
open Go Go.Abs
theorem and_in {a b:Bool} (h:a = true) (k:b = true):(a && b) = true:=by rw [h,k]; rfl
theorem ckA0:(Rows.denoTwoRow.wf (OpenSpec.ofChange Rows.denoTwoSpec)) = true:=by kernel_rfl
theorem ckA1:(laidOutB Tryz.prog) = true:=by kernel_rfl
theorem ckA2:(mapsRowed Tryz.prog) = true:=by kernel_rfl
theorem ckA3:(Tryz.f6.params.all (Tryz.prog.readableRec ·)) = true:=by kernel_rfl
theorem ckA4:(namedTie Tryz.prog Rows.denoTwoRow.named Rows.denoTwoSpec.vars) = true:=by kernel_rfl
theorem ckI0:((Rows.denoTwoRow.stops == [])) = true:=by kernel_rfl
theorem ckI1:((Tryz.prog.stops == [])) = true:=by kernel_rfl
theorem ckI2:((Rows.denoTwoRow.knobs == [])) = true:=by kernel_rfl
theorem ckI3:((Tryz.prog.stopKnobs == [])) = true:=by kernel_rfl
theorem ckB0:((Rows.denoTwoRow.inPlace == Tryz.prog.inPlace 6)) = true:=by kernel_rfl
theorem ckC0:((Rows.denoTwoRow.unfollowed == Tryz.prog.unfollowed 6)) = true:=by kernel_rfl
theorem ckD0:((Rows.denoTwoRow.recurses == Tryz.prog.recurses 6)) = true:=by kernel_rfl
theorem ckE0:((Rows.denoTwoRow.named == Tryz.prog.varsNamed 6)) = true:=by kernel_rfl
theorem ckF0:((Rows.denoTwoRow.maps == (Tryz.f6.params.toList ++ Rows.denoTwoSpec.plain.varTypes Tryz.prog).any (Tryz.prog.mapsRec ·))) = true:=by kernel_rfl
theorem ckF1:((Rows.denoTwoRow.ifaces == (Tryz.f6.params.toList ++ Rows.denoTwoSpec.plain.varTypes Tryz.prog).any (Tryz.prog.ifacesRec ·))) = true:=by kernel_rfl
theorem ckF2:((Rows.denoTwoRow.mapsOut == Tryz.prog.mapsAmong Tryz.f6.resultTypes.toList)) = true:=by kernel_rfl
theorem ckF3:((Rows.denoTwoRow.loops == (Tryz.f6.params.toList ++ Rows.denoTwoSpec.plain.varTypes Tryz.prog).any (Tryz.prog.loopsFrom ·))) = true:=by kernel_rfl
theorem ckF4:((Rows.denoTwoRow.wideKeys == (Tryz.f6.params.toList ++ Rows.denoTwoSpec.plain.varTypes Tryz.prog ++ Tryz.f6.resultTypes.toList).any (Tryz.prog.wideKeysFrom ·))) = true:=by kernel_rfl
theorem ckG0:(Rows.denoTwoSpec.vars.all (Tryz.prog.varReadable ·)) = true:=by kernel_rfl
theorem ckG1:(Tryz.f6.resultTypes.all (fun t=>Tryz.prog.readableRec t && decide (t < Tryz.prog.types.size))) = true:=by kernel_rfl
theorem ckG2:((Rows.denoTwoRow.ifacesOut == Tryz.f6.resultTypes.toList.any (Tryz.prog.ifacesRec ·))) = true:=by kernel_rfl
theorem ckG3:((Rows.denoTwoRow.loopsOut == Tryz.f6.resultTypes.toList.any (Tryz.prog.loopsFrom ·))) = true:=by kernel_rfl
theorem ckG4:((Rows.denoTwoRow.plainKeys == Tryz.prog.plainKeys)) = true:=by kernel_rfl
theorem ckG5:(Rows.denoTwoRow.shortTexts.isNone) = true:=by kernel_rfl
theorem ckG6:(Tryz.prog.stopsHeard) = true:=by kernel_rfl
theorem ckG7:(Tryz.prog.mayEnter) = true:=by kernel_rfl
theorem ckG8:((Rows.denoTwoRow.lifted == Tryz.prog.liftsFinal)) = true:=by kernel_rfl
theorem ckJ0:((Tryz.prog.make == some Rows.denoTwoRow.make)) = true:=by kernel_rfl
theorem ckJ2:((Rows.denoTwoRow.pinned == Rows.denoTwoRow.pinnedBy)) = true:=by kernel_rfl
theorem ckH0:((Rows.denoTwoRow.veiled == (Tryz.f6.params.toList ++ Rows.denoTwoSpec.plain.varTypes Tryz.prog ++ Tryz.f6.resultTypes.toList).any (Tryz.prog.veiledRec ·))) = true:=by kernel_rfl
theorem ckH1:(Rows.denoTwoRow.veiledFits Tryz.prog Tryz.f6.params.toList (Tryz.f6.params.toList ++ Rows.denoTwoSpec.plain.varTypes Tryz.prog ++ Tryz.f6.resultTypes.toList)) = true:=by kernel_rfl
end Go.Proofs.YtdmgbhamigegfaaGreatDoor.denoTwo
