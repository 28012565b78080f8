/- The closed facts of the row DenoTallies, each by itself. -/
import Derived.Test.YtdmgbhamigegfaaGreatDoorRows
import Derived.Test.YtdmgbhamigegfaaGreatDoorA3
import Derived.OpenShut
import Derived.JoinedOf
import Derived.KernelRfl
namespace Go.Proofs.YtdmgbhamigegfaaGreatDoor.denoTallies
open Go Go.Abs
theorem and_in {a b:Bool} (h:a = true) (k:b = true):(a && b) = true:=by rw [h,k]; rfl
theorem ckA0:(Rows.denoTalliesRow.wf (OpenSpec.ofChange Rows.denoTalliesSpec)) = true:=by kernel_rfl
theorem ckA1:(laidOutB Tryz.prog) = true:=by kernel_rfl
theorem ckA2:(mapsRowed Tryz.prog) = true:=by kernel_rfl
theorem ckA3:(Tryz.f8.params.all (Tryz.prog.readableRec ·)) = true:=by kernel_rfl
theorem ckA4:(namedTie Tryz.prog Rows.denoTalliesRow.named Rows.denoTalliesSpec.vars) = true:=by kernel_rfl
theorem ckI0:((Rows.denoTalliesRow.stops == [])) = true:=by kernel_rfl
theorem ckI1:((Tryz.prog.stops == [])) = true:=by kernel_rfl
theorem ckI2:((Rows.denoTalliesRow.knobs == [])) = true:=by kernel_rfl
theorem ckI3:((Tryz.prog.stopKnobs == [])) = true:=by kernel_rfl
theorem ckB0:((Rows.denoTalliesRow.inPlace == Tryz.prog.inPlace 8)) = true:=by kernel_rfl
theorem ckC0:((Rows.denoTalliesRow.unfollowed == Tryz.prog.unfollowed 8)) = true:=by kernel_rfl
theorem ckD0:((Rows.denoTalliesRow.recurses == Tryz.prog.recurses 8)) = true:=by kernel_rfl
theorem ckE0:((Rows.denoTalliesRow.named == Tryz.prog.varsNamed 8)) = true:=by kernel_rfl
theorem ckF0:((Rows.denoTalliesRow.maps == (Tryz.f8.params.toList ++ Rows.denoTalliesSpec.plain.varTypes Tryz.prog).any (Tryz.prog.mapsRec ·))) = true:=by kernel_rfl
theorem ckF1:((Rows.denoTalliesRow.ifaces == (Tryz.f8.params.toList ++ Rows.denoTalliesSpec.plain.varTypes Tryz.prog).any (Tryz.prog.ifacesRec ·))) = true:=by kernel_rfl
theorem ckF2:((Rows.denoTalliesRow.mapsOut == Tryz.prog.mapsAmong Tryz.f8.resultTypes.toList)) = true:=by kernel_rfl
theorem ckF3:((Rows.denoTalliesRow.loops == (Tryz.f8.params.toList ++ Rows.denoTalliesSpec.plain.varTypes Tryz.prog).any (Tryz.prog.loopsFrom ·))) = true:=by kernel_rfl
theorem ckF4:((Rows.denoTalliesRow.wideKeys == (Tryz.f8.params.toList ++ Rows.denoTalliesSpec.plain.varTypes Tryz.prog ++ Tryz.f8.resultTypes.toList).any (Tryz.prog.wideKeysFrom ·))) = true:=by kernel_rfl
theorem ckG0:(Rows.denoTalliesSpec.vars.all (Tryz.prog.varReadable ·)) = true:=by kernel_rfl
theorem ckG1:(Tryz.f8.resultTypes.all (fun t=>Tryz.prog.readableRec t && decide (t < Tryz.prog.types.size))) = true:=by kernel_rfl
theorem ckG2:((Rows.denoTalliesRow.ifacesOut == Tryz.f8.resultTypes.toList.any (Tryz.prog.ifacesRec ·))) = true:=by kernel_rfl
theorem ckG3:((Rows.denoTalliesRow.loopsOut == Tryz.f8.resultTypes.toList.any (Tryz.prog.loopsFrom ·))) = true:=by kernel_rfl
theorem ckG4:((Rows.denoTalliesRow.plainKeys == Tryz.prog.plainKeys)) = true:=by kernel_rfl
theorem ckG5:(Rows.denoTalliesRow.shortTexts.isNone) = true:=by kernel_rfl
theorem ckG6:(Tryz.prog.stopsHeard) = true:=by kernel_rfl
theorem ckG7:(Tryz.prog.mayEnter) = true:=by kernel_rfl
theorem ckG8:((Rows.denoTalliesRow.lifted == Tryz.prog.liftsFinal)) = true:=by kernel_rfl
theorem ckJ0:((Tryz.prog.make == some Rows.denoTalliesRow.make)) = true:=by kernel_rfl
theorem ckJ2:((Rows.denoTalliesRow.pinned == Rows.denoTalliesRow.pinnedBy)) = true:=by kernel_rfl
theorem ckH0:((Rows.denoTalliesRow.veiled == (Tryz.f8.params.toList ++ Rows.denoTalliesSpec.plain.varTypes Tryz.prog ++ Tryz.f8.resultTypes.toList).any (Tryz.prog.veiledRec ·))) = true:=by kernel_rfl
theorem ckH1:(Rows.denoTalliesRow.veiledFits Tryz.prog Tryz.f8.params.toList (Tryz.f8.params.toList ++ Rows.denoTalliesSpec.plain.varTypes Tryz.prog ++ Tryz.f8.resultTypes.toList)) = true:=by kernel_rfl
end Go.Proofs.YtdmgbhamigegfaaGreatDoor.denoTallies
