/- The closed facts of the row DenoBad, each by itself. -/
import Derived.Test.YtdmgbhamigegfaaGreatDoorRows
import Derived.Test.YtdmgbhamigegfaaGreatDoorA3
import Derived.OpenShut
import Derived.JoinedOf
import Derived.KernelRfl
namespace Go.Proofs.YtdmgbhamigegfaaGreatDoor.denoBad
open Go Go.Abs
theorem and_in {a b : Bool} (h : a = true) (k : b = true) : (a && b) = true := by rw [h, k]; rfl
theorem ckA0 : (Rows.denoBadRow.wf (OpenSpec.ofChange Rows.denoBadSpec)) = true := by kernel_rfl
theorem ckA1 : (laidOutB Tryz.prog) = true := by kernel_rfl
theorem ckA2 : (mapsRowed Tryz.prog) = true := by kernel_rfl
theorem ckA3 : (Tryz.f3.params.all (Tryz.prog.readableRec ·)) = true := by kernel_rfl
theorem ckA4 : (namedTie Tryz.prog Rows.denoBadRow.named Rows.denoBadSpec.vars) = true := by kernel_rfl
theorem ckI0 : ((Rows.denoBadRow.stops == [])) = true := by kernel_rfl
theorem ckI1 : ((Tryz.prog.stops == [])) = true := by kernel_rfl
theorem ckI2 : ((Rows.denoBadRow.knobs == [])) = true := by kernel_rfl
theorem ckI3 : ((Tryz.prog.stopKnobs == [])) = true := by kernel_rfl
theorem ckB0 : ((Rows.denoBadRow.inPlace == Tryz.prog.inPlace 3)) = true := by kernel_rfl
theorem ckC0 : ((Rows.denoBadRow.unfollowed == Tryz.prog.unfollowed 3)) = true := by kernel_rfl
theorem ckD0 : ((Rows.denoBadRow.recurses == Tryz.prog.recurses 3)) = true := by kernel_rfl
theorem ckE0 : ((Rows.denoBadRow.named == Tryz.prog.varsNamed 3)) = true := by kernel_rfl
theorem ckF0 : ((Rows.denoBadRow.maps == (Tryz.f3.params.toList ++ Rows.denoBadSpec.plain.varTypes Tryz.prog).any (Tryz.prog.mapsRec ·))) = true := by kernel_rfl
theorem ckF1 : ((Rows.denoBadRow.ifaces == (Tryz.f3.params.toList ++ Rows.denoBadSpec.plain.varTypes Tryz.prog).any (Tryz.prog.ifacesRec ·))) = true := by kernel_rfl
theorem ckF2 : ((Rows.denoBadRow.mapsOut == Tryz.prog.mapsAmong Tryz.f3.resultTypes.toList)) = true := by kernel_rfl
theorem ckF3 : ((Rows.denoBadRow.loops == (Tryz.f3.params.toList ++ Rows.denoBadSpec.plain.varTypes Tryz.prog).any (Tryz.prog.loopsFrom ·))) = true := by kernel_rfl
theorem ckF4 : ((Rows.denoBadRow.wideKeys == (Tryz.f3.params.toList ++ Rows.denoBadSpec.plain.varTypes Tryz.prog ++ Tryz.f3.resultTypes.toList).any (Tryz.prog.wideKeysFrom ·))) = true := by kernel_rfl
theorem ckG0 : (Rows.denoBadSpec.vars.all (Tryz.prog.varReadable ·)) = true := by kernel_rfl
theorem ckG1 : (Tryz.f3.resultTypes.all (fun t => Tryz.prog.readableRec t && decide (t < Tryz.prog.types.size))) = true := by kernel_rfl
theorem ckG2 : ((Rows.denoBadRow.ifacesOut == Tryz.f3.resultTypes.toList.any (Tryz.prog.ifacesRec ·))) = true := by kernel_rfl
theorem ckG3 : ((Rows.denoBadRow.loopsOut == Tryz.f3.resultTypes.toList.any (Tryz.prog.loopsFrom ·))) = true := by kernel_rfl
theorem ckG4 : ((Rows.denoBadRow.plainKeys == Tryz.prog.plainKeys)) = true := by kernel_rfl
theorem ckG5 : (Rows.denoBadRow.shortTexts.isNone) = true := by kernel_rfl
theorem ckG6 : (Tryz.prog.stopsHeard) = true := by kernel_rfl
theorem ckG7 : (Tryz.prog.mayEnter) = true := by kernel_rfl
theorem ckG8 : ((Rows.denoBadRow.lifted == Tryz.prog.liftsFinal)) = true := by kernel_rfl
theorem ckJ0 : ((Tryz.prog.make == some Rows.denoBadRow.make)) = true := by kernel_rfl
theorem ckJ2 : ((Rows.denoBadRow.pinned == Rows.denoBadRow.pinnedBy)) = true := by kernel_rfl
theorem ckH0 : ((Rows.denoBadRow.veiled == (Tryz.f3.params.toList ++ Rows.denoBadSpec.plain.varTypes Tryz.prog ++ Tryz.f3.resultTypes.toList).any (Tryz.prog.veiledRec ·))) = true := by kernel_rfl
theorem ckH1 : (Rows.denoBadRow.veiledFits Tryz.prog Tryz.f3.params.toList (Tryz.f3.params.toList ++ Rows.denoBadSpec.plain.varTypes Tryz.prog ++ Tryz.f3.resultTypes.toList)) = true := by kernel_rfl
end Go.Proofs.YtdmgbhamigegfaaGreatDoor.denoBad
