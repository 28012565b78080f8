/- The closed facts of the row DenoCheck, each by itself. -/
import Derived.Test.YtdmgbhamigegfaaGreatDoorRows
import Derived.Test.YtdmgbhamigegfaaGreatDoorA3
import Derived.OpenShut
import Derived.JoinedOf
import Derived.KernelRfl
namespace Go.Proofs.YtdmgbhamigegfaaGreatDoor.denoCheck
open Go Go.Abs
theorem and_in {a b:Bool} (h:a=true) (k:b=true):(a && b)=true:=by rw [h,k]; rfl
theorem ckA0:(Rows.denoCheckRow.wf (OpenSpec.ofChange Rows.denoCheckSpec))=true:=by kernel_rfl
theorem ckA1:(laidOutB Tryz.prog)=true:=by kernel_rfl
theorem ckA2:(mapsRowed Tryz.prog)=true:=by kernel_rfl
theorem ckA3:(Tryz.f5.params.all (Tryz.prog.readableRec ·))=true:=by kernel_rfl
theorem ckA4:(namedTie Tryz.prog Rows.denoCheckRow.named Rows.denoCheckSpec.vars)=true:=by kernel_rfl
theorem ckI0:((Rows.denoCheckRow.stops == []))=true:=by kernel_rfl
theorem ckI1:((Tryz.prog.stops == []))=true:=by kernel_rfl
theorem ckI2:((Rows.denoCheckRow.knobs == []))=true:=by kernel_rfl
theorem ckI3:((Tryz.prog.stopKnobs == []))=true:=by kernel_rfl
theorem ckB0:((Rows.denoCheckRow.inPlace == Tryz.prog.inPlace 5))=true:=by kernel_rfl
theorem ckC0:((Rows.denoCheckRow.unfollowed == Tryz.prog.unfollowed 5))=true:=by kernel_rfl
theorem ckD0:((Rows.denoCheckRow.recurses == Tryz.prog.recurses 5))=true:=by kernel_rfl
theorem ckE0:((Rows.denoCheckRow.named == Tryz.prog.varsNamed 5))=true:=by kernel_rfl
theorem ckF0:((Rows.denoCheckRow.maps == (Tryz.f5.params.toList++Rows.denoCheckSpec.plain.varTypes Tryz.prog).any (Tryz.prog.mapsRec ·)))=true:=by kernel_rfl
theorem ckF1:((Rows.denoCheckRow.ifaces == (Tryz.f5.params.toList++Rows.denoCheckSpec.plain.varTypes Tryz.prog).any (Tryz.prog.ifacesRec ·)))=true:=by kernel_rfl
theorem ckF2:((Rows.denoCheckRow.mapsOut == Tryz.prog.mapsAmong Tryz.f5.resultTypes.toList))=true:=by kernel_rfl
theorem ckF3:((Rows.denoCheckRow.loops == (Tryz.f5.params.toList++Rows.denoCheckSpec.plain.varTypes Tryz.prog).any (Tryz.prog.loopsFrom ·)))=true:=by kernel_rfl
theorem ckF4:((Rows.denoCheckRow.wideKeys == (Tryz.f5.params.toList++Rows.denoCheckSpec.plain.varTypes Tryz.prog++Tryz.f5.resultTypes.toList).any (Tryz.prog.wideKeysFrom ·)))=true:=by kernel_rfl
theorem ckG0:(Rows.denoCheckSpec.vars.all (Tryz.prog.varReadable ·))=true:=by kernel_rfl
theorem ckG1:(Tryz.f5.resultTypes.all (fun t=>Tryz.prog.readableRec t && decide (t < Tryz.prog.types.size)))=true:=by kernel_rfl
theorem ckG2:((Rows.denoCheckRow.ifacesOut == Tryz.f5.resultTypes.toList.any (Tryz.prog.ifacesRec ·)))=true:=by kernel_rfl
theorem ckG3:((Rows.denoCheckRow.loopsOut == Tryz.f5.resultTypes.toList.any (Tryz.prog.loopsFrom ·)))=true:=by kernel_rfl
theorem ckG4:((Rows.denoCheckRow.plainKeys == Tryz.prog.plainKeys))=true:=by kernel_rfl
theorem ckG5:(Rows.denoCheckRow.shortTexts.isNone)=true:=by kernel_rfl
theorem ckG6:(Tryz.prog.stopsHeard)=true:=by kernel_rfl
theorem ckG7:(Tryz.prog.mayEnter)=true:=by kernel_rfl
theorem ckG8:((Rows.denoCheckRow.lifted == Tryz.prog.liftsFinal))=true:=by kernel_rfl
theorem ckJ0:((Tryz.prog.make == some Rows.denoCheckRow.make))=true:=by kernel_rfl
theorem ckJ2:((Rows.denoCheckRow.pinned == Rows.denoCheckRow.pinnedBy))=true:=by kernel_rfl
theorem ckH0:((Rows.denoCheckRow.veiled == (Tryz.f5.params.toList++Rows.denoCheckSpec.plain.varTypes Tryz.prog++Tryz.f5.resultTypes.toList).any (Tryz.prog.veiledRec ·)))=true:=by kernel_rfl
theorem ckH1:(Rows.denoCheckRow.veiledFits Tryz.prog Tryz.f5.params.toList (Tryz.f5.params.toList++Rows.denoCheckSpec.plain.varTypes Tryz.prog++Tryz.f5.resultTypes.toList))=true:=by kernel_rfl
end Go.Proofs.YtdmgbhamigegfaaGreatDoor.denoCheck
