/- The closed facts of the row DenoUnion, each by itself. -/
import Derived.Test.YtdmgbhamigegfaaGreatDoorRows
import Derived.Test.YtdmgbhamigegfaaGreatDoorA3
import Derived.OpenShut
import Derived.JoinedOf
import Derived.KernelRfl
namespace Go.Proofs.YtdmgbhamigegfaaGreatDoor.denoUnion
open Go Go.Abs
theorem and_in {a b:Bool} (h:a=true) (k:b=true):(a && b)=true:=by rw [h,k]; rfl
theorem ckA0:(Rows.denoUnionRow.wf (OpenSpec.ofChange Rows.denoUnionSpec))=true:=by kernel_rfl
theorem ckA1:(laidOutB Tryz.prog)=true:=by kernel_rfl
theorem ckA2:(mapsRowed Tryz.prog)=true:=by kernel_rfl
theorem ckA3:(Tryz.f4.params.all (Tryz.prog.readableRec ·))=true:=by kernel_rfl
theorem ckA4:(namedTie Tryz.prog Rows.denoUnionRow.named Rows.denoUnionSpec.vars)=true:=by kernel_rfl
theorem ckI0:((Rows.denoUnionRow.stops == []))=true:=by kernel_rfl
theorem ckI1:((Tryz.prog.stops == []))=true:=by kernel_rfl
theorem ckI2:((Rows.denoUnionRow.knobs == []))=true:=by kernel_rfl
theorem ckI3:((Tryz.prog.stopKnobs == []))=true:=by kernel_rfl
theorem ckB0:((Rows.denoUnionRow.inPlace == Tryz.prog.inPlace 4))=true:=by kernel_rfl
theorem ckC0:((Rows.denoUnionRow.unfollowed == Tryz.prog.unfollowed 4))=true:=by kernel_rfl
theorem ckD0:((Rows.denoUnionRow.recurses == Tryz.prog.recurses 4))=true:=by kernel_rfl
theorem ckE0:((Rows.denoUnionRow.named == Tryz.prog.varsNamed 4))=true:=by kernel_rfl
theorem ckF0:((Rows.denoUnionRow.maps == (Tryz.f4.params.toList++Rows.denoUnionSpec.plain.varTypes Tryz.prog).any (Tryz.prog.mapsRec ·)))=true:=by kernel_rfl
theorem ckF1:((Rows.denoUnionRow.ifaces == (Tryz.f4.params.toList++Rows.denoUnionSpec.plain.varTypes Tryz.prog).any (Tryz.prog.ifacesRec ·)))=true:=by kernel_rfl
theorem ckF2:((Rows.denoUnionRow.mapsOut == Tryz.prog.mapsAmong Tryz.f4.resultTypes.toList))=true:=by kernel_rfl
theorem ckF3:((Rows.denoUnionRow.loops == (Tryz.f4.params.toList++Rows.denoUnionSpec.plain.varTypes Tryz.prog).any (Tryz.prog.loopsFrom ·)))=true:=by kernel_rfl
theorem ckF4:((Rows.denoUnionRow.wideKeys == (Tryz.f4.params.toList++Rows.denoUnionSpec.plain.varTypes Tryz.prog++Tryz.f4.resultTypes.toList).any (Tryz.prog.wideKeysFrom ·)))=true:=by kernel_rfl
theorem ckG0:(Rows.denoUnionSpec.vars.all (Tryz.prog.varReadable ·))=true:=by kernel_rfl
theorem ckG1:(Tryz.f4.resultTypes.all (fun t=>Tryz.prog.readableRec t && decide (t < Tryz.prog.types.size)))=true:=by kernel_rfl
theorem ckG2:((Rows.denoUnionRow.ifacesOut == Tryz.f4.resultTypes.toList.any (Tryz.prog.ifacesRec ·)))=true:=by kernel_rfl
theorem ckG3:((Rows.denoUnionRow.loopsOut == Tryz.f4.resultTypes.toList.any (Tryz.prog.loopsFrom ·)))=true:=by kernel_rfl
theorem ckG4:((Rows.denoUnionRow.plainKeys == Tryz.prog.plainKeys))=true:=by kernel_rfl
theorem ckG5:(Rows.denoUnionRow.shortTexts.isNone)=true:=by kernel_rfl
theorem ckG6:(Tryz.prog.stopsHeard)=true:=by kernel_rfl
theorem ckG7:(Tryz.prog.mayEnter)=true:=by kernel_rfl
theorem ckG8:((Rows.denoUnionRow.lifted == Tryz.prog.liftsFinal))=true:=by kernel_rfl
theorem ckJ0:((Tryz.prog.make == some Rows.denoUnionRow.make))=true:=by kernel_rfl
theorem ckJ2:((Rows.denoUnionRow.pinned == Rows.denoUnionRow.pinnedBy))=true:=by kernel_rfl
theorem ckH0:((Rows.denoUnionRow.veiled == (Tryz.f4.params.toList++Rows.denoUnionSpec.plain.varTypes Tryz.prog++Tryz.f4.resultTypes.toList).any (Tryz.prog.veiledRec ·)))=true:=by kernel_rfl
theorem ckH1:(Rows.denoUnionRow.veiledFits Tryz.prog Tryz.f4.params.toList (Tryz.f4.params.toList++Rows.denoUnionSpec.plain.varTypes Tryz.prog++Tryz.f4.resultTypes.toList))=true:=by kernel_rfl
end Go.Proofs.YtdmgbhamigegfaaGreatDoor.denoUnion
