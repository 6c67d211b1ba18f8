/- Part24 -/
import Derived.Test.YtegofjgkamhgaaaGreatDoorCards
import Derived.SevenTiedAt
import Derived.Lib.LaidU8
import Derived.Test.YtegofjgkamhgaaaGreatDoorPart6
namespace Go.Proofs.YtegofjgkamhgaaaGreatDoor.topSilence
open Go.RowKit Go.Lift
set_option maxRecDepth 100000
set_option linter.unusedVariables false
theorem j0:(Rows.topSilenceRow.wf (OpenSpec.ofChange Rows.topSilenceSpec))=true:=by kernel_rfl
theorem j1:(laidOutB Tryz.prog)=true:=by kernel_rfl
theorem j2:(mapsRowed Tryz.prog)=true:=by kernel_rfl
theorem j3:(Tryz.f3.params.all (Tryz.prog.readableRec ·))=true:=by kernel_rfl
theorem j4:(namedTie Tryz.prog Rows.topSilenceRow.named Rows.topSilenceSpec.vars)=true:=by kernel_rfl
theorem j5:((Rows.topSilenceRow.stops==[]))=true:=by kernel_rfl
theorem j6:((Tryz.prog.stops==[]))=true:=by kernel_rfl
theorem j7:((Rows.topSilenceRow.knobs==[]))=true:=by kernel_rfl
theorem j8:((Tryz.prog.stopKnobs==[]))=true:=by kernel_rfl
theorem j9:((Rows.topSilenceRow.inPlace==Tryz.prog.inPlace 3))=true:=by kernel_rfl
theorem j10:((Rows.topSilenceRow.unfollowed==Tryz.prog.unfollowed 3))=true:=by kernel_rfl
theorem j11:((Rows.topSilenceRow.recurses==Tryz.prog.recurses 3))=true:=by kernel_rfl
theorem j12:((Rows.topSilenceRow.named==Tryz.prog.varsNamed 3))=true:=by kernel_rfl
theorem j13:((Rows.topSilenceRow.maps==(Tryz.f3.params.toList++Rows.topSilenceSpec.plain.varTypes Tryz.prog).any (Tryz.prog.mapsRec ·)))=true:=by kernel_rfl
theorem j14:((Rows.topSilenceRow.ifaces==(Tryz.f3.params.toList++Rows.topSilenceSpec.plain.varTypes Tryz.prog).any (Tryz.prog.ifacesRec ·)))=true:=by kernel_rfl
theorem j15:((Rows.topSilenceRow.mapsOut==Tryz.prog.mapsAmong Tryz.f3.resultTypes.toList))=true:=by kernel_rfl
end Go.Proofs.YtegofjgkamhgaaaGreatDoor.topSilence
