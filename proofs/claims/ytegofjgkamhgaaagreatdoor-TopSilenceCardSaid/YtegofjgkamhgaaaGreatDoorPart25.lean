/- Part25 -/
import Derived.Test.YtegofjgkamhgaaaGreatDoorCards
import Derived.SevenTiedAt
import Derived.Lib.LaidU8
import Derived.Test.YtegofjgkamhgaaaGreatDoorPart6
import Derived.Test.YtegofjgkamhgaaaGreatDoorPart24
namespace Go.Proofs.YtegofjgkamhgaaaGreatDoor.topSilence
open Go.RowKit Go.Lift
set_option maxRecDepth 100000
set_option linter.unusedVariables false
theorem j16:((Rows.topSilenceRow.loops==(Tryz.f3.params.toList++Rows.topSilenceSpec.plain.varTypes Tryz.prog).any (Tryz.prog.loopsFrom ·)))=true:=by kernel_rfl
theorem j17:((Rows.topSilenceRow.wideKeys==(Tryz.f3.params.toList++Rows.topSilenceSpec.plain.varTypes Tryz.prog++Tryz.f3.resultTypes.toList).any (Tryz.prog.wideKeysFrom ·)))=true:=by kernel_rfl
theorem j18:(Rows.topSilenceSpec.vars.all (Tryz.prog.varReadable ·))=true:=by kernel_rfl
theorem j19:(Tryz.f3.resultTypes.all (λt=>Tryz.prog.readableRec t&&decide (t<Tryz.prog.types.size)))=true:=by kernel_rfl
theorem j20:((Rows.topSilenceRow.ifacesOut==Tryz.f3.resultTypes.toList.any (Tryz.prog.ifacesRec ·)))=true:=by kernel_rfl
theorem j21:((Rows.topSilenceRow.loopsOut==Tryz.f3.resultTypes.toList.any (Tryz.prog.loopsFrom ·)))=true:=by kernel_rfl
theorem j22:((Rows.topSilenceRow.plainKeys==Tryz.prog.plainKeys))=true:=by kernel_rfl
theorem j23:(Rows.topSilenceRow.shortTexts.isNone)=true:=by kernel_rfl
theorem j24:(Tryz.prog.stopsHeard)=true:=by kernel_rfl
theorem j25:(Tryz.prog.mayEnter)=true:=by kernel_rfl
theorem j26:((Rows.topSilenceRow.lifted==Tryz.prog.liftsFinal))=true:=by kernel_rfl
theorem j27:((Tryz.prog.make==some Rows.topSilenceRow.make))=true:=by kernel_rfl
theorem j28:((Rows.topSilenceRow.kinds==(if Rows.topSilenceRow.domain.isEmpty then []else Tryz.f3.params.toList.map λt=>match Tryz.prog.underlying t with|some (.int k)=>some k|_=>none)))=true:=by kernel_rfl
theorem j29:((Rows.topSilenceRow.pinned==Rows.topSilenceRow.pinnedBy))=true:=by kernel_rfl
theorem j30:((Rows.topSilenceRow.veiled==(Tryz.f3.params.toList++Rows.topSilenceSpec.plain.varTypes Tryz.prog++Tryz.f3.resultTypes.toList).any (Tryz.prog.veiledRec ·)))=true:=by kernel_rfl
theorem j31:(Rows.topSilenceRow.veiledFits Tryz.prog Tryz.f3.params.toList (Tryz.f3.params.toList++Rows.topSilenceSpec.plain.varTypes Tryz.prog++Tryz.f3.resultTypes.toList))=true:=by kernel_rfl
theorem andI{a b:Bool}(h:a=true)(k:b=true):(a&&b)=true:=by rw[h,k];rfl
theorem jall:joinedFacts Tryz.prog 3 Tryz.f3 Rows.topSilenceSpec Rows.topSilenceRow=true:=(andI (andI (andI (andI (andI (andI (andI (andI (andI (andI (andI (andI (andI (andI (andI (andI (andI (andI (andI (andI (andI (andI (andI (andI (andI (andI (andI (andI (andI (andI (andI j0 j1) j2) j3) j4) j5) j6) j7) j8) j9) j10) j11) j12) j13) j14) j15) j16) j17) j18) j19) j20) j21) j22) j23) j24) j25) j26) j27) j28) j29) j30) j31)
end Go.Proofs.YtegofjgkamhgaaaGreatDoor.topSilence
