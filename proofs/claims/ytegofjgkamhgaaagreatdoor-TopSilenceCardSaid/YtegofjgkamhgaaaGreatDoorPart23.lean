/- Part23 -/
import Derived.Test.YtegofjgkamhgaaaGreatDoorCards
import Derived.SevenTiedAt
import Derived.Lib.LaidU8
import Derived.Test.YtegofjgkamhgaaaGreatDoorPart6
namespace Go.Proofs.YtegofjgkamhgaaaGreatDoor.topSilence
open Go.RowKit Go.Lift
set_option maxRecDepth 100000
set_option linter.unusedVariables false
theorem k0:Tryz.checked.prog.inits.idxOf? 3=none:=by kernel_rfl
theorem k1(os:Os):((World.laidAll Tryz.prog os Rows.topSilenceRow.laid).forCall (λ_ _=>0) ⟨#[],#[.slice none 0 0,.int .i64 0],[]⟩).variablesZipB Tryz.checked.prog=true:=by kernel_rfl
theorem k2(os:Os):(((World.laidAll Tryz.prog os Rows.topSilenceRow.laid).forCall (λ_ _=>0) ⟨#[],#[.slice none 0 0,.int .i64 0],[]⟩).heap.toList.drop Tryz.checked.prog.globals.size).take ((begin Tryz.checked.prog (λ_ _=>0) default).world.heap.size-Tryz.checked.prog.globals.size)=(begin Tryz.checked.prog (λ_ _=>0) default).world.heap.toList.drop Tryz.checked.prog.globals.size:=by kernel_rfl
theorem k3(os:Os):Input.okWideB Tryz.checked.prog ((World.laidAll Tryz.prog os Rows.topSilenceRow.laid).forCall (λ_ _=>0) ⟨#[],#[.slice none 0 0,.int .i64 0],[]⟩) 3 ⟨#[],#[.slice none 0 0,.int .i64 0],[]⟩=true:=by kernel_rfl
theorem k4(os:Os)(H:Type)(enc:TypeId×Value->H):Rows.topSilenceSpec.preB enc Tryz.checked.prog Tryz.f3 Rows.topSilenceRow.domain false ((World.laidAll Tryz.prog os Rows.topSilenceRow.laid).forCall (λ_ _=>0) ⟨#[],#[.slice none 0 0,.int .i64 0],[]⟩).memory #[.slice none 0 0,.int .i64 0] 8=true:=by kernel_rfl
theorem k5(os:Os)(H:Type)(enc:TypeId×Value->H):Rows.topSilenceSpec.sizedB enc Tryz.checked.prog Tryz.f3 false ((World.laidAll Tryz.prog os Rows.topSilenceRow.laid).forCall (λ_ _=>0) ⟨#[],#[.slice none 0 0,.int .i64 0],[]⟩).memory #[.slice none 0 0,.int .i64 0] 8=true:=by kernel_rfl
theorem k6:(Rows.topSilenceRow.laid.all λx=>x.2.handleName?.isNone)=true:=by kernel_rfl
theorem k7(os:Os):(World.holding Tryz.prog os ⟨#[],#[],[]⟩).layFits Tryz.prog Rows.topSilenceRow.laid []=true:=by kernel_rfl
theorem k8(os:Os):(World.holding Tryz.prog os ⟨#[],#[],[]⟩).layIfaces Tryz.prog Rows.topSilenceRow.laid (World.laidAll Tryz.prog os Rows.topSilenceRow.laid)=true:=by kernel_rfl
theorem k10:laidOutB Tryz.prog=true:=by kernel_rfl
theorem k11:(Tryz.f3.params.toList.all λt=>Tryz.prog.readableRec t&&Nat.blt t Tryz.prog.types.size)=true:=by kernel_rfl
theorem k20:OpenClaim.wfByText (OpenSpec.ofChange Rows.topSilenceSpec) Rows.topSilenceRow=true:=by kernel_rfl
theorem k21:Tryz.pinned.checked.prog.mainIs=some ((true, "6f4ac0bda69873d9b08404287890b4375dd6ed0dfbf17c3b50b6232254d44b29").1,(true, "6f4ac0bda69873d9b08404287890b4375dd6ed0dfbf17c3b50b6232254d44b29").2.toList):=by kernel_rfl
theorem ACZ{P:Program}(h:P.funcs.any Func.goes=false)(f:FuncId):P.goes f=false:=by
 have h1:∀g:FuncId,(P.funcs[g]?).any Func.goes=false:=λg=>by
  cases hg:P.funcs[g]? with
  |none=>rfl
  |some fn=>obtain⟨hl,rfl⟩:=Fb.mp hg;have:=Array.any_eq_false.mp h g hl;simpa using this
 unfold Program.goes;rw[h,Bool.and_false,Sf];exact List.any_eq_false.mpr λg _=>by rw[h1 g];simp
theorem AD0{c:OpenClaim}{P:Program}(h:P.funcs.any Func.goes=false)(hs:c.start=.entering):c.goesBy P=false:=by
 unfold OpenClaim.goesBy Program.goesAt Program.goesFrom;rw[hs];cases P.funcNamed c.func with
 |none=>rfl
 |some f=>simp[ACZ h f]
theorem k22a:Tryz.pinned.checked.prog.funcs.any Func.goes=false:=by kernel_rfl
theorem k22:false=Rows.topSilenceRow.goesBy Tryz.pinned.checked.prog:=(AD0 k22a rfl).symm
theorem k23:Tryz.prog.funcNamed "pagewatch/pagewatchtop.TopSilence"=some 3:=by kernel_rfl
theorem k24:([22,3].all λu=>!Tryz.prog.wantsStandIn u)=true:=by kernel_rfl
end Go.Proofs.YtegofjgkamhgaaaGreatDoor.topSilence
