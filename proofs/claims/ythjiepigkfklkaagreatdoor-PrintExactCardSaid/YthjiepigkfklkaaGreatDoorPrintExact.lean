/- PrintExact answers true at every input. No conditions but the library's laid variables, as the row says. -/
import Derived.Test.YthjiepigkfklkaaGreatDoorCards
import Derived.Test.YthjiepigkfklkaaGreatDoorTie
import Derived.SevenTiedAt
import Derived.Lib.LaidU8
import Derived.Test.YthjiepigkfklkaaGreatDoorPart20
namespace Go.Proofs.YthjiepigkfklkaaGreatDoor.printExact
open Go.RowKit Go.Lift
set_option maxRecDepth 100000
set_option linter.unusedVariables false
theorem whiteAt_of{g:Nat}{w:World}(h:Lib.WhiteTab g w):bE g w:=by
  obtain⟨T,oT,R,oR,a,b,c,d,e⟩:=h;refine⟨T,oT,R,oR,λi v hv=>?_,λi v hv=>?_,λi v hv=>?_⟩
  · match i,hv with
    |0,hv=>cases hv;exact a
    |i+1,hv=>cases hv
  · match i,hv with
    |0,hv=>cases hv;exact b
    |1,hv=>cases hv;exact c
    |2,hv=>cases hv;exact d
    |i+3,hv=>cases hv
  · rw[Gz]at hv;obtain⟨z,hz,rfl⟩:=TJ.1 hv;have hl:i<Lib.whiteT.length:=(Fe.1 hz).1;have:=e i hl;rw[ZO,hz]at this;exact this
theorem own:ownKnob Tryz.prog.godebug=none:=by kernel_rfl
theorem opened(W:World)(Nw:W.ShapedOpen Tryz.prog)(GT:laidMetH Tryz.prog Rows.printExactRow.laid W):Opened Tryz.prog W:=by
  have hl:laidMet Tryz.prog Rows.printExactRow.laid W:=(MakeChecks.laidMetH_plain _ _ _ (by kernel_rfl)).mp GT;refine⟨Nw,λx hx hn=>?_,λx hx hn=>?_,λg hg=>?_⟩
  · have hx:x=("internal/strconv.uint64pow10",.u64,Lib.pow10Tab)\/x=("strings.asciiSpace",.u8,Lib.asciiSpaceTab):=by simpa [Ul]using hx
    rcases hx with rfl|rfl
    · exact Lib.tabIs_of_head (g:=5) (t:=338) (e:=222) (n:=20) (by kernel_rfl) (by kernel_rfl) Tryz.underlying338 Tryz.underlying222 (by kernel_rfl) (by kernel_rfl) (show laidMet _ (("internal/strconv.uint64pow10",Rows.laid_internal_strconv_uint64pow10)::_) _ from hl.tail.tail)
    · exact Lib.tabIs_of_head (g:=0) (t:=227) (e:=5) (n:=256) (by kernel_rfl) (by kernel_rfl) Tryz.underlying227 Tryz.underlying5 (by kernel_rfl) (by kernel_rfl) (show laidMet _ (("strings.asciiSpace",Rows.laid_strings_asciiSpace)::_) _ from hl.tail.tail.tail.tail.tail.tail.tail)
  · have hx:x= "strconv.ErrSyntax"\/x= "strconv.ErrRange":=by simpa [Um]using hx
    rcases hx with rfl|rfl
    · exact AgA (g:=6) (ti:=150) (by kernel_rfl) (by kernel_rfl) Tryz.underlying150 hl.tail.tail.tail.tail.tail
    · exact AgA (g:=7) (ti:=150) (by kernel_rfl) (by kernel_rfl) Tryz.underlying150 hl.tail.tail.tail.tail
  · have hr:Lib.VarReads Tryz.prog W "unicode.White_Space" Lib.whiteData:=Lib.laidMet.reads hl (.tail _ (.tail _ (.tail _ (.tail _ (.tail _ (.tail _ (.head _)))))));have h2:=whiteTab_of_reads {@Ais ⟨0⟩with} ⟨by kernel_rfl,by kernel_rfl,by kernel_rfl,by kernel_rfl,by kernel_rfl,by kernel_rfl,by kernel_rfl,by kernel_rfl⟩ hr;obtain rfl:vC.g 6=g:=Pg ((show Tryz.prog.globalNamed "unicode.White_Space"=some (vC.g 6) by kernel_rfl).symm.trans hg);exact whiteAt_of h2
set_option maxHeartbeats 4000000 in
theorem lifted[Sl](F:Ad6)(os:Os)(started:os.Started)(H:Type)(enc:TypeId×Value->H):ReturnsInHanded {} Tryz.checked os 3 .any (λw args=>(Rows.printExactSpec.pre enc Tryz.prog Tryz.f3 Rows.printExactRow.domain false w args/\laidMetH Tryz.prog Rows.printExactRow.laid w)/\sizedMet enc Tryz.prog Tryz.f3 (OpenSpec.ofChange Rows.printExactSpec) false w args) (Rows.printExactSpec.post enc Tryz.prog Tryz.f3 false true false false):=by
  refine Av7 (C:=Tryz.checked) own started (by kernel_rfl) Tryz.func3
    (ChangeSpec.witness_shaped (enc:=enc) (C:=Tryz.checked) (os:=os) (X:=λw _=>laidMetH Tryz.prog Rows.printExactRow.laid w) false (World.laidAll Tryz.prog os Rows.printExactRow.laid) #[.slice none 0 0,.agg #[.slice none 0 0,.slice none 0 0,.slice none 0 0,.slice none 0 0]] 8 (World.laidAll_os _ _ _)
      (World.shaped_of_ZipB (by kernel_rfl) (by kernel_rfl)) (by kernel_rfl) (by kernel_rfl) (by kernel_rfl)
      (by rw[MakeChecks.laidMetH_plain _ _ _ (by kernel_rfl)];exact laidMet_laidAll _ (by kernel_rfl) (by kernel_rfl))) ?_
  intro W base args ds gs before Zr hW Nw hl
  exact Av5 (P:=Tryz.prog) (tb:=4) AGN rfl rfl rfl (by kernel_rfl) (by kernel_rfl) (by kernel_rfl) (by kernel_rfl) Tryz.underlying4 rfl
    (λds h=>by
      have h:ds.length=2:=h.trans (by kernel_rfl)
      match ds,h with
      |[d1,d2],_=>exact⟨rfl,rfl,rfl⟩)
    (λ{β} x y k hw=>⟨(((true,()),()),()),rfl,printExact F _ _ (AKy hw.2.1.1) _⟩) Zr (opened W Nw hl) hW
theorem j0:(Rows.printExactRow.wf (OpenSpec.ofChange Rows.printExactSpec))=true:=by kernel_rfl
theorem j1:(laidOutB Tryz.prog)=true:=by kernel_rfl
theorem j2:(mapsRowed Tryz.prog)=true:=by kernel_rfl
theorem j3:(Tryz.f3.params.all (Tryz.prog.readableRec ·))=true:=by kernel_rfl
theorem j4:(namedTie Tryz.prog Rows.printExactRow.named Rows.printExactSpec.vars)=true:=by kernel_rfl
theorem j5:((Rows.printExactRow.stops==[]))=true:=by kernel_rfl
theorem j6:((Tryz.prog.stops==[]))=true:=by kernel_rfl
theorem j7:((Rows.printExactRow.knobs==[]))=true:=by kernel_rfl
theorem j8:((Tryz.prog.stopKnobs==[]))=true:=by kernel_rfl
theorem j9:((Rows.printExactRow.inPlace==Tryz.prog.inPlace 3))=true:=by kernel_rfl
theorem j10:((Rows.printExactRow.unfollowed==Tryz.prog.unfollowed 3))=true:=by kernel_rfl
theorem j11:((Rows.printExactRow.recurses==Tryz.prog.recurses 3))=true:=by kernel_rfl
theorem j12:((Rows.printExactRow.named==Tryz.prog.varsNamed 3))=true:=by kernel_rfl
theorem j13:((Rows.printExactRow.maps==(Tryz.f3.params.toList++Rows.printExactSpec.plain.varTypes Tryz.prog).any (Tryz.prog.mapsRec ·)))=true:=by kernel_rfl
theorem j14:((Rows.printExactRow.ifaces==(Tryz.f3.params.toList++Rows.printExactSpec.plain.varTypes Tryz.prog).any (Tryz.prog.ifacesRec ·)))=true:=by kernel_rfl
theorem j15:((Rows.printExactRow.mapsOut==Tryz.prog.mapsAmong Tryz.f3.resultTypes.toList))=true:=by kernel_rfl
theorem j16:((Rows.printExactRow.loops==(Tryz.f3.params.toList++Rows.printExactSpec.plain.varTypes Tryz.prog).any (Tryz.prog.loopsFrom ·)))=true:=by kernel_rfl
theorem j17:((Rows.printExactRow.wideKeys==(Tryz.f3.params.toList++Rows.printExactSpec.plain.varTypes Tryz.prog++Tryz.f3.resultTypes.toList).any (Tryz.prog.wideKeysFrom ·)))=true:=by kernel_rfl
theorem j18:(Rows.printExactSpec.vars.all (Tryz.prog.varReadable ·))=true:=by kernel_rfl
theorem j19:(Tryz.f3.resultTypes.all (λt=>Tryz.prog.readableRec t&&decide (t<Tryz.prog.types.size)))=true:=by kernel_rfl
theorem j20:((Rows.printExactRow.ifacesOut==Tryz.f3.resultTypes.toList.any (Tryz.prog.ifacesRec ·)))=true:=by kernel_rfl
theorem j21:((Rows.printExactRow.loopsOut==Tryz.f3.resultTypes.toList.any (Tryz.prog.loopsFrom ·)))=true:=by kernel_rfl
theorem j22:((Rows.printExactRow.plainKeys==Tryz.prog.plainKeys))=true:=by kernel_rfl
theorem j23:(Rows.printExactRow.shortTexts.isNone)=true:=by kernel_rfl
theorem j24:(Tryz.prog.stopsHeard)=true:=by kernel_rfl
theorem j25:(Tryz.prog.mayEnter)=true:=by kernel_rfl
theorem j26:((Rows.printExactRow.lifted==Tryz.prog.liftsFinal))=true:=by kernel_rfl
theorem j27:((Tryz.prog.make==some Rows.printExactRow.make))=true:=by kernel_rfl
theorem j28:((Rows.printExactRow.kinds==(if Rows.printExactRow.domain.isEmpty then []else Tryz.f3.params.toList.map λt=>match Tryz.prog.underlying t with|some (.int k)=>some k|_=>none)))=true:=by kernel_rfl
theorem j29:((Rows.printExactRow.pinned==Rows.printExactRow.pinnedBy))=true:=by kernel_rfl
theorem j30:((Rows.printExactRow.veiled==(Tryz.f3.params.toList++Rows.printExactSpec.plain.varTypes Tryz.prog++Tryz.f3.resultTypes.toList).any (Tryz.prog.veiledRec ·)))=true:=by kernel_rfl
theorem j31:(Rows.printExactRow.veiledFits Tryz.prog Tryz.f3.params.toList (Tryz.f3.params.toList++Rows.printExactSpec.plain.varTypes Tryz.prog++Tryz.f3.resultTypes.toList))=true:=by kernel_rfl
theorem andI{a b:Bool}(h:a=true)(k:b=true):(a&&b)=true:=by rw[h,k];rfl
theorem jall:joinedFacts Tryz.prog 3 Tryz.f3 Rows.printExactSpec Rows.printExactRow=true:=(andI (andI (andI (andI (andI (andI (andI (andI (andI (andI (andI (andI (andI (andI (andI (andI (andI (andI (andI (andI (andI (andI (andI (andI (andI (andI (andI (andI (andI (andI (andI j0 j1) j2) j3) j4) j5) j6) j7) j8) j9) j10) j11) j12) j13) j14) j15) j16) j17) j18) j19) j20) j21) j22) j23) j24) j25) j26) j27) j28) j29) j30) j31)
theorem over:Rows.printExactRow.holds Tryz.pinned (OpenSpec.ofChange Rows.printExactSpec):=
  OpenClaim.holds_of_wide 3 Tryz.f3 rfl rfl rfl rfl rfl rfl rfl ⟨rfl,rfl,rfl,rfl,rfl⟩ rfl rfl rfl rfl rfl (by kernel_rfl) Tryz.func3 jall
    (Bd (by kernel_rfl)) (by unfold Func.isWrapper;first|(rw[if_pos (by decide+kernel)];kernel_rfl)|(rw[if_neg (by decide+kernel)];exact⟨rfl,rfl⟩))
    (λos started H enc _=>(@lifted ⟨0⟩ AKz) os started H enc)
theorem proved:Rows.PrintExactCardSaid:=
  Claim7.holds_tied_plain_at .later [] [.data,.data,.data,.data,.sentinel,.sentinel,.listed,.data,.pinned] true (true, "3a3e5312096d4560a443533a46ae561b7ec46d7335f2a0ef986dca127eeb8c1d") true over (λ_ h=>by cases h) (by kernel_rfl) (λ_ h=>by cases h) printExact_row_tie rfl ⟨rfl,rfl⟩ (by kernel_rfl) rfl
    (λf fn hf CD=>by
      obtain rfl:f=3:=Pg ((show Tryz.prog.funcNamed "pagewatch/pagewatchlaw09.PrintExact"=some 3 by kernel_rfl).symm.trans hf) |>.symm
      obtain rfl:fn=Tryz.f3:=(Pg (Tryz.func3.symm.trans CD)).symm
      exact⟨by kernel_rfl,λj t ht=>by
        rw[Tryz.params3]at ht;have hm:t∈[22,28]:=by simpa using Array.mem_of_getElem? ht
        have Ng:([22,28].all λu=>!Tryz.prog.wantsStandIn u)=true:=by kernel_rfl
        exact(show Tryz.prog.wantsStandIn t=false by simpa using FG.1 Ng t hm)⟩)
    (by kernel_rfl)
#print axioms proved
end Go.Proofs.YthjiepigkfklkaaGreatDoor.printExact
