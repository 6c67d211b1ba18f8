/- PrintBack answers true at every input. No conditions but the library's laid variables, as the row says. -/
import Derived.Test.YtadbbhhfdjjkhaaGreatDoorCards
import Derived.Test.YtadbbhhfdjjkhaaGreatDoorTie
import Derived.SevenTiedAt
import Derived.Lib.LaidU8
import Derived.Test.YtadbbhhfdjjkhaaGreatDoorPart16
namespace Go.Proofs.YtadbbhhfdjjkhaaGreatDoor.printBack
open Go.RowKit Go.Lift
set_option maxRecDepth 100000
set_option linter.unusedVariables false
theorem whiteAt_of{g:Nat}{w:World}(h:Lib.WhiteTab g w):Ys g w:=by
  obtain⟨T,oT,R,oR,a,b,c,d,e⟩:=h;refine⟨T,oT,R,oR,λi v hv=>?_,λi v hv=>?_,λi v hv=>?_⟩
  · match i,hv with
    |0,hv=>cases hv;exact a
    |i+1,hv=>cases hv
  · match i,hv with
    |0,hv=>cases hv;exact b
    |1,hv=>cases hv;exact c
    |2,hv=>cases hv;exact d
    |i+3,hv=>cases hv
  · rw[FT]at hv;obtain⟨z,hz,rfl⟩:=Sv.1 hv;have hl:i<Lib.whiteT.length:=(EN.1 hz).1;have:=e i hl;rw[Qd,hz]at this;exact this
theorem own:ownKnob Tryz.prog.godebug=none:=by kernel_rfl
theorem opened(W:World)(M4:W.ShapedOpen Tryz.prog)(GG:laidMetH Tryz.prog Rows.printBackRow.laid W):Opened Tryz.prog W:=by
  have hl:laidMet Tryz.prog Rows.printBackRow.laid W:=(MakeChecks.laidMetH_plain _ _ _ (by kernel_rfl)).mp GG;refine⟨M4,λx hx hn=>?_,λx hx hn=>?_,λg hg=>?_⟩
  · have hx:x=("internal/strconv.uint64pow10",.u64,Lib.pow10Tab)\/x=("strings.asciiSpace",.u8,Lib.asciiSpaceTab):=by simpa [SK]using hx
    rcases hx with rfl|rfl
    · exact Lib.tabIs_of_head (g:=5) (t:=320) (e:=304) (n:=20) (by kernel_rfl) (by kernel_rfl) Tryz.underlying320 Tryz.underlying304 (by kernel_rfl) (by kernel_rfl) (show laidMet _ (("internal/strconv.uint64pow10",Rows.laid_internal_strconv_uint64pow10)::_) _ from hl.tail.tail)
    · exact Lib.tabIs_of_head (g:=0) (t:=218) (e:=5) (n:=256) (by kernel_rfl) (by kernel_rfl) Tryz.underlying218 Tryz.underlying5 (by kernel_rfl) (by kernel_rfl) (show laidMet _ (("strings.asciiSpace",Rows.laid_strings_asciiSpace)::_) _ from hl.tail.tail.tail.tail.tail.tail.tail)
  · have hx:x= "strconv.ErrSyntax"\/x= "strconv.ErrRange":=by simpa [SM]using hx
    rcases hx with rfl|rfl
    · exact AdL (g:=6) (ti:=119) (by kernel_rfl) (by kernel_rfl) Tryz.underlying119 hl.tail.tail.tail.tail.tail
    · exact AdL (g:=7) (ti:=119) (by kernel_rfl) (by kernel_rfl) Tryz.underlying119 hl.tail.tail.tail.tail
  · have hr:Lib.VarReads Tryz.prog W "unicode.White_Space" Lib.whiteData:=Lib.laidMet.reads hl (.tail _ (.tail _ (.tail _ (.tail _ (.tail _ (.tail _ (.head _)))))));have h2:=whiteTab_of_reads {@Aff ⟨0⟩with} ⟨by kernel_rfl,by kernel_rfl,by kernel_rfl,by kernel_rfl,by kernel_rfl,by kernel_rfl,by kernel_rfl,by kernel_rfl⟩ hr;obtain rfl:oX.g 6=g:=NX ((show Tryz.prog.globalNamed "unicode.White_Space"=some (oX.g 6) by kernel_rfl).symm.trans hg);exact whiteAt_of h2
set_option maxHeartbeats 4000000 in
theorem lifted[Sl](F:Aaf)(os:Os)(started:os.Started)(H:Type)(enc:TypeId×Value->H):ReturnsInHanded {} Tryz.checked os 3 .any (λw args=>(Rows.printBackSpec.pre enc Tryz.prog Tryz.f3 Rows.printBackRow.domain false w args/\laidMetH Tryz.prog Rows.printBackRow.laid w)/\sizedMet enc Tryz.prog Tryz.f3 (OpenSpec.ofChange Rows.printBackSpec) false w args) (Rows.printBackSpec.post enc Tryz.prog Tryz.f3 false true false false):=by
  refine AqT (C:=Tryz.checked) own started (by kernel_rfl) Tryz.func3
    (ChangeSpec.witness_shaped (enc:=enc) (C:=Tryz.checked) (os:=os) (X:=λw _=>laidMetH Tryz.prog Rows.printBackRow.laid w) false (World.laidAll Tryz.prog os Rows.printBackRow.laid) #[.slice none 0 0] 8 (World.laidAll_os _ _ _)
      (World.shaped_of_ZipB (by kernel_rfl) (by kernel_rfl)) (by kernel_rfl) (by kernel_rfl) (by kernel_rfl)
      (by rw[MakeChecks.laidMetH_plain _ _ _ (by kernel_rfl)];exact laidMet_laidAll _ (by kernel_rfl) (by kernel_rfl))) ?_
  intro W base args ds gs before Xd hW M4 hl
  exact AqS (P:=Tryz.prog) (tb:=4) ABr rfl rfl rfl (by kernel_rfl) (by kernel_rfl) (by kernel_rfl) (by kernel_rfl) Tryz.underlying4 rfl
    (λds h=>by
      have h:ds.length=1:=h.trans (by kernel_rfl)
      match ds,h with
      |[d1],_=>exact⟨rfl,rfl,rfl⟩)
    (λ{β} x y k hw=>⟨(((true,()),()),()),rfl,printBack F _ _⟩) Xd (opened W M4 hl) hW
theorem j0:(Rows.printBackRow.wf (OpenSpec.ofChange Rows.printBackSpec))=true:=by kernel_rfl
theorem j1:(laidOutB Tryz.prog)=true:=by kernel_rfl
theorem j2:(mapsRowed Tryz.prog)=true:=by kernel_rfl
theorem j3:(Tryz.f3.params.all (Tryz.prog.readableRec ·))=true:=by kernel_rfl
theorem j4:(namedTie Tryz.prog Rows.printBackRow.named Rows.printBackSpec.vars)=true:=by kernel_rfl
theorem j5:((Rows.printBackRow.stops==[]))=true:=by kernel_rfl
theorem j6:((Tryz.prog.stops==[]))=true:=by kernel_rfl
theorem j7:((Rows.printBackRow.knobs==[]))=true:=by kernel_rfl
theorem j8:((Tryz.prog.stopKnobs==[]))=true:=by kernel_rfl
theorem j9:((Rows.printBackRow.inPlace==Tryz.prog.inPlace 3))=true:=by kernel_rfl
theorem j10:((Rows.printBackRow.unfollowed==Tryz.prog.unfollowed 3))=true:=by kernel_rfl
theorem j11:((Rows.printBackRow.recurses==Tryz.prog.recurses 3))=true:=by kernel_rfl
theorem j12:((Rows.printBackRow.named==Tryz.prog.varsNamed 3))=true:=by kernel_rfl
theorem j13:((Rows.printBackRow.maps==(Tryz.f3.params.toList++Rows.printBackSpec.plain.varTypes Tryz.prog).any (Tryz.prog.mapsRec ·)))=true:=by kernel_rfl
theorem j14:((Rows.printBackRow.ifaces==(Tryz.f3.params.toList++Rows.printBackSpec.plain.varTypes Tryz.prog).any (Tryz.prog.ifacesRec ·)))=true:=by kernel_rfl
theorem j15:((Rows.printBackRow.mapsOut==Tryz.prog.mapsAmong Tryz.f3.resultTypes.toList))=true:=by kernel_rfl
theorem j16:((Rows.printBackRow.loops==(Tryz.f3.params.toList++Rows.printBackSpec.plain.varTypes Tryz.prog).any (Tryz.prog.loopsFrom ·)))=true:=by kernel_rfl
theorem j17:((Rows.printBackRow.wideKeys==(Tryz.f3.params.toList++Rows.printBackSpec.plain.varTypes Tryz.prog++Tryz.f3.resultTypes.toList).any (Tryz.prog.wideKeysFrom ·)))=true:=by kernel_rfl
theorem j18:(Rows.printBackSpec.vars.all (Tryz.prog.varReadable ·))=true:=by kernel_rfl
theorem j19:(Tryz.f3.resultTypes.all (λt=>Tryz.prog.readableRec t&&decide (t<Tryz.prog.types.size)))=true:=by kernel_rfl
theorem j20:((Rows.printBackRow.ifacesOut==Tryz.f3.resultTypes.toList.any (Tryz.prog.ifacesRec ·)))=true:=by kernel_rfl
theorem j21:((Rows.printBackRow.loopsOut==Tryz.f3.resultTypes.toList.any (Tryz.prog.loopsFrom ·)))=true:=by kernel_rfl
theorem j22:((Rows.printBackRow.plainKeys==Tryz.prog.plainKeys))=true:=by kernel_rfl
theorem j23:(Rows.printBackRow.shortTexts.isNone)=true:=by kernel_rfl
theorem j24:(Tryz.prog.stopsHeard)=true:=by kernel_rfl
theorem j25:(Tryz.prog.mayEnter)=true:=by kernel_rfl
theorem j26:((Rows.printBackRow.lifted==Tryz.prog.liftsFinal))=true:=by kernel_rfl
theorem j27:((Tryz.prog.make==some Rows.printBackRow.make))=true:=by kernel_rfl
theorem j28:((Rows.printBackRow.kinds==(if Rows.printBackRow.domain.isEmpty then []else Tryz.f3.params.toList.map λt=>match Tryz.prog.underlying t with|some (.int k)=>some k|_=>none)))=true:=by kernel_rfl
theorem j29:((Rows.printBackRow.pinned==Rows.printBackRow.pinnedBy))=true:=by kernel_rfl
theorem j30:((Rows.printBackRow.veiled==(Tryz.f3.params.toList++Rows.printBackSpec.plain.varTypes Tryz.prog++Tryz.f3.resultTypes.toList).any (Tryz.prog.veiledRec ·)))=true:=by kernel_rfl
theorem j31:(Rows.printBackRow.veiledFits Tryz.prog Tryz.f3.params.toList (Tryz.f3.params.toList++Rows.printBackSpec.plain.varTypes Tryz.prog++Tryz.f3.resultTypes.toList))=true:=by kernel_rfl
theorem andI{a b:Bool}(h:a=true)(k:b=true):(a&&b)=true:=by rw[h,k];rfl
theorem jall:joinedFacts Tryz.prog 3 Tryz.f3 Rows.printBackSpec Rows.printBackRow=true:=(andI (andI (andI (andI (andI (andI (andI (andI (andI (andI (andI (andI (andI (andI (andI (andI (andI (andI (andI (andI (andI (andI (andI (andI (andI (andI (andI (andI (andI (andI (andI j0 j1) j2) j3) j4) j5) j6) j7) j8) j9) j10) j11) j12) j13) j14) j15) j16) j17) j18) j19) j20) j21) j22) j23) j24) j25) j26) j27) j28) j29) j30) j31)
theorem over:Rows.printBackRow.holds Tryz.pinned (OpenSpec.ofChange Rows.printBackSpec):=
  OpenClaim.holds_of_wide 3 Tryz.f3 rfl rfl rfl rfl rfl rfl rfl ⟨rfl,rfl,rfl,rfl,rfl⟩ rfl rfl rfl rfl rfl (by kernel_rfl) Tryz.func3 jall
    (Bv (by kernel_rfl)) (by unfold Func.isWrapper;first|(rw[if_pos (by decide+kernel)];kernel_rfl)|(rw[if_neg (by decide+kernel)];exact⟨rfl,rfl⟩))
    (λos started H enc _=>(@lifted ⟨0⟩ AFI) os started H enc)
theorem proved:Rows.PrintBackCardSaid:=
  Claim7.holds_tied_plain_at .later [] [.data,.data,.data,.data,.sentinel,.sentinel,.listed,.data,.pinned] true (true, "6a56cd78f58efd185538a8f96f3db3cf7f5b36b4d95aa319c2d5973b53357852") true over (λ_ h=>by cases h) (by kernel_rfl) (λ_ h=>by cases h) printBack_row_tie rfl ⟨rfl,rfl⟩ (by kernel_rfl) rfl
    (λf fn hf C3=>by
      obtain rfl:f=3:=NX ((show Tryz.prog.funcNamed "pagewatch/pagewatchlaw09.PrintBack"=some 3 by kernel_rfl).symm.trans hf) |>.symm
      obtain rfl:fn=Tryz.f3:=(NX (Tryz.func3.symm.trans C3)).symm
      exact⟨by kernel_rfl,λj t ht=>by
        rw[Tryz.params3]at ht;have hm:t∈[22]:=by simpa using Array.mem_of_getElem? ht
        have JN:([22].all λu=>!Tryz.prog.wantsStandIn u)=true:=by kernel_rfl
        exact(show Tryz.prog.wantsStandIn t=false by simpa using Eh.1 JN t hm)⟩)
    (by kernel_rfl)
#print axioms proved
end Go.Proofs.YtadbbhhfdjjkhaaGreatDoor.printBack
