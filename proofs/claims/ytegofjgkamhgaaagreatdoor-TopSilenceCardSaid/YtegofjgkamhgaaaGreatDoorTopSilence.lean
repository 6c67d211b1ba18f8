/- TopSilence answers true at every input. No conditions but the library's laid variables, as the row says. -/
import Derived.Test.YtegofjgkamhgaaaGreatDoorCards
import Derived.SevenTiedAt
import Derived.Lib.LaidU8
import Derived.Test.YtegofjgkamhgaaaGreatDoorPart6
import Derived.Test.YtegofjgkamhgaaaGreatDoorPart19
import Derived.Test.YtegofjgkamhgaaaGreatDoorPart20
import Derived.Test.YtegofjgkamhgaaaGreatDoorPart22
import Derived.Test.YtegofjgkamhgaaaGreatDoorPart23
import Derived.Test.YtegofjgkamhgaaaGreatDoorPart25
namespace Go.Proofs.YtegofjgkamhgaaaGreatDoor.topSilence
open Go.RowKit Go.Lift
set_option maxRecDepth 100000
set_option linter.unusedVariables false
theorem whiteAt_of{g:Nat}{w:World}(h:Lib.WhiteTab g w):Wz g w:=by
  obtain⟨T,oT,R,oR,a,b,c,d,e⟩:=h;refine⟨T,oT,R,oR,λi v hv=>?_,λi v hv=>?_,λi v hv=>?_⟩
  · match i,hv with
    |0,hv=>cases hv;exact a
    |i+1,hv=>cases hv
  · match i,hv with
    |0,hv=>cases hv;exact b
    |1,hv=>cases hv;exact c
    |2,hv=>cases hv;exact d
    |i+3,hv=>cases hv
  · rw[FJ]at hv;obtain⟨z,hz,rfl⟩:=NQ.1 hv;have hl:i<Lib.whiteT.length:=(Do.1 hz).1;have:=e i hl;rw[z8,hz]at this;exact this
theorem own:ownKnob Tryz.prog.godebug=none:=by kernel_rfl
theorem opened(W:World)(M7:W.ShapedOpen Tryz.prog)(EN:laidMetH Tryz.prog Rows.topSilenceRow.laid W):Opened Tryz.prog W:=by
  have hl:laidMet Tryz.prog Rows.topSilenceRow.laid W:=(MakeChecks.laidMetH_plain _ _ _ (by kernel_rfl)).mp EN;refine⟨M7,λx hx hn=>?_,λx hx hn=>?_,λg hg=>?_⟩
  · have hx:x=("internal/strconv.uint64pow10",.u64,Lib.pow10Tab)\/x=("strings.asciiSpace",.u8,Lib.asciiSpaceTab):=by simpa [S4]using hx
    rcases hx with rfl|rfl
    · exact Lib.tabIs_of_head (g:=7) (t:=601) (e:=469) (n:=20) (by kernel_rfl) (by kernel_rfl) Tryz.underlying601 Tryz.underlying469 (by kernel_rfl) (by kernel_rfl) (show laidMet _ (("internal/strconv.uint64pow10",Rows.laid_internal_strconv_uint64pow10)::_) _ from hl.tail.tail)
    · exact Lib.tabIs_of_head (g:=0) (t:=393) (e:=5) (n:=256) (by kernel_rfl) (by kernel_rfl) Tryz.underlying393 Tryz.underlying5 (by kernel_rfl) (by kernel_rfl) (show laidMet _ (("strings.asciiSpace",Rows.laid_strings_asciiSpace)::_) _ from hl.tail.tail.tail.tail.tail.tail.tail)
  · have hx:x= "strconv.ErrSyntax"\/x= "strconv.ErrRange":=by simpa [S5]using hx
    rcases hx with rfl|rfl
    · exact AbK (g:=5) (ti:=261) (by kernel_rfl) (by kernel_rfl) Tryz.underlying261 hl.tail.tail.tail.tail.tail
    · exact AbK (g:=6) (ti:=261) (by kernel_rfl) (by kernel_rfl) Tryz.underlying261 hl.tail.tail.tail.tail
  · have hr:Lib.VarReads Tryz.prog W "unicode.White_Space" Lib.whiteData:=Lib.laidMet.reads hl (.tail _ (.tail _ (.tail _ (.tail _ (.tail _ (.tail _ (.head _)))))));have h2:=whiteTab_of_reads {@Aet ⟨0⟩with} ⟨by kernel_rfl,by kernel_rfl,by kernel_rfl,by kernel_rfl,by kernel_rfl,by kernel_rfl,by kernel_rfl,by kernel_rfl⟩ hr;obtain rfl:lY.g 6=g:=NX ((show Tryz.prog.globalNamed "unicode.White_Space"=some (lY.g 6) by kernel_rfl).symm.trans hg);exact whiteAt_of h2
set_option maxHeartbeats 4000000 in
theorem lifted[Sl](F:TopFacts)(os:Os)(started:os.Started)(H:Type)(enc:TypeId×Value->H):ReturnsInHanded {} Tryz.checked os 3 .any (λw args=>(Rows.topSilenceSpec.pre enc Tryz.prog Tryz.f3 Rows.topSilenceRow.domain false w args/\laidMetH Tryz.prog Rows.topSilenceRow.laid w)/\sizedMet enc Tryz.prog Tryz.f3 (OpenSpec.ofChange Rows.topSilenceSpec) false w args) (Rows.topSilenceSpec.post enc Tryz.prog Tryz.f3 false true false false):=by
  refine AoA (C:=Tryz.checked) own started k0 Tryz.func3
    (ChangeSpec.witness_shaped (enc:=enc) (C:=Tryz.checked) (os:=os) (X:=λw _=>laidMetH Tryz.prog Rows.topSilenceRow.laid w) false (World.laidAll Tryz.prog os Rows.topSilenceRow.laid) #[.slice none 0 0,.int .i64 0] 8 (World.laidAll_os _ _ _)
      (World.shaped_of_ZipB (k1 os) (k2 os)) (k3 os) (k4 os H enc) (k5 os H enc)
      (by rw[MakeChecks.laidMetH_plain _ _ _ k6];exact laidMet_laidAll _ (k7 os) (k8 os))) ?_
  intro W base args ds gs before V0 hW M7 hl
  exact Ao9 (P:=Tryz.prog) (tb:=4) AAq rfl rfl rfl (by kernel_rfl) k10 k11 (by kernel_rfl) Tryz.underlying4 rfl
    (λds h=>by
      have h:ds.length=2:=h.trans (by kernel_rfl)
      match ds,h with
      |[d1,d2],_=>exact⟨rfl,rfl,rfl⟩)
    (λ{β} x y k hw=>⟨(((true,()),()),()),rfl,ABZ F _ _ _⟩) V0 (opened W M7 hl) hW
theorem over:Rows.topSilenceRow.holds Tryz.pinned (OpenSpec.ofChange Rows.topSilenceSpec):=
  OpenClaim.holds_of_wide 3 Tryz.f3 rfl rfl rfl rfl rfl rfl rfl ⟨rfl,rfl,rfl,rfl,rfl⟩ rfl rfl rfl rfl rfl (by kernel_rfl) Tryz.func3 jall
    (AC (by kernel_rfl)) (by unfold Func.isWrapper;first|(rw[if_pos (by decide+kernel)];kernel_rfl)|(rw[if_neg (by decide+kernel)];exact⟨rfl,rfl⟩))
    (λos started H enc _=>(@lifted ⟨0⟩ ACU) os started H enc)
theorem proved:Rows.TopSilenceCardSaid:=
  Claim7.holds_tied_plain_at .later [] [.data,.data,.data,.data,.sentinel,.sentinel,.listed,.data,.pinned] true (true, "6f4ac0bda69873d9b08404287890b4375dd6ed0dfbf17c3b50b6232254d44b29") true over (λ_ h=>by cases h) k20 (λ_ h=>by cases h) ACY rfl ⟨rfl,rfl⟩ k21 rfl
    (λf fn hf B9=>by
      obtain rfl:f=3:=NX (k23.symm.trans hf) |>.symm
      obtain rfl:fn=Tryz.f3:=(NX (Tryz.func3.symm.trans B9)).symm
      exact⟨by kernel_rfl,λj t ht=>by
        rw[Tryz.params3]at ht;have hm:t∈[22,3]:=by simpa using Array.mem_of_getElem? ht
        have J0:([22,3].all λu=>!Tryz.prog.wantsStandIn u)=true:=k24;exact(show Tryz.prog.wantsStandIn t=false by simpa using NW.1 J0 t hm)⟩)
    k22
#print axioms proved
end Go.Proofs.YtegofjgkamhgaaaGreatDoor.topSilence
