/- Part11 -/
import Derived.RangeFuncBox
import Derived.Shelf.Abstract
import Derived.WalkKit
import Derived.OwnWalkIn
import Derived.TacticsInMore
import Derived.LoopNIn
import Derived.LoopIn
import Derived.Test.YthjiepigkfklkaaGreatDoorProg
import Derived.Test.YthjiepigkfklkaaGreatDoorPart10
set_option linter.unusedVariables false
set_option linter.unusedSectionVars false
set_option linter.unusedSimpArgs false
open Option renaming some → Ybs
namespace Go.Lift
open Go.RowKit Go.Shelf Go.Proofs
set_option maxRecDepth 100000
set_option maxHeartbeats 2000000 in
theorem Avl(l g1 g2:Nat)(k:Int)(J:Nat->World->Prop)(hk1:1<=k)(hk2:k<=4096)(hJ:∀j W,J j W->J j {W with drawn:=W.drawn+1})(hR:∀j W,J j W->∃A len c,W.cell? ⟨g1,0,none⟩=Ybs (.slice A len c)/\len<=AR/\len<=c/\(0<len->A.isSome=true)/\W.cell? ⟨g2,0,none⟩=Ybs (.int .i64 k))(hY:∀j W A len c,J j W->W.cell? ⟨g1,0,none⟩=Ybs (.slice A len c)->j*k.toNat<len->YieldAt Fence.wide 1 Tryz.prog l #[.slice (A.map (·.add (j*k.toNat))) (min k.toNat (len-j*k.toNat)) (min k.toNat (len-j*k.toNat))] W λe W'=>e=.returned (.bool true)/\J (j+1) W')(W:World)(h0:J 0 W):CallsIn Fence.wide 2 Tryz.prog 121 #[.func (.yield l) #[] #[],.pointer (Ybs ⟨g1,0,none⟩),.pointer (Ybs ⟨g2,0,none⟩)] W λe W'=>(∃v,e=.returned v)/\∃j,J j W'/\∀A len c,W'.cell? ⟨g1,0,none⟩=Ybs (.slice A len c)->len<=j*k.toNat:=by
 obtain⟨κ,rfl⟩:∃κ:Nat,k=(κ:Int):=⟨k.toNat,by omega⟩;simp only[Bh]at hY⊢;have hκ1:1<=κ:=by omega
 have hκ2:κ<=4096:=by omega
 refine callsIn_of_wp Tryz.func121 rfl trivial ?_;simp only[Tryz.ntmps121,a8,B9,Ft,Nat.reduceAdd,Nat.reduceSub,Array.replicate_succ,Array.replicate_zero,List.push_toArray,List.append_toArray,GA,G0]
 gi_wp2
 gi_loopw [4] (λi wr=>∃j q:Nat,j*κ=q/\i=.int .i64 (q:Int)/\J j wr/\q<=140737488355328+4096)
  (λi wr=>140737488355328+4096+1-(intOf i).toNat)
 case atStart=>exact⟨0,0,by simp,rfl,h0,by simp⟩
 case round=>
  obtain⟨j,q,hq,rfl,hJs,hjb⟩:=hrel;obtain⟨A,len,c,hc1,hlr,hlc,hA,hc2⟩:=hR j wr hJs;have hlr:len<=140737488355328:=hlr;by_cases hlt:q<len
  ·obtain⟨ad,rfl⟩:∃ad,A=Ybs ad:=by
    cases A with
    |none=>have:=hA (by omega);cases this
    |some ad=>exact⟨ad,rfl⟩
   have hW:{wr with drawn:=wr.drawn+1}=wr.drew:=rfl;have hJs2:=hJ j wr hJs;rw[hW]at hJs2;have hc1':wr.drew.cell? ⟨g1,0,none⟩=Ybs (.slice (Ybs ad) len c):=hc1;have hc2':wr.drew.cell? ⟨g2,0,none⟩=Ybs (.int .i64 (κ:Int)):=hc2;obtain⟨fn,tmps,assign,body,hy,hRd⟩:=hY j _ _ _ _ hJs2 hc1' (by rw[hq];exact hlt);rw[hq]at hy
   gi_wp2
   gi_region
   obtain⟨m,hm,hmm⟩:∃m:Nat,(if len-q<κ then((len-q:Nat):Int)else(κ:Int))=(m:Int)/\min κ (len-q)=m:=by
    by_cases h:len-q<κ
    ·exact⟨len-q,by rw[if_pos h],by omega⟩
    ·exact⟨κ,by rw[if_neg h],by omega⟩
   rw[hm];rw[hmm]at hy;simp only[F8]at hy;have hm1:q+m<=len:=by omega
   have hm2:1<=m:=by omega
   rename_i hK;refine hK _ _ ?_;clear hmm
   gi_wp2
   refine hRd.mono ?_;rintro e W3 ⟨rfl,hJ3⟩;obtain⟨A3,len3,c3,hc31,hlr3,_,_,hc32⟩:=hR _ _ hJ3
   gi_wp2
   go_roundw
   case rel=>exact⟨j+1,q+κ,by rw[Hr,hq],by simp,hJ3,by omega⟩
   case measure=>simp[intOf];omega
  ·gi_wp2
   go_end0
   refine⟨⟨_,rfl⟩,j,hJs,λA' len' c' h=>?_⟩;rw[hc1]at h;cases h;omega
theorem Avm:ChunkOk Tryz.prog 121:=⟨enters_of Tryz.func121 (by kernel_rfl) rfl,λl g1 g2 k J h1 h2 h3 h4 h5 W h0=>Avl l g1 g2 k J h1 h2 h3 h4 h5 W h0⟩
end Go.Lift
