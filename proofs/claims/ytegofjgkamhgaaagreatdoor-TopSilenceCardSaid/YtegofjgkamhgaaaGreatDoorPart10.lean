/- Part10 -/
import Derived.Test.YtegofjgkamhgaaaGreatDoorProg
import Derived.Test.YtegofjgkamhgaaaGreatDoorPart8
set_option linter.unusedVariables false
set_option linter.unusedSectionVars false
set_option linter.unusedSimpArgs false
open Option renaming some → Ybl, none → Ybn
open Bool renaming false → Ybo, true → Ybq
open _root_ renaming List → Ybp, Array → Ybx, absurd → Yb1
open Nat renaming min → Yby, ne_of_lt → Yb7
open List renaming range → Yb2
namespace Go.Lift
open Go.RowKit Go.Shelf Go.Proofs Go.Lib Go.Sort
set_option maxRecDepth 1000000
set_option maxHeartbeats 4000000 in
theorem AoJ(w:World)(g n cap:Nat)(ys:Ybp Value)(hys:ys.length=cap*5)(hnc:n<=cap)(hc:cap<=9223372036854775807)(hR:Raw w g 111 ys)(cl:FuncId)(lb:Ybx Value)(eg:∀args w,(callFunc cl args).run Tryz.prog w=.ok (.enter cl args) w)(pr:Nat->Bool)(hcl:∀W,w.grownBy W (Ybl g)->∀j,j<n->Calls Tryz.prog cl (#[.agg (chk ys 5 j).toArray]++lb) W λe W'=>e=.returned (.bool (pr j))/\W.grownBy W' Ybn):Calls Tryz.prog 172 #[.slice (Ybl ⟨g,0,Ybn⟩) n cap,.func (.func cl) #[] lb] w λe W=>∃r:Int,e=.returned (.int .i64 r)/\w.grownBy W Ybn/\((r=-1/\∀j,j<n->pr j=Ybo)\/∃i,i<n/\r=(i:Int)/\pr i=Ybq/\∀j,j<i->pr j=Ybo):=by
 have mixed:Tryz.prog.follows Departure.mixedOrders=Ybq:=by kernel_rfl
 go_enter Tryz.func172,Tryz.ntmps172
 go_wp2
 go_loopg [5,8] n (λgg _ s8 wr=>∃kk:Nat,kk<=n/\n-kk<=gg/\s8=.int .i64 kk/\Aside (w.grownBy wr Ybn)/\Aside (∀j,j<kk->pr j=Ybo))
 case atStart=>exact⟨0,BD _,by omega,rfl,Mc,λj hj=>Yb1 hj (C8 _)⟩
 case round=>
  obtain⟨kk,hkk,hg,rfl,G,A⟩:=hrel;by_cases hlt:kk<n
  ·have hltz:(kk:Int)<(n:Int):=by omega
   have hRr:Raw wr g 111 ys:=by have h:=G.out.block g hR.lt (by simp);exact h.trans hR
   have hl:=SW hys (Ij hlt hnc);have hcs:=λj u hj=>hRr.chk (k:=5) (q:=kk) j u hj;have hcall:=hcl wr ⟨G.out.os,G.out.tape,G.out.output,G.out.size,λk hk _=>G.out.block k hk (by simp)⟩ kk hlt;generalize chk ys 5 kk=us at hl hcs hcall;cases hq:pr kk with
   |true=>
    rw[hq]at hcall
    go_wp2_with (first|(refine HL rfl 111 _ rfl ⟨g,kk*5,Ybn⟩ (by simp[Act.eval]) us 5 hl Tryz.isAgg111 Tryz.sizeOf111 hcs ?_)|(go_at_fn cl;refine hcall.mono ?_;rintro e w' ⟨rfl,G'⟩))
    go_ret
    exact⟨_,rfl,Qy G.out G',.inr ⟨kk,hlt,rfl,hq,A.out⟩⟩
   |false=>
    rw[hq]at hcall
    go_wp2_with (first|(refine HL rfl 111 _ rfl ⟨g,kk*5,Ybn⟩ (by simp[Act.eval]) us 5 hl Tryz.isAgg111 Tryz.sizeOf111 hcs ?_)|(go_at_fn cl;refine hcall.mono ?_;rintro e w' ⟨rfl,G'⟩))
    go_roundg (n-(kk+1))
    case measure=>omega
    case rel=>
     refine⟨kk+1,by omega,by omega,by go_num,Qy G.out G',(show Aside _ from λj hj=>?_)⟩;by_cases e:j=kk
     ·subst e
      exact hq
     ·exact A.out j (by omega)
  ·have hltz:¬(kk:Int)<(n:Int):=by omega
   have hk:kk=n:=by omega
   go_wp2
   go_ret
   exact⟨_,rfl,G.out,.inl ⟨rfl,by rw[<-hk];exact A.out⟩⟩
set_option maxHeartbeats 4000000 in
theorem AoK(w:World)(g n cap:Nat)(ys:Ybp Value)(hys:ys.length=cap*5)(hnc:n<=cap)(hc:cap<=9223372036854775807)(hR:Raw w g 111 ys)(h1:∀v∈ys.take (n*5),v.oneCell'=Ybq)(cl:FuncId)(lb:Ybx Value)(eg:∀args w,(callFunc cl args).run Tryz.prog w=.ok (.enter cl args) w)(pr:Nat->Bool)(hcl:∀W,w.grownBy W (Ybl g)->∀j,j<n->Calls Tryz.prog cl (#[.agg (chk ys 5 j).toArray]++lb) W λe W'=>e=.returned (.bool (pr j))/\W.grownBy W' Ybn):Calls Tryz.prog 93 #[.slice (Ybl ⟨g,0,Ybn⟩) n cap,.func (.func cl) #[] lb] w λe w'=>e=.returned (.slice (Ybl ⟨g,0,Ybn⟩) (D3 pr n).length cap)/\w.grownBy w' (Ybl g)/\∃zs,Raw w' g 111 zs/\zs.length=cap*5/\zs.take ((D3 pr n).length*5)=(D3 pr n).flatMap (chk ys 5):=by
 have mixed:Tryz.prog.follows Departure.mixedOrders=Ybq:=by kernel_rfl
 have hI:=AoJ w g n cap ys hys hnc hc hR cl lb eg pr hcl;have e172:∀args w,(callFunc 172 args).run Tryz.prog w=.ok (.enter 172 args) w:=Go.Proofs.enters_of Tryz.func172 (by kernel_rfl) rfl;rcases MK (∃i,i<n/\pr i=Ybq)with hex|hex
 case inr=>
  have hall:∀j,j<n->pr j=Ybo:=λj hj=>by
   cases h:pr j with
   |false=>rfl
   |true=>exact Yb1 ⟨j,hj,h⟩ hex
  have hI2:Calls Tryz.prog 172 #[.slice (Ybl ⟨g,0,Ybn⟩) n cap,.func (.func cl) #[] lb] w λe W=>e=.returned (.int .i64 (-1))/\w.grownBy W Ybn:=hI.mono λe W ⟨r,he,hG,hr⟩=>by
   rcases hr with⟨rfl,_⟩|⟨i,h1,_,h2,_⟩
   ·exact⟨he,hG⟩
   ·exact Yb1 ⟨i,h1,h2⟩ hex
  clear hI
  go_enter Tryz.func93,Tryz.ntmps93
  go_wp2_with (go_at_fn 172;refine hI2.mono ?_;rintro e w1 ⟨rfl,G1⟩)
  go_ret
  have hk:D3 pr n=Yb2 n:=Xi hall;refine⟨by rw[hk,RT];rfl,Lm Mc G1,ys,hR.none G1,hys,?_⟩;rw[hk,RT];exact(Xj ys 5 n).symm
 case inl=>
  obtain⟨i0,hi0,hp0,hb0⟩:∃i,i<n/\pr i=Ybq/\∀j,j<i->pr j=Ybo:=by
   rcases MK (∃i,i<n/\pr i=Ybq/\∀j,j<i->pr j=Ybo)with h|h
   ·exact h
   ·exfalso
    have:∀m,m<=n->∀j,j<m->pr j=Ybo:=λm=>by
     induction m with
     |zero=>intro _ j hj;omega
     |succ m ih=>
      intro hm j hj;have ih:=ih (by omega);by_cases e:j=m
      ·subst e
       cases hq:pr j with
       |false=>rfl
       |true=>exact Yb1 ⟨j,by omega,hq,ih⟩ h
      ·exact ih j (by omega)
    obtain⟨i,h1,h2⟩:=hex;rw[this n (Aw _) i h1]at h2;cases h2
  have hI2:Calls Tryz.prog 172 #[.slice (Ybl ⟨g,0,Ybn⟩) n cap,.func (.func cl) #[] lb] w λe W=>e=.returned (.int .i64 (i0:Int))/\w.grownBy W Ybn:=hI.mono λe W ⟨r,he,hG,hr⟩=>by
   rcases hr with⟨rfl,h⟩|⟨i,h1,rfl,h2,h3⟩
   ·rw[h i0 hi0]at hp0;cases hp0
   ·have:i=i0:=by
     rcases dM i i0 with q|q|q
     ·rw[hb0 i q]at h2;cases h2
     ·exact q
     ·rw[h3 i0 q]at hp0;cases hp0
    subst this;exact⟨he,hG⟩
  clear hI;have hne0:((i0:Int)==-1)=Ybo:=dL.2 (by omega)
  go_enter Tryz.func93,Tryz.ntmps93
  go_wp2_with (go_at_fn 172;refine hI2.mono ?_;rintro e w1 ⟨rfl,G1⟩)
  go_loopg [5,6] n (λgg s5 s6 wr=>∃(i j:Nat)(zs:Ybp Value),s5=.int .i64 i/\s6=.int .i64 j/\j<=n/\n-j<=gg/\Aside (w.grownBy wr (Ybl g))/\Aside (Raw wr g 111 zs)/\Aside (DInv pr ys 5 cap n zs i j))
  case atStart=>exact⟨i0,i0+1,ys,rfl,by go_num,hi0,by omega,Lm Mc G1,hR.none G1,DInv.start hys hi0 hp0 hb0⟩
  case round=>
   obtain⟨i,j,zs,rfl,rfl,hjn,hg,G,RW,DI⟩:=hrel;have hij:=DI.out.ij;by_cases hlt:j<n
   ·have hltz:(j:Int)<(n:Int):=by omega
    have hlz:=SW DI.out.len (Ij hlt hnc);have hcz:=DI.out.high j (Aw _) hlt;rw[hcz]at hlz;have hcs:=λq u hq=>RW.out.chk (k:=5) (q:=j) q u hq;rw[hcz]at hcs;have hone:∀v∈chk ys 5 j,v.oneCell'=Ybq:=by rw[SX (n:=n) (xs:=ys.take (n*5)) rfl hlt];exact AbM (e:=111) (k:=5) (j:=j) h1
    obtain⟨W1,hW1⟩:∃W1,W1=wr.alloc (.cells (#[Value.int IntKind.i64 0,Value.string {data:=#[]},Value.slice Ybn 0 0,Value.int IntKind.i64 0,Value.int IntKind.i64 0]) 111):=⟨_,rfl⟩;have hR1:Raw W1 wr.heap.size 111 [Value.int IntKind.i64 0,Value.string {data:=#[]},Value.slice Ybn 0 0,Value.int IntKind.i64 0,Value.int IntKind.i64 0]:=by rw[hW1];exact Raw.new _ _ _
    have hR1g:Raw W1 g 111 zs:=by rw[hW1];exact RW.out.alloc _
    have G1:w.grownBy W1 (Ybl g):=by rw[hW1];exact Xm G.out _
    obtain⟨W2,hst2,G2',hR2⟩:=Ot (P:=Tryz.prog) hR1 hone (o:=0) (by rw[hlz];simp);have hsz:w.heap.size<=wr.heap.size:=G.out.size;have hgl:g<wr.heap.size:=RW.out.lt;have G2:w.grownBy W2 (Ybl g):=HM G1 G2' (.inl hsz);have hR2g:Raw W2 g 111 zs:=hR1g.other G2' (by omega);have ho2:ovr [Value.int IntKind.i64 0,Value.string {data:=#[]},Value.slice Ybn 0 0,Value.int IntKind.i64 0,Value.int IntKind.i64 0] 0 (chk ys 5 j)=chk ys 5 j:=by simp[ovr,hlz]
    rw[ho2]at hR2
    have hcs2:∀q u,(chk ys 5 j)[q]?=Ybl u->W2.cell? ((⟨wr.heap.size,0,Ybn⟩:Addr).add q)=Ybl u:=λq u hq=>by rw[Addr.add_lit,CQ];exact hR2.cell hq
    have hcall:=hcl W2 G2 j hlt;generalize hus:chk ys 5 j=us at hlz hcs hone hst2 hR2 hcs2 hcall hcz ho2;generalize hgv:wr.heap.size=gv at hR1 hst2 G2' hR2 hcs2 hsz hgl;have HUS:Aside (chk ys 5 j=us):=hus;clear hus hR1 hR1g ho2 hcz hcl;cases hq:pr j with
    |true=>
     rw[hq]at hcall
     go_wp2_with (first
      |(refine HL rfl 111 _ rfl ⟨g,j*5,Ybn⟩ (by simp[Act.eval,Act.put]) us 5 hlz Tryz.isAgg111 Tryz.sizeOf111 hcs ?_)
      |(refine HL rfl 111 _ rfl ⟨gv,0,Ybn⟩ (by simp[Act.eval,Act.put]) us 5 hlz Tryz.isAgg111 Tryz.sizeOf111 hcs2 ?_)
      |(refine Xl rfl 111 rfl Tryz.zeroValue111 hW1.symm ?_;rw[hgv])
      |(refine Q1 rfl 111 _ _ rfl ⟨gv,0,Ybn⟩ (by simp[Act.eval,Act.put]) us (by simp[Act.eval,Act.put]) 5 hlz Tryz.sizeOf111 hst2 ?_)
      |(go_at_fn cl;refine hcall.mono ?_;rintro e w' ⟨rfl,G'⟩))
     go_roundg (n-(j+1))
     case measure=>omega
     case rel=>exact⟨i,j+1,zs,rfl,by go_num,by omega,Aw _,Lm G2 G',hR2g.none G',DI.out.skip hlt hq⟩
    |false=>
     rw[hq]at hcall
     have hle4:i*5+us.length<=zs.length:=by rw[hlz,DI.out.len];have:=hij;omega
     have hic:i<cap:=by omega
     go_wp2_with (first
      |(refine HL rfl 111 _ rfl ⟨g,j*5,Ybn⟩ (by simp[Act.eval,Act.put]) us 5 hlz Tryz.isAgg111 Tryz.sizeOf111 hcs ?_)
      |(refine HL rfl 111 _ rfl ⟨gv,0,Ybn⟩ (by simp[Act.eval,Act.put]) us 5 hlz Tryz.isAgg111 Tryz.sizeOf111 hcs4 ?_)
      |(refine HL rfl 111 _ rfl ⟨gv,0,Ybn⟩ (by simp[Act.eval,Act.put]) us 5 hlz Tryz.isAgg111 Tryz.sizeOf111 hcs2 ?_)
      |(refine Xl rfl 111 rfl Tryz.zeroValue111 hW1.symm ?_;rw[hgv])
      |(refine Q1 rfl 111 _ _ rfl ⟨gv,0,Ybn⟩ (by simp[Act.eval,Act.put]) us (by simp[Act.eval,Act.put]) 5 hlz Tryz.sizeOf111 hst2 ?_)
      |(refine Q1 rfl 111 _ _ rfl ⟨g,i*5,Ybn⟩ (by simp[Act.eval,Act.put]) us (by simp[Act.eval,Act.put]) 5 hlz Tryz.sizeOf111 hst4 ?_)
      |(go_at_fn cl;refine hcall.mono ?_;rintro e w' ⟨rfl,G'⟩
        have hcs4:∀q u,us[q]?=Ybl u->w'.cell? ((⟨gv,0,Ybn⟩:Addr).add q)=Ybl u:=λq u hq=>by rw[Addr.add_lit,CQ];exact(hR2.none G').cell hq
        obtain⟨W4,hst4,G4',hR4⟩:=Ot (P:=Tryz.prog) (hR2g.none G') hone (o:=i*5) hle4))
     go_roundg (n-(j+1))
     case measure=>omega
     case rel=>refine⟨i+1,j+1,_,by go_num,by go_num,by omega,Aw _,HM (Lm G2 G') G4' (.inr rfl),hR4,?_⟩;have:=DI.out.keep hys hnc hlt hq;rw[HUS.out]at this;exact this
   ·have hjn:j=n:=by omega
    have hltz:¬(j:Int)<(n:Int):=by omega
    obtain⟨W5,hclr,G5,hR5⟩:=iH (P:=Tryz.prog) (t:=40) Tryz.underlying40 Tryz.zeroValue111 (by decide) (by decide) RW.out (o:=i*5) (n:=n-i) (c:=cap-i) (by rw[DI.out.len];show i*5+(n-i)*5<=cap*5;omega);have hin:i<=n:=by omega
    have hic:i<=cap:=by omega
    have hic2:¬(cap=i):=by omega
    go_wp2_with (at_builtin;refine HK rfl (v:=.tuple #[]) (w':=W5) (by simp[execOp,resolve,invoke,builtin,Act.eval,Act.put,hclr]) ?_)
    go_ret
    have D:=DI.out;rw[hjn]at D;refine⟨by rw[D.cnt];rfl,HM G.out G5 (.inr rfl),_,hR5,?_,?_⟩
    ·rw[IJ,D.len]
     rw[D.len,Xk];show i*5+(n-i)*5<=cap*5;omega
    ·rw[D.cnt,<-D.low]
     unfold ovr;rw[C1,KY (by rw[CJ,D.len];omega),LM,Si]
set_option maxHeartbeats 4000000 in
theorem AoL(w w1:World)(vb vc:Nat)(v':Value)(hA:∀ty,(Builtin.append_ #[40,40] ty #[.slice Ybn 0 0,.slice (Ybl ⟨vb,0,Ybn⟩) 1 vc]).run Tryz.prog w=.ok v' w1):Calls Tryz.prog 37 #[.slice Ybn 0 0,.int .i64 ((0:Nat):Int),.slice (Ybl ⟨vb,0,Ybn⟩) 1 vc] w λe w'=>e=.returned v'/\w'=w1:=by
 have mixed:Tryz.prog.follows Departure.mixedOrders=Ybq:=by kernel_rfl
 go_enter Tryz.func37,Tryz.ntmps37
 go_wp2_with (at_builtin;refine HK rfl (v:=v') (w':=w1) (by simp[execOp,resolve,invoke,builtin,Act.eval,Act.put,hA]) ?_)
 all_goals(go_ret;exact⟨rfl,rfl⟩)
set_option maxHeartbeats 4000000 in
theorem AoM(w w1:World)(g n cap vb vc:Nat)(hnc:n<=cap)(hc:cap<=9223372036854775807)(v':Value)(hA:∀ty,(Builtin.append_ #[40,40] ty #[.slice (Ybl ⟨g,0,Ybn⟩) n cap,.slice (Ybl ⟨vb,0,Ybn⟩) 1 vc]).run Tryz.prog w=.ok v' w1):Calls Tryz.prog 37 #[.slice (Ybl ⟨g,0,Ybn⟩) n cap,.int .i64 (n:Int),.slice (Ybl ⟨vb,0,Ybn⟩) 1 vc] w λe w'=>e=.returned v'/\w'=w1:=by
 have mixed:Tryz.prog.follows Departure.mixedOrders=Ybq:=by kernel_rfl
 go_enter Tryz.func37,Tryz.ntmps37
 go_wp2_with (at_builtin;refine HK rfl (v:=v') (w':=w1) (by simp[execOp,resolve,invoke,builtin,Act.eval,Act.put,hA]) ?_)
 all_goals(go_ret;exact⟨rfl,rfl⟩)
set_option maxHeartbeats 4000000 in
theorem AoN(w w1 w2:World)(g n cap i vb vc:Nat)(r1 r2:Value)(hi:i<n)(hroom:n+1<=cap)(hc:cap<=9223372036854775807)(hov:∀lb cb,(callFunc 83 #[.slice (Ybl ⟨vb,0,Ybn⟩) 1 vc,.slice (Ybl ⟨g,(i+1)*5,Ybn⟩) lb cb]).run Tryz.prog w=.ok (.value (.bool Ybo)) w)(hC1:∀ty,(Builtin.copy_ #[40,40] ty #[.slice (Ybl ⟨g,(i+1)*5,Ybn⟩) (n-i) (cap-(i+1)),.slice (Ybl ⟨g,i*5,Ybn⟩) (n+1-i) (cap-i)]).run Tryz.prog w.drew=.ok r1 w1)(hC2:∀ty,(Builtin.copy_ #[40,40] ty #[.slice (Ybl ⟨g,i*5,Ybn⟩) (n+1-i) (cap-i),.slice (Ybl ⟨vb,0,Ybn⟩) 1 vc]).run Tryz.prog w1=.ok r2 w2):Calls Tryz.prog 37 #[.slice (Ybl ⟨g,0,Ybn⟩) n cap,.int .i64 (i:Int),.slice (Ybl ⟨vb,0,Ybn⟩) 1 vc] w λe w'=>e=.returned (.slice (Ybl ⟨g,0,Ybn⟩) (n+1) cap)/\w'=w2:=by
 have mixed:Tryz.prog.follows Departure.mixedOrders=Ybq:=by kernel_rfl
 have hin:i<=n:=by omega
 have hne:¬((i:Int)=(n:Int)):=by omega
 have hb1:¬(cap=i+1):=by omega
 have hb2:¬(cap=i):=by omega
 have hb3:i<=cap:=by omega
 have hb4:i+1<=cap:=by omega
 have hb5:n<=cap:=by omega
 have hw1:IntKind.i64.wrap ((i:Int)+1)=(i:Int)+1:=by rw[IntKind.wrap_i64];omega
 have hw2:IntKind.i64.wrap ((n:Int)+1)=(n:Int)+1:=by rw[IntKind.wrap_i64];omega
 have ht1:((i:Int)+1).toNat=i+1:=by omega
 have ht2:((n:Int)+1).toNat=n+1:=by omega
 have hz1:(0:Int)<=(i:Int)+1:=by omega
 have hz2:(0:Int)<=(n:Int)+1:=by omega
 have hg1:¬((cap:Int)<(n:Int)+1):=by omega
 have hg2:(i:Int)<=(n:Int):=by omega
 have hg3:(n:Int)+1<=(cap:Int):=by omega
 have hg4:(i:Int)<=(n:Int)+1:=by omega
 go_enter Tryz.func37,Tryz.ntmps37
 go_wp2_with (simp only[hov])
 go_region_law_o (refine SV rfl (v:=r1) (w':=w1) (by simp[execOp,resolve,invoke,builtin,Act.eval,Act.put,hC1]) ?_)
 go_wp2_with (at_builtin;refine HK rfl (v:=r2) (w':=w2) (by simp[execOp,resolve,invoke,builtin,Act.eval,Act.put,hC2]) ?_)
 all_goals(go_ret;exact⟨rfl,rfl⟩)
set_option maxHeartbeats 4000000 in
theorem AoO(w w1 w2 w3:World)(g g2 n cap c2 i vb vc:Nat)(r1 r2:Value)(hi:i<n)(hnc:n<=cap)(hroom:cap<n+1)(hc:cap<=9223372036854775807)(hn9:n<1000000000)(hn2:n+1<=c2)(hA:∀ty,(Builtin.append_ #[40,3] ty #[.slice (Ybl ⟨g,0,Ybn⟩) i cap,.int .i64 ((n+1-i:Nat):Int)]).run Tryz.prog w=.ok (.slice (Ybl ⟨g2,0,Ybn⟩) (n+1) c2) w1)(hC1:∀ty,(Builtin.copy_ #[40,40] ty #[.slice (Ybl ⟨g2,i*5,Ybn⟩) (n+1-i) (c2-i),.slice (Ybl ⟨vb,0,Ybn⟩) 1 vc]).run Tryz.prog w1=.ok r1 w2)(hC2:∀ty,(Builtin.copy_ #[40,40] ty #[.slice (Ybl ⟨g2,(i+1)*5,Ybn⟩) (n-i) (c2-(i+1)),.slice (Ybl ⟨g,i*5,Ybn⟩) (n-i) (cap-i)]).run Tryz.prog w2.drew=.ok r2 w3):Calls Tryz.prog 37 #[.slice (Ybl ⟨g,0,Ybn⟩) n cap,.int .i64 (i:Int),.slice (Ybl ⟨vb,0,Ybn⟩) 1 vc] w λe w'=>e=.returned (.slice (Ybl ⟨g2,0,Ybn⟩) (n+1) c2)/\w'=w3:=by
 have mixed:Tryz.prog.follows Departure.mixedOrders=Ybq:=by kernel_rfl
 have hin:i<=n:=by omega
 have hne:¬((i:Int)=(n:Int)):=by omega
 have hb1:¬(c2=i+1):=by omega
 have hb2:¬(c2=i):=by omega
 have hb3:i<=cap:=by omega
 have hb4:i+1<=c2:=by omega
 have hb6:i<=c2:=by omega
 have hb5:¬(cap=i):=by omega
 have hw1:IntKind.i64.wrap ((i:Int)+1)=(i:Int)+1:=by rw[IntKind.wrap_i64];omega
 have hw2:IntKind.i64.wrap ((n:Int)+1)=(n:Int)+1:=by rw[IntKind.wrap_i64];omega
 have hw3:IntKind.i64.wrap ((n:Int)+1-(i:Int))=(n:Int)+1-(i:Int):=by rw[IntKind.wrap_i64];omega
 have hk:((n+1-i:Nat):Int)=(n:Int)+1-(i:Int):=by omega
 rw[hk]at hA;have ht1:((i:Int)+1).toNat=i+1:=by omega
 have hz1:(0:Int)<=(i:Int)+1:=by omega
 have hg1:(cap:Int)<(n:Int)+1:=by omega
 have hg2:(i:Int)<=(n:Int):=by omega
 have hg4:(i:Int)<=(n:Int)+1:=by omega
 go_enter Tryz.func37,Tryz.ntmps37
 go_wp2_with (first
  |(at_builtin;refine HK rfl (v:=.slice (Ybl ⟨g2,0,Ybn⟩) (n+1) c2) (w':=w1) (by simp[execOp,resolve,invoke,builtin,Act.eval,Act.put,hA]) ?_)
  |(at_builtin;refine HK rfl (v:=r1) (w':=w2) (by simp[execOp,resolve,invoke,builtin,Act.eval,Act.put,hC1]) ?_))
 go_region_law_o (refine SV rfl (v:=r2) (w':=w3) (by simp[execOp,resolve,invoke,builtin,Act.eval,Act.put,hC2]) ?_)
 go_wp2
 all_goals(go_ret;exact⟨rfl,rfl⟩)
theorem AoP:∃i,Tryz.prog.info? 111=Ybl i/\i.zero=Ybl (.agg #[Value.int IntKind.i64 0,Value.string {data:=#[]},Value.slice Ybn 0 0,Value.int IntKind.i64 0,Value.int IntKind.i64 0])/\i.size=5/\i.bytes=64:=
 info_parts (by kernel_rfl)
set_option maxHeartbeats 1000000 in
theorem AoQ(w:World)(base n i:Nat)(sv:Value)(xs:Ybp Value)(Ah:w.ownsRow base 111 5 sv n xs)(hb:base<=w.heap.size)(D1:∀v∈xs,v.oneCell'=Ybq)(hi:i<=n)(hn:n<1000000000)(vb vc:Nat)(us ws:Ybp Value)(hV:Raw w vb 111 ws)(AEK:ws.length=vc*5)(AN:ws.take 5=us)(DR:us.length=5)(Eu:∀v∈us,v.oneCell'=Ybq)(Az:sv.ownBlock≠Ybl vb):Calls Tryz.prog 37 #[sv,.int .i64 (i:Int),.slice (Ybl ⟨vb,0,Ybn⟩) 1 vc] w λe w'=>∃As,e=.returned As/\w.grownBy w' sv.ownBlock/\(As.ownBlock=sv.ownBlock\/∀g,As.ownBlock=Ybl g->w.heap.size<=g)/\w'.ownsRow base 111 5 As (n+1) (xs.take (i*5)++us++xs.drop (i*5)):=by
 obtain⟨i0,F6,Gv,B4,DX⟩:=AoP
 have xK:∀j u,us[j]?=Ybl u->w.cell? ((⟨vb,0,Ybn⟩:Addr).add j)=Ybl u:=λj u hj=>by
  rw[Addr.add_lit,CQ];refine hV.cell ?_;rw[<-AN]at hj
  have KJ:j<5:=by have:=(Do.1 hj).1;rw[CJ]at this;omega
  rwa [HA KJ]at hj
 have L1:(n+1)*64<=140737488355328:=by omega
 have C5:n+1<=maxLen:=by unfold maxLen;omega
 by_cases Ci:i=n
 ·subst Ci
  obtain⟨v',w',hA,EZ,hg,_,Dv⟩:=run_append_own_at (P:=Tryz.prog) w base 40 40 111 i0 _ 5 64 Tryz.underlying40 F6 Gv B4 DX rfl (by decide) sv i xs Ah ⟨vb,0,Ybn⟩ 1 vc us (by rw[DR]) xK Eu C5 L1 hb
  have FQ:∀e w'',e=Ending.returned v'/\w''=w'->∃As,e=Ending.returned As/\w.grownBy w'' sv.ownBlock/\(As.ownBlock=sv.ownBlock\/∀g,As.ownBlock=Ybl g->w.heap.size<=g)/\
    w''.ownsRow base 111 5 As (i+1) (xs.take (i*5)++us++xs.drop (i*5)):=by
   rintro e w'' ⟨rfl,rfl⟩;refine⟨v',rfl,hg,Dv.imp id λh g hg=>?_,?_⟩
   ·rw[h]at hg;injection hg with hg;omega
   ·have h1:xs.take (i*5)=xs:=GL (by rw[Ah.1];exact Aw _)
    have h2:xs.drop (i*5)=[]:=GM (by rw[Ah.1];exact Aw _);rw[h1,h2,Gj];exact EZ
  rcases Ng Ah with⟨rfl,rfl,_⟩|⟨g,cap,ys,rfl,hR,Cw,Ed,BO,C4,Ht⟩
  ·exact(AoL w w' vb vc v' λty=>hA).mono FQ
  ·exact(AoM w w' g i cap vb vc BO C4 v' λty=>hA).mono FQ
 ·rcases Ng Ah with⟨rfl,rfl,_⟩|⟨g,cap,ys,rfl,hR,Cw,Ed,BO,C4,Ht⟩
  ·omega
  ·have Mz:i<n:=by omega
   have Hz:g≠vb:=λe=>Az (by rw[e];rfl)
   have DN:∀W,Raw W g 111 ys->∀o m,o+m<=n*5->∀j u,((xs.drop o).take m)[j]?=Ybl u->W.cell? ((⟨g,o,Ybn⟩:Addr).add j)=Ybl u:=λW hR o m AE5 j u hj=>by
    rw[Addr.add_lit];refine hR.cell ?_
    have wQ:j<m:=by have:=(Do.1 hj).1;rw[CJ]at this;omega
    rw[HA wQ,KZ,<-Ed,HA (by omega)]at hj;exact hj
   have Cp:xs.length=n*5:=Ah.1;have Gf:(xs.drop (i*5)).length=(n-i)*5:=by rw[GN,Cp];omega
   have Pz:∀v∈xs.drop (i*5),v.oneCell'=Ybq:=λv hv=>D1 v (VW hv);have xT:(xs.drop (i*5)).take ((n-i)*5)=xs.drop (i*5):=GL (by rw[Gf];exact Aw _)
   have hrtW:∀W,Raw W g 111 ys->∀j u,(xs.drop (i*5))[j]?=Ybl u->W.cell? ((⟨g,i*5,Ybn⟩:Addr).add j)=Ybl u:=λW hR j u hj=>by refine DN W hR (i*5) ((n-i)*5) (by omega) j u ?_;rw[xT];exact hj
   have R6:=hrtW w hR;by_cases Cj:n+1<=cap
   ·have E3:∀lb cb,(callFunc 83 #[.slice (Ybl ⟨vb,0,Ybn⟩) 1 vc,.slice (Ybl ⟨g,(i+1)*5,Ybn⟩) lb cb]).run Tryz.prog w=.ok (.value (.bool Ybo)) w:=λlb cb=>by
     rw[run_callFunc_extern Tryz.func83 (by kernel_rfl) (by kernel_rfl) (by kernel_rfl) (e:=Extern.SlicesOverlaps.overlaps #[40,40] #[4]) (by kernel_rfl),
      Lib.run_overlaps_apart w 40 4 111 Tryz.underlying40 5 Tryz.sizeOf111 ⟨vb,0,Ybn⟩ ⟨g,(i+1)*5,Ybn⟩ 1 vc lb cb (λe=>Hz e.symm) 111 111 ws.length ys.length (hV.shape) (hR.shape) (by omega) (hV.frozen _) (hV.frozen _)]
     rfl
    obtain⟨w1,hC1,hG1,hR1⟩:=Nd (P:=Tryz.prog) (t:=40) (tS:=40) (w:=w.drew) Tryz.underlying40 F6 hR.drew (o:=(i+1)*5) (dLen:=n-i) (dCap:=cap-(i+1)) (sLen:=n+1-i) (sCap:=cap-i) (A:=⟨g,i*5,Ybn⟩) (us:=xs.drop (i*5))
     (by rw[Gf,B4,show Yby (n+1-i) (n-i)=n-i from Wb (by omega)]) R6 Pz (by rw[Gf,Cw];omega)
    have hV1:Raw w1 vb 111 ws:=hV.drew.other hG1 (λe=>Hz e.symm)
    have Pv:∀j u,us[j]?=Ybl u->w1.cell? ((⟨vb,0,Ybn⟩:Addr).add j)=Ybl u:=λj u hj=>by
     rw[Addr.add_lit,CQ];refine hV1.cell ?_;rw[<-AN]at hj
     have KJ:j<5:=by have:=(Do.1 hj).1;rw[CJ]at this;omega
     rwa [HA KJ]at hj
    have Ea:(ovr ys ((i+1)*5) (xs.drop (i*5))).length=ys.length:=IJ (by rw[Gf,Cw];omega)
    obtain⟨w2,hC2,hG2,hR2⟩:=Nd (P:=Tryz.prog) (t:=40) (tS:=40) Tryz.underlying40 F6 hR1 (o:=i*5) (dLen:=n+1-i) (dCap:=cap-i) (sLen:=1) (sCap:=vc) (A:=⟨vb,0,Ybn⟩) (us:=us)
     (by rw[DR,B4,show Yby 1 (n+1-i)=1 from ID (by omega)]) Pv Eu (by rw[Ea,DR,Cw];omega)
    refine(AoN w w1 w2 g n cap i vb vc _ _ Mz Cj C4 E3 hC1 hC2).mono ?_;rintro e w'' ⟨rfl,rfl⟩;refine⟨_,rfl,HM (HM Oq hG1 (.inr rfl)) hG2 (.inr rfl),.inl rfl,Ow hR2 ?_ ?_ Cj C4 Ht⟩
    ·rw[IJ (by rw[Ea,DR,Cw];omega),Ea,Cw]
    ·exact AbN Cw Ed Cp DR Mz Cj
   ·obtain⟨w1,w2,w3,c2,hA,hC1,hC2,BG,Mx,CG,ys3,hR3,wT,R7⟩:∃w1 w2 w3 c2,(∀ty,(Builtin.append_ #[40,3] ty #[.slice (Ybl ⟨g,0,Ybn⟩) i cap,.int .i64 ((n+1-i:Nat):Int)]).run Tryz.prog w=.ok (.slice (Ybl ⟨w.heap.size,0,Ybn⟩) (n+1) c2) w1)/\
      (∀ty,(Builtin.copy_ #[40,40] ty #[.slice (Ybl ⟨w.heap.size,i*5,Ybn⟩) (n+1-i) (c2-i),.slice (Ybl ⟨vb,0,Ybn⟩) 1 vc]).run Tryz.prog w1=.ok (goInt (Yby 1 (n+1-i))) w2)/\
      (∀ty,(Builtin.copy_ #[40,40] ty #[.slice (Ybl ⟨w.heap.size,(i+1)*5,Ybn⟩) (n-i) (c2-(i+1)),.slice (Ybl ⟨g,i*5,Ybn⟩) (n-i) (cap-i)]).run Tryz.prog w2.drew=.ok (goInt (Yby (n-i) (n-i))) w3)/\n+1<=c2/\c2<=maxLen/\w.grownBy w3 (Ybl g)/\
      ∃ys3,Raw w3 w.heap.size 111 ys3/\ys3.length=c2*5/\ys3.take ((n+1)*5)=xs.take (i*5)++us++xs.drop (i*5):=by
     have holds:(Builtin.firstCells i0.size i (.slice (Ybl ⟨g,0,Ybn⟩) i cap)).run Tryz.prog w.drew=.ok (xs.take (i*5)).toArray w.drew:=by rw[B4];refine run_firstCells_some w.drew 5 i ⟨g,0,Ybn⟩ i cap (xs.take (i*5)) (by rw[CJ,Cp];omega) λj u hj=>?_;have:=DN w hR 0 (i*5) (by omega) j u (by simpa using hj);exact this
     have hA:=λty=>run_append_grow_zeros (P:=Tryz.prog) w 40 3 ty 111 i0 _ .i64 .i64 Tryz.underlying40 Tryz.underlying3 F6 Gv (Ybl ⟨g,0,Ybn⟩) i cap (xs.take (i*5)) holds (n+1-i) (by omega) (by rw[B4];decide) (by omega) (by omega) (by rw[DX];omega)
      (by rw[DX];exact growslice_fits (by omega) (by omega))
     rw[show i+(n+1-i)=n+1 by omega]at hA;have BG:=grownCap_ge w (n+1) cap 111;have Mx:grownCap w (n+1) cap 111<=maxLen:=grownCap_le_maxLen w (n+1) cap 111 C5;generalize grownCap w (n+1) cap 111=c2 at hA BG Mx
     obtain⟨ys1,y8,Ea,JA⟩:∃ys1:Ybp Value,((xs.take (i*5)).toArray++Builtin.zeroCells (Value.agg #[Value.int IntKind.i64 0,Value.string {data:=#[]},Value.slice Ybn 0 0,Value.int IntKind.i64 0,Value.int IntKind.i64 0]).cells (n+1-i)++Builtin.zeroCells (Value.agg #[Value.int IntKind.i64 0,Value.string {data:=#[]},Value.slice Ybn 0 0,Value.int IntKind.i64 0,Value.int IntKind.i64 0]).cells (c2-(n+1)))=ys1.toArray/\ys1.length=c2*5/\ys1.take (i*5)=xs.take (i*5):=by
      refine⟨_,(Gi (xs:=_)).symm,?_,?_⟩
      ·rw[FV]
       simp only[dP,NU,size_zeroCells,CJ,Cp];show min (i*5) (n*5)+(n+1-i)*5+(c2-(n+1))*5=c2*5;omega
      ·simp only[dJ,C1]
       exact LL (by rw[CJ,Cp];omega)
     rw[y8]at hA;have hR1:Raw (w.drew.alloc (.cells ys1.toArray 111)) w.heap.size 111 ys1:=Raw.new w.drew 111 ys1;have hV1:Raw (w.drew.alloc (.cells ys1.toArray 111)) vb 111 ws:=hV.drew.alloc _;have hRg:Raw (w.drew.alloc (.cells ys1.toArray 111)) g 111 ys:=hR.drew.alloc _;have US:w.grownBy (w.drew.alloc (.cells ys1.toArray 111)) (Ybl g):=Xm Oq _;generalize w.drew.alloc (.cells ys1.toArray 111)=w1 at hA hR1 hV1 hRg US;have UQ:g<w.heap.size:=hR.lt;have AlU:vb<w.heap.size:=hV.lt
     have Pv:∀j u,us[j]?=Ybl u->w1.cell? ((⟨vb,0,Ybn⟩:Addr).add j)=Ybl u:=λj u hj=>by
      rw[Addr.add_lit,CQ];refine hV1.cell ?_;rw[<-AN]at hj
      have KJ:j<5:=by have:=(Do.1 hj).1;rw[CJ]at this;omega
      rwa [HA KJ]at hj
     obtain⟨w2,hC1,hG1,hR2⟩:=Nd (P:=Tryz.prog) (t:=40) (tS:=40) Tryz.underlying40 F6 hR1 (o:=i*5) (dLen:=n+1-i) (dCap:=c2-i) (sLen:=1) (sCap:=vc) (A:=⟨vb,0,Ybn⟩) (us:=us)
      (by rw[DR,B4,show Yby 1 (n+1-i)=1 from ID (by omega)]) Pv Eu (by rw[DR,Ea];omega)
     have hRg2:Raw w2 g 111 ys:=hRg.other hG1 (by omega);have Je:(ovr ys1 (i*5) us).length=c2*5:=by rw[IJ (by rw[DR,Ea];omega),Ea]
     obtain⟨w3,hC2,hG2,hR3⟩:=Nd (P:=Tryz.prog) (t:=40) (tS:=40) (w:=w2.drew) Tryz.underlying40 F6 hR2.drew (o:=(i+1)*5) (dLen:=n-i) (dCap:=c2-(i+1)) (sLen:=n-i) (sCap:=cap-i) (A:=⟨g,i*5,Ybn⟩) (us:=xs.drop (i*5))
      (by rw[Gf,B4,show Yby (n-i) (n-i)=n-i from Si _]) (hrtW w2.drew hRg2) Pz (by rw[Gf,Je];omega)
     refine⟨w1,w2,w3,c2,hA,hC1,hC2,BG,Mx,?_,_,hR3,?_,AbO Ea JA Cp DR Mz BG⟩
     ·exact HM (Lm (HM US hG1 (.inl (Aw _))) (show w2.grownBy w2.drew Ybn from Oq)) hG2 (.inl (Aw _))
     ·rw[IJ (by rw[Gf,Je];omega),Je]
    refine(AoO w w1 w2 w3 g w.heap.size n cap c2 i vb vc _ _ Mz BO (by omega) C4 hn BG hA hC1 hC2).mono ?_;rintro e w'' ⟨rfl,rfl⟩
    exact⟨_,rfl,CG,.inr (λg2 h=>by have h:Ybl w.heap.size=Ybl g2:=h;injection h with h;omega),Ow hR3 wT R7 BG Mx (by omega)⟩
set_option maxHeartbeats 4000000 in
theorem AoR(w:World)(cl:FuncId)(lb:Ybx Value):Calls Tryz.prog 172 #[.slice Ybn 0 0,.func (.func cl) #[] lb] w λe W=>e=.returned (.int .i64 (-1))/\W=w:=by
 have mixed:Tryz.prog.follows Departure.mixedOrders=Ybq:=by kernel_rfl
 go_enter Tryz.func172,Tryz.ntmps172
 go_wp2
 go_loopg [8] 1 (λgg s8 wr=>s8=.int .i64 0/\wr=w)
 case atStart=>exact⟨rfl,rfl⟩
 case round=>
  obtain⟨rfl,rfl⟩:=hrel
  go_wp2
  go_ret
  exact⟨rfl,rfl⟩
set_option maxHeartbeats 4000000 in
theorem AoS(w:World)(cl:FuncId)(lb:Ybx Value):Calls Tryz.prog 93 #[.slice Ybn 0 0,.func (.func cl) #[] lb] w λe W=>e=.returned (.slice Ybn 0 0)/\W=w:=by
 have mixed:Tryz.prog.follows Departure.mixedOrders=Ybq:=by kernel_rfl
 have e172:∀args w,(callFunc 172 args).run Tryz.prog w=.ok (.enter 172 args) w:=Go.Proofs.enters_of Tryz.func172 (by kernel_rfl) rfl;have hI2:=AoR w cl lb
 go_enter Tryz.func93,Tryz.ntmps93
 go_wp2_with (go_at_fn 172;refine hI2.mono ?_;rintro e w1 ⟨rfl,rfl⟩)
 go_ret
 exact⟨rfl,rfl⟩
theorem AoT(w:World)(base n:Nat)(sv:Value)(xs:Ybp Value)(Ah:w.ownsRow base 111 5 sv n xs)(D1:∀v∈xs,v.oneCell'=Ybq)(cl:FuncId)(lb:Ybx Value)(eg:∀args w,(callFunc cl args).run Tryz.prog w=.ok (.enter cl args) w)(pr:Nat->Bool)(DF:∀W,w.grownBy W sv.ownBlock->∀j,j<n->Calls Tryz.prog cl (#[.agg (chk xs 5 j).toArray]++lb) W λe W'=>e=.returned (.bool (pr j))/\W.grownBy W' Ybn):Calls Tryz.prog 93 #[sv,.func (.func cl) #[] lb] w λe w'=>∃As,e=.returned As/\w.grownBy w' sv.ownBlock/\As.ownBlock=sv.ownBlock/\w'.ownsRow base 111 5 As (D3 pr n).length ((D3 pr n).flatMap (chk xs 5)):=by
 rcases Ng Ah with⟨rfl,rfl,rfl⟩|⟨g,cap,ys,rfl,hR,Cw,Ed,BO,C4,Ht⟩
 ·refine(AoS w cl lb).mono ?_
  rintro e w' ⟨rfl,rfl⟩;exact⟨_,rfl,Mc,rfl,World.ownsRow_nil _ _ _ _⟩
 ·have Hf:∀v∈(ys.take (n*5)),v.oneCell'=Ybq:=by rw[Ed];exact D1
  refine(AoK w g n cap ys Cw BO C4 hR Hf cl lb eg pr λW hW j hj=>?_).mono ?_
  ·rw[SX Ed hj]
   exact DF W hW j hj
  ·rintro e w' ⟨rfl,hg,zs,hz,Kl,y9⟩
   refine⟨_,rfl,hg,rfl,Ow hz Kl ?_ (BH (AbQ pr n) BO) C4 Ht⟩;rw[y9,AbP Ed]
set_option maxHeartbeats 4000000 in
theorem AoU(w:World)(g n cap:Nat)(ys:Ybp Value)(hys:ys.length=cap*6)(hnc:n<=cap)(hc:cap<=9223372036854775807)(hR:Raw w g 177 ys)(cl:FuncId)(lb:Ybx Value)(eg:∀args w,(callFunc cl args).run Tryz.prog w=.ok (.enter cl args) w)(pr:Nat->Bool)(hcl:∀W,w.grownBy W (Ybl g)->∀j,j<n->Calls Tryz.prog cl (#[.agg (chk ys 6 j).toArray]++lb) W λe W'=>e=.returned (.bool (pr j))/\W.grownBy W' Ybn):Calls Tryz.prog 155 #[.slice (Ybl ⟨g,0,Ybn⟩) n cap,.func (.func cl) #[] lb] w λe W=>∃r:Int,e=.returned (.int .i64 r)/\w.grownBy W Ybn/\((r=-1/\∀j,j<n->pr j=Ybo)\/∃i,i<n/\r=(i:Int)/\pr i=Ybq/\∀j,j<i->pr j=Ybo):=by
 have mixed:Tryz.prog.follows Departure.mixedOrders=Ybq:=by kernel_rfl
 go_enter Tryz.func155,Tryz.ntmps155
 go_wp2
 go_loopg [5,8] n (λgg _ s8 wr=>∃kk:Nat,kk<=n/\n-kk<=gg/\s8=.int .i64 kk/\Aside (w.grownBy wr Ybn)/\Aside (∀j,j<kk->pr j=Ybo))
 case atStart=>exact⟨0,BD _,by omega,rfl,Mc,λj hj=>Yb1 hj (C8 _)⟩
 case round=>
  obtain⟨kk,hkk,hg,rfl,G,A⟩:=hrel;by_cases hlt:kk<n
  ·have hltz:(kk:Int)<(n:Int):=by omega
   have hRr:Raw wr g 177 ys:=by have h:=G.out.block g hR.lt (by simp);exact h.trans hR
   have hl:=SW hys (Ij hlt hnc);have hcs:=λj u hj=>hRr.chk (k:=6) (q:=kk) j u hj;have hcall:=hcl wr ⟨G.out.os,G.out.tape,G.out.output,G.out.size,λk hk _=>G.out.block k hk (by simp)⟩ kk hlt;generalize chk ys 6 kk=us at hl hcs hcall;cases hq:pr kk with
   |true=>
    rw[hq]at hcall
    go_wp2_with (first|(refine HL rfl 177 _ rfl ⟨g,kk*6,Ybn⟩ (by simp[Act.eval]) us 6 hl Tryz.isAgg177 Tryz.sizeOf177 hcs ?_)|(go_at_fn cl;refine hcall.mono ?_;rintro e w' ⟨rfl,G'⟩))
    go_ret
    exact⟨_,rfl,Qy G.out G',.inr ⟨kk,hlt,rfl,hq,A.out⟩⟩
   |false=>
    rw[hq]at hcall
    go_wp2_with (first|(refine HL rfl 177 _ rfl ⟨g,kk*6,Ybn⟩ (by simp[Act.eval]) us 6 hl Tryz.isAgg177 Tryz.sizeOf177 hcs ?_)|(go_at_fn cl;refine hcall.mono ?_;rintro e w' ⟨rfl,G'⟩))
    go_roundg (n-(kk+1))
    case measure=>omega
    case rel=>
     refine⟨kk+1,by omega,by omega,by go_num,Qy G.out G',(show Aside _ from λj hj=>?_)⟩;by_cases e:j=kk
     ·subst e
      exact hq
     ·exact A.out j (by omega)
  ·have hltz:¬(kk:Int)<(n:Int):=by omega
   have hk:kk=n:=by omega
   go_wp2
   go_ret
   exact⟨_,rfl,G.out,.inl ⟨rfl,by rw[<-hk];exact A.out⟩⟩
set_option maxHeartbeats 4000000 in
theorem AoV(w:World)(g n cap:Nat)(ys:Ybp Value)(hys:ys.length=cap*6)(hnc:n<=cap)(hc:cap<=9223372036854775807)(hR:Raw w g 177 ys)(h1:∀v∈ys.take (n*6),v.oneCell'=Ybq)(cl:FuncId)(lb:Ybx Value)(eg:∀args w,(callFunc cl args).run Tryz.prog w=.ok (.enter cl args) w)(pr:Nat->Bool)(hcl:∀W,w.grownBy W (Ybl g)->∀j,j<n->Calls Tryz.prog cl (#[.agg (chk ys 6 j).toArray]++lb) W λe W'=>e=.returned (.bool (pr j))/\W.grownBy W' Ybn):Calls Tryz.prog 175 #[.slice (Ybl ⟨g,0,Ybn⟩) n cap,.func (.func cl) #[] lb] w λe w'=>e=.returned (.slice (Ybl ⟨g,0,Ybn⟩) (D3 pr n).length cap)/\w.grownBy w' (Ybl g)/\∃zs,Raw w' g 177 zs/\zs.length=cap*6/\zs.take ((D3 pr n).length*6)=(D3 pr n).flatMap (chk ys 6):=by
 have mixed:Tryz.prog.follows Departure.mixedOrders=Ybq:=by kernel_rfl
 have hI:=AoU w g n cap ys hys hnc hc hR cl lb eg pr hcl;have e172:∀args w,(callFunc 155 args).run Tryz.prog w=.ok (.enter 155 args) w:=Go.Proofs.enters_of Tryz.func155 (by kernel_rfl) rfl;rcases MK (∃i,i<n/\pr i=Ybq)with hex|hex
 case inr=>
  have hall:∀j,j<n->pr j=Ybo:=λj hj=>by
   cases h:pr j with
   |false=>rfl
   |true=>exact Yb1 ⟨j,hj,h⟩ hex
  have hI2:Calls Tryz.prog 155 #[.slice (Ybl ⟨g,0,Ybn⟩) n cap,.func (.func cl) #[] lb] w λe W=>e=.returned (.int .i64 (-1))/\w.grownBy W Ybn:=hI.mono λe W ⟨r,he,hG,hr⟩=>by
   rcases hr with⟨rfl,_⟩|⟨i,h1,_,h2,_⟩
   ·exact⟨he,hG⟩
   ·exact Yb1 ⟨i,h1,h2⟩ hex
  clear hI
  go_enter Tryz.func175,Tryz.ntmps175
  go_wp2_with (go_at_fn 155;refine hI2.mono ?_;rintro e w1 ⟨rfl,G1⟩)
  go_ret
  have hk:D3 pr n=Yb2 n:=Xi hall;refine⟨by rw[hk,RT];rfl,Lm Mc G1,ys,hR.none G1,hys,?_⟩;rw[hk,RT];exact(Xj ys 6 n).symm
 case inl=>
  obtain⟨i0,hi0,hp0,hb0⟩:∃i,i<n/\pr i=Ybq/\∀j,j<i->pr j=Ybo:=by
   rcases MK (∃i,i<n/\pr i=Ybq/\∀j,j<i->pr j=Ybo)with h|h
   ·exact h
   ·exfalso
    have:∀m,m<=n->∀j,j<m->pr j=Ybo:=λm=>by
     induction m with
     |zero=>intro _ j hj;omega
     |succ m ih=>
      intro hm j hj;have ih:=ih (by omega);by_cases e:j=m
      ·subst e
       cases hq:pr j with
       |false=>rfl
       |true=>exact Yb1 ⟨j,by omega,hq,ih⟩ h
      ·exact ih j (by omega)
    obtain⟨i,h1,h2⟩:=hex;rw[this n (Aw _) i h1]at h2;cases h2
  have hI2:Calls Tryz.prog 155 #[.slice (Ybl ⟨g,0,Ybn⟩) n cap,.func (.func cl) #[] lb] w λe W=>e=.returned (.int .i64 (i0:Int))/\w.grownBy W Ybn:=hI.mono λe W ⟨r,he,hG,hr⟩=>by
   rcases hr with⟨rfl,h⟩|⟨i,h1,rfl,h2,h3⟩
   ·rw[h i0 hi0]at hp0;cases hp0
   ·have:i=i0:=by
     rcases dM i i0 with q|q|q
     ·rw[hb0 i q]at h2;cases h2
     ·exact q
     ·rw[h3 i0 q]at hp0;cases hp0
    subst this;exact⟨he,hG⟩
  clear hI;have hne0:((i0:Int)==-1)=Ybo:=dL.2 (by omega)
  go_enter Tryz.func175,Tryz.ntmps175
  go_wp2_with (go_at_fn 155;refine hI2.mono ?_;rintro e w1 ⟨rfl,G1⟩)
  go_loopg [5,6] n (λgg s5 s6 wr=>∃(i j:Nat)(zs:Ybp Value),s5=.int .i64 i/\s6=.int .i64 j/\j<=n/\n-j<=gg/\Aside (w.grownBy wr (Ybl g))/\Aside (Raw wr g 177 zs)/\Aside (DInv pr ys 6 cap n zs i j))
  case atStart=>exact⟨i0,i0+1,ys,rfl,by go_num,hi0,by omega,Lm Mc G1,hR.none G1,DInv.start hys hi0 hp0 hb0⟩
  case round=>
   obtain⟨i,j,zs,rfl,rfl,hjn,hg,G,RW,DI⟩:=hrel;have hij:=DI.out.ij;by_cases hlt:j<n
   ·have hltz:(j:Int)<(n:Int):=by omega
    have hlz:=SW DI.out.len (Ij hlt hnc);have hcz:=DI.out.high j (Aw _) hlt;rw[hcz]at hlz;have hcs:=λq u hq=>RW.out.chk (k:=6) (q:=j) q u hq;rw[hcz]at hcs;have hone:∀v∈chk ys 6 j,v.oneCell'=Ybq:=by rw[SX (n:=n) (xs:=ys.take (n*6)) rfl hlt];exact AbM (e:=177) (k:=6) (j:=j) h1
    obtain⟨W1,hW1⟩:∃W1,W1=wr.alloc (.cells (#[Value.string {data:=#[]},Value.slice Ybn 0 0,Value.int IntKind.i64 0,Value.int IntKind.i64 0,Value.bool Ybo,Value.bool Ybo]) 177):=⟨_,rfl⟩;have hR1:Raw W1 wr.heap.size 177 [Value.string {data:=#[]},Value.slice Ybn 0 0,Value.int IntKind.i64 0,Value.int IntKind.i64 0,Value.bool Ybo,Value.bool Ybo]:=by rw[hW1];exact Raw.new _ _ _
    have hR1g:Raw W1 g 177 zs:=by rw[hW1];exact RW.out.alloc _
    have G1:w.grownBy W1 (Ybl g):=by rw[hW1];exact Xm G.out _
    obtain⟨W2,hst2,G2',hR2⟩:=Ot (P:=Tryz.prog) hR1 hone (o:=0) (by rw[hlz];simp);have hsz:w.heap.size<=wr.heap.size:=G.out.size;have hgl:g<wr.heap.size:=RW.out.lt;have G2:w.grownBy W2 (Ybl g):=HM G1 G2' (.inl hsz);have hR2g:Raw W2 g 177 zs:=hR1g.other G2' (by omega);have ho2:ovr [Value.string {data:=#[]},Value.slice Ybn 0 0,Value.int IntKind.i64 0,Value.int IntKind.i64 0,Value.bool Ybo,Value.bool Ybo] 0 (chk ys 6 j)=chk ys 6 j:=by simp[ovr,hlz]
    rw[ho2]at hR2
    have hcs2:∀q u,(chk ys 6 j)[q]?=Ybl u->W2.cell? ((⟨wr.heap.size,0,Ybn⟩:Addr).add q)=Ybl u:=λq u hq=>by rw[Addr.add_lit,CQ];exact hR2.cell hq
    have hcall:=hcl W2 G2 j hlt;generalize hus:chk ys 6 j=us at hlz hcs hone hst2 hR2 hcs2 hcall hcz ho2;generalize hgv:wr.heap.size=gv at hR1 hst2 G2' hR2 hcs2 hsz hgl;have HUS:Aside (chk ys 6 j=us):=hus;clear hus hR1 hR1g ho2 hcz hcl;cases hq:pr j with
    |true=>
     rw[hq]at hcall
     go_wp2_with (first
      |(refine HL rfl 177 _ rfl ⟨g,j*6,Ybn⟩ (by simp[Act.eval,Act.put]) us 6 hlz Tryz.isAgg177 Tryz.sizeOf177 hcs ?_)
      |(refine HL rfl 177 _ rfl ⟨gv,0,Ybn⟩ (by simp[Act.eval,Act.put]) us 6 hlz Tryz.isAgg177 Tryz.sizeOf177 hcs2 ?_)
      |(refine Xl rfl 177 rfl Tryz.zeroValue177 hW1.symm ?_;rw[hgv])
      |(refine Q1 rfl 177 _ _ rfl ⟨gv,0,Ybn⟩ (by simp[Act.eval,Act.put]) us (by simp[Act.eval,Act.put]) 6 hlz Tryz.sizeOf177 hst2 ?_)
      |(go_at_fn cl;refine hcall.mono ?_;rintro e w' ⟨rfl,G'⟩))
     go_roundg (n-(j+1))
     case measure=>omega
     case rel=>exact⟨i,j+1,zs,rfl,by go_num,by omega,Aw _,Lm G2 G',hR2g.none G',DI.out.skip hlt hq⟩
    |false=>
     rw[hq]at hcall
     have hle4:i*6+us.length<=zs.length:=by rw[hlz,DI.out.len];have:=hij;omega
     have hic:i<cap:=by omega
     go_wp2_with (first
      |(refine HL rfl 177 _ rfl ⟨g,j*6,Ybn⟩ (by simp[Act.eval,Act.put]) us 6 hlz Tryz.isAgg177 Tryz.sizeOf177 hcs ?_)
      |(refine HL rfl 177 _ rfl ⟨gv,0,Ybn⟩ (by simp[Act.eval,Act.put]) us 6 hlz Tryz.isAgg177 Tryz.sizeOf177 hcs4 ?_)
      |(refine HL rfl 177 _ rfl ⟨gv,0,Ybn⟩ (by simp[Act.eval,Act.put]) us 6 hlz Tryz.isAgg177 Tryz.sizeOf177 hcs2 ?_)
      |(refine Xl rfl 177 rfl Tryz.zeroValue177 hW1.symm ?_;rw[hgv])
      |(refine Q1 rfl 177 _ _ rfl ⟨gv,0,Ybn⟩ (by simp[Act.eval,Act.put]) us (by simp[Act.eval,Act.put]) 6 hlz Tryz.sizeOf177 hst2 ?_)
      |(refine Q1 rfl 177 _ _ rfl ⟨g,i*6,Ybn⟩ (by simp[Act.eval,Act.put]) us (by simp[Act.eval,Act.put]) 6 hlz Tryz.sizeOf177 hst4 ?_)
      |(go_at_fn cl;refine hcall.mono ?_;rintro e w' ⟨rfl,G'⟩
        have hcs4:∀q u,us[q]?=Ybl u->w'.cell? ((⟨gv,0,Ybn⟩:Addr).add q)=Ybl u:=λq u hq=>by rw[Addr.add_lit,CQ];exact(hR2.none G').cell hq
        obtain⟨W4,hst4,G4',hR4⟩:=Ot (P:=Tryz.prog) (hR2g.none G') hone (o:=i*6) hle4))
     go_roundg (n-(j+1))
     case measure=>omega
     case rel=>refine⟨i+1,j+1,_,by go_num,by go_num,by omega,Aw _,HM (Lm G2 G') G4' (.inr rfl),hR4,?_⟩;have:=DI.out.keep hys hnc hlt hq;rw[HUS.out]at this;exact this
   ·have hjn:j=n:=by omega
    have hltz:¬(j:Int)<(n:Int):=by omega
    obtain⟨W5,hclr,G5,hR5⟩:=iH (P:=Tryz.prog) (t:=109) Tryz.underlying109 Tryz.zeroValue177 (by decide) (by decide) RW.out (o:=i*6) (n:=n-i) (c:=cap-i) (by rw[DI.out.len];show i*6+(n-i)*6<=cap*6;omega);have hin:i<=n:=by omega
    have hic:i<=cap:=by omega
    have hic2:¬(cap=i):=by omega
    go_wp2_with (at_builtin;refine HK rfl (v:=.tuple #[]) (w':=W5) (by simp[execOp,resolve,invoke,builtin,Act.eval,Act.put,hclr]) ?_)
    go_ret
    have D:=DI.out;rw[hjn]at D;refine⟨by rw[D.cnt];rfl,HM G.out G5 (.inr rfl),_,hR5,?_,?_⟩
    ·rw[IJ,D.len]
     rw[D.len,Xk];show i*6+(n-i)*6<=cap*6;omega
    ·rw[D.cnt,<-D.low]
     unfold ovr;rw[C1,KY (by rw[CJ,D.len];omega),LM,Si]
set_option maxHeartbeats 4000000 in
theorem AoW(w w1:World)(vb vc:Nat)(v':Value)(hA:∀ty,(Builtin.append_ #[109,109] ty #[.slice Ybn 0 0,.slice (Ybl ⟨vb,0,Ybn⟩) 1 vc]).run Tryz.prog w=.ok v' w1):Calls Tryz.prog 90 #[.slice Ybn 0 0,.int .i64 ((0:Nat):Int),.slice (Ybl ⟨vb,0,Ybn⟩) 1 vc] w λe w'=>e=.returned v'/\w'=w1:=by
 have mixed:Tryz.prog.follows Departure.mixedOrders=Ybq:=by kernel_rfl
 go_enter Tryz.func90,Tryz.ntmps90
 go_wp2_with (at_builtin;refine HK rfl (v:=v') (w':=w1) (by simp[execOp,resolve,invoke,builtin,Act.eval,Act.put,hA]) ?_)
 all_goals(go_ret;exact⟨rfl,rfl⟩)
set_option maxHeartbeats 4000000 in
theorem AoX(w w1:World)(g n cap vb vc:Nat)(hnc:n<=cap)(hc:cap<=9223372036854775807)(v':Value)(hA:∀ty,(Builtin.append_ #[109,109] ty #[.slice (Ybl ⟨g,0,Ybn⟩) n cap,.slice (Ybl ⟨vb,0,Ybn⟩) 1 vc]).run Tryz.prog w=.ok v' w1):Calls Tryz.prog 90 #[.slice (Ybl ⟨g,0,Ybn⟩) n cap,.int .i64 (n:Int),.slice (Ybl ⟨vb,0,Ybn⟩) 1 vc] w λe w'=>e=.returned v'/\w'=w1:=by
 have mixed:Tryz.prog.follows Departure.mixedOrders=Ybq:=by kernel_rfl
 go_enter Tryz.func90,Tryz.ntmps90
 go_wp2_with (at_builtin;refine HK rfl (v:=v') (w':=w1) (by simp[execOp,resolve,invoke,builtin,Act.eval,Act.put,hA]) ?_)
 all_goals(go_ret;exact⟨rfl,rfl⟩)
set_option maxHeartbeats 4000000 in
theorem AoY(w w1 w2:World)(g n cap i vb vc:Nat)(r1 r2:Value)(hi:i<n)(hroom:n+1<=cap)(hc:cap<=9223372036854775807)(hov:∀lb cb,(callFunc 169 #[.slice (Ybl ⟨vb,0,Ybn⟩) 1 vc,.slice (Ybl ⟨g,(i+1)*6,Ybn⟩) lb cb]).run Tryz.prog w=.ok (.value (.bool Ybo)) w)(hC1:∀ty,(Builtin.copy_ #[109,109] ty #[.slice (Ybl ⟨g,(i+1)*6,Ybn⟩) (n-i) (cap-(i+1)),.slice (Ybl ⟨g,i*6,Ybn⟩) (n+1-i) (cap-i)]).run Tryz.prog w.drew=.ok r1 w1)(hC2:∀ty,(Builtin.copy_ #[109,109] ty #[.slice (Ybl ⟨g,i*6,Ybn⟩) (n+1-i) (cap-i),.slice (Ybl ⟨vb,0,Ybn⟩) 1 vc]).run Tryz.prog w1=.ok r2 w2):Calls Tryz.prog 90 #[.slice (Ybl ⟨g,0,Ybn⟩) n cap,.int .i64 (i:Int),.slice (Ybl ⟨vb,0,Ybn⟩) 1 vc] w λe w'=>e=.returned (.slice (Ybl ⟨g,0,Ybn⟩) (n+1) cap)/\w'=w2:=by
 have mixed:Tryz.prog.follows Departure.mixedOrders=Ybq:=by kernel_rfl
 have hin:i<=n:=by omega
 have hne:¬((i:Int)=(n:Int)):=by omega
 have hb1:¬(cap=i+1):=by omega
 have hb2:¬(cap=i):=by omega
 have hb3:i<=cap:=by omega
 have hb4:i+1<=cap:=by omega
 have hb5:n<=cap:=by omega
 have hw1:IntKind.i64.wrap ((i:Int)+1)=(i:Int)+1:=by rw[IntKind.wrap_i64];omega
 have hw2:IntKind.i64.wrap ((n:Int)+1)=(n:Int)+1:=by rw[IntKind.wrap_i64];omega
 have ht1:((i:Int)+1).toNat=i+1:=by omega
 have ht2:((n:Int)+1).toNat=n+1:=by omega
 have hz1:(0:Int)<=(i:Int)+1:=by omega
 have hz2:(0:Int)<=(n:Int)+1:=by omega
 have hg1:¬((cap:Int)<(n:Int)+1):=by omega
 have hg2:(i:Int)<=(n:Int):=by omega
 have hg3:(n:Int)+1<=(cap:Int):=by omega
 have hg4:(i:Int)<=(n:Int)+1:=by omega
 go_enter Tryz.func90,Tryz.ntmps90
 go_wp2_with (simp only[hov])
 go_region_law_o (refine SV rfl (v:=r1) (w':=w1) (by simp[execOp,resolve,invoke,builtin,Act.eval,Act.put,hC1]) ?_)
 go_wp2_with (at_builtin;refine HK rfl (v:=r2) (w':=w2) (by simp[execOp,resolve,invoke,builtin,Act.eval,Act.put,hC2]) ?_)
 all_goals(go_ret;exact⟨rfl,rfl⟩)
set_option maxHeartbeats 4000000 in
theorem AoZ(w w1 w2 w3:World)(g g2 n cap c2 i vb vc:Nat)(r1 r2:Value)(hi:i<n)(hnc:n<=cap)(hroom:cap<n+1)(hc:cap<=9223372036854775807)(hn9:n<1000000000)(hn2:n+1<=c2)(hA:∀ty,(Builtin.append_ #[109,3] ty #[.slice (Ybl ⟨g,0,Ybn⟩) i cap,.int .i64 ((n+1-i:Nat):Int)]).run Tryz.prog w=.ok (.slice (Ybl ⟨g2,0,Ybn⟩) (n+1) c2) w1)(hC1:∀ty,(Builtin.copy_ #[109,109] ty #[.slice (Ybl ⟨g2,i*6,Ybn⟩) (n+1-i) (c2-i),.slice (Ybl ⟨vb,0,Ybn⟩) 1 vc]).run Tryz.prog w1=.ok r1 w2)(hC2:∀ty,(Builtin.copy_ #[109,109] ty #[.slice (Ybl ⟨g2,(i+1)*6,Ybn⟩) (n-i) (c2-(i+1)),.slice (Ybl ⟨g,i*6,Ybn⟩) (n-i) (cap-i)]).run Tryz.prog w2.drew=.ok r2 w3):Calls Tryz.prog 90 #[.slice (Ybl ⟨g,0,Ybn⟩) n cap,.int .i64 (i:Int),.slice (Ybl ⟨vb,0,Ybn⟩) 1 vc] w λe w'=>e=.returned (.slice (Ybl ⟨g2,0,Ybn⟩) (n+1) c2)/\w'=w3:=by
 have mixed:Tryz.prog.follows Departure.mixedOrders=Ybq:=by kernel_rfl
 have hin:i<=n:=by omega
 have hne:¬((i:Int)=(n:Int)):=by omega
 have hb1:¬(c2=i+1):=by omega
 have hb2:¬(c2=i):=by omega
 have hb3:i<=cap:=by omega
 have hb4:i+1<=c2:=by omega
 have hb6:i<=c2:=by omega
 have hb5:¬(cap=i):=by omega
 have hw1:IntKind.i64.wrap ((i:Int)+1)=(i:Int)+1:=by rw[IntKind.wrap_i64];omega
 have hw2:IntKind.i64.wrap ((n:Int)+1)=(n:Int)+1:=by rw[IntKind.wrap_i64];omega
 have hw3:IntKind.i64.wrap ((n:Int)+1-(i:Int))=(n:Int)+1-(i:Int):=by rw[IntKind.wrap_i64];omega
 have hk:((n+1-i:Nat):Int)=(n:Int)+1-(i:Int):=by omega
 rw[hk]at hA;have ht1:((i:Int)+1).toNat=i+1:=by omega
 have hz1:(0:Int)<=(i:Int)+1:=by omega
 have hg1:(cap:Int)<(n:Int)+1:=by omega
 have hg2:(i:Int)<=(n:Int):=by omega
 have hg4:(i:Int)<=(n:Int)+1:=by omega
 go_enter Tryz.func90,Tryz.ntmps90
 go_wp2_with (first
  |(at_builtin;refine HK rfl (v:=.slice (Ybl ⟨g2,0,Ybn⟩) (n+1) c2) (w':=w1) (by simp[execOp,resolve,invoke,builtin,Act.eval,Act.put,hA]) ?_)
  |(at_builtin;refine HK rfl (v:=r1) (w':=w2) (by simp[execOp,resolve,invoke,builtin,Act.eval,Act.put,hC1]) ?_))
 go_region_law_o (refine SV rfl (v:=r2) (w':=w3) (by simp[execOp,resolve,invoke,builtin,Act.eval,Act.put,hC2]) ?_)
 go_wp2
 all_goals(go_ret;exact⟨rfl,rfl⟩)
theorem Ac1:∃i,Tryz.prog.info? 177=Ybl i/\i.zero=Ybl (.agg #[Value.string {data:=#[]},Value.slice Ybn 0 0,Value.int IntKind.i64 0,Value.int IntKind.i64 0,Value.bool Ybo,Value.bool Ybo])/\i.size=6/\i.bytes=64:=
 info_parts (by kernel_rfl)
set_option maxHeartbeats 1000000 in
theorem Ap0(w:World)(base n i:Nat)(sv:Value)(xs:Ybp Value)(Ah:w.ownsRow base 177 6 sv n xs)(hb:base<=w.heap.size)(D1:∀v∈xs,v.oneCell'=Ybq)(hi:i<=n)(hn:n<1000000000)(vb vc:Nat)(us ws:Ybp Value)(hV:Raw w vb 177 ws)(AEK:ws.length=vc*6)(AN:ws.take 6=us)(DR:us.length=6)(Eu:∀v∈us,v.oneCell'=Ybq)(Az:sv.ownBlock≠Ybl vb):Calls Tryz.prog 90 #[sv,.int .i64 (i:Int),.slice (Ybl ⟨vb,0,Ybn⟩) 1 vc] w λe w'=>∃As,e=.returned As/\w.grownBy w' sv.ownBlock/\(As.ownBlock=sv.ownBlock\/∀g,As.ownBlock=Ybl g->w.heap.size<=g)/\w'.ownsRow base 177 6 As (n+1) (xs.take (i*6)++us++xs.drop (i*6)):=by
 obtain⟨i0,F6,Gv,B4,DX⟩:=Ac1
 have xK:∀j u,us[j]?=Ybl u->w.cell? ((⟨vb,0,Ybn⟩:Addr).add j)=Ybl u:=λj u hj=>by
  rw[Addr.add_lit,CQ];refine hV.cell ?_;rw[<-AN]at hj
  have KJ:j<6:=by have:=(Do.1 hj).1;rw[CJ]at this;omega
  rwa [HA KJ]at hj
 have L1:(n+1)*64<=140737488355328:=by omega
 have C5:n+1<=maxLen:=by unfold maxLen;omega
 by_cases Ci:i=n
 ·subst Ci
  obtain⟨v',w',hA,EZ,hg,_,Dv⟩:=run_append_own_at (P:=Tryz.prog) w base 109 109 177 i0 _ 6 64 Tryz.underlying109 F6 Gv B4 DX rfl (by decide) sv i xs Ah ⟨vb,0,Ybn⟩ 1 vc us (by rw[DR]) xK Eu C5 L1 hb
  have FQ:∀e w'',e=Ending.returned v'/\w''=w'->∃As,e=Ending.returned As/\w.grownBy w'' sv.ownBlock/\(As.ownBlock=sv.ownBlock\/∀g,As.ownBlock=Ybl g->w.heap.size<=g)/\
    w''.ownsRow base 177 6 As (i+1) (xs.take (i*6)++us++xs.drop (i*6)):=by
   rintro e w'' ⟨rfl,rfl⟩;refine⟨v',rfl,hg,Dv.imp id λh g hg=>?_,?_⟩
   ·rw[h]at hg;injection hg with hg;omega
   ·have h1:xs.take (i*6)=xs:=GL (by rw[Ah.1];exact Aw _)
    have h2:xs.drop (i*6)=[]:=GM (by rw[Ah.1];exact Aw _);rw[h1,h2,Gj];exact EZ
  rcases Ng Ah with⟨rfl,rfl,_⟩|⟨g,cap,ys,rfl,hR,Cw,Ed,BO,C4,Ht⟩
  ·exact(AoW w w' vb vc v' λty=>hA).mono FQ
  ·exact(AoX w w' g i cap vb vc BO C4 v' λty=>hA).mono FQ
 ·rcases Ng Ah with⟨rfl,rfl,_⟩|⟨g,cap,ys,rfl,hR,Cw,Ed,BO,C4,Ht⟩
  ·omega
  ·have Mz:i<n:=by omega
   have Hz:g≠vb:=λe=>Az (by rw[e];rfl)
   have DN:∀W,Raw W g 177 ys->∀o m,o+m<=n*6->∀j u,((xs.drop o).take m)[j]?=Ybl u->W.cell? ((⟨g,o,Ybn⟩:Addr).add j)=Ybl u:=λW hR o m AE5 j u hj=>by
    rw[Addr.add_lit];refine hR.cell ?_
    have wQ:j<m:=by have:=(Do.1 hj).1;rw[CJ]at this;omega
    rw[HA wQ,KZ,<-Ed,HA (by omega)]at hj;exact hj
   have Cp:xs.length=n*6:=Ah.1;have Gf:(xs.drop (i*6)).length=(n-i)*6:=by rw[GN,Cp];omega
   have Pz:∀v∈xs.drop (i*6),v.oneCell'=Ybq:=λv hv=>D1 v (VW hv);have xT:(xs.drop (i*6)).take ((n-i)*6)=xs.drop (i*6):=GL (by rw[Gf];exact Aw _)
   have hrtW:∀W,Raw W g 177 ys->∀j u,(xs.drop (i*6))[j]?=Ybl u->W.cell? ((⟨g,i*6,Ybn⟩:Addr).add j)=Ybl u:=λW hR j u hj=>by refine DN W hR (i*6) ((n-i)*6) (by omega) j u ?_;rw[xT];exact hj
   have R6:=hrtW w hR;by_cases Cj:n+1<=cap
   ·have E3:∀lb cb,(callFunc 169 #[.slice (Ybl ⟨vb,0,Ybn⟩) 1 vc,.slice (Ybl ⟨g,(i+1)*6,Ybn⟩) lb cb]).run Tryz.prog w=.ok (.value (.bool Ybo)) w:=λlb cb=>by
     rw[run_callFunc_extern Tryz.func169 (by kernel_rfl) (by kernel_rfl) (by kernel_rfl) (e:=Extern.SlicesOverlaps.overlaps #[109,109] #[4]) (by kernel_rfl),
      Lib.run_overlaps_apart w 109 4 177 Tryz.underlying109 6 Tryz.sizeOf177 ⟨vb,0,Ybn⟩ ⟨g,(i+1)*6,Ybn⟩ 1 vc lb cb (λe=>Hz e.symm) 177 177 ws.length ys.length (hV.shape) (hR.shape) (by omega) (hV.frozen _) (hV.frozen _)]
     rfl
    obtain⟨w1,hC1,hG1,hR1⟩:=Nd (P:=Tryz.prog) (t:=109) (tS:=109) (w:=w.drew) Tryz.underlying109 F6 hR.drew (o:=(i+1)*6) (dLen:=n-i) (dCap:=cap-(i+1)) (sLen:=n+1-i) (sCap:=cap-i) (A:=⟨g,i*6,Ybn⟩) (us:=xs.drop (i*6))
     (by rw[Gf,B4,show Yby (n+1-i) (n-i)=n-i from Wb (by omega)]) R6 Pz (by rw[Gf,Cw];omega)
    have hV1:Raw w1 vb 177 ws:=hV.drew.other hG1 (λe=>Hz e.symm)
    have Pv:∀j u,us[j]?=Ybl u->w1.cell? ((⟨vb,0,Ybn⟩:Addr).add j)=Ybl u:=λj u hj=>by
     rw[Addr.add_lit,CQ];refine hV1.cell ?_;rw[<-AN]at hj
     have KJ:j<6:=by have:=(Do.1 hj).1;rw[CJ]at this;omega
     rwa [HA KJ]at hj
    have Ea:(ovr ys ((i+1)*6) (xs.drop (i*6))).length=ys.length:=IJ (by rw[Gf,Cw];omega)
    obtain⟨w2,hC2,hG2,hR2⟩:=Nd (P:=Tryz.prog) (t:=109) (tS:=109) Tryz.underlying109 F6 hR1 (o:=i*6) (dLen:=n+1-i) (dCap:=cap-i) (sLen:=1) (sCap:=vc) (A:=⟨vb,0,Ybn⟩) (us:=us)
     (by rw[DR,B4,show Yby 1 (n+1-i)=1 from ID (by omega)]) Pv Eu (by rw[Ea,DR,Cw];omega)
    refine(AoY w w1 w2 g n cap i vb vc _ _ Mz Cj C4 E3 hC1 hC2).mono ?_;rintro e w'' ⟨rfl,rfl⟩;refine⟨_,rfl,HM (HM Oq hG1 (.inr rfl)) hG2 (.inr rfl),.inl rfl,Ow hR2 ?_ ?_ Cj C4 Ht⟩
    ·rw[IJ (by rw[Ea,DR,Cw];omega),Ea,Cw]
    ·exact AbN Cw Ed Cp DR Mz Cj
   ·obtain⟨w1,w2,w3,c2,hA,hC1,hC2,BG,Mx,CG,ys3,hR3,wT,R7⟩:∃w1 w2 w3 c2,(∀ty,(Builtin.append_ #[109,3] ty #[.slice (Ybl ⟨g,0,Ybn⟩) i cap,.int .i64 ((n+1-i:Nat):Int)]).run Tryz.prog w=.ok (.slice (Ybl ⟨w.heap.size,0,Ybn⟩) (n+1) c2) w1)/\
      (∀ty,(Builtin.copy_ #[109,109] ty #[.slice (Ybl ⟨w.heap.size,i*6,Ybn⟩) (n+1-i) (c2-i),.slice (Ybl ⟨vb,0,Ybn⟩) 1 vc]).run Tryz.prog w1=.ok (goInt (Yby 1 (n+1-i))) w2)/\
      (∀ty,(Builtin.copy_ #[109,109] ty #[.slice (Ybl ⟨w.heap.size,(i+1)*6,Ybn⟩) (n-i) (c2-(i+1)),.slice (Ybl ⟨g,i*6,Ybn⟩) (n-i) (cap-i)]).run Tryz.prog w2.drew=.ok (goInt (Yby (n-i) (n-i))) w3)/\n+1<=c2/\c2<=maxLen/\w.grownBy w3 (Ybl g)/\
      ∃ys3,Raw w3 w.heap.size 177 ys3/\ys3.length=c2*6/\ys3.take ((n+1)*6)=xs.take (i*6)++us++xs.drop (i*6):=by
     have holds:(Builtin.firstCells i0.size i (.slice (Ybl ⟨g,0,Ybn⟩) i cap)).run Tryz.prog w.drew=.ok (xs.take (i*6)).toArray w.drew:=by rw[B4];refine run_firstCells_some w.drew 6 i ⟨g,0,Ybn⟩ i cap (xs.take (i*6)) (by rw[CJ,Cp];omega) λj u hj=>?_;have:=DN w hR 0 (i*6) (by omega) j u (by simpa using hj);exact this
     have hA:=λty=>run_append_grow_zeros (P:=Tryz.prog) w 109 3 ty 177 i0 _ .i64 .i64 Tryz.underlying109 Tryz.underlying3 F6 Gv (Ybl ⟨g,0,Ybn⟩) i cap (xs.take (i*6)) holds (n+1-i) (by omega) (by rw[B4];decide) (by omega) (by omega) (by rw[DX];omega)
      (by rw[DX];exact growslice_fits (by omega) (by omega))
     rw[show i+(n+1-i)=n+1 by omega]at hA;have BG:=grownCap_ge w (n+1) cap 177;have Mx:grownCap w (n+1) cap 177<=maxLen:=grownCap_le_maxLen w (n+1) cap 177 C5;generalize grownCap w (n+1) cap 177=c2 at hA BG Mx
     obtain⟨ys1,y8,Ea,JA⟩:∃ys1:Ybp Value,((xs.take (i*6)).toArray++Builtin.zeroCells (Value.agg #[Value.string {data:=#[]},Value.slice Ybn 0 0,Value.int IntKind.i64 0,Value.int IntKind.i64 0,Value.bool Ybo,Value.bool Ybo]).cells (n+1-i)++Builtin.zeroCells (Value.agg #[Value.string {data:=#[]},Value.slice Ybn 0 0,Value.int IntKind.i64 0,Value.int IntKind.i64 0,Value.bool Ybo,Value.bool Ybo]).cells (c2-(n+1)))=ys1.toArray/\ys1.length=c2*6/\ys1.take (i*6)=xs.take (i*6):=by
      refine⟨_,(Gi (xs:=_)).symm,?_,?_⟩
      ·rw[FV]
       simp only[dP,NU,size_zeroCells,CJ,Cp];show min (i*6) (n*6)+(n+1-i)*6+(c2-(n+1))*6=c2*6;omega
      ·simp only[dJ,C1]
       exact LL (by rw[CJ,Cp];omega)
     rw[y8]at hA;have hR1:Raw (w.drew.alloc (.cells ys1.toArray 177)) w.heap.size 177 ys1:=Raw.new w.drew 177 ys1;have hV1:Raw (w.drew.alloc (.cells ys1.toArray 177)) vb 177 ws:=hV.drew.alloc _;have hRg:Raw (w.drew.alloc (.cells ys1.toArray 177)) g 177 ys:=hR.drew.alloc _;have US:w.grownBy (w.drew.alloc (.cells ys1.toArray 177)) (Ybl g):=Xm Oq _;generalize w.drew.alloc (.cells ys1.toArray 177)=w1 at hA hR1 hV1 hRg US;have UQ:g<w.heap.size:=hR.lt;have AlU:vb<w.heap.size:=hV.lt
     have Pv:∀j u,us[j]?=Ybl u->w1.cell? ((⟨vb,0,Ybn⟩:Addr).add j)=Ybl u:=λj u hj=>by
      rw[Addr.add_lit,CQ];refine hV1.cell ?_;rw[<-AN]at hj
      have KJ:j<6:=by have:=(Do.1 hj).1;rw[CJ]at this;omega
      rwa [HA KJ]at hj
     obtain⟨w2,hC1,hG1,hR2⟩:=Nd (P:=Tryz.prog) (t:=109) (tS:=109) Tryz.underlying109 F6 hR1 (o:=i*6) (dLen:=n+1-i) (dCap:=c2-i) (sLen:=1) (sCap:=vc) (A:=⟨vb,0,Ybn⟩) (us:=us)
      (by rw[DR,B4,show Yby 1 (n+1-i)=1 from ID (by omega)]) Pv Eu (by rw[DR,Ea];omega)
     have hRg2:Raw w2 g 177 ys:=hRg.other hG1 (by omega);have Je:(ovr ys1 (i*6) us).length=c2*6:=by rw[IJ (by rw[DR,Ea];omega),Ea]
     obtain⟨w3,hC2,hG2,hR3⟩:=Nd (P:=Tryz.prog) (t:=109) (tS:=109) (w:=w2.drew) Tryz.underlying109 F6 hR2.drew (o:=(i+1)*6) (dLen:=n-i) (dCap:=c2-(i+1)) (sLen:=n-i) (sCap:=cap-i) (A:=⟨g,i*6,Ybn⟩) (us:=xs.drop (i*6))
      (by rw[Gf,B4,show Yby (n-i) (n-i)=n-i from Si _]) (hrtW w2.drew hRg2) Pz (by rw[Gf,Je];omega)
     refine⟨w1,w2,w3,c2,hA,hC1,hC2,BG,Mx,?_,_,hR3,?_,AbO Ea JA Cp DR Mz BG⟩
     ·exact HM (Lm (HM US hG1 (.inl (Aw _))) (show w2.grownBy w2.drew Ybn from Oq)) hG2 (.inl (Aw _))
     ·rw[IJ (by rw[Gf,Je];omega),Je]
    refine(AoZ w w1 w2 w3 g w.heap.size n cap c2 i vb vc _ _ Mz BO (by omega) C4 hn BG hA hC1 hC2).mono ?_;rintro e w'' ⟨rfl,rfl⟩
    exact⟨_,rfl,CG,.inr (λg2 h=>by have h:Ybl w.heap.size=Ybl g2:=h;injection h with h;omega),Ow hR3 wT R7 BG Mx (by omega)⟩
set_option maxHeartbeats 4000000 in
theorem Ap1(w:World)(cl:FuncId)(lb:Ybx Value):Calls Tryz.prog 155 #[.slice Ybn 0 0,.func (.func cl) #[] lb] w λe W=>e=.returned (.int .i64 (-1))/\W=w:=by
 have mixed:Tryz.prog.follows Departure.mixedOrders=Ybq:=by kernel_rfl
 go_enter Tryz.func155,Tryz.ntmps155
 go_wp2
 go_loopg [8] 1 (λgg s8 wr=>s8=.int .i64 0/\wr=w)
 case atStart=>exact⟨rfl,rfl⟩
 case round=>
  obtain⟨rfl,rfl⟩:=hrel
  go_wp2
  go_ret
  exact⟨rfl,rfl⟩
set_option maxHeartbeats 4000000 in
theorem Ap2(w:World)(cl:FuncId)(lb:Ybx Value):Calls Tryz.prog 175 #[.slice Ybn 0 0,.func (.func cl) #[] lb] w λe W=>e=.returned (.slice Ybn 0 0)/\W=w:=by
 have mixed:Tryz.prog.follows Departure.mixedOrders=Ybq:=by kernel_rfl
 have e155:∀args w,(callFunc 155 args).run Tryz.prog w=.ok (.enter 155 args) w:=Go.Proofs.enters_of Tryz.func155 (by kernel_rfl) rfl;have hI2:=Ap1 w cl lb
 go_enter Tryz.func175,Tryz.ntmps175
 go_wp2_with (go_at_fn 155;refine hI2.mono ?_;rintro e w1 ⟨rfl,rfl⟩)
 go_ret
 exact⟨rfl,rfl⟩
theorem Ap3(w:World)(base n:Nat)(sv:Value)(xs:Ybp Value)(Ah:w.ownsRow base 177 6 sv n xs)(D1:∀v∈xs,v.oneCell'=Ybq)(cl:FuncId)(lb:Ybx Value)(eg:∀args w,(callFunc cl args).run Tryz.prog w=.ok (.enter cl args) w)(pr:Nat->Bool)(DF:∀W,w.grownBy W sv.ownBlock->∀j,j<n->Calls Tryz.prog cl (#[.agg (chk xs 6 j).toArray]++lb) W λe W'=>e=.returned (.bool (pr j))/\W.grownBy W' Ybn):Calls Tryz.prog 175 #[sv,.func (.func cl) #[] lb] w λe w'=>∃As,e=.returned As/\w.grownBy w' sv.ownBlock/\As.ownBlock=sv.ownBlock/\w'.ownsRow base 177 6 As (D3 pr n).length ((D3 pr n).flatMap (chk xs 6)):=by
 rcases Ng Ah with⟨rfl,rfl,rfl⟩|⟨g,cap,ys,rfl,hR,Cw,Ed,BO,C4,Ht⟩
 ·refine(Ap2 w cl lb).mono ?_
  rintro e w' ⟨rfl,rfl⟩;exact⟨_,rfl,Mc,rfl,World.ownsRow_nil _ _ _ _⟩
 ·have Hf:∀v∈(ys.take (n*6)),v.oneCell'=Ybq:=by rw[Ed];exact D1
  refine(AoV w g n cap ys Cw BO C4 hR Hf cl lb eg pr λW hW j hj=>?_).mono ?_
  ·rw[SX Ed hj]
   exact DF W hW j hj
  ·rintro e w' ⟨rfl,hg,zs,hz,Kl,y9⟩
   refine⟨_,rfl,hg,rfl,Ow hz Kl ?_ (BH (AbQ pr n) BO) C4 Ht⟩;rw[y9,AbP Ed]
set_option maxHeartbeats 4000000 in
theorem Ap4(w w1 w2:World)(g n cap i j:Nat)(hi:i<j)(hj:j<=n)(hnc:n<=cap)(hc:cap<=9223372036854775807)(hA:∀ty,(Builtin.append_ #[109,109] ty #[.slice (Ybl ⟨g,0,Ybn⟩) i cap,.slice (if cap=j then Ybl ⟨g,0,Ybn⟩else Ybl ⟨g,j*6,Ybn⟩) (n-j) (cap-j)]).run Tryz.prog w.drew=.ok (.slice (Ybl ⟨g,0,Ybn⟩) (i+(n-j)) cap) w1)(hC:∀ty,(Builtin.clear_ #[109] ty #[.slice (Ybl ⟨g,(i+(n-j))*6,Ybn⟩) (n-(i+(n-j))) (cap-(i+(n-j)))]).run Tryz.prog w1=.ok (.tuple #[]) w2):Calls Tryz.prog 168 #[.slice (Ybl ⟨g,0,Ybn⟩) n cap,.int .i64 i,.int .i64 j] w λe w'=>e=.returned (.slice (Ybl ⟨g,0,Ybn⟩) (i+(n-j)) cap)/\w'=w2:=by
 have mixed:Tryz.prog.follows Departure.mixedOrders=Ybq:=by kernel_rfl
 have hne:¬((i:Int)=(j:Int)):=by omega
 have hic:i<=cap:=by omega
 have hjc:j<=cap:=by omega
 have hb1:¬(cap=i+(n-j)):=by omega
 go_enter Tryz.func168,Tryz.ntmps168
 go_wp2_with fail
 go_region_law_o (refine SV rfl (v:=.slice (Ybl ⟨g,0,Ybn⟩) (i+(n-j)) cap) (w':=w1) (by simp[execOp,resolve,invoke,builtin,Act.eval,Act.put,hA]) ?_)
 go_wp2_with (at_builtin;refine HK rfl (v:=.tuple #[]) (w':=w2) (by simp[execOp,resolve,invoke,builtin,Act.eval,Act.put,hC]) ?_)
 all_goals(go_ret;exact⟨rfl,rfl⟩)
theorem Ap5(w:World)(base n i:Nat)(sv:Value)(xs:Ybp Value)(Ah:w.ownsRow base 177 6 sv n xs)(D1:∀v∈xs,v.oneCell'=Ybq)(hi:i<n):Calls Tryz.prog 168 #[sv,.int .i64 (i:Int),.int .i64 ((i:Int)+1)] w λe w'=>∃As,e=.returned As/\w.grownBy w' sv.ownBlock/\As.ownBlock=sv.ownBlock/\w'.ownsRow base 177 6 As (n-1) (xs.take (i*6)++xs.drop ((i+1)*6)):=by
 obtain⟨i0,F6,Gv,B4,DX⟩:=Ac1;rcases Ng Ah with⟨rfl,rfl,_⟩|⟨g,cap,ys,rfl,hR,Cw,Ed,BO,C4,Ht⟩
 ·omega
 ·have Cp:xs.length=n*6:=Ah.1
  have Gf:(xs.drop ((i+1)*6)).length=(n-(i+1))*6:=by rw[GN,Cp];omega
  have Pz:∀v∈xs.drop ((i+1)*6),v.oneCell'=Ybq:=λv hv=>D1 v (VW hv)
  obtain⟨A,hA,hAr⟩:∃A:Addr,(if cap=i+1 then Ybl (⟨g,0,Ybn⟩:Addr)else Ybl ⟨g,(i+1)*6,Ybn⟩)=Ybl A/\∀j u,(xs.drop ((i+1)*6))[j]?=Ybl u->w.drew.cell? (A.add j)=Ybl u:=by
   by_cases h:cap=i+1
   ·refine⟨⟨g,0,Ybn⟩,by simp[h],λj u hj=>?_⟩
    have h0:xs.drop ((i+1)*6)=[]:=FT (by rw[Gf,show n-(i+1)=0 by omega,Sg]);rw[h0]at hj;simp at hj
   ·refine⟨⟨g,(i+1)*6,Ybn⟩,by simp[h],λj u hj=>?_⟩
    rw[Addr.add_lit];refine hR.drew.cell ?_;have N7:=(Do.1 hj).1;rw[Gf]at N7;rw[KZ,<-Ed,HA (by omega)]at hj;exact hj
  obtain⟨w1,hA1,hG1,hR1⟩:=Aog (P:=Tryz.prog) (t:=109) Tryz.underlying109 F6 hR.drew (n:=i) (cap:=cap) (m:=n-(i+1)) (c:=cap-(i+1)) (A:=A) (us:=xs.drop ((i+1)*6)) (by rw[Gf,B4]) hAr Pz (by omega) (by rw[B4,Gf,Cw];omega);rw[B4]at hR1;have Ea:(ovr ys (i*6) (xs.drop ((i+1)*6))).length=cap*6:=by rw[IJ (by rw[Gf,Cw];omega),Cw]
  obtain⟨w2,hC,hG2,hR2⟩:=iH (P:=Tryz.prog) (t:=109) Tryz.underlying109 Tryz.zeroValue177 (by decide) (by decide) hR1 (o:=(n-1)*6) (n:=n-(n-1)) (c:=cap-(n-1)) (by rw[Ea];show(n-1)*6+(n-(n-1))*6<=cap*6;omega);have hq:i+(n-(i+1))=n-1:=by omega
  have hw:=Ap4 w w1 w2 g n cap i (i+1) (by omega) hi BO C4 (by rw[hA];exact hA1) (by rw[hq];exact hC);rw[hq]at hw;have ADf:(((i+1:Nat):Int))=(i:Int)+1:=by omega
  rw[ADf]at hw;refine hw.mono ?_;rintro e w' ⟨rfl,rfl⟩;refine⟨_,rfl,HM (HM Oq hG1 (.inr rfl)) hG2 (.inr rfl),rfl,Ow hR2 ?_ ?_ (by omega) C4 Ht⟩
  ·rw[IJ,Ea]
   rw[Ea,Xk];show(n-1)*6+(n-(n-1))*6<=cap*6;omega
  ·have h1:n-(n-1)=1:=by omega
   rw[h1];exact AoE Cw Ed Cp hi BO rfl
set_option maxHeartbeats 4000000 in
theorem Ap6(W:World)(g1 g2:Nat)(rs us:Ybp Value)(now:Int)(b:Bool)(hl:us.length=5)(hrl:rs.length=3)(hr1:∀j u,rs[j]?=Ybl u->W.cell? ((⟨g1,0,Ybn⟩:Addr).add j)=Ybl u)(hn:W.cell? ⟨g2,0,Ybn⟩=Ybl (.int .i64 now))(hcall:∀W',W.grownBy W' Ybn->Calls Tryz.prog 67 #[.agg rs.toArray,.agg us.toArray,.int .i64 now] W' λe W''=>e=.returned (.bool b)/\W'.grownBy W'' Ybn):Calls Tryz.prog 94 #[.agg us.toArray,.pointer (Ybl ⟨g1,0,Ybn⟩),.pointer (Ybl ⟨g2,0,Ybn⟩)] W λe W'=>e=.returned (.bool b)/\W.grownBy W' Ybn:=by
 have mixed:Tryz.prog.follows Departure.mixedOrders=Ybq:=by kernel_rfl
 obtain⟨W1,hW1⟩:∃W1,W.alloc (.cells us.toArray 111)=W1:=⟨_,rfl⟩
 have hG:W.grownBy W1 Ybn:=by
  rw[<-hW1]
  exact⟨rfl,rfl,rfl,by show W.heap.size<=(W.heap.push _).size;simp,λk hk _=>by show(W.heap.push _)[k]?=_;simp[VX,Yb7 hk]⟩
 have hR:Raw W1 W.heap.size 111 us:=by rw[<-hW1];exact Raw.new _ _ _
 have hcs:∀j u,us[j]?=Ybl u->W1.cell? ((⟨W.heap.size,0,Ybn⟩:Addr).add j)=Ybl u:=λj u hj=>by rw[Addr.add_lit,CQ];exact hR.cell hj
 have hcr:∀j u,rs[j]?=Ybl u->W1.cell? ((⟨g1,0,Ybn⟩:Addr).add j)=Ybl u:=λj u hj=>hG.cell (hr1 j u hj) (by simp);have hn1:W1.cell? ⟨g2,0,Ybn⟩=Ybl (.int .i64 now):=hG.cell hn (by simp);have hc:=hcall W1 hG;have e67:∀args w,(callFunc 67 args).run Tryz.prog w=.ok (.enter 67 args) w:=Go.Proofs.enters_of Tryz.func67 (by kernel_rfl) rfl;generalize hgv:W.heap.size=gv at hR hcs
 go_enter Tryz.func94,Tryz.ntmps94
 go_wp2_with (first
  |(refine AbR rfl 111 _ rfl us (by simp[Act.eval,Act.put]) hW1 ?_;rw[hgv])
  |(refine HL rfl 111 _ rfl ⟨gv,0,Ybn⟩ (by simp[Act.eval,Act.put]) us 5 hl Tryz.isAgg111 Tryz.sizeOf111 hcs ?_)
  |(refine HL rfl 31 _ rfl ⟨g1,0,Ybn⟩ (by simp[Act.eval,Act.put]) rs 3 hrl Tryz.isAgg31 Tryz.sizeOf31 hcr ?_)
  |(go_at_fn 67;refine hc.mono ?_;rintro e w' ⟨rfl,G'⟩))
 go_ret
 exact⟨rfl,Qy hG G'⟩
set_option maxHeartbeats 4000000 in
theorem Ap7(W:World)(g1:Nat)(sv:Value)(s:ByteArray)(us:Ybp Value)(b:Bool)(hl:us.length=6)(hs:us[0]?=Ybl (.string s))(hn:W.cell? ⟨g1,5,Ybn⟩=Ybl sv)(hcall:∀W',W.grownBy W' Ybn->Calls Tryz.prog 164 #[sv,.string s] W' λe W''=>e=.returned (.bool b)/\W'.grownBy W'' Ybn):Calls Tryz.prog 176 #[.agg us.toArray,.pointer (Ybl ⟨g1,0,Ybn⟩)] W λe W'=>e=.returned (.bool b)/\W.grownBy W' Ybn:=by
 have mixed:Tryz.prog.follows Departure.mixedOrders=Ybq:=by kernel_rfl
 obtain⟨W1,hW1⟩:∃W1,W.alloc (.cells us.toArray 177)=W1:=⟨_,rfl⟩
 have hG:W.grownBy W1 Ybn:=by
  rw[<-hW1]
  exact⟨rfl,rfl,rfl,by show W.heap.size<=(W.heap.push _).size;simp,λk hk _=>by show(W.heap.push _)[k]?=_;simp[VX,Yb7 hk]⟩
 have hR:Raw W1 W.heap.size 177 us:=by rw[<-hW1];exact Raw.new _ _ _
 have hcs:W1.cell? ⟨W.heap.size,0,Ybn⟩=Ybl (.string s):=hR.cell hs;have hn1:W1.cell? ⟨g1,5,Ybn⟩=Ybl sv:=hG.cell hn (by simp);have hc:=hcall W1 hG;have e164:∀args w,(callFunc 164 args).run Tryz.prog w=.ok (.enter 164 args) w:=Go.Proofs.enters_of Tryz.func164 (by kernel_rfl) rfl;generalize hgv:W.heap.size=gv at hR hcs
 go_enter Tryz.func176,Tryz.ntmps176
 go_wp2_with (first
  |(refine AbR rfl 177 _ rfl us (by simp[Act.eval,Act.put]) hW1 ?_;rw[hgv])
  |(go_at_fn 164;refine hc.mono ?_;rintro e w' ⟨rfl,G'⟩))
 go_ret
 exact⟨rfl,Qy hG G'⟩
end Go.Lift
