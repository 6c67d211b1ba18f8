/- Part3 -/
import Derived.Deep.CutRange
import Derived.Shelf.SlSortCmp.NoneTotal
import Derived.Test.YthjiepigkfklkaaGreatDoorProg
import Derived.Test.YthjiepigkfklkaaGreatDoorPart2
set_option linter.unusedVariables false
set_option linter.unusedSectionVars false
set_option linter.unusedSimpArgs false
open _root_ renaming if_neg → Ybm, if_pos → Ybo, Array → Ybq, Inhabited → Ybz, absurd → Yb0
open Decidable renaming decide → Ybr
open Option renaming some → Ybs, none → Ybu
open Bool renaming true → Ybv, false → Ybx
open Int renaming not_lt → Yb2
namespace Go.Lift
open Go.Proofs Go.Shelf Go.RowKit Go.Lib Go.Sort
variable{α:Type}[Ybz α]
set_option maxHeartbeats 8000000 in
set_option maxRecDepth 1000000 in
theorem Ath(enc:α->List Value)(k:Nat)(hk:k=2)(key:α->Int)(cf:α->α->Int)(hcf:∀x y,cf x y<0↔key x<key y)(g:Nat)(cb:Ybq Value)(eg:∀args w,(callFunc g args).run Tryz.prog w=.ok (.enter g args) w)(blk off cap N:Nat)(d0:Ybq α)(w0:World)(R:RowK enc k w0 blk off d0)(hC:CmpLays Tryz.prog g cb enc k cf blk off N w0)(hN0:d0.size=N)(hsz:N<4611686018427387904)(a m b:Nat)(ham:a+1<m)(hmb:m+1<b)(hb:b<=N)(ih:∀a' m' b',a'<m'->m'<b'->b'<=N->b'-a'<b-a->Rl enc k w0 blk off cap N key g cb a' m' b')(hcase:¬(a+b) / 2<m):Rl enc k w0 blk off cap N key g cb a m b:=by
 intro d w za zm zb ea em eb hN S hx hy;subst ea em eb;have mixed:Tryz.prog.follows .mixedOrders=Ybv:=by kernel_rfl
 have aE:∀w,(isAgg 260).run Tryz.prog w=.ok Ybv w:=Tryz.isAgg260;have zE:∀w,(Go.sizeOf 260).run Tryz.prog w=.ok k w:=by rw[hk];exact Tryz.sizeOf260
 have HK2:Aside (k=2):=hk;clear hk;have S0:Aside (SWK enc k w0 blk off d w):=S;have HC:Aside _:=hC;have HF:Aside _:=hcf;have HX:Aside (∀p q,a<=p->p<=q->q<m->key d[p]!≤key d[q]!):=Pk hx;have HY:Aside (∀p q,m<=p->p<=q->q<b->key d[p]!≤key d[q]!):=Pk hy;have HXS:Aside (SortK key (sgL (λq=>d[q]!) a m)):=hx;have HYS:Aside (SortK key (sgL (λq=>d[q]!) m b)):=hy;have IH:Aside _:=ih;clear S hC hcf hx hy ih;obtain⟨M,hM⟩:∃M,(a+b) / 2=M:=⟨_,rfl⟩;have hMz:((a:Int)+(b:Int)) / 2=(M:Int):=by omega
 obtain⟨lo,hi,hlo,hhi,hb0⟩:∃lo hi:Nat,(M<m->(lo:Int)=(M:Int)+(m:Int)-(b:Int)/\hi=M)/\(¬M<m->lo=a/\hi=m)/\(a<=lo/\lo<=hi/\hi<=M/\hi<=m/\(M<m->hi=M/\lo+b=M+m)/\(¬M<m->lo=a/\hi=m)):=by
  by_cases h:M<m
  ·exact⟨M+m-b,M,λ_=>⟨by omega,rfl⟩,λg=>Yb0 h g,by omega,by omega,by omega,by omega,λ_=>⟨rfl,by omega⟩,λg=>Yb0 h g⟩
  ·exact⟨a,m,λg=>Yb0 g h,λ_=>⟨rfl,rfl⟩,Av _,by omega,by omega,by omega,λg=>Yb0 g h,λ_=>⟨rfl,rfl⟩⟩
 obtain⟨hb1,hb2,hb3,hb4,hb5,hb6⟩:=hb0;have hloN:(lo:Int)<4611686018427387904:=by omega
 obtain⟨P,hP⟩:∃P:Nat,P+1=M+m:=⟨M+m-1,by omega⟩;have hPz:(M:Int)+(m:Int)-1=(P:Int):=by omega
 have I0:Aside ((∀c,lo<=c->c<lo->key d[c]!≤key d[P-c]!)/\(∀c,hi<=c->c<hi->key d[P-c]!<key d[c]!)):=(⟨λc h1 h2=>by omega,λc h1 h2=>by omega⟩:(∀c,lo<=c->c<lo->key d[c]!≤key d[P-c]!)/\(∀c,hi<=c->c<hi->key d[P-c]!<key d[c]!))
 go_enter Tryz.func286,Tryz.ntmps286
 have tS:=Tryz.underlying256;have aS:=Tryz.isAgg256;have zS:=Tryz.sizeOf256;have vS:=Tryz.zeroValue256;have uS:=run_underlying Tryz.underlying256;generalize(260:Nat)=T at aE zE tS aS zS vS uS⊢;generalize(256:Nat)=U at tS aS zS vS uS⊢;have h1z:¬((m:Int)-(a:Int)=1):=by omega
 have h1b:(((m:Int)-(a:Int))==1)=Ybx:=by rw[TM];exact h1z
 have h2z:¬((b:Int)-(m:Int)=1):=by omega
 have h2b:(((b:Int)-(m:Int))==1)=Ybx:=by rw[TM];exact h2z
 by_cases hMm:M<m
 ·exact Yb0 hcase (by omega)
 ·have hMmz:¬((M:Int)<(m:Int)):=by omega
  have hMmd:Ybr ((M:Int)<(m:Int))=Ybx:=Ar hMmz;obtain⟨hla,hhm⟩:=hhi hMm;clear hlo hhi hb5 hb6;have hla:=hla.symm;have hhm:=hhm.symm;subst hla hhm
  go_wp2
  go_loopg [20,21] (m-a) (λkx s10 s11 wr=>∃(i j:Nat),s10=.int .i64 i/\s11=.int .i64 j/\a<=i/\i<=j/\j<=m/\j-i<=kx/\Aside (SWK enc k w0 blk off d wr)/\Aside ((∀c,a<=c->c<i->key d[c]!≤key d[P-c]!)/\(∀c,j<=c->c<m->key d[P-c]!<key d[c]!)))
  case atStart=>exact⟨a,m,by first|rfl|(congr 1;omega),by first|rfl|(congr 1;omega),Av _,by omega,Av _,Av _,S0,I0⟩
  case round=>
   clear S0 I0;obtain⟨i,j,rfl,rfl,hai,hij,hjb,hkx,S1,I⟩:=hrel;by_cases hlt:i<j
   ·have hltz:(i:Int)<(j:Int):=by omega
    have hh:i<=(i+j) / 2/\(i+j) / 2<j:=by omega
    have hz:((i:Int)+(j:Int)) / 2=(((i+j) / 2:Nat):Int):=by omega
    generalize hH:(i+j) / 2=H at hh hz;obtain⟨Q,hQ⟩:∃Q:Nat,Q+H=P:=⟨P-H,by omega⟩;have hQz:(P:Int)-(H:Int)=(Q:Int):=by omega
    have hQP:P-H=Q:=by omega
    have ea24:((Q:Int)).toNat=Q:=by omega
    have pa24:(0:Int)<=(Q:Int):=by omega
    have ba24:(Q:Int)<(N:Int):=by omega
    have ra24:IntKind.i64.wrap ((Q:Int))=(Q:Int):=by rw[IntKind.wrap_i64];omega
    have ec24:((H:Int)).toNat=H:=by omega
    have pc24:(0:Int)<=(H:Int):=by omega
    have bc24:(H:Int)<(N:Int):=by omega
    have rc24:IntKind.i64.wrap ((H:Int))=(H:Int):=by rw[IntKind.wrap_i64];omega
    obtain⟨x24,hx24⟩:∃x,x=d[Q]!:=⟨_,rfl⟩;obtain⟨y24,hy24⟩:∃x,x=d[H]!:=⟨_,rfl⟩;have l24a:=S1.out.ld R (by omega) Tryz.prog Q (by omega);have l24b:=S1.out.ld R (by omega) Tryz.prog H (by omega);rw[<-hx24]at l24a;rw[<-hy24]at l24b;have hc24:=S1.out.cmp HC.out hN x24 y24;by_cases hv24:cf x24 y24<0
    ·have hd24:Ybr (cf x24 y24<0)=Ybv:=Ao hv24
     have hkey:Aside (key d[Q]!<key d[H]!):=by show _<_;rw[<-hx24,<-hy24];exact(HF.out _ _).1 hv24
     clear hx24 hy24
     go_wp2_with fail
     go_quiet_grown (first|(go_at_fn g;refine Calls.grown_of (hc24 _ _)))
     have S2:Aside (SWK enc k w0 blk off d (grow (wr.drewN nq) osq)):=S1.out.grown nq osq;clear l24a l24b hc24 S1;generalize grow (wr.drewN nq) osq=w2 at S2⊢;clear nq osq
     go_wp2
     go_roundg (H-i)
     case measure=>omega
     case rel=>exact⟨i,H,rfl,by first|rfl|(congr 1;omega),hai,by omega,by omega,Av _,S2,(⟨I.out.1,λc h1 h2=>pD (HY.out (P-c) Q (by omega) (by omega) (by omega)) (pE hkey.out (HX.out H c (by omega) h1 (by omega)))⟩:(∀c,a<=c->c<i->key d[c]!≤key d[P-c]!)/\(∀c,H<=c->c<m->key d[P-c]!<key d[c]!))⟩
    ·have hd24:Ybr (cf x24 y24<0)=Ybx:=Ar hv24
     have hkey:Aside (key d[H]!≤key d[Q]!):=by show _<=_;rw[<-hx24,<-hy24];exact Yb2.1 λh=>hv24 ((HF.out _ _).2 h)
     clear hx24 hy24
     go_wp2_with fail
     go_quiet_grown (first|(go_at_fn g;refine Calls.grown_of (hc24 _ _)))
     have S2:Aside (SWK enc k w0 blk off d (grow (wr.drewN nq) osq)):=S1.out.grown nq osq;clear l24a l24b hc24 S1;generalize grow (wr.drewN nq) osq=w2 at S2⊢;clear nq osq
     go_wp2
     go_roundg (j-(H+1))
     case measure=>omega
     case rel=>exact⟨H+1,j,by first|rfl|(congr 1;omega),rfl,by omega,by omega,hjb,Av _,S2,(⟨λc h1 h2=>Ri (HX.out c H (by omega) (by omega) (by omega)) (Ri hkey.out (HY.out Q (P-c) (by omega) (by omega) (by omega))),I.out.2⟩:(∀c,a<=c->c<H+1->key d[c]!≤key d[P-c]!)/\(∀c,j<=c->c<m->key d[P-c]!<key d[c]!))⟩
   ·have hij2:i=j:=by omega
    subst hij2;have hltz:¬((i:Int)<(i:Int)):=by omega
    obtain⟨E,hE⟩:∃E:Nat,E+i=M+m:=⟨M+m-i,by omega⟩;have hEb:m<=E/\E<=b:=by omega
    have hmid:M=i+(E-m):=by omega
    have hLow:∀p q,a<=p->p<i->E<=q->q<b->key d[p]!≤key d[q]!:=λp q h1 h2 h3 h4=>by have g1:=HX.out p (i-1) h1 (by omega) (by omega);have g2:=I.out.1 (i-1) (by omega) (by omega);rw[show P-(i-1)=E by omega]at g2;have g3:=HY.out E q (by omega) h3 h4;omega
    have hHigh:∀p q,m<=p->p<E->i<=q->q<m->key d[p]!<key d[q]!:=λp q h1 h2 h3 h4=>by have g1:=HY.out p (E-1) h1 (by omega) (by omega);have g2:=I.out.2 i (Av _) (by omega);rw[show P-i=E-1 by omega]at g2;have g3:=HX.out i q (by omega) h3 h4;omega
    have fin:∀(d1 d2 d3:Ybq α),RotF d d1 i m E M->MergedF key (λq=>d1[q]!) (λq=>d2[q]!) a i M->MergedF key (λq=>d2[q]!) (λq=>d3[q]!) M E b->MergedF key (λq=>d[q]!) (λq=>d3[q]!) a m b:=λd1 d2 d3 r1 r2 r3=>
     AeQ (by omega) (by omega) hEb.1 hEb.2 hmid HXS.out HYS.out hLow hHigh r1 r2 r3
    have so1:∀d1:Ybq α,RotF d d1 i m E M->SortK key (sgL (λq=>d1[q]!) a i)/\SortK key (sgL (λq=>d1[q]!) i M):=λd1 r=>⟨KR λp q h1 h2 h3=>by
     show key d1[p]!≤key d1[q]!;rw[r p,r q,Ybm (by omega),Ybm (by omega),Ybm (by omega),Ybm (by omega)];exact HX.out p q h1 h2 (by omega),KR λp q h1 h2 h3=>by
     show key d1[p]!≤key d1[q]!;rw[r p,r q,Ybo (by omega),Ybo (by omega)];exact HY.out _ _ (by omega) (by omega) (by omega)⟩
    have so2:∀d1 d2:Ybq α,RotF d d1 i m E M->(∀q,M<=q->d2[q]! =d1[q]!)->SortK key (sgL (λq=>d2[q]!) M E)/\SortK key (sgL (λq=>d2[q]!) E b):=λd1 d2 r o=>⟨KR λp q h1 h2 h3=>by
     show key d2[p]!≤key d2[q]!;rw[o p h1,o q (by omega),r p,r q,Ybm (by omega),Ybo (by omega),Ybm (by omega),Ybo (by omega)];exact HX.out _ _ (by omega) (by omega) (by omega),KR λp q h1 h2 h3=>by
     show key d2[p]!≤key d2[q]!;rw[o p (by omega),o q (by omega),r p,r q,Ybm (by omega),Ybm (by omega),Ybm (by omega),Ybm (by omega)];exact HY.out _ _ (by omega) (by omega) (by omega)⟩
    have FIN:Aside _:=fin;have SO1:Aside _:=so1;have SO2:Aside _:=so2;clear fin so1 so2 hLow hHigh;have HMID:Aside _:=hmid;clear hmid;have hEz:(M:Int)+(m:Int)-(i:Int)=(E:Int):=by omega
    obtain⟨B1,HB1⟩:∃B:Bool,Aside (B=Ybr (i<m/\m<E)):=⟨_,rfl⟩;obtain⟨B2,HB2⟩:∃B:Bool,Aside (B=Ybr (a<i/\i<M)):=⟨_,rfl⟩;obtain⟨B3,HB3⟩:∃B:Bool,Aside (B=Ybr (M<E/\E<b)):=⟨_,rfl⟩
    go_upto_region 39 with fail
    go_cut [185]from 178 to 185 (λs wx=>s=.bool B1/\wr=wx)
    case first=>
     by_cases h1:(i:Int)<(m:Int)
     ·have h1d:Ybr ((i:Int)<(m:Int))=Ybv:=Ao h1
      by_cases h2:(m:Int)<(E:Int)
      ·have h2d:Ybr ((m:Int)<(E:Int))=Ybv:=Ao h2
       have hb:B1=Ybv:=by rw[HB1.out];exact Ao (by omega)
       clear HB1;subst hb
       go_wp2_with fail
       go_meet
       exact⟨rfl,rfl⟩
      ·have h2d:Ybr ((m:Int)<(E:Int))=Ybx:=Ar h2
       have hb:B1=Ybx:=by rw[HB1.out];exact Ar (by omega)
       clear HB1;subst hb
       go_wp2_with fail
       go_meet
       exact⟨rfl,rfl⟩
     ·have h1d:Ybr ((i:Int)<(m:Int))=Ybx:=Ar h1
      have hb:B1=Ybx:=by rw[HB1.out];exact Ar (by omega)
      clear HB1;subst hb
      go_wp2_with fail
      go_meet
      exact⟨rfl,rfl⟩
    case rest=>
    obtain⟨rfl,rfl⟩:=hcut
    go_upto_if 185 with fail
    go_cut []from 178 to 191 (λwx=>∃d1:Ybq α,Aside (SWK enc k w0 blk off d1 wx)/\Aside (d1.size=N)/\Aside (RotF d d1 i m E M))
    case first=>
     cases B1 with
     |false=>
      have h1:¬(i<m/\m<E):=L8 HB1.out.symm
      go_wp2_with fail
      go_meet
      exact⟨d,S1,hN,AeT (by omega) hEb.1 h1 HMID.out⟩
     |true=>
      have h1:i<m/\m<E:=Bd HB1.out.symm;obtain⟨sz1,R1⟩:=AeS (d:=d) h1.1 h1.2 (by omega) HMID.out;have R1:Aside _:=R1;have sz1:Aside _:=sz1.trans hN
      go_wp2_with (go_at_call 298;refine(AeR enc k HK2.out g cb blk off cap N i m E _ _ _ d0 d w0 _ rfl rfl rfl hN R (by omega) S1.out h1.1 h1.2 (by omega) (by omega)).mono ?_;rintro e w2 ⟨rfl,s2⟩;have S2:Aside _:=s2;clear s2)
      go_meet
      exact⟨_,S2,sz1,R1⟩
    case rest=>
    obtain⟨d1,S2,Z1,R1⟩:=hcut;clear S1 HB1;generalize wc=w2 at S2⊢;clear wc
    go_upto_region 41 with fail
    go_cut [199]from 192 to 199 (λs wx=>s=.bool B2/\w2=wx)
    case first=>
     by_cases h1:(a:Int)<(i:Int)
     ·have h1d:Ybr ((a:Int)<(i:Int))=Ybv:=Ao h1
      by_cases h2:(i:Int)<(M:Int)
      ·have h2d:Ybr ((i:Int)<(M:Int))=Ybv:=Ao h2
       have hb:B2=Ybv:=by rw[HB2.out];exact Ao (by omega)
       clear HB2;subst hb
       go_wp2_with fail
       go_meet
       exact⟨rfl,rfl⟩
      ·have h2d:Ybr ((i:Int)<(M:Int))=Ybx:=Ar h2
       have hb:B2=Ybx:=by rw[HB2.out];exact Ar (by omega)
       clear HB2;subst hb
       go_wp2_with fail
       go_meet
       exact⟨rfl,rfl⟩
     ·have h1d:Ybr ((a:Int)<(i:Int))=Ybx:=Ar h1
      have hb:B2=Ybx:=by rw[HB2.out];exact Ar (by omega)
      clear HB2;subst hb
      go_wp2_with fail
      go_meet
      exact⟨rfl,rfl⟩
    case rest=>
    obtain⟨rfl,rfl⟩:=hcut
    go_upto_if 199 with fail
    go_cut []from 192 to 205 (λwx=>∃d2:Ybq α,Aside (SWK enc k w0 blk off d2 wx)/\Aside (d2.size=N)/\Aside (MergedF key (λq=>d1[q]!) (λq=>d2[q]!) a i M))
    case first=>
     cases B2 with
     |false=>
      have h1:¬(a<i/\i<M):=L8 HB2.out.symm
      have HM:Aside (MergedF key (λq=>d1[q]!) (λq=>d1[q]!) a i M):=by
       show MergedF _ _ _ _ _ _;have so:=SO1.out _ R1.out;have h0:=HMID.out;by_cases ha:a<i
       ·have h:i=M:=by omega
        have g:=so.1;rw[h]at g⊢;exact aO g
       ·have h:i=a:=by omega
        have g:=so.2;rw[h]at g⊢;exact aN g
      go_wp2_with fail
      go_meet
      exact⟨d1,S2,Z1,HM⟩
     |true=>
      have h1:a<i/\i<M:=Bd HB2.out.symm;have hc1:∀w,SWK enc k w0 blk off d1 w->Calls Tryz.prog 286 #[.slice (Ybs ⟨blk,off,Ybu⟩) N cap,.int .i64 (a:Int),.int .i64 (i:Int),.int .i64 (M:Int),.func (.func g) #[] cb] w (Pm enc k w0 blk off N key d1 a i M):=λw s=>IH.out a i M h1.1 h1.2 (by omega) (by omega) d1 w _ _ _ rfl rfl rfl Z1.out s (SO1.out _ R1.out).1 (SO1.out _ R1.out).2
      go_wp2_with (go_at_call 286;(with_reducible refine(hc1 _ S2.out).mono ?_);rintro e w3 ⟨rfl,d2,sz2,s3,m2⟩;have S3:Aside _:=s3;have M1:Aside _:=m2;have Z2:Aside _:=sz2;clear s3 m2 sz2)
      go_meet
      exact⟨d2,S3,Z2,M1⟩
    case rest=>
    obtain⟨d2,S3,Z2,M1⟩:=hcut;clear S2 HB2;generalize wc=w3 at S3⊢;clear wc
    go_upto_region 43 with fail
    go_cut [213]from 206 to 213 (λs wx=>s=.bool B3/\w3=wx)
    case first=>
     by_cases h1:(M:Int)<(E:Int)
     ·have h1d:Ybr ((M:Int)<(E:Int))=Ybv:=Ao h1
      by_cases h2:(E:Int)<(b:Int)
      ·have h2d:Ybr ((E:Int)<(b:Int))=Ybv:=Ao h2
       have hb:B3=Ybv:=by rw[HB3.out];exact Ao (by omega)
       clear HB3;subst hb
       go_wp2_with fail
       go_meet
       exact⟨rfl,rfl⟩
      ·have h2d:Ybr ((E:Int)<(b:Int))=Ybx:=Ar h2
       have hb:B3=Ybx:=by rw[HB3.out];exact Ar (by omega)
       clear HB3;subst hb
       go_wp2_with fail
       go_meet
       exact⟨rfl,rfl⟩
     ·have h1d:Ybr ((M:Int)<(E:Int))=Ybx:=Ar h1
      have hb:B3=Ybx:=by rw[HB3.out];exact Ar (by omega)
      clear HB3;subst hb
      go_wp2_with fail
      go_meet
      exact⟨rfl,rfl⟩
    case rest=>
    obtain⟨rfl,rfl⟩:=hcut
    go_upto_if 213 with fail
    have so:=SO2.out _ d2 R1.out (λq hq=>M1.out.out q (.inr hq));have S4:Aside _:=so;clear so;cases B3 with
    |false=>
     have h1:¬(M<E/\E<b):=L8 HB3.out.symm
     have HM:Aside (MergedF key (λq=>d2[q]!) (λq=>d2[q]!) M E b):=by
      show MergedF _ _ _ _ _ _;have so:=S4.out;have h0:=HMID.out;by_cases ha:M<E
      ·have h:E=b:=by omega
       have g:=so.1;rw[h]at g⊢;exact aO g
      ·have h:E=M:=by omega
       have g:=so.2;rw[h]at g⊢;exact aN g
     go_wp2_with fail
     go_end0
     exact⟨rfl,d2,Z2.out,S3.out,FIN.out _ _ _ R1.out M1.out HM.out⟩
    |true=>
     have h1:M<E/\E<b:=Bd HB3.out.symm;have hc2:∀w,SWK enc k w0 blk off d2 w->Calls Tryz.prog 286 #[.slice (Ybs ⟨blk,off,Ybu⟩) N cap,.int .i64 (M:Int),.int .i64 (E:Int),.int .i64 (b:Int),.func (.func g) #[] cb] w (Pm enc k w0 blk off N key d2 M E b):=λw s=>IH.out M E b h1.1 h1.2 hb (by omega) d2 w _ _ _ rfl rfl rfl Z2.out s S4.out.1 S4.out.2
     go_wp2_with (go_at_call 286;(with_reducible refine(hc2 _ S3.out).mono ?_);rintro e w4 ⟨rfl,d3,sz3,s4,m3⟩;have S5:Aside _:=s4;have M3:Aside _:=m3;have Z3:Aside _:=sz3;clear s4 m3 sz3)
     go_end0
     exact⟨rfl,d3,Z3.out,S5.out,FIN.out _ _ _ R1.out M1.out M3.out⟩
end Go.Lift
namespace Go.Lift
open Go.Proofs Go.Shelf Go.RowKit Go.Lib Go.Sort
variable{α:Type}[Ybz α]
theorem Ati(enc:α->List Value)(k:Nat)(hk:k=2)(key:α->Int)(cf:α->α->Int)(Gk:∀x y,cf x y<0↔key x<key y)(g:Nat)(cb:Ybq Value)(eg:∀args w,(callFunc g args).run Tryz.prog w=.ok (.enter g args) w)(blk off cap N:Nat)(d0:Ybq α)(w0:World)(R:RowK enc k w0 blk off d0)(hC:CmpLays Tryz.prog g cb enc k cf blk off N w0)(hN0:d0.size=N)(Cp:N<4611686018427387904):∀(n a m b:Nat),b-a<=n->a<m->m<b->b<=N->Rl enc k w0 blk off cap N key g cb a m b:=by
 intro n
 induction n with
 |zero=>intro a m b h1 h2 h3;omega
 |succ n ih=>
  intro a m b hn n8 Za hb;by_cases h1:m=a+1
  ·subst h1
   intro d w za zm zb ea em eb hN S hx hy;exact Ate enc k hk key cf Gk g cb eg blk off cap N d0 w0 R hC hN0 Cp a b za zm zb d w ea (by omega) eb hN S Za hb hy
  ·by_cases h2:b=m+1
   ·subst h2
    intro d w za zm zb ea em eb hN S hx hy;exact Atf enc k hk key cf Gk g cb eg blk off cap N d0 w0 R hC hN0 Cp a m za zm zb d w ea em (by omega) hN S (by omega) hb hx
   ·by_cases hc:(a+b) / 2<m
    ·exact Atg enc k hk key cf Gk g cb eg blk off cap N d0 w0 R hC hN0 Cp a m b (by omega) (by omega) hb (λa' m' b' g1 g2 g3 g4=>ih a' m' b' (by omega) g1 g2 g3) hc
    ·exact Ath enc k hk key cf Gk g cb eg blk off cap N d0 w0 R hC hN0 Cp a m b (by omega) (by omega) hb (λa' m' b' g1 g2 g3 g4=>ih a' m' b' (by omega) g1 g2 g3) hc
end Go.Lift
namespace Go.Lift
open Go.Sort
variable{α:Type}[Ybz α]
theorem Atj{key:α->Int}{d:Ybq α}{a b j:Nat}(h1:a<=j)(h2:j+1<b)(h3:b<=d.size)(hk:key d[j]!≠key d[j+1]!):SameK key (sgL (λq=>d[q]!) a b) (sgL (λq=>(swp d (j+1) j)[q]!) a b):=by
 have e:∀f:Nat->α,sgL f a b=sgL f a j++f j::f (j+1)::sgL f (j+2) b:=λf=>by rw[Ip f h1 (show j<=b by omega),Ip f (show j<=j+1 by omega) (show j+1<=b by omega),Ip f (show j+1<=j+1+1 by omega) (show j+1+1<=b by omega),Rk,Rk];rfl
 have g:=aL d (i:=j+1) (j:=j) (by omega) (by omega);rw[e,e]
 have l:sgL (λq=>(swp d (j+1) j)[q]!) a j=sgL (λq=>d[q]!) a j:=Jz rfl λt ht=>by show(swp d (j+1) j)[a+t]! =_;rw[g,Ybm (by omega),Ybm (by omega)]
 have r:sgL (λq=>(swp d (j+1) j)[q]!) (j+2) b=sgL (λq=>d[q]!) (j+2) b:=Jz rfl λt ht=>by show(swp d (j+1) j)[j+2+t]! =_;rw[g,Ybm (by omega),Ybm (by omega)]
 have m1:(swp d (j+1) j)[j]! =d[j+1]!:=by rw[g,Ybm (by omega),Ybo rfl]
 have m2:(swp d (j+1) j)[j+1]! =d[j]!:=by rw[g,Ybo rfl]
 rw[l,r];simp only[m1,m2];exact SameK.swap_at hk
theorem AeU(d:Ybq α)(i j:Nat):(swp d i j).size=d.size:=by simp[swp]
theorem AeV{key:α->Int}{lt:α->α->Bool}(Ax:∀x y,lt x y=Ybv->key x≠key y){a b:Nat}:∀(j:Nat)(d:Ybq α),j<b->b<=d.size->(insInner lt a j d).size=d.size/\SameK key (sgL (λq=>d[q]!) a b) (sgL (λq=>(insInner lt a j d)[q]!) a b)
 |0,d,_,_=>⟨rfl,.refl _⟩
 |j+1,d,h1,h2=>by
  unfold insInner;by_cases h:(Ybr (j+1>a)&&lt d[j+1]! d[j]!)=Ybv
  ·rw[Ybo h]
   rw[Dk]at h;have hj:a<=j:=by have:=Bd h.1;omega
   obtain⟨s,k⟩:=AeV Ax (a:=a) (b:=b) j (swp d (j+1) j) (by omega) (by rw[AeU];exact h2);exact⟨s.trans (AeU ..),(Atj hj (by omega) h2 λe=>Ax _ _ h.2 e.symm).trans k⟩
  ·rw[Ybm h];exact⟨rfl,.refl _⟩
theorem Atk{key:α->Int}{lt:α->α->Bool}(Ax:∀x y,lt x y=Ybv->key x≠key y){a b:Nat}:∀(n i:Nat)(d:Ybq α),b-i<=n->b<=d.size->SameK key (sgL (λq=>d[q]!) a b) (sgL (λq=>(insOuter lt a b i d)[q]!) a b):=by
 intro n
 induction n with
 |zero=>intro i d h1 h2;unfold insOuter;rw[Ybm (by omega)];exact .refl _
 |succ n ih=>
  intro i d h1 h2;unfold insOuter;by_cases h:i<b
  ·rw[Ybo h]
   obtain⟨s,k⟩:=AeV Ax (a:=a) i d h h2;exact k.trans (ih (i+1) _ (by omega) (by rw[s];exact h2))
  ·rw[Ybm h];exact .refl _
structure SortedF (key:α->Int) (f f':Nat->α) (a b:Nat):Prop where
 out:∀q,q<a\/b<=q->f' q=f q
 so:SortK key (sgL f' a b)
 sa:SameK key (sgL f a b) (sgL f' a b)
theorem Atl{key:α->Int}{lt:α->α->Bool}(hS:SWO lt)(Ax:∀x y,lt x y=Ybv↔key x<key y){d:Ybq α}{a b:Nat}(h1:a<=b)(h2:b<=d.size):(insertionSort lt d a b).size=d.size/\SortedF key (λq=>d[q]!) (λq=>(insertionSort lt d a b)[q]!) a b:=by
 obtain⟨⟨g1,g2,_⟩,g3⟩:=insertionSort_holds hS d a b h1 h2;refine⟨g1,g2,KR λp q p1 p2 p3=>?_,Atk (λx y h e=>by have:=(Ax x y).1 h;omega) _ _ d (Av _) h2⟩;by_cases e:p=q
 ·subst e;exact IS _
 ·have:=g3 p q p1 (by omega) p3
  exact Yb2.1 λh=>by rw[(Ax _ _).2 h]at this;cases this
theorem MergedF.sorted{key:α->Int}{f f':Nat->α}{a m b:Nat}(h1:a<=m)(h2:m<=b)(h:MergedF key f f' a m b):SortedF key f f' a b:=⟨h.out,h.mg.1,by rw[Ip f h1 h2];exact h.mg.2⟩
theorem SortedF.whole{key:α->Int}{f f':Nat->α}{a b N:Nat}(h1:a<=b)(h2:b<=N)(h:SortedF key f f' a b):SameK key (sgL f 0 N) (sgL f' 0 N):=by
 have e:∀f:Nat->α,sgL f 0 N=sgL f 0 a++(sgL f a b++sgL f b N):=λf=>by rw[Ip f (EA a) (by omega),Ip f h1 h2]
 rw[e,e];have l:sgL f' 0 a=sgL f 0 a:=Jz rfl λt ht=>h.out _ (.inl (by omega));have r:sgL f' b N=sgL f b N:=Jz rfl λt ht=>h.out _ (.inr (by omega));rw[l,r];exact(SameK.refl _).app (h.sa.app (.refl _))
def BlkS(key:α->Int)(f:Nat->α)(B lo hi:Nat):Prop:=∀j p q,lo<=p->j*B<=p->p<=q->q<j*B+B->q<hi->key (f p)<=key (f q)
theorem BlkS.all{key:α->Int}{f:Nat->α}{B N:Nat}(h:BlkS key f B 0 N)(hB:N<=B):SortK key (sgL f 0 N):=KR λp q _ h2 h3=>h 0 p q (by omega) (by omega) h2 (by omega) h3
theorem BlkS.next{key:α->Int}{f f':Nat->α}{B i b:Nat}(hb:b<=i*B+B)(h:BlkS key f B 0 (i*B))(s:SortedF key f f' (i*B) b):BlkS key f' B 0 b:=by
 intro j p q _ h1 h2 h3 h4;by_cases hq:q<i*B
 ·rw[s.out p (.inl (by omega)),s.out q (.inl hq)]
  exact h j p q (EA _) h1 h2 h3 hq
 ·have Dv:i<=j:=by apply Nat.le_of_not_lt;intro g;have:=KO B (show j+1<=i by omega);rw[LC]at this;omega
  have:=KO B Dv;exact Pk s.so p q (by omega) h2 h4
theorem BlkS.keep{key:α->Int}{f f':Nat->α}{B lo hi a b:Nat}(h:BlkS key f B lo hi)(h1:lo<=b)(s:SortedF key f f' a b):BlkS key f' B b hi:=by intro j p q g1 g2 g3 g4 g5;rw[s.out p (.inr g1),s.out q (.inr (by omega))];exact h j p q (by omega) g2 g3 g4 g5
theorem BlkS.part{key:α->Int}{f:Nat->α}{B lo hi i a b:Nat}(h:BlkS key f B lo hi)(h1:lo<=a)(h2:i*B<=a)(h3:b<=i*B+B)(h4:b<=hi):SortK key (sgL f a b):=
 KR λp q g1 g2 g3=>h i p q (by omega) (by omega) g2 (by omega) (by omega)
end Go.Lift
namespace Go.Lift
open Go.Proofs Go.Shelf Go.RowKit Go.Lib Go.Sort
variable{α:Type}[Ybz α]
def pS(enc:α->List Value)(k:Nat)(w0:World)(blk off N:Nat)(key:α->Int)(d:Ybq α)(a b:Nat)(e:Ending)(w':World):Prop:=
 e=.returned (.tuple #[])/\∃d':Ybq α,d'.size=N/\SWK enc k w0 blk off d' w'/\SortedF key (λq=>d[q]!) (λq=>d'[q]!) a b
set_option maxHeartbeats 8000000 in
set_option maxRecDepth 1000000 in
theorem Atm(enc:α->List Value)(k:Nat)(key:α->Int)(g:Nat)(cb:Ybq Value)(blk off cap N:Nat)(d:Ybq α)(w0 w:World)(zn:Int)(en:zn=(N:Int))(hN:d.size=N)(hsz:N<1152921504606846976)(S:SWK enc k w0 blk off d w)(hI:∀(a b:Nat)(za zb:Int)(d:Ybq α)(w:World),za=(a:Int)->zb=(b:Int)->d.size=N->SWK enc k w0 blk off d w->a<=b->b<=N->Calls Tryz.prog 285 #[.slice (Ybs ⟨blk,off,Ybu⟩) N cap,.int .i64 za,.int .i64 zb,.func (.func g) #[] cb] w (pS enc k w0 blk off N key d a b))(hM:∀a m b,a<m->m<b->b<=N->Rl enc k w0 blk off cap N key g cb a m b):Calls Tryz.prog 277 #[.slice (Ybs ⟨blk,off,Ybu⟩) N cap,.int .i64 zn,.func (.func g) #[] cb] w λe w'=>e=.returned (.tuple #[])/\∃d':Ybq α,d'.size=N/\SWK enc k w0 blk off d' w'/\SortK key (sgL (λq=>d'[q]!) 0 N)/\SameK key (sgL (λq=>d[q]!) 0 N) (sgL (λq=>d'[q]!) 0 N):=by
 subst en;have mixed:Tryz.prog.follows .mixedOrders=Ybv:=by kernel_rfl
 have S0:Aside (SWK enc k w0 blk off d w):=S;have HI:Aside _:=hI;have HM:Aside _:=hM;have K0:Aside (SameK key (sgL (λq=>d[q]!) 0 N) (sgL (λq=>d[q]!) 0 N)):=SameK.refl _;have B0:Aside (BlkS key (λq=>d[q]!) 20 0 (0*20)):=(λj p q h1 h2 h3 h4 h5=>by omega:BlkS key (λq=>d[q]!) 20 0 (0*20));clear S hI hM
 go_enter Tryz.func277,Tryz.ntmps277
 have tS:=Tryz.underlying256;have aS:=Tryz.isAgg256;have zS:=Tryz.sizeOf256;have vS:=Tryz.zeroValue256;have uS:=run_underlying Tryz.underlying256;generalize(256:Nat)=U at tS aS zS vS uS⊢
 go_wp2
 go_loopg [7,8] N (λkx s7 s8 wr=>∃(A C:Nat)(dk:Ybq α),s7=.int .i64 A/\s8=.int .i64 C/\(C<=A+20/\A+20<=C)/\A<=N/\N-A<=kx/\dk.size=N/\Aside (SWK enc k w0 blk off dk wr)/\Aside (SameK key (sgL (λq=>d[q]!) 0 N) (sgL (λq=>dk[q]!) 0 N))/\Aside (∃i,A=i*20/\BlkS key (λq=>dk[q]!) 20 0 (i*20)))
 case atStart=>exact⟨0,20,d,by first|rfl|(congr 1;omega),by first|rfl|(congr 1;omega),⟨Av _,Av _⟩,EA _,by omega,hN,S0,K0,(⟨0,by omega,B0.out⟩:∃i,0=i*20/\BlkS key (λq=>d[q]!) 20 0 (i*20))⟩
 case round=>
  clear S0 K0 B0;obtain⟨A,C,dk,rfl,rfl,hC,hA,hkx,hdk,S1,K1,B1⟩:=hrel;by_cases hle:C<=N
  ·have hlez:(C:Int)<=(N:Int):=by omega
   have hc:∀w,SWK enc k w0 blk off dk w->Calls Tryz.prog 285 #[.slice (Ybs ⟨blk,off,Ybu⟩) N cap,.int .i64 (A:Int),.int .i64 (C:Int),.func (.func g) #[] cb] w (pS enc k w0 blk off N key dk A C):=
    λw s=>HI.out A C _ _ dk w rfl rfl hdk s (by omega) hle
   go_wp2_with (go_at_call 285;(with_reducible refine(hc _ S1.out).mono ?_);rintro e w2 ⟨rfl,d2,sz2,s2,m2⟩;have S2:Aside _:=s2;have M2:Aside _:=m2;clear s2 m2)
   have K2:Aside (SameK key (sgL (λq=>d[q]!) 0 N) (sgL (λq=>d2[q]!) 0 N)):=K1.out.trans (M2.out.whole (by omega) hle)
   have B2:Aside (∃i,C=i*20/\BlkS key (λq=>d2[q]!) 20 0 (i*20)):=by obtain⟨i,e,b⟩:=B1.out;have m:=M2.out;subst e;refine(⟨i+1,by omega,?_⟩:∃i,C=i*20/\BlkS key (λq=>d2[q]!) 20 0 (i*20));rw[show(i+1)*20=C by omega];exact b.next (by omega) m
   go_roundg (N-C)
   case measure=>omega
   case rel=>exact⟨C,C+20,d2,rfl,by first|rfl|(congr 1;omega),⟨Av _,Av _⟩,hle,Av _,sz2,S2,K2,B2⟩
  ·have hlez:¬((C:Int)<=(N:Int)):=by omega
   have hc:∀w,SWK enc k w0 blk off dk w->Calls Tryz.prog 285 #[.slice (Ybs ⟨blk,off,Ybu⟩) N cap,.int .i64 (A:Int),.int .i64 (N:Int),.func (.func g) #[] cb] w (pS enc k w0 blk off N key dk A N):=
    λw s=>HI.out A N _ _ dk w rfl rfl hdk s hA (Av _)
   go_wp2_with (go_at_call 285;(with_reducible refine(hc _ S1.out).mono ?_);rintro e w2 ⟨rfl,d2,sz2,s2,m2⟩;have S2:Aside _:=s2;have M2:Aside _:=m2;clear s2 m2 hc)
   have K2:Aside (SameK key (sgL (λq=>d[q]!) 0 N) (sgL (λq=>d2[q]!) 0 N)):=K1.out.trans (M2.out.whole hA (Av _))
   have B2:Aside (BlkS key (λq=>d2[q]!) 20 0 N):=by obtain⟨i,e,b⟩:=B1.out;have m:=M2.out;subst e;exact b.next (by omega) m
   clear S1 K1 B1 M2 hkx hlez hle
   go_loopg [6,7,8,9] N (λky s6 s7 s8 s9 wr=>∃(B:Nat)(dk:Ybq α),s6=.int .i64 B/\20<=B/\N-B<=ky/\dk.size=N/\Aside (SWK enc k w0 blk off dk wr)/\Aside (SameK key (sgL (λq=>d[q]!) 0 N) (sgL (λq=>dk[q]!) 0 N))/\Aside (BlkS key (λq=>dk[q]!) B 0 N))
   case atStart=>exact⟨20,d2,by first|rfl|(congr 1;omega),Av _,by omega,sz2,S2,K2,B2⟩
   case round=>
    clear S2 K2 B2;obtain⟨B,dk,rfl,hB,hky,hdk,S3,K3,B3⟩:=hrel;by_cases hlt:B<N
    ·have hltz:(B:Int)<(N:Int):=by omega
     go_wp2
     go_loopg [7,8] N (λkz s7 s8 wr3=>∃(A C:Nat)(d3:Ybq α),s7=.int .i64 A/\s8=.int .i64 C/\(C<=A+2*B/\A+2*B<=C)/\A<=N/\N-A<=kz/\d3.size=N/\Aside (SWK enc k w0 blk off d3 wr3)/\Aside (SameK key (sgL (λq=>d[q]!) 0 N) (sgL (λq=>d3[q]!) 0 N))/\Aside (∃i,A=i*(2*B)/\BlkS key (λq=>d3[q]!) (2*B) 0 (i*(2*B))/\BlkS key (λq=>d3[q]!) B A N))
     case atStart=>exact⟨0,2*B,dk,by first|rfl|(congr 1;omega),by first|rfl|(congr 1;omega),⟨by omega,by omega⟩,EA _,by omega,hdk,S3,K3,(⟨0,by omega,λj p q h1 h2 h3 h4 h5=>by omega,B3.out⟩:∃i,0=i*(2*B)/\BlkS key (λq=>dk[q]!) (2*B) 0 (i*(2*B))/\BlkS key (λq=>dk[q]!) B 0 N)⟩
     case round=>
      clear S3 K3 B3;obtain⟨A,C,d3,rfl,rfl,hC,hA,hkz,hd3,S4,K4,B4⟩:=hrel;by_cases hle:C<=N
      ·have hlez:(C:Int)<=(N:Int):=by omega
       have so:Aside (SortK key (sgL (λq=>d3[q]!) A (A+B))/\SortK key (sgL (λq=>d3[q]!) (A+B) C)):=by
        obtain⟨i,e,_,b2⟩:=B4.out;have e1:2*i*B=A:=by rw[e,TR 2 i,aI]
        have e2:(2*i+1)*B=A+B:=by rw[Hr,e1]
        exact(⟨b2.part (i:=2*i) (Av _) (by omega) (by omega) (by omega),b2.part (i:=2*i+1) (by omega) (by omega) (by omega) hle⟩:SortK key (sgL (λq=>d3[q]!) A (A+B))/\SortK key (sgL (λq=>d3[q]!) (A+B) C))
       have hc:∀w,SWK enc k w0 blk off d3 w->Calls Tryz.prog 286 #[.slice (Ybs ⟨blk,off,Ybu⟩) N cap,.int .i64 (A:Int),.int .i64 ((A:Int)+(B:Int)),.int .i64 (C:Int),.func (.func g) #[] cb] w (Pm enc k w0 blk off N key d3 A (A+B) C):=
        λw s=>HM.out A (A+B) C (by omega) (by omega) hle d3 w _ _ _ rfl (by omega) rfl hd3 s so.out.1 so.out.2
       go_wp2_with (go_at_call 286;(with_reducible refine(hc _ S4.out).mono ?_);rintro e w2 ⟨rfl,d4,sz4,s4,m4⟩;have S5:Aside _:=s4;have M5:Aside (SortedF key (λq=>d3[q]!) (λq=>d4[q]!) A C):=m4.sorted (by omega) (by omega);clear s4 m4)
       have K5:Aside (SameK key (sgL (λq=>d[q]!) 0 N) (sgL (λq=>d4[q]!) 0 N)):=K4.out.trans (M5.out.whole (by omega) hle)
       have B5:Aside (∃i,C=i*(2*B)/\BlkS key (λq=>d4[q]!) (2*B) 0 (i*(2*B))/\BlkS key (λq=>d4[q]!) B C N):=by
        obtain⟨i,e,b1,b2⟩:=B4.out;have m:=M5.out;have e3:(i+1)*(2*B)=C:=by rw[Hr,<-e];omega
        refine(⟨i+1,e3.symm,?_,b2.keep (by omega) m⟩:∃i,C=i*(2*B)/\BlkS key (λq=>d4[q]!) (2*B) 0 (i*(2*B))/\BlkS key (λq=>d4[q]!) B C N);rw[e3];rw[e]at m;exact b1.next (by omega) m
       go_roundg (N-C)
       case measure=>omega
       case rel=>exact⟨C,C+2*B,d4,rfl,by first|rfl|(congr 1;omega),⟨Av _,Av _⟩,hle,Av _,sz4,S5,K5,B5⟩
      ·have hlez:¬((C:Int)<=(N:Int)):=by omega
       by_cases hm:A+B<N
       ·have hmz:(A:Int)+(B:Int)<(N:Int):=by omega
        have so:Aside (SortK key (sgL (λq=>d3[q]!) A (A+B))/\SortK key (sgL (λq=>d3[q]!) (A+B) N)):=by
         obtain⟨i,e,_,b2⟩:=B4.out;have e1:2*i*B=A:=by rw[e,TR 2 i,aI]
         have e2:(2*i+1)*B=A+B:=by rw[Hr,e1]
         exact(⟨b2.part (i:=2*i) (Av _) (by omega) (by omega) (by omega),b2.part (i:=2*i+1) (by omega) (by omega) (by omega) (Av _)⟩:SortK key (sgL (λq=>d3[q]!) A (A+B))/\SortK key (sgL (λq=>d3[q]!) (A+B) N))
        have hc:∀w,SWK enc k w0 blk off d3 w->Calls Tryz.prog 286 #[.slice (Ybs ⟨blk,off,Ybu⟩) N cap,.int .i64 (A:Int),.int .i64 ((A:Int)+(B:Int)),.int .i64 (N:Int),.func (.func g) #[] cb] w (Pm enc k w0 blk off N key d3 A (A+B) N):=
         λw s=>HM.out A (A+B) N (by omega) (by omega) (Av _) d3 w _ _ _ rfl (by omega) rfl hd3 s so.out.1 so.out.2
        go_wp2_with (go_at_call 286;(with_reducible refine(hc _ S4.out).mono ?_);rintro e w2 ⟨rfl,d4,sz4,s4,m4⟩;have S5:Aside _:=s4;have M5:Aside (SortedF key (λq=>d3[q]!) (λq=>d4[q]!) A N):=m4.sorted (by omega) (by omega);clear s4 m4)
        have K5:Aside (SameK key (sgL (λq=>d[q]!) 0 N) (sgL (λq=>d4[q]!) 0 N)):=K4.out.trans (M5.out.whole hA (Av _))
        have B5:Aside (BlkS key (λq=>d4[q]!) (2*B) 0 N):=by obtain⟨i,e,b1,b2⟩:=B4.out;have m:=M5.out;rw[e]at m;exact b1.next (by omega) m
        go_roundg (N-2*B)
        case measure=>omega
        case rel=>exact⟨2*B,d4,by first|rfl|(congr 1;omega),by omega,Av _,sz4,S5,K5,B5⟩
       ·have hmz:¬((A:Int)+(B:Int)<(N:Int)):=by omega
        have B5:Aside (BlkS key (λq=>d3[q]!) (2*B) 0 N):=by
         obtain⟨i,e,b1,b2⟩:=B4.out;have e1:2*i*B=A:=by rw[e,TR 2 i,aI]
         have m:SortedF key (λq=>d3[q]!) (λq=>d3[q]!) A N:=⟨λ_ _=>rfl,b2.part (i:=2*i) (Av _) (by omega) (by omega) (Av _),.refl _⟩;rw[e]at m;exact b1.next (by omega) m
        go_wp2
        go_roundg (N-2*B)
        case measure=>omega
        case rel=>exact⟨2*B,d3,by first|rfl|(congr 1;omega),by omega,Av _,hd3,S4,K4,B5⟩
    ·have hltz:¬((B:Int)<(N:Int)):=by omega
     go_wp2
     go_end0
     exact⟨rfl,dk,hdk,S3.out,B3.out.all (by omega),K3.out⟩
end Go.Lift
namespace Go.Lift
open Go.Proofs Go.Shelf Go.RowKit Go.Lib Go.Sort
set_option maxRecDepth 1000000 in
theorem Atn{ρ:Shelf.Ren}(L:SlLaysF0.n20 Tryz.prog ρ)(hi:ρ.f 20=285)(g:FuncId)(w:World):Calls Tryz.prog 248 #[.slice Ybu 0 0,.func (.func g) #[] #[]] w λe w'=>e=.returned (.tuple #[])/\w'=w:=by
 have h0:=AnyF.insertionSortCmpFunc_none L Ybu 0 (.func (.func g) #[] #[]) w;rw[hi]at h0
 have h2:Calls Tryz.prog 277 #[.slice Ybu 0 0,.int .i64 0,.func (.func g) #[] #[]] w λe2 w'=>e2=.returned (.tuple #[])/\w'=w:=by
  go_enter Tryz.func277,Tryz.ntmps277
  go_wp2
  refine wp_loop_rounds 1 ?_;rw[rounds_succ]
  go_wp2_with (refine h0.mono ?_;rintro e w' ⟨rfl,rfl⟩)
  refine wp_loop_rounds 1 ?_;rw[rounds_succ]
  go_wp2
  go_end0
  exact⟨rfl,rfl⟩
 go_enter Tryz.func248,Tryz.ntmps248
 go_wp2_with (refine h2.mono ?_;rintro e w' ⟨rfl,rfl⟩)
 go_end0
 exact⟨rfl,rfl⟩
variable{α:Type}[Ybz α]
set_option maxHeartbeats 4000000 in
set_option maxRecDepth 1000000 in
theorem Ato{ρ:Shelf.Ren}(L:SlLaysF0.n20 Tryz.prog ρ)(hi:ρ.f 20=285)(k:Nat)(hk:k=2)(aE:∀w,(isAgg (ρ.t 24)).run Tryz.prog w=.ok Ybv w)(zE:∀w,(Go.sizeOf (ρ.t 24)).run Tryz.prog w=.ok k w)(enc:α->List Value)(hE:∀x,(enc x).length=k)(h1:∀x,∀v∈enc x,v.oneCell'=Ybv)(key:α->Int)(cf:α->α->Int)(hcf:∀x y,cf x y<0↔key x<key y)(hO:SWO (ltOf cf))(g:FuncId)(eg:∀args w,(callFunc g args).run Tryz.prog w=.ok (.enter g args) w)(gb cap:Nat)(d:Ybq α)(w:World)(hC:CmpLays Tryz.prog g #[] enc k cf gb 0 d.size w)(hH:HoldsK enc k w gb 0 d)(hg:gb<w.heap.size)(hsz:d.size<1152921504606846976):Calls Tryz.prog 248 #[.slice (Ybs ⟨gb,0,Ybu⟩) d.size cap,.func (.func g) #[] #[]] w λe w'=>e=.returned (.tuple #[])/\∃d':Ybq α,d'.size=d.size/\SWK enc k w gb 0 d' w'/\SortK key (sgL (λq=>d'[q]!) 0 d.size)/\SameK key (sgL (λq=>d[q]!) 0 d.size) (sgL (λq=>d'[q]!) 0 d.size):=by
 have R:RowK enc k w gb 0 d:=⟨hE,h1,hH,hg⟩;have S0:SWK enc k w gb 0 d w:=SWK.start hH
 have h2:=Atm enc k key g #[] gb 0 cap d.size d w w (d.size:Int) rfl rfl hsz S0
  (λa b za zb dk wk ea eb hN S hab hb=>by
   subst ea eb
   have hC2:CmpLays Tryz.prog g #[] enc k cf gb 0 dk.size wk:=λm os dl hdl x y=>by obtain⟨n0,os0,rfl⟩:=S;rw[sortWorldK_on enc k w gb 0 n0 m dk dl os0 os hg hdl];exact hC _ _ dl (by omega) x y
   have hc:=AnyQ.insertionSortCmpFunc L k aE zE enc hE h1 cf g #[] gb 0 cap a b dk wk eg hC2 (S.holds hg hH hN) (S.lt hg) hab (by omega) (by omega);rw[hi,hN]at hc;refine hc.mono ?_;rintro e w' ⟨rfl,n,os,rfl⟩;obtain⟨q1,q2⟩:=Atl (key:=key) (lt:=ltOf cf) hO (λx y=>by unfold ltOf;rw[Jv];exact hcf x y) (d:=dk) hab (by omega);exact⟨rfl,_,q1.trans hN,S.on hg n _ os q1,q2⟩)
  (λa m b h1 h2 h3=>Ati enc k hk key cf hcf g #[] eg gb 0 cap d.size d w R hC rfl (by omega) (b-a) a m b (Av _) h1 h2 h3)
 go_enter Tryz.func248,Tryz.ntmps248
 go_wp2_with (refine h2.mono ?_;rintro e w' ⟨rfl,d',q1,q2,q3,q4⟩)
 go_end0
 exact⟨rfl,d',q1,q2,q3,q4⟩
end Go.Lift
