/- Part2 -/
import Derived.Shelf.SlSortCmp.KitK
import Derived.Sort.WalkB2
import Derived.Sort.WalkB12
import Derived.Deep.LoopGhost
import Derived.KernelRfl
import Derived.Deep.CutRange
import Derived.Test.YthjiepigkfklkaaGreatDoorProg
import Derived.Test.YthjiepigkfklkaaGreatDoorPart1
set_option linter.unusedVariables false
set_option linter.unusedSectionVars false
set_option linter.unusedSimpArgs false
open _root_ renaming if_neg → Ybm, if_pos → Ybo, Array → Ybq, Inhabited → Ybz, absurd → Yb0
open Decidable renaming decide → Ybr
open Bool renaming true → Ybv, false → Ybx
open Int renaming not_lt → Yb2
namespace Go.Lift
open Go.Proofs Go.Shelf Go.RowKit Go.Lib Go.Sort
variable{α:Type}[Ybz α]
set_option maxHeartbeats 4000000 in
set_option maxRecDepth 1000000 in
theorem pR(enc:α->List Value)(k:Nat)(hk:k=2)(g:Nat)(cb:Ybq Value)(blk off cap N a b n:Nat)(za zb zn:Int)(d0 d:Ybq α)(w0 w:World)(ea:za=(a:Int))(eb:zb=(b:Int))(en:zn=(n:Int))(hN:d.size=N)(R:RowK enc k w0 blk off d0)(hs:d0.size=d.size)(S:SWK enc k w0 blk off d w)(ha:a+n<=d.size)(hb:b+n<=d.size)(hsz:d.size<4611686018427387904):Calls Tryz.prog 310 #[.slice (some ⟨blk,off,none⟩) N cap,.int .i64 za,.int .i64 zb,.int .i64 zn,.func (.func g) #[] cb] w λe w'=>e=.returned (.tuple #[])/\SWK enc k w0 blk off (Hs d a b n) w':=by
 subst ea eb en hN;have mixed:Tryz.prog.follows .mixedOrders=Ybv:=by kernel_rfl
 have aE:∀w,(isAgg 260).run Tryz.prog w=.ok Ybv w:=Tryz.isAgg260;have zE:∀w,(Go.sizeOf 260).run Tryz.prog w=.ok k w:=by rw[hk];exact Tryz.sizeOf260
 clear hk;have S0:Aside (SWK enc k w0 blk off d w):=S;clear S
 go_enter Tryz.func310,Tryz.ntmps310
 have tS:=Tryz.underlying256;have aS:=Tryz.isAgg256;have zS:=Tryz.sizeOf256;have vS:=Tryz.zeroValue256;have uS:=run_underlying Tryz.underlying256;generalize(260:Nat)=T at aE zE tS aS zS vS uS⊢;generalize(256:Nat)=U at tS aS zS vS uS⊢
 go_wp2
 go_loopg [10] n (λkx s10 wr=>∃(i:Nat)(dk:Ybq α),s10=.int .i64 i/\i+kx=n/\dk.size=d.size/\dk=Hs d a b i/\Aside (SWK enc k w0 blk off dk wr))
 case atStart=>exact⟨0,d,rfl,by omega,rfl,rfl,S0⟩
 case round=>
  clear S0;obtain⟨i,dk,rfl,hik,hds,hdk,S1⟩:=hrel;by_cases hlt:i<n
  ·go_wp2_with fail
   have ea44:((a:Int)+(i:Int)).toNat=a+i:=by omega
   have pa44:(0:Int)<=(a:Int)+(i:Int):=by omega
   have ba44:(a:Int)+(i:Int)<(d.size:Int):=by omega
   have ra44:IntKind.i64.wrap ((a:Int)+(i:Int))=(a:Int)+(i:Int):=by rw[IntKind.wrap_i64];omega
   have rc44:IntKind.i64.wrap ((b:Int)+(i:Int))=(b:Int)+(i:Int):=by rw[IntKind.wrap_i64];omega
   have ec44:((b:Int)+(i:Int)).toNat=b+i:=by omega
   have pc44:(0:Int)<=(b:Int)+(i:Int):=by omega
   have bc44:(b:Int)+(i:Int)<(d.size:Int):=by omega
   have hab44:a+i<dk.size/\b+i<dk.size:=by omega
   have S2:Aside (SWK enc k w0 blk off (swp dk (a+i) (b+i)) ((wr.drew.setCells blk (off+(a+i)*k) (enc dk[b+i]!)).setCells blk (off+(b+i)*k) (enc dk[a+i]!))):=S1.out.swapped R (a+i) (b+i) (by omega) (by omega);have l44a:=S1.out.ld1 R (by omega) Tryz.prog (a+i) (by omega);have l44b:=S1.out.ld1 R (by omega) Tryz.prog (b+i) (by omega);have s44a:=S1.out.st1 R (by omega) Tryz.prog (a+i) (by omega) dk[b+i]!;have s44b:=S1.out.st2 R (by omega) Tryz.prog (a+i) (b+i) (by omega) (by omega) dk[b+i]! dk[a+i]!;have n44a:(enc dk[a+i]!).length=k:=R.hk _;have n44b:(enc dk[b+i]!).length=k:=R.hk _;generalize enc dk[a+i]! =cI44 at S2 l44a s44b n44a;generalize enc dk[b+i]! =cJ44 at S2 l44b s44a s44b n44b;clear S1
   go_wp2_with fail
   go_big_region_o
   clear l44a l44b s44a s44b;generalize(wr.drew.setCells blk (off+(a+i)*k) cJ44).setCells blk (off+(b+i)*k) cI44=w2 at S2⊢
   go_wp2
   go_roundg (n-(i+1))
   case measure=>omega
   case rel=>exact⟨i+1,swp dk (a+i) (b+i),by simp,by omega,by rw[size_swp];exact hds,by rw[Hs,<-hdk],S2⟩
  ·go_wp2
   go_end0
   refine⟨rfl,?_⟩;have:i=n:=by omega
   subst this;rw[<-hdk];exact S1.out
set_option maxHeartbeats 4000000 in
set_option maxRecDepth 1000000 in
theorem AeR(enc:α->List Value)(k:Nat)(hk:k=2)(g:Nat)(cb:Ybq Value)(blk off cap N a m b:Nat)(za zm zb:Int)(d0 d:Ybq α)(w0 w:World)(ea:za=(a:Int))(em:zm=(m:Int))(eb:zb=(b:Int))(hN:d.size=N)(R:RowK enc k w0 blk off d0)(hs:d0.size=d.size)(S:SWK enc k w0 blk off d w)(ham:a<m)(hmb:m<b)(hb:b<=d.size)(hsz:d.size<4611686018427387904):Calls Tryz.prog 298 #[.slice (some ⟨blk,off,none⟩) N cap,.int .i64 za,.int .i64 zm,.int .i64 zb,.func (.func g) #[] cb] w λe w'=>e=.returned (.tuple #[])/\SWK enc k w0 blk off (rotG d m (m-a) (b-m)) w':=by
 subst ea em eb hN;have mixed:Tryz.prog.follows .mixedOrders=Ybv:=by kernel_rfl
 have S0:Aside (SWK enc k w0 blk off d w):=S;clear S
 go_enter Tryz.func298,Tryz.ntmps298
 go_wp2
 go_loopg [10,11] (b-a) (λkx s10 s11 wr=>∃(i j:Nat)(dk:Ybq α),s10=.int .i64 i/\s11=.int .i64 j/\i+j<=kx/\1<=i/\1<=j/\i<=m/\m+j<=d.size/\dk.size=d.size/\rotG dk m i j=rotG d m (m-a) (b-m)/\Aside (SWK enc k w0 blk off dk wr))
 case atStart=>exact⟨m-a,b-m,d,by congr 1;omega,by congr 1;omega,by omega,by omega,by omega,by omega,by omega,rfl,rfl,S0⟩
 case round=>
  clear S0;obtain⟨i,j,dk,rfl,rfl,hij,hi,hj,him,hmj,hds,hrot,S1⟩:=hrel;by_cases he:(i:Int)=(j:Int)
  ·have hn:i=j:=by omega
   subst hn
   go_wp2_with (refine(pR enc k hk g cb blk off cap d.size (m-i) m i _ _ _ d0 dk w0 _ (by omega) rfl rfl hds R (by omega) S1.out (by omega) (by omega) (by omega)).mono ?_;rintro e w2 ⟨rfl,S2⟩)
   go_end0
   refine⟨rfl,?_⟩;rw[rotG,Ybo rfl]at hrot;rw[<-hrot];exact S2
  ·by_cases hgt:(j:Int)<(i:Int)
   ·go_wp2_with (refine(pR enc k hk g cb blk off cap d.size (m-i) m j _ _ _ d0 dk w0 _ (by omega) rfl rfl hds R (by omega) S1.out (by omega) (by omega) (by omega)).mono ?_;rintro e w2 ⟨rfl,S2⟩)
    go_roundg (i-j+j)
    case measure=>omega
    case rel=>rw[rotG,Ybm (by omega),Ybm (by omega),Ybo (by omega)]at hrot;exact⟨i-j,j,Hs dk (m-i) m j,by congr 1;omega,rfl,Av _,by omega,hj,by omega,hmj,by rw[LE];exact hds,hrot,S2⟩
   ·go_wp2_with (refine(pR enc k hk g cb blk off cap d.size (m-i) (m+j-i) i _ _ _ d0 dk w0 _ (by omega) (by omega) rfl hds R (by omega) S1.out (by omega) (by omega) (by omega)).mono ?_;rintro e w2 ⟨rfl,S2⟩)
    go_roundg (i+(j-i))
    case measure=>omega
    case rel=>rw[rotG,Ybm (by omega),Ybm (by omega),Ybm (by omega)]at hrot;exact⟨i,j-i,Hs dk (m-i) (m+j-i) i,rfl,by congr 1;omega,Av _,hi,by omega,him,by omega,by rw[LE];exact hds,hrot,S2⟩
end Go.Lift
namespace Go.Lift
open Go.Proofs Go.Shelf Go.RowKit Go.Lib Go.Sort
variable{α:Type}[Ybz α]
set_option maxHeartbeats 4000000 in
set_option maxRecDepth 1000000 in
theorem Ate(enc:α->List Value)(k:Nat)(hk:k=2)(key:α->Int)(cf:α->α->Int)(hcf:∀x y,cf x y<0↔key x<key y)(g:Nat)(cb:Ybq Value)(eg:∀args w,(callFunc g args).run Tryz.prog w=.ok (.enter g args) w)(blk off cap N:Nat)(d0:Ybq α)(w0:World)(R:RowK enc k w0 blk off d0)(hC:CmpLays Tryz.prog g cb enc k cf blk off N w0)(hN0:d0.size=N)(hsz:N<4611686018427387904)(a b:Nat)(za zm zb:Int)(d:Ybq α)(w:World)(ea:za=(a:Int))(em:zm=(a:Int)+1)(eb:zb=(b:Int))(hN:d.size=N)(S:SWK enc k w0 blk off d w)(hmb:a+1<b)(hb:b<=N)(hy:SortK key (sgL (λq=>d[q]!) (a+1) b)):Calls Tryz.prog 286 #[.slice (some ⟨blk,off,none⟩) N cap,.int .i64 za,.int .i64 zm,.int .i64 zb,.func (.func g) #[] cb] w λe w'=>e=.returned (.tuple #[])/\∃d':Ybq α,d'.size=N/\SWK enc k w0 blk off d' w'/\MergedF key (λq=>d[q]!) (λq=>d'[q]!) a (a+1) b:=by
 subst ea em eb hN;have mixed:Tryz.prog.follows .mixedOrders=Ybv:=by kernel_rfl
 have aE:∀w,(isAgg 260).run Tryz.prog w=.ok Ybv w:=Tryz.isAgg260;have zE:∀w,(Go.sizeOf 260).run Tryz.prog w=.ok k w:=by rw[hk];exact Tryz.sizeOf260
 clear hk;have S0:Aside (SWK enc k w0 blk off d w):=S;have HC:Aside _:=hC;have HF:Aside _:=hcf;have HY:Aside (∀p q,a+1<=p->p<=q->q<b->key d[p]!≤key d[q]!):=Pk hy;have HYS:Aside _:=hy;clear S hC hcf hy
 go_enter Tryz.func286,Tryz.ntmps286
 have tS:=Tryz.underlying256;have aS:=Tryz.isAgg256;have zS:=Tryz.sizeOf256;have vS:=Tryz.zeroValue256;have uS:=run_underlying Tryz.underlying256;generalize(260:Nat)=T at aE zE tS aS zS vS uS⊢;generalize(256:Nat)=U at tS aS zS vS uS⊢;have h1z:(a:Int)+1-(a:Int)=1:=by omega
 go_wp2
 go_loopg [10,11] (b-(a+1)) (λkx s10 s11 wr=>∃(i j:Nat),s10=.int .i64 i/\s11=.int .i64 j/\a+1<=i/\i<=j/\j<=b/\j-i<=kx/\Aside (SWK enc k w0 blk off d wr)/\Aside ((∀q,a+1<=q->q<i->key d[q]!<key d[a]!)/\(∀q,j<=q->q<b->key d[a]!≤key d[q]!)))
 case atStart=>exact⟨a+1,b,by congr 1,rfl,Av _,by omega,Av _,Av _,S0,(⟨λq h1 h2=>by omega,λq h1 h2=>by omega⟩:(∀q,a+1<=q->q<a+1->key d[q]!<key d[a]!)/\(∀q,b<=q->q<b->key d[a]!≤key d[q]!))⟩
 case round=>
  clear S0;obtain⟨i,j,rfl,rfl,hai,hij,hjb,hkx,S1,I⟩:=hrel;by_cases hlt:i<j
  ·have hltz:(i:Int)<(j:Int):=by omega
   have hh:i<=(i+j) / 2/\(i+j) / 2<j:=by omega
   have hz:((i:Int)+(j:Int)) / 2=(((i+j) / 2:Nat):Int):=by omega
   have ec24:((a:Int)).toNat=a:=by omega
   have pc24:(0:Int)<=(a:Int):=by omega
   have bc24:(a:Int)<(d.size:Int):=by omega
   have rc24:IntKind.i64.wrap ((a:Int))=(a:Int):=by rw[IntKind.wrap_i64];omega
   generalize hH:(i+j) / 2=H at hh hz;have ea24:((H:Int)).toNat=H:=by omega
   have pa24:(0:Int)<=(H:Int):=by omega
   have ba24:(H:Int)<(d.size:Int):=by omega
   have ra24:IntKind.i64.wrap ((H:Int))=(H:Int):=by rw[IntKind.wrap_i64];omega
   obtain⟨x24,hx24⟩:∃x,x=d[H]!:=⟨_,rfl⟩;obtain⟨y24,hy24⟩:∃x,x=d[a]!:=⟨_,rfl⟩;have l24a:=S1.out.ld R (by omega) Tryz.prog H (by omega);have l24b:=S1.out.ld R (by omega) Tryz.prog a (by omega);rw[<-hx24]at l24a;rw[<-hy24]at l24b;have hc24:=S1.out.cmp HC.out rfl x24 y24;by_cases hv24:cf x24 y24<0
   ·have hd24:Ybr (cf x24 y24<0)=Ybv:=Ao hv24
    have hkey:Aside (key d[H]!<key d[a]!):=by show _<_;rw[<-hx24,<-hy24];exact(HF.out _ _).1 hv24
    clear hx24 hy24
    go_wp2_with fail
    go_quiet_grown (first|(go_at_fn g;refine Calls.grown_of (hc24 _ _)))
    have S2:Aside (SWK enc k w0 blk off d (grow (wr.drewN nq) osq)):=S1.out.grown nq osq;clear l24a l24b hc24 S1;generalize grow (wr.drewN nq) osq=w2 at S2⊢;clear nq osq
    go_wp2
    go_roundg (j-(H+1))
    case measure=>omega
    case rel=>exact⟨H+1,j,by first|rfl|(congr 1;omega),rfl,by omega,by omega,hjb,Av _,S2,(⟨λq h1 h2=>by
      by_cases e:q<=H
      ·exact pD (HY.out q H h1 e (by omega)) hkey.out
      ·omega,I.out.2⟩:(∀q,a+1<=q->q<H+1->key d[q]!<key d[a]!)/\(∀q,j<=q->q<b->key d[a]!≤key d[q]!))⟩
   ·have hd24:Ybr (cf x24 y24<0)=Ybx:=Ar hv24
    have hkey:Aside (key d[a]!≤key d[H]!):=by show _<=_;rw[<-hx24,<-hy24];exact Yb2.1 λh=>hv24 ((HF.out _ _).2 h)
    clear hx24 hy24
    go_wp2_with fail
    go_quiet_grown (first|(go_at_fn g;refine Calls.grown_of (hc24 _ _)))
    have S2:Aside (SWK enc k w0 blk off d (grow (wr.drewN nq) osq)):=S1.out.grown nq osq;clear l24a l24b hc24 S1;generalize grow (wr.drewN nq) osq=w2 at S2⊢;clear nq osq
    go_wp2
    go_roundg (H-i)
    case measure=>omega
    case rel=>exact⟨i,H,rfl,by first|rfl|(congr 1;omega),hai,by omega,by omega,Av _,S2,(⟨I.out.1,λq h1 h2=>Ri hkey.out (HY.out H q (by omega) h1 h2)⟩:(∀q,a+1<=q->q<i->key d[q]!<key d[a]!)/\(∀q,H<=q->q<b->key d[a]!≤key d[q]!))⟩
  ·have hij2:i=j:=by omega
   subst hij2
   go_wp2
   go_loopg [13] (i-1-a) (λkx s13 wr2=>∃(n:Nat),s13=.int .i64 ((a+n:Nat):Int)/\a+n<=i-1/\i-1-(a+n)<=kx/\Aside (SWK enc k w0 blk off (upF d a n) wr2))
   case atStart=>exact⟨0,by rfl,by omega,by omega,S1⟩
   case round=>
    clear S1;obtain⟨n,rfl,hn,hkx2,S2⟩:=hrel;have hs2:(upF d a n).size=d.size:=(pP d n (by omega)).1;generalize hP:a+n=p at*;by_cases hlt2:p<i-1
    ·have hltz2:(p:Int)<(i:Int)-1:=by omega
     have ea44:((p:Int)).toNat=p:=by omega
     have pa44:(0:Int)<=(p:Int):=by omega
     have ba44:(p:Int)<(d.size:Int):=by omega
     have ra44:IntKind.i64.wrap ((p:Int))=(p:Int):=by rw[IntKind.wrap_i64];omega
     have ec44:((p:Int)+1).toNat=p+1:=by omega
     have pc44:(0:Int)<=(p:Int)+1:=by omega
     have bc44:(p:Int)+1<(d.size:Int):=by omega
     have rc44:IntKind.i64.wrap ((p:Int)+1)=(p:Int)+1:=by rw[IntKind.wrap_i64];omega
     generalize hdk:upF d a n=dk at S2 hs2;have S3:Aside (SWK enc k w0 blk off (swp dk p (p+1)) ((wr.drew.setCells blk (off+p*k) (enc dk[p+1]!)).setCells blk (off+(p+1)*k) (enc dk[p]!))):=S2.out.swapped R p (p+1) (by omega) (by omega);have l44a:=S2.out.ld1 R (by omega) Tryz.prog p (by omega);have l44b:=S2.out.ld1 R (by omega) Tryz.prog (p+1) (by omega);have s44a:=S2.out.st1 R (by omega) Tryz.prog p (by omega) dk[p+1]!;have s44b:=S2.out.st2 R (by omega) Tryz.prog p (p+1) (by omega) (by omega) dk[p+1]! dk[p]!;have n44a:(enc dk[p]!).length=k:=R.hk _;have n44b:(enc dk[p+1]!).length=k:=R.hk _;generalize enc dk[p]! =cI44 at S3 l44a s44b n44a;generalize enc dk[p+1]! =cJ44 at S3 l44b s44a s44b n44b;clear S2
     go_wp2_with fail
     go_big_region_o
     clear l44a l44b s44a s44b;generalize(wr.drew.setCells blk (off+p*k) cJ44).setCells blk (off+(p+1)*k) cI44=w3 at S3⊢
     go_wp2
     go_roundg (i-1-(p+1))
     case measure=>omega
     case rel=>exact⟨n+1,by congr 1;omega,by omega,by omega,by rw[upF,hdk,hP];exact S3⟩
    ·go_wp2
     (try simp only[Exit.inBlock,Exit.then]);refine bodyPost_ret (results_none rfl _ _ _) rfl ?_
     have hfi:a+n=i-1:=by omega
     refine⟨rfl,upF d a n,hs2,S2.out,?_⟩;refine Atc hai hjb HYS.out I.out.1 I.out.2 λq=>?_;rw[<-hfi];exact(pP d n (by omega)).2 q
end Go.Lift
namespace Go.Lift
open Go.Proofs Go.Shelf Go.RowKit Go.Lib Go.Sort
variable{α:Type}[Ybz α]
set_option maxHeartbeats 4000000 in
set_option maxRecDepth 1000000 in
theorem Atf(enc:α->List Value)(k:Nat)(hk:k=2)(key:α->Int)(cf:α->α->Int)(hcf:∀x y,cf x y<0↔key x<key y)(g:Nat)(cb:Ybq Value)(eg:∀args w,(callFunc g args).run Tryz.prog w=.ok (.enter g args) w)(blk off cap N:Nat)(d0:Ybq α)(w0:World)(R:RowK enc k w0 blk off d0)(hC:CmpLays Tryz.prog g cb enc k cf blk off N w0)(hN0:d0.size=N)(hsz:N<4611686018427387904)(a m:Nat)(za zm zb:Int)(d:Ybq α)(w:World)(ea:za=(a:Int))(em:zm=(m:Int))(eb:zb=(m:Int)+1)(hN:d.size=N)(S:SWK enc k w0 blk off d w)(ham:a+1<m)(hb:m+1<=N)(hx:SortK key (sgL (λq=>d[q]!) a m)):Calls Tryz.prog 286 #[.slice (some ⟨blk,off,none⟩) N cap,.int .i64 za,.int .i64 zm,.int .i64 zb,.func (.func g) #[] cb] w λe w'=>e=.returned (.tuple #[])/\∃d':Ybq α,d'.size=N/\SWK enc k w0 blk off d' w'/\MergedF key (λq=>d[q]!) (λq=>d'[q]!) a m (m+1):=by
 subst ea em eb hN;have mixed:Tryz.prog.follows .mixedOrders=Ybv:=by kernel_rfl
 have aE:∀w,(isAgg 260).run Tryz.prog w=.ok Ybv w:=Tryz.isAgg260;have zE:∀w,(Go.sizeOf 260).run Tryz.prog w=.ok k w:=by rw[hk];exact Tryz.sizeOf260
 clear hk;have S0:Aside (SWK enc k w0 blk off d w):=S;have HC:Aside _:=hC;have HF:Aside _:=hcf;have HX:Aside (∀p q,a<=p->p<=q->q<m->key d[p]!≤key d[q]!):=Pk hx;have HXS:Aside _:=hx;clear S hC hcf hx
 go_enter Tryz.func286,Tryz.ntmps286
 have tS:=Tryz.underlying256;have aS:=Tryz.isAgg256;have zS:=Tryz.sizeOf256;have vS:=Tryz.zeroValue256;have uS:=run_underlying Tryz.underlying256;generalize(260:Nat)=T at aE zE tS aS zS vS uS⊢;generalize(256:Nat)=U at tS aS zS vS uS⊢;have h1z:¬((m:Int)-(a:Int)=1):=by omega
 have h1b:(((m:Int)-(a:Int))==1)=Ybx:=by rw[TM];exact h1z
 have h2z:(m:Int)+1-(m:Int)=1:=by omega
 go_wp2
 go_loopg [14,15] (m-a) (λkx s10 s11 wr=>∃(i j:Nat),s10=.int .i64 i/\s11=.int .i64 j/\a<=i/\i<=j/\j<=m/\j-i<=kx/\Aside (SWK enc k w0 blk off d wr)/\Aside ((∀q,a<=q->q<i->key d[q]!≤key d[m]!)/\(∀q,j<=q->q<m->key d[m]!<key d[q]!)))
 case atStart=>exact⟨a,m,rfl,rfl,Av _,by omega,Av _,Av _,S0,(⟨λq h1 h2=>by omega,λq h1 h2=>by omega⟩:(∀q,a<=q->q<a->key d[q]!≤key d[m]!)/\(∀q,m<=q->q<m->key d[m]!<key d[q]!))⟩
 case round=>
  clear S0;obtain⟨i,j,rfl,rfl,hai,hij,hjb,hkx,S1,I⟩:=hrel;by_cases hlt:i<j
  ·have hltz:(i:Int)<(j:Int):=by omega
   have hh:i<=(i+j) / 2/\(i+j) / 2<j:=by omega
   have hz:((i:Int)+(j:Int)) / 2=(((i+j) / 2:Nat):Int):=by omega
   have ea24:((m:Int)).toNat=m:=by omega
   have pa24:(0:Int)<=(m:Int):=by omega
   have ba24:(m:Int)<(d.size:Int):=by omega
   have ra24:IntKind.i64.wrap ((m:Int))=(m:Int):=by rw[IntKind.wrap_i64];omega
   generalize hH:(i+j) / 2=H at hh hz;have ec24:((H:Int)).toNat=H:=by omega
   have pc24:(0:Int)<=(H:Int):=by omega
   have bc24:(H:Int)<(d.size:Int):=by omega
   have rc24:IntKind.i64.wrap ((H:Int))=(H:Int):=by rw[IntKind.wrap_i64];omega
   obtain⟨x24,hx24⟩:∃x,x=d[m]!:=⟨_,rfl⟩;obtain⟨y24,hy24⟩:∃x,x=d[H]!:=⟨_,rfl⟩;have l24a:=S1.out.ld R (by omega) Tryz.prog m (by omega);have l24b:=S1.out.ld R (by omega) Tryz.prog H (by omega);rw[<-hx24]at l24a;rw[<-hy24]at l24b;have hc24:=S1.out.cmp HC.out rfl x24 y24;by_cases hv24:cf x24 y24<0
   ·have hd24:Ybr (cf x24 y24<0)=Ybv:=Ao hv24
    have hkey:Aside (key d[m]!<key d[H]!):=by show _<_;rw[<-hx24,<-hy24];exact(HF.out _ _).1 hv24
    clear hx24 hy24
    go_wp2_with fail
    go_quiet_grown (first|(go_at_fn g;refine Calls.grown_of (hc24 _ _)))
    have S2:Aside (SWK enc k w0 blk off d (grow (wr.drewN nq) osq)):=S1.out.grown nq osq;clear l24a l24b hc24 S1;generalize grow (wr.drewN nq) osq=w2 at S2⊢;clear nq osq
    go_wp2
    go_roundg (H-i)
    case measure=>omega
    case rel=>exact⟨i,H,rfl,by first|rfl|(congr 1;omega),hai,by omega,by omega,Av _,S2,(⟨I.out.1,λq h1 h2=>pE hkey.out (HX.out H q (by omega) h1 h2)⟩:(∀q,a<=q->q<i->key d[q]!≤key d[m]!)/\(∀q,H<=q->q<m->key d[m]!<key d[q]!))⟩
   ·have hd24:Ybr (cf x24 y24<0)=Ybx:=Ar hv24
    have hkey:Aside (key d[H]!≤key d[m]!):=by show _<=_;rw[<-hx24,<-hy24];exact Yb2.1 λh=>hv24 ((HF.out _ _).2 h)
    clear hx24 hy24
    go_wp2_with fail
    go_quiet_grown (first|(go_at_fn g;refine Calls.grown_of (hc24 _ _)))
    have S2:Aside (SWK enc k w0 blk off d (grow (wr.drewN nq) osq)):=S1.out.grown nq osq;clear l24a l24b hc24 S1;generalize grow (wr.drewN nq) osq=w2 at S2⊢;clear nq osq
    go_wp2
    go_roundg (j-(H+1))
    case measure=>omega
    case rel=>exact⟨H+1,j,by first|rfl|(congr 1;omega),rfl,by omega,by omega,hjb,Av _,S2,(⟨λq h1 h2=>Ri (HX.out q H h1 (by omega) (by omega)) hkey.out,I.out.2⟩:(∀q,a<=q->q<H+1->key d[q]!≤key d[m]!)/\(∀q,j<=q->q<m->key d[m]!<key d[q]!))⟩
  ·have hij2:i=j:=by omega
   subst hij2
   go_wp2
   go_loopg [17] (m-i) (λkx s13 wr2=>∃(n p:Nat),s13=.int .i64 (p:Int)/\p+n=m/\i<=p/\p-i<=kx/\Aside (SWK enc k w0 blk off (Jy d m n) wr2))
   case atStart=>exact⟨0,m,rfl,rfl,hjb,Av _,S1⟩
   case round=>
    clear S1;obtain⟨n,p,rfl,hpn,hip,hkx2,S2⟩:=hrel;have hs2:(Jy d m n).size=d.size:=(pQ d (m:=m) (by omega) n (by omega)).1;by_cases hlt2:i<p
    ·obtain⟨P,rfl⟩:∃P,p=P+1:=⟨p-1,by omega⟩
     have hltz2:(i:Int)<(P:Int)+1:=by omega
     have ea44:((P:Int)+1).toNat=P+1:=by omega
     have pa44:(0:Int)<=(P:Int)+1:=by omega
     have ba44:(P:Int)+1<(d.size:Int):=by omega
     have ra44:IntKind.i64.wrap ((P:Int)+1)=(P:Int)+1:=by rw[IntKind.wrap_i64];omega
     have ec44:((P:Int)).toNat=P:=by omega
     have pc44:(0:Int)<=(P:Int):=by omega
     have bc44:(P:Int)<(d.size:Int):=by omega
     have rc44:IntKind.i64.wrap ((P:Int))=(P:Int):=by rw[IntKind.wrap_i64];omega
     have hsw:swp (Jy d m n) (P+1) P=Jy d m (n+1):=by rw[Jy,show m-n=P+1 by omega];rfl
     generalize hdk:Jy d m n=dk at S2 hs2 hsw;have S3:Aside (SWK enc k w0 blk off (swp dk (P+1) P) ((wr.drew.setCells blk (off+(P+1)*k) (enc dk[P]!)).setCells blk (off+P*k) (enc dk[P+1]!))):=S2.out.swapped R (P+1) P (by omega) (by omega);have l44a:=S2.out.ld1 R (by omega) Tryz.prog (P+1) (by omega);have l44b:=S2.out.ld1 R (by omega) Tryz.prog P (by omega);have s44a:=S2.out.st1 R (by omega) Tryz.prog (P+1) (by omega) dk[P]!;have s44b:=S2.out.st2 R (by omega) Tryz.prog (P+1) P (by omega) (by omega) dk[P]! dk[P+1]!;have n44a:(enc dk[P+1]!).length=k:=R.hk _;have n44b:(enc dk[P]!).length=k:=R.hk _;generalize enc dk[P+1]! =cI44 at S3 l44a s44b n44a;generalize enc dk[P]! =cJ44 at S3 l44b s44a s44b n44b;clear S2
     go_wp2_with fail
     go_big_region_o
     clear l44a l44b s44a s44b;generalize(wr.drew.setCells blk (off+(P+1)*k) cJ44).setCells blk (off+P*k) cI44=w3 at S3⊢
     go_wp2
     go_roundg (P-i)
     case measure=>omega
     case rel=>exact⟨n+1,P,by first|rfl|(congr 1;omega),by omega,by omega,Av _,by rw[<-hsw];exact S3⟩
    ·go_wp2
     (try simp only[Exit.inBlock,Exit.then]);refine bodyPost_ret (results_none rfl _ _ _) rfl ?_
     have hfi:i=m-n:=by omega
     refine⟨rfl,Jy d m n,hs2,S2.out,?_⟩;refine Atd hai hjb HXS.out I.out.1 I.out.2 λq=>?_;rw[hfi];exact(pQ d (m:=m) (by omega) n (by omega)).2 q
end Go.Lift
namespace Go.Lift
open Go.Proofs Go.Shelf Go.RowKit Go.Lib Go.Sort
variable{α:Type}[Ybz α]
theorem aN{key:α->Int}{f:Nat->α}{a b:Nat}(h:SortK key (sgL f a b)):MergedF key f f a a b:=⟨λ_ _=>rfl,by rw[AeP f (Av a)];exact .nil_left h⟩
theorem aO{key:α->Int}{f:Nat->α}{a b:Nat}(h:SortK key (sgL f a b)):MergedF key f f a b b:=⟨λ_ _=>rfl,by rw[AeP f (Av b)];exact .nil_right h⟩
def RotF(d d1:Ybq α)(s m e mid:Nat):Prop:=∀q,d1[q]! =if s<=q/\q<mid then d[q+(m-s)]! else if mid<=q/\q<e then d[q-(e-m)]! else d[q]!
theorem AeS{d:Ybq α}{s m e mid:Nat}(h1:s<m)(h2:m<e)(h3:e<=d.size)(hm:mid=s+(e-m)):(rotG d m (m-s) (e-m)).size=d.size/\RotF d (rotG d m (m-s) (e-m)) s m e mid:=by
 obtain⟨g1,g2⟩:=Atb ((m-s)+(e-m)) d m (m-s) (e-m) (Av _) (by omega) (by omega) (by omega) (by omega);refine⟨g1,λq=>?_⟩;rw[g2];have e1:m-(m-s)=s:=by omega
 have e2:m+(e-m)=e:=by omega
 rw[e1,e2,hm]
theorem AeT{d:Ybq α}{s m e mid:Nat}(h1:s<=m)(h2:m<=e)(h:¬(s<m/\m<e))(hm:mid=s+(e-m)):RotF d d s m e mid:=λq=>by
 by_cases g1:s<=q/\q<mid
 ·rw[Ybo g1,show q+(m-s)=q by omega]
 ·rw[Ybm g1]
  by_cases g2:mid<=q/\q<e
  ·rw[Ybo g2,show q-(e-m)=q by omega]
  ·rw[Ybm g2]
def Pm(enc:α->List Value)(k:Nat)(w0:World)(blk off N:Nat)(key:α->Int)(d:Ybq α)(a m b:Nat)(e:Ending)(w':World):Prop:=
 e=.returned (.tuple #[])/\∃d':Ybq α,d'.size=N/\SWK enc k w0 blk off d' w'/\MergedF key (λq=>d[q]!) (λq=>d'[q]!) a m b
def Rl(enc:α->List Value)(k:Nat)(w0:World)(blk off cap N:Nat)(key:α->Int)(g:Nat)(cb:Ybq Value)(a m b:Nat):Prop:=
 ∀(d:Ybq α)(w:World)(za zm zb:Int),za=(a:Int)->zm=(m:Int)->zb=(b:Int)->d.size=N->SWK enc k w0 blk off d w->SortK key (sgL (λq=>d[q]!) a m)->SortK key (sgL (λq=>d[q]!) m b)->
  Calls Tryz.prog 286 #[.slice (some ⟨blk,off,none⟩) N cap,.int .i64 za,.int .i64 zm,.int .i64 zb,.func (.func g) #[] cb] w (Pm enc k w0 blk off N key d a m b)
set_option maxHeartbeats 8000000 in
set_option maxRecDepth 1000000 in
theorem Atg(enc:α->List Value)(k:Nat)(hk:k=2)(key:α->Int)(cf:α->α->Int)(hcf:∀x y,cf x y<0↔key x<key y)(g:Nat)(cb:Ybq Value)(eg:∀args w,(callFunc g args).run Tryz.prog w=.ok (.enter g args) w)(blk off cap N:Nat)(d0:Ybq α)(w0:World)(R:RowK enc k w0 blk off d0)(hC:CmpLays Tryz.prog g cb enc k cf blk off N w0)(hN0:d0.size=N)(hsz:N<4611686018427387904)(a m b:Nat)(ham:a+1<m)(hmb:m+1<b)(hb:b<=N)(ih:∀a' m' b',a'<m'->m'<b'->b'<=N->b'-a'<b-a->Rl enc k w0 blk off cap N key g cb a' m' b')(hcase:(a+b) / 2<m):Rl enc k w0 blk off cap N key g cb a m b:=by
 intro d w za zm zb ea em eb hN S hx hy;subst ea em eb;have mixed:Tryz.prog.follows .mixedOrders=Ybv:=by kernel_rfl
 have aE:∀w,(isAgg 260).run Tryz.prog w=.ok Ybv w:=Tryz.isAgg260;have zE:∀w,(Go.sizeOf 260).run Tryz.prog w=.ok k w:=by rw[hk];exact Tryz.sizeOf260
 have HK2:Aside (k=2):=hk;clear hk;have S0:Aside (SWK enc k w0 blk off d w):=S;have HC:Aside _:=hC;have HF:Aside _:=hcf;have HX:Aside (∀p q,a<=p->p<=q->q<m->key d[p]!≤key d[q]!):=Pk hx;have HY:Aside (∀p q,m<=p->p<=q->q<b->key d[p]!≤key d[q]!):=Pk hy;have HXS:Aside (SortK key (sgL (λq=>d[q]!) a m)):=hx;have HYS:Aside (SortK key (sgL (λq=>d[q]!) m b)):=hy;have IH:Aside _:=ih;clear S hC hcf hx hy ih;obtain⟨M,hM⟩:∃M,(a+b) / 2=M:=⟨_,rfl⟩;have hMz:((a:Int)+(b:Int)) / 2=(M:Int):=by omega
 obtain⟨lo,hi,hlo,hhi,hb0⟩:∃lo hi:Nat,(M<m->(lo:Int)=(M:Int)+(m:Int)-(b:Int)/\hi=M)/\(¬M<m->lo=a/\hi=m)/\(a<=lo/\lo<=hi/\hi<=M/\hi<=m/\(M<m->hi=M/\lo+b=M+m)/\(¬M<m->lo=a/\hi=m)):=by
  by_cases h:M<m
  ·exact⟨M+m-b,M,λ_=>⟨by omega,rfl⟩,λg=>Yb0 h g,by omega,by omega,by omega,by omega,λ_=>⟨rfl,by omega⟩,λg=>Yb0 h g⟩
  ·exact⟨a,m,λg=>Yb0 g h,λ_=>⟨rfl,rfl⟩,Av _,by omega,by omega,by omega,λg=>Yb0 g h,λ_=>⟨rfl,rfl⟩⟩
 obtain⟨hb1,hb2,hb3,hb4,hb5,hb6⟩:=hb0;have hloN:(lo:Int)<4611686018427387904:=by omega
 obtain⟨P,hP⟩:∃P:Nat,P+1=M+m:=⟨M+m-1,by omega⟩;have hPz:(M:Int)+(m:Int)-1=(P:Int):=by omega
 have I0:Aside ((∀c,lo<=c->c<lo->key d[c]!≤key d[P-c]!)/\(∀c,hi<=c->c<hi->key d[P-c]!<key d[c]!)):=(⟨λc h1 h2=>by omega,λc h1 h2=>by omega⟩:(∀c,lo<=c->c<lo->key d[c]!≤key d[P-c]!)/\(∀c,hi<=c->c<hi->key d[P-c]!<key d[c]!))
 go_enter Tryz.func286,Tryz.ntmps286
 have tS:=Tryz.underlying256;have aS:=Tryz.isAgg256;have zS:=Tryz.sizeOf256;have vS:=Tryz.zeroValue256;have uS:=run_underlying Tryz.underlying256;generalize(260:Nat)=T at aE zE tS aS zS vS uS⊢;generalize(256:Nat)=U at tS aS zS vS uS⊢;have h1z:¬((m:Int)-(a:Int)=1):=by omega
 have h1b:(((m:Int)-(a:Int))==1)=Ybx:=by rw[TM];exact h1z
 have h2z:¬((b:Int)-(m:Int)=1):=by omega
 have h2b:(((b:Int)-(m:Int))==1)=Ybx:=by rw[TM];exact h2z
 by_cases hMm:M<m
 ·have hMmz:(M:Int)<(m:Int):=by omega
  have hMmd:Ybr ((M:Int)<(m:Int))=Ybv:=Ao hMmz;obtain⟨hlz,hhM⟩:=hlo hMm;have hlb:=(hb5 hMm).2;have hhM:=hhM.symm;clear hlo hhi hb5 hb6;subst hhM
  go_wp2
  go_loopg [20,21] (M-lo) (λkx s10 s11 wr=>∃(i j:Nat),s10=.int .i64 i/\s11=.int .i64 j/\lo<=i/\i<=j/\j<=M/\j-i<=kx/\Aside (SWK enc k w0 blk off d wr)/\Aside ((∀c,lo<=c->c<i->key d[c]!≤key d[P-c]!)/\(∀c,j<=c->c<M->key d[P-c]!<key d[c]!)))
  case atStart=>exact⟨lo,M,by first|rfl|(congr 1;omega),by first|rfl|(congr 1;omega),Av _,by omega,Av _,Av _,S0,I0⟩
  case round=>
   clear S0 I0;obtain⟨i,j,rfl,rfl,hai,hij,hjb,hkx,S1,I⟩:=hrel;by_cases hlt:i<j
   ·have hltz:(i:Int)<(j:Int):=by omega
    have hh:i<=(i+j) / 2/\(i+j) / 2<j:=by omega
    have hz:((i:Int)+(j:Int)) / 2=(((i+j) / 2:Nat):Int):=by omega
    generalize hH:(i+j) / 2=H at hh hz;obtain⟨Q,hQ⟩:∃Q:Nat,Q+H=P:=⟨P-H,by omega⟩;have hQz:(P:Int)-(H:Int)=(Q:Int):=by omega
    have hQP:P-H=Q:=by omega
    have ea24:((Q:Int)).toNat=Q:=by omega
    have pa24:(0:Int)<=(Q:Int):=by omega
    have ba24:(Q:Int)<(N:Int):=by omega
    have ra24:IntKind.i64.wrap ((Q:Int))=(Q:Int):=by rw[IntKind.wrap_i64];omega
    have ec24:((H:Int)).toNat=H:=by omega
    have pc24:(0:Int)<=(H:Int):=by omega
    have bc24:(H:Int)<(N:Int):=by omega
    have rc24:IntKind.i64.wrap ((H:Int))=(H:Int):=by rw[IntKind.wrap_i64];omega
    obtain⟨x24,hx24⟩:∃x,x=d[Q]!:=⟨_,rfl⟩;obtain⟨y24,hy24⟩:∃x,x=d[H]!:=⟨_,rfl⟩;have l24a:=S1.out.ld R (by omega) Tryz.prog Q (by omega);have l24b:=S1.out.ld R (by omega) Tryz.prog H (by omega);rw[<-hx24]at l24a;rw[<-hy24]at l24b;have hc24:=S1.out.cmp HC.out hN x24 y24;by_cases hv24:cf x24 y24<0
    ·have hd24:Ybr (cf x24 y24<0)=Ybv:=Ao hv24
     have hkey:Aside (key d[Q]!<key d[H]!):=by show _<_;rw[<-hx24,<-hy24];exact(HF.out _ _).1 hv24
     clear hx24 hy24
     go_wp2_with fail
     go_quiet_grown (first|(go_at_fn g;refine Calls.grown_of (hc24 _ _)))
     have S2:Aside (SWK enc k w0 blk off d (grow (wr.drewN nq) osq)):=S1.out.grown nq osq;clear l24a l24b hc24 S1;generalize grow (wr.drewN nq) osq=w2 at S2⊢;clear nq osq
     go_wp2
     go_roundg (H-i)
     case measure=>omega
     case rel=>exact⟨i,H,rfl,by first|rfl|(congr 1;omega),hai,by omega,by omega,Av _,S2,(⟨I.out.1,λc h1 h2=>pD (HY.out (P-c) Q (by omega) (by omega) (by omega)) (pE hkey.out (HX.out H c (by omega) h1 (by omega)))⟩:(∀c,lo<=c->c<i->key d[c]!≤key d[P-c]!)/\(∀c,H<=c->c<M->key d[P-c]!<key d[c]!))⟩
    ·have hd24:Ybr (cf x24 y24<0)=Ybx:=Ar hv24
     have hkey:Aside (key d[H]!≤key d[Q]!):=by show _<=_;rw[<-hx24,<-hy24];exact Yb2.1 λh=>hv24 ((HF.out _ _).2 h)
     clear hx24 hy24
     go_wp2_with fail
     go_quiet_grown (first|(go_at_fn g;refine Calls.grown_of (hc24 _ _)))
     have S2:Aside (SWK enc k w0 blk off d (grow (wr.drewN nq) osq)):=S1.out.grown nq osq;clear l24a l24b hc24 S1;generalize grow (wr.drewN nq) osq=w2 at S2⊢;clear nq osq
     go_wp2
     go_roundg (j-(H+1))
     case measure=>omega
     case rel=>exact⟨H+1,j,by first|rfl|(congr 1;omega),rfl,by omega,by omega,hjb,Av _,S2,(⟨λc h1 h2=>Ri (HX.out c H (by omega) (by omega) (by omega)) (Ri hkey.out (HY.out Q (P-c) (by omega) (by omega) (by omega))),I.out.2⟩:(∀c,lo<=c->c<H+1->key d[c]!≤key d[P-c]!)/\(∀c,j<=c->c<M->key d[P-c]!<key d[c]!))⟩
   ·have hij2:i=j:=by omega
    subst hij2;have hltz:¬((i:Int)<(i:Int)):=by omega
    obtain⟨E,hE⟩:∃E:Nat,E+i=M+m:=⟨M+m-i,by omega⟩;have hEb:m<=E/\E<=b:=by omega
    have hmid:M=i+(E-m):=by omega
    have hLow:∀p q,a<=p->p<i->E<=q->q<b->key d[p]!≤key d[q]!:=λp q h1 h2 h3 h4=>by have g1:=HX.out p (i-1) h1 (by omega) (by omega);have g2:=I.out.1 (i-1) (by omega) (by omega);rw[show P-(i-1)=E by omega]at g2;have g3:=HY.out E q (by omega) h3 h4;omega
    have hHigh:∀p q,m<=p->p<E->i<=q->q<m->key d[p]!<key d[q]!:=λp q h1 h2 h3 h4=>by have g1:=HY.out p (E-1) h1 (by omega) (by omega);have g2:=I.out.2 i (Av _) (by omega);rw[show P-i=E-1 by omega]at g2;have g3:=HX.out i q (by omega) h3 h4;omega
    have fin:∀(d1 d2 d3:Ybq α),RotF d d1 i m E M->MergedF key (λq=>d1[q]!) (λq=>d2[q]!) a i M->MergedF key (λq=>d2[q]!) (λq=>d3[q]!) M E b->MergedF key (λq=>d[q]!) (λq=>d3[q]!) a m b:=λd1 d2 d3 r1 r2 r3=>
     AeQ (by omega) (by omega) hEb.1 hEb.2 hmid HXS.out HYS.out hLow hHigh r1 r2 r3
    have so1:∀d1:Ybq α,RotF d d1 i m E M->SortK key (sgL (λq=>d1[q]!) a i)/\SortK key (sgL (λq=>d1[q]!) i M):=λd1 r=>⟨KR λp q h1 h2 h3=>by
     show key d1[p]!≤key d1[q]!;rw[r p,r q,Ybm (by omega),Ybm (by omega),Ybm (by omega),Ybm (by omega)];exact HX.out p q h1 h2 (by omega),KR λp q h1 h2 h3=>by
     show key d1[p]!≤key d1[q]!;rw[r p,r q,Ybo (by omega),Ybo (by omega)];exact HY.out _ _ (by omega) (by omega) (by omega)⟩
    have so2:∀d1 d2:Ybq α,RotF d d1 i m E M->(∀q,M<=q->d2[q]! =d1[q]!)->SortK key (sgL (λq=>d2[q]!) M E)/\SortK key (sgL (λq=>d2[q]!) E b):=λd1 d2 r o=>⟨KR λp q h1 h2 h3=>by
     show key d2[p]!≤key d2[q]!;rw[o p h1,o q (by omega),r p,r q,Ybm (by omega),Ybo (by omega),Ybm (by omega),Ybo (by omega)];exact HX.out _ _ (by omega) (by omega) (by omega),KR λp q h1 h2 h3=>by
     show key d2[p]!≤key d2[q]!;rw[o p (by omega),o q (by omega),r p,r q,Ybm (by omega),Ybm (by omega),Ybm (by omega),Ybm (by omega)];exact HY.out _ _ (by omega) (by omega) (by omega)⟩
    have FIN:Aside _:=fin;have SO1:Aside _:=so1;have SO2:Aside _:=so2;clear fin so1 so2 hLow hHigh;have HMID:Aside _:=hmid;clear hmid;have hEz:(M:Int)+(m:Int)-(i:Int)=(E:Int):=by omega
    obtain⟨B1,HB1⟩:∃B:Bool,Aside (B=Ybr (i<m/\m<E)):=⟨_,rfl⟩;obtain⟨B2,HB2⟩:∃B:Bool,Aside (B=Ybr (a<i/\i<M)):=⟨_,rfl⟩;obtain⟨B3,HB3⟩:∃B:Bool,Aside (B=Ybr (M<E/\E<b)):=⟨_,rfl⟩
    go_upto_region 39 with fail
    go_cut [185]from 178 to 185 (λs wx=>s=.bool B1/\wr=wx)
    case first=>
     by_cases h1:(i:Int)<(m:Int)
     ·have h1d:Ybr ((i:Int)<(m:Int))=Ybv:=Ao h1
      by_cases h2:(m:Int)<(E:Int)
      ·have h2d:Ybr ((m:Int)<(E:Int))=Ybv:=Ao h2
       have hb:B1=Ybv:=by rw[HB1.out];exact Ao (by omega)
       clear HB1;subst hb
       go_wp2_with fail
       go_meet
       exact⟨rfl,rfl⟩
      ·have h2d:Ybr ((m:Int)<(E:Int))=Ybx:=Ar h2
       have hb:B1=Ybx:=by rw[HB1.out];exact Ar (by omega)
       clear HB1;subst hb
       go_wp2_with fail
       go_meet
       exact⟨rfl,rfl⟩
     ·have h1d:Ybr ((i:Int)<(m:Int))=Ybx:=Ar h1
      have hb:B1=Ybx:=by rw[HB1.out];exact Ar (by omega)
      clear HB1;subst hb
      go_wp2_with fail
      go_meet
      exact⟨rfl,rfl⟩
    case rest=>
    obtain⟨rfl,rfl⟩:=hcut
    go_upto_if 185 with fail
    go_cut []from 178 to 191 (λwx=>∃d1:Ybq α,Aside (SWK enc k w0 blk off d1 wx)/\Aside (d1.size=N)/\Aside (RotF d d1 i m E M))
    case first=>
     cases B1 with
     |false=>
      have h1:¬(i<m/\m<E):=L8 HB1.out.symm
      go_wp2_with fail
      go_meet
      exact⟨d,S1,hN,AeT (by omega) hEb.1 h1 HMID.out⟩
     |true=>
      have h1:i<m/\m<E:=Bd HB1.out.symm;obtain⟨sz1,R1⟩:=AeS (d:=d) h1.1 h1.2 (by omega) HMID.out;have R1:Aside _:=R1;have sz1:Aside _:=sz1.trans hN
      go_wp2_with (go_at_call 298;refine(AeR enc k HK2.out g cb blk off cap N i m E _ _ _ d0 d w0 _ rfl rfl rfl hN R (by omega) S1.out h1.1 h1.2 (by omega) (by omega)).mono ?_;rintro e w2 ⟨rfl,s2⟩;have S2:Aside _:=s2;clear s2)
      go_meet
      exact⟨_,S2,sz1,R1⟩
    case rest=>
    obtain⟨d1,S2,Z1,R1⟩:=hcut;clear S1 HB1;generalize wc=w2 at S2⊢;clear wc
    go_upto_region 41 with fail
    go_cut [199]from 192 to 199 (λs wx=>s=.bool B2/\w2=wx)
    case first=>
     by_cases h1:(a:Int)<(i:Int)
     ·have h1d:Ybr ((a:Int)<(i:Int))=Ybv:=Ao h1
      by_cases h2:(i:Int)<(M:Int)
      ·have h2d:Ybr ((i:Int)<(M:Int))=Ybv:=Ao h2
       have hb:B2=Ybv:=by rw[HB2.out];exact Ao (by omega)
       clear HB2;subst hb
       go_wp2_with fail
       go_meet
       exact⟨rfl,rfl⟩
      ·have h2d:Ybr ((i:Int)<(M:Int))=Ybx:=Ar h2
       have hb:B2=Ybx:=by rw[HB2.out];exact Ar (by omega)
       clear HB2;subst hb
       go_wp2_with fail
       go_meet
       exact⟨rfl,rfl⟩
     ·have h1d:Ybr ((a:Int)<(i:Int))=Ybx:=Ar h1
      have hb:B2=Ybx:=by rw[HB2.out];exact Ar (by omega)
      clear HB2;subst hb
      go_wp2_with fail
      go_meet
      exact⟨rfl,rfl⟩
    case rest=>
    obtain⟨rfl,rfl⟩:=hcut
    go_upto_if 199 with fail
    go_cut []from 192 to 205 (λwx=>∃d2:Ybq α,Aside (SWK enc k w0 blk off d2 wx)/\Aside (d2.size=N)/\Aside (MergedF key (λq=>d1[q]!) (λq=>d2[q]!) a i M))
    case first=>
     cases B2 with
     |false=>
      have h1:¬(a<i/\i<M):=L8 HB2.out.symm
      have HM:Aside (MergedF key (λq=>d1[q]!) (λq=>d1[q]!) a i M):=by
       show MergedF _ _ _ _ _ _;have so:=SO1.out _ R1.out;have h0:=HMID.out;by_cases ha:a<i
       ·have h:i=M:=by omega
        have g:=so.1;rw[h]at g⊢;exact aO g
       ·have h:i=a:=by omega
        have g:=so.2;rw[h]at g⊢;exact aN g
      go_wp2_with fail
      go_meet
      exact⟨d1,S2,Z1,HM⟩
     |true=>
      have h1:a<i/\i<M:=Bd HB2.out.symm;have hc1:∀w,SWK enc k w0 blk off d1 w->Calls Tryz.prog 286 #[.slice (some ⟨blk,off,none⟩) N cap,.int .i64 (a:Int),.int .i64 (i:Int),.int .i64 (M:Int),.func (.func g) #[] cb] w (Pm enc k w0 blk off N key d1 a i M):=λw s=>IH.out a i M h1.1 h1.2 (by omega) (by omega) d1 w _ _ _ rfl rfl rfl Z1.out s (SO1.out _ R1.out).1 (SO1.out _ R1.out).2
      go_wp2_with (go_at_call 286;(with_reducible refine(hc1 _ S2.out).mono ?_);rintro e w3 ⟨rfl,d2,sz2,s3,m2⟩;have S3:Aside _:=s3;have M1:Aside _:=m2;have Z2:Aside _:=sz2;clear s3 m2 sz2)
      go_meet
      exact⟨d2,S3,Z2,M1⟩
    case rest=>
    obtain⟨d2,S3,Z2,M1⟩:=hcut;clear S2 HB2;generalize wc=w3 at S3⊢;clear wc
    go_upto_region 43 with fail
    go_cut [213]from 206 to 213 (λs wx=>s=.bool B3/\w3=wx)
    case first=>
     by_cases h1:(M:Int)<(E:Int)
     ·have h1d:Ybr ((M:Int)<(E:Int))=Ybv:=Ao h1
      by_cases h2:(E:Int)<(b:Int)
      ·have h2d:Ybr ((E:Int)<(b:Int))=Ybv:=Ao h2
       have hb:B3=Ybv:=by rw[HB3.out];exact Ao (by omega)
       clear HB3;subst hb
       go_wp2_with fail
       go_meet
       exact⟨rfl,rfl⟩
      ·have h2d:Ybr ((E:Int)<(b:Int))=Ybx:=Ar h2
       have hb:B3=Ybx:=by rw[HB3.out];exact Ar (by omega)
       clear HB3;subst hb
       go_wp2_with fail
       go_meet
       exact⟨rfl,rfl⟩
     ·have h1d:Ybr ((M:Int)<(E:Int))=Ybx:=Ar h1
      have hb:B3=Ybx:=by rw[HB3.out];exact Ar (by omega)
      clear HB3;subst hb
      go_wp2_with fail
      go_meet
      exact⟨rfl,rfl⟩
    case rest=>
    obtain⟨rfl,rfl⟩:=hcut
    go_upto_if 213 with fail
    have so:=SO2.out _ d2 R1.out (λq hq=>M1.out.out q (.inr hq));have S4:Aside _:=so;clear so;cases B3 with
    |false=>
     have h1:¬(M<E/\E<b):=L8 HB3.out.symm
     have HM:Aside (MergedF key (λq=>d2[q]!) (λq=>d2[q]!) M E b):=by
      show MergedF _ _ _ _ _ _;have so:=S4.out;have h0:=HMID.out;by_cases ha:M<E
      ·have h:E=b:=by omega
       have g:=so.1;rw[h]at g⊢;exact aO g
      ·have h:E=M:=by omega
       have g:=so.2;rw[h]at g⊢;exact aN g
     go_wp2_with fail
     go_end0
     exact⟨rfl,d2,Z2.out,S3.out,FIN.out _ _ _ R1.out M1.out HM.out⟩
    |true=>
     have h1:M<E/\E<b:=Bd HB3.out.symm;have hc2:∀w,SWK enc k w0 blk off d2 w->Calls Tryz.prog 286 #[.slice (some ⟨blk,off,none⟩) N cap,.int .i64 (M:Int),.int .i64 (E:Int),.int .i64 (b:Int),.func (.func g) #[] cb] w (Pm enc k w0 blk off N key d2 M E b):=λw s=>IH.out M E b h1.1 h1.2 hb (by omega) d2 w _ _ _ rfl rfl rfl Z2.out s S4.out.1 S4.out.2
     go_wp2_with (go_at_call 286;(with_reducible refine(hc2 _ S3.out).mono ?_);rintro e w4 ⟨rfl,d3,sz3,s4,m3⟩;have S5:Aside _:=s4;have M3:Aside _:=m3;have Z3:Aside _:=sz3;clear s4 m3 sz3)
     go_end0
     exact⟨rfl,d3,Z3.out,S5.out,FIN.out _ _ _ R1.out M1.out M3.out⟩
 ·exact Yb0 hcase (by omega)
end Go.Lift
