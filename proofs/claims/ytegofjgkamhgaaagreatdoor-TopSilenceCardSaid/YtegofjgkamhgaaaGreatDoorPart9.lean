/- Part9 -/
import Derived.Test.YtegofjgkamhgaaaGreatDoorPart8
import Derived.Test.YtegofjgkamhgaaaGreatDoorPart2
import Derived.Test.YtegofjgkamhgaaaGreatDoorPart3
set_option linter.unusedVariables false
set_option linter.unusedSectionVars false
set_option linter.unusedSimpArgs false
open _root_ renaming List → Ya, Option → Yb, Int → Yi, Nat → Yk, UInt8 → Yl, Bool → Ys
open Bool renaming false → Yc, true → Yo
open Option renaming some → Yd, none → Ye
open Decidable renaming decide → Yf
open List renaming length → Yg
open Nat renaming beq → Ym, blt → Yz
open Go renaming Value → Yp, TypeId → Yq, Program → Yv, World → Yx, FuncId → Y6, Calls → Yat
open Or renaming inl → YaN
namespace Go.Lift
open Go.RowKit
def insL{α:Type}(l:Ya α)(i:Yk)(x:α):Ya α:=l.take i++([x]++l.drop i)
def delL{α:Type}(l:Ya α)(i:Yk):Ya α:=l.take i++l.drop (i+1)
def InsC(P:Yv)(f:Y6)(et:Yq)(k:Yk):Prop:=
 ∀(w:Yx)(base n i:Yk)(sv:Yp)(xs:Ya Yp),w.ownsRow base et k sv n xs->base<=w.heap.size->(∀v∈xs,v.oneCell'=Yo)->i<=n->n<1000000000->
  ∀(vb vc:Yk)(us ws:Ya Yp),Raw w vb et ws->ws.length=vc*k->ws.take k=us->us.length=k->(∀v∈us,v.oneCell'=Yo)->sv.ownBlock≠Yd vb->
  Yat P f #[sv,.int .i64 (i:Yi),.slice (Yd ⟨vb,0,Ye⟩) 1 vc] w λe w'=>∃As,e=.returned As/\w.grownBy w' sv.ownBlock/\(As.ownBlock=sv.ownBlock\/∀g,As.ownBlock=Yd g->w.heap.size<=g)/\
   w'.ownsRow base et k As (n+1) (xs.take (i*k)++us++xs.drop (i*k))
def DelC(P:Yv)(f:Y6)(et:Yq)(k:Yk):Prop:=
 ∀(w:Yx)(base n i:Yk)(sv:Yp)(xs:Ya Yp),w.ownsRow base et k sv n xs->(∀v∈xs,v.oneCell'=Yo)->i<n->
  Yat P f #[sv,.int .i64 (i:Yi),.int .i64 ((i:Yi)+1)] w λe w'=>∃As,e=.returned As/\w.grownBy w' sv.ownBlock/\As.ownBlock=sv.ownBlock/\
   w'.ownsRow base et k As (n-1) (xs.take (i*k)++xs.drop ((i+1)*k))
def insA(t:Yq)(e:Ty):AbsF:=⟨λ{_} bl nx args kk=>
 match args with
 |[.c (.row b ver),.c (.int .i64 i),.c (.row b2 Gz)]=>
  match bl b,bl b2 with
  |some (.row t1 e1 v1 l),Yd (.row t2 e2 v2 [x])=>
   bif Ym ver v1&&(Ym Gz v2&&(Ym t1 t&&(Ym t2 t&&(!(Ym b b2)&&Yz 0 e.size))))then
    if h1:e1=e then
     if h2:e2=e then
      CV (Yf (0<=i)&&(Yf (i<=(Yg (h1▸l:Ya e.den):Yi))&&Yf (Yg (h1▸l:Ya e.den)<1000000000)))
       (kk (.c (.row b (ver+1))) [b,b2] [(b,.row t e (ver+1) (insL (h1▸l:Ya e.den) i.toNat (h2▸x:e.den)))])
     else Ye
    else Ye
   else Ye
  |_,_=>Ye
 |_=>Ye⟩
def delA(t:Yq)(e:Ty):AbsF:=⟨λ{_} bl nx args kk=>
 match args with
 |[.c (.row b ver),.c (.int .i64 i),.c (.int .i64 j)]=>
  match bl b with
  |some (.row t1 e1 v1 l)=>
   bif Ym ver v1&&Ym t1 t then
    if h1:e1=e then
     CV (Yf (0<=i)&&(Yf (i<(Yg (h1▸l:Ya e.den):Yi))&&Yf (j=i+1)))
      (kk (.c (.row b (ver+1))) [b] [(b,.row t e (ver+1) (delL (h1▸l:Ya e.den) i.toNat))])
    else Ye
   else Ye
  |_=>Ye
 |_=>Ye⟩
section
variable{P:Yv}{f:Y6}{t:Yq}{e:Ty}
theorem Q2{ok0:OK0 P}{base:Yk}{pl:Yk->Yb Pl}{bl:Yk->Yb Blk}{w:Yx}{b ver:Yk}{l:Ya e.den}{u:Yp}(hr:RelB ok0 base pl bl w)(hb:bl b=Yd (.row t e ver l))(hu:CRep (Ak ok0 base pl bl w) (.row b ver) u):pl b=Yd (.row u [])/\∃xs,DList (λx u=>DRep w (Ak ok0 base pl bl w).ok e x u) l xs/\w.ownsRow base t e.size u l.length xs:=by
 obtain⟨_,sv,Ab,Au,AO⟩:=hu;have hq:=(AO t e ver l hb).2 rfl;subst hq;obtain⟨p,hp,hB⟩:=hr.blks b _ hb;have:p=.row u Ab:=by have h2:pl b=Yd (.row u Ab):=Au;rw[hp]at h2;injection h2
 subst this;obtain⟨h0,xs,hd,Ah⟩:=hB;subst h0;exact⟨Au,xs,hd,Ah⟩
theorem Xn{ok0:OK0 P}{base:Yk}{pl:Yk->Yb Pl}{bl:Yk->Yb Blk}{w w':Yx}{b ver:Yk}{l l':Ya e.den}{sv As:Yp}{CZ:Ya Yp}(hr:RelB ok0 base pl bl w)(hb:bl b=Yd (.row t e ver l))(hp:pl b=Yd (.row sv []))(hg:w.grownBy w' sv.ownBlock)(Dv:As.ownBlock=sv.ownBlock\/∀g,As.ownBlock=Yd g->w.heap.size<=g)(hd:DList (λx u=>DRep w (Ak ok0 base pl bl w).ok e x u) l' CZ)(Ah:w'.ownsRow base t e.size As l'.length CZ):RelB ok0 base (upd pl b (.row As [])) (upd bl b (.row t e (ver+1) l')) w'/\Step pl bl w (upd pl b (.row As [])) (upd bl b (.row t e (ver+1) l')) w'/\VRep (Ak ok0 base (upd pl b (.row As [])) (upd bl b (.row t e (ver+1) l')) w') (.c (.row b (ver+1))) As:=by
 have AQ:ver<=ver+1/\(ver=ver+1->As=sv/\l'.length=l.length):=⟨PN _,λh=>by omega⟩;have hs:=Step.grown (l':=l') hr hb hp hg Dv AQ;have F5:=hs.ext (ok0:=ok0) (base:=base);refine⟨RelB.grown hr hb hp hg Dv AQ ⟨rfl,CZ,hd.mono λx u hu=>hu.mono F5.heap,Ah⟩,hs,?_,As,[],by simp[Ak,upd],λt2 e2 Gz l2 Aj=>?_⟩
 ·rcases Ah.2 with⟨h,_⟩|⟨g,cap,AI,h,_⟩<;>rw[h]<;>rfl
 ·have Aj:upd bl b (.row t e (ver+1) l') b=Yd (.row t2 e2 Gz l2):=Aj
  simp only[upd]at Aj;simp at Aj;exact⟨by omega,λ_=>rfl⟩
theorem AbS(hC:InsC P f t e.size)(B9:∃fn,P.funcs[f]?=Yd fn/\(fn.name== "runtime.NumGoroutine")=Yc/\fn.body.isNone=Yc):AbsOk P f (insA t e):=by
 refine⟨B9,λ{β} bl nx args kk r hr=>?_⟩;simp only[insA]at hr;split at hr
 ·rename_i b ver i b2 Gz
  split at hr
  ·rename_i t1 e1 v1 l t2 e2 v2 x AV Aj
   cases hc:(Ym ver v1&&(Ym Gz v2&&(Ym t1 t&&(Ym t2 t&&(!(Ym b b2)&&Yz 0 e.size)))))with
   |false=>rw[hc]at hr;cases hr
   |true=>
    rw[hc,Ao]at hr;obtain⟨c1,hc⟩:=andB hc;obtain⟨c2,hc⟩:=andB hc;obtain⟨c3,hc⟩:=andB hc;obtain⟨c4,hc⟩:=andB hc;obtain⟨c5,c6⟩:=andB hc;have c1:=At c1;have c2:=At c2;have c3:=At c3;have c4:=At c4;have c6:=Dp c6;subst c1 c2 c3 c4
    have EX:b≠b2:=by intro h;subst h;have:Ym b b=Yo:=Nat.beq_refl b;rw[this]at c5;cases c5
    split at hr
    ·rename_i h1
     subst h1;split at hr
     ·rename_i h2
      subst h2;obtain⟨hg,hr⟩:=Dc hr;obtain⟨g1,hg⟩:=andB hg;obtain⟨g2,g3⟩:=andB hg;have g1:=AC g1;have g2:=AC g2;have g3:=AC g3;have g2:i<=(l.length:Yi):=g2;have g3:l.length<1000000000:=g3;refine⟨_,_,_,hr,λbl2 An ok0 base pl w us B7 AN=>?_⟩;have BW:=(An b (by simp)).trans AV;have IX:=(An b2 (by simp)).trans Aj;obtain⟨u1,us1,rfl,Eu,AN⟩:=AN;obtain⟨u2,us2,rfl,D6,AN⟩:=AN;obtain⟨u3,us3,rfl,Vz,AN⟩:=AN;have AN:us3=[]:=AN;subst AN;have D6:u2=.int .i64 i:=D6;subst D6;obtain⟨Cv,xs,hd,Ah⟩:=Q2 B7 BW Eu;obtain⟨De,xs2,E2,CH⟩:=Q2 B7 IX Vz;rcases Ng CH with⟨_,h,_⟩|⟨vb,vc,ws,rfl,hV,AEJ,AlX,P1,_,_⟩
      ·simp at h
      ·have Az:u1.ownBlock≠Yd vb:=λh=>by
        refine B7.sep b b2 _ _ _ _ vb EX BW IX rfl rfl Cv De ?_ ?_
        ·exact YaN h
        ·exact YaN rfl
       have FB:xs2.length=e2.size:=by rw[CH.1];simp
       have B8:=hC w base l.length i.toNat u1 xs Ah B7.baseLe hd.oneCell (by omega) g3 vb vc xs2 ws hV AEJ (by rw[show Yg [x]*e2.size=e2.size by simp]at AlX;exact AlX) FB E2.oneCell Az;have hi:((i.toNat:Yk):Yi)=i:=by omega
       rw[hi]at B8;have AD5:Yg [x]=1:=rfl;rw[AD5];refine B8.mono ?_;rintro e w' ⟨As,rfl,DZ,Dv,EZ⟩
       have BX:DList (λx u=>DRep w (Ak ok0 base pl bl2 w).ok e2 x u) (insL l i.toNat x) (xs.take (i.toNat*e2.size)++xs2++xs.drop (i.toNat*e2.size)):=by rw[C1];exact(hd.take i.toNat).append (E2.append (hd.drop i.toNat))
       have AK:(insL l i.toNat x).length=l.length+1:=by simp only[insL,Bd,CJ,GN,Be,BP];omega
       obtain⟨q1,q2,q3⟩:=Xn (l':=insL l i.toNat x) B7 BW Cv DZ Dv BX (by rw[AK];exact EZ);exact⟨As,_,rfl,q1,q2,q3⟩
     ·cases hr
    ·cases hr
  ·cases hr
 ·cases hr
theorem AoF(hC:DelC P f t e.size)(B9:∃fn,P.funcs[f]?=Yd fn/\(fn.name== "runtime.NumGoroutine")=Yc/\fn.body.isNone=Yc):AbsOk P f (delA t e):=by
 refine⟨B9,λ{β} bl nx args kk r hr=>?_⟩;simp only[delA]at hr;split at hr
 ·rename_i b ver i j
  split at hr
  ·rename_i t1 e1 v1 l AV
   cases hc:(Ym ver v1&&Ym t1 t)with
   |false=>rw[hc]at hr;cases hr
   |true=>
    rw[hc,Ao]at hr;obtain⟨c1,c3⟩:=andB hc;have c1:=At c1;have c3:=At c3;subst c1 c3;split at hr
    ·rename_i h1
     subst h1;obtain⟨hg,hk⟩:=Dc hr;clear hr;obtain⟨g1,hg⟩:=andB hg;obtain⟨g2,g3⟩:=andB hg;have g1:=AC g1;have g2:=AC g2;have g3:=AC g3;have g2:i<(l.length:Yi):=g2;subst g3;refine⟨_,_,_,hk,λbl2 An ok0 base pl w us B7 AN=>?_⟩;have BW:=(An b (by simp)).trans AV;obtain⟨u1,us1,rfl,Eu,AN⟩:=AN;obtain⟨u2,us2,rfl,D6,AN⟩:=AN;obtain⟨u3,us3,rfl,Vz,AN⟩:=AN;have AN:us3=[]:=AN;subst AN;have D6:u2=.int .i64 i:=D6;have Vz:u3=.int .i64 (i+1):=Vz;subst D6 Vz;obtain⟨Cv,xs,hd,Ah⟩:=Q2 B7 BW Eu;have B8:=hC w base l.length i.toNat u1 xs Ah hd.oneCell (by omega);have hi:((i.toNat:Yk):Yi)=i:=by omega
     rw[hi]at B8;refine B8.mono ?_;rintro e w' ⟨As,rfl,DZ,Dv,EZ⟩;have BX:DList (λx u=>DRep w (Ak ok0 base pl bl2 w).ok e1 x u) (delL l i.toNat) (xs.take (i.toNat*e1.size)++xs.drop ((i.toNat+1)*e1.size)):=(hd.take i.toNat).append (hd.drop (i.toNat+1))
     have AK:(delL l i.toNat).length=l.length-1:=by simp only[delL,Bd,CJ,GN];omega
     obtain⟨q1,q2,q3⟩:=Xn (l':=delL l i.toNat) B7 BW Cv DZ (.inl Dv) BX (by rw[AK];exact EZ);exact⟨As,_,rfl,q1,q2,q3⟩
    ·cases hr
  ·cases hr
 ·cases hr
end
end Go.Lift
namespace Go.Lift
open Go.RowKit
def Ln{α β:Type}(f:α->(Ys->Yb β)->Yb β):Ya α->(Ya α->Yb β)->Yb β
 |[],k=>k []
 |x::l,k=>f x λb=>Ln f l λl'=>k (bif b then l' else x::l')
def IL{α:Type}:Ya α->Ya Ys->Ya α
 |[],_=>[]
 |_::_,[]=>[]
 |x::l,b::bs=>bif b then IL l bs else x::IL l bs
theorem iN{α β:Type}{f:α->(Ys->Yb β)->Yb β}{Q:α->Ys->Prop}(hf:∀x k r,f x k=Yd r->∃b,k b=Yd r/\Q x b):∀(l:Ya α)(k:Ya α->Yb β)(r:β),Ln f l k=Yd r->∃bs:Ya Ys,bs.length=l.length/\k (IL l bs)=Yd r/\∀j x,l[j]?=Yd x->Q x (bs.getD j Yc)
 |[],k,r,h=>⟨[],rfl,h,λj x hx=>by simp at hx⟩
 |x::l,k,r,h=>by
  obtain⟨b,h1,h2⟩:=hf x _ r h;obtain⟨bs,h3,h4,h5⟩:=iN hf l _ r h1;refine⟨b::bs,by simp[h3],by simpa [IL]using h4,λj y hy=>?_⟩;cases j with
  |zero=>simp only[Dg,Af]at hy;subst hy;exact h2
  |succ j=>simpa using h5 j y (by simpa using hy)
theorem AoG(b:Ys)(bs:Ya Ys)(n:Yk):D3 (λj=>(b::bs).getD j Yc) (n+1)=(if b then []else [0])++(D3 (λj=>bs.getD j Yc) n).map (· +1):=by
 unfold D3;rw[List.range_succ_eq_map,LJ,List.filter_map];have:((λq=>!(b::bs).getD q Yc)∘Nat.succ)=λq=>!bs.getD q Yc:=by funext q;simp
 rw[this];cases b<;>simp
theorem AbT{u v:Ya Yp}{k:Yk}(hu:u.length=k):chk (u++v) k 0=u:=by unfold chk;rw[Sg,PK];exact LL hu
theorem AbU{u v:Ya Yp}{k:Yk}(hu:u.length=k)(q:Yk):chk (u++v) k (q+1)=chk v k q:=by unfold chk;rw[DJ,MJ (q*k) k,<-PJ,List.drop_left' hu]
theorem iO{α:Type}{R:α->Ya Yp->Prop}{k:Yk}(hk:∀x u,R x u->u.length=k):∀{l:Ya α}{xs:Ya Yp},DList R l xs->∀bs:Ya Ys,bs.length=l.length->DList R (IL l bs) ((D3 (λj=>bs.getD j Yc) l.length).flatMap (chk xs k))/\(IL l bs).length=(D3 (λj=>bs.getD j Yc) l.length).length
 |[],xs,h,bs,hb=>⟨by simp[D3,IL,DList],by simp[D3,IL]⟩
 |x::l,xs,⟨u,v,e,hr,ht⟩,[],hb=>by simp at hb
 |x::l,xs,⟨u,v,e,hr,ht⟩,b::bs,hb=>by
  subst e;have hu:=hk x u hr;obtain⟨i1,i2⟩:=iO hk ht bs (by simpa using hb)
  have hm:((D3 (λj=>bs.getD j Yc) l.length).map (· +1)).flatMap (chk (u++v) k)=(D3 (λj=>bs.getD j Yc) l.length).flatMap (chk v k):=by rw[dT];congr 1;funext q;exact AbU hu q
  rw[Be,AoG,dK,hm,Bd,Fc,<-i2];cases b with
  |true=>exact⟨by simpa [IL]using i1,by simp[IL]⟩
  |false=>refine⟨?_,by simp[IL];omega⟩;simp only[IL,BU,G3,Cb,NV,List.flatMap_nil,Gj,AbT hu];exact⟨u,_,rfl,hr,i1⟩
theorem iP{α:Type}{R:α->Ya Yp->Prop}{k:Yk}(hk:∀x u,R x u->u.length=k):∀{l:Ya α}{xs:Ya Yp},DList R l xs->∀j x,l[j]?=Yd x->R x (chk xs k j)
 |[],_,_,j,x,hx=>by simp at hx
 |y::l,xs,⟨u,v,e,hr,ht⟩,0,x,hx=>by simp only[Dg,Af]at hx;subst hx e;rw[AbT (hk _ _ hr)];exact hr
 |y::l,xs,⟨u,v,e,hr,ht⟩,j+1,x,hx=>by subst e;rw[AbU (hk _ _ hr)];exact iP hk ht j x (by simpa using hx)
section
variable{P:Yv}
def okP(P:Yv)(n:Yk)(g0:Yb Yk):OK0 P:=⟨λg=>g<n/\g0≠Yd g,λ_=>False,[]⟩
theorem AbV{ok0:OK0 P}{base:Yk}{pl:Yk->Yb Pl}{bl:Yk->Yb Blk}{w W:Yx}{g0:Yb Yk}(hr:RelB ok0 base pl bl w)(hW:w.grownBy W g0)(ho:∀g,g0=Yd g->Own pl bl g):RelB (okP P w.heap.size g0) W.heap.size (λ_=>Ye) (fnBl []) W:=by
 refine⟨Aw _,λi B h=>by simp[fnBl]at h,λi j B C p q g _ h=>by simp[fnBl]at h,λi _=>rfl,⟨hr.glob.g0.gen hW.size (λg hg hn _=>⟨hW.block g hg λh=>hn (ho g h.symm),?_⟩) λg h=>h.elim,λg h=>h.elim⟩⟩;rintro⟨i,B,p,h,_⟩;simp[fnBl]at h
theorem AbW{okA:Yk->Prop}{w W:Yx}{g0:Yb Yk}(hW:w.grownBy W g0)(hA:∀g,okA g->g0≠Yd g):Keeps w okA W (Ak (okP P w.heap.size g0) W.heap.size (λ_=>Ye) (fnBl []) W).ok:=λg hg hl=>by
 refine⟨⟨.inl ⟨hl,hA g hg⟩,?_⟩,hW.block g hl (hA g hg).symm⟩;rintro⟨i,B,p,h,_⟩;simp[fnBl]at h
theorem AbX{f:Y6}{ps rs:Ya (Ys×Ya CT)}{run:{β:Type}->ST.dens ps×BT.dens []->(ST.dens rs×BT.dens []->Yb β)->Yb β}(h:SpecOk P f ⟨ps,[],rs,[],run⟩){β:Type}{x:ST.dens ps}{k:ST.dens rs×BT.dens []->Yb β}{r:β}(hr:run (x,()) k=Yd r):∃y:ST.dens rs,k (y,())=Yd r/\∀(ok0:OK0 P)(W:Yx)(args:Ya Yp),RelB ok0 W.heap.size (λ_=>Ye) (fnBl []) W->TReps (Ak ok0 W.heap.size (λ_=>Ye) (fnBl []) W) (mkS [] ps x) args->Yat P f args.toArray W λe W'=>∃vals Ac,e=.returned (Gk vals)/\W.grownBy W' Ye/\TReps (Ak ok0 W.heap.size Ac (fnBl []) W') (mkS [] rs y) vals:=by
 obtain⟨⟨y,u⟩,h1,h2⟩:=h.ok (x,()) k r hr;refine⟨y,h1,λok0 W args hR hT=>?_⟩;refine(h2 ok0 (λ_=>Ye) W args hR hT).mono ?_;rintro e W' ⟨vals,Ac,rfl,h3,h4,h5⟩;refine⟨vals,Ac,rfl,⟨h4.os,h4.tape,h4.output,h4.size,λg hg _=>(h4.out g hg ?_).1⟩,h5⟩;rintro⟨i,B,p,hb,_⟩;simp[fnBl,mkB]at hb
end
def AbY(P:Program)(f:FuncId)(et:TypeId)(k:Nat):Prop:=
 ∀(w:Yx)(base n:Yk)(sv:Yp)(xs:Ya Yp),w.ownsRow base et k sv n xs->(∀v∈xs,v.oneCell'=Yo)->∀(cl:Y6)(lb:Array Yp),(∀args w,(callFunc cl args).run P w=.ok (.enter cl args) w)->
  ∀(pr:Yk->Ys),(∀W,w.grownBy W sv.ownBlock->∀j,j<n->Yat P cl (#[.agg (chk xs k j).toArray]++lb) W λe W'=>e=.returned (.bool (pr j))/\W.grownBy W' Ye)->
  Yat P f #[sv,.func (.func cl) #[] lb] w λe w'=>∃As,e=.returned As/\w.grownBy w' sv.ownBlock/\As.ownBlock=sv.ownBlock/\w'.ownsRow base et k As (D3 pr n).length ((D3 pr n).flatMap (chk xs k))
def iQ(t:Yq)(e yR:Ty)(cl:Y6)(c:{β:Type}->yR.den->e.den->Yi->(Ys->Yb β)->Yb β):AbsF:=⟨λ{β} bl nx args kk=>
 match args with
 |[.c (.row b ver),.c (.fn KC [c1,c2])]=>
  match bl b,bl c1,bl c2 with
  |some (.row t1 e1 v1 l),Yd (.cells _ cs1),Yd (.cells _ (.int .i64 now::_))=>
   bif Ym KC cl&&(Ym ver v1&&Ym t1 t)then
    if h1:e1=e then
     match Kp (λ_=>Ye) yR cs1 with
     |some rr=>Ln (λx k=>c rr x now k) (h1▸l:Ya e.den) λl'=>kk (.c (.row b (ver+1))) [b,c1,c2] [(b,.row t e (ver+1) l')]
     |none=>Ye
    else Ye
   else Ye
  |_,_,_=>Ye
 |_=>Ye⟩
def CloT(P:Yv)(cl fi:Y6)(k kr:Yk):Prop:=
 ∀(W:Yx)(g1 g2:Yk)(rs us:Ya Yp)(now:Yi)(b:Ys),us.length=k->rs.length=kr->(∀j u,rs[j]?=Yd u->W.cell? ((⟨g1,0,Ye⟩:Addr).add j)=Yd u)->W.cell? ⟨g2,0,Ye⟩=Yd (.int .i64 now)->
  (∀W',W.grownBy W' Ye->Yat P fi #[.agg rs.toArray,.agg us.toArray,.int .i64 now] W' λe W''=>e=.returned (.bool b)/\W'.grownBy W'' Ye)->
  Yat P cl #[.agg us.toArray,.pointer (Yd ⟨g1,0,Ye⟩),.pointer (Yd ⟨g2,0,Ye⟩)] W λe W'=>e=.returned (.bool b)/\W.grownBy W' Ye
def AbZ(bl:Yk->Yb Blk):C->Yb (Ya Yk×Ya (Ya Yl))
 |.list .str R=>Yd ([],R)
 |.row b3 v3=>
  match bl b3 with
  |some (.row _ .str v l)=>bif Ym v3 v then Yd ([b3],l)else Ye
  |_=>Ye
 |_=>Ye
def iR(t:Yq)(τ:Ty)(o:Yk)(cl:Y6)(c:{β:Type}->Ya (Ya Yl)->Ya Yl->(Ys->Yb β)->Yb β):AbsF:=⟨λ{β} bl nx args kk=>
 match args with
 |[.c (.row b ver),.c (.fn KC [c1])]=>
  match bl b,bl c1 with
  |some (.row t1 e1 v1 l),Yd (.cells _ cs1)=>
   bif Ym KC cl&&(Ym ver v1&&Ym t1 t)then
    if h1:e1=.prod .str τ then
     match cs1[o]? with
     |some x0=>
      match AbZ bl x0 with
      |some (rds,R)=>Ln (λx k=>c R x.1 k) (h1▸l:Ya (Ty.prod .str τ).den) λl'=>kk (.c (.row b (ver+1))) (b::c1::rds) [(b,.row t (.prod .str τ) (ver+1) l')]
      |none=>Ye
     |none=>Ye
    else Ye
   else Ye
  |_,_=>Ye
 |_=>Ye⟩
def CloL(P:Yv)(cl fi:Y6)(k o:Yk):Prop:=
 ∀(W:Yx)(g1:Yk)(sv:Yp)(s:ByteArray)(us:Ya Yp)(b:Ys),us.length=k->us[0]?=Yd (.string s)->W.cell? ⟨g1,o,Ye⟩=Yd sv->
  (∀W',W.grownBy W' Ye->Yat P fi #[sv,.string s] W' λe W''=>e=.returned (.bool b)/\W'.grownBy W'' Ye)->
  Yat P cl #[.agg us.toArray,.pointer (Yd ⟨g1,0,Ye⟩)] W λe W'=>e=.returned (.bool b)/\W.grownBy W' Ye
section
variable{P:Yv}
theorem Ac0{w W W':Yx}{g0:Yb Yk}(h1:w.grownBy W g0)(h2:W.grownBy W' Ye):w.grownBy W' g0:=
 ⟨h2.os.trans h1.os,h2.tape.trans h1.tape,h2.output.trans h1.output,BH h1.size h2.size,λk hk Az=>(h2.block k (Ij hk h1.size) (by simp)).trans (h1.block k hk Az)⟩
theorem iS{ok0:OK0 P}{base:Yk}{pl:Yk->Yb Pl}{bl:Yk->Yb Blk}{w:Yx}{c g:Yk}{tc:Yq}{cs:Ya C}(hr:RelB ok0 base pl bl w)(hc:bl c=Yd (.cells tc cs))(hp:pl c=Yd (.cells g)):∃vs,w.heap[g]?=Yd (.cells vs.toArray tc (0,0))/\CReps (Ak ok0 base pl bl w) cs vs:=by
 obtain⟨p,CB,hB⟩:=hr.blks c _ hc;rw[hp]at CB;injection CB with CB;subst CB;exact hB
theorem iT{ok0:OK0 P}{base:Yk}{pl:Yk->Yb Pl}{bl:Yk->Yb Blk}{w:Yx}{b c g:Yk}{B:Blk}{tc:Yq}{cs:Ya C}{sv:Yp}(hr:RelB ok0 base pl bl w)(hb:bl b=Yd B)(hB:B.live=Yo)(Ps:pl b=Yd (.row sv []))(hc:bl c=Yd (.cells tc cs))(hp:pl c=Yd (.cells g))(Az:b≠c):sv.ownBlock≠Yd g:=λh=>
 hr.sep b c _ _ _ _ g Az hb hc hB rfl Ps hp (YaN h) rfl
set_option maxHeartbeats 1000000 in
theorem AoH{f cl fi:Y6}{t:Yq}{e yR:Ty}{c:{β:Type}->yR.den->e.den->Yi->(Ys->Yb β)->Yb β}(hC:AbY P f t e.size)(DF:CloT P cl fi e.size yR.size)(hS:SpecOk P fi (sg [(Yo,[.data yR]),(Yo,[.data e]),(Yc,[.data (.int .i64)])] [] [(Yc,[.data .bool])] [] c))(eg:∀args w,(callFunc cl args).run P w=.ok (.enter cl args) w)(B9:∃fn,P.funcs[f]?=Yd fn/\(fn.name== "runtime.NumGoroutine")=Yc/\fn.body.isNone=Yc):AbsOk P f (iQ t e yR cl c):=by
 refine⟨B9,λ{β} bl nx args kk r hr=>?_⟩;simp only[iQ]at hr;split at hr
 ·rename_i b ver KC c1 c2
  split at hr
  ·rename_i t1 e1 v1 l tc1 cs1 tc2 now cs2 AV Aj CF
   cases hc:(Ym KC cl&&(Ym ver v1&&Ym t1 t))with
   |false=>rw[hc]at hr;cases hr
   |true=>
    rw[hc,Ao]at hr;obtain⟨q1,hc⟩:=andB hc;obtain⟨q2,q3⟩:=andB hc;have q1:=At q1;have q2:=At q2;have q3:=At q3;subst q1 q2 q3;split at hr
    ·rename_i h1
     subst h1;split at hr
     ·rename_i rr Vn
      obtain⟨bs,An,hk,hQ⟩:=iN (Q:=λx b=>∀(ok0:OK0 P)(W:Yx)(args:Ya Yp),RelB ok0 W.heap.size (λ_=>Ye) (fnBl []) W->
        TReps (Ak ok0 W.heap.size (λ_=>Ye) (fnBl []) W) (mkS [] [(Yo,[.data yR]),(Yo,[.data e1]),(Yc,[.data (.int .i64)])] ((rr,()),(x,()),(now,()),())) args->Yat P fi args.toArray W λe W'=>e=.returned (.bool b)/\W.grownBy W' Ye)
       (λx k r hx=>by obtain⟨y,h1,h2⟩:=AbX (P:=P) hS (x:=((rr,()),(x,()),(now,()),())) (k:=λy=>k y.1.1.1) (r:=r) hx;refine⟨y.1.1,h1,λok0 W args hR hT=>(h2 ok0 W args hR hT).mono ?_⟩;rintro e W' ⟨vals,Ac,rfl,hg,hv⟩;refine⟨?_,hg⟩;obtain⟨v,vs,rfl,⟨us,Eu,D6⟩,Ck⟩:=hv;have Ck:vs=[]:=Ck;subst Ck;have Eu:CReps _ [C.bool y.1.1] us:=Eu;obtain⟨v',Av,e1,e2,e3⟩:=Eu;have e2:v'=.bool y.1.1:=e2;have e3:Av=[]:=e3;subst e2 e3;subst e1;have D6:[Value.bool y.1.1]=[v]:=D6;injection D6 with D6;subst D6;rfl) l _ r hr
      refine⟨_,_,_,hk,λbl2 BN ok0 base pl w us B7 AN=>?_⟩;have BW:=(BN b (by simp)).trans AV;have IX:=(BN c1 (by simp)).trans Aj;have OS:=(BN c2 (by simp)).trans CF;obtain⟨u1,us1,rfl,Eu,AN⟩:=AN;obtain⟨u2,us2,rfl,D6,AN⟩:=AN;have AN:us2=[]:=AN;subst AN;obtain⟨Cv,xs,hd,Ah⟩:=Q2 B7 BW Eu;obtain⟨gs,Jb,D6⟩:=D6
      obtain⟨g1,g2,rfl,Vm,AlG⟩:∃g1 g2,gs=[g1,g2]/\pl c1=Yd (.cells g1)/\pl c2=Yd (.cells g2):=by
       match gs,Jb with
       |[g1,g2],h=>simp only[CP,Il,CK,Ef]at h;exact⟨g1,g2,rfl,h.1,h.2⟩
       |[],h=>simp at h
       |[_],h=>simp at h
       |_::_::_::_,h=>simp at h
      have D6:u2=.func (.func KC) #[] #[.pointer (Yd ⟨g1,0,Ye⟩),.pointer (Yd ⟨g2,0,Ye⟩)]:=D6;subst D6;obtain⟨rs,Ep,xN⟩:=iS B7 IX Vm;obtain⟨ns,Ia,xA⟩:=iS B7 OS AlG;have AlO:DRep w (Ak ok0 base pl bl2 w).ok yR rr rs:=MT (E:=Ak ok0 base pl bl2 w) B7.blksOk (Rows.none _ _) xN Vn;obtain⟨nv,AFb,e1,e2,_⟩:=xA;have e2:nv=.int .i64 now:=e2;subst e2 e1;have vY:b≠c1:=λh=>by rw[h,IX]at BW;cases BW
      have ADb:b≠c2:=λh=>by rw[h,OS]at BW;cases BW
      have Vg:=iT B7 BW rfl Cv IX Vm vY;have Cz:=iT B7 BW rfl Cv OS AlG ADb;have L7:∀g,u1.ownBlock=Yd g->Own pl bl2 g:=λg h=>⟨b,_,_,BW,rfl,Cv,YaN h⟩;have AK:∀(x:e1.den)(u:Ya Yp),DRep w (Ak ok0 base pl bl2 w).ok e1 x u->u.length=e1.size:=λx u h=>h.length
      have B8:=hC w base l.length u1 xs Ah hd.oneCell KC #[.pointer (Yd ⟨g1,0,Ye⟩),.pointer (Yd ⟨g2,0,Ye⟩)] eg (λj=>bs.getD j Yc) (λW hW j hj=>by
       have V4:l[j]?=Yd l[j]:=C0 hj;have UF:=iP AK hd j _ V4;refine DF W g1 g2 rs (chk xs e1.size j) now (bs.getD j Yc) UF.length AlO.length (λq u hq=>?_) ?_ λW' hW'=>?_
       ·have Ea:g1<w.heap.size:=(Fb.1 Ep).1
        have:W.heap[g1]?=Yd (.cells rs.toArray tc1 (0,0)):=(hW.block g1 Ea Vg.symm).trans Ep;rw[Addr.add_lit,CQ];exact(show Raw W g1 tc1 rs from this).cell hq
       ·have Je:g2<w.heap.size:=(Fb.1 Ia).1
        have:W.heap[g2]?=Yd (.cells (Value.int .i64 now::AFb).toArray tc2 (0,0)):=(hW.block g2 Je Cz.symm).trans Ia;exact(show Raw W g2 tc2 _ from this).cell (j:=0) rfl
       ·have hWW:=Ac0 hW hW'
        have KK:=AbW (P:=P) (okA:=(Ak ok0 base pl bl2 w).ok) hWW λg hg h=>hg.2 (L7 g h);refine hQ j l[j] V4 (okP P w.heap.size u1.ownBlock) W' [.agg rs.toArray,.agg (chk xs e1.size j).toArray,.int .i64 now] (AbV B7 hWW L7) ?_;refine⟨_,_,rfl,⟨rs,?_,rfl⟩,_,_,rfl,⟨chk xs e1.size j,?_,rfl⟩,_,_,rfl,⟨[.int .i64 now],?_,rfl⟩,rfl⟩
        ·have:=FW (E:=Ak (okP P w.heap.size u1.ownBlock) W'.heap.size (λ_=>Ye) (fnBl []) W') (AlO.mono KK)
         simpa [mkC]using this
        ·have:=FW (E:=Ak (okP P w.heap.size u1.ownBlock) W'.heap.size (λ_=>Ye) (fnBl []) W') (UF.mono KK)
         simpa [mkC]using this
        ·exact⟨_,_,rfl,rfl,rfl⟩)
      refine B8.mono ?_;rintro e w' ⟨As,rfl,DZ,Dv,EZ⟩;obtain⟨BX,F8⟩:=iO AK hd bs An;obtain⟨z1,z2,z3⟩:=Xn (l':=IL l bs) B7 BW Cv DZ (.inl Dv) BX (by rw[F8];exact EZ);exact⟨As,_,rfl,z1,z2,z3⟩
     ·cases hr
    ·cases hr
  ·cases hr
 ·cases hr
theorem CReps.at{E:Env}:∀{cs:Ya C}{vs:Ya Yp}(o:Yk)(x:C),CReps E cs vs->cs[o]?=Yd x->∃v,vs[o]?=Yd v/\CRep E x v
 |[],_,o,x,_,h=>by simp at h
 |c::cs,vs,0,x,⟨v,Av,e,h1,h2⟩,h=>by simp only[Dg,Af]at h;subst h e;exact⟨v,rfl,h1⟩
 |c::cs,vs,o+1,x,⟨v,Av,e,h1,h2⟩,h=>by subst e;simpa using CReps.at o x h2 (by simpa using h)
set_option maxHeartbeats 1000000 in
theorem AoI{f cl fi:Y6}{t:Yq}{τ:Ty}{o:Yk}{c:{β:Type}->Ya (Ya Yl)->Ya Yl->(Ys->Yb β)->Yb β}(hC:AbY P f t (Ty.prod .str τ).size)(DF:CloL P cl fi (Ty.prod .str τ).size o)(hS:SpecOk P fi (sg [(Yc,[.data (.slice .str)]),(Yc,[.data .str])] [] [(Yc,[.data .bool])] [] c))(eg:∀args w,(callFunc cl args).run P w=.ok (.enter cl args) w)(B9:∃fn,P.funcs[f]?=Yd fn/\(fn.name== "runtime.NumGoroutine")=Yc/\fn.body.isNone=Yc):AbsOk P f (iR t τ o cl c):=by
 refine⟨B9,λ{β} bl nx args kk r hr=>?_⟩;simp only[iR]at hr;split at hr
 ·rename_i b ver KC c1
  split at hr
  ·rename_i t1 e1 v1 l tc1 cs1 AV Aj
   cases hc:(Ym KC cl&&(Ym ver v1&&Ym t1 t))with
   |false=>rw[hc]at hr;cases hr
   |true=>
    rw[hc,Ao]at hr;obtain⟨q1,hc⟩:=andB hc;obtain⟨q2,q3⟩:=andB hc;have q1:=At q1;have q2:=At q2;have q3:=At q3;subst q1 q2 q3;split at hr
    ·rename_i h1
     subst h1;split at hr
     ·rename_i x0 Bn
      split at hr
      case h_2=>cases hr
      rename_i rds R E4
      obtain⟨bs,An,hk,hQ⟩:=iN (Q:=λ(x:(Ty.prod .str τ).den) b=>∀(ok0:OK0 P)(W:Yx)(args:Ya Yp),RelB ok0 W.heap.size (λ_=>Ye) (fnBl []) W->
        TReps (Ak ok0 W.heap.size (λ_=>Ye) (fnBl []) W) (mkS [] [(Yc,[.data (.slice .str)]),(Yc,[.data .str])] ((R,()),(x.1,()),())) args->Yat P fi args.toArray W λe W'=>e=.returned (.bool b)/\W.grownBy W' Ye)
       (λx k r hx=>by obtain⟨y,h1,h2⟩:=AbX (P:=P) hS (x:=((R,()),(x.1,()),())) (k:=λy=>k y.1.1.1) (r:=r) hx;refine⟨y.1.1,h1,λok0 W args hR hT=>(h2 ok0 W args hR hT).mono ?_⟩;rintro e W' ⟨vals,Ac,rfl,hg,hv⟩;refine⟨?_,hg⟩;obtain⟨v,vs,rfl,⟨us,Eu,D6⟩,Ck⟩:=hv;have Ck:vs=[]:=Ck;subst Ck;have Eu:CReps _ [C.bool y.1.1] us:=Eu;obtain⟨v',Av,e1,e2,e3⟩:=Eu;have e2:v'=.bool y.1.1:=e2;have e3:Av=[]:=e3;subst e2 e3;subst e1;have D6:[Value.bool y.1.1]=[v]:=D6;injection D6 with D6;subst D6;rfl) l _ r hr
      refine⟨_,_,_,hk,λbl2 BN ok0 base pl w us B7 AN=>?_⟩;have BW:=(BN b (by simp)).trans AV;have IX:=(BN c1 (by simp)).trans Aj;obtain⟨u1,us1,rfl,Eu,AN⟩:=AN;obtain⟨u2,us2,rfl,D6,AN⟩:=AN;have AN:us2=[]:=AN;subst AN;obtain⟨Cv,xs,hd,Ah⟩:=Q2 B7 BW Eu;obtain⟨gs,Jb,D6⟩:=D6
      obtain⟨g1,rfl,Vm⟩:∃g1,gs=[g1]/\pl c1=Yd (.cells g1):=by
       match gs,Jb with
       |[g1],h=>simp only[CP,Il,CK,Ef]at h;exact⟨g1,rfl,h⟩
       |[],h=>simp at h
       |_::_::_,h=>simp at h
      have D6:u2=.func (.func KC) #[] #[.pointer (Yd ⟨g1,0,Ye⟩)]:=D6;subst D6;obtain⟨ns,Ep,xA⟩:=iS B7 IX Vm;obtain⟨sv,Au,AlS⟩:=xA.at o _ Bn;have vY:b≠c1:=λh=>by rw[h,IX]at BW;cases BW
      have Vg:=iT B7 BW rfl Cv IX Vm vY;have L7:∀g,u1.ownBlock=Yd g->Own pl bl2 g:=λg h=>⟨b,_,_,BW,rfl,Cv,YaN h⟩
      obtain⟨okA,AEv,hokA⟩:∃okA:Yk->Prop,DRep w okA (.slice .str) R [sv]/\∀g,okA g->u1.ownBlock≠Yd g:=by
       unfold AbZ at E4;split at E4
       ·injection E4 with E4
        injection E4 with e1 e2;subst e1 e2;exact⟨_,AlS,λg hg h=>hg.2 (L7 g h)⟩
       ·rename_i b3 v3
        split at E4
        ·rename_i t3 v l3 CF
         cases hv:Ym v3 v with
         |false=>rw[hv]at E4;cases E4
         |true=>
          rw[hv,Ao]at E4;have hv:=At hv;subst hv;injection E4 with E4;injection E4 with e1 e2;subst e1 e2;have OS:=(BN b3 (by simp)).trans CF;obtain⟨EO,xs3,Kg,Vl⟩:=Q2 B7 OS AlS;have EX:b≠b3:=λh=>by rw[h,OS]at BW;cases BW
          refine⟨λg=>(Ak ok0 base pl bl2 w).ok g\/sv.ownBlock=Yd g,fI (λg hg=>.inr hg) (Kg.mono λx u hu=>hu.mono λg hg _=>⟨.inl hg,rfl⟩) Vl,λg hg h=>?_⟩;rcases hg with hg|hg
          ·exact hg.2 (L7 g h)
          ·exact B7.sep b b3 _ _ _ _ g EX BW OS rfl rfl Cv EO (YaN h) (YaN hg)
        ·cases E4
       ·cases E4
      have AK:∀(x:(Ty.prod .str τ).den)(u:Ya Yp),DRep w (Ak ok0 base pl bl2 w).ok (.prod .str τ) x u->u.length=(Ty.prod .str τ).size:=λx u h=>h.length
      have B8:=hC w base l.length u1 xs Ah hd.oneCell KC #[.pointer (Yd ⟨g1,0,Ye⟩)] eg (λj=>bs.getD j Yc) (λW hW j hj=>by
       have V4:l[j]?=Yd l[j]:=C0 hj;have UF:=iP AK hd j _ V4;have ADp:=UF;obtain⟨ku,kv,ADh,Vb,R1⟩:=ADp;have Vb:ku=[.string ⟨(l[j].1:Ya Yl).toArray⟩]:=Vb;subst Vb;refine DF W g1 sv ⟨(l[j].1:Ya Yl).toArray⟩ (chk xs (Ty.prod .str τ).size j) (bs.getD j Yc) UF.length (by rw[ADh];rfl) ?_ λW' hW'=>?_
       ·have Ea:g1<w.heap.size:=(Fb.1 Ep).1
        have:W.heap[g1]?=Yd (.cells ns.toArray tc1 (0,0)):=(hW.block g1 Ea Vg.symm).trans Ep;exact(show Raw W g1 tc1 ns from this).cell Au
       ·have hWW:=Ac0 hW hW'
        have KK:=AbW (P:=P) (okA:=okA) hWW hokA;refine hQ j l[j] V4 (okP P w.heap.size u1.ownBlock) W' [sv,.string ⟨(l[j].1:Ya Yl).toArray⟩] (AbV B7 hWW L7) ?_;refine⟨_,_,rfl,⟨[sv],?_,rfl⟩,_,_,rfl,⟨[.string ⟨(l[j].1:Ya Yl).toArray⟩],?_,rfl⟩,rfl⟩
        ·have:=FW (E:=Ak (okP P w.heap.size u1.ownBlock) W'.heap.size (λ_=>Ye) (fnBl []) W') (AEv.mono KK)
         simpa [mkC]using this
        ·exact⟨_,_,rfl,rfl,rfl⟩)
      refine B8.mono ?_;rintro e w' ⟨As,rfl,DZ,Dv,EZ⟩;obtain⟨BX,F8⟩:=iO AK hd bs An;obtain⟨z1,z2,z3⟩:=Xn (l':=IL l bs) B7 BW Cv DZ (.inl Dv) BX (by rw[F8];exact EZ);exact⟨As,_,rfl,z1,z2,z3⟩
     ·cases hr
    ·cases hr
  ·cases hr
 ·cases hr
end
end Go.Lift
