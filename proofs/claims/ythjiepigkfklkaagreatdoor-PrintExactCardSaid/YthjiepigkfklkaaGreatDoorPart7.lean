/- Part7 -/
import Derived.LoopN
import Derived.KernelRfl
import Derived.Below
import Derived.IntWalk
import Derived.Deep.Slices
import Derived.Deep.Fields
import Derived.ChangeSame
import Derived.OpenShut
import Derived.WalkKit
import Derived.ProofKit
import Derived.Test.YthjiepigkfklkaaGreatDoorPart6
set_option linter.unusedVariables false
set_option linter.unusedSectionVars false
set_option linter.unusedSimpArgs false
open _root_ renaming Option → Ya, List → Ye, Nat → Yn, Bool → Ys, Array → YQ
open Option renaming none → Yf, some → Yg
open Bool renaming false → Yi, true → Yp
open Nat renaming beq → Yo, blt → Y0, ble → YI
open Go renaming Value → Yq, TypeId → Yr, Program → Yw, World → Yx, FuncId → YA, maxLen → Yaj
open Go.Result renaming andThen_ok → Y9
open Go.Sem renaming run_bind → YC, run_pure → YY
open Go.Value renaming okWide → Yab
open Go.DataW renaming TrodAll → Yac, trod → YaF
open Go.Cell renaming okWide → YaQ
namespace Go.Lift
noncomputable section
open Go.RowKit
def eqE:AExit->AExit->Ys
 |.normal,.normal=>Yp
 |.exit a,.exit b=>Yo a b
 |.ret,.ret=>Yp
 |_,_=>Yi
theorem AuU{a b:AExit}(h:eqE a b=Yp):a=b:=by cases a<;>cases b<;>simp only[eqE]at h<;>first|rfl|(cases h;done)|(rw[AB h])
@[reducible] def Outs.den:Ye (AExit×View)->Type
 |[]=>Empty
 |x::r=>x.2.den⊕Outs.den r
@[reducible] def Outs.K(β:Type):Ye (AExit×View)->Type
 |[]=>Unit
 |x::r=>(x.2.den->Ya β)×Outs.K β r
def outK{β:Type}:(outs:Ye (AExit×View))->Outs.K β outs->Kx β
 |[],_,_,_=>Yf
 |x::r,ks,e,σ=>
  bif eqE e x.1 then
   match x.2.read σ with
   |some d=>ks.1 d
   |none=>Yf
  else outK r ks.2 e σ
def Outs.app{β:Type}:(outs:Ye (AExit×View))->Outs.K β outs->Outs.den outs->Ya β
 |_::_,ks,.inl d=>ks.1 d
 |_::r,ks,.inr o=>Outs.app r ks.2 o
def mkK{β:Type}(k:Kx β):(outs:Ye (AExit×View))->Outs.K β outs
 |[]=>()
 |x::r=>(λd=>k x.1 (x.2.mk' d),mkK k r)
def FI:(outs:Ye (AExit×View))->Outs.den outs->AExit×St
 |x::_,.inl d=>(x.1,x.2.mk' d)
 |_::r,.inr o=>FI r o
def UA{β:Type}(v:View)(g:v.den->Ya β)(outs:Ye (AExit×View))(kk:Outs.K β outs):Kx β
 |.normal,σ=>
  match v.read σ with
  |some d=>g d
  |none=>Yf
 |e,σ=>outK outs kk e σ
section
variable{P:Yw}{n m:Yn}
structure PieceOk (P:Yw) (n m:Yn) (c:Code) (v:View) (outs:Ye (AExit×View)) (G:{β:Type}->v.den->Outs.K β outs->Ya β):Prop where
 ok:∀{β:Type}(d:v.den)(kk:Outs.K β outs)(r:β),G d kk=Yg r->∃o,Outs.app outs kk o=Yg r/\
  ∀(ok0:OK0 P)(base:Yn)(pl:Yn->Ya Pl)(a:Act)(w:Yx),Rel n ok0 base pl (look (v.mk' d).tm) (look (v.mk' d).bl) a w->
   c.wp P (λe a' w'=>e=(FI outs o).1.toExit/\∃Ak,Rel n ok0 base Ak (look (FI outs o).2.tm) (look (FI outs o).2.bl) a' w'/\StepM m pl (look (v.mk' d).bl) w Ak (look (FI outs o).2.bl) w') a w
def bZ(v:View)(outs:Ye (AExit×View))(G:{β:Type}->v.den->Outs.K β outs->Ya β):Cut:=
 ⟨λσ k=>
  match v.read σ with
  |some d=>G d (mkK k outs)
  |none=>Yf⟩
theorem Agp{β:Type}{k:Kx β}:∀{outs:Ye (AExit×View)}(o:Outs.den outs),Outs.app outs (mkK k outs) o=k (FI outs o).1 (FI outs o).2
 |[],o=>o.elim
 |_::_,.inl _=>rfl
 |_::r,.inr o=>Agp (outs:=r) o
theorem AuV{c:Code}{v:View}{outs:Ye (AExit×View)}{G:{β:Type}->v.den->Outs.K β outs->Ya β}(hv:v.m=m)(h:PieceOk P n m c v outs G):RD P n m c (bZ v outs G):=by
 intro β σ k r hr;simp only[bZ]at hr;split at hr
 ·rename_i d hd
  obtain⟨o,ho,hw⟩:=h.ok d _ r hr;rw[Agp]at ho;refine⟨_,_,ho,λok0 base pl a w DJ=>?_⟩;obtain⟨plv,h1,h2⟩:=View.weaken hd DJ;rw[hv]at h2;exact F9 (hw ok0 base plv a w h1) λe a' w' ⟨he,Ak,h3,h4⟩=>⟨he,Ak,h3,h2.trans h4⟩
 ·cases hr
theorem sU{β:Type}{r:β}{e:AExit}{σ:St}:∀{outs:Ye (AExit×View)}{kk:Outs.K β outs},(∀x∈outs,x.2.m=m)->outK outs kk e σ=Yg r->∃o,Outs.app outs kk o=Yg r/\(FI outs o).1=e/\∀(ok0:OK0 P)(base:Yn)(pl:Yn->Ya Pl)(a:Act)(w:Yx),Rel n ok0 base pl (look σ.tm) (look σ.bl) a w->∃plv,Rel n ok0 base plv (look (FI outs o).2.tm) (look (FI outs o).2.bl) a w/\StepM m pl (look σ.bl) w plv (look (FI outs o).2.bl) w
 |[],kk,_,h=>by simp[outK]at h
 |x::l,kk,hm,h=>by
  simp only[outK]at h;cases he:eqE e x.1 with
  |true=>
   rw[he,As]at h;split at h
   ·rename_i d hd
    refine⟨.inl d,h,(AuU he).symm,λok0 base pl a w hr=>?_⟩;have:=View.weaken hd hr;rw[hm x (by simp)]at this;exact this
   ·cases h
  |false=>rw[he,C7]at h;obtain⟨o,h1,h2,h3⟩:=sU (λy hy=>hm y (by simp[hy])) h;exact⟨.inr o,h1,h2,h3⟩
theorem AuW{β:Type}{r:β}{c:Code}{σ:St}{outs:Ye (AExit×View)}{kk:Outs.K β outs}(hm:∀x∈outs,x.2.m=m)(h:Sim P n m c σ (outK outs kk) r):∃o,Outs.app outs kk o=Yg r/\∀(ok0:OK0 P)(base:Yn)(pl:Yn->Ya Pl)(a:Act)(w:Yx),Rel n ok0 base pl (look σ.tm) (look σ.bl) a w->c.wp P (λe a' w'=>e=(FI outs o).1.toExit/\∃Ak,Rel n ok0 base Ak (look (FI outs o).2.tm) (look (FI outs o).2.bl) a' w'/\StepM m pl (look σ.bl) w Ak (look (FI outs o).2.bl) w') a w:=by
 obtain⟨e',σ',h1,h2⟩:=h;obtain⟨o,h3,h4,h5⟩:=sU (n:=n) hm h1;refine⟨o,h3,λok0 base pl a w hr=>F9 (h2 ok0 base pl a w hr) λe a' w' ⟨he,Ak,BA,Cd⟩=>?_⟩;obtain⟨plv,h6,h7⟩:=h5 ok0 base Ak a' w' BA;exact⟨by rw[he,h4],plv,h6,Cd.trans h7⟩
theorem Agq{outs:Ye (AExit×View)}(h:(outs.all λx=>Yo x.2.m m)=Yp):∀x∈outs,x.2.m=m:=λx hx=>AB (FG.1 h x hx)
theorem AuX(Dp:P.follows .mixedOrders=Yp){X:Ctx}(hT:TOk P X.T)(hΓ:ΓOk P X.Γ){Λ:Yn->Ya Cut}{p:Yn}{c:Code}{v:View}{outs:Ye (AExit×View)}{G:{β:Type}->v.den->Outs.K β outs->Ya β}(hmB:(outs.all λx=>Yo x.2.m m)=Yp)(hΛ:∀q cut,Λ q=Yg cut->∀c'∈find q p c,RD P n m c' cut)(h:∀{β:Type}(d:v.den)(kk:Outs.K β outs)(r:β),G d kk=Yg r->exec X n Λ p c (v.mk' d) (outK outs kk)=Yg r):PieceOk P n m c v outs G:=
 ⟨λd kk r hr=>AuW (Agq hmB) (sP Dp hT hΓ hΛ (h d kk r hr))⟩
theorem AuY(Dp:P.follows .mixedOrders=Yp){X:Ctx}(hT:TOk P X.T)(hΓ:ΓOk P X.Γ){Λ:Yn->Ya Cut}{p:Yn}{c:Code}{v:View}{outs:Ye (AExit×View)}{G:Yn->{β:Type}->v.den->Outs.K β outs->Ya β}(hv:v.m=m)(hmB:(outs.all λx=>Yo x.2.m m)=Yp)(hΛ:∀q cut,Λ q=Yg cut->∀c'∈find q p c,RD P n m c' cut)(h0:∀{β:Type}(d:v.den)(kk:Outs.K β outs),G 0 d kk=Yf)(hs:∀(i:Yn){β:Type}(d:v.den)(kk:Outs.K β outs)(r:β),G (i+1) d kk=Yg r->exec X n Λ p c (v.mk' d) (UA v (λd'=>G i d' kk) outs kk)=Yg r):∀i,PieceOk P n m (.loop c) v outs (G i):=by
 have hm:=Agq hmB
 have key:∀(i:Yn){β:Type}(d:v.den)(kk:Outs.K β outs)(r:β),G i d kk=Yg r->∃o,Outs.app outs kk o=Yg r/\
   ∀(ok0:OK0 P)(base:Yn)(pl:Yn->Ya Pl)(a:Act)(w:Yx),Rel n ok0 base pl (look (v.mk' d).tm) (look (v.mk' d).bl) a w->
    Code.rounds P c (λe a' w'=>e=(FI outs o).1.toExit/\∃Ak,Rel n ok0 base Ak (look (FI outs o).2.tm) (look (FI outs o).2.bl) a' w'/\StepM m pl (look (v.mk' d).bl) w Ak (look (FI outs o).2.bl) w') i a w:=by
  intro i
  induction i with
  |zero=>intro β d kk r h;rw[h0]at h;cases h
  |succ i ih=>
   intro β d kk r h;obtain⟨e',σ',h1,h2⟩:=sP Dp hT hΓ hΛ (hs i d kk r h)
   have hb:(e'=.normal/\∃d',v.read σ'=Yg d'/\G i d' kk=Yg r)\/(e'≠.normal/\outK outs kk e' σ'=Yg r):=by
    cases e' with
    |normal=>
     simp only[UA]at h1;split at h1
     ·rename_i d' hd;exact .inl ⟨rfl,d',hd,h1⟩
     ·cases h1
    |exit id=>exact .inr ⟨λh=>(by cases h),h1⟩
    |ret=>exact .inr ⟨λh=>(by cases h),h1⟩
   rcases hb with⟨he,d',hd,hg⟩|⟨he,hk⟩
   ·subst he
    obtain⟨o,ho,hw⟩:=ih d' kk r hg;refine⟨o,ho,λok0 base pl a w hr=>?_⟩;rw[rounds_succ];refine F9 (h2 ok0 base pl a w hr) λe a' w' ⟨he,Ak,BA,Cd⟩=>?_;subst he;obtain⟨plv,h6,h7⟩:=View.weaken hd BA;rw[hv]at h7
    have Hm:∀(j:Yn){Q Q':Exit->Act->Yx->Prop}{a:Act}{w:Yx},(∀e a w,Q e a w->Q' e a w)->Code.rounds P c Q j a w->Code.rounds P c Q' j a w:=by
     intro j
     induction j with
     |zero=>intro _ _ _ _ _ h;exact h
     |succ j ihj=>
      intro Q Q' a w hq h;rw[rounds_succ]at h⊢;refine F9 h λe a w h=>?_;cases e with
      |normal=>exact ihj hq h
      |_=>exact hq _ _ _ h
    exact Hm i (λe a2 w2 ⟨q1,pl2,q2,q3⟩=>⟨q1,pl2,q2,(Cd.trans h7).trans q3⟩) (hw ok0 base plv a' w' h6)
   ·obtain⟨o,h3,h4,h5⟩:=sU (n:=n) hm hk
    refine⟨o,h3,λok0 base pl a w hr=>?_⟩;rw[rounds_succ];refine F9 (h2 ok0 base pl a w hr) λe a' w' ⟨Mh,Ak,BA,Cd⟩=>?_;obtain⟨plv,h6,h7⟩:=h5 ok0 base Ak a' w' BA;subst Mh
    have hQ:e'.toExit=(FI outs o).1.toExit/\∃Ak,Rel n ok0 base Ak (look (FI outs o).2.tm) (look (FI outs o).2.bl) a' w'/\StepM m pl (look (v.mk' d).bl) w Ak (look (FI outs o).2.bl) w':=
     ⟨by rw[h4],plv,h6,Cd.trans h7⟩
    cases e' with
    |normal=>exact absurd rfl he
    |exit id=>exact hQ
    |ret=>exact hQ
 refine λi=>⟨λ{β} d kk r h=>?_⟩;obtain⟨o,ho,hw⟩:=key i d kk r h;exact⟨o,ho,λok0 base pl a w hr=>wp_loop_rounds i (hw ok0 base pl a w hr)⟩
def vIn(S:Spec):View:={m:=S.ins.length,slots:=AP 0 S.params.length,params:=S.params,ins:=S.ins}
inductive RS where
 |tmp (t:Yn)
 |cell (a:Yn) (t:Yr)
def RS.toVar:RS->ResultVar
 |.tmp t=>.tmp t
 |.cell a t=>.cell a t
def sV(T:Yr->Ya TI)(tm:Ye (Yn×V))(bl:Ye (Yn×Blk)):RS->Ya V
 |.tmp t=>look tm t
 |.cell a t=>
  match T t with
  |none=>Yf
  |some ti=>
   bif ti.agg||Yo ti.size 1 then
    match look tm a with
    |some (.c (.ptr b o))=>
     match look bl b with
     |some (.cells _ cs)=>
      match sub cs o ti.size with
      |some rc=>Yg (V.mk ti.agg rc)
      |none=>Yf
     |_=>Yf
    |_=>Yf
   else Yf
def IW(T:Yr->Ya TI)(tm:Ye (Yn×V))(bl:Ye (Yn×Blk)):Ye RS->Ya (Ye V)
 |[]=>Yg []
 |x::r=>
  match sV T tm bl x with
  |none=>Yf
  |some v=>
   match IW T tm bl r with
   |none=>Yf
   |some vs=>Yg (v::vs)
def numV:Yn->Ye V->Ye (Yn×V)
 |_,[]=>[]
 |i,v::r=>(i,v)::numV (i+1) r
def vRes(S:Spec):View:={m:=S.ins.length,slots:=AP 0 S.res.length,params:=S.res,ins:=S.outs}
def P6{β:Type}(T:Yr->Ya TI)(S:Spec)(rs:Ye RS)(k:ST.dens S.res×BT.dens S.outs->Ya β)(σ:St):Ya β:=
 match IW T σ.tm σ.bl rs with
 |none=>Yf
 |some vs=>
  match(vRes S).read ⟨numV 0 vs,σ.bl,σ.nx⟩with
  |some y=>k y
  |none=>Yf
def retK{β:Type}(T:Yr->Ya TI)(S:Spec)(rs:Ye RS)(k:ST.dens S.res×BT.dens S.outs->Ya β):Kx β
 |.exit _,_=>Yf
 |.normal,σ=>P6 T S rs k σ
 |.ret,σ=>P6 T S rs k σ
theorem sW{E:Env}{ids:Ye Yn}{tmps:YQ Yq}:∀{l:Ye (Ys×Ye CT)}{x:ST.dens l}{us:Ye Yq}{s:Yn},TReps E (mkS ids l x) us->(∀j,j<us.length->tmps.getD (s+j) undef=us.getD j undef)->∀t v,look (mkT ids (AP s l.length) l x) t=Yg v->VRep E v (tmps.getD t undef)
 |[],_,_,s,_,_,t,v,h=>by simp[mkT,AP,Fw,Fh]at h
 |p::l,x,us,s,hr,hg,t,v,h=>by
  obtain⟨u,CM,e,h1,h2⟩:=hr;subst e;simp only[B9,AP,mkT,Fw,Fh]at h;by_cases HJ:t=s
  ·subst HJ
   rw[Pq,As,Af]at h;subst h;have:=hg 0 (by simp);simp only[Rj,List.getD_cons_zero]at this;rw[this];exact VRep.mk h1
  ·rw[IT HJ,C7]at h
   refine sW h2 (λj hj=>?_) t v h;have:=hg (j+1) (by simpa using hj);rw[show s+1+j=s+(j+1) by omega,this];simp
theorem TReps.length{E:Env}:∀{ts:Ye (Ys×Ye C)}{vs:Ye Yq},TReps E ts vs->vs.length=ts.length
 |[],vs,h=>by simp only[TReps]at h;simp[h]
 |_::ts,vs,⟨_,_,e,_,h⟩=>by rw[e,B9,B9,TReps.length h]
theorem sX{ids:Ye Yn}:∀{l:Ye (Ys×Ye CT)}{x:ST.dens l},(mkS ids l x).length=l.length
 |[],_=>rfl
 |_::l,x=>by simp[mkS,sX (l:=l)]
def CT.count:Ye CT->Yn
 |[]=>0
 |.data τ::r=>τ.size+CT.count r
 |_::r=>CT.count r+1
def ST.tidy:Ye (Ys×Ye CT)->Ys
 |[]=>Yp
 |p::r=>(p.1||Yo (CT.count p.2) 1)&&ST.tidy r
theorem It{ids:Ye Yn}:∀{l:Ye CT}{x:CT.dens l},(mkC ids l x).length=CT.count l
 |[],_=>rfl
 |.data τ::l,x=>by simp[mkC,CT.count,r6,It (l:=l)]
 |.ptr _ _::l,x=>by simp[mkC,CT.count,It (l:=l)]
 |.rowh _::l,x=>by simp[mkC,CT.count,It (l:=l)]
 |.fn _ _::l,x=>by simp[mkC,CT.count,It (l:=l)]
 |.maph _::l,x=>by simp[mkC,CT.count,It (l:=l)]
 |.math _::l,x=>by simp[mkC,CT.count,It (l:=l)]
 |.bself _::l,x=>by simp[mkC,CT.count,It (l:=l)]
 |.bfnh _ _::l,x=>by simp[mkC,CT.count,It (l:=l)]
 |.trowh _::l,x=>by simp[mkC,CT.count,It (l:=l)]
 |.tptrh _ _ _::l,x=>by simp[mkC,CT.count,It (l:=l)]
 |.nilc::l,x=>by simp[mkC,CT.count,It (l:=l)]
 |.nils::l,x=>by simp[mkC,CT.count,It (l:=l)]
 |.lsome _::l,x=>by simp[mkC,CT.count,It (l:=l)]
 |.junk::l,x=>by simp[mkC,CT.count,It (l:=l)]
theorem Agr{ids:Ye Yn}:∀{slots:Ye Yn}{l:Ye (Ys×Ye CT)}{x:ST.dens l}{t:Yn}{v:V},look (mkT ids slots l x) t=Yg v->t∈slots
 |[],_,_,t,v,h=>by simp[mkT,Fw,Fh]at h
 |_::_,[],_,t,v,h=>by simp[mkT,Fw,Fh]at h
 |s::ss,p::l,x,t,v,h=>by
  simp only[mkT,Fw,Fh]at h;by_cases HJ:t=s
  ·simp[HJ]
  ·rw[IT HJ,C7]at h
   exact DX _ (Agr h)
theorem Ags{E:Env}{ids:Ye Yn}{tmps:YQ Yq}:∀{slots:Ye Yn}{l:Ye (Ys×Ye CT)}{x:ST.dens l},slots.length=l.length->(∀t v,look (mkT ids slots l x) t=Yg v->VRep E v (tmps.getD t undef))->slots.Nodup->ST.tidy l=Yp->TReps E (mkS ids l x) (slots.map λt=>tmps.getD t undef)
 |[],[],_,_,_,_,_=>rfl
 |[],_::_,_,hl,_,_,_=>by simp at hl
 |_::_,[],_,hl,_,_,_=>by simp at hl
 |s::ss,p::l,x,hl,h,hn,ht=>by
  obtain⟨t1,t2⟩:=andB (show((p.1||Yo (CT.count p.2) 1)&&ST.tidy l)=Yp from ht);obtain⟨n1,n2⟩:=NB.1 hn;have h1:=h s (V.mk p.1 (mkC ids p.2 x.1)) (by simp[mkT,Fw,Fh]);refine⟨_,_,rfl,?_,Ags (by simpa using hl) (λt v hv=>h t v ?_) n2 t2⟩
  ·cases ha:p.1 with
   |true=>rw[ha]at h1;exact h1
   |false=>
    rw[ha]at h1 t1;simp only[Ph]at t1;have AU:=It (ids:=ids) (l:=p.2) (x:=x.1);rw[AB t1]at AU;show SRep E Yi (mkC ids p.2 x.1) _
    match hc:mkC ids p.2 x.1,AU with
    |[y],_=>rw[hc]at h1;exact⟨[_],⟨_,_,rfl,h1,rfl⟩,by simp⟩
  ·have:t∈ss:=Agr hv
   have AO:t≠s:=λe=>n1 (e▸this);rw[mkT,Fh,IT AO,C7];exact hv
theorem VReps.length{E:Env}:∀{vs:Ye V}{us:Ye Yq},VReps E vs us->us.length=vs.length
 |[],us,h=>by simp only[VReps]at h;simp[h]
 |_::vs,us,⟨_,_,e,_,h⟩=>by rw[e,B9,B9,VReps.length h]
theorem VReps.get{E:Env}:∀{vs:Ye V}{us:Ye Yq}{s t:Yn}{v:V},VReps E vs us->look (numV s vs) t=Yg v->s<=t/\∃u,us[t-s]?=Yg u/\VRep E v u
 |[],us,s,t,v,h,hl=>by simp[numV,Fw,Fh]at hl
 |x::vs,us,s,t,v,⟨u,CM,e,h1,h2⟩,hl=>by
  simp only[numV,Fw,Fh]at hl;by_cases HJ:t=s
  ·subst HJ
   rw[Pq,As,Af]at hl;subst hl;exact⟨Av _,u,by simp[e],h1⟩
  ·rw[IT HJ,C7]at hl
   obtain⟨h3,u',h4,h5⟩:=VReps.get h2 hl;refine⟨by omega,u',?_,h5⟩;have h6:t-s=(t-(s+1))+1:=by omega
   rw[e,h6,Er];exact h4
theorem AuZ{P:Yw}{n:Yn}{T:Yr->Ya TI}(hT:TOk P T){tm:Ye (Yn×V)}{bl:Ye (Yn×Blk)}{x:RS}{v:V}(hv:sV T tm bl x=Yg v){ok0:OK0 P}{base:Yn}{pl:Yn->Ya Pl}{a:Act}{w:Yx}{blw:Yn->Ya Blk}(Ts:∀b B,look bl b=Yg B->blw b=Yg B)(hr:Rel n ok0 base pl (look tm) blw a w):∃val,(match x.toVar with|.tmp t=>(pure (a.tmps.getD t undef):Sem Yq)|.cell b t=>do loadVar t (<-asAddr (a.tmps.getD b undef))).run P w=.ok val w/\VRep (At ok0 base pl blw w) v val:=by
 cases x with
 |tmp t=>exact⟨_,by simp only[RS.toVar,YY],hr.tmps t v hv⟩
 |cell b t=>
  simp only[sV]at hv;split at hv
  ·cases hv
  rename_i ti ht;obtain⟨i,d,z,f⟩:=hT.facts ht;cases h1:(ti.agg||Yo ti.size 1)with
  |false=>rw[h1]at hv;cases hv
  |true=>
   have CB:ti.agg=Yp\/ti.size=1:=by
    rcases(Pf _ _).mp h1 with h|h
    ·exact .inl h
    ·exact .inr (AB h)
   simp only[h1,As]at hv;split at hv
   ·rename_i b' o hb
    split at hv
    ·rename_i t0 cs Ap
     split at hv
     ·rename_i rc AX
      simp only[Af]at hv;subst hv;obtain⟨g,hg,B6⟩:=hr.tmps b _ hb;obtain⟨p,hp,hB⟩:=hr.rel.blks b' _ (Ts _ _ Ap);have:p=.cells g:=by have h2:pl b'=Yg (.cells g):=hg;rw[hp]at h2;injection h2
      subst this;obtain⟨vs,hh,De⟩:=hB;obtain⟨s1,s2,s3⟩:=Pw De AX;obtain⟨val,FF,GU⟩:=Ut f s2 CB (λj u hj=>bR hh hj) s1;refine⟨val,?_,GU⟩;simp only[RS.toVar,B6,asAddr,pure_bind];exact FF
     ·cases hv
    ·cases hv
   ·cases hv
theorem sY{P:Yw}{n:Yn}{T:Yr->Ya TI}(hT:TOk P T){fn:Func}{rs:Ye RS}(h:fn.results.toList=rs.map RS.toVar){tm:Ye (Yn×V)}{bl:Ye (Yn×Blk)}{vs:Ye V}(hv:IW T tm bl rs=Yg vs){ok0:OK0 P}{base:Yn}{pl:Yn->Ya Pl}{a:Act}{w:Yx}{blw:Yn->Ya Blk}(Ts:∀b B,look bl b=Yg B->blw b=Yg B)(hr:Rel n ok0 base pl (look tm) blw a w):∃Bw,(results fn a.tmps).run P w=.ok (Is Bw) w/\VReps (At ok0 base pl blw w) vs Bw:=by
 have h':fn.results=(rs.map RS.toVar).toArray:=by apply Io;simpa using h
 let F:ResultVar->Sem Yq:=λx=>match x with|.tmp t=>pure (a.tmps.getD t undef)|.cell b t=>do loadVar t (<-asAddr (a.tmps.getD b undef))
 have hl:∀(rs:Ye RS)(vs:Ye V),IW T tm bl rs=Yg vs->∃Bw,((rs.map RS.toVar).mapM F).run P w=.ok Bw w/\VReps (At ok0 base pl blw w) vs Bw:=by
  intro rs
  induction rs with
  |nil=>intro vs h;simp only[IW,Af]at h;subst h;exact⟨[],by simp,rfl⟩
  |cons x rs ih=>
   intro vs h;simp only[IW]at h;split at h
   ·cases h
   ·rename_i v FF
    split at h
    ·cases h
    ·rename_i Az Ae4
     simp only[Af]at h;subst h;obtain⟨val,h1,h2⟩:=AuZ hT FF Ts hr;obtain⟨Bw,h3,h4⟩:=ih Az Ae4;refine⟨val::Bw,?_,val,Bw,rfl,h2,h4⟩;rw[CH,List.mapM_cons];simp only[YC];have CB:(F x.toVar).run P w=.ok val w:=h1;rw[CB];simp only[Y9];rw[h3];simp
 obtain⟨Bw,h1,h2⟩:=hl rs vs hv;refine⟨Bw,?_,h2⟩
 have hm:(fn.results.mapM F).run P w=.ok Bw.toArray w:=by rw[h',List.mapM_toArray,map_eq_pure_bind,YC,h1];simp only[Y9,YY]
 have key:(results fn a.tmps).run P w=((fn.results.mapM F)>>=λvs=>pure (if h:vs.size=1 then vs[0]else .tuple vs)).run P w:=rfl;rw[key,YC,hm];simp only[Y9,YY];congr 1;cases Bw with
 |nil=>simp[Is]
 |cons s ss=>
  cases ss with
  |nil=>simp[Is]
  |cons _ _=>simp[Is]
theorem Av0{us:Ye Yq}:∀{l s:Yn}{pre:Ye Yq},pre.length=s->us.length=l->((AP s l).map λt=>(pre++us).toArray.getD t undef)=us:=by
 induction us with
 |nil=>intro l s pre hp hl;simp at hl;subst hl;rfl
 |cons u us ih=>
  intro l s pre hp hl;cases l with
  |zero=>simp at hl
  |succ l=>
   simp only[AP,CH,Dx];refine⟨?_,?_⟩
   ·simp[F6,<-hp]
   ·have:=ih (l:=l) (s:=s+1) (pre:=pre++[u]) (by simp[hp]) (by simpa using hl)
    simpa [C4]using this
structure SpecOkB (P:Yw) (f:YA) (S:Spec):Prop where
 fn:∃fn,P.funcs[f]?=Yg fn/\(fn.name== "runtime.NumGoroutine")=Yi/\fn.body.isNone=Yi
 ok:∀{β:Type}(x:ST.dens S.params×BT.dens S.ins)(k:ST.dens S.res×BT.dens S.outs->Ya β)(r:β),S.run x k=Yg r->
  ∃y,k y=Yg r/\∀(ok0:OK0 P)(base:Yn)(pl:Yn->Ya Pl)(w:Yx)(args:Ye Yq),base<=w.heap.size->
   RelB ok0 base pl (fnBl (mkB (AP 0 S.ins.length) S.ins x.2)) w->
   TReps (At ok0 base pl (fnBl (mkB (AP 0 S.ins.length) S.ins x.2)) w) (mkS (AP 0 S.ins.length) S.params x.1) args->
   Calls P f args.toArray w λe w'=>∃Bw Ak,e=.returned (Is Bw)/\
    RelB ok0 base Ak (fnBl (mkB (AP 0 S.outs.length) S.outs y.2)) w'/\
    StepM S.ins.length pl (fnBl (mkB (AP 0 S.ins.length) S.ins x.2)) w Ak (fnBl (mkB (AP 0 S.outs.length) S.outs y.2)) w'/\
    TReps (At ok0 base Ak (fnBl (mkB (AP 0 S.outs.length) S.outs y.2)) w') (mkS (AP 0 S.outs.length) S.res y.1) Bw
theorem SpecOkB.spec{P:Yw}{f:YA}{S:Spec}(h:SpecOkB P f S):SpecOk P f S:=
 ⟨h.fn,λx k r hr=>by obtain⟨y,hy,hc⟩:=h.ok x k r hr;exact⟨y,hy,λok0 pl w args DJ Bv=>hc ok0 w.heap.size pl w args (Av _) DJ Bv⟩⟩
theorem sZ{P:Yw}(Dp:P.follows .mixedOrders=Yp){X:Ctx}(hT:TOk P X.T)(hΓ:ΓOk P X.Γ){Λ:Yn->Ya Cut}{S:Spec}{f:YA}{fn:Func}{c:Code}{rs:Ye RS}(hf:P.funcs[f]?=Yg fn)(Ex:(fn.name== "runtime.NumGoroutine")=Yi)(hb:fn.body=Yg c)(KG:fn.results.toList=rs.map RS.toVar)(Ds:(Yo rs.length S.res.length&&(ST.tidy S.res&&YI S.params.length fn.ntmps))=Yp)(hΛ:∀q cut,Λ q=Yg cut->∀c'∈find q 1 c,RD P fn.ntmps S.ins.length c' cut)(h:∀{β:Type}(x:ST.dens S.params×BT.dens S.ins)(k:ST.dens S.res×BT.dens S.outs->Ya β)(r:β),S.run x k=Yg r->exec X fn.ntmps Λ 1 c ((vIn S).mk' x) (retK X.T S rs k)=Yg r):SpecOkB P f S:=by
 obtain⟨o2,Ds⟩:=andB Ds;obtain⟨o3,o4⟩:=andB Ds;have o2:=AB o2;have o4:=IP o4;refine⟨⟨fn,hf,Ex,by rw[hb];rfl⟩,λx k r hr=>?_⟩;obtain⟨e',σ',hk,hw⟩:=sP Dp hT hΓ (m:=S.ins.length) hΛ (h x k r hr)
 have Fz:(e'=.normal\/e'=.ret)/\P6 X.T S rs k σ'=Yg r:=by
  cases e' with
  |normal=>exact⟨.inl rfl,hk⟩
  |ret=>exact⟨.inr rfl,hk⟩
  |exit id=>cases hk
 obtain⟨Mh,hk⟩:=Fz;unfold P6 at hk;split at hk
 ·cases hk
 rename_i vs DA;split at hk
 ·rename_i y hy
  refine⟨y,hk,λok0 base pl w args _hbase DJ Bv=>?_⟩;have AU:args.length=S.params.length:=by rw[TReps.length Bv,sX]
  refine calls_of_wp hf hb ?_
  have Zm:Rel fn.ntmps ok0 base pl (look ((vIn S).mk' x).tm) (look ((vIn S).mk' x).bl) {tmps:=args.toArray++Array.replicate (fn.ntmps-args.toArray.size) undef,defers:=[]} w:=by have ebl:look ((vIn S).mk' x).bl=fnBl (mkB (AP 0 S.ins.length) S.ins x.2):=P5 (vIn S) x;rw[ebl];refine⟨rfl,by simp;omega,λt v ht=>?_,DJ⟩;refine sW (s:=0) Bv (λj hj=>?_) t v ht;simp only[DZ,F6];rw[ZN (by simpa using hj)];simp[List.getD]
  refine F9 (hw ok0 base pl _ w Zm) λe a' w' ⟨he,Ak,BA,Cd⟩=>?_;obtain⟨Bw,AJ,OO⟩:=sY hT KG DA (λ_ _ h=>h) BA
  have Ae0:Rel Bw.length ok0 base Ak (look (numV 0 vs)) (look σ'.bl) {tmps:=Bw.toArray,defers:=[]} w':=by refine⟨rfl,by simp,λt v ht=>?_,BA.rel⟩;obtain⟨_,u,h1,h2⟩:=VReps.get OO ht;simp only[Nat.sub_zero]at h1;simp only[F6,ZR,h1,NA];exact h2
  obtain⟨plv,FF,GU⟩:=View.weaken (σ:=⟨numV 0 vs,σ'.bl,σ'.nx⟩) hy Ae0
  have AMm:Bw.length=S.res.length:=by
   have:∃us,RE (numV 0 vs) (AP 0 S.res.length)=Yg us/\True:=by
    unfold View.read at hy;split at hy
    ·cases hy
    ·rename_i us CZ;exact⟨us,CZ,trivial⟩
   rw[VReps.length OO]
   have AM7:∀(rs:Ye RS)(vs:Ye V),IW X.T σ'.tm σ'.bl rs=Yg vs->vs.length=rs.length:=by
    intro rs
    induction rs with
    |nil=>intro vs h;simp only[IW,Af]at h;subst h;rfl
    |cons x rs ih=>
     intro vs h;simp only[IW]at h;split at h
     ·cases h
     ·split at h
      ·cases h
      ·rename_i Az Ae4
       simp only[Af]at h;subst h;simp[ih Az Ae4]
   rw[AM7 rs vs DA,o2]
  have ebl:look ((vIn S).mk' x).bl=fnBl (mkB (AP 0 S.ins.length) S.ins x.2):=P5 (vIn S) x;have ebo:look ((vRes S).mk' y).bl=fnBl (mkB (AP 0 S.outs.length) S.outs y.2):=P5 (vRes S) y;rw[ebo]at FF GU;rw[ebl]at Cd;have Lj:=Ags (ids:=AP 0 S.outs.length) (l:=S.res) (x:=y.1) rQ FF.tmps rS o3
  have OR:((AP 0 S.res.length).map λt=>Bw.toArray.getD t undef)=Bw:=by have:=Av0 (us:=Bw) (l:=S.res.length) (s:=0) (pre:=[]) rfl AMm;simpa using this
  have EZ:a'.defers=[]/\∃v,(results fn a'.tmps).run P w'=.ok v w'/\(∃Bw Ak,Ending.returned v=.returned (Is Bw)/\RelB ok0 base Ak (fnBl (mkB (AP 0 S.outs.length) S.outs y.2)) w'/\
     StepM S.ins.length pl (fnBl (mkB (AP 0 S.ins.length) S.ins x.2)) w Ak (fnBl (mkB (AP 0 S.outs.length) S.outs y.2)) w'/\
     TReps (At ok0 base Ak (fnBl (mkB (AP 0 S.outs.length) S.outs y.2)) w') (mkS (AP 0 S.outs.length) S.res y.1) Bw):=by
   refine⟨BA.defers,_,AJ,Bw,plv,rfl,FF.rel,Cd.trans GU,?_⟩;rw[OR]at Lj;exact Lj
  rcases Mh with e1|e1<;>rw[e1]at he<;>subst he<;>exact EZ
 ·cases hk
end
end
end Go.Lift
namespace Go.Lift
noncomputable section
open Go.RowKit
def EB{α:Type 1}:Ye (Yn×α)->Yn->Ya α
 |[],_=>Yf
 |(j,x)::r,i=>bif Yo i j then Yg x else EB r i
theorem Agt{α:Type}:∀{l:Ye (Yn×α)}{i:Yn}{x:α},look l i=Yg x->(i,x)∈l
 |[],_,_,h=>by simp[Fw,Fh]at h
 |(j,y)::r,i,x,h=>by
  simp only[Fw,Fh]at h;cases hb:Yo i j with
  |true=>rw[hb,As]at h;injection h with h;rw[AB hb,h];exact Ha
  |false=>rw[hb,C7]at h;exact DX _ (Agt h)
theorem Av1{P:Yw}{tab:Ye (Yn×TI)}(h:tab.map (λp=>tiOf P p.1)=tab.map (λp=>Yg p.2)):TOk P (look tab):=by
 intro t ti ht;have hm:=Agt ht
 have key:∀{l:Ye (Yn×TI)},l.map (λp=>tiOf P p.1)=l.map (λp=>Yg p.2)->∀p∈l,tiOf P p.1=Yg p.2:=by
  intro l
  induction l with
  |nil=>intro _ p hp;simp at hp
  |cons q l ih=>
   intro h p hp;simp only[CH,Dx]at h;rcases Bl.1 hp with e|hp
   ·rw[e];exact h.1
   ·exact ih h.2 p hp
 exact key h _ hm
theorem SpecOk.never{P:Yw}{f:YA}{S:Spec}(hf:∃fn,P.funcs[f]?=Yg fn/\(fn.name== "runtime.NumGoroutine")=Yi/\fn.body.isNone=Yi)(h:∀{β:Type}(x:ST.dens S.params×BT.dens S.ins)(k:ST.dens S.res×BT.dens S.outs->Ya β),S.run x k=Yf):SpecOk P f S:=
 ⟨hf,λx k r hr=>by rw[h x k]at hr;cases hr⟩
theorem ΓOk_nil{P:Yw}:ΓOk P (EB []):=⟨λ_ _ h=>by simp[EB]at h,λ_ _ h=>by simp[EB]at h,λ_ _ h=>by simp[EB]at h,λ_ _ h=>by simp[EB]at h⟩
theorem ΓOk_cons{P:Yw}{f:Yn}{S:Spec}{l:Ye (Yn×Fun)}(h:SpecOk P f S)(hl:ΓOk P (EB l)):ΓOk P (EB ((f,.spec S)::l)):=by
 constructor
 all_goals
  intro g S' hg;simp only[EB]at hg;cases hb:Yo g f with
  |true=>
   rw[hb,As]at hg
   first
   |(simp only[Af,Fun.spec.injEq]at hg;have Q8:=AB hb;rw[Q8,<-hg];exact h)
   |cases hg
  |false=>
   rw[hb,C7]at hg
   first|exact hl.spec g S' hg|exact hl.rows g S' hg|exact hl.bld g S' hg|exact hl.abs g S' hg
theorem ΓOk_row{P:Yw}{f:Yn}{F:RowF}{l:Ye (Yn×Fun)}(h:RowOk P f F)(hl:ΓOk P (EB l)):ΓOk P (EB ((f,.rows F)::l)):=by
 constructor
 all_goals
  intro g S' hg;simp only[EB]at hg;cases hb:Yo g f with
  |true=>
   rw[hb,As]at hg
   first
   |(simp only[Af,Fun.rows.injEq]at hg;have Q8:=AB hb;rw[Q8,<-hg];exact h)
   |cases hg
  |false=>
   rw[hb,C7]at hg
   first|exact hl.spec g S' hg|exact hl.rows g S' hg|exact hl.bld g S' hg|exact hl.abs g S' hg
theorem ΓOk_bld{P:Yw}{f:Yn}{F:BldF}{l:Ye (Yn×Fun)}(h:BldOk P f F)(hl:ΓOk P (EB l)):ΓOk P (EB ((f,.bld F)::l)):=by
 constructor
 all_goals
  intro g S' hg;simp only[EB]at hg;cases hb:Yo g f with
  |true=>
   rw[hb,As]at hg
   first
   |(simp only[Af,Fun.bld.injEq]at hg;have Q8:=AB hb;rw[Q8,<-hg];exact h)
   |cases hg
  |false=>
   rw[hb,C7]at hg
   first|exact hl.spec g S' hg|exact hl.rows g S' hg|exact hl.bld g S' hg|exact hl.abs g S' hg
theorem ΓOk_abs{P:Yw}{f:Yn}{A:AbsF}{l:Ye (Yn×Fun)}(h:AbsOk P f A)(hl:ΓOk P (EB l)):ΓOk P (EB ((f,.abs A)::l)):=by
 constructor
 all_goals
  intro g S' hg;simp only[EB]at hg;cases hb:Yo g f with
  |true=>
   rw[hb,As]at hg
   first
   |(simp only[Af,Fun.abs.injEq]at hg;have Q8:=AB hb;rw[Q8,<-hg];exact h)
   |cases hg
  |false=>
   rw[hb,C7]at hg
   first|exact hl.spec g S' hg|exact hl.rows g S' hg|exact hl.bld g S' hg|exact hl.abs g S' hg
def NN(P:Yw)(n m p:Yn)(c:Code)(Λ:Yn->Ya Cut):Prop:=∀q cut,Λ q=Yg cut->∀c'∈find q p c,RD P n m c' cut
theorem Agu{P:Yw}{n m p:Yn}{c:Code}:NN P n m p c (EB []):=λ_ _ h=>by simp[EB]at h
theorem Av2{P:Yw}{n m p:Yn}{c c':Code}{q:Yn}{v:View}{outs:Ye (AExit×View)}{G:{β:Type}->v.den->Outs.K β outs->Ya β}{l:Ye (Yn×Cut)}(hf:find q p c=[c'])(hv:v.m=m)(h:PieceOk P n m c' v outs G)(hl:NN P n m p c (EB l)):NN P n m p c (EB ((q,bZ v outs G)::l)):=by
 intro q' cut hq c2 Cw;simp only[EB]at hq;cases hb:Yo q' q with
 |true=>rw[hb,As]at hq;injection hq with hq;have AM0:=AB hb;rw[AM0,hf]at Cw;simp only[DY]at Cw;rw[Cw,<-hq];intro β σ k r hr;exact AuV hv h σ k r hr
 |false=>rw[hb,C7]at hq;exact hl q' cut hq c2 Cw
def Au(fn:Func):Code:=fn.body.getD .skip
def Ay(q:Yn)(c:Code):Code:=
 match find q 1 c with
 |c'::_=>c'
 |[]=>.skip
def Eb:Code->Code
 |.loop c=>c
 |_=>.skip
structure Pc where
 n:Yn
 m:Yn
 c:Code
 v:View
 o:Ye (AExit×View)
abbrev Pc.G(p:Pc):={β:Type}->p.v.den->Outs.K β p.o->Ya β
abbrev Pc.Ok(P:Yw)(p:Pc)(G:p.G):Prop:=PieceOk P p.n p.m p.c p.v p.o G
abbrev Pc.cut(p:Pc)(G:p.G):Cut:=bZ p.v p.o G
theorem pcE{P:Yw}(Dp:P.follows .mixedOrders=Yp)(X:Ctx)(hT:TOk P X.T)(hΓ:ΓOk P X.Γ)(q:Yn){p:Pc}{G:p.G}(Λ:Yn->Ya Cut)(hm:(p.o.all λx=>Yo x.2.m p.m)=Yp)(hΛ:NN P p.n p.m q p.c Λ)(h:∀{β:Type}(d:p.v.den)(ks:Outs.K β p.o),exec X p.n Λ q p.c (p.v.mk' d) (outK p.o ks)=G d ks):p.Ok P G:=
 AuX Dp hT hΓ hm hΛ λd ks r hr=>(h d ks).trans hr
theorem pcL{P:Yw}(Dp:P.follows .mixedOrders=Yp)(X:Ctx)(hT:TOk P X.T)(hΓ:ΓOk P X.Γ){p:Pc}{G:Yn->p.G}(Λ:Yn->Ya Cut)(hc:p.c=.loop (Eb p.c))(hv:p.v.m=p.m)(hm:(p.o.all λx=>Yo x.2.m p.m)=Yp)(hΛ:NN P p.n p.m 1 (Eb p.c) Λ)(h0:∀{β:Type}(d:p.v.den)(ks:Outs.K β p.o),G 0 d ks=Yf)(h:∀(i:Yn){β:Type}(d:p.v.den)(ks:Outs.K β p.o),exec X p.n Λ 1 (Eb p.c) (p.v.mk' d) (UA p.v (λd'=>G i d' ks) p.o ks)=G (i+1) d ks)(i:Yn):p.Ok P (G i):=by
 have key:=AuY Dp hT hΓ hv hm hΛ (G:=G) h0 (λi β d ks r hr=>(h i d ks).trans hr) i;rw[<-hc]at key;exact key
theorem pcSB{P:Yw}(Dp:P.follows .mixedOrders=Yp)(X:Ctx)(hT:TOk P X.T)(hΓ:ΓOk P X.Γ)(Λ:Yn->Ya Cut){S:Spec}{f:YA}{fn:Func}(rs:Ye RS)(hf:P.funcs[f]?=Yg fn)(Ex:(fn.name== "runtime.NumGoroutine")=Yi)(hb:fn.body=Yg (Au fn))(KG:fn.results.toList=rs.map RS.toVar)(Ds:(Yo rs.length S.res.length&&(ST.tidy S.res&&YI S.params.length fn.ntmps))=Yp)(hΛ:NN P fn.ntmps S.ins.length 1 (Au fn) Λ)(h:∀{β:Type}(x:ST.dens S.params×BT.dens S.ins)(k:ST.dens S.res×BT.dens S.outs->Ya β),exec X fn.ntmps Λ 1 (Au fn) ((vIn S).mk' x) (retK X.T S rs k)=S.run x k):SpecOkB P f S:=
 sZ Dp hT hΓ hf Ex hb KG Ds hΛ λx k r hr=>(h x k).trans hr
theorem pcS{P:Yw}(Dp:P.follows .mixedOrders=Yp)(X:Ctx)(hT:TOk P X.T)(hΓ:ΓOk P X.Γ)(Λ:Yn->Ya Cut){S:Spec}{f:YA}{fn:Func}(rs:Ye RS)(hf:P.funcs[f]?=Yg fn)(Ex:(fn.name== "runtime.NumGoroutine")=Yi)(hb:fn.body=Yg (Au fn))(KG:fn.results.toList=rs.map RS.toVar)(Ds:(Yo rs.length S.res.length&&(ST.tidy S.res&&YI S.params.length fn.ntmps))=Yp)(hΛ:NN P fn.ntmps S.ins.length 1 (Au fn) Λ)(h:∀{β:Type}(x:ST.dens S.params×BT.dens S.ins)(k:ST.dens S.res×BT.dens S.outs->Ya β),exec X fn.ntmps Λ 1 (Au fn) ((vIn S).mk' x) (retK X.T S rs k)=S.run x k):SpecOk P f S:=(pcSB Dp X hT hΓ Λ rs hf Ex hb KG Ds hΛ h).spec
end
end Go.Lift
namespace Go.Lift
open Go.RowKit
def env0(P:Yw)(w:Yx):Env:=At (P:=P) ⟨λ_=>True,λ_=>False⟩ w.heap.size (λ_=>Yf) (λ_=>Yf) w
theorem SpecOk.call0{P:Yw}{f:YA}{S:Spec}(h:SpecOk P f S)(hi:S.ins=[])(x:ST.dens S.params×BT.dens S.ins)(y:ST.dens S.res×BT.dens S.outs)(hy:S.run x (λz=>Yg z)=Yg y)(w:Yx)(hw:Opened P w)(args:Ye Yq)(Bv:TReps (env0 P w) (mkS [] S.params x.1) args):Calls P f args.toArray w λe w'=>∃Bw Ak,e=.returned (Is Bw)/\Below w.heap.size w w'/\TReps (At (P:=P) ⟨λ_=>True,λ_=>False⟩ w.heap.size Ak (fnBl (mkB (AP 0 S.outs.length) S.outs y.2)) w') (mkS (AP 0 S.outs.length) S.res y.1) Bw:=by
 obtain⟨y',oF,Fx⟩:=h.ok x (λz=>Yg z) y hy;simp only[Af]at oF;subst oF;have AU:S.ins.length=0:=by rw[hi];rfl
 have QG:mkB (AP 0 S.ins.length) S.ins x.2=[]:=by have:=GD (ids:=AP 0 S.ins.length) (l:=S.ins) (y:=x.2);rw[AU]at this;exact JV (by rw[AU];exact this)
 have Ap:fnBl (mkB (AP 0 S.ins.length) S.ins x.2)=λ_=>Yf:=by rw[QG];funext b;simp[fnBl]
 have QA:AP 0 S.ins.length=[]:=by rw[AU];rfl
 have DJ:RelB (P:=P) ⟨λ_=>True,λ_=>False⟩ w.heap.size (λ_=>Yf) (λ_=>Yf) w:=
  ⟨Av _,λi B h=>(by cases h),λi j B C p q g _ h=>(by cases h),λ_ _=>rfl,
   ⟨w,hw,Av _,λg _=>⟨rfl,λ⟨_,_,_,h,_⟩=>by cases h⟩,λ_ h=>h.elim⟩,λ_ h=>h.elim⟩
 have:=Fx ⟨λ_=>True,λ_=>False⟩ (λ_=>Yf) w args (by rw[Ap];exact DJ) (by rw[Ap,QA];exact Bv);refine this.mono λe w' ⟨Bw,Ak,he,_,Ce,ht⟩=>⟨Bw,Ak,he,⟨Ce.os,Ce.tape,Ce.output,Ce.size,λk hk=>?_⟩,ht⟩;refine(Ce.out k hk ?_).1;rintro⟨i,B,p,hB,_⟩;rw[Ap]at hB;cases hB
theorem TReps.bool{E:Env}{b:Ys}{Bw:Ye Yq}(h:TReps E [(Yi,[.bool b])] Bw):Bw=[.bool b]:=by obtain⟨v,vs,e,⟨us,⟨u,CM,e1,h1,h2⟩,h3⟩,h4⟩:=h;simp only[TReps]at h4;simp only[CReps]at h2;simp only[CRep]at h1;simp only[IQ,CN]at h3;subst h4 h2 h1 e1;simp only[Dx,Fv]at h3;subst h3;exact e
theorem TReps.int{E:Env}{k:IntKind}{n:Int}{ts:Ye (Ys×Ye C)}{Bw:Ye Yq}(h:TReps E ts Bw):TReps E ((Yi,[.int k n])::ts) (.int k n::Bw):=
 ⟨_,_,rfl,⟨[_],⟨_,_,rfl,rfl,rfl⟩,by simp⟩,h⟩
end Go.Lift
namespace Go.Lift
open Go.RowKit Go.IntWalk
def fuel:Yn:=18446744073709551616
theorem BB{n:Yn}(h:n<18446744073709551616):n<fuel:=h
end Go.Lift
namespace Go.Lift
open Go.RowKit Go.ChangeShapes Go.WideShapes Go.Deep
def fitF(P:Yw)(F:Yr->Ty->Ys):Ye Field->Yn->Ty->Ys
 |[],_,.unit=>Yp
 |[f],o,τ=>Yo f.offset o&&(Yo (P.cellsOf f.type) τ.size&&F f.type τ)
 |f::g::r,o,.prod a b=>Yo f.offset o&&(Yo (P.cellsOf f.type) a.size&&(F f.type a&&fitF P F (g::r) (o+a.size) b))
 |_,_,_=>Yi
def fitA(C:Yn)(F:Ty->Ys):Yn->Ty->Ys
 |0,.unit=>Yp
 |1,τ=>Yo C τ.size&&F τ
 |m+2,.prod a b=>Yo C a.size&&(F a&&fitA C F (m+1) b)
 |_,_=>Yi
def MG(P:Yw):Yn->Yr->Ty->Ys
 |0,_,_=>Yi
 |n+1,t,τ=>
  match P.underlying t with
  |some .bool=>match τ with|.bool=>Yp|_=>Yi
  |some (.int k)=>match τ with|.int k'=>decide (k=k')|_=>Yi
  |some .string=>match τ with|.str=>Yp|_=>Yi
  |some (.slice e)=>match τ with|.slice ε=>Yo (P.cellsOf e) ε.size&&MG P n e ε|_=>Yi
  |some (.struct fs)=>Yo (P.cellsOf t) τ.size&&fitF P (MG P n) fs.toList 0 τ
  |some (.array m e)=>Yo (P.cellsOf t) τ.size&&fitA (P.cellsOf e) (MG P n e) m τ
  |_=>Yi
def Wf:(τ:Ty)->τ.den->Prop
 |.int k,n=>(Lit.int k n).wf=Yp
 |.str,s=>s.length<=Yaj
 |.prod a b,x=>Wf a x.1/\Wf b x.2
 |.slice e,l=>l.length<=Yaj/\∀x∈l,Wf e x
 |.bool,_=>True
 |.unit,_=>True
 |.err,_=>True
section
variable{H:Type}{enc:Yr×Yq->H}{P:Yw}{w:Yx}
theorem Agv{F:Yr->Ty->Ys}{cs:Ye Yq}(hF:∀{t:Yr}{τ:Ty}{c:Ye Yq},F t τ=Yp->(∃n sp hd y,YaF enc P w 0 sp hd n t c=Yg y)->∃d:τ.den,DRep w (λ_=>True) τ d c/\Wf τ d):∀(fs:Ye Field)(o:Yn)(τ:Ty),fitF P F fs o τ=Yp->(∀f∈fs,∃n sp hd y,YaF enc P w 0 sp hd n f.type ((cs.drop f.offset).take (P.cellsOf f.type))=Yg y)->o+τ.size=cs.length->∃d:τ.den,DRep w (λ_=>True) τ d (cs.drop o)/\Wf τ d
 |[],o,τ,hf,_,hl=>by
  cases τ<;>simp only[fitF]at hf<;>first|(cases hf;done)|skip
  refine⟨(),?_,trivial⟩;simp only[DRep];simp only[Ty.size]at hl;exact ZP (by omega)
 |[f],o,τ,hf,h,hl=>by simp only[fitF,Dk]at hf;obtain⟨h1,h2,h3⟩:=hf;have h1:=AB h1;have h2:=AB h2;obtain⟨n,sp,hd,y,hy⟩:=h f (by simp);rw[h1,h2,GY (by rw[LA];omega)]at hy;exact hF h3 ⟨n,sp,hd,y,hy⟩
 |f::g::r,o,τ,hf,h,hl=>by
  cases τ with
  |prod a b=>simp only[fitF,Dk]at hf;obtain⟨h1,h2,h3,h4⟩:=hf;have h1:=AB h1;have h2:=AB h2;simp only[Ty.size]at hl;obtain⟨n,sp,hd,y,hy⟩:=h f (by simp);rw[h1,h2]at hy;obtain⟨d1,k1,w1⟩:=hF h3 ⟨n,sp,hd,y,hy⟩;obtain⟨d2,k2,w2⟩:=Agv hF (g::r) (o+a.size) b h4 (λf' OA=>h f' (by simp at OA⊢;right;exact OA)) (by omega);refine⟨(d1,d2),?_,w1,w2⟩;simp only[DRep];refine⟨_,_,?_,k1,k2⟩;rw[<-List.drop_drop,M0]
  |bool=>simp[fitF]at hf
  |int k=>simp[fitF]at hf
  |str=>simp[fitF]at hf
  |unit=>simp[fitF]at hf
  |err=>simp[fitF]at hf
  |slice e=>simp[fitF]at hf
theorem Agw{C:Yn}{e:Yr}{F:Ty->Ys}{cs:Ye Yq}(hF:∀{τ:Ty}{c:Ye Yq},F τ=Yp->(∃n sp hd y,YaF enc P w 0 sp hd n e c=Yg y)->∃d:τ.den,DRep w (λ_=>True) τ d c/\Wf τ d):∀(m i:Yn)(τ:Ty),fitA C F m τ=Yp->(∀j,i<=j->j<i+m->∃n sp hd y,YaF enc P w 0 sp hd n e ((cs.drop (j*C)).take C)=Yg y)->i*C+τ.size=cs.length->∃d:τ.den,DRep w (λ_=>True) τ d (cs.drop (i*C))/\Wf τ d
 |0,i,τ,hf,_,hl=>by
  cases τ<;>simp only[fitA]at hf<;>first|(cases hf;done)|skip
  refine⟨(),?_,trivial⟩;simp only[DRep];simp only[Ty.size]at hl;exact ZP (by omega)
 |1,i,τ,hf,h,hl=>by simp only[fitA,Dk]at hf;obtain⟨h2,h3⟩:=hf;have h2:=AB h2;obtain⟨n,sp,hd,y,hy⟩:=h i (Av _) (by omega);rw[GY (by rw[LA];omega)]at hy;exact hF h3 ⟨n,sp,hd,y,hy⟩
 |m+2,i,τ,hf,h,hl=>by
  cases τ with
  |prod a b=>simp only[fitA,Dk]at hf;obtain⟨h2,h3,h4⟩:=hf;have h2:=AB h2;simp only[Ty.size]at hl;obtain⟨n,sp,hd,y,hy⟩:=h i (Av _) (by omega);obtain⟨d1,k1,w1⟩:=hF h3 ⟨n,sp,hd,y,hy⟩;have hs:(i+1)*C=i*C+C:=Hr _ _;obtain⟨d2,k2,w2⟩:=Agw hF (m+1) (i+1) b h4 (λj hj If=>h j (by omega) (by omega)) (by omega);refine⟨(d1,d2),?_,w1,w2⟩;simp only[DRep];refine⟨_,_,?_,k1,k2⟩;rw[hs,<-List.drop_drop,M0]
  |bool=>simp[fitA]at hf
  |int k=>simp[fitA]at hf
  |str=>simp[fitA]at hf
  |unit=>simp[fitA]at hf
  |err=>simp[fitA]at hf
  |slice e=>simp[fitA]at hf
theorem Agx{ε:Ty}{a:Addr}{C:Yn}(hC:C=ε.size):∀(len:Yn),(∀i,i<len->∃cs':Ye Yq,cs'.length=C/\(∀j,j<C->w.cell? ((a.add (i*C)).add j)=cs'[j]?)/\∃d:ε.den,DRep w (λ_=>True) ε d cs'/\Wf ε d)->∃(l:Ye ε.den)(xs:Ye Yq),l.length=len/\xs.length=len*C/\DList (λx u=>DRep w (λ_=>True) ε x u) l xs/\(∀j v,xs[j]?=Yg v->w.cell? (a.add j)=Yg v)/\∀x∈l,Wf ε x
 |0,_=>⟨[],[],rfl,by simp,rfl,by simp,by simp⟩
 |len+1,h=>by
  obtain⟨l,xs,h1,h2,h3,h4,h5⟩:=Agx hC len λi hi=>h i (by omega);obtain⟨cs',k1,k2,d,k3,k4⟩:=h len (by omega);refine⟨l++[d],xs++cs',by simp[h1],by rw[AQ,h2,k1,Hr],DList.append h3 ⟨cs',[],by simp,k3,rfl⟩,λj v hj=>?_,?_⟩
  ·rw[List.getElem?_append]at hj
   split at hj
   ·exact h4 j v hj
   ·rename_i Ax
    obtain⟨Arp,_⟩:=Fe.1 hj;have:=k2 (j-xs.length) (by omega);rw[ND,<-h2,show xs.length+(j-xs.length)=j by omega]at this;rw[this,hj]
  ·intro x hx
   rcases C5.1 hx with hx|hx
   ·exact h5 x hx
   ·simp only[DY]at hx
    subst hx;exact k4
theorem cA:∀(n:Yn){t:Yr}{τ:Ty}{cs:Ye Yq},MG P n t τ=Yp->(∃m sp hd y,YaF enc P w 0 sp hd m t cs=Yg y)->∃d:τ.den,DRep w (λ_=>True) τ d cs/\Wf τ d
 |0,_,_,_,h,_=>by simp[MG]at h
 |n+1,t,τ,cs,hf,⟨m,sp,hd,y,hy⟩=>by
  simp only[MG]at hf;split at hf
  ·rename_i hu
   cases τ<;>simp only at hf<;>first|(cases hf;done)|skip
   obtain⟨b,rfl,-⟩:=DataW.trod_bool hu hy;exact⟨b,rfl,trivial⟩
  ·rename_i k hu
   cases τ<;>simp only at hf<;>first|(cases hf;done)|skip
   obtain rfl:=Bd hf;obtain⟨b,rfl,-,hw⟩:=DataW.trod_int hu hy;exact⟨b,rfl,hw⟩
  ·rename_i hu
   cases τ<;>simp only at hf<;>first|(cases hf;done)|skip
   obtain⟨s,rfl,-,hs⟩:=DataW.trod_string hu hy;exact⟨s.data.toList,by simp only[DRep],by show s.data.toList.length<=Yaj;rw[Hq];exact hs⟩
  ·rename_i e hu
   cases τ<;>simp only at hf<;>first|(cases hf;done)|skip
   rename_i ε;simp only[Dk]at hf;obtain⟨h1,h2⟩:=hf;have h1:=AB h1;rcases open_slice hu hy with⟨rfl,-⟩|⟨a,len,cap,m',n',D,Pl,rfl,hb,hl,hm,KD,-,hi⟩
   ·refine⟨[],?_,EA _,by simp⟩
    simp only[DRep];exact⟨Yf,0,[],rfl,Av _,EA _,rfl,by simp⟩
   ·obtain⟨l,xs,k1,k2,k3,k4,k5⟩:=Agx (w:=w) (ε:=ε) (a:=a) h1 len (λi AOu=>by
     have XS:i<m':=by rw[KD];split<;>omega
     obtain⟨cs',c1,c2⟩:=hi i XS;obtain⟨-,q1,q2⟩:=World.cells?_some c1;exact⟨cs',q1,q2,cA n h2 ⟨_,_,_,_,c2⟩⟩)
    refine⟨l,?_,?_,k5⟩
    ·simp only[DRep]
     exact⟨Yg a,cap,xs,by rw[k1],by omega,hm,k3,λj v hj=>⟨a,rfl,trivial,k4 j v hj⟩⟩
    ·show l.length<=Yaj
     omega
  ·rename_i fs hu
   simp only[Dk]at hf;obtain⟨h1,h2⟩:=hf;have h1:=AB h1;obtain⟨xs,m',-,-,AU,Ae,hg⟩:=DataW.trod_struct hu hy
   have:=Agv (enc:=enc) (P:=P) (w:=w) (cs:=cs) (λ{t τ c} h1 h2=>cA n h1 h2) fs.toList 0 τ h2 (λf hf=>by obtain⟨i,hi,rfl⟩:=List.getElem_of_mem hf;have:=hg i fs[i] (by simp at hi;simp[hi]);simp at hi;rw[Ff (by omega)]at this;exact⟨_,_,_,_,this⟩) (by omega)
   simpa using this
  ·rename_i k e hu
   simp only[Dk]at hf;obtain⟨h1,h2⟩:=hf;have h1:=AB h1;obtain⟨xs,m',-,-,AU,Ae,hg⟩:=DataW.trod_array hu hy
   have:=Agw (enc:=enc) (P:=P) (w:=w) (C:=P.cellsOf e) (e:=e) (cs:=cs) (λ{τ c} h1 h2=>cA n h1 h2) k 0 τ h2 (λj _ hj=>by have:=hg j (by omega);rw[Ff (by omega)]at this;exact⟨_,_,_,_,this⟩) (by omega)
   simpa using this
  ·cases hf
def isAgg(P:Yw)(t:Yr):Ys:=
 match P.underlying t with
 |some (.struct _)=>Yp
 |some (.array _ _)=>Yp
 |_=>Yi
def fitP(P:Yw):Ye Yr->Ye (Ys×Ye CT)->Ys
 |[],[]=>Yp
 |t::ts,(g,[.data τ])::ps=>(g==isAgg P t)&&(MG P 12 t τ&&fitP P ts ps)
 |_,_=>Yi
def WfC:(l:Ye CT)->CT.dens l->Prop
 |[],_=>True
 |.data τ::r,x=>Wf τ x.1/\WfC r x.2
 |.ptr _ _::r,x=>WfC r x
 |.rowh _::r,x=>WfC r x
 |.fn _ _::r,x=>WfC r x
 |.maph _::r,x=>WfC r x
 |.math _::r,x=>WfC r x
 |.bself _::r,x=>WfC r x
 |.bfnh _ _::r,x=>WfC r x
 |.trowh _::r,x=>WfC r x
 |.tptrh _ _ _::r,x=>WfC r x.2
 |.nilc::r,x=>WfC r x
 |.nils::r,x=>WfC r x
 |.lsome _::r,x=>WfC r x.2
 |.junk::r,x=>WfC r x
def WfS:(l:Ye (Ys×Ye CT))->ST.dens l->Prop
 |[],_=>True
 |p::r,x=>WfC p.2 x.1/\WfS r x.2
theorem Av3{n base:Yn}{t:Yr}{v:Yq}(h:Yab P w .any base t v)(hf:∃τ,MG P (n+1) t τ=Yp):if isAgg P t=Yp then v=.agg v.cells.toList.toArray else v.cells.toList=[v]:=by
 obtain⟨τ,hf⟩:=hf;simp only[MG]at hf;split at hf
 ·rename_i hu
  rw[show isAgg P t=Yi by simp only[isAgg,hu]];simp only[Yab,hu]at h;cases v with
  |agg cs=>simp only[YaQ,Cell.ok,hu]at h
  |_=>rfl
 ·rename_i k hu
  rw[show isAgg P t=Yi by simp only[isAgg,hu]];simp only[Yab,hu]at h;cases v with
  |agg cs=>simp only[YaQ,Cell.ok,hu]at h
  |_=>rfl
 ·rename_i hu
  rw[show isAgg P t=Yi by simp only[isAgg,hu]];simp only[Yab,hu]at h;cases v with
  |agg cs=>simp only[YaQ,Cell.ok,hu]at h
  |_=>rfl
 ·rename_i e hu
  rw[show isAgg P t=Yi by simp only[isAgg,hu]];simp only[Yab,hu]at h;cases v with
  |agg cs=>simp only[YaQ,Cell.ok,hu]at h
  |_=>rfl
 ·rename_i fs hu
  rw[show isAgg P t=Yp by simp only[isAgg,hu]];simp only[Yab,hu]at h;obtain⟨cs,rfl,-⟩:=h;rfl
 ·rename_i k e hu
  rw[show isAgg P t=Yp by simp only[isAgg,hu]];simp only[Yab,hu]at h;obtain⟨cs,rfl,-⟩:=h;rfl
 ·cases hf
theorem Agy{base:Yn}:∀{ts:Ye Yr}{ps:Ye (Ys×Ye CT)}{vs:Ye Yq}{ds:Ye (DataW H)}{pl:Ye MemPlace},fitP P ts ps=Yp->Yac enc P w 0 (λ_=>Yp) Yp ts vs ds pl->(∀(j:Yn) t v,ts[j]?=Yg t->vs[j]?=Yg v->Yab P w .any base t v)->∃x:ST.dens ps,TReps (env0 P w) (mkS [] ps x) vs/\WfS ps x
 |[],[],vs,ds,pl,_,h,_=>by
  cases vs with
  |nil=>exact⟨(),rfl,trivial⟩
  |cons v vs=>cases ds<;>simp[Yac]at h
 |[],_::_,_,_,_,hf,_,_=>by simp[fitP]at hf
 |_::_,[],_,_,_,hf,_,_=>by simp[fitP]at hf
 |t::ts,(g,cts)::ps,vs,ds,pl,hf,h,Ds=>by
  match cts,hf with
  |[.data τ],hf=>
   simp only[fitP,Dk,beq_iff_eq]at hf;obtain⟨hg,h1,h2⟩:=hf;obtain⟨v,Az,d,AqT,p,q,rfl,rfl,rfl,hd,Ek⟩:=trodAll_cons h;obtain⟨x2,r2,w2⟩:=Agy (base:=base) h2 Ek λj t v hj hv=>Ds (j+1) t v (by simpa using hj) (by simpa using hv);obtain⟨m,hm⟩:=hd;obtain⟨x1,r1,w1⟩:=cA (enc:=enc) (P:=P) (w:=w) 12 h1 ⟨m,_,_,_,hm⟩;have hv:=Av3 (n:=11) (Ds 0 t v rfl rfl) ⟨τ,h1⟩;refine⟨((x1,()),x2),⟨v,Az,rfl,?_,r2⟩,⟨w1,trivial⟩,w2⟩
   have OO:CReps (env0 P w) (cells τ x1++[]) v.cells.toList:=by rw[In];refine Iq ?_;refine DRep.mono ?_ r1;exact λg hg Ax=>⟨⟨.inl trivial,λ⟨i,B,p,hB,_⟩=>by cases hB⟩,rfl⟩
   refine⟨v.cells.toList,OO,?_⟩;rw[<-hg]at hv;exact hv
  |[],hf=>simp[fitP]at hf
  |[.ptr _ _],hf=>simp[fitP]at hf
  |[.rowh _],hf=>simp[fitP]at hf
  |[.fn _ _],hf=>simp[fitP]at hf
  |[.maph _],hf=>simp[fitP]at hf
  |[.math _],hf=>simp[fitP]at hf
  |[.bself _],hf=>simp[fitP]at hf
  |[.bfnh _ _],hf=>simp[fitP]at hf
  |[.trowh _],hf=>simp[fitP]at hf
  |[.tptrh _ _ _],hf=>simp[fitP]at hf
  |[.nilc],hf=>simp[fitP]at hf
  |[.nils],hf=>simp[fitP]at hf
  |[.lsome _],hf=>simp[fitP]at hf
  |[.junk],hf=>simp[fitP]at hf
  |.data _::_::_,hf=>simp[fitP]at hf
  |.ptr _ _::_::_,hf=>simp[fitP]at hf
  |.rowh _::_::_,hf=>simp[fitP]at hf
  |.fn _ _::_::_,hf=>simp[fitP]at hf
  |.maph _::_::_,hf=>simp[fitP]at hf
  |.math _::_::_,hf=>simp[fitP]at hf
  |.bself _::_::_,hf=>simp[fitP]at hf
  |.bfnh _ _::_::_,hf=>simp[fitP]at hf
  |.trowh _::_::_,hf=>simp[fitP]at hf
  |.tptrh _ _ _::_::_,hf=>simp[fitP]at hf
  |.nilc::_::_,hf=>simp[fitP]at hf
  |.nils::_::_,hf=>simp[fitP]at hf
  |.lsome _::_::_,hf=>simp[fitP]at hf
  |.junk::_::_,hf=>simp[fitP]at hf
theorem Av4{f:Func}{s:ChangeSpec}{apart fresh handsOn again:Ys}{W W':Yx}{args:YQ Yq}{v:Yq}{ds gs:Ye (DataW H)}{before pa pv:Ye MemPlace}(hW:DataW.Whole enc P f.params.toList s.vars apart W args.toList ds gs before)(KG:∀(b:Yn)(sp:Yn->Ys)(hd:Ys),Yac enc P W' b sp hd f.resultTypes.toList (v.resultList f.resultTypes.size) (s.fn H (ds++gs)).results [])(Bv:∀sp:Yn->Ys,(∀p∈before,sp p.block=Yp)->Yac enc P W' 0 sp Yp f.params.toList args.toList (s.fn H (ds++gs)).args pa)(Zs:∀sp:Yn->Ys,(∀p∈before,sp p.block=Yp)->DataW.TrodVars enc P W' sp s.vars (s.fn H (ds++gs)).vars pv)(Jp:before=pa++pv)(hb:Below W.heap.size W W')(Ds:∀(j:Yn)(t:Yr)(r:Yq),f.resultTypes[j]?=Yg t->(v.resultList f.resultTypes.size)[j]?=Yg r->Yab P W' .any 0 t r):s.post enc P f apart fresh handsOn again W args v W':=by
 have Ax:∀p∈before,p.block<W.heap.size:=λp hp=>hW.lt p hp;have Ze:∀p∈before,(λb=>decide (b<W.heap.size)) p.block=Yp:=λp hp=>by simpa using Ax p hp
 refine⟨ds,gs,before,[],pa,pv,hW,KG _ _ _,Bv _ Ze,Zs _ Ze,World.keptBut_mono (λp hp=>⟨hp,?_⟩) (hb.frame (· ∈before)),λ_=>?_⟩
 ·rw[Jp,C5]at hp
  exact Or.inr hp
 ·obtain⟨_,_,_,_,_,hz,hn⟩:=hW
  refine⟨Ds,_,_,([]++pa)++pv,⟨[]++pa,pv,trodAll_append (Bv _ (λ_ _=>rfl)) (KG _ _ _),Zs _ (λ_ _=>rfl),rfl,?_,?_⟩,?_⟩
  ·intro b off hp
   have CV:MemPlace.cell b off∈before:=by rw[Jp];simpa using hp
   rw[hb.frozen (Ax _ CV)];exact hz b off CV
  ·intro ha
   have:=hn ha;rw[Jp]at this;simpa using this
  ·intro p hp _
   rw[Jp];simpa using hp
theorem Agz(hl:laidOutB P=Yp){W W':Yx}{sp:Yn->Ys}:∀{ts:Ye Yr}{vs:Ye Yq}{ds:Ye (DataW H)}{ps:Ye MemPlace},(ts.all λt=>P.readableRec t&&Y0 t P.types.size)=Yp->Yac enc P W 0 (λ_=>Yp) Yp ts vs ds ps->Below W.heap.size W W'->(∀x∈ps,x.block<W.heap.size)->(∀x∈ps,sp x.block=Yp)->Yac enc P W' 0 sp Yp ts vs ds ps
 |[],vs,ds,ps,_,h,_,_,_=>by cases vs<;>cases ds<;>simp_all [Yac]
 |t::ts,vs,ds,ps,hr,h,hb,Ax,Zl=>by obtain⟨v,Az,d,AqT,p,q,rfl,rfl,rfl,hd,Ek⟩:=trodAll_cons h;simp only[Rh,Dk]at hr;refine⟨p,q,WideElems.Trod_stays hl hr.1.1 (Nat.blt_eq▸hr.1.2) hd (λx hx=>hb.same (Ax x (by simp[hx]))) (λx hx=>Zl x (by simp[hx])),?_,rfl⟩;exact Agz hl (by simpa using hr.2) Ek hb (λx hx=>Ax x (by simp[hx])) (λx hx=>Zl x (by simp[hx]))
theorem Av5{f:YA}{fn:Func}{s:ChangeSpec}{S:Spec}{apart fresh handsOn again:Ys}{tb:Yr}(hS:SpecOk P f S)(hi:S.ins=[])(_hr:S.res=[(Yi,[.data .bool])])(ho:S.outs=[])(ALg:fitP P fn.params.toList S.params=Yp)(hl:laidOutB P=Yp)(FM:(fn.params.toList.all λt=>P.readableRec t&&Y0 t P.types.size)=Yp)(ArH:fn.resultTypes=#[tb])(ArL:P.underlying tb=Yg .bool)(Zs:s.vars=[])(CD:∀ds:Ye (DataW H),ds.length=fn.params.size->(s.fn H (ds++[])).results=[.lit (.bool Yp)]/\(s.fn H (ds++[])).args=ds/\(s.fn H (ds++[])).vars=[])(ALv:∀{β:Type}(x:ST.dens S.params)(y:BT.dens S.ins)(k:ST.dens S.res×BT.dens S.outs->Ya β),WfS S.params x->∃z,mkS [] S.res z.1=[(Yi,[.bool Yp])]/\S.run (x,y) k=k z){W:Yx}{base:Yn}{args:YQ Yq}{ds gs:Ye (DataW H)}{before:Ye MemPlace}(Zr:∀(j:Yn) t v,fn.params[j]?=Yg t->args[j]?=Yg v->Yab P W .any base t v)(ALP:Opened P W)(hW:DataW.Whole enc P fn.params.toList s.vars apart W args.toList ds gs before):Calls P f args W λe W'=>∃v,e=.returned v/\s.post enc P fn apart fresh handsOn again W args v W':=by
 have hW':=hW;obtain⟨p,q,hA,hV,rfl,AOr,ID⟩:=hW';rw[Zs]at hV
 obtain⟨rfl,rfl⟩:gs=[]/\q=[]:=by
  cases gs with
  |nil=>exact⟨rfl,hV⟩
  |cons g gs=>simp[DataW.TrodVars]at hV
 obtain⟨x,hx,AMp⟩:=Agy (base:=base) ALg hA (λj t v hj hv=>Zr j t v (by simpa using hj) (by simpa using hv));have hy:BT.dens S.ins:=by rw[hi];exact()
 obtain⟨z,hz,AJ⟩:=ALv x hy (λz=>Yg z) AMp;have hc:=hS.call0 hi (x,hy) z AJ W ALP args.toList hx
 have AU:ds.length=fn.params.size:=by
  have:∀{ts:Ye Yr}{vs:Ye Yq}{ds:Ye (DataW H)}{ps:Ye MemPlace},Yac enc P W 0 (λ_=>Yp) Yp ts vs ds ps->ds.length=ts.length:=by
   intro ts
   induction ts with
   |nil=>intro vs ds ps h;cases vs<;>cases ds<;>simp_all [Yac]
   |cons t ts ih=>intro vs ds ps h;obtain⟨v,Az,d,AqT,p,q,rfl,rfl,rfl,hd,Ek⟩:=trodAll_cons h;simp[ih Ek]
  simpa using this hA
 obtain⟨f1,f2,f3⟩:=CD ds AU;refine hc.mono λe W' ⟨Bw,Ak,he,hb,ht⟩=>?_;have QA:AP 0 S.outs.length=[]:=by rw[ho];rfl
 rw[QA,hz]at ht;obtain rfl:=TReps.bool ht;refine⟨.bool Yp,he,Av4 (pa:=p) (pv:=[]) hW (λb sp hd=>?_) (λsp Zl=>?_) (λsp Zl=>?_) rfl hb ?_⟩
 ·rw[f1,ArH]
  exact trodAll_cons_mk (shut_bool ArL _) trodAll_mk0
 ·rw[f2]
  exact Agz hl FM hA hb (λx hx=>hW.lt x (by simpa using hx)) (λx hx=>Zl x (by simpa using hx))
 ·rw[f3,Zs];rfl
 ·exact ok_one ArH rfl (okWide_bool_mk ArL _)
end
theorem Av6{n:Int}(h:(Lit.int .i64 n).wf=true):-9223372036854775808<=n/\n<=9223372036854775807:=by simp[Lit.wf,IntKind.min,IntKind.max,IntKind.signed,IntKind.bits]at h;omega
end Go.Lift
