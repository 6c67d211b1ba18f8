/- Part3: LiftT, LiftU, LiftV, LiftW, LiftX. -/
import Derived.LoopN
import Derived.KernelRfl
import Derived.Below
import Derived.IntWalk
import Derived.Deep.Slices
import Derived.Deep.Fields
import Derived.ChangeSame
import Derived.OpenShut
import Derived.WalkKit
import Derived.ProofKit
import Derived.Test.YtgocccmoefchaaaGreatDoorPart2
set_option linter.unusedVariables false
set_option linter.unusedSectionVars false
set_option linter.unusedSimpArgs false
namespace Go.Lift
noncomputable section
open Go.RowKit
def eqE:AExit->AExit->Bool
 |.normal,.normal=>true
 |.exit a,.exit b=>Nat.beq a b
 |.ret,.ret=>true
 |_,_=>false
theorem AlC{a b:AExit}(h:eqE a b=true):a=b:=by cases a<;>cases b<;>simp only[eqE]at h<;>first|rfl|(cases h;done)|(rw[As h])
@[reducible] def Outs.den:List (AExit×View)->Type
 |[]=>Empty
 |x::r=>x.2.den⊕Outs.den r
@[reducible] def Outs.K(β:Type):List (AExit×View)->Type
 |[]=>Unit
 |x::r=>(x.2.den->Option β)×Outs.K β r
def outK{β:Type}:(outs:List (AExit×View))->Outs.K β outs->Kx β
 |[],_,_,_=>none
 |x::r,ks,e,σ=>
  bif eqE e x.1 then
   match x.2.read σ with
   |some d=>ks.1 d
   |none=>none
  else outK r ks.2 e σ
def Outs.app{β:Type}:(outs:List (AExit×View))->Outs.K β outs->Outs.den outs->Option β
 |_::_,ks,.inl d=>ks.1 d
 |_::r,ks,.inr o=>Outs.app r ks.2 o
def mkK{β:Type}(k:Kx β):(outs:List (AExit×View))->Outs.K β outs
 |[]=>()
 |x::r=>(λd=>k x.1 (x.2.mk' d),mkK k r)
def EZ:(outs:List (AExit×View))->Outs.den outs->AExit×St
 |x::_,.inl d=>(x.1,x.2.mk' d)
 |_::r,.inr o=>EZ r o
def RF{β:Type}(v:View)(g:v.den->Option β)(outs:List (AExit×View))(kk:Outs.K β outs):Kx β
 |.normal,σ=>
  match v.read σ with
  |some d=>g d
  |none=>none
 |e,σ=>outK outs kk e σ
section
variable{P:Program}{n m:Nat}
structure PieceOk (P:Program) (n m:Nat) (c:Code) (v:View) (outs:List (AExit×View)) (G:{β:Type}->v.den->Outs.K β outs->Option β):Prop where
 ok:∀{β:Type}(d:v.den)(kk:Outs.K β outs)(r:β),G d kk=some r->∃o,Outs.app outs kk o=some r/\
  ∀(ok0:OK0 P)(base:Nat)(pl:Nat->Option Pl)(a:Act)(w:World),Rel n ok0 base pl (look (v.mk' d).tm) (look (v.mk' d).bl) a w->
   c.wp P (λe a' w'=>e=(EZ outs o).1.toExit/\∃Ai,Rel n ok0 base Ai (look (EZ outs o).2.tm) (look (EZ outs o).2.bl) a' w'/\StepM m pl (look (v.mk' d).bl) w Ai (look (EZ outs o).2.bl) w') a w
def Wy(v:View)(outs:List (AExit×View))(G:{β:Type}->v.den->Outs.K β outs->Option β):Cut:=
 ⟨λσ k=>
  match v.read σ with
  |some d=>G d (mkK k outs)
  |none=>none⟩
theorem zJ{β:Type}{k:Kx β}:∀{outs:List (AExit×View)}(o:Outs.den outs),Outs.app outs (mkK k outs) o=k (EZ outs o).1 (EZ outs o).2
 |[],o=>o.elim
 |_::_,.inl _=>rfl
 |_::r,.inr o=>zJ (outs:=r) o
theorem AlD{c:Code}{v:View}{outs:List (AExit×View)}{G:{β:Type}->v.den->Outs.K β outs->Option β}(hv:v.m=m)(h:PieceOk P n m c v outs G):Pu P n m c (Wy v outs G):=by
 intro β σ k r hr;simp only[Wy]at hr;split at hr
 ·rename_i d hd
  obtain⟨o,ho,hw⟩:=h.ok d _ r hr;rw[zJ]at ho;refine⟨_,_,ho,λok0 base pl a w Fo=>?_⟩;obtain⟨plv,h1,h2⟩:=View.weaken hd Fo;rw[hv]at h2;exact EN (hw ok0 base plv a w h1) λe a' w' ⟨he,Ai,h3,h4⟩=>⟨he,Ai,h3,h2.trans h4⟩
 ·cases hr
theorem gC{β:Type}{r:β}{e:AExit}{σ:St}:∀{outs:List (AExit×View)}{kk:Outs.K β outs},(∀x∈outs,x.2.m=m)->outK outs kk e σ=some r->∃o,Outs.app outs kk o=some r/\(EZ outs o).1=e/\∀(ok0:OK0 P)(base:Nat)(pl:Nat->Option Pl)(a:Act)(w:World),Rel n ok0 base pl (look σ.tm) (look σ.bl) a w->∃plv,Rel n ok0 base plv (look (EZ outs o).2.tm) (look (EZ outs o).2.bl) a w/\StepM m pl (look σ.bl) w plv (look (EZ outs o).2.bl) w
 |[],kk,_,h=>by simp[outK]at h
 |x::l,kk,hm,h=>by
  simp only[outK]at h;cases he:eqE e x.1 with
  |true=>
   rw[he,Am]at h;split at h
   ·rename_i d hd
    refine⟨.inl d,h,(AlC he).symm,λok0 base pl a w hr=>?_⟩;have:=View.weaken hd hr;rw[hm x (by simp)]at this;exact this
   ·cases h
  |false=>rw[he,Cj]at h;obtain⟨o,h1,h2,h3⟩:=gC (λy hy=>hm y (by simp[hy])) h;exact⟨.inr o,h1,h2,h3⟩
theorem AlE{β:Type}{r:β}{c:Code}{σ:St}{outs:List (AExit×View)}{kk:Outs.K β outs}(hm:∀x∈outs,x.2.m=m)(h:Sim P n m c σ (outK outs kk) r):∃o,Outs.app outs kk o=some r/\∀(ok0:OK0 P)(base:Nat)(pl:Nat->Option Pl)(a:Act)(w:World),Rel n ok0 base pl (look σ.tm) (look σ.bl) a w->c.wp P (λe a' w'=>e=(EZ outs o).1.toExit/\∃Ai,Rel n ok0 base Ai (look (EZ outs o).2.tm) (look (EZ outs o).2.bl) a' w'/\StepM m pl (look σ.bl) w Ai (look (EZ outs o).2.bl) w') a w:=by
 obtain⟨e',σ',h1,h2⟩:=h;obtain⟨o,h3,h4,h5⟩:=gC (n:=n) hm h1;refine⟨o,h3,λok0 base pl a w hr=>EN (h2 ok0 base pl a w hr) λe a' w' ⟨he,Ai,Bv,BN⟩=>?_⟩;obtain⟨plv,h6,h7⟩:=h5 ok0 base Ai a' w' Bv;exact⟨by rw[he,h4],plv,h6,BN.trans h7⟩
theorem zK{outs:List (AExit×View)}(h:(outs.all λx=>Nat.beq x.2.m m)=true):∀x∈outs,x.2.m=m:=λx hx=>As (Ef.1 h x hx)
theorem AlF(Dc:P.follows .mixedOrders=true){X:Ctx}(hT:TOk P X.T)(hΓ:ΓOk P X.Γ){Λ:Nat->Option Cut}{p:Nat}{c:Code}{v:View}{outs:List (AExit×View)}{G:{β:Type}->v.den->Outs.K β outs->Option β}(hmB:(outs.all λx=>Nat.beq x.2.m m)=true)(hΛ:∀q cut,Λ q=some cut->∀c'∈find q p c,Pu P n m c' cut)(h:∀{β:Type}(d:v.den)(kk:Outs.K β outs)(r:β),G d kk=some r->exec X n Λ p c (v.mk' d) (outK outs kk)=some r):PieceOk P n m c v outs G:=
 ⟨λd kk r hr=>AlE (zK hmB) (fW Dc hT hΓ hΛ (h d kk r hr))⟩
theorem AlG(Dc:P.follows .mixedOrders=true){X:Ctx}(hT:TOk P X.T)(hΓ:ΓOk P X.Γ){Λ:Nat->Option Cut}{p:Nat}{c:Code}{v:View}{outs:List (AExit×View)}{G:Nat->{β:Type}->v.den->Outs.K β outs->Option β}(hv:v.m=m)(hmB:(outs.all λx=>Nat.beq x.2.m m)=true)(hΛ:∀q cut,Λ q=some cut->∀c'∈find q p c,Pu P n m c' cut)(h0:∀{β:Type}(d:v.den)(kk:Outs.K β outs),G 0 d kk=none)(hs:∀(i:Nat){β:Type}(d:v.den)(kk:Outs.K β outs)(r:β),G (i+1) d kk=some r->exec X n Λ p c (v.mk' d) (RF v (λd'=>G i d' kk) outs kk)=some r):∀i,PieceOk P n m (.loop c) v outs (G i):=by
 have hm:=zK hmB
 have key:∀(i:Nat){β:Type}(d:v.den)(kk:Outs.K β outs)(r:β),G i d kk=some r->∃o,Outs.app outs kk o=some r/\
   ∀(ok0:OK0 P)(base:Nat)(pl:Nat->Option Pl)(a:Act)(w:World),Rel n ok0 base pl (look (v.mk' d).tm) (look (v.mk' d).bl) a w->
    Code.rounds P c (λe a' w'=>e=(EZ outs o).1.toExit/\∃Ai,Rel n ok0 base Ai (look (EZ outs o).2.tm) (look (EZ outs o).2.bl) a' w'/\StepM m pl (look (v.mk' d).bl) w Ai (look (EZ outs o).2.bl) w') i a w:=by
  intro i
  induction i with
  |zero=>intro β d kk r h;rw[h0]at h;cases h
  |succ i ih=>
   intro β d kk r h;obtain⟨e',σ',h1,h2⟩:=fW Dc hT hΓ hΛ (hs i d kk r h)
   have hb:(e'=.normal/\∃d',v.read σ'=some d'/\G i d' kk=some r)\/(e'≠.normal/\outK outs kk e' σ'=some r):=by
    cases e' with
    |normal=>
     simp only[RF]at h1;split at h1
     ·rename_i d' hd;exact .inl ⟨rfl,d',hd,h1⟩
     ·cases h1
    |exit id=>exact .inr ⟨λh=>(by cases h),h1⟩
    |ret=>exact .inr ⟨λh=>(by cases h),h1⟩
   rcases hb with⟨he,d',hd,hg⟩|⟨he,hk⟩
   ·subst he
    obtain⟨o,ho,hw⟩:=ih d' kk r hg;refine⟨o,ho,λok0 base pl a w hr=>?_⟩;rw[rounds_succ];refine EN (h2 ok0 base pl a w hr) λe a' w' ⟨he,Ai,Bv,BN⟩=>?_;subst he;obtain⟨plv,h6,h7⟩:=View.weaken hd Bv;rw[hv]at h7
    have Gv:∀(j:Nat){Q Q':Exit->Act->World->Prop}{a:Act}{w:World},(∀e a w,Q e a w->Q' e a w)->Code.rounds P c Q j a w->Code.rounds P c Q' j a w:=by
     intro j
     induction j with
     |zero=>intro _ _ _ _ _ h;exact h
     |succ j ihj=>
      intro Q Q' a w hq h;rw[rounds_succ]at h⊢;refine EN h λe a w h=>?_;cases e with
      |normal=>exact ihj hq h
      |_=>exact hq _ _ _ h
    exact Gv i (λe a2 w2 ⟨q1,pl2,q2,q3⟩=>⟨q1,pl2,q2,(BN.trans h7).trans q3⟩) (hw ok0 base plv a' w' h6)
   ·obtain⟨o,h3,h4,h5⟩:=gC (n:=n) hm hk
    refine⟨o,h3,λok0 base pl a w hr=>?_⟩;rw[rounds_succ];refine EN (h2 ok0 base pl a w hr) λe a' w' ⟨Kw,Ai,Bv,BN⟩=>?_;obtain⟨plv,h6,h7⟩:=h5 ok0 base Ai a' w' Bv;subst Kw
    have hQ:e'.toExit=(EZ outs o).1.toExit/\∃Ai,Rel n ok0 base Ai (look (EZ outs o).2.tm) (look (EZ outs o).2.bl) a' w'/\StepM m pl (look (v.mk' d).bl) w Ai (look (EZ outs o).2.bl) w':=
     ⟨by rw[h4],plv,h6,BN.trans h7⟩
    cases e' with
    |normal=>exact absurd rfl he
    |exit id=>exact hQ
    |ret=>exact hQ
 refine λi=>⟨λ{β} d kk r h=>?_⟩;obtain⟨o,ho,hw⟩:=key i d kk r h;exact⟨o,ho,λok0 base pl a w hr=>wp_loop_rounds i (hw ok0 base pl a w hr)⟩
def vIn(S:Spec):View:={m:=S.ins.length,slots:=AH 0 S.params.length,params:=S.params,ins:=S.ins}
inductive RS where
 |tmp (t:Nat)
 |cell (a:Nat) (t:TypeId)
def RS.toVar:RS->ResultVar
 |.tmp t=>.tmp t
 |.cell a t=>.cell a t
def gD(T:TypeId->Option TI)(tm:List (Nat×V))(bl:List (Nat×Blk)):RS->Option V
 |.tmp t=>look tm t
 |.cell a t=>
  match T t with
  |none=>none
  |some ti=>
   bif ti.agg||Nat.beq ti.size 1 then
    match look tm a with
    |some (.c (.ptr b o))=>
     match look bl b with
     |some (.cells _ cs)=>
      match sub cs o ti.size with
      |some rc=>some (V.mk ti.agg rc)
      |none=>none
     |_=>none
    |_=>none
   else none
def HK(T:TypeId->Option TI)(tm:List (Nat×V))(bl:List (Nat×Blk)):List RS->Option (List V)
 |[]=>some []
 |x::r=>
  match gD T tm bl x with
  |none=>none
  |some v=>
   match HK T tm bl r with
   |none=>none
   |some vs=>some (v::vs)
def numV:Nat->List V->List (Nat×V)
 |_,[]=>[]
 |i,v::r=>(i,v)::numV (i+1) r
def vRes(S:Spec):View:={m:=S.ins.length,slots:=AH 0 S.res.length,params:=S.res,ins:=S.outs}
def Nj{β:Type}(T:TypeId->Option TI)(S:Spec)(rs:List RS)(k:ST.dens S.res×BT.dens S.outs->Option β)(σ:St):Option β:=
 match HK T σ.tm σ.bl rs with
 |none=>none
 |some vs=>
  match(vRes S).read ⟨numV 0 vs,σ.bl,σ.nx⟩with
  |some y=>k y
  |none=>none
def retK{β:Type}(T:TypeId->Option TI)(S:Spec)(rs:List RS)(k:ST.dens S.res×BT.dens S.outs->Option β):Kx β
 |.exit _,_=>none
 |.normal,σ=>Nj T S rs k σ
 |.ret,σ=>Nj T S rs k σ
theorem gE{E:Env}{ids:List Nat}{tmps:Array Value}:∀{l:List (Bool×List CT)}{x:ST.dens l}{us:List Value}{s:Nat},TReps E (mkS ids l x) us->(∀j,j<us.length->tmps.getD (s+j) undef=us.getD j undef)->∀t v,look (mkT ids (AH s l.length) l x) t=some v->VRep E v (tmps.getD t undef)
 |[],_,_,s,_,_,t,v,h=>by simp[mkT,AH,EB,Ex]at h
 |p::l,x,us,s,hr,hg,t,v,h=>by
  obtain⟨u,C4,e,h1,h2⟩:=hr;subst e;simp only[Ba,AH,mkT,EB,Ex]at h;by_cases FN:t=s
  ·subst FN
   rw[MS,Am,Af]at h;subst h;have:=hg 0 (by simp);simp only[OO,List.getD_cons_zero]at this;rw[this];exact VRep.mk h1
  ·rw[HH FN,Cj]at h
   refine gE h2 (λj hj=>?_) t v h;have:=hg (j+1) (by simpa using hj);rw[show s+1+j=s+(j+1) by omega,this];simp
theorem TReps.length{E:Env}:∀{ts:List (Bool×List C)}{vs:List Value},TReps E ts vs->vs.length=ts.length
 |[],vs,h=>by simp only[TReps]at h;simp[h]
 |_::ts,vs,⟨_,_,e,_,h⟩=>by rw[e,Ba,Ba,TReps.length h]
theorem gF{ids:List Nat}:∀{l:List (Bool×List CT)}{x:ST.dens l},(mkS ids l x).length=l.length
 |[],_=>rfl
 |_::l,x=>by simp[mkS,gF (l:=l)]
def CT.count:List CT->Nat
 |[]=>0
 |.data τ::r=>τ.size+CT.count r
 |_::r=>CT.count r+1
def ST.tidy:List (Bool×List CT)->Bool
 |[]=>true
 |p::r=>(p.1||Nat.beq (CT.count p.2) 1)&&ST.tidy r
theorem Hy{ids:List Nat}:∀{l:List CT}{x:CT.dens l},(mkC ids l x).length=CT.count l
 |[],_=>rfl
 |.data τ::l,x=>by simp[mkC,CT.count,dX,Hy (l:=l)]
 |.ptr _ _::l,x=>by simp[mkC,CT.count,Hy (l:=l)]
 |.rowh _::l,x=>by simp[mkC,CT.count,Hy (l:=l)]
 |.fn _ _::l,x=>by simp[mkC,CT.count,Hy (l:=l)]
 |.maph _::l,x=>by simp[mkC,CT.count,Hy (l:=l)]
 |.math _::l,x=>by simp[mkC,CT.count,Hy (l:=l)]
 |.bself _::l,x=>by simp[mkC,CT.count,Hy (l:=l)]
 |.bfnh _ _::l,x=>by simp[mkC,CT.count,Hy (l:=l)]
 |.trowh _::l,x=>by simp[mkC,CT.count,Hy (l:=l)]
 |.tptrh _ _ _::l,x=>by simp[mkC,CT.count,Hy (l:=l)]
 |.nilc::l,x=>by simp[mkC,CT.count,Hy (l:=l)]
 |.nils::l,x=>by simp[mkC,CT.count,Hy (l:=l)]
 |.lsome _::l,x=>by simp[mkC,CT.count,Hy (l:=l)]
 |.junk::l,x=>by simp[mkC,CT.count,Hy (l:=l)]
theorem zL{ids:List Nat}:∀{slots:List Nat}{l:List (Bool×List CT)}{x:ST.dens l}{t:Nat}{v:V},look (mkT ids slots l x) t=some v->t∈slots
 |[],_,_,t,v,h=>by simp[mkT,EB,Ex]at h
 |_::_,[],_,t,v,h=>by simp[mkT,EB,Ex]at h
 |s::ss,p::l,x,t,v,h=>by
  simp only[mkT,EB,Ex]at h;by_cases FN:t=s
  ·simp[FN]
  ·rw[HH FN,Cj]at h
   exact Dm _ (zL h)
theorem zM{E:Env}{ids:List Nat}{tmps:Array Value}:∀{slots:List Nat}{l:List (Bool×List CT)}{x:ST.dens l},slots.length=l.length->(∀t v,look (mkT ids slots l x) t=some v->VRep E v (tmps.getD t undef))->slots.Nodup->ST.tidy l=true->TReps E (mkS ids l x) (slots.map λt=>tmps.getD t undef)
 |[],[],_,_,_,_,_=>rfl
 |[],_::_,_,hl,_,_,_=>by simp at hl
 |_::_,[],_,hl,_,_,_=>by simp at hl
 |s::ss,p::l,x,hl,h,hn,ht=>by
  obtain⟨t1,t2⟩:=andB (show((p.1||Nat.beq (CT.count p.2) 1)&&ST.tidy l)=true from ht);obtain⟨n1,n2⟩:=KJ.1 hn;have h1:=h s (V.mk p.1 (mkC ids p.2 x.1)) (by simp[mkT,EB,Ex]);refine⟨_,_,rfl,?_,zM (by simpa using hl) (λt v hv=>h t v ?_) n2 t2⟩
  ·cases ha:p.1 with
   |true=>rw[ha]at h1;exact h1
   |false=>
    rw[ha]at h1 t1;simp only[MO]at t1;have Bb:=Hy (ids:=ids) (l:=p.2) (x:=x.1);rw[As t1]at Bb;show SRep E false (mkC ids p.2 x.1) _
    match hc:mkC ids p.2 x.1,Bb with
    |[y],_=>rw[hc]at h1;exact⟨[_],⟨_,_,rfl,h1,rfl⟩,by simp⟩
  ·have:t∈ss:=zL hv
   have AL:t≠s:=λe=>n1 (e▸this);rw[mkT,Ex,HH AL,Cj];exact hv
theorem VReps.length{E:Env}:∀{vs:List V}{us:List Value},VReps E vs us->us.length=vs.length
 |[],us,h=>by simp only[VReps]at h;simp[h]
 |_::vs,us,⟨_,_,e,_,h⟩=>by rw[e,Ba,Ba,VReps.length h]
theorem VReps.get{E:Env}:∀{vs:List V}{us:List Value}{s t:Nat}{v:V},VReps E vs us->look (numV s vs) t=some v->s<=t/\∃u,us[t-s]?=some u/\VRep E v u
 |[],us,s,t,v,h,hl=>by simp[numV,EB,Ex]at hl
 |x::vs,us,s,t,v,⟨u,C4,e,h1,h2⟩,hl=>by
  simp only[numV,EB,Ex]at hl;by_cases FN:t=s
  ·subst FN
   rw[MS,Am,Af]at hl;subst hl;exact⟨AC _,u,by simp[e],h1⟩
  ·rw[HH FN,Cj]at hl
   obtain⟨h3,u',h4,h5⟩:=VReps.get h2 hl;refine⟨by omega,u',?_,h5⟩;have h6:t-s=(t-(s+1))+1:=by omega
   rw[e,h6,DI];exact h4
theorem AlH{P:Program}{n:Nat}{T:TypeId->Option TI}(hT:TOk P T){tm:List (Nat×V)}{bl:List (Nat×Blk)}{x:RS}{v:V}(hv:gD T tm bl x=some v){ok0:OK0 P}{base:Nat}{pl:Nat->Option Pl}{a:Act}{w:World}{blw:Nat->Option Blk}(uQ:∀b B,look bl b=some B->blw b=some B)(hr:Rel n ok0 base pl (look tm) blw a w):∃val,(match x.toVar with|.tmp t=>(pure (a.tmps.getD t undef):Sem Value)|.cell b t=>do loadVar t (<-asAddr (a.tmps.getD b undef))).run P w=.ok val w/\VRep (Al ok0 base pl blw w) v val:=by
 cases x with
 |tmp t=>exact⟨_,by simp only[RS.toVar,Sem.run_pure],hr.tmps t v hv⟩
 |cell b t=>
  simp only[gD]at hv;split at hv
  ·cases hv
  rename_i ti ht;obtain⟨i,d,z,f⟩:=hT.facts ht;cases h1:(ti.agg||Nat.beq ti.size 1)with
  |false=>rw[h1]at hv;cases hv
  |true=>
   have Cq:ti.agg=true\/ti.size=1:=by
    rcases(KI _ _).mp h1 with h|h
    ·exact .inl h
    ·exact .inr (As h)
   simp only[h1,Am]at hv;split at hv
   ·rename_i b' o hb
    split at hv
    ·rename_i t0 cs Aj
     split at hv
     ·rename_i rc AO
      simp only[Af]at hv;subst hv;obtain⟨g,hg,Bm⟩:=hr.tmps b _ hb;obtain⟨p,hp,hB⟩:=hr.rel.blks b' _ (uQ _ _ Aj);have:p=.cells g:=by have h2:pl b'=some (.cells g):=hg;rw[hp]at h2;injection h2
      subst this;obtain⟨vs,hh,CH⟩:=hB;obtain⟨s1,s2,s3⟩:=MY CH AO;obtain⟨val,EU,Gf⟩:=Rx f s2 Cq (λj u hj=>Wq hh hj) s1;refine⟨val,?_,Gf⟩;simp only[RS.toVar,Bm,asAddr,pure_bind];exact EU
     ·cases hv
    ·cases hv
   ·cases hv
theorem gG{P:Program}{n:Nat}{T:TypeId->Option TI}(hT:TOk P T){fn:Func}{rs:List RS}(h:fn.results.toList=rs.map RS.toVar){tm:List (Nat×V)}{bl:List (Nat×Blk)}{vs:List V}(hv:HK T tm bl rs=some vs){ok0:OK0 P}{base:Nat}{pl:Nat->Option Pl}{a:Act}{w:World}{blw:Nat->Option Blk}(uQ:∀b B,look bl b=some B->blw b=some B)(hr:Rel n ok0 base pl (look tm) blw a w):∃Bh,(results fn a.tmps).run P w=.ok (Hx Bh) w/\VReps (Al ok0 base pl blw w) vs Bh:=by
 have h':fn.results=(rs.map RS.toVar).toArray:=by apply Ht;simpa using h
 let F:ResultVar->Sem Value:=λx=>match x with|.tmp t=>pure (a.tmps.getD t undef)|.cell b t=>do loadVar t (<-asAddr (a.tmps.getD b undef))
 have hl:∀(rs:List RS)(vs:List V),HK T tm bl rs=some vs->∃Bh,((rs.map RS.toVar).mapM F).run P w=.ok Bh w/\VReps (Al ok0 base pl blw w) vs Bh:=by
  intro rs
  induction rs with
  |nil=>intro vs h;simp only[HK,Af]at h;subst h;exact⟨[],by simp,rfl⟩
  |cons x rs ih=>
   intro vs h;simp only[HK]at h;split at h
   ·cases h
   ·rename_i v EU
    split at h
    ·cases h
    ·rename_i Ap uV
     simp only[Af]at h;subst h;obtain⟨val,h1,h2⟩:=AlH hT EU uQ hr;obtain⟨Bh,h3,h4⟩:=ih Ap uV;refine⟨val::Bh,?_,val,Bh,rfl,h2,h4⟩;rw[CE,List.mapM_cons];simp only[Sem.run_bind];have Cq:(F x.toVar).run P w=.ok val w:=h1;rw[Cq];simp only[Result.andThen_ok];rw[h3];simp
 obtain⟨Bh,h1,h2⟩:=hl rs vs hv;refine⟨Bh,?_,h2⟩
 have hm:(fn.results.mapM F).run P w=.ok Bh.toArray w:=by rw[h',List.mapM_toArray,map_eq_pure_bind,Sem.run_bind,h1];simp only[Result.andThen_ok,Sem.run_pure]
 have key:(results fn a.tmps).run P w=((fn.results.mapM F)>>=λvs=>pure (if h:vs.size=1 then vs[0]else .tuple vs)).run P w:=rfl;rw[key,Sem.run_bind,hm];simp only[Result.andThen_ok,Sem.run_pure];congr 1;cases Bh with
 |nil=>simp[Hx]
 |cons s ss=>
  cases ss with
  |nil=>simp[Hx]
  |cons _ _=>simp[Hx]
theorem AlI{us:List Value}:∀{l s:Nat}{pre:List Value},pre.length=s->us.length=l->((AH s l).map λt=>(pre++us).toArray.getD t undef)=us:=by
 induction us with
 |nil=>intro l s pre hp hl;simp at hl;subst hl;rfl
 |cons u us ih=>
  intro l s pre hp hl;cases l with
  |zero=>simp at hl
  |succ l=>
   simp only[AH,CE,De];refine⟨?_,?_⟩
   ·simp[EL,<-hp]
   ·have:=ih (l:=l) (s:=s+1) (pre:=pre++[u]) (by simp[hp]) (by simpa using hl)
    simpa [Cw]using this
structure SpecOkB (P:Program) (f:FuncId) (S:Spec):Prop where
 fn:∃fn,P.funcs[f]?=some fn/\(fn.name== "runtime.NumGoroutine")=false/\fn.body.isNone=false
 ok:∀{β:Type}(x:ST.dens S.params×BT.dens S.ins)(k:ST.dens S.res×BT.dens S.outs->Option β)(r:β),S.run x k=some r->
  ∃y,k y=some r/\∀(ok0:OK0 P)(base:Nat)(pl:Nat->Option Pl)(w:World)(args:List Value),base<=w.heap.size->
   RelB ok0 base pl (fnBl (mkB (AH 0 S.ins.length) S.ins x.2)) w->
   TReps (Al ok0 base pl (fnBl (mkB (AH 0 S.ins.length) S.ins x.2)) w) (mkS (AH 0 S.ins.length) S.params x.1) args->
   Calls P f args.toArray w λe w'=>∃Bh Ai,e=.returned (Hx Bh)/\
    RelB ok0 base Ai (fnBl (mkB (AH 0 S.outs.length) S.outs y.2)) w'/\
    StepM S.ins.length pl (fnBl (mkB (AH 0 S.ins.length) S.ins x.2)) w Ai (fnBl (mkB (AH 0 S.outs.length) S.outs y.2)) w'/\
    TReps (Al ok0 base Ai (fnBl (mkB (AH 0 S.outs.length) S.outs y.2)) w') (mkS (AH 0 S.outs.length) S.res y.1) Bh
theorem SpecOkB.spec{P:Program}{f:FuncId}{S:Spec}(h:SpecOkB P f S):SpecOk P f S:=
 ⟨h.fn,λx k r hr=>by obtain⟨y,hy,hc⟩:=h.ok x k r hr;exact⟨y,hy,λok0 pl w args Fo Bg=>hc ok0 w.heap.size pl w args (AC _) Fo Bg⟩⟩
theorem gH{P:Program}(Dc:P.follows .mixedOrders=true){X:Ctx}(hT:TOk P X.T)(hΓ:ΓOk P X.Γ){Λ:Nat->Option Cut}{S:Spec}{f:FuncId}{fn:Func}{c:Code}{rs:List RS}(hf:P.funcs[f]?=some fn)(E7:(fn.name== "runtime.NumGoroutine")=false)(hb:fn.body=some c)(K4:fn.results.toList=rs.map RS.toVar)(Dg:(Nat.beq rs.length S.res.length&&(ST.tidy S.res&&Nat.ble S.params.length fn.ntmps))=true)(hΛ:∀q cut,Λ q=some cut->∀c'∈find q 1 c,Pu P fn.ntmps S.ins.length c' cut)(h:∀{β:Type}(x:ST.dens S.params×BT.dens S.ins)(k:ST.dens S.res×BT.dens S.outs->Option β)(r:β),S.run x k=some r->exec X fn.ntmps Λ 1 c ((vIn S).mk' x) (retK X.T S rs k)=some r):SpecOkB P f S:=by
 obtain⟨o2,Dg⟩:=andB Dg;obtain⟨o3,o4⟩:=andB Dg;have o2:=As o2;have o4:=Hs o4;refine⟨⟨fn,hf,E7,by rw[hb];rfl⟩,λx k r hr=>?_⟩;obtain⟨e',σ',hk,hw⟩:=fW Dc hT hΓ (m:=S.ins.length) hΛ (h x k r hr)
 have EH:(e'=.normal\/e'=.ret)/\Nj X.T S rs k σ'=some r:=by
  cases e' with
  |normal=>exact⟨.inl rfl,hk⟩
  |ret=>exact⟨.inr rfl,hk⟩
  |exit id=>cases hk
 obtain⟨Kw,hk⟩:=EH;unfold Nj at hk;split at hk
 ·cases hk
 rename_i vs Dp;split at hk
 ·rename_i y hy
  refine⟨y,hk,λok0 base pl w args _hbase Fo Bg=>?_⟩;have Bb:args.length=S.params.length:=by rw[TReps.length Bg,gF]
  refine calls_of_wp hf hb ?_
  have UP:Rel fn.ntmps ok0 base pl (look ((vIn S).mk' x).tm) (look ((vIn S).mk' x).bl) {tmps:=args.toArray++Array.replicate (fn.ntmps-args.toArray.size) undef,defers:=[]} w:=by have ebl:look ((vIn S).mk' x).bl=fnBl (mkB (AH 0 S.ins.length) S.ins x.2):=Ni (vIn S) x;rw[ebl];refine⟨rfl,by simp;omega,λt v ht=>?_,Fo⟩;refine gE (s:=0) Bg (λj hj=>?_) t v ht;simp only[DL,EL];rw[V1 (by simpa using hj)];simp[List.getD]
  refine EN (hw ok0 base pl _ w UP) λe a' w' ⟨he,Ai,Bv,BN⟩=>?_;obtain⟨Bh,AA,M6⟩:=gG hT K4 Dp (λ_ _ h=>h) Bv
  have uR:Rel Bh.length ok0 base Ai (look (numV 0 vs)) (look σ'.bl) {tmps:=Bh.toArray,defers:=[]} w':=by refine⟨rfl,by simp,λt v ht=>?_,Bv.rel⟩;obtain⟨_,u,h1,h2⟩:=VReps.get M6 ht;simp only[Nat.sub_zero]at h1;simp only[EL,V4,h1,KH];exact h2
  obtain⟨plv,EU,Gf⟩:=View.weaken (σ:=⟨numV 0 vs,σ'.bl,σ'.nx⟩) hy uR
  have AA6:Bh.length=S.res.length:=by
   have:∃us,Pv (numV 0 vs) (AH 0 S.res.length)=some us/\True:=by
    unfold View.read at hy;split at hy
    ·cases hy
    ·rename_i us CC;exact⟨us,CC,trivial⟩
   rw[VReps.length M6]
   have AzP:∀(rs:List RS)(vs:List V),HK X.T σ'.tm σ'.bl rs=some vs->vs.length=rs.length:=by
    intro rs
    induction rs with
    |nil=>intro vs h;simp only[HK,Af]at h;subst h;rfl
    |cons x rs ih=>
     intro vs h;simp only[HK]at h;split at h
     ·cases h
     ·split at h
      ·cases h
      ·rename_i Ap uV
       simp only[Af]at h;subst h;simp[ih Ap uV]
   rw[AzP rs vs Dp,o2]
  have ebl:look ((vIn S).mk' x).bl=fnBl (mkB (AH 0 S.ins.length) S.ins x.2):=Ni (vIn S) x;have ebo:look ((vRes S).mk' y).bl=fnBl (mkB (AH 0 S.outs.length) S.outs y.2):=Ni (vRes S) y;rw[ebo]at EU Gf;rw[ebl]at BN;have J8:=zM (ids:=AH 0 S.outs.length) (l:=S.res) (x:=y.1) eT EU.tmps eV o3
  have MB:((AH 0 S.res.length).map λt=>Bh.toArray.getD t undef)=Bh:=by have:=AlI (us:=Bh) (l:=S.res.length) (s:=0) (pre:=[]) rfl AA6;simpa using this
  have Ep:a'.defers=[]/\∃v,(results fn a'.tmps).run P w'=.ok v w'/\(∃Bh Ai,Ending.returned v=.returned (Hx Bh)/\RelB ok0 base Ai (fnBl (mkB (AH 0 S.outs.length) S.outs y.2)) w'/\
     StepM S.ins.length pl (fnBl (mkB (AH 0 S.ins.length) S.ins x.2)) w Ai (fnBl (mkB (AH 0 S.outs.length) S.outs y.2)) w'/\
     TReps (Al ok0 base Ai (fnBl (mkB (AH 0 S.outs.length) S.outs y.2)) w') (mkS (AH 0 S.outs.length) S.res y.1) Bh):=by
   refine⟨Bv.defers,_,AA,Bh,plv,rfl,EU.rel,BN.trans Gf,?_⟩;rw[MB]at J8;exact J8
  rcases Kw with e1|e1<;>rw[e1]at he<;>subst he<;>exact Ep
 ·cases hk
end
end
end Go.Lift
namespace Go.Lift
noncomputable section
open Go.RowKit
def Ez{α:Type 1}:List (Nat×α)->Nat->Option α
 |[],_=>none
 |(j,x)::r,i=>bif Nat.beq i j then some x else Ez r i
theorem zN{α:Type}:∀{l:List (Nat×α)}{i:Nat}{x:α},look l i=some x->(i,x)∈l
 |[],_,_,h=>by simp[EB,Ex]at h
 |(j,y)::r,i,x,h=>by
  simp only[EB,Ex]at h;cases hb:Nat.beq i j with
  |true=>rw[hb,Am]at h;injection h with h;rw[As hb,h];exact Gh
  |false=>rw[hb,Cj]at h;exact Dm _ (zN h)
theorem AlJ{P:Program}{tab:List (Nat×TI)}(h:tab.map (λp=>tiOf P p.1)=tab.map (λp=>some p.2)):TOk P (look tab):=by
 intro t ti ht;have hm:=zN ht
 have key:∀{l:List (Nat×TI)},l.map (λp=>tiOf P p.1)=l.map (λp=>some p.2)->∀p∈l,tiOf P p.1=some p.2:=by
  intro l
  induction l with
  |nil=>intro _ p hp;simp at hp
  |cons q l ih=>
   intro h p hp;simp only[CE,De]at h;rcases Bf.1 hp with e|hp
   ·rw[e];exact h.1
   ·exact ih h.2 p hp
 exact key h _ hm
theorem ΓOk_nil{P:Program}:ΓOk P (Ez []):=⟨λ_ _ h=>by simp[Ez]at h,λ_ _ h=>by simp[Ez]at h,λ_ _ h=>by simp[Ez]at h,λ_ _ h=>by simp[Ez]at h⟩
theorem ΓOk_cons{P:Program}{f:Nat}{S:Spec}{l:List (Nat×Fun)}(h:SpecOk P f S)(hl:ΓOk P (Ez l)):ΓOk P (Ez ((f,.spec S)::l)):=by
 constructor
 all_goals
  intro g S' hg;simp only[Ez]at hg;cases hb:Nat.beq g f with
  |true=>
   rw[hb,Am]at hg
   first
   |(simp only[Af,Fun.spec.injEq]at hg;have NS:=As hb;rw[NS,<-hg];exact h)
   |cases hg
  |false=>
   rw[hb,Cj]at hg
   first|exact hl.spec g S' hg|exact hl.rows g S' hg|exact hl.bld g S' hg|exact hl.abs g S' hg
theorem ΓOk_row{P:Program}{f:Nat}{F:RowF}{l:List (Nat×Fun)}(h:RowOk P f F)(hl:ΓOk P (Ez l)):ΓOk P (Ez ((f,.rows F)::l)):=by
 constructor
 all_goals
  intro g S' hg;simp only[Ez]at hg;cases hb:Nat.beq g f with
  |true=>
   rw[hb,Am]at hg
   first
   |(simp only[Af,Fun.rows.injEq]at hg;have NS:=As hb;rw[NS,<-hg];exact h)
   |cases hg
  |false=>
   rw[hb,Cj]at hg
   first|exact hl.spec g S' hg|exact hl.rows g S' hg|exact hl.bld g S' hg|exact hl.abs g S' hg
theorem ΓOk_bld{P:Program}{f:Nat}{F:BldF}{l:List (Nat×Fun)}(h:BldOk P f F)(hl:ΓOk P (Ez l)):ΓOk P (Ez ((f,.bld F)::l)):=by
 constructor
 all_goals
  intro g S' hg;simp only[Ez]at hg;cases hb:Nat.beq g f with
  |true=>
   rw[hb,Am]at hg
   first
   |(simp only[Af,Fun.bld.injEq]at hg;have NS:=As hb;rw[NS,<-hg];exact h)
   |cases hg
  |false=>
   rw[hb,Cj]at hg
   first|exact hl.spec g S' hg|exact hl.rows g S' hg|exact hl.bld g S' hg|exact hl.abs g S' hg
theorem ΓOk_abs{P:Program}{f:Nat}{A:AbsF}{l:List (Nat×Fun)}(h:AbsOk P f A)(hl:ΓOk P (Ez l)):ΓOk P (Ez ((f,.abs A)::l)):=by
 constructor
 all_goals
  intro g S' hg;simp only[Ez]at hg;cases hb:Nat.beq g f with
  |true=>
   rw[hb,Am]at hg
   first
   |(simp only[Af,Fun.abs.injEq]at hg;have NS:=As hb;rw[NS,<-hg];exact h)
   |cases hg
  |false=>
   rw[hb,Cj]at hg
   first|exact hl.spec g S' hg|exact hl.rows g S' hg|exact hl.bld g S' hg|exact hl.abs g S' hg
def Nk(P:Program)(n m p:Nat)(c:Code)(Λ:Nat->Option Cut):Prop:=∀q cut,Λ q=some cut->∀c'∈find q p c,Pu P n m c' cut
theorem AlK{P:Program}{n m p:Nat}{c:Code}:Nk P n m p c (Ez []):=λ_ _ h=>by simp[Ez]at h
theorem AlL{P:Program}{n m p:Nat}{c c':Code}{q:Nat}{v:View}{outs:List (AExit×View)}{G:{β:Type}->v.den->Outs.K β outs->Option β}{l:List (Nat×Cut)}(hf:find q p c=[c'])(hv:v.m=m)(h:PieceOk P n m c' v outs G)(hl:Nk P n m p c (Ez l)):Nk P n m p c (Ez ((q,Wy v outs G)::l)):=by
 intro q' cut hq c2 Ch;simp only[Ez]at hq;cases hb:Nat.beq q' q with
 |true=>rw[hb,Am]at hq;injection hq with hq;have AzI:=As hb;rw[AzI,hf]at Ch;simp only[E9]at Ch;rw[Ch,<-hq];intro β σ k r hr;exact AlD hv h σ k r hr
 |false=>rw[hb,Cj]at hq;exact hl q' cut hq c2 Ch
def Az(fn:Func):Code:=fn.body.getD .skip
def AI(q:Nat)(c:Code):Code:=
 match find q 1 c with
 |c'::_=>c'
 |[]=>.skip
def E1:Code->Code
 |.loop c=>c
 |_=>.skip
structure Pc where
 n:Nat
 m:Nat
 c:Code
 v:View
 o:List (AExit×View)
abbrev Pc.G(p:Pc):={β:Type}->p.v.den->Outs.K β p.o->Option β
abbrev Pc.Ok(P:Program)(p:Pc)(G:p.G):Prop:=PieceOk P p.n p.m p.c p.v p.o G
abbrev Pc.cut(p:Pc)(G:p.G):Cut:=Wy p.v p.o G
theorem pcE{P:Program}(Dc:P.follows .mixedOrders=true)(X:Ctx)(hT:TOk P X.T)(hΓ:ΓOk P X.Γ)(q:Nat){p:Pc}{G:p.G}(Λ:Nat->Option Cut)(hm:(p.o.all λx=>Nat.beq x.2.m p.m)=true)(hΛ:Nk P p.n p.m q p.c Λ)(h:∀{β:Type}(d:p.v.den)(ks:Outs.K β p.o),exec X p.n Λ q p.c (p.v.mk' d) (outK p.o ks)=G d ks):p.Ok P G:=
 AlF Dc hT hΓ hm hΛ λd ks r hr=>(h d ks).trans hr
theorem pcL{P:Program}(Dc:P.follows .mixedOrders=true)(X:Ctx)(hT:TOk P X.T)(hΓ:ΓOk P X.Γ){p:Pc}{G:Nat->p.G}(Λ:Nat->Option Cut)(hc:p.c=.loop (E1 p.c))(hv:p.v.m=p.m)(hm:(p.o.all λx=>Nat.beq x.2.m p.m)=true)(hΛ:Nk P p.n p.m 1 (E1 p.c) Λ)(h0:∀{β:Type}(d:p.v.den)(ks:Outs.K β p.o),G 0 d ks=none)(h:∀(i:Nat){β:Type}(d:p.v.den)(ks:Outs.K β p.o),exec X p.n Λ 1 (E1 p.c) (p.v.mk' d) (RF p.v (λd'=>G i d' ks) p.o ks)=G (i+1) d ks)(i:Nat):p.Ok P (G i):=by
 have key:=AlG Dc hT hΓ hv hm hΛ (G:=G) h0 (λi β d ks r hr=>(h i d ks).trans hr) i;rw[<-hc]at key;exact key
theorem pcSB{P:Program}(Dc:P.follows .mixedOrders=true)(X:Ctx)(hT:TOk P X.T)(hΓ:ΓOk P X.Γ)(Λ:Nat->Option Cut){S:Spec}{f:FuncId}{fn:Func}(rs:List RS)(hf:P.funcs[f]?=some fn)(E7:(fn.name== "runtime.NumGoroutine")=false)(hb:fn.body=some (Az fn))(K4:fn.results.toList=rs.map RS.toVar)(Dg:(Nat.beq rs.length S.res.length&&(ST.tidy S.res&&Nat.ble S.params.length fn.ntmps))=true)(hΛ:Nk P fn.ntmps S.ins.length 1 (Az fn) Λ)(h:∀{β:Type}(x:ST.dens S.params×BT.dens S.ins)(k:ST.dens S.res×BT.dens S.outs->Option β),exec X fn.ntmps Λ 1 (Az fn) ((vIn S).mk' x) (retK X.T S rs k)=S.run x k):SpecOkB P f S:=
 gH Dc hT hΓ hf E7 hb K4 Dg hΛ λx k r hr=>(h x k).trans hr
end
end Go.Lift
namespace Go.Lift
open Go.RowKit
def env0(P:Program)(w:World):Env:=Al (P:=P) ⟨λ_=>True,λ_=>False⟩ w.heap.size (λ_=>none) (λ_=>none) w
theorem SpecOk.call0{P:Program}{f:FuncId}{S:Spec}(h:SpecOk P f S)(hi:S.ins=[])(x:ST.dens S.params×BT.dens S.ins)(y:ST.dens S.res×BT.dens S.outs)(hy:S.run x (λz=>some z)=some y)(w:World)(hw:Opened P w)(args:List Value)(Bg:TReps (env0 P w) (mkS [] S.params x.1) args):Calls P f args.toArray w λe w'=>∃Bh Ai,e=.returned (Hx Bh)/\Below w.heap.size w w'/\TReps (Al (P:=P) ⟨λ_=>True,λ_=>False⟩ w.heap.size Ai (fnBl (mkB (AH 0 S.outs.length) S.outs y.2)) w') (mkS (AH 0 S.outs.length) S.res y.1) Bh:=by
 obtain⟨y',bI,EG⟩:=h.ok x (λz=>some z) y hy;simp only[Af]at bI;subst bI;have Bb:S.ins.length=0:=by rw[hi];rfl
 have Oh:mkB (AH 0 S.ins.length) S.ins x.2=[]:=by have:=FU (ids:=AH 0 S.ins.length) (l:=S.ins) (y:=x.2);rw[Bb]at this;exact Ik (by rw[Bb];exact this)
 have Aj:fnBl (mkB (AH 0 S.ins.length) S.ins x.2)=λ_=>none:=by rw[Oh];funext b;simp[fnBl]
 have NW:AH 0 S.ins.length=[]:=by rw[Bb];rfl
 have Fo:RelB (P:=P) ⟨λ_=>True,λ_=>False⟩ w.heap.size (λ_=>none) (λ_=>none) w:=
  ⟨AC _,λi B h=>(by cases h),λi j B C p q g _ h=>(by cases h),λ_ _=>rfl,
   ⟨w,hw,AC _,λg _=>⟨rfl,λ⟨_,_,_,h,_⟩=>by cases h⟩,λ_ h=>h.elim⟩,λ_ h=>h.elim⟩
 have:=EG ⟨λ_=>True,λ_=>False⟩ (λ_=>none) w args (by rw[Aj];exact Fo) (by rw[Aj,NW];exact Bg);refine this.mono λe w' ⟨Bh,Ai,he,_,B5,ht⟩=>⟨Bh,Ai,he,⟨B5.os,B5.tape,B5.output,B5.size,λk hk=>?_⟩,ht⟩;refine(B5.out k hk ?_).1;rintro⟨i,B,p,hB,_⟩;rw[Aj]at hB;cases hB
theorem TReps.bool{E:Env}{b:Bool}{Bh:List Value}(h:TReps E [(false,[.bool b])] Bh):Bh=[.bool b]:=by obtain⟨v,vs,e,⟨us,⟨u,C4,e1,h1,h2⟩,h3⟩,h4⟩:=h;simp only[TReps]at h4;simp only[CReps]at h2;simp only[CRep]at h1;simp only[HE,Cx]at h3;subst h4 h2 h1 e1;simp only[De,EA]at h3;subst h3;exact e
theorem TReps.int{E:Env}{k:IntKind}{n:Int}{ts:List (Bool×List C)}{Bh:List Value}(h:TReps E ts Bh):TReps E ((false,[.int k n])::ts) (.int k n::Bh):=
 ⟨_,_,rfl,⟨[_],⟨_,_,rfl,rfl,rfl⟩,by simp⟩,h⟩
end Go.Lift
namespace Go.Lift
open Go.RowKit Go.IntWalk
def fuel:Nat:=18446744073709551616
theorem BI{n:Nat}(h:n<18446744073709551616):n<fuel:=h
end Go.Lift
namespace Go.Lift
open Go.RowKit Go.ChangeShapes Go.WideShapes Go.Deep
def fitF(P:Program)(F:TypeId->Ty->Bool):List Field->Nat->Ty->Bool
 |[],_,.unit=>true
 |[f],o,τ=>Nat.beq f.offset o&&(Nat.beq (P.cellsOf f.type) τ.size&&F f.type τ)
 |f::g::r,o,.prod a b=>Nat.beq f.offset o&&(Nat.beq (P.cellsOf f.type) a.size&&(F f.type a&&fitF P F (g::r) (o+a.size) b))
 |_,_,_=>false
def fitA(C:Nat)(F:Ty->Bool):Nat->Ty->Bool
 |0,.unit=>true
 |1,τ=>Nat.beq C τ.size&&F τ
 |m+2,.prod a b=>Nat.beq C a.size&&(F a&&fitA C F (m+1) b)
 |_,_=>false
def KT(P:Program):Nat->TypeId->Ty->Bool
 |0,_,_=>false
 |n+1,t,τ=>
  match P.underlying t with
  |some .bool=>match τ with|.bool=>true|_=>false
  |some (.int k)=>match τ with|.int k'=>decide (k=k')|_=>false
  |some .string=>match τ with|.str=>true|_=>false
  |some (.slice e)=>match τ with|.slice ε=>Nat.beq (P.cellsOf e) ε.size&&KT P n e ε|_=>false
  |some (.struct fs)=>Nat.beq (P.cellsOf t) τ.size&&fitF P (KT P n) fs.toList 0 τ
  |some (.array m e)=>Nat.beq (P.cellsOf t) τ.size&&fitA (P.cellsOf e) (KT P n e) m τ
  |_=>false
def Wf:(τ:Ty)->τ.den->Prop
 |.int k,n=>(Lit.int k n).wf=true
 |.str,s=>s.length<=maxLen
 |.prod a b,x=>Wf a x.1/\Wf b x.2
 |.slice e,l=>l.length<=maxLen/\∀x∈l,Wf e x
 |.bool,_=>True
 |.unit,_=>True
 |.err,_=>True
section
variable{H:Type}{enc:TypeId×Value->H}{P:Program}{w:World}
theorem zO{F:TypeId->Ty->Bool}{cs:List Value}(hF:∀{t:TypeId}{τ:Ty}{c:List Value},F t τ=true->(∃n sp hd y,DataW.trod enc P w 0 sp hd n t c=some y)->∃d:τ.den,DRep w (λ_=>True) τ d c/\Wf τ d):∀(fs:List Field)(o:Nat)(τ:Ty),fitF P F fs o τ=true->(∀f∈fs,∃n sp hd y,DataW.trod enc P w 0 sp hd n f.type ((cs.drop f.offset).take (P.cellsOf f.type))=some y)->o+τ.size=cs.length->∃d:τ.den,DRep w (λ_=>True) τ d (cs.drop o)/\Wf τ d
 |[],o,τ,hf,_,hl=>by
  cases τ<;>simp only[fitF]at hf<;>first|(cases hf;done)|skip
  refine⟨(),?_,trivial⟩;simp only[DRep];simp only[Ty.size]at hl;exact V3 (by omega)
 |[f],o,τ,hf,h,hl=>by simp only[fitF,C5]at hf;obtain⟨h1,h2,h3⟩:=hf;have h1:=As h1;have h2:=As h2;obtain⟨n,sp,hd,y,hy⟩:=h f (by simp);rw[h1,h2,G0 (by rw[Il];omega)]at hy;exact hF h3 ⟨n,sp,hd,y,hy⟩
 |f::g::r,o,τ,hf,h,hl=>by
  cases τ with
  |prod a b=>simp only[fitF,C5]at hf;obtain⟨h1,h2,h3,h4⟩:=hf;have h1:=As h1;have h2:=As h2;simp only[Ty.size]at hl;obtain⟨n,sp,hd,y,hy⟩:=h f (by simp);rw[h1,h2]at hy;obtain⟨d1,k1,w1⟩:=hF h3 ⟨n,sp,hd,y,hy⟩;obtain⟨d2,k2,w2⟩:=zO hF (g::r) (o+a.size) b h4 (λf' Mz=>h f' (by simp at Mz⊢;right;exact Mz)) (by omega);refine⟨(d1,d2),?_,w1,w2⟩;simp only[DRep];refine⟨_,_,?_,k1,k2⟩;rw[<-VK,LE]
  |bool=>simp[fitF]at hf
  |int k=>simp[fitF]at hf
  |str=>simp[fitF]at hf
  |unit=>simp[fitF]at hf
  |err=>simp[fitF]at hf
  |slice e=>simp[fitF]at hf
theorem zP{C:Nat}{e:TypeId}{F:Ty->Bool}{cs:List Value}(hF:∀{τ:Ty}{c:List Value},F τ=true->(∃n sp hd y,DataW.trod enc P w 0 sp hd n e c=some y)->∃d:τ.den,DRep w (λ_=>True) τ d c/\Wf τ d):∀(m i:Nat)(τ:Ty),fitA C F m τ=true->(∀j,i<=j->j<i+m->∃n sp hd y,DataW.trod enc P w 0 sp hd n e ((cs.drop (j*C)).take C)=some y)->i*C+τ.size=cs.length->∃d:τ.den,DRep w (λ_=>True) τ d (cs.drop (i*C))/\Wf τ d
 |0,i,τ,hf,_,hl=>by
  cases τ<;>simp only[fitA]at hf<;>first|(cases hf;done)|skip
  refine⟨(),?_,trivial⟩;simp only[DRep];simp only[Ty.size]at hl;exact V3 (by omega)
 |1,i,τ,hf,h,hl=>by simp only[fitA,C5]at hf;obtain⟨h2,h3⟩:=hf;have h2:=As h2;obtain⟨n,sp,hd,y,hy⟩:=h i (AC _) (by omega);rw[G0 (by rw[Il];omega)]at hy;exact hF h3 ⟨n,sp,hd,y,hy⟩
 |m+2,i,τ,hf,h,hl=>by
  cases τ with
  |prod a b=>simp only[fitA,C5]at hf;obtain⟨h2,h3,h4⟩:=hf;have h2:=As h2;simp only[Ty.size]at hl;obtain⟨n,sp,hd,y,hy⟩:=h i (AC _) (by omega);obtain⟨d1,k1,w1⟩:=hF h3 ⟨n,sp,hd,y,hy⟩;have hs:(i+1)*C=i*C+C:=HG _ _;obtain⟨d2,k2,w2⟩:=zP hF (m+1) (i+1) b h4 (λj hj Gs=>h j (by omega) (by omega)) (by omega);refine⟨(d1,d2),?_,w1,w2⟩;simp only[DRep];refine⟨_,_,?_,k1,k2⟩;rw[hs,<-VK,LE]
  |bool=>simp[fitA]at hf
  |int k=>simp[fitA]at hf
  |str=>simp[fitA]at hf
  |unit=>simp[fitA]at hf
  |err=>simp[fitA]at hf
  |slice e=>simp[fitA]at hf
theorem zQ{ε:Ty}{a:Addr}{C:Nat}(hC:C=ε.size):∀(len:Nat),(∀i,i<len->∃cs':List Value,cs'.length=C/\(∀j,j<C->w.cell? ((a.add (i*C)).add j)=cs'[j]?)/\∃d:ε.den,DRep w (λ_=>True) ε d cs'/\Wf ε d)->∃(l:List ε.den)(xs:List Value),l.length=len/\xs.length=len*C/\DList (λx u=>DRep w (λ_=>True) ε x u) l xs/\(∀j v,xs[j]?=some v->w.cell? (a.add j)=some v)/\∀x∈l,Wf ε x
 |0,_=>⟨[],[],rfl,by simp,rfl,by simp,by simp⟩
 |len+1,h=>by
  obtain⟨l,xs,h1,h2,h3,h4,h5⟩:=zQ hC len λi hi=>h i (by omega);obtain⟨cs',k1,k2,d,k3,k4⟩:=h len (by omega);refine⟨l++[d],xs++cs',by simp[h1],by rw[AE,h2,k1,HG],DList.append h3 ⟨cs',[],by simp,k3,rfl⟩,λj v hj=>?_,?_⟩
  ·rw[List.getElem?_append]at hj
   split at hj
   ·exact h4 j v hj
   ·rename_i Ao
    obtain⟨AC4,_⟩:=Eu.1 hj;have:=k2 (j-xs.length) (by omega);rw[LM,<-h2,show xs.length+(j-xs.length)=j by omega]at this;rw[this,hj]
  ·intro x hx
   rcases Ci.1 hx with hx|hx
   ·exact h5 x hx
   ·simp only[E9]at hx
    subst hx;exact k4
theorem Wz:∀(n:Nat){t:TypeId}{τ:Ty}{cs:List Value},KT P n t τ=true->(∃m sp hd y,DataW.trod enc P w 0 sp hd m t cs=some y)->∃d:τ.den,DRep w (λ_=>True) τ d cs/\Wf τ d
 |0,_,_,_,h,_=>by simp[KT]at h
 |n+1,t,τ,cs,hf,⟨m,sp,hd,y,hy⟩=>by
  simp only[KT]at hf;split at hf
  ·rename_i hu
   cases τ<;>simp only at hf<;>first|(cases hf;done)|skip
   obtain⟨b,rfl,-⟩:=DataW.trod_bool hu hy;exact⟨b,rfl,trivial⟩
  ·rename_i k hu
   cases τ<;>simp only at hf<;>first|(cases hf;done)|skip
   obtain rfl:=AV hf;obtain⟨b,rfl,-,hw⟩:=DataW.trod_int hu hy;exact⟨b,rfl,hw⟩
  ·rename_i hu
   cases τ<;>simp only at hf<;>first|(cases hf;done)|skip
   obtain⟨s,rfl,-,hs⟩:=DataW.trod_string hu hy;exact⟨s.data.toList,by simp only[DRep],by show s.data.toList.length<=maxLen;rw[G3];exact hs⟩
  ·rename_i e hu
   cases τ<;>simp only at hf<;>first|(cases hf;done)|skip
   rename_i ε;simp only[C5]at hf;obtain⟨h1,h2⟩:=hf;have h1:=As h1;rcases open_slice hu hy with⟨rfl,-⟩|⟨a,len,cap,m',n',D,Pl,rfl,hb,hl,hm,Jj,-,hi⟩
   ·refine⟨[],?_,DM _,by simp⟩
    simp only[DRep];exact⟨none,0,[],rfl,AC _,DM _,rfl,by simp⟩
   ·obtain⟨l,xs,k1,k2,k3,k4,k5⟩:=zQ (w:=w) (ε:=ε) (a:=a) h1 len (λi ABZ=>by
     have Az4:i<m':=by rw[Jj];split<;>omega
     obtain⟨cs',c1,c2⟩:=hi i Az4;obtain⟨-,q1,q2⟩:=World.cells?_some c1;exact⟨cs',q1,q2,Wz n h2 ⟨_,_,_,_,c2⟩⟩)
    refine⟨l,?_,?_,k5⟩
    ·simp only[DRep]
     exact⟨some a,cap,xs,by rw[k1],by omega,hm,k3,λj v hj=>⟨a,rfl,trivial,k4 j v hj⟩⟩
    ·show l.length<=maxLen
     omega
  ·rename_i fs hu
   simp only[C5]at hf;obtain⟨h1,h2⟩:=hf;have h1:=As h1;obtain⟨xs,m',-,-,Bb,Ae,hg⟩:=DataW.trod_struct hu hy
   have:=zO (enc:=enc) (P:=P) (w:=w) (cs:=cs) (λ{t τ c} h1 h2=>Wz n h1 h2) fs.toList 0 τ h2 (λf hf=>by obtain⟨i,hi,rfl⟩:=List.getElem_of_mem hf;have:=hg i fs[i] (by simp at hi;simp[hi]);simp at hi;rw[DK (by omega)]at this;exact⟨_,_,_,_,this⟩) (by omega)
   simpa using this
  ·rename_i k e hu
   simp only[C5]at hf;obtain⟨h1,h2⟩:=hf;have h1:=As h1;obtain⟨xs,m',-,-,Bb,Ae,hg⟩:=DataW.trod_array hu hy
   have:=zP (enc:=enc) (P:=P) (w:=w) (C:=P.cellsOf e) (e:=e) (cs:=cs) (λ{τ c} h1 h2=>Wz n h1 h2) k 0 τ h2 (λj _ hj=>by have:=hg j (by omega);rw[DK (by omega)]at this;exact⟨_,_,_,_,this⟩) (by omega)
   simpa using this
  ·cases hf
def isAgg(P:Program)(t:TypeId):Bool:=
 match P.underlying t with
 |some (.struct _)=>true
 |some (.array _ _)=>true
 |_=>false
def fitP(P:Program):List TypeId->List (Bool×List CT)->Bool
 |[],[]=>true
 |t::ts,(g,[.data τ])::ps=>(g==isAgg P t)&&(KT P 12 t τ&&fitP P ts ps)
 |_,_=>false
def WfC:(l:List CT)->CT.dens l->Prop
 |[],_=>True
 |.data τ::r,x=>Wf τ x.1/\WfC r x.2
 |.ptr _ _::r,x=>WfC r x
 |.rowh _::r,x=>WfC r x
 |.fn _ _::r,x=>WfC r x
 |.maph _::r,x=>WfC r x
 |.math _::r,x=>WfC r x
 |.bself _::r,x=>WfC r x
 |.bfnh _ _::r,x=>WfC r x
 |.trowh _::r,x=>WfC r x
 |.tptrh _ _ _::r,x=>WfC r x.2
 |.nilc::r,x=>WfC r x
 |.nils::r,x=>WfC r x
 |.lsome _::r,x=>WfC r x.2
 |.junk::r,x=>WfC r x
def WfS:(l:List (Bool×List CT))->ST.dens l->Prop
 |[],_=>True
 |p::r,x=>WfC p.2 x.1/\WfS r x.2
theorem AlM{n base:Nat}{t:TypeId}{v:Value}(h:Value.okWide P w .any base t v)(hf:∃τ,KT P (n+1) t τ=true):if isAgg P t=true then v=.agg v.cells.toList.toArray else v.cells.toList=[v]:=by
 obtain⟨τ,hf⟩:=hf;simp only[KT]at hf;split at hf
 ·rename_i hu
  rw[show isAgg P t=false by simp only[isAgg,hu]];simp only[Value.okWide,hu]at h;cases v with
  |agg cs=>simp only[Cell.okWide,Cell.ok,hu]at h
  |_=>rfl
 ·rename_i k hu
  rw[show isAgg P t=false by simp only[isAgg,hu]];simp only[Value.okWide,hu]at h;cases v with
  |agg cs=>simp only[Cell.okWide,Cell.ok,hu]at h
  |_=>rfl
 ·rename_i hu
  rw[show isAgg P t=false by simp only[isAgg,hu]];simp only[Value.okWide,hu]at h;cases v with
  |agg cs=>simp only[Cell.okWide,Cell.ok,hu]at h
  |_=>rfl
 ·rename_i e hu
  rw[show isAgg P t=false by simp only[isAgg,hu]];simp only[Value.okWide,hu]at h;cases v with
  |agg cs=>simp only[Cell.okWide,Cell.ok,hu]at h
  |_=>rfl
 ·rename_i fs hu
  rw[show isAgg P t=true by simp only[isAgg,hu]];simp only[Value.okWide,hu]at h;obtain⟨cs,rfl,-⟩:=h;rfl
 ·rename_i k e hu
  rw[show isAgg P t=true by simp only[isAgg,hu]];simp only[Value.okWide,hu]at h;obtain⟨cs,rfl,-⟩:=h;rfl
 ·cases hf
theorem zR{base:Nat}:∀{ts:List TypeId}{ps:List (Bool×List CT)}{vs:List Value}{ds:List (DataW H)}{pl:List MemPlace},fitP P ts ps=true->DataW.TrodAll enc P w 0 (λ_=>true) true ts vs ds pl->(∀(j:Nat) t v,ts[j]?=some t->vs[j]?=some v->Value.okWide P w .any base t v)->∃x:ST.dens ps,TReps (env0 P w) (mkS [] ps x) vs/\WfS ps x
 |[],[],vs,ds,pl,_,h,_=>by
  cases vs with
  |nil=>exact⟨(),rfl,trivial⟩
  |cons v vs=>cases ds<;>simp[DataW.TrodAll]at h
 |[],_::_,_,_,_,hf,_,_=>by simp[fitP]at hf
 |_::_,[],_,_,_,hf,_,_=>by simp[fitP]at hf
 |t::ts,(g,cts)::ps,vs,ds,pl,hf,h,Dg=>by
  match cts,hf with
  |[.data τ],hf=>
   simp only[fitP,C5,beq_iff_eq]at hf;obtain⟨hg,h1,h2⟩:=hf;obtain⟨v,Ap,d,AhQ,p,q,rfl,rfl,rfl,hd,DE⟩:=trodAll_cons h;obtain⟨x2,r2,w2⟩:=zR (base:=base) h2 DE λj t v hj hv=>Dg (j+1) t v (by simpa using hj) (by simpa using hv);obtain⟨m,hm⟩:=hd;obtain⟨x1,r1,w1⟩:=Wz (enc:=enc) (P:=P) (w:=w) 12 h1 ⟨m,_,_,_,hm⟩;have hv:=AlM (n:=11) (Dg 0 t v rfl rfl) ⟨τ,h1⟩;refine⟨((x1,()),x2),⟨v,Ap,rfl,?_,r2⟩,⟨w1,trivial⟩,w2⟩
   have M6:CReps (env0 P w) (cells τ x1++[]) v.cells.toList:=by rw[II];refine Hv ?_;refine DRep.mono ?_ r1;exact λg hg Ao=>⟨⟨.inl trivial,λ⟨i,B,p,hB,_⟩=>by cases hB⟩,rfl⟩
   refine⟨v.cells.toList,M6,?_⟩;rw[<-hg]at hv;exact hv
  |[],hf=>simp[fitP]at hf
  |[.ptr _ _],hf=>simp[fitP]at hf
  |[.rowh _],hf=>simp[fitP]at hf
  |[.fn _ _],hf=>simp[fitP]at hf
  |[.maph _],hf=>simp[fitP]at hf
  |[.math _],hf=>simp[fitP]at hf
  |[.bself _],hf=>simp[fitP]at hf
  |[.bfnh _ _],hf=>simp[fitP]at hf
  |[.trowh _],hf=>simp[fitP]at hf
  |[.tptrh _ _ _],hf=>simp[fitP]at hf
  |[.nilc],hf=>simp[fitP]at hf
  |[.nils],hf=>simp[fitP]at hf
  |[.lsome _],hf=>simp[fitP]at hf
  |[.junk],hf=>simp[fitP]at hf
  |.data _::_::_,hf=>simp[fitP]at hf
  |.ptr _ _::_::_,hf=>simp[fitP]at hf
  |.rowh _::_::_,hf=>simp[fitP]at hf
  |.fn _ _::_::_,hf=>simp[fitP]at hf
  |.maph _::_::_,hf=>simp[fitP]at hf
  |.math _::_::_,hf=>simp[fitP]at hf
  |.bself _::_::_,hf=>simp[fitP]at hf
  |.bfnh _ _::_::_,hf=>simp[fitP]at hf
  |.trowh _::_::_,hf=>simp[fitP]at hf
  |.tptrh _ _ _::_::_,hf=>simp[fitP]at hf
  |.nilc::_::_,hf=>simp[fitP]at hf
  |.nils::_::_,hf=>simp[fitP]at hf
  |.lsome _::_::_,hf=>simp[fitP]at hf
  |.junk::_::_,hf=>simp[fitP]at hf
theorem AlN{f:Func}{s:ChangeSpec}{apart fresh handsOn again:Bool}{W W':World}{args:Array Value}{v:Value}{ds gs:List (DataW H)}{before pa pv:List MemPlace}(hW:DataW.Whole enc P f.params.toList s.vars apart W args.toList ds gs before)(K4:∀(b:Nat)(sp:Nat->Bool)(hd:Bool),DataW.TrodAll enc P W' b sp hd f.resultTypes.toList (v.resultList f.resultTypes.size) (s.fn H (ds++gs)).results [])(Bg:∀sp:Nat->Bool,(∀p∈before,sp p.block=true)->DataW.TrodAll enc P W' 0 sp true f.params.toList args.toList (s.fn H (ds++gs)).args pa)(UV:∀sp:Nat->Bool,(∀p∈before,sp p.block=true)->DataW.TrodVars enc P W' sp s.vars (s.fn H (ds++gs)).vars pv)(Ic:before=pa++pv)(hb:Below W.heap.size W W')(Dg:∀(j:Nat)(t:TypeId)(r:Value),f.resultTypes[j]?=some t->(v.resultList f.resultTypes.size)[j]?=some r->Value.okWide P W' .any 0 t r):s.post enc P f apart fresh handsOn again W args v W':=by
 have Ao:∀p∈before,p.block<W.heap.size:=λp hp=>hW.lt p hp;have UI:∀p∈before,(λb=>decide (b<W.heap.size)) p.block=true:=λp hp=>by simpa using Ao p hp
 refine⟨ds,gs,before,[],pa,pv,hW,K4 _ _ _,Bg _ UI,UV _ UI,World.keptBut_mono (λp hp=>⟨hp,?_⟩) (hb.frame (· ∈before)),λ_=>?_⟩
 ·rw[Ic,Ci]at hp
  exact Or.inr hp
 ·obtain⟨_,_,_,_,_,hz,hn⟩:=hW
  refine⟨Dg,_,_,([]++pa)++pv,⟨[]++pa,pv,trodAll_append (Bg _ (λ_ _=>rfl)) (K4 _ _ _),UV _ (λ_ _=>rfl),rfl,?_,?_⟩,?_⟩
  ·intro b off hp
   have C9:MemPlace.cell b off∈before:=by rw[Ic];simpa using hp
   rw[hb.frozen (Ao _ C9)];exact hz b off C9
  ·intro ha
   have:=hn ha;rw[Ic]at this;simpa using this
  ·intro p hp _
   rw[Ic];simpa using hp
theorem zS(hl:laidOutB P=true){W W':World}{sp:Nat->Bool}:∀{ts:List TypeId}{vs:List Value}{ds:List (DataW H)}{ps:List MemPlace},(ts.all λt=>P.readableRec t&&Nat.blt t P.types.size)=true->DataW.TrodAll enc P W 0 (λ_=>true) true ts vs ds ps->Below W.heap.size W W'->(∀x∈ps,x.block<W.heap.size)->(∀x∈ps,sp x.block=true)->DataW.TrodAll enc P W' 0 sp true ts vs ds ps
 |[],vs,ds,ps,_,h,_,_,_=>by cases vs<;>cases ds<;>simp_all [DataW.TrodAll]
 |t::ts,vs,ds,ps,hr,h,hb,Ao,UO=>by obtain⟨v,Ap,d,AhQ,p,q,rfl,rfl,rfl,hd,DE⟩:=trodAll_cons h;simp only[VM,C5]at hr;refine⟨p,q,WideElems.Trod_stays hl hr.1.1 (Nat.blt_eq▸hr.1.2) hd (λx hx=>hb.same (Ao x (by simp[hx]))) (λx hx=>UO x (by simp[hx])),?_,rfl⟩;exact zS hl (by simpa using hr.2) DE hb (λx hx=>Ao x (by simp[hx])) (λx hx=>UO x (by simp[hx]))
theorem AlO{f:FuncId}{fn:Func}{s:ChangeSpec}{S:Spec}{apart fresh handsOn again:Bool}{tb:TypeId}(hS:SpecOk P f S)(hi:S.ins=[])(_hr:S.res=[(false,[.data .bool])])(ho:S.outs=[])(AyW:fitP P fn.params.toList S.params=true)(hl:laidOutB P=true)(Fc:(fn.params.toList.all λt=>P.readableRec t&&Nat.blt t P.types.size)=true)(AiE:fn.resultTypes=#[tb])(AiK:P.underlying tb=some .bool)(UV:s.vars=[])(Cl:∀ds:List (DataW H),ds.length=fn.params.size->(s.fn H (ds++[])).results=[.lit (.bool true)]/\(s.fn H (ds++[])).args=ds/\(s.fn H (ds++[])).vars=[])(Azc:∀{β:Type}(x:ST.dens S.params)(y:BT.dens S.ins)(k:ST.dens S.res×BT.dens S.outs->Option β),WfS S.params x->∃z,mkS [] S.res z.1=[(false,[.bool true])]/\S.run (x,y) k=k z){W:World}{base:Nat}{args:Array Value}{ds gs:List (DataW H)}{before:List MemPlace}(UU:∀(j:Nat) t v,fn.params[j]?=some t->args[j]?=some v->Value.okWide P W .any base t v)(Azx:Opened P W)(hW:DataW.Whole enc P fn.params.toList s.vars apart W args.toList ds gs before):Calls P f args W λe W'=>∃v,e=.returned v/\s.post enc P fn apart fresh handsOn again W args v W':=by
 have hW':=hW;obtain⟨p,q,hA,hV,rfl,ABY,Gw⟩:=hW';rw[UV]at hV
 obtain⟨rfl,rfl⟩:gs=[]/\q=[]:=by
  cases gs with
  |nil=>exact⟨rfl,hV⟩
  |cons g gs=>simp[DataW.TrodVars]at hV
 obtain⟨x,hx,AA9⟩:=zR (base:=base) AyW hA (λj t v hj hv=>UU j t v (by simpa using hj) (by simpa using hv));have hy:BT.dens S.ins:=by rw[hi];exact()
 obtain⟨z,hz,AA⟩:=Azc x hy (λz=>some z) AA9;have hc:=hS.call0 hi (x,hy) z AA W Azx args.toList hx
 have Bb:ds.length=fn.params.size:=by
  have:∀{ts:List TypeId}{vs:List Value}{ds:List (DataW H)}{ps:List MemPlace},DataW.TrodAll enc P W 0 (λ_=>true) true ts vs ds ps->ds.length=ts.length:=by
   intro ts
   induction ts with
   |nil=>intro vs ds ps h;cases vs<;>cases ds<;>simp_all [DataW.TrodAll]
   |cons t ts ih=>intro vs ds ps h;obtain⟨v,Ap,d,AhQ,p,q,rfl,rfl,rfl,hd,DE⟩:=trodAll_cons h;simp[ih DE]
  simpa using this hA
 obtain⟨f1,f2,f3⟩:=Cl ds Bb;refine hc.mono λe W' ⟨Bh,Ai,he,hb,ht⟩=>?_;have NW:AH 0 S.outs.length=[]:=by rw[ho];rfl
 rw[NW,hz]at ht;obtain rfl:=TReps.bool ht;refine⟨.bool true,he,AlN (pa:=p) (pv:=[]) hW (λb sp hd=>?_) (λsp UO=>?_) (λsp UO=>?_) rfl hb ?_⟩
 ·rw[f1,AiE]
  exact trodAll_cons_mk (shut_bool AiK _) trodAll_mk0
 ·rw[f2]
  exact zS hl Fc hA hb (λx hx=>hW.lt x (by simpa using hx)) (λx hx=>UO x (by simpa using hx))
 ·rw[f3,UV];rfl
 ·exact ok_one AiE rfl (okWide_bool_mk AiK _)
end
end Go.Lift
