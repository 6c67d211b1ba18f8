/- Part9 -/
import Derived.Test.YthjiepigkfklkaaGreatDoorPart8
set_option linter.unusedVariables false
set_option linter.unusedSectionVars false
set_option linter.unusedSimpArgs false
open _root_ renaming Option → Ya, List → Ye, Nat → Yn, Bool → Ys, if_neg → Yy, if_pos → Y1
open Option renaming none → Yf, some → Yg
open Bool renaming false → Yi, true → Yp
open Nat renaming beq → Yo, ble → YI
open Go renaming Value → Yq, Program → Yw, FuncId → YA
namespace Go.Lift
noncomputable section
def Iu:Ye C->Ye Yn
 |[]=>[]
 |.ptr b _::r=>b::Iu r
 |.row b _::r=>b::Iu r
 |.fn _ BS::r=>BS++Iu r
 |.mapv b::r=>b::Iu r
 |.mat b _::r=>b::Iu r
 |.mrow b _ _::r=>b::Iu r
 |.sub b _ _ _::r=>b::Iu r
 |.bself b::r=>b::Iu r
 |.bfn _ b::r=>b::Iu r
 |.trow b _ _::r=>b::Iu r
 |.tptr b _ _ _ _::r=>b::Iu r
 |_::r=>Iu r
def Av8:V->Ye Yn
 |.c x=>Iu [x]
 |.agg cs=>Iu cs
 |.eptr b _ _ _=>[b]
 |.mcell b _ _=>[b]
 |.mptr b _ _ _ _=>[b]
 |.arr b _ _ _=>[b]
 |_=>[]
def Kg:Ye V->Ye Yn
 |[]=>[]
 |v::r=>Av8 v++Kg r
def Iv(bl:Yn->Ya Blk):Yn->Ye Yn->Ye Yn->Ye Yn
 |0,_,acc=>acc
 |_+1,[],acc=>acc
 |n+1,b::r,acc=>
  bif memB b acc then Iv bl n r acc else
   match bl b with
   |some (.cells _ cs)=>Iv bl n (Iu cs++r) (acc++[b])
   |some _=>Iv bl n r (acc++[b])
   |none=>Iv bl n r acc
def NO(bl:Yn->Ya Blk):Ye Yn->Ye (Yn×Blk)
 |[]=>[]
 |b::r=>
  match bl b with
  |some B=>(b,B)::NO bl r
  |none=>NO bl r
def RF:Ye V->Ya (Ye (Ys×Ye C))
 |[]=>Yg []
 |.c x::r=>
  match RF r with
  |some ts=>Yg ((Yi,[x])::ts)
  |none=>Yf
 |.agg cs::r=>
  match RF r with
  |some ts=>Yg ((Yp,cs)::ts)
  |none=>Yf
 |_::_=>Yf
def tupV:Ye V->Ya V
 |[v]=>Yg v
 |vs=>
  match RF vs with
  |some ts=>Yg (.tup ts)
  |none=>Yf
def inlK{β:Type}(T:TypeId->Ya TI)(rs:Ye RS)(ids new:Ye Yn)(kk:K β):Kx β:=λe σ=>
 match e with
 |.exit _=>Yf
 |_=>
  match IW T σ.tm σ.bl rs with
  |none=>Yf
  |some vs=>
   match tupV vs with
   |none=>Yf
   |some v=>bif JX (wids σ.bl)&&(MA (ids++new) (wids σ.bl)&&MA (wids σ.bl) ids)then kk v (ids++new) σ.bl else Yf
def AgB{β:Type}(X:Ctx)(n:Yn)(c:Code)(rs:Ye RS)(m:Yn)(bl:Yn->Ya Blk)(nx:Yn)(args:Ye V)(kk:K β):Ya β:=
 bif Rs bl (AP nx m)&&YI args.length n then
  exec {X with A:=Yg (Iv bl 99 (Kg args) []++AP nx m)} n (λ_=>Yf) 1 c ⟨numV 0 args,NO bl (Iv bl 99 (Kg args) []),nx⟩ (inlK X.T rs (Iv bl 99 (Kg args) []) (AP nx m) kk)
 else Yf
@[reducible] def inl(X:Ctx)(n:Yn)(c:Code)(rs:Ye RS)(m:Yn):AbsF:=⟨λbl nx args kk=>AgB X n c rs m bl nx args kk⟩
theorem cB{ids:Ye Yn}:∀{l:Ye Yn},MA ids l=Yp->∀b∈l,b∈ids
 |[],_,b,h=>by simp at h
 |c::r,h,b,hb=>by
  obtain⟨h1,h2⟩:=andB h;rcases Bl.1 hb with rfl|hb
  ·exact Ir.1 h1
  ·exact cB h2 b hb
theorem AgC{ids:Ye Yn}:∀{l:Ye LogE},qZ ids l=Yp->∀e∈l,∀b∈e.rd,b∈ids
 |[],_,e,h=>by simp at h
 |c::r,h,e,he=>by
  obtain⟨h1,h2⟩:=andB h;rcases Bl.1 he with rfl|he
  ·exact cB h1
  ·exact AgC h2 e he
theorem tA{bl:Yn->Ya Blk}:∀{l:Ye Yn}{i:Yn},look (NO bl l) i=if i∈l then bl i else Yf
 |[],i=>by simp[NO,Fw,Fh]
 |b::r,i=>by
  simp only[NO];cases hb:bl b with
  |none=>
   simp only;rw[tA];by_cases h:i=b
   ·subst h;simp[hb]
   ·simp[h]
  |some B=>
   simp only[Fw,Fh];by_cases h:i=b
   ·subst h;simp[hb]
   ·rw[IT h,C7,tA];simp[h]
theorem AgD:∀{l:Ye (Yn×Blk)}{i:Yn},i∉wids l->look l i=Yf
 |[],_,_=>rfl
 |(j,x)::r,i,h=>by simp only[wids,Bl,not_or]at h;rw[Fh,IT h.1,C7,AgD h.2]
theorem AgE:∀{l:Ye (Yn×Blk)}{f:Yn->Ya Blk}{i:Yn},(wids l).Nodup->updL f l i=if i∈wids l then look l i else f i
 |[],_,_,_=>by simp[wids,updL]
 |(j,x)::r,f,i,h=>by
  obtain⟨h1,h2⟩:=NB.1 (show(j::wids r).Nodup from h);simp only[updL];rw[AgE h2];by_cases hi:i=j
  ·subst hi
   simp[h1,wids,Fw,Fh,upd]
  ·simp only[wids,Bl,hi,false_or,Fw,Fh,IT hi,C7,upd,CN]
theorem AgF{E:Env}:∀{vs:Ye V}{us:Ye Yq}{ts:Ye (Ys×Ye C)},VReps E vs us->RF vs=Yg ts->TReps E ts us
 |[],us,ts,h,ht=>by simp only[RF,Af]at ht;subst ht;exact h
 |v::vs,us,ts,⟨u,CM,e,h1,h2⟩,ht=>by
  cases v<;>simp only[RF]at ht<;>first|(cases ht;done)|skip
  all_goals
   split at ht
   ·rename_i AP3 HJ
    simp only[Af]at ht;subst ht;refine⟨u,CM,e,?_,AgF h2 HJ⟩
    first|exact⟨[u],⟨u,[],rfl,h1,rfl⟩,by simp⟩|exact h1
   ·cases ht
theorem Av9{E:Env}{vs:Ye V}{us:Ye Yq}{v:V}(h:VReps E vs us)(ht:tupV vs=Yg v):VRep E v (Is us):=by
 unfold tupV at ht;split at ht
 ·simp only[Af]at ht
  subst ht;obtain⟨u,CM,e,h1,h2⟩:=h;have h2:CM=[]:=h2;subst h2 e;exact h1
 ·rename_i AO
  split at ht
  ·rename_i ts HJ
   simp only[Af]at ht;subst ht;refine⟨us,?_,AgF h HJ⟩;have hl:=VReps.length h
   match us,hl with
   |[],_=>rfl
   |[u],hl=>
    exfalso
    match vs,hl,AO with
    |[v],_,AO=>exact AO v rfl
   |u::u2::us,_=>rfl
  ·cases ht
theorem Ava{P:Yw}(Dp:P.follows .mixedOrders=Yp){X:Ctx}(hT:TOk P X.T)(hΓ:ΓOk P X.Γ){f:YA}{fn:Func}{c:Code}{rs:Ye RS}(m:Yn)(hf:P.funcs[f]?=Yg fn)(hc:((fn.name== "runtime.NumGoroutine"),fn.body,fn.results.toList)=(Yi,Yg c,rs.map RS.toVar)):AbsOk P f (inl X fn.ntmps c rs m):=by
 simp only[Cb]at hc;obtain⟨Ex,hb,KG⟩:=hc;refine⟨⟨fn,hf,Ex,by rw[hb];rfl⟩,λbl nx args kk r hk=>?_⟩;simp only[AgB]at hk;generalize QA:Iv bl 99 (Kg args) []=ids at hk;generalize Jl:AP nx m=new at hk;cases GR:(Rs bl new&&YI args.length fn.ntmps)with
 |false=>rw[GR]at hk;cases hk
 |true=>
  rw[GR,As]at hk;obtain⟨GR,AU⟩:=andB GR;have GR:=rT GR;have AU:=IP AU
  obtain⟨e',σ',hk,hw⟩:=sO (R:=Agf) (fr:=λF:{F:Yn->Ya Blk // ∀b∈ids++new,F b=Yf}=>frF (ids++new) F.1 F.2) Dp (X:={X with A:=Yg (ids++new)})
   (λlog hl e he b hb i=>AgC hl e he b hb) hT hΓ (λ_ _ h=>by cases h) hk
  have Fz:(e'=.normal\/e'=.ret)/\∃vs v,IW X.T σ'.tm σ'.bl rs=Yg vs/\tupV vs=Yg v/\(wids σ'.bl).Nodup/\(∀b∈wids σ'.bl,b∈ids++new)/\(∀b∈ids,b∈wids σ'.bl)/\kk v (ids++new) σ'.bl=Yg r:=by
   have go:(match IW X.T σ'.tm σ'.bl rs with
     |none=>Yf
     |some vs=>
      match tupV vs with
      |none=>Yf
      |some v=>bif JX (wids σ'.bl)&&(MA (ids++new) (wids σ'.bl)&&MA (wids σ'.bl) ids)then kk v (ids++new) σ'.bl else Yf)=Yg r->
     ∃vs v,IW X.T σ'.tm σ'.bl rs=Yg vs/\tupV vs=Yg v/\(wids σ'.bl).Nodup/\(∀b∈wids σ'.bl,b∈ids++new)/\(∀b∈ids,b∈wids σ'.bl)/\kk v (ids++new) σ'.bl=Yg r:=by
    intro h;split at h
    ·cases h
    rename_i vs DA;split at h
    ·cases h
    rename_i v hv;cases Ib:(JX (wids σ'.bl)&&(MA (ids++new) (wids σ'.bl)&&MA (wids σ'.bl) ids))with
    |false=>rw[Ib]at h;cases h
    |true=>rw[Ib,As]at h;obtain⟨c1,c2⟩:=andB Ib;obtain⟨c2,c3⟩:=andB c2;exact⟨vs,v,DA,hv,R6 c1,cB c2,cB c3,h⟩
   cases e' with
   |normal=>exact⟨.inl rfl,go hk⟩
   |ret=>exact⟨.inr rfl,go hk⟩
   |exit id=>cases hk
  obtain⟨Mh,vs,v,DA,hv,ID,AX,AMe,hk⟩:=Fz;refine⟨v,ids++new,σ'.bl,hk,λAb Ai ok0 base pl w us hr CZ=>?_⟩
  let F:Yn->Ya Blk:=λi=>if i∈ids++new then Yf else Ab i
  have hF:∀b∈ids++new,F b=Yf:=λb hb=>Y1 hb
  have Jo:ov F (look (NO bl ids))=Ab:=by
   funext i;simp only[ov,tA];by_cases hi:i∈ids
   ·rw[Y1 hi]
    have h2:=Ai i (D5 _ hi);cases CQ:bl i with
    |some B=>simp only;rw[h2,CQ]
    |none=>simp only[F,Y1 (D5 new hi)];rw[h2,CQ]
   ·rw[Yy hi]
    simp only[F];by_cases hn:i∈ids++new
    ·rw[Y1 hn]
     have E4:i∈new:=(C5.1 hn).resolve_left hi;rw[Ai i hn,GR i E4]
    ·rw[Yy hn]
  have Arx:ov F (look σ'.bl)=updL Ab σ'.bl:=by
   funext i;rw[AgE ID];simp only[ov];by_cases hi:i∈wids σ'.bl
   ·rw[Y1 hi]
    have:∀{l:Ye (Yn×Blk)},i∈wids l->∃B,look l i=Yg B:=by
     intro l
     induction l with
     |nil=>intro h;simp[wids]at h
     |cons p l ih=>
      intro h;rw[show look (p::l) i=bif Yo i p.1 then Yg p.2 else look l i from Fh p.1 p.2 l i];by_cases hp:i=p.1
      ·rw[hp,Pq];exact⟨p.2,rfl⟩
      ·rw[IT hp,C7]
       exact ih (by simpa [wids,hp]using h)
    obtain⟨B,hB⟩:=this hi;rw[hB]
   ·rw[Yy hi,AgD hi]
    simp only[F];by_cases hn:i∈ids++new
    ·rw[Y1 hn]
     have E4:i∈new:=(C5.1 hn).resolve_left λh=>hi (AMe i h);rw[Ai i hn,GR i E4]
    ·rw[Yy hn]
  have OD:us.length<=fn.ntmps:=by rw[VReps.length CZ];exact AU
  refine calls_of_wp hf hb ?_
  have Zm:Rel fn.ntmps ok0 base pl (look (numV 0 args)) (ov F (look (NO bl ids))) {tmps:=us.toArray++Array.replicate (fn.ntmps-us.toArray.size) undef,defers:=[]} w:=by rw[Jo];refine⟨rfl,by simp;omega,λt v ht=>?_,hr⟩;obtain⟨_,u,h1,h2⟩:=VReps.get CZ ht;simp only[Nat.sub_zero]at h1;rw[F6,ZN (by simpa using(Fe.1 h1).1),ZR,h1];exact h2
  refine F9 (hw ⟨F,hF⟩ ok0 base pl _ w Zm) λe a' w' ⟨he,Ak,BA,Cd⟩=>?_;simp only[Jo,Arx]at BA Cd;obtain⟨Bw,AJ,OO⟩:=sY hT KG DA (blw:=updL Ab σ'.bl) (λb B h=>by rw[<-Arx];simp only[ov,h]) BA
  have EZ:a'.defers=[]/\∃u,(results fn a'.tmps).run P w'=.ok u w'/\(∃u' Ak,Ending.returned u=.returned u'/\RelB ok0 base Ak (updL Ab σ'.bl) w'/\Step pl Ab w Ak (updL Ab σ'.bl) w'/\VRep (At ok0 base Ak (updL Ab σ'.bl) w') v u'):=
   ⟨BA.defers,_,AJ,Is Bw,Ak,rfl,BA.rel,Cd,Av9 OO hv⟩
  rcases Mh with e1|e1<;>rw[e1]at he<;>subst he<;>exact EZ
end
end Go.Lift
namespace Go.Lift
noncomputable section
def Kh(R:Ye Yn)(bl:Yn->Ya Blk):Yn->Ya Blk:=λi=>bif memB i R then bl i else Yf
def NP:Ya Blk->Yn×Yn
 |some (.row _ _ ver _)=>(ver+1,0)
 |some (.tree _ _ ver Ah _ _)=>(ver+1,Ah)
 |_=>(0,0)
def AgG(f:Yn->Yn×Yn):C->C
 |.row b ver=>.row b (ver+(f b).1)
 |.trow b ver p=>.trow b (ver+tv (f b).1 (f b).2 p) p
 |.tptr b ver p i o=>.tptr b (ver+tv (f b).1 (f b).2 p) p i o
 |c=>c
def cC(f:Yn->Yn×Yn):Ye C->Ye C
 |[]=>[]
 |c::r=>AgG f c::cC f r
def MH(f:Yn->Yn×Yn)(n:Yn×Yn):Blk->Blk
 |.cells t cs=>.cells t (cC f cs)
 |.row t e ver l=>.row t e (ver+n.1) l
 |.tree t e ver Ah h l=>.tree t e (ver+n.1) (Ah+n.2) h l
 |B=>B
def tB(f:Yn->Yn×Yn):Ye (Ys×Ye C)->Ye (Ys×Ye C)
 |[]=>[]
 |t::r=>(t.1,cC f t.2)::tB f r
def LN(f:Yn->Yn×Yn):Ye Yn->Ye Blk->Ye Blk
 |i::is,B::bs=>MH f (f i) B::LN f is bs
 |_,_=>[]
def cD(bl:Yn->Ya Blk)(R:Ye Yn):Ye Yn->Ys
 |[]=>Yp
 |i::r=>(memB i R||(bl i).isNone)&&cD bl R r
def BT.hand:Ye BT->Ys
 |[]=>Yp
 |.mat _ _ _::_=>Yi
 |_::r=>BT.hand r
def AgH(ps:Ye (Ys×Ye CT))(is:Ye BT)(bl:Yn->Ya Blk)(nx:Yn)(args:Ye V):Ya (Ye Yn×(ST.dens ps×BT.dens is)):=
 match idsB bl nx is 0 (Uc ps args)with
 |none=>Yf
 |some ids=>
  match Hv bl ids ps args with
  |none=>Yf
  |some x=>
   match Db bl ids is ids with
   |none=>Yf
   |some y=>bif JX ids&&!meet (Gg ps args++Fi bl is ids) ids then Yg (ids,(x,y))else Yf
def UB(R ids:Ye Yn)(bl:Yn->Ya Blk):Yn->Yn×Yn:=λb=>bif memB b ids then NP (Kh R bl b)else(0,0)
def AgI{α:Type}:Ye α->Ys
 |[]=>Yp
 |_::_=>Yi
def AgJ{β:Type}(ps rs:Ye (Ys×Ye CT))(is:Ye BT)(run:ST.dens ps×BT.dens is->(ST.dens rs×BT.dens is->Ya β)->Ya β)(bl:Yn->Ya Blk)(nx:Yn)(args:Ye V)(kk:K β):Ya β:=
 match AgH ps is (Kh (Iv bl 99 (Kg args) []) bl) nx args with
 |none=>Yf
 |some (ids,d)=>
  bif cD bl (Iv bl 99 (Kg args) []) ids&&((ST.flat rs&&BT.flat is)||AgI (Gg ps args++Fi (Kh (Iv bl 99 (Kg args) []) bl) is ids))then
   run d λz=>kk (resV (tB (UB (Iv bl 99 (Kg args) []) ids bl) (mkS ids rs z.1))) (Iv bl 99 (Kg args) []++ids)
    (ids.zip (LN (UB (Iv bl 99 (Kg args) []) ids bl) ids (mkB ids is z.2)))
  else Yf
@[reducible] def hand(S:Spec)(hs:S.outs=S.ins):AbsF:=⟨λ{β} bl nx args kk=>AgJ (β:=β) S.params S.res S.ins (λd k=>S.run d (hs▸k)) bl nx args kk⟩
structure Bump (f:Yn->Yn×Yn) (E E':Env):Prop where
 w:E'.w=E.w
 ok:E'.ok=E.ok
 base:E'.base=E.base
 pl:E'.pl=E.pl
 row:∀b t e ver' l,E'.bl b=Yg (.row t e ver' l)->∃ver,E.bl b=Yg (.row t e ver l)/\ver'=ver+(f b).1
 tree:∀b t e ver' B8 h l,E'.bl b=Yg (.tree t e ver' B8 h l)->∃ver Ah,E.bl b=Yg (.tree t e ver Ah h l)/\ver'=ver+(f b).1/\B8=Ah+(f b).2
 mat:∀b t et e ver Ah h l,E'.bl b=Yg (.mat t et e ver Ah h l)->E.bl b=Yg (.mat t et e ver Ah h l)
theorem AgK(a b n m:Yn)(p:Path):tv (a+n) (b+m) p=tv a b p+tv n m p:=by cases p<;>simp only[tv]<;>omega
section
variable{f:Yn->Yn×Yn}{E E':Env}
theorem CRep.bump(hb:Bump f E E'):∀{c:C}{v:Yq},CRep E c v->CRep E' (AgG f c) v
 |.bool _,_,h=>h
 |.int _ _,_,h=>h
 |.str _,_,h=>h
 |.err _,_,h=>h
 |.list e l,v,h=>by show DRep E'.w E'.ok _ _ _;rw[hb.w,hb.ok];exact h
 |.nils,_,h=>h
 |.nilc,_,h=>h
 |.lsome e l,v,h=>by show DRep E'.w E'.ok _ _ _/\_;rw[hb.w,hb.ok];exact h
 |.nilp,_,h=>h
 |.ptr b o,v,h=>by show ∃g,E'.pl b=_/\_;rw[hb.pl];exact h
 |.row b ver,v,⟨h1,sv,Ac,h2,h3⟩=>⟨h1,sv,Ac,by rw[hb.pl];exact h2,λt e ver' l h=>by obtain⟨Dj,h4,h5⟩:=hb.row b t e ver' l h;obtain⟨h6,h7⟩:=h3 t e Dj l h4;exact⟨by omega,λh8=>h7 (by omega)⟩⟩
 |.fn g BS,v,h=>by show ∃gs:Ye Yn,BS.map E'.pl=_/\_;rw[hb.pl];exact h
 |.nilfn,_,h=>h
 |.mapv b,v,h=>by show ∃g,E'.pl b=_/\_;rw[hb.pl];exact h
 |.mat b ver,v,⟨h1,sv,Ac,h2,h3⟩=>⟨h1,sv,Ac,by rw[hb.pl];exact h2,λt et e ver' Ah h l hh=>h3 t et e ver' Ah h l (hb.mat b _ _ _ _ _ _ _ hh)⟩
 |.mrow b Ah i,v,⟨h1,sv,Ac,h2,h3⟩=>⟨h1,sv,Ac,by rw[hb.pl];exact h2,λt et e ver' Ah h l hh=>h3 t et e ver' Ah h l (hb.mat b _ _ _ _ _ _ _ hh)⟩
 |.sub b ver i j,v,⟨h1,sv,Ac,h2,h3⟩=>⟨h1,sv,Ac,by rw[hb.pl];exact h2,λt e ver' l h=>by obtain⟨Dj,h4,h5⟩:=hb.row b t e ver' l h;obtain⟨h6,h7⟩:=h3 t e Dj l h4;exact⟨by omega,λh8=>h7 (by omega)⟩⟩
 |.bself b,v,h=>by show _\/∃g,E'.pl b=_/\_;rw[hb.pl];exact h
 |.trow b ver p,v,⟨h1,sv,Ac,h2,h3⟩=>⟨h1,sv,Ac,by rw[hb.pl];exact h2,λt e ver' Ah h l hh=>by obtain⟨Dj,Gc,h4,h5,h8⟩:=hb.tree b t e ver' Ah h l hh;obtain⟨h6,h7⟩:=h3 t e Dj Gc h l h4;rw[h5,h8,AgK];exact⟨by omega,λh8=>h7 (by omega)⟩⟩
 |.bfn g b,v,h=>by show ∃g,E'.pl b=_/\_;rw[hb.pl];exact h
 |.tptr b ver p i o,v,⟨sv,Ac,ad,h2,hv,h3⟩=>⟨sv,Ac,ad,by rw[hb.pl];exact h2,hv,λt e ver' Ah h l hh=>by obtain⟨Dj,Gc,h4,h5,h8⟩:=hb.tree b t e ver' Ah h l hh;obtain⟨h6,h7⟩:=h3 t e Dj Gc h l h4;rw[h5,h8,AgK];exact⟨by omega,λh8=>h7 (by omega)⟩⟩
 |.junk,_,h=>h
theorem CReps.bump(hb:Bump f E E'):∀{cs:Ye C}{vs:Ye Yq},CReps E cs vs->CReps E' (cC f cs) vs
 |[],_,h=>h
 |_::_,_,⟨v,Az,e,h1,h2⟩=>⟨v,Az,e,h1.bump hb,CReps.bump hb h2⟩
theorem TReps.bump(hb:Bump f E E'):∀{ts:Ye (Ys×Ye C)}{vs:Ye Yq},TReps E ts vs->TReps E' (tB f ts) vs
 |[],_,h=>h
 |_::_,_,⟨v,Az,e,⟨xs,h1,h2⟩,h3⟩=>⟨v,Az,e,⟨xs,h1.bump hb,h2⟩,TReps.bump hb h3⟩
theorem FRep.bump(hb:Bump f E E'):∀{l:Ye (Ye UInt8×(YA×Yn))}{es:Ye MapEntry},FRep E l es->FRep E' l es
 |[],_,h=>h
 |_::_,_,⟨e,r,g,h1,h2,h3,h4,h5⟩=>⟨e,r,g,h1,h2,by rw[hb.pl];exact h3,h4,FRep.bump hb h5⟩
theorem BRep.bump(hb:Bump f E E')(n:Yn×Yn){B:Blk}{p:Pl}(h:BRep E B p):BRep E' (MH f n B) p:=by
 cases B with
 |dead=>exact trivial
 |cells t cs=>
  cases p with
  |row _ _=>exact h.elim
  |cells g=>obtain⟨vs,h1,h2⟩:=h;exact⟨vs,by rw[hb.w];exact h1,h2.bump hb⟩
 |map t k v vg l=>
  cases p with
  |row _ _=>exact h.elim
  |cells g=>obtain⟨es,CS,h1,h2⟩:=h;exact⟨es,CS,by rw[hb.w];exact h1,by rw[hb.w,hb.ok];exact h2⟩
 |fmap t l=>
  cases p with
  |row _ _=>exact h.elim
  |cells g=>obtain⟨es,CS,h1,h2⟩:=h;exact⟨es,CS,by rw[hb.w];exact h1,h2.bump hb⟩
 |row t e ver l=>
  cases p with
  |cells _=>exact h.elim
  |row sv Ac=>obtain⟨h0,xs,h1,h2⟩:=h;exact⟨h0,xs,by rw[hb.w,hb.ok];exact h1,by rw[hb.w,hb.base];exact h2⟩
 |mat t et e ver Ah hole l=>
  cases p with
  |cells _=>exact h.elim
  |row sv Ac=>have hM:MatOk E t et e hole l sv Ac:=h;obtain⟨vs,h1,h2⟩:=hM.outer;refine⟨⟨vs,by rw[hb.w,hb.base];exact h1,h2⟩,hM.len,hM.hole,λi s x hs hx=>?_,hM.sep0,hM.sep⟩;obtain⟨xs,h5,h6⟩:=hM.inner i s x hs hx;exact⟨xs,by rw[hb.w,hb.ok];exact h5,by rw[hb.w,hb.base];exact h6⟩
 |tree t e ver Ah hole l=>
  cases p with
  |cells _=>exact h.elim
  |row sv Ac=>have hT:TreeOk E t e hole l sv Ac:=h;obtain⟨hv,F,h1,h2,h3⟩:=hT.rep;exact⟨⟨hv,F,by rw[hb.w,hb.ok,hb.base];exact h1,h2,h3⟩,hT.top⟩
end
theorem AgL{f:Nat->Nat×Nat}:∀{ids:List Nat}{Bs:List Blk},ids.length=Bs.length->(LN f ids Bs).length=Bs.length
 |[],[],_=>rfl
 |_::is,_::bs,h=>by simp only[LN,B9];rw[AgL (by simpa using h)]
theorem AgM{f:Yn->Yn×Yn}:∀{ids:Ye Yn}{Bs:Ye Blk}{j i:Yn},ids[j]?=Yg i->(LN f ids Bs)[j]?=(Bs[j]?).map (MH f (f i))
 |[],_,j,i,h=>by simp at h
 |_::_,[],j,i,_=>by simp[LN]
 |k::is,B::bs,0,i,h=>by simp only[DM,Af]at h;subst h;rfl
 |k::is,B::bs,j+1,i,h=>by simp only[LN,Er]at h⊢;exact AgM h
theorem AgN{bl:Yn->Ya Blk}{R:Ye Yn}:∀{ids:Ye Yn},cD bl R ids=Yp->∀i∈ids,i∈R\/bl i=Yf
 |[],_,i,h=>by simp at h
 |j::r,h,i,hi=>by
  obtain⟨h1,h2⟩:=andB h;rcases Bl.1 hi with rfl|hi
  ·simp only[Pf,Option.isNone_iff_eq_none]at h1
   exact h1.imp (λh=>Ir.1 h) id
  ·exact AgN h2 i hi
theorem AgO{bl:Yn->Ya Blk}{ids ids2:Ye Yn}{f:Yn->Yn×Yn}:∀{is:Ye BT}{js:Ye Yn}{y y2:BT.dens is},BT.hand is=Yp->Db bl ids is js=Yg y->∀(j i:Yn)(B B':Blk),js[j]?=Yg i->bl i=Yg B->(mkB ids2 is y2)[j]?=Yg B'->∀sv Ac AS By,KeepR (Yg B) (Yg (MH f (NP (Yg B)) B')) sv Ac AS By
 |[],js,y,y2,_,_,j,i,B,B',_,_,h=>by simp[mkB]at h
 |t::is,[],y,y2,_,h,j,i,B,B',hj,_,_=>by simp at hj
 |t::is,k::js,y,y2,hh,h,0,i,B,B',hj,hB,hm=>by
  obtain⟨⟨_,_,_,_,hs⟩,_⟩:=sS ids2 h;simp only[DM,Af]at hj;subst hj;rw[hB]at hs;intro sv Ac AS By;cases t with
  |mat t et e=>cases hh
  |row t e=>
   simp only[mkB,DM,Af]at hm;subst hm;rcases hs with hs|⟨ver,l,hs⟩
   ·cases hs
   ·injection hs with hs
    subst hs;exact KeepR.ofRow ⟨by simp only[NP];omega,λh=>absurd h (by simp only[NP];omega)⟩
  |tree t e=>
   simp only[mkB,DM,Af]at hm;subst hm;rcases hs with hs|⟨ver,Ah,l,hs,_⟩
   ·cases hs
   ·injection hs with hs
    subst hs;exact KeepR.ofTree ⟨by simp only[NP];omega,by simp only[NP];omega,λh=>absurd h (by simp only[NP];omega)⟩
  |cells t l=>simp only[mkB,DM,Af]at hm;subst hm;exact⟨(λ_ _ _ _ h=>by cases h),(λ_ _ _ _ _ _ _ h=>by cases h),λ_ _ _ _ _ _ h=>by cases h⟩
  |map t k v vg=>simp only[mkB,DM,Af]at hm;subst hm;exact⟨(λ_ _ _ _ h=>by cases h),(λ_ _ _ _ _ _ _ h=>by cases h),λ_ _ _ _ _ _ h=>by cases h⟩
  |fmap t l=>simp only[mkB,DM,Af]at hm;subst hm;exact⟨(λ_ _ _ _ h=>by cases h),(λ_ _ _ _ _ _ _ h=>by cases h),λ_ _ _ _ _ _ h=>by cases h⟩
 |t::is,k::js,y,y2,hh,h,j+1,i,B,B',hj,hB,hm=>by
  obtain⟨⟨z,hz,_,_,_⟩,_⟩:=sS ids2 h;have XP:BT.hand is=Yp:=by cases t<;>first|exact hh|cases hh
  have If:js[j]?=Yg i:=by simpa using hj
  cases t<;>simp only[mkB,Er]at hm<;>exact AgO XP hz j i B B' If hB hm
theorem AgP{P:Yw}{f:YA}{S:Spec}(h:SpecOkB P f S)(hs:S.outs=S.ins)(hc:(BT.hand S.ins&&(ST.bnd S.ins.length S.res&&BT.bnd S.ins.length S.ins))=Yp):AbsOk P f (hand S hs):=by
 obtain⟨ps,is0,rs,is,run⟩:=S;simp only at hs hc;subst hs;obtain⟨k1,hc⟩:=andB hc;obtain⟨k4,k5⟩:=andB hc;refine⟨h.fn,λbl nx args kk r hk=>?_⟩;simp only[AgJ]at hk;generalize hR:Iv bl 99 (Kg args) []=R at hk;split at hk
 ·cases hk
 rename_i ids0 d hv;cases AdK:(cD bl R ids0&&((ST.flat rs&&BT.flat is)||AgI (Gg ps args++Fi (Kh R bl) is ids0)))with
 |false=>rw[AdK]at hk;cases hk
 |true=>
  rw[AdK,As]at hk;obtain⟨Ds,CD⟩:=andB AdK;have Ds:=AgN Ds
  have CD:(ST.flat rs&&BT.flat is)=Yp\/Gg ps args++Fi (Kh R bl) is ids0=[]:=by
   cases hq:(ST.flat rs&&BT.flat is)with
   |true=>exact .inl rfl
   |false=>
    rw[hq,Ph]at CD;refine .inr ?_;generalize Gg ps args++Fi (Kh R bl) is ids0=q at CD;cases q with
    |nil=>rfl
    |cons _ _=>cases CD
  generalize hf:UB R ids0 bl=fb at hk;obtain⟨z,hz,Fx⟩:=h.ok d _ r hk;refine⟨_,_,_,hz,λAb Ai ok0 base pl w us hr CZ=>?_⟩
  have hagR:Kh R bl=Kh R Ab:=by
   funext i;simp only[Kh];cases hm:memB i R with
   |false=>rfl
   |true=>rw[As,As,Ai i (D5 _ (Ir.1 hm))]
  have hidsB:∀i∈ids0,Ab i=bl i:=λi hi=>Ai i (DW _ hi);generalize hblR:Kh R Ab=blR at*;rw[hagR]at hv CD;unfold AgH at hv;split at hv
  ·cases hv
  rename_i ids _;split at hv
  ·cases hv
  rename_i x hx;split at hv
  ·cases hv
  rename_i y hy;cases Ib:(JX ids&&!meet (Gg ps args++Fi blR is ids) ids)with
  |false=>rw[Ib]at hv;cases hv
  |true=>
   rw[Ib,As,Af,Cb]at hv;obtain⟨rfl,rfl⟩:=hv;obtain⟨c3,c4⟩:=andB Ib;have c3:=R6 c3;simp only[Re]at c4;have c4:=bX.1 c4
   have AX:∀i B,blR i=Yg B->Ab i=Yg B:=λi B hB=>by
    rw[<-hblR]at hB;simp only[Kh]at hB;cases hm:memB i R with
    |false=>rw[hm]at hB;cases hB
    |true=>rw[hm]at hB;exact hB
   have GR:∀i∈ids,blR i=Yf->Ab i=Yf:=λi hi hn=>by
    rcases Ds i hi with h|h
    ·rw[<-hblR]at hn
     simp only[Kh,Ir.2 h,As]at hn;exact hn
    ·rw[hidsB i hi];exact h
   have AdY:∀i∈ids,∀B,Ab i=Yg B->blR i=Yg B:=λi hi B hB=>by
    cases hn:blR i with
    |none=>rw[GR i hi hn]at hB;cases hB
    |some B'=>rw[AX i B' hn]at hB;exact hB
   let ER:Env:=envR ok0 base pl Ab blR w
   have GQ:Ext (At ok0 base pl Ab w) ER:=⟨Av _,λg h _=>⟨h,rfl⟩,λ_ _ h=>h,λb sv Ac h=>⟨sv,Ac,h,KeepR.of_eq (λC hC=>AX b C hC) _ _⟩⟩
   have Bv:VReps ER args us:=by
    have:∀{vs:Ye V}{us:Ye Yq},VReps (At ok0 base pl Ab w) vs us->VReps ER vs us:=by
     intro vs
     induction vs with
     |nil=>intro us h;exact h
     |cons v vs ih=>intro us ⟨u,CM,e,h1,h2⟩;exact⟨u,CM,e,VRep.mono GQ h1,ih h2⟩
    exact this CZ
   let n:=is.length
   let plv:Yn->Ya Pl:=λb=>(ids[b]?).map (plOf ER)
   let blv:Yn->Ya Blk:=fnBl (mkB (AP 0 is.length) is y)
   let N:Yn->Prop:=λg=>(ST.flat rs&&BT.flat is)=Yi/\g<w.heap.size/\Own pl Ab g/\¬Own plv blv g
   let ok1:OK0 P:=⟨λg=>ok0 g/\¬N g,λg=>ok0.no g\/N g⟩
   have Tj:Gg ps args++Fi blR is ids=[]\/ok1=ok0:=by
    rcases CD with h|h
    ·refine .inr ?_
     have hN:∀g,¬N g:=λg hN=>by have h1:=hN.1;rw[h]at h1;cases h1
     have e1:ok1.f=ok0.f:=by funext g;exact propext ⟨λq=>q.1,λq=>⟨q,hN g⟩⟩
     have e2:ok1.no=ok0.no:=by funext g;exact propext ⟨λq=>q.resolve_right (hN g),.inl⟩
     obtain⟨f0,n0⟩:=ok0;exact congr (Aw OK0.mk e1) e2
    ·exact .inl h
   obtain⟨DJ,hT,AU,Ig,Aq⟩:=Ago (ok1:=ok1) hr AX GR hx hy c3 c4 Bv
    (λg h1 h2=>h1.imp (λh=>⟨h,λhN=>h2 hN.2.2.1⟩) λh=>⟨h.1,λhn=>hn.elim h.2 λhN=>h2 hN.2.2.1⟩)
    Tj
    (λg hn=>hn.elim (λh=>⟨(hr.glob.no g h).1,λho=>(hr.glob.no g h).2 (Agn hr AX hy ho)⟩) λhN=>⟨hN.2.1,hN.2.2.2⟩) (λg hn=>hn.imp id λhN=>.inl hN.2.2.1)
   have To:∀b i B,ids[b]?=Yg i->Ab i=Yg B->plv b=pl i:=λb i B hb hB=>by obtain⟨p,hp,_⟩:=hr.blks i B hB;have:=AdY i (Dg hb) B hB;simp[plv,hb,plOf,ER,envR,this,hp]
   have ALU:∀g,Own plv blv g->Own pl Ab g:=λg h=>by obtain⟨i,B,p,_,h1,h2,h3,h4⟩:=Aq g h;exact⟨i,B,p,AX i B h1,h2,h3,h4⟩
   refine(Fx ok1 base plv w us hr.baseLe DJ hT).mono λe w' EZ=>?_;obtain⟨Bw,Ak,rfl,hRo,hS,hTo⟩:=EZ
   let blo:Yn->Ya Blk:=fnBl (mkB (AP 0 is.length) is z.2)
   let Eo:Env:=At ok1 base Ak blo w'
   let pl3:Yn->Ya Pl:=λi=>match place ids i with|some b=>Ak b|none=>pl i
   have Ap:∀i,updL Ab (ids.zip (LN fb ids (mkB ids is z.2))) i=match place ids i with|some b=>(LN fb ids (mkB ids is z.2))[b]?|none=>Ab i:=
    λi=>AfR i c3 (by rw[AgL (by rw[GD];exact AU),GD];exact AU)
   generalize AOm:updL Ab (ids.zip (LN fb ids (mkB ids is z.2)))=bl3 at*;have OJ:∀i,place ids i=Yf->pl3 i=pl i:=λi h=>by simp only[pl3,h]
   have OM:∀i b,place ids i=Yg b->pl3 i=Ak b:=λi b h=>by simp only[pl3,h]
   have HD:∀i,place ids i=Yf->bl3 i=Ab i:=λi h=>by rw[Ap,h]
   have O7:∀i b,place ids i=Yg b->bl3 i=((mkB ids is z.2)[b]?).map (MH fb (fb i)):=λi b h=>by rw[Ap,h];exact AgM (Hy h)
   have HH:∀i b,place ids i=Yg b->b<is.length:=λi b h=>by rw[<-AU];exact(Fe.1 (Hy h)).1
   have KC:∀b,b<is.length->∃B,blo b=Yg B/\B.live=Yp:=λb hb=>by
    have AE:b<(mkB (AP 0 is.length) is z.2).length:=by rw[GD];exact hb
    exact⟨_,Ff AE,NM (Ff AE)⟩
   have DI:∀g,Own pl3 bl3 g->(Own pl Ab g/\∃i B p,place ids i=Yf/\Ab i=Yg B/\B.live=Yp/\pl i=Yg p/\p.has g)\/Own Ak blo g:=by
    rintro g ⟨i,B,p,hB,hl,hp,hg⟩;cases AC:place ids i with
    |none=>rw[HD i AC]at hB;rw[OJ i AC]at hp;exact .inl ⟨⟨i,B,p,hB,hl,hp,hg⟩,i,B,p,AC,hB,hl,hp,hg⟩
    |some b=>rw[OM i b AC]at hp;obtain⟨B',hB',GS⟩:=KC b (HH i b AC);exact .inr ⟨b,B',p,hB',GS,hp,hg⟩
   have QD:∀i B p g,place ids i=Yf->Ab i=Yg B->B.live=Yp->pl i=Yg p->p.has g->w'.heap[g]?=w.heap[g]?/\¬Own Ak blo g:=by
    intro i B p g AC hB hl hp hg;have Ax:g<w.heap.size:=Own.lt hr ⟨i,B,p,hB,hl,hp,hg⟩;refine hS.out g Ax λho=>?_;obtain⟨j,C,q,hj,hC,hlC,hq,B7⟩:=Aq g ho
    have AO:i≠j:=by rintro rfl;obtain⟨b,hb⟩:=ZS hj;rw[KT c3 hb]at AC;cases AC
    exact hr.sep i j _ _ _ _ g AO hB (AX j C hC) hl hlC hp hq hg B7
   have Fb:Step pl Ab w pl3 bl3 w':=by
    refine⟨hS.os,hS.tape,hS.output,hS.size,λg Ax ho=>?_,λb g hb=>?_,λb sv Ac hb=>?_⟩
    ·obtain⟨h1,h2⟩:=hS.out g Ax λh=>ho (ALU g h)
     refine⟨h1,λh=>?_⟩;rcases DI g h with h|h
     ·exact ho h.1
     ·exact h2 h
    ·cases AC:place ids b with
     |none=>rw[OJ b AC];exact hb
     |some j=>
      rw[OM b j AC];cases hB:Ab b with
      |none=>rw[hr.fresh b hB]at hb;cases hb
      |some B=>exact hS.cells j g (HH b j AC) (by rw[To j b B (Hy AC) hB];exact hb)
    ·cases AC:place ids b with
     |none=>exact⟨sv,Ac,by rw[OJ b AC];exact hb,KeepR.of_eq (λC h=>by rw[HD b AC]at h;exact h) _ _⟩
     |some j=>
      cases hB:Ab b with
      |none=>rw[hr.fresh b hB]at hb;cases hb
      |some B=>
       obtain⟨AS,By,h1⟩:=hS.rows j sv Ac (HH b j AC) (by rw[To j b B (Hy AC) hB];exact hb);refine⟨AS,By,by rw[OM b j AC];exact h1,?_⟩;have Ax:j<(mkB ids is z.2).length:=by rw[GD];exact HH b j AC
       have ALe:fb b=NP (Yg B):=by have hm:memB b ids=Yp:=Ir.2 (Dg (Hy AC));rw[<-hf];simp only[UB,hm,As];rw[hagR,AdY b (Dg (Hy AC)) B hB]
       rw[O7 b j AC,Ff Ax,F8,ALe];exact AgO k1 hy j b B _ (Hy AC) (AdY b (Dg (Hy AC)) B hB) (Ff Ax) _ _ _ _
   let blm:Yn->Ya Blk:=λi=>match place ids i with|some b=>(mkB ids is z.2)[b]?|none=>Ab i
   have AKS:∀i,place ids i=Yf->blm i=Ab i:=λi h=>by simp only[blm,h]
   have AqX:∀i b,place ids i=Yg b->blm i=(mkB ids is z.2)[b]?:=λi b h=>by simp only[blm,h]
   let Em:Env:={w:=w',ok:=(At ok0 base pl3 bl3 w').ok,base:=base,pl:=pl3,bl:=blm}
   have AqY:Bump fb Em (At ok0 base pl3 bl3 w'):=by
    have key:∀i B,bl3 i=Yg B->∃B0,blm i=Yg B0/\((B=B0/\place ids i=Yf)\/B=MH fb (fb i) B0):=by
     intro i B hB;cases AC:place ids i with
     |none=>rw[HD i AC]at hB;exact⟨B,by rw[AKS i AC];exact hB,.inl ⟨rfl,rfl⟩⟩
     |some b=>rw[O7 i b AC]at hB;obtain⟨B0,h1,h2⟩:=TJ.1 hB;exact⟨B0,by rw[AqX i b AC];exact h1,.inr h2.symm⟩
    have hz:∀i,place ids i=Yf->fb i=(0,0):=λi hi=>by
     have hm:memB i ids=Yi:=by
      cases hm:memB i ids with
      |false=>rfl
      |true=>obtain⟨b,hb⟩:=ZS (Ir.1 hm);rw[KT c3 hb]at hi;cases hi
     rw[<-hf];simp only[UB,hm,C7]
    refine⟨rfl,rfl,rfl,rfl,λi t e ver l h=>?_,λi t e ver Ah hh l h=>?_,λi t et e ver Ah hh l h=>?_⟩
    ·obtain⟨B0,h1,h2⟩:=key i _ h
     rcases h2 with⟨h2,h3⟩|h2
     ·subst h2;exact⟨ver,h1,by rw[hz i h3];rfl⟩
     ·cases B0<;>simp only[MH]at h2<;>first|(cases h2;done)|skip
      injection h2 with q1 q2 q3 q4;subst q1 q2 q3;exact⟨_,by rw[eq_of_heq q4];exact h1,rfl⟩
    ·obtain⟨B0,h1,h2⟩:=key i _ h
     rcases h2 with⟨h2,h3⟩|h2
     ·subst h2;exact⟨ver,Ah,h1,by rw[hz i h3];rfl,by rw[hz i h3];rfl⟩
     ·cases B0<;>simp only[MH]at h2<;>first|(cases h2;done)|skip
      injection h2 with q1 q2 q3 q4 q5 q6;subst q1 q2 q3 q4 q5;exact⟨_,_,by rw[eq_of_heq q6];exact h1,rfl,rfl⟩
    ·obtain⟨B0,h1,h2⟩:=key i _ h
     rcases h2 with⟨h2,h3⟩|h2
     ·subst h2;exact h1
     ·cases B0<;>simp only[MH]at h2<;>first|(cases h2;done)|skip
      exact h2▸h1
   have Q5:(ST.flat rs&&BT.flat is)=Yi\/(ST.flat rs=Yp/\BT.flat is=Yp):=by
    cases hf:(ST.flat rs&&BT.flat is)with
    |false=>exact .inl rfl
    |true=>exact .inr (andB hf)
   have XF:∀(τ:Ty)(x:τ.den)(us:Ye Yq),((ST.flat rs&&BT.flat is)=Yi\/τ.flat=Yp)->DRep Eo.w Eo.ok τ x us->DRep Em.w Em.ok τ x us:=λτ x us AdL hd=>by
    rcases AdL with hq|hq
    ·refine hd.mono λg hg _=>⟨?_,rfl⟩
     obtain⟨h1,h2⟩:=hg;have hnN:¬N g:=h1.elim (λh=>h.2) λh hN=>h.2 (.inr hN);refine⟨h1.imp (λh=>h.1) λh=>⟨h.1,λhn=>h.2 (.inl hn)⟩,λho=>?_⟩;rcases DI g ho with⟨QJ,i,B,p,AC,hB,hl,hp,Dh⟩|QJ
     ·refine hnN ⟨hq,Own.lt hr QJ,QJ,λJo=>?_⟩
      obtain⟨j,C,q,hj,hC,hlC,hq,B7⟩:=Aq g Jo
      have AO:i≠j:=by rintro rfl;obtain⟨b,hb⟩:=ZS hj;rw[KT c3 hb]at AC;cases AC
      exact hr.sep i j _ _ _ _ g AO hB (AX j C hC) hl hlC hp hq Dh B7
     ·exact h2 QJ
    ·exact hd.flat hq
   have Zk:Ren2 is.length Eo Em (AP 0 is.length) ids:=by
    have key:∀b,b<is.length->pl3 (ids.getD b 0)=Ak b/\blm (ids.getD b 0)=(mkB ids is z.2)[b]?:=by
     intro b hb;have AE:b<ids.length:=by omega
     have Jg:ids[b]?=Yg ids[b]:=Ff AE;have Ln:ids.getD b 0=ids[b]:=by simp[List.getD,Jg]
     have Zg:=KT c3 Jg;rw[Ln];exact⟨OM _ b Zg,AqX _ b Zg⟩
    refine⟨λb g hb h=>?_,λb sv Ac hb h=>?_⟩
    ·rw[P3 hb]at h
     show pl3 _=_;rw[(key b hb).1];exact h
    ·rw[P3 hb]at h⊢
     refine⟨?_,λt e ver l h2=>?_,λt et e ver Ah hole l h2=>?_,λt e ver Ah hole l h2=>?_⟩
     ·show pl3 _=_
      rw[(key b hb).1];exact h
     ·have h3:blm (ids.getD b 0)=Yg (.row t e ver l):=h2
      rw[(key b hb).2]at h3;exact NK h3
     ·have h3:blm (ids.getD b 0)=Yg (.mat t et e ver Ah hole l):=h2
      rw[(key b hb).2]at h3;exact NL h3
     ·have h3:blm (ids.getD b 0)=Yg (.tree t e ver Ah hole l):=h2
      rw[(key b hb).2]at h3;exact rZ h3
   refine⟨Is Bw,pl3,rfl,⟨DC hr.baseLe hS.size,λi B hB=>?_,λi j B C p q g Dv hB hC hlB' hlC hp hq Dh=>?_,λi hi=>?_,hr.glob.out Fb.size Fb.out⟩,Fb,?_⟩
   ·cases AC:place ids i with
    |none=>
     rw[HD i AC]at hB;obtain⟨p,hp,hBR⟩:=hr.blks i B hB;refine⟨p,by rw[OJ i AC];exact hp,?_⟩;cases hl:B.live with
     |false=>cases B<;>first|exact trivial|simp[Blk.live]at hl
     |true=>exact BRep.mono Fb.ext hBR λg hg=>(QD i B p g AC hB hl hp hg).1
    |some b=>obtain⟨Bo,hBo,Ew⟩:=KC b (HH i b AC);obtain⟨p,hp,hBR⟩:=hRo.blks b Bo hBo;obtain⟨B',h1,h2,_,_,_,_⟩:=NJ Zk (Av _) XF rfl k5 (Q5.imp id (·.2)) hBo hBR;rw[O7 i b AC,h1,F8,Af]at hB;subst hB;exact⟨p,by rw[OM i b AC];exact hp,h2.bump AqY (fb i)⟩
   ·cases AC:place ids i with
    |none=>
     rw[HD i AC]at hB;rw[OJ i AC]at hp;cases Dw:place ids j with
     |none=>rw[HD j Dw]at hC;rw[OJ j Dw]at hq;exact hr.sep i j B C p q g Dv hB hC hlB' hlC hp hq Dh
     |some b=>rw[OM j b Dw]at hq;intro B7;obtain⟨Bo,hBo,Ew⟩:=KC b (HH j b Dw);exact(QD i B p g AC hB hlB' hp Dh).2 ⟨b,Bo,q,hBo,Ew,hq,B7⟩
    |some b=>
     rw[OM i b AC]at hp;obtain⟨Bo,hBo,Ew⟩:=KC b (HH i b AC);cases Dw:place ids j with
     |none=>rw[HD j Dw]at hC;rw[OJ j Dw]at hq;intro B7;exact(QD j C q g Dw hC hlC hq B7).2 ⟨b,Bo,p,hBo,Ew,hp,Dh⟩
     |some b'=>
      rw[OM j b' Dw]at hq;obtain⟨Bo',hBo',AdD⟩:=KC b' (HH j b' Dw)
      have JG:b≠b':=by rintro rfl;have h1:=Hy AC;have h2:=Hy Dw;rw[h1]at h2;injection h2 with h2;exact Dv h2
      exact hRo.sep b b' _ _ p q g JG hBo hBo' Ew AdD hp hq Dh
   ·cases AC:place ids i with
    |none=>rw[HD i AC]at hi;rw[OJ i AC];exact hr.fresh i hi
    |some b=>rw[O7 i b AC]at hi;have:=HH i b AC;rw[Option.map_eq_none_iff,Ra,GD]at hi;omega
   ·exact TReps.res ((rX Zk XF k4 (Q5.imp id (·.1)) hTo).bump AqY)
@[reducible] def frzA(A:AbsF):AbsF:=⟨λ{_} bl nx args kk=>Kd bl (CI args) (λbl' El=>A.run bl' nx (args.map (frzV bl)) El) kk⟩
theorem Avb{P:Yw}{f:YA}{A:AbsF}(h:AbsOk P f A):AbsOk P f (frzA A):=by
 refine⟨h.fn,λbl nx args kk r hk=>?_⟩
 have hk:A.run (updL bl (Dl bl (CI args))) nx (args.map (frzV bl)) (λv rd wr=>kk v (CI args++rd) (Dl bl (CI args)++wr))=Yg r:=by rw[<-U6];exact hk
 obtain⟨v,rd,wr,OC,Ds⟩:=h.ok _ _ _ _ _ hk;refine⟨v,_,_,OC,λAb Ai ok0 base pl w us hr CZ=>?_⟩;obtain⟨h1,h2,h3⟩:=freeze (bl:=bl) hr (CI args) λb hb=>Ai b (D5 _ hb)
 have FM:∀b∈rd,updL Ab (Dl bl (CI args)) b=updL bl (Dl bl (CI args)) b:=λb hb=>by
  by_cases hm:b∈wids (Dl bl (CI args))
  ·exact R9 hm
  ·rw[Hz hm,Hz hm]
   exact Ai b (DW _ hb)
 have key:∀(vs:Ye V)(us:Ye Yq),(∀v∈vs,v∈args)->VReps (At ok0 base pl Ab w) vs us->VReps (At ok0 base pl (updL Ab (Dl bl (CI args))) w) (vs.map (frzV bl)) us:=by
  intro vs
  induction vs with
  |nil=>intro us _ h;exact h
  |cons v vs ih=>rintro us hm ⟨u,CM,e,q1,q2⟩;exact⟨u,CM,e,h3 v u (sH (hm v (by simp))) q1,ih CM (λx hx=>hm x (by simp[hx])) q2⟩
 refine(Ds _ FM ok0 base pl w us h1 (key args us (λ_ h=>h) CZ)).mono λe w' ⟨u,Ak,q1,q2,q3,q4⟩=>?_;rw[NI];exact⟨u,Ak,q1,q2,h2.trans q3,q4⟩
end
end Go.Lift
namespace Go.Lift
noncomputable section
open Go.RowKit
universe u
class Sl where
 u:Yn
variable[S:Sl]
def hid{α:Sort u}(a:α):α:=match S.u with|0=>a|_+1=>a
theorem Ad{α:Sort u}(a:α):hid a=a:=by unfold hid;cases S.u<;>rfl
@[reducible] def CT.Fn(R:Type):Ye CT->Type
 |[]=>R
 |.data τ::r=>τ.den->CT.Fn R r
 |.lsome e::r=>Ye e.den->CT.Fn R r
 |.tptrh _ ks _::r=>WayT ks->CT.Fn R r
 |.ptr _ _::r|.rowh _::r|.fn _ _::r|.maph _::r|.math _::r|.bself _::r|.bfnh _ _::r|.trowh _::r|.nilc::r|.nils::r|.junk::r=>CT.Fn R r
@[reducible] def ST.Fn(R:Type):Ye (Ys×Ye CT)->Type
 |[]=>R
 |t::r=>CT.Fn (ST.Fn R r) t.2
@[reducible] def BT.Fn(R:Type):Ye BT->Type
 |[]=>R
 |.cells _ l::r=>CT.Fn (BT.Fn R r) l
 |.row _ e::r=>Ye e.den->BT.Fn R r
 |.map _ k v _::r=>Ye (k.den×v.den)->BT.Fn R r
 |.mat _ _ e::r=>Ye (Ye e.den)->BT.Fn R r
 |.tree _ e::r=>Ye e.ty.den->BT.Fn R r
 |.fmap _ _::r=>BT.Fn R r
def CT.app{R:Type}:(l:Ye CT)->CT.Fn R l->CT.dens l->R
 |[],f,_=>f
 |.data _::r,f,d=>CT.app r (f d.1) d.2
 |.lsome _::r,f,d=>CT.app r (f d.1) d.2
 |.tptrh _ _ _::r,f,d=>CT.app r (f d.1) d.2
 |.ptr _ _::r,f,d|.rowh _::r,f,d|.fn _ _::r,f,d|.maph _::r,f,d|.math _::r,f,d|.bself _::r,f,d|.bfnh _ _::r,f,d|.trowh _::r,f,d|.nilc::r,f,d|.nils::r,f,d|.junk::r,f,d=>CT.app r f d
def ST.app{R:Type}:(l:Ye (Ys×Ye CT))->ST.Fn R l->ST.dens l->R
 |[],f,_=>f
 |t::r,f,d=>ST.app r (CT.app t.2 f d.1) d.2
def BT.app{R:Type}:(l:Ye BT)->BT.Fn R l->BT.dens l->R
 |[],f,_=>f
 |.cells _ l::r,f,d=>BT.app r (CT.app l f d.1) d.2
 |.row _ _::r,f,d=>BT.app r (f d.1) d.2
 |.map _ _ _ _::r,f,d=>BT.app r (f d.1) d.2
 |.mat _ _ _::r,f,d=>BT.app r (f d.1) d.2
 |.tree _ _::r,f,d=>BT.app r (f d.1) d.2
 |.fmap _ _::r,f,d=>BT.app r f d
def CT.lam{R:Type}:(l:Ye CT)->(CT.dens l->R)->CT.Fn R l
 |[],f=>f ()
 |.data _::r,f=>λx=>CT.lam r λd=>f (x,d)
 |.lsome _::r,f=>λx=>CT.lam r λd=>f (x,d)
 |.tptrh _ _ _::r,f=>λx=>CT.lam r λd=>f (x,d)
 |.ptr _ _::r,f|.rowh _::r,f|.fn _ _::r,f|.maph _::r,f|.math _::r,f|.bself _::r,f|.bfnh _ _::r,f|.trowh _::r,f|.nilc::r,f|.nils::r,f|.junk::r,f=>CT.lam r f
def ST.lam{R:Type}:(l:Ye (Ys×Ye CT))->(ST.dens l->R)->ST.Fn R l
 |[],f=>f ()
 |t::r,f=>CT.lam t.2 λa=>ST.lam r λd=>f (a,d)
def BT.lam{R:Type}:(l:Ye BT)->(BT.dens l->R)->BT.Fn R l
 |[],f=>f ()
 |.cells _ l::r,f=>CT.lam l λa=>BT.lam r λd=>f (a,d)
 |.row _ _::r,f=>λx=>BT.lam r λd=>f (x,d)
 |.map _ _ _ _::r,f=>λx=>BT.lam r λd=>f (x,d)
 |.mat _ _ _::r,f=>λx=>BT.lam r λd=>f (x,d)
 |.tree _ _::r,f=>λx=>BT.lam r λd=>f (x,d)
 |.fmap _ _::r,f=>BT.lam r f
@[reducible] def VF(R:Type)(s:Ye (Ys×Ye CT))(b:Ye BT):Type:=ST.Fn (BT.Fn R b) s
def vapp{R:Type}(s:Ye (Ys×Ye CT))(b:Ye BT)(f:VF R s b)(d:ST.dens s×BT.dens b):R:=BT.app b (ST.app s f d.1) d.2
def vlam{R:Type}(s:Ye (Ys×Ye CT))(b:Ye BT)(g:ST.dens s×BT.dens b->R):VF R s b:=ST.lam s λx=>BT.lam b λy=>g (x,y)
def CT.some?:Ye CT->Ys
 |[]=>Yi
 |.data _::_=>Yp
 |.lsome _::_=>Yp
 |.tptrh _ _ _::_=>Yp
 |.ptr _ _::r|.rowh _::r|.fn _ _::r|.maph _::r|.math _::r|.bself _::r|.bfnh _ _::r|.trowh _::r|.nilc::r|.nils::r|.junk::r=>CT.some? r
def ST.some?:Ye (Ys×Ye CT)->Ys
 |[]=>Yi
 |t::r=>CT.some? t.2||ST.some? r
def BT.some?:Ye BT->Ys
 |[]=>Yi
 |.cells _ l::r=>CT.some? l||BT.some? r
 |.fmap _ _::r=>BT.some? r
 |_::_=>Yp
@[reducible] def selT(A B:Type):Ys->Type
 |true=>A
 |false=>B
@[reducible] def KF(R:Type)(s:Ye (Ys×Ye CT))(b:Ye BT):Type:=selT (VF R s b) (Unit->VF R s b) (ST.some? s||BT.some? b)
def selk{R:Type}{s:Ye (Ys×Ye CT)}{b:Ye BT}(f:VF R s b):(c:Ys)->selT (VF R s b) (Unit->VF R s b) c
 |true=>f
 |false=>λ_=>f
def klam{R:Type}(s:Ye (Ys×Ye CT))(b:Ye BT)(g:ST.dens s×BT.dens b->R):KF R s b:=selk (vlam s b g) _
def sgE(ps:Ye (Ys×Ye CT))(is:Ye BT)(rs:Ye (Ys×Ye CT))(os:Ye BT)(f:(β:Type)->VF (KF (Ya β) rs os->Ya β) ps is):Spec:=
 ⟨ps,is,rs,os,λ{β} x k=>vapp ps is (f β) x (klam rs os k)⟩
abbrev sg(ps:Ye (Ys×Ye CT))(is:Ye BT)(rs:Ye (Ys×Ye CT))(os:Ye BT)(f:{β:Type}->VF (KF (Ya β) rs os->Ya β) ps is):Spec:=sgE ps is rs os λβ=>f (β:=β)
theorem cE{F:Type->Type}(s:(β:Type)->F β):(λβ=>hid (s β))=s:=funext λβ=>Ad (s β)
@[reducible] def OF(β R:Type):Ye (AExit×View)->Type
 |[]=>R
 |x::r=>KF (Ya β) x.2.params x.2.ins->OF β R r
def oapp{β R:Type}:(l:Ye (AExit×View))->OF β R l->Outs.K β l->R
 |[],f,_=>f
 |x::r,f,ks=>oapp r (f (klam x.2.params x.2.ins ks.1)) ks.2
abbrev Pc.T(p:Pc)(β:Type):Type:=OF β (VF (Ya β) p.v.params p.v.ins) p.o
def Pc.un(p:Pc)(f:(β:Type)->p.T β):p.G:=λ{β} d ks=>vapp _ _ (oapp p.o (f β) ks) d
def Avc(P:Yw)(f:Yn):Fun->Prop
 |.spec S=>SpecOk P f S
 |.rows F=>RowOk P f F
 |.bld F=>BldOk P f F
 |.abs A=>AbsOk P f A
structure Ent (P:Yw) where
 no:Yn
 F:Fun
 ok:Avc P no F
def Ent.of{P:Yw}{no:Yn}{S:Spec}(h:SpecOk P no S):Ent P:=⟨no,.spec S,h⟩
@[reducible] def gam{P:Yw}(l:Ye (Ent P)):Yn->Ya Fun:=EB (l.map λe=>(e.no,e.F))
theorem KU{P:Yw}:∀l:Ye (Ent P),ΓOk P (gam l)
 |[]=>ΓOk_nil
 |⟨_,.spec _,h⟩::l=>ΓOk_cons h (KU l)
 |⟨_,.rows _,h⟩::l=>ΓOk_row h (KU l)
 |⟨_,.bld _,h⟩::l=>ΓOk_bld h (KU l)
 |⟨_,.abs _,h⟩::l=>ΓOk_abs h (KU l)
structure PB (P:Yw) where
 q:Yn
 p:Pc
 f:(β:Type)->p.T β
 ok:p.Ok P (p.un f)
@[reducible] def cuts{P:Yw}(l:Ye (PB P)):Yn->Ya Cut:=EB (l.map λb=>(b.q,b.p.cut (b.p.un b.f)))
theorem cF{P:Yw}{n m q:Yn}{c:Code}:∀{l:Ye (PB P)},l.map (λb=>(find b.q q c,b.p.v.m,b.p.n,b.p.m))=l.map (λb=>([b.p.c],m,n,m))->NN P n m q c (cuts l)
 |[],_=>Agu
 |b::l,h=>by simp only[CH,Dx,Cb]at h;obtain⟨⟨h1,h2,h3,h4⟩,h5⟩:=h;have hb:=b.ok;unfold Pc.Ok at hb;rw[h3,h4]at hb;exact Av2 h1 h2 hb (cF h5)
theorem LO{P:Yw}(Dp:P.follows .mixedOrders=Yp){X:Ctx}(hT:TOk P X.T)(es:Ye (Ent P))(hX:X.Γ=gam es)(cs:Ye (PB P)){ps rs:Ye (Ys×Ye CT)}{is os:Ye BT}{f:YA}{fn:Func}(vs:Ye RS){s:(β:Type)->VF (KF (Ya β) rs os->Ya β) ps is}(hf:P.funcs[f]?=Yg fn)(hc:((fn.name== "runtime.NumGoroutine"),fn.body,fn.results.toList,(Yo vs.length rs.length&&(ST.tidy rs&&YI ps.length fn.ntmps)),cs.map (λb=>(find b.q 1 (Au fn),b.p.v.m,b.p.n,b.p.m)))=(Yi,Yg (Au fn),vs.map RS.toVar,Yp,cs.map (λb=>([b.p.c],is.length,fn.ntmps,is.length))))(h:∀{β:Type}(x:ST.dens ps×BT.dens is)(k:ST.dens rs×BT.dens os->Ya β),exec X fn.ntmps (cuts cs) 1 (Au fn) ((vIn (sgE ps is rs os s)).mk' x) (retK X.T (sgE ps is rs os s) vs k)=vapp ps is (s β) x (klam rs os k)):SpecOkB P f (sgE ps is rs os λβ=>hid (s β)):=by
 simp only[Cb]at hc;obtain⟨h1,h2,h3,h4,h5⟩:=hc;rw[cE];exact pcSB Dp X hT (hX▸KU es) (cuts cs) vs hf h1 h2 h3 h4 (cF h5) h
theorem RG{P:Yw}(Dp:P.follows .mixedOrders=Yp){X:Ctx}(hT:TOk P X.T)(es:Ye (Ent P))(hX:X.Γ=gam es)(cs:Ye (PB P)){ps rs:Ye (Ys×Ye CT)}{is os:Ye BT}{f:YA}{fn:Func}(vs:Ye RS){s:(β:Type)->VF (KF (Ya β) rs os->Ya β) ps is}(hf:P.funcs[f]?=Yg fn)(hc:((fn.name== "runtime.NumGoroutine"),fn.body,fn.results.toList,(Yo vs.length rs.length&&(ST.tidy rs&&YI ps.length fn.ntmps)),cs.map (λb=>(find b.q 1 (Au fn),b.p.v.m,b.p.n,b.p.m)))=(Yi,Yg (Au fn),vs.map RS.toVar,Yp,cs.map (λb=>([b.p.c],is.length,fn.ntmps,is.length))))(h:∀{β:Type}(x:ST.dens ps×BT.dens is)(k:ST.dens rs×BT.dens os->Ya β),exec X fn.ntmps (cuts cs) 1 (Au fn) ((vIn (sgE ps is rs os s)).mk' x) (retK X.T (sgE ps is rs os s) vs k)=vapp ps is (s β) x (klam rs os k)):SpecOk P f (sgE ps is rs os λβ=>hid (s β)):=(LO Dp hT es hX cs vs hf hc h).spec
theorem Ki{P:Yw}(Dp:P.follows .mixedOrders=Yp){X:Ctx}(hT:TOk P X.T)(es:Ye (Ent P))(hX:X.Γ=gam es)(cs:Ye (PB P)){p:Pc}{g:Yn->(β:Type)->p.T β}(hc:((p.o.all λx=>Yo x.2.m p.m),cs.map (λb=>(find b.q 1 (Eb p.c),b.p.v.m,b.p.n,b.p.m)))=(Yp,cs.map (λb=>([b.p.c],p.m,p.n,p.m))))(hv:p.v.m=p.m)(hl:p.c=.loop (Eb p.c))(h0:∀{β:Type}(d:p.v.den)(ks:Outs.K β p.o),p.un (g 0) d ks=Yf)(h:∀(i:Yn){β:Type}(d:p.v.den)(ks:Outs.K β p.o),exec X p.n (cuts cs) 1 (Eb p.c) (p.v.mk' d) (UA p.v (λd'=>p.un (g i) d' ks) p.o ks)=p.un (g (i+1)) d ks):p.Ok P (p.un λβ=>hid (g fuel β)):=by
 simp only[Cb]at hc;rw[cE];exact pcL Dp X hT (hX▸KU es) (G:=λi=>p.un (g i)) (cuts cs) hl hv hc.1 (cF hc.2) h0 h fuel
theorem NQ{P:Yw}(Dp:P.follows .mixedOrders=Yp){X:Ctx}(hT:TOk P X.T)(es:Ye (Ent P))(hX:X.Γ=gam es)(cs:Ye (PB P))(q:Yn){p:Pc}{g:(β:Type)->p.T β}(hc:((p.o.all λx=>Yo x.2.m p.m),cs.map (λb=>(find b.q q p.c,b.p.v.m,b.p.n,b.p.m)))=(Yp,cs.map (λb=>([b.p.c],p.m,p.n,p.m))))(h:∀{β:Type}(d:p.v.den)(ks:Outs.K β p.o),exec X p.n (cuts cs) q p.c (p.v.mk' d) (outK p.o ks)=p.un g d ks):p.Ok P (p.un λβ=>hid (g β)):=by
 simp only[Cb]at hc;rw[cE];exact pcE Dp X hT (hX▸KU es) q (cuts cs) hc.1 (cF hc.2) h
noncomputable def Ent.inl{P:Yw}(Dp:P.follows .mixedOrders=Yp){X:Ctx}(hT:TOk P X.T)(es:Ye (Ent P))(hX:X.Γ=gam es){no:Yn}{fn:Func}{rs:Ye RS}(m:Yn)(hf:P.funcs[no]?=Yg fn)(hc:((fn.name== "runtime.NumGoroutine"),fn.body,fn.results.toList)=(Yi,Yg (Au fn),rs.map RS.toVar)):Ent P:=
 ⟨no,.abs (Go.Lift.inl X fn.ntmps (Au fn) rs m),Ava Dp hT (hX▸KU es) m hf hc⟩
noncomputable def Ent.hand{P:Yw}{no:Yn}{S:Spec}(h:SpecOkB P no S)(hs:S.outs=S.ins)(hc:(BT.hand S.ins&&(ST.bnd S.ins.length S.res&&BT.bnd S.ins.length S.ins))=Yp):Ent P:=
 ⟨no,.abs (Go.Lift.hand S hs),AgP h hs hc⟩
noncomputable def Ent.handf{P:Yw}{no:Yn}{S:Spec}(h:SpecOkB P no S)(hs:S.outs=S.ins)(hc:(BT.hand S.ins&&(ST.bnd S.ins.length S.res&&BT.bnd S.ins.length S.ins))=Yp):Ent P:=
 ⟨no,.abs (frzA (Go.Lift.hand S hs)),Avb (AgP h hs hc)⟩
end
end Go.Lift
