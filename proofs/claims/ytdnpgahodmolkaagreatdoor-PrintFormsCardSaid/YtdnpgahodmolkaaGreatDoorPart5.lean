/- Part5: LiftAb, LiftAc, LiftUc. -/
import Derived.Test.YtdnpgahodmolkaaGreatDoorPart4
set_option linter.unusedVariables false
set_option linter.unusedSectionVars false
set_option linter.unusedSimpArgs false
namespace Go.Lift
noncomputable section
def DD:List C->List Nat
 |[]=>[]
 |.ptr b _::r=>b::DD r
 |.row b _::r=>b::DD r
 |.fn _ caps::r=>caps++DD r
 |.mapv b::r=>b::DD r
 |.mat b _::r=>b::DD r
 |.mrow b _ _::r=>b::DD r
 |.sub b _ _ _::r=>b::DD r
 |.bself b::r=>b::DD r
 |.bfn _ b::r=>b::DD r
 |.trow b _ _::r=>b::DD r
 |.tptr b _ _ _ _::r=>b::DD r
 |_::r=>DD r
def y6:V->List Nat
 |.c x=>DD [x]
 |.agg cs=>DD cs
 |.eptr b _ _ _=>[b]
 |.mcell b _ _=>[b]
 |.mptr b _ _ _ _=>[b]
 |.arr b _ _ _=>[b]
 |_=>[]
def EH:List V->List Nat
 |[]=>[]
 |v::r=>y6 v++EH r
def DE(bl:Nat->Option Blk):Nat->List Nat->List Nat->List Nat
 |0,_,acc=>acc
 |_+1,[],acc=>acc
 |n+1,b::r,acc=>
  bif memB b acc then DE bl n r acc else
   match bl b with
   |some (.cells _ cs)=>DE bl n (DD cs++r) (acc++[b])
   |some _=>DE bl n r (acc++[b])
   |none=>DE bl n r acc
def Hi(bl:Nat->Option Blk):List Nat->List (Nat×Blk)
 |[]=>[]
 |b::r=>
  match bl b with
  |some B=>(b,B)::Hi bl r
  |none=>Hi bl r
def Jq:List V->Option (List (Bool×List C))
 |[]=>some []
 |.c x::r=>
  match Jq r with
  |some ts=>some ((false,[x])::ts)
  |none=>none
 |.agg cs::r=>
  match Jq r with
  |some ts=>some ((true,cs)::ts)
  |none=>none
 |_::_=>none
def tupV:List V->Option V
 |[v]=>some v
 |vs=>
  match Jq vs with
  |some ts=>some (.tup ts)
  |none=>none
def inlK{β:Type}(T:TypeId->Option TI)(rs:List RS)(ids new:List Nat)(kk:K β):Kx β:=λe σ=>
 match e with
 |.exit _=>none
 |_=>
  match DU T σ.tm σ.bl rs with
  |none=>none
  |some vs=>
   match tupV vs with
   |none=>none
   |some v=>bif E9 (wids σ.bl)&&(Gh (ids++new) (wids σ.bl)&&Gh (wids σ.bl) ids)then kk v (ids++new) σ.bl else none
def bL{β:Type}(X:Ctx)(n:Nat)(c:Code)(rs:List RS)(m:Nat)(bl:Nat->Option Blk)(nx:Nat)(args:List V)(kk:K β):Option β:=
 bif IU bl (Ax nx m)&&Nat.ble args.length n then
  exec {X with A:=some (DE bl 99 (EH args) []++Ax nx m)} n (λ_=>none) 1 c ⟨numV 0 args,Hi bl (DE bl 99 (EH args) []),nx⟩ (inlK X.T rs (DE bl 99 (EH args) []) (Ax nx m) kk)
 else none
@[reducible] def inl(X:Ctx)(n:Nat)(c:Code)(rs:List RS)(m:Nat):AbsF:=⟨λbl nx args kk=>bL X n c rs m bl nx args kk⟩
theorem O1{ids:List Nat}:∀{l:List Nat},Gh ids l=true->∀b∈l,b∈ids
 |[],_,b,h=>by simp at h
 |c::r,h,b,hb=>by
  obtain⟨h1,h2⟩:=andB h;rcases AH.1 hb with rfl|hb
  ·exact DA.1 h1
  ·exact O1 h2 b hb
theorem bM{ids:List Nat}:∀{l:List LogE},SO ids l=true->∀e∈l,∀b∈e.rd,b∈ids
 |[],_,e,h=>by simp at h
 |c::r,h,e,he=>by
  obtain⟨h1,h2⟩:=andB h;rcases AH.1 he with rfl|he
  ·exact O1 h1
  ·exact bM h2 e he
theorem TR{bl:Nat->Option Blk}:∀{l:List Nat}{i:Nat},look (Hi bl l) i=if i∈l then bl i else none
 |[],i=>by simp[Hi,Cn,Ch]
 |b::r,i=>by
  simp only[Hi];cases hb:bl b with
  |none=>
   simp only;rw[TR];by_cases h:i=b
   ·subst h;simp[hb]
   ·simp[h]
  |some B=>
   simp only[Cn,Ch];by_cases h:i=b
   ·subst h;simp[hb]
   ·rw[DR h,AT,TR];simp[h]
theorem bN:∀{l:List (Nat×Blk)}{i:Nat},i∉wids l->look l i=none
 |[],_,_=>rfl
 |(j,x)::r,i,h=>by simp only[wids,AH,not_or]at h;rw[Ch,DR h.1,AT,bN h.2]
theorem bO:∀{l:List (Nat×Blk)}{f:Nat->Option Blk}{i:Nat},(wids l).Nodup->updL f l i=if i∈wids l then look l i else f i
 |[],_,_,_=>by simp[wids,updL]
 |(j,x)::r,f,i,h=>by
  obtain⟨h1,h2⟩:=GS.1 (show(j::wids r).Nodup from h);simp only[updL];rw[bO h2];by_cases hi:i=j
  ·subst hi
   simp[h1,wids,Cn,Ch,upd]
  ·simp only[wids,AH,hi,false_or,Cn,Ch,DR hi,AT,upd,Bk]
theorem bP{E:Env}:∀{vs:List V}{us:List Value}{ts:List (Bool×List C)},VReps E vs us->Jq vs=some ts->TReps E ts us
 |[],us,ts,h,ht=>by simp only[Jq,Ac]at ht;subst ht;exact h
 |v::vs,us,ts,⟨u,us',e,h1,h2⟩,ht=>by
  cases v<;>simp only[Jq]at ht<;>first|(cases ht;done)|skip
  all_goals
   split at ht
   ·rename_i ts' hts
    simp only[Ac]at ht;subst ht;refine⟨u,us',e,?_,bP h2 hts⟩
    first|exact⟨[u],⟨u,[],rfl,h1,rfl⟩,by simp⟩|exact h1
   ·cases ht
theorem y7{E:Env}{vs:List V}{us:List Value}{v:V}(h:VReps E vs us)(ht:tupV vs=some v):VRep E v (DB us):=by
 unfold tupV at ht;split at ht
 ·simp only[Ac]at ht
  subst ht;obtain⟨u,us',e,h1,h2⟩:=h;have h2:us'=[]:=h2;subst h2 e;exact h1
 ·rename_i hne
  split at ht
  ·rename_i ts hts
   simp only[Ac]at ht;subst ht;refine⟨us,?_,bP h hts⟩;have hl:=VReps.length h
   match us,hl with
   |[],_=>rfl
   |[u],hl=>
    exfalso
    match vs,hl,hne with
    |[v],_,hne=>exact hne v rfl
   |u::u2::us,_=>rfl
  ·cases ht
theorem y8{P:Program}(hmx:P.follows .mixedOrders=true){X:Ctx}(hT:TOk P X.T)(hΓ:ΓOk P X.Γ){f:FuncId}{fn:Func}{c:Code}{rs:List RS}(m:Nat)(hf:P.funcs[f]?=some fn)(hc:((fn.name== "runtime.NumGoroutine"),fn.body,fn.results.toList)=(false,some c,rs.map RS.toVar)):AbsOk P f (inl X fn.ntmps c rs m):=by
 simp only[AN]at hc;obtain⟨hname,hb,hres⟩:=hc;refine⟨⟨fn,hf,hname,by rw[hb];rfl⟩,λbl nx args kk r hk=>?_⟩;simp only[bL]at hk;generalize hids:DE bl 99 (EH args) []=ids at hk;generalize hnew:Ax nx m=new at hk;cases hfree:(IU bl new&&Nat.ble args.length fn.ntmps)with
 |false=>rw[hfree]at hk;cases hk
 |true=>
  rw[hfree,Af]at hk;obtain⟨hfree,hlen⟩:=andB hfree;have hfree:=Tr hfree;have hlen:=D6 hlen
  obtain⟨e',σ',hk,hw⟩:=TE (R:=aQ) (fr:=λF:{F:Nat->Option Blk // ∀b∈ids++new,F b=none}=>frF (ids++new) F.1 F.2) hmx (X:={X with A:=some (ids++new)})
   (λlog hl e he b hb i=>bM hl e he b hb) hT hΓ (λ_ _ h=>by cases h) hk
  have hk':(e'=.normal\/e'=.ret)/\∃vs v,DU X.T σ'.tm σ'.bl rs=some vs/\tupV vs=some v/\(wids σ'.bl).Nodup/\(∀b∈wids σ'.bl,b∈ids++new)/\(∀b∈ids,b∈wids σ'.bl)/\kk v (ids++new) σ'.bl=some r:=by
   have go:(match DU X.T σ'.tm σ'.bl rs with
     |none=>none
     |some vs=>
      match tupV vs with
      |none=>none
      |some v=>bif E9 (wids σ'.bl)&&(Gh (ids++new) (wids σ'.bl)&&Gh (wids σ'.bl) ids)then kk v (ids++new) σ'.bl else none)=some r->
     ∃vs v,DU X.T σ'.tm σ'.bl rs=some vs/\tupV vs=some v/\(wids σ'.bl).Nodup/\(∀b∈wids σ'.bl,b∈ids++new)/\(∀b∈ids,b∈wids σ'.bl)/\kk v (ids++new) σ'.bl=some r:=by
    intro h;split at h
    ·cases h
    rename_i vs hvs;split at h
    ·cases h
    rename_i v hv;cases hcc:(E9 (wids σ'.bl)&&(Gh (ids++new) (wids σ'.bl)&&Gh (wids σ'.bl) ids))with
    |false=>rw[hcc]at h;cases h
    |true=>rw[hcc,Af]at h;obtain⟨c1,c2⟩:=andB hcc;obtain⟨c2,c3⟩:=andB c2;exact⟨vs,v,hvs,hv,Ji c1,O1 c2,O1 c3,h⟩
   cases e' with
   |normal=>exact⟨.inl rfl,go hk⟩
   |ret=>exact⟨.inr rfl,go hk⟩
   |exit id=>cases hk
  obtain⟨he',vs,v,hvs,hv,hnd,hsub,hsup,hk⟩:=hk';refine⟨v,ids++new,σ'.bl,hk,λbl2 hb2 ok0 base pl w us hr hus=>?_⟩
  let F:Nat->Option Blk:=λi=>if i∈ids++new then none else bl2 i
  have hF:∀b∈ids++new,F b=none:=λb hb=>if_pos hb
  have hov:ov F (look (Hi bl ids))=bl2:=by
   funext i;simp only[ov,TR];by_cases hi:i∈ids
   ·rw[if_pos hi]
    have h2:=hb2 i (BG _ hi);cases hbi:bl i with
    |some B=>simp only;rw[h2,hbi]
    |none=>simp only[F,if_pos (BG new hi)];rw[h2,hbi]
   ·rw[if_neg hi]
    simp only[F];by_cases hn:i∈ids++new
    ·rw[if_pos hn]
     have hn':i∈new:=(Ba.1 hn).resolve_left hi;rw[hb2 i hn,hfree i hn']
    ·rw[if_neg hn]
  have hov':ov F (look σ'.bl)=updL bl2 σ'.bl:=by
   funext i;rw[bO hnd];simp only[ov];by_cases hi:i∈wids σ'.bl
   ·rw[if_pos hi]
    have:∀{l:List (Nat×Blk)},i∈wids l->∃B,look l i=some B:=by
     intro l
     induction l with
     |nil=>intro h;simp[wids]at h
     |cons p l ih=>
      intro h;rw[show look (p::l) i=bif Nat.beq i p.1 then some p.2 else look l i from Ch p.1 p.2 l i];by_cases hp:i=p.1
      ·rw[hp,GY];exact⟨p.2,rfl⟩
      ·rw[DR hp,AT]
       exact ih (by simpa [wids,hp]using h)
    obtain⟨B,hB⟩:=this hi;rw[hB]
   ·rw[if_neg hi,bN hi]
    simp only[F];by_cases hn:i∈ids++new
    ·rw[if_pos hn]
     have hn':i∈new:=(Ba.1 hn).resolve_left λh=>hi (hsup i h);rw[hb2 i hn,hfree i hn']
    ·rw[if_neg hn]
  have hlen':us.length<=fn.ntmps:=by rw[VReps.length hus];exact hlen
  refine calls_of_wp hf hb ?_
  have hstart:Rel fn.ntmps ok0 base pl (look (numV 0 args)) (ov F (look (Hi bl ids))) {tmps:=us.toArray++Array.replicate (fn.ntmps-us.toArray.size) undef,defers:=[]} w:=by rw[hov];refine⟨rfl,by simp;omega,λt v ht=>?_,hr⟩;obtain⟨_,u,h1,h2⟩:=VReps.get hus ht;simp only[Nat.sub_zero]at h1;rw[Co,N3 (by simpa using(BI.1 h1).1),N5,h1];exact h2
  refine Cq (hw ⟨F,hF⟩ ok0 base pl _ w hstart) λe a' w' ⟨he,pl',hr',hs'⟩=>?_;simp only[hov,hov']at hr' hs';obtain⟨vals,hrun,hreps⟩:=TP hT hres hvs (blw:=updL bl2 σ'.bl) (λb B h=>by rw[<-hov'];simp only[ov,h]) hr'
  have hpost:a'.defers=[]/\∃u,(results fn a'.tmps).run P w'=.ok u w'/\(∃u' pl',Ending.returned u=.returned u'/\RelB ok0 base pl' (updL bl2 σ'.bl) w'/\Step pl bl2 w pl' (updL bl2 σ'.bl) w'/\VRep (Ae ok0 base pl' (updL bl2 σ'.bl) w') v u'):=
   ⟨hr'.defers,_,hrun,DB vals,pl',rfl,hr'.rel,hs',y7 hreps hv⟩
  rcases he' with e1|e1<;>rw[e1]at he<;>subst he<;>exact hpost
end
end Go.Lift
namespace Go.Lift
noncomputable section
def EI(R:List Nat)(bl:Nat->Option Blk):Nat->Option Blk:=λi=>bif memB i R then bl i else none
def Hj:Option Blk->Nat×Nat
 |some (.row _ _ ver _)=>(ver+1,0)
 |some (.tree _ _ ver iver _ _)=>(ver+1,iver)
 |_=>(0,0)
def bQ(f:Nat->Nat×Nat):C->C
 |.row b ver=>.row b (ver+(f b).1)
 |.trow b ver p=>.trow b (ver+tv (f b).1 (f b).2 p) p
 |.tptr b ver p i o=>.tptr b (ver+tv (f b).1 (f b).2 p) p i o
 |c=>c
def O2(f:Nat->Nat×Nat):List C->List C
 |[]=>[]
 |c::r=>bQ f c::O2 f r
def Gs(f:Nat->Nat×Nat)(n:Nat×Nat):Blk->Blk
 |.cells t cs=>.cells t (O2 f cs)
 |.row t e ver l=>.row t e (ver+n.1) l
 |.tree t e ver iver h l=>.tree t e (ver+n.1) (iver+n.2) h l
 |B=>B
def TS(f:Nat->Nat×Nat):List (Bool×List C)->List (Bool×List C)
 |[]=>[]
 |t::r=>(t.1,O2 f t.2)::TS f r
def FE(f:Nat->Nat×Nat):List Nat->List Blk->List Blk
 |i::is,B::bs=>Gs f (f i) B::FE f is bs
 |_,_=>[]
def O3(bl:Nat->Option Blk)(R:List Nat):List Nat->Bool
 |[]=>true
 |i::r=>(memB i R||(bl i).isNone)&&O3 bl R r
def BT.hand:List BT->Bool
 |[]=>true
 |.mat _ _ _::_=>false
 |_::r=>BT.hand r
def bR(ps:List (Bool×List CT))(is:List BT)(bl:Nat->Option Blk)(nx:Nat)(args:List V):Option (List Nat×(ST.dens ps×BT.dens is)):=
 match idsB bl nx is 0 (K7 ps args)with
 |none=>none
 |some ids=>
  match Do bl ids ps args with
  |none=>none
  |some x=>
   match Bz bl ids is ids with
   |none=>none
   |some y=>bif E9 ids&&!meet (CD ps args++Ci bl is ids) ids then some (ids,(x,y))else none
def Lb(R ids:List Nat)(bl:Nat->Option Blk):Nat->Nat×Nat:=λb=>bif memB b ids then Hj (EI R bl b)else(0,0)
def bS{α:Type}:List α->Bool
 |[]=>true
 |_::_=>false
def bT{β:Type}(ps rs:List (Bool×List CT))(is:List BT)(run:ST.dens ps×BT.dens is->(ST.dens rs×BT.dens is->Option β)->Option β)(bl:Nat->Option Blk)(nx:Nat)(args:List V)(kk:K β):Option β:=
 match bR ps is (EI (DE bl 99 (EH args) []) bl) nx args with
 |none=>none
 |some (ids,d)=>
  bif O3 bl (DE bl 99 (EH args) []) ids&&((ST.flat rs&&BT.flat is)||bS (CD ps args++Ci (EI (DE bl 99 (EH args) []) bl) is ids))then
   run d λz=>kk (resV (TS (Lb (DE bl 99 (EH args) []) ids bl) (mkS ids rs z.1))) (DE bl 99 (EH args) []++ids)
    (ids.zip (FE (Lb (DE bl 99 (EH args) []) ids bl) ids (mkB ids is z.2)))
  else none
@[reducible] def hand(S:Spec)(hs:S.outs=S.ins):AbsF:=⟨λ{β} bl nx args kk=>bT (β:=β) S.params S.res S.ins (λd k=>S.run d (hs▸k)) bl nx args kk⟩
structure Bump (f:Nat->Nat×Nat) (E E':Env):Prop where
 w:E'.w=E.w
 ok:E'.ok=E.ok
 base:E'.base=E.base
 pl:E'.pl=E.pl
 row:∀b t e ver' l,E'.bl b=some (.row t e ver' l)->∃ver,E.bl b=some (.row t e ver l)/\ver'=ver+(f b).1
 tree:∀b t e ver' iver' h l,E'.bl b=some (.tree t e ver' iver' h l)->∃ver iver,E.bl b=some (.tree t e ver iver h l)/\ver'=ver+(f b).1/\iver'=iver+(f b).2
 mat:∀b t et e ver iver h l,E'.bl b=some (.mat t et e ver iver h l)->E.bl b=some (.mat t et e ver iver h l)
theorem bU(a b n m:Nat)(p:Path):tv (a+n) (b+m) p=tv a b p+tv n m p:=by cases p<;>simp only[tv]<;>omega
section
variable{f:Nat->Nat×Nat}{E E':Env}
theorem CRep.bump(hb:Bump f E E'):∀{c:C}{v:Value},CRep E c v->CRep E' (bQ f c) v
 |.bool _,_,h=>h
 |.int _ _,_,h=>h
 |.str _,_,h=>h
 |.err _,_,h=>h
 |.list e l,v,h=>by show DRep E'.w E'.ok _ _ _;rw[hb.w,hb.ok];exact h
 |.nils,_,h=>h
 |.nilc,_,h=>h
 |.lsome e l,v,h=>by show DRep E'.w E'.ok _ _ _/\_;rw[hb.w,hb.ok];exact h
 |.nilp,_,h=>h
 |.ptr b o,v,h=>by show ∃g,E'.pl b=_/\_;rw[hb.pl];exact h
 |.row b ver,v,⟨h1,sv,svs,h2,h3⟩=>⟨h1,sv,svs,by rw[hb.pl];exact h2,λt e ver' l h=>by obtain⟨ver0,h4,h5⟩:=hb.row b t e ver' l h;obtain⟨h6,h7⟩:=h3 t e ver0 l h4;exact⟨by omega,λh8=>h7 (by omega)⟩⟩
 |.fn g caps,v,h=>by show ∃gs:List Nat,caps.map E'.pl=_/\_;rw[hb.pl];exact h
 |.nilfn,_,h=>h
 |.mapv b,v,h=>by show ∃g,E'.pl b=_/\_;rw[hb.pl];exact h
 |.mat b ver,v,⟨h1,sv,svs,h2,h3⟩=>⟨h1,sv,svs,by rw[hb.pl];exact h2,λt et e ver' iver h l hh=>h3 t et e ver' iver h l (hb.mat b _ _ _ _ _ _ _ hh)⟩
 |.mrow b iver i,v,⟨h1,sv,svs,h2,h3⟩=>⟨h1,sv,svs,by rw[hb.pl];exact h2,λt et e ver' iver h l hh=>h3 t et e ver' iver h l (hb.mat b _ _ _ _ _ _ _ hh)⟩
 |.sub b ver i j,v,⟨h1,sv,svs,h2,h3⟩=>⟨h1,sv,svs,by rw[hb.pl];exact h2,λt e ver' l h=>by obtain⟨ver0,h4,h5⟩:=hb.row b t e ver' l h;obtain⟨h6,h7⟩:=h3 t e ver0 l h4;exact⟨by omega,λh8=>h7 (by omega)⟩⟩
 |.bself b,v,h=>by show _\/∃g,E'.pl b=_/\_;rw[hb.pl];exact h
 |.trow b ver p,v,⟨h1,sv,svs,h2,h3⟩=>⟨h1,sv,svs,by rw[hb.pl];exact h2,λt e ver' iver h l hh=>by obtain⟨ver0,iver0,h4,h5,h8⟩:=hb.tree b t e ver' iver h l hh;obtain⟨h6,h7⟩:=h3 t e ver0 iver0 h l h4;rw[h5,h8,bU];exact⟨by omega,λh8=>h7 (by omega)⟩⟩
 |.bfn g b,v,h=>by show ∃g,E'.pl b=_/\_;rw[hb.pl];exact h
 |.tptr b ver p i o,v,⟨sv,svs,ad,h2,hv,h3⟩=>⟨sv,svs,ad,by rw[hb.pl];exact h2,hv,λt e ver' iver h l hh=>by obtain⟨ver0,iver0,h4,h5,h8⟩:=hb.tree b t e ver' iver h l hh;obtain⟨h6,h7⟩:=h3 t e ver0 iver0 h l h4;rw[h5,h8,bU];exact⟨by omega,λh8=>h7 (by omega)⟩⟩
 |.junk,_,h=>h
theorem CReps.bump(hb:Bump f E E'):∀{cs:List C}{vs:List Value},CReps E cs vs->CReps E' (O2 f cs) vs
 |[],_,h=>h
 |_::_,_,⟨v,vs',e,h1,h2⟩=>⟨v,vs',e,h1.bump hb,CReps.bump hb h2⟩
theorem TReps.bump(hb:Bump f E E'):∀{ts:List (Bool×List C)}{vs:List Value},TReps E ts vs->TReps E' (TS f ts) vs
 |[],_,h=>h
 |_::_,_,⟨v,vs',e,⟨xs,h1,h2⟩,h3⟩=>⟨v,vs',e,⟨xs,h1.bump hb,h2⟩,TReps.bump hb h3⟩
theorem FRep.bump(hb:Bump f E E'):∀{l:List (List UInt8×(FuncId×Nat))}{es:List MapEntry},FRep E l es->FRep E' l es
 |[],_,h=>h
 |_::_,_,⟨e,r,g,h1,h2,h3,h4,h5⟩=>⟨e,r,g,h1,h2,by rw[hb.pl];exact h3,h4,FRep.bump hb h5⟩
theorem BRep.bump(hb:Bump f E E')(n:Nat×Nat){B:Blk}{p:Pl}(h:BRep E B p):BRep E' (Gs f n B) p:=by
 cases B with
 |dead=>exact trivial
 |cells t cs=>
  cases p with
  |row _ _=>exact h.elim
  |cells g=>obtain⟨vs,h1,h2⟩:=h;exact⟨vs,by rw[hb.w];exact h1,h2.bump hb⟩
 |map t k v vg l=>
  cases p with
  |row _ _=>exact h.elim
  |cells g=>obtain⟨es,clock,h1,h2⟩:=h;exact⟨es,clock,by rw[hb.w];exact h1,by rw[hb.w,hb.ok];exact h2⟩
 |fmap t l=>
  cases p with
  |row _ _=>exact h.elim
  |cells g=>obtain⟨es,clock,h1,h2⟩:=h;exact⟨es,clock,by rw[hb.w];exact h1,h2.bump hb⟩
 |row t e ver l=>
  cases p with
  |cells _=>exact h.elim
  |row sv svs=>obtain⟨h0,xs,h1,h2⟩:=h;exact⟨h0,xs,by rw[hb.w,hb.ok];exact h1,by rw[hb.w,hb.base];exact h2⟩
 |mat t et e ver iver hole l=>
  cases p with
  |cells _=>exact h.elim
  |row sv svs=>have hM:MatOk E t et e hole l sv svs:=h;obtain⟨vs,h1,h2⟩:=hM.outer;refine⟨⟨vs,by rw[hb.w,hb.base];exact h1,h2⟩,hM.len,hM.hole,λi s x hs hx=>?_,hM.sep0,hM.sep⟩;obtain⟨xs,h5,h6⟩:=hM.inner i s x hs hx;exact⟨xs,by rw[hb.w,hb.ok];exact h5,by rw[hb.w,hb.base];exact h6⟩
 |tree t e ver iver hole l=>
  cases p with
  |cells _=>exact h.elim
  |row sv svs=>have hT:TreeOk E t e hole l sv svs:=h;obtain⟨hv,F,h1,h2,h3⟩:=hT.rep;exact⟨⟨hv,F,by rw[hb.w,hb.ok,hb.base];exact h1,h2,h3⟩,hT.top⟩
end
theorem bV{f:Nat->Nat×Nat}:∀{ids:List Nat}{Bs:List Blk},ids.length=Bs.length->(FE f ids Bs).length=Bs.length
 |[],[],_=>rfl
 |_::is,_::bs,h=>by simp only[FE,Aw];rw[bV (by simpa using h)]
theorem bW{f:Nat->Nat×Nat}:∀{ids:List Nat}{Bs:List Blk}{j i:Nat},ids[j]?=some i->(FE f ids Bs)[j]?=(Bs[j]?).map (Gs f (f i))
 |[],_,j,i,h=>by simp at h
 |_::_,[],j,i,_=>by simp[FE]
 |k::is,B::bs,0,i,h=>by simp only[BJ,Ac]at h;subst h;rfl
 |k::is,B::bs,j+1,i,h=>by simp only[FE,BV]at h⊢;exact bW h
theorem bX{bl:Nat->Option Blk}{R:List Nat}:∀{ids:List Nat},O3 bl R ids=true->∀i∈ids,i∈R\/bl i=none
 |[],_,i,h=>by simp at h
 |j::r,h,i,hi=>by
  obtain⟨h1,h2⟩:=andB h;rcases AH.1 hi with rfl|hi
  ·simp only[GR,Option.isNone_iff_eq_none]at h1
   exact h1.imp (λh=>DA.1 h) id
  ·exact bX h2 i hi
theorem bY{bl:Nat->Option Blk}{ids ids2:List Nat}{f:Nat->Nat×Nat}:∀{is:List BT}{js:List Nat}{y y2:BT.dens is},BT.hand is=true->Bz bl ids is js=some y->∀(j i:Nat)(B B':Blk),js[j]?=some i->bl i=some B->(mkB ids2 is y2)[j]?=some B'->∀sv svs sv' svs',KeepR (some B) (some (Gs f (Hj (some B)) B')) sv svs sv' svs'
 |[],js,y,y2,_,_,j,i,B,B',_,_,h=>by simp[mkB]at h
 |t::is,[],y,y2,_,h,j,i,B,B',hj,_,_=>by simp at hj
 |t::is,k::js,y,y2,hh,h,0,i,B,B',hj,hB,hm=>by
  obtain⟨⟨_,_,_,_,hs⟩,_⟩:=TJ ids2 h;simp only[BJ,Ac]at hj;subst hj;rw[hB]at hs;intro sv svs sv' svs';cases t with
  |mat t et e=>cases hh
  |row t e=>
   simp only[mkB,BJ,Ac]at hm;subst hm;rcases hs with hs|⟨ver,l,hs⟩
   ·cases hs
   ·injection hs with hs
    subst hs;exact KeepR.ofRow ⟨by simp only[Hj];omega,λh=>absurd h (by simp only[Hj];omega)⟩
  |tree t e=>
   simp only[mkB,BJ,Ac]at hm;subst hm;rcases hs with hs|⟨ver,iver,l,hs,_⟩
   ·cases hs
   ·injection hs with hs
    subst hs;exact KeepR.ofTree ⟨by simp only[Hj];omega,by simp only[Hj];omega,λh=>absurd h (by simp only[Hj];omega)⟩
  |cells t l=>simp only[mkB,BJ,Ac]at hm;subst hm;exact⟨(λ_ _ _ _ h=>by cases h),(λ_ _ _ _ _ _ _ h=>by cases h),λ_ _ _ _ _ _ h=>by cases h⟩
  |map t k v vg=>simp only[mkB,BJ,Ac]at hm;subst hm;exact⟨(λ_ _ _ _ h=>by cases h),(λ_ _ _ _ _ _ _ h=>by cases h),λ_ _ _ _ _ _ h=>by cases h⟩
  |fmap t l=>simp only[mkB,BJ,Ac]at hm;subst hm;exact⟨(λ_ _ _ _ h=>by cases h),(λ_ _ _ _ _ _ _ h=>by cases h),λ_ _ _ _ _ _ h=>by cases h⟩
 |t::is,k::js,y,y2,hh,h,j+1,i,B,B',hj,hB,hm=>by
  obtain⟨⟨z,hz,_,_,_⟩,_⟩:=TJ ids2 h;have hh':BT.hand is=true:=by cases t<;>first|exact hh|cases hh
  have hj':js[j]?=some i:=by simpa using hj
  cases t<;>simp only[mkB,BV]at hm<;>exact bY hh' hz j i B B' hj' hB hm
theorem bZ{P:Program}{f:FuncId}{S:Spec}(h:SpecOkB P f S)(hs:S.outs=S.ins)(hc:(BT.hand S.ins&&(ST.bnd S.ins.length S.res&&BT.bnd S.ins.length S.ins))=true):AbsOk P f (hand S hs):=by
 obtain⟨ps,is0,rs,is,run⟩:=S;simp only at hs hc;subst hs;obtain⟨k1,hc⟩:=andB hc;obtain⟨k4,k5⟩:=andB hc;refine⟨h.fn,λbl nx args kk r hk=>?_⟩;simp only[bT]at hk;generalize hR:DE bl 99 (EH args) []=R at hk;split at hk
 ·cases hk
 rename_i ids0 d hv;cases hok0:(O3 bl R ids0&&((ST.flat rs&&BT.flat is)||bS (CD ps args++Ci (EI R bl) is ids0)))with
 |false=>rw[hok0]at hk;cases hk
 |true=>
  rw[hok0,Af]at hk;obtain⟨hok,hfn⟩:=andB hok0;have hok:=bX hok
  have hfn:(ST.flat rs&&BT.flat is)=true\/CD ps args++Ci (EI R bl) is ids0=[]:=by
   cases hq:(ST.flat rs&&BT.flat is)with
   |true=>exact .inl rfl
   |false=>
    rw[hq,HC]at hfn;refine .inr ?_;generalize CD ps args++Ci (EI R bl) is ids0=q at hfn;cases q with
    |nil=>rfl
    |cons _ _=>cases hfn
  generalize hf:Lb R ids0 bl=fb at hk;obtain⟨z,hz,hcall⟩:=h.ok d _ r hk;refine⟨_,_,_,hz,λbl2 hb2 ok0 base pl w us hr hus=>?_⟩
  have hagR:EI R bl=EI R bl2:=by
   funext i;simp only[EI];cases hm:memB i R with
   |false=>rfl
   |true=>rw[Af,Af,hb2 i (BG _ (DA.1 hm))]
  have hidsB:∀i∈ids0,bl2 i=bl i:=λi hi=>hb2 i (BM _ hi);generalize hblR:EI R bl2=blR at*;rw[hagR]at hv hfn;unfold bR at hv;split at hv
  ·cases hv
  rename_i ids _;split at hv
  ·cases hv
  rename_i x hx;split at hv
  ·cases hv
  rename_i y hy;cases hcc:(E9 ids&&!meet (CD ps args++Ci blR is ids) ids)with
  |false=>rw[hcc]at hv;cases hv
  |true=>
   rw[hcc,Af,Ac,AN]at hv;obtain⟨rfl,rfl⟩:=hv;obtain⟨c3,c4⟩:=andB hcc;have c3:=Ji c3;simp only[IK]at c4;have c4:=Ox.1 c4
   have hsub:∀i B,blR i=some B->bl2 i=some B:=λi B hB=>by
    rw[<-hblR]at hB;simp only[EI]at hB;cases hm:memB i R with
    |false=>rw[hm]at hB;cases hB
    |true=>rw[hm]at hB;exact hB
   have hfree:∀i∈ids,blR i=none->bl2 i=none:=λi hi hn=>by
    rcases hok i hi with h|h
    ·rw[<-hblR]at hn
     simp only[EI,DA.2 h,Af]at hn;exact hn
    ·rw[hidsB i hi];exact h
   have hsome:∀i∈ids,∀B,bl2 i=some B->blR i=some B:=λi hi B hB=>by
    cases hn:blR i with
    |none=>rw[hfree i hi hn]at hB;cases hB
    |some B'=>rw[hsub i B' hn]at hB;exact hB
   let ER:Env:=envR ok0 base pl bl2 blR w
   have hext:Ext (Ae ok0 base pl bl2 w) ER:=⟨Ao _,λg h _=>⟨h,rfl⟩,λ_ _ h=>h,λb sv svs h=>⟨sv,svs,h,KeepR.of_eq (λC hC=>hsub b C hC) _ _⟩⟩
   have hargs:VReps ER args us:=by
    have:∀{vs:List V}{us:List Value},VReps (Ae ok0 base pl bl2 w) vs us->VReps ER vs us:=by
     intro vs
     induction vs with
     |nil=>intro us h;exact h
     |cons v vs ih=>intro us ⟨u,us',e,h1,h2⟩;exact⟨u,us',e,VRep.mono hext h1,ih h2⟩
    exact this hus
   let n:=is.length
   let plv:Nat->Option Pl:=λb=>(ids[b]?).map (plOf ER)
   let blv:Nat->Option Blk:=fnBl (mkB (Ax 0 is.length) is y)
   let N:Nat->Prop:=λg=>(ST.flat rs&&BT.flat is)=false/\g<w.heap.size/\Own pl bl2 g/\¬Own plv blv g
   let ok1:OK0 P:=⟨λg=>ok0 g/\¬N g,λg=>ok0.no g\/N g⟩
   have hk2:CD ps args++Ci blR is ids=[]\/ok1=ok0:=by
    rcases hfn with h|h
    ·refine .inr ?_
     have hN:∀g,¬N g:=λg hN=>by have h1:=hN.1;rw[h]at h1;cases h1
     have e1:ok1.f=ok0.f:=by funext g;exact propext ⟨λq=>q.1,λq=>⟨q,hN g⟩⟩
     have e2:ok1.no=ok0.no:=by funext g;exact propext ⟨λq=>q.resolve_right (hN g),.inl⟩
     obtain⟨f0,n0⟩:=ok0;exact congr (Aj OK0.mk e1) e2
    ·exact .inl h
   obtain⟨hrel,hT,hlen,hlive,hown⟩:=aZ (ok1:=ok1) hr hsub hfree hx hy c3 c4 hargs
    (λg h1 h2=>h1.imp (λh=>⟨h,λhN=>h2 hN.2.2.1⟩) λh=>⟨h.1,λhn=>hn.elim h.2 λhN=>h2 hN.2.2.1⟩)
    hk2
    (λg hn=>hn.elim (λh=>⟨(hr.glob.no g h).1,λho=>(hr.glob.no g h).2 (aY hr hsub hy ho)⟩) λhN=>⟨hN.2.1,hN.2.2.2⟩) (λg hn=>hn.imp id λhN=>.inl hN.2.2.1)
   have hplv:∀b i B,ids[b]?=some i->bl2 i=some B->plv b=pl i:=λb i B hb hB=>by obtain⟨p,hp,_⟩:=hr.blks i B hB;have:=hsome i (B6 hb) B hB;simp[plv,hb,plOf,ER,envR,this,hp]
   have hownv:∀g,Own plv blv g->Own pl bl2 g:=λg h=>by obtain⟨i,B,p,_,h1,h2,h3,h4⟩:=hown g h;exact⟨i,B,p,hsub i B h1,h2,h3,h4⟩
   refine(hcall ok1 base plv w us hr.baseLe hrel hT).mono λe w' hpost=>?_;obtain⟨vals,pl',rfl,hRo,hS,hTo⟩:=hpost
   let blo:Nat->Option Blk:=fnBl (mkB (Ax 0 is.length) is z.2)
   let Eo:Env:=Ae ok1 base pl' blo w'
   let pl3:Nat->Option Pl:=λi=>match place ids i with|some b=>pl' b|none=>pl i
   have hbl:∀i,updL bl2 (ids.zip (FE fb ids (mkB ids is z.2))) i=match place ids i with|some b=>(FE fb ids (mkB ids is z.2))[b]?|none=>bl2 i:=
    λi=>ZS i c3 (by rw[bV (by rw[CU];exact hlen),CU];exact hlen)
   generalize hbl3:updL bl2 (ids.zip (FE fb ids (mkB ids is z.2)))=bl3 at*;have hpl3n:∀i,place ids i=none->pl3 i=pl i:=λi h=>by simp only[pl3,h]
   have hpl3s:∀i b,place ids i=some b->pl3 i=pl' b:=λi b h=>by simp only[pl3,h]
   have hbl3n:∀i,place ids i=none->bl3 i=bl2 i:=λi h=>by rw[hbl,h]
   have hbl3s:∀i b,place ids i=some b->bl3 i=((mkB ids is z.2)[b]?).map (Gs fb (fb i)):=λi b h=>by rw[hbl,h];exact bW (Dr h)
   have hplb:∀i b,place ids i=some b->b<is.length:=λi b h=>by rw[<-hlen];exact(BI.1 (Dr h)).1
   have hblo:∀b,b<is.length->∃B,blo b=some B/\B.live=true:=λb hb=>by
    have hb':b<(mkB (Ax 0 is.length) is z.2).length:=by rw[CU];exact hb
    exact⟨_,Bx hb',Hh (Bx hb')⟩
   have hown2:∀g,Own pl3 bl3 g->(Own pl bl2 g/\∃i B p,place ids i=none/\bl2 i=some B/\B.live=true/\pl i=some p/\p.has g)\/Own pl' blo g:=by
    rintro g ⟨i,B,p,hB,hl,hp,hg⟩;cases hpi:place ids i with
    |none=>rw[hbl3n i hpi]at hB;rw[hpl3n i hpi]at hp;exact .inl ⟨⟨i,B,p,hB,hl,hp,hg⟩,i,B,p,hpi,hB,hl,hp,hg⟩
    |some b=>rw[hpl3s i b hpi]at hp;obtain⟨B',hB',hl'⟩:=hblo b (hplb i b hpi);exact .inr ⟨b,B',p,hB',hl',hp,hg⟩
   have hkept:∀i B p g,place ids i=none->bl2 i=some B->B.live=true->pl i=some p->p.has g->w'.heap[g]?=w.heap[g]?/\¬Own pl' blo g:=by
    intro i B p g hpi hB hl hp hg;have hlt:g<w.heap.size:=Own.lt hr ⟨i,B,p,hB,hl,hp,hg⟩;refine hS.out g hlt λho=>?_;obtain⟨j,C,q,hj,hC,hlC,hq,hqg⟩:=hown g ho
    have hne:i≠j:=by rintro rfl;obtain⟨b,hb⟩:=N6 hj;rw[Ff c3 hb]at hpi;cases hpi
    exact hr.sep i j _ _ _ _ g hne hB (hsub j C hC) hl hlC hp hq hg hqg
   have hstep:Step pl bl2 w pl3 bl3 w':=by
    refine⟨hS.os,hS.tape,hS.output,hS.size,λg hlt ho=>?_,λb g hb=>?_,λb sv svs hb=>?_⟩
    ·obtain⟨h1,h2⟩:=hS.out g hlt λh=>ho (hownv g h)
     refine⟨h1,λh=>?_⟩;rcases hown2 g h with h|h
     ·exact ho h.1
     ·exact h2 h
    ·cases hpi:place ids b with
     |none=>rw[hpl3n b hpi];exact hb
     |some j=>
      rw[hpl3s b j hpi];cases hB:bl2 b with
      |none=>rw[hr.fresh b hB]at hb;cases hb
      |some B=>exact hS.cells j g (hplb b j hpi) (by rw[hplv j b B (Dr hpi) hB];exact hb)
    ·cases hpi:place ids b with
     |none=>exact⟨sv,svs,by rw[hpl3n b hpi];exact hb,KeepR.of_eq (λC h=>by rw[hbl3n b hpi]at h;exact h) _ _⟩
     |some j=>
      cases hB:bl2 b with
      |none=>rw[hr.fresh b hB]at hb;cases hb
      |some B=>
       obtain⟨sv',svs',h1⟩:=hS.rows j sv svs (hplb b j hpi) (by rw[hplv j b B (Dr hpi) hB];exact hb);refine⟨sv',svs',by rw[hpl3s b j hpi];exact h1,?_⟩;have hlt:j<(mkB ids is z.2).length:=by rw[CU];exact hplb b j hpi
       have hfb:fb b=Hj (some B):=by have hm:memB b ids=true:=DA.2 (B6 (Dr hpi));rw[<-hf];simp only[Lb,hm,Af];rw[hagR,hsome b (B6 (Dr hpi)) B hB]
       rw[hbl3s b j hpi,Bx hlt,Cl,hfb];exact bY k1 hy j b B _ (Dr hpi) (hsome b (B6 (Dr hpi)) B hB) (Bx hlt) _ _ _ _
   let blm:Nat->Option Blk:=λi=>match place ids i with|some b=>(mkB ids is z.2)[b]?|none=>bl2 i
   have hblmn:∀i,place ids i=none->blm i=bl2 i:=λi h=>by simp only[blm,h]
   have hblms:∀i b,place ids i=some b->blm i=(mkB ids is z.2)[b]?:=λi b h=>by simp only[blm,h]
   let Em:Env:={w:=w',ok:=(Ae ok0 base pl3 bl3 w').ok,base:=base,pl:=pl3,bl:=blm}
   have hbump:Bump fb Em (Ae ok0 base pl3 bl3 w'):=by
    have key:∀i B,bl3 i=some B->∃B0,blm i=some B0/\((B=B0/\place ids i=none)\/B=Gs fb (fb i) B0):=by
     intro i B hB;cases hpi:place ids i with
     |none=>rw[hbl3n i hpi]at hB;exact⟨B,by rw[hblmn i hpi];exact hB,.inl ⟨rfl,rfl⟩⟩
     |some b=>rw[hbl3s i b hpi]at hB;obtain⟨B0,h1,h2⟩:=Kl.1 hB;exact⟨B0,by rw[hblms i b hpi];exact h1,.inr h2.symm⟩
    have hz:∀i,place ids i=none->fb i=(0,0):=λi hi=>by
     have hm:memB i ids=false:=by
      cases hm:memB i ids with
      |false=>rfl
      |true=>obtain⟨b,hb⟩:=N6 (DA.1 hm);rw[Ff c3 hb]at hi;cases hi
     rw[<-hf];simp only[Lb,hm,AT]
    refine⟨rfl,rfl,rfl,rfl,λi t e ver l h=>?_,λi t e ver iver hh l h=>?_,λi t et e ver iver hh l h=>?_⟩
    ·obtain⟨B0,h1,h2⟩:=key i _ h
     rcases h2 with⟨h2,h3⟩|h2
     ·subst h2;exact⟨ver,h1,by rw[hz i h3];rfl⟩
     ·cases B0<;>simp only[Gs]at h2<;>first|(cases h2;done)|skip
      injection h2 with q1 q2 q3 q4;subst q1 q2 q3;exact⟨_,by rw[eq_of_heq q4];exact h1,rfl⟩
    ·obtain⟨B0,h1,h2⟩:=key i _ h
     rcases h2 with⟨h2,h3⟩|h2
     ·subst h2;exact⟨ver,iver,h1,by rw[hz i h3];rfl,by rw[hz i h3];rfl⟩
     ·cases B0<;>simp only[Gs]at h2<;>first|(cases h2;done)|skip
      injection h2 with q1 q2 q3 q4 q5 q6;subst q1 q2 q3 q4 q5;exact⟨_,_,by rw[eq_of_heq q6];exact h1,rfl,rfl⟩
    ·obtain⟨B0,h1,h2⟩:=key i _ h
     rcases h2 with⟨h2,h3⟩|h2
     ·subst h2;exact h1
     ·cases B0<;>simp only[Gs]at h2<;>first|(cases h2;done)|skip
      exact h2▸h1
   have hfl:(ST.flat rs&&BT.flat is)=false\/(ST.flat rs=true/\BT.flat is=true):=by
    cases hf:(ST.flat rs&&BT.flat is)with
    |false=>exact .inl rfl
    |true=>exact .inr (andB hf)
   have hdat:∀(τ:Ty)(x:τ.den)(us:List Value),((ST.flat rs&&BT.flat is)=false\/τ.flat=true)->DRep Eo.w Eo.ok τ x us->DRep Em.w Em.ok τ x us:=λτ x us hor hd=>by
    rcases hor with hq|hq
    ·refine hd.mono λg hg _=>⟨?_,rfl⟩
     obtain⟨h1,h2⟩:=hg;have hnN:¬N g:=h1.elim (λh=>h.2) λh hN=>h.2 (.inr hN);refine⟨h1.imp (λh=>h.1) λh=>⟨h.1,λhn=>h.2 (.inl hn)⟩,λho=>?_⟩;rcases hown2 g ho with⟨ho2,i,B,p,hpi,hB,hl,hp,hpg⟩|ho2
     ·refine hnN ⟨hq,Own.lt hr ho2,ho2,λhov=>?_⟩
      obtain⟨j,C,q,hj,hC,hlC,hq,hqg⟩:=hown g hov
      have hne:i≠j:=by rintro rfl;obtain⟨b,hb⟩:=N6 hj;rw[Ff c3 hb]at hpi;cases hpi
      exact hr.sep i j _ _ _ _ g hne hB (hsub j C hC) hl hlC hp hq hpg hqg
     ·exact h2 ho2
    ·exact hd.flat hq
   have hren2:Ren2 is.length Eo Em (Ax 0 is.length) ids:=by
    have key:∀b,b<is.length->pl3 (ids.getD b 0)=pl' b/\blm (ids.getD b 0)=(mkB ids is z.2)[b]?:=by
     intro b hb;have hb':b<ids.length:=by omega
     have hget:ids[b]?=some ids[b]:=Bx hb';have hgd:ids.getD b 0=ids[b]:=by simp[List.getD,hget]
     have hpb:=Ff c3 hget;rw[hgd];exact⟨hpl3s _ b hpb,hblms _ b hpb⟩
    refine⟨λb g hb h=>?_,λb sv svs hb h=>?_⟩
    ·rw[HY hb]at h
     show pl3 _=_;rw[(key b hb).1];exact h
    ·rw[HY hb]at h⊢
     refine⟨?_,λt e ver l h2=>?_,λt et e ver iver hole l h2=>?_,λt e ver iver hole l h2=>?_⟩
     ·show pl3 _=_
      rw[(key b hb).1];exact h
     ·have h3:blm (ids.getD b 0)=some (.row t e ver l):=h2
      rw[(key b hb).2]at h3;exact Hf h3
     ·have h3:blm (ids.getD b 0)=some (.mat t et e ver iver hole l):=h2
      rw[(key b hb).2]at h3;exact Hg h3
     ·have h3:blm (ids.getD b 0)=some (.tree t e ver iver hole l):=h2
      rw[(key b hb).2]at h3;exact Tx h3
   refine⟨DB vals,pl3,rfl,⟨BH hr.baseLe hS.size,λi B hB=>?_,λi j B C p q g hij hB hC hlB' hlC hp hq hpg=>?_,λi hi=>?_,hr.glob.out hstep.size hstep.out⟩,hstep,?_⟩
   ·cases hpi:place ids i with
    |none=>
     rw[hbl3n i hpi]at hB;obtain⟨p,hp,hBR⟩:=hr.blks i B hB;refine⟨p,by rw[hpl3n i hpi];exact hp,?_⟩;cases hl:B.live with
     |false=>cases B<;>first|exact trivial|simp[Blk.live]at hl
     |true=>exact BRep.mono hstep.ext hBR λg hg=>(hkept i B p g hpi hB hl hp hg).1
    |some b=>obtain⟨Bo,hBo,hlo⟩:=hblo b (hplb i b hpi);obtain⟨p,hp,hBR⟩:=hRo.blks b Bo hBo;obtain⟨B',h1,h2,_,_,_,_⟩:=He hren2 (Ao _) hdat rfl k5 (hfl.imp id (·.2)) hBo hBR;rw[hbl3s i b hpi,h1,Cl,Ac]at hB;subst hB;exact⟨p,by rw[hpl3s i b hpi];exact hp,h2.bump hbump (fb i)⟩
   ·cases hpi:place ids i with
    |none=>
     rw[hbl3n i hpi]at hB;rw[hpl3n i hpi]at hp;cases hpj:place ids j with
     |none=>rw[hbl3n j hpj]at hC;rw[hpl3n j hpj]at hq;exact hr.sep i j B C p q g hij hB hC hlB' hlC hp hq hpg
     |some b=>rw[hpl3s j b hpj]at hq;intro hqg;obtain⟨Bo,hBo,hlo⟩:=hblo b (hplb j b hpj);exact(hkept i B p g hpi hB hlB' hp hpg).2 ⟨b,Bo,q,hBo,hlo,hq,hqg⟩
    |some b=>
     rw[hpl3s i b hpi]at hp;obtain⟨Bo,hBo,hlo⟩:=hblo b (hplb i b hpi);cases hpj:place ids j with
     |none=>rw[hbl3n j hpj]at hC;rw[hpl3n j hpj]at hq;intro hqg;exact(hkept j C q g hpj hC hlC hq hqg).2 ⟨b,Bo,p,hBo,hlo,hp,hpg⟩
     |some b'=>
      rw[hpl3s j b' hpj]at hq;obtain⟨Bo',hBo',hlo'⟩:=hblo b' (hplb j b' hpj)
      have hbb:b≠b':=by rintro rfl;have h1:=Dr hpi;have h2:=Dr hpj;rw[h1]at h2;injection h2 with h2;exact hij h2
      exact hRo.sep b b' _ _ p q g hbb hBo hBo' hlo hlo' hp hq hpg
   ·cases hpi:place ids i with
    |none=>rw[hbl3n i hpi]at hi;rw[hpl3n i hpi];exact hr.fresh i hi
    |some b=>rw[hbl3s i b hpi]at hi;have:=hplb i b hpi;rw[Option.map_eq_none_iff,IF,CU]at hi;omega
   ·exact TReps.res ((Tv hren2 hdat k4 (hfl.imp id (·.1)) hTo).bump hbump)
@[reducible] def frzA(A:AbsF):AbsF:=⟨λ{_} bl nx args kk=>EE bl (Bl args) (λbl' kk'=>A.run bl' nx (args.map (frzV bl)) kk') kk⟩
theorem y9{P:Program}{f:FuncId}{A:AbsF}(h:AbsOk P f A):AbsOk P f (frzA A):=by
 refine⟨h.fn,λbl nx args kk r hk=>?_⟩
 have hk:A.run (updL bl (B9 bl (Bl args))) nx (args.map (frzV bl)) (λv rd wr=>kk v (Bl args++rd) (B9 bl (Bl args)++wr))=some r:=by rw[<-KW];exact hk
 obtain⟨v,rd,wr,hkk,hok⟩:=h.ok _ _ _ _ _ hk;refine⟨v,_,_,hkk,λbl2 hb2 ok0 base pl w us hr hus=>?_⟩;obtain⟨h1,h2,h3⟩:=freeze (bl:=bl) hr (Bl args) λb hb=>hb2 b (BG _ hb)
 have hrd:∀b∈rd,updL bl2 (B9 bl (Bl args)) b=updL bl (B9 bl (Bl args)) b:=λb hb=>by
  by_cases hm:b∈wids (B9 bl (Bl args))
  ·exact Jl hm
  ·rw[Ds hm,Ds hm]
   exact hb2 b (BM _ hb)
 have key:∀(vs:List V)(us:List Value),(∀v∈vs,v∈args)->VReps (Ae ok0 base pl bl2 w) vs us->VReps (Ae ok0 base pl (updL bl2 (B9 bl (Bl args))) w) (vs.map (frzV bl)) us:=by
  intro vs
  induction vs with
  |nil=>intro us _ h;exact h
  |cons v vs ih=>rintro us hm ⟨u,us',e,q1,q2⟩;exact⟨u,us',e,h3 v u (T7 (hm v (by simp))) q1,ih us' (λx hx=>hm x (by simp[hx])) q2⟩
 refine(hok _ hrd ok0 base pl w us h1 (key args us (λ_ h=>h) hus)).mono λe w' ⟨u,pl',q1,q2,q3,q4⟩=>?_;rw[Hd];exact⟨u,pl',q1,q2,h2.trans q3,q4⟩
end
end Go.Lift
namespace Go.Lift
noncomputable section
open Go.RowKit
universe u
class Sl where
 u:Nat
variable[S:Sl]
def hid{α:Sort u}(a:α):α:=match S.u with|0=>a|_+1=>a
theorem Ab{α:Sort u}(a:α):hid a=a:=by unfold hid;cases S.u<;>rfl
@[reducible] def CT.Fn(R:Type):List CT->Type
 |[]=>R
 |.data τ::r=>τ.den->CT.Fn R r
 |.lsome e::r=>List e.den->CT.Fn R r
 |.tptrh _ ks _::r=>WayT ks->CT.Fn R r
 |.ptr _ _::r|.rowh _::r|.fn _ _::r|.maph _::r|.math _::r|.bself _::r|.bfnh _ _::r|.trowh _::r|.nilc::r|.nils::r|.junk::r=>CT.Fn R r
@[reducible] def ST.Fn(R:Type):List (Bool×List CT)->Type
 |[]=>R
 |t::r=>CT.Fn (ST.Fn R r) t.2
@[reducible] def BT.Fn(R:Type):List BT->Type
 |[]=>R
 |.cells _ l::r=>CT.Fn (BT.Fn R r) l
 |.row _ e::r=>List e.den->BT.Fn R r
 |.map _ k v _::r=>List (k.den×v.den)->BT.Fn R r
 |.mat _ _ e::r=>List (List e.den)->BT.Fn R r
 |.tree _ e::r=>List e.ty.den->BT.Fn R r
 |.fmap _ _::r=>BT.Fn R r
def CT.app{R:Type}:(l:List CT)->CT.Fn R l->CT.dens l->R
 |[],f,_=>f
 |.data _::r,f,d=>CT.app r (f d.1) d.2
 |.lsome _::r,f,d=>CT.app r (f d.1) d.2
 |.tptrh _ _ _::r,f,d=>CT.app r (f d.1) d.2
 |.ptr _ _::r,f,d|.rowh _::r,f,d|.fn _ _::r,f,d|.maph _::r,f,d|.math _::r,f,d|.bself _::r,f,d|.bfnh _ _::r,f,d|.trowh _::r,f,d|.nilc::r,f,d|.nils::r,f,d|.junk::r,f,d=>CT.app r f d
def ST.app{R:Type}:(l:List (Bool×List CT))->ST.Fn R l->ST.dens l->R
 |[],f,_=>f
 |t::r,f,d=>ST.app r (CT.app t.2 f d.1) d.2
def BT.app{R:Type}:(l:List BT)->BT.Fn R l->BT.dens l->R
 |[],f,_=>f
 |.cells _ l::r,f,d=>BT.app r (CT.app l f d.1) d.2
 |.row _ _::r,f,d=>BT.app r (f d.1) d.2
 |.map _ _ _ _::r,f,d=>BT.app r (f d.1) d.2
 |.mat _ _ _::r,f,d=>BT.app r (f d.1) d.2
 |.tree _ _::r,f,d=>BT.app r (f d.1) d.2
 |.fmap _ _::r,f,d=>BT.app r f d
def CT.lam{R:Type}:(l:List CT)->(CT.dens l->R)->CT.Fn R l
 |[],f=>f ()
 |.data _::r,f=>λx=>CT.lam r λd=>f (x,d)
 |.lsome _::r,f=>λx=>CT.lam r λd=>f (x,d)
 |.tptrh _ _ _::r,f=>λx=>CT.lam r λd=>f (x,d)
 |.ptr _ _::r,f|.rowh _::r,f|.fn _ _::r,f|.maph _::r,f|.math _::r,f|.bself _::r,f|.bfnh _ _::r,f|.trowh _::r,f|.nilc::r,f|.nils::r,f|.junk::r,f=>CT.lam r f
def ST.lam{R:Type}:(l:List (Bool×List CT))->(ST.dens l->R)->ST.Fn R l
 |[],f=>f ()
 |t::r,f=>CT.lam t.2 λa=>ST.lam r λd=>f (a,d)
def BT.lam{R:Type}:(l:List BT)->(BT.dens l->R)->BT.Fn R l
 |[],f=>f ()
 |.cells _ l::r,f=>CT.lam l λa=>BT.lam r λd=>f (a,d)
 |.row _ _::r,f=>λx=>BT.lam r λd=>f (x,d)
 |.map _ _ _ _::r,f=>λx=>BT.lam r λd=>f (x,d)
 |.mat _ _ _::r,f=>λx=>BT.lam r λd=>f (x,d)
 |.tree _ _::r,f=>λx=>BT.lam r λd=>f (x,d)
 |.fmap _ _::r,f=>BT.lam r f
@[reducible] def VF(R:Type)(s:List (Bool×List CT))(b:List BT):Type:=ST.Fn (BT.Fn R b) s
def vapp{R:Type}(s:List (Bool×List CT))(b:List BT)(f:VF R s b)(d:ST.dens s×BT.dens b):R:=BT.app b (ST.app s f d.1) d.2
def vlam{R:Type}(s:List (Bool×List CT))(b:List BT)(g:ST.dens s×BT.dens b->R):VF R s b:=ST.lam s λx=>BT.lam b λy=>g (x,y)
def CT.some?:List CT->Bool
 |[]=>false
 |.data _::_=>true
 |.lsome _::_=>true
 |.tptrh _ _ _::_=>true
 |.ptr _ _::r|.rowh _::r|.fn _ _::r|.maph _::r|.math _::r|.bself _::r|.bfnh _ _::r|.trowh _::r|.nilc::r|.nils::r|.junk::r=>CT.some? r
def ST.some?:List (Bool×List CT)->Bool
 |[]=>false
 |t::r=>CT.some? t.2||ST.some? r
def BT.some?:List BT->Bool
 |[]=>false
 |.cells _ l::r=>CT.some? l||BT.some? r
 |.fmap _ _::r=>BT.some? r
 |_::_=>true
@[reducible] def selT(A B:Type):Bool->Type
 |true=>A
 |false=>B
@[reducible] def KF(R:Type)(s:List (Bool×List CT))(b:List BT):Type:=selT (VF R s b) (Unit->VF R s b) (ST.some? s||BT.some? b)
def selk{R:Type}{s:List (Bool×List CT)}{b:List BT}(f:VF R s b):(c:Bool)->selT (VF R s b) (Unit->VF R s b) c
 |true=>f
 |false=>λ_=>f
def klam{R:Type}(s:List (Bool×List CT))(b:List BT)(g:ST.dens s×BT.dens b->R):KF R s b:=selk (vlam s b g) _
def sgE(ps:List (Bool×List CT))(is:List BT)(rs:List (Bool×List CT))(os:List BT)(f:(β:Type)->VF (KF (Option β) rs os->Option β) ps is):Spec:=
 ⟨ps,is,rs,os,λ{β} x k=>vapp ps is (f β) x (klam rs os k)⟩
abbrev sg(ps:List (Bool×List CT))(is:List BT)(rs:List (Bool×List CT))(os:List BT)(f:{β:Type}->VF (KF (Option β) rs os->Option β) ps is):Spec:=sgE ps is rs os λβ=>f (β:=β)
theorem O4{F:Type->Type}(s:(β:Type)->F β):(λβ=>hid (s β))=s:=funext λβ=>Ab (s β)
@[reducible] def OF(β R:Type):List (AExit×View)->Type
 |[]=>R
 |x::r=>KF (Option β) x.2.params x.2.ins->OF β R r
def oapp{β R:Type}:(l:List (AExit×View))->OF β R l->Outs.K β l->R
 |[],f,_=>f
 |x::r,f,ks=>oapp r (f (klam x.2.params x.2.ins ks.1)) ks.2
abbrev Pc.T(p:Pc)(β:Type):Type:=OF β (VF (Option β) p.v.params p.v.ins) p.o
def Pc.un(p:Pc)(f:(β:Type)->p.T β):p.G:=λ{β} d ks=>vapp _ _ (oapp p.o (f β) ks) d
def yA(P:Program)(f:Nat):Fun->Prop
 |.spec S=>SpecOk P f S
 |.rows F=>RowOk P f F
 |.bld F=>BldOk P f F
 |.abs A=>AbsOk P f A
structure Ent (P:Program) where
 no:Nat
 F:Fun
 ok:yA P no F
def Ent.of{P:Program}{no:Nat}{S:Spec}(h:SpecOk P no S):Ent P:=⟨no,.spec S,h⟩
@[reducible] def gam{P:Program}(l:List (Ent P)):Nat->Option Fun:=Cj (l.map λe=>(e.no,e.F))
theorem Fg{P:Program}:∀l:List (Ent P),ΓOk P (gam l)
 |[]=>ΓOk_nil
 |⟨_,.spec _,h⟩::l=>ΓOk_cons h (Fg l)
 |⟨_,.rows _,h⟩::l=>ΓOk_row h (Fg l)
 |⟨_,.bld _,h⟩::l=>ΓOk_bld h (Fg l)
 |⟨_,.abs _,h⟩::l=>ΓOk_abs h (Fg l)
structure PB (P:Program) where
 q:Nat
 p:Pc
 f:(β:Type)->p.T β
 ok:p.Ok P (p.un f)
@[reducible] def cuts{P:Program}(l:List (PB P)):Nat->Option Cut:=Cj (l.map λb=>(b.q,b.p.cut (b.p.un b.f)))
theorem O5{P:Program}{n m q:Nat}{c:Code}:∀{l:List (PB P)},l.map (λb=>(find b.q q c,b.p.v.m,b.p.n,b.p.m))=l.map (λb=>([b.p.c],m,n,m))->Ic P n m q c (cuts l)
 |[],_=>xV
 |b::l,h=>by simp only[Bp,BB,AN]at h;obtain⟨⟨h1,h2,h3,h4⟩,h5⟩:=h;have hb:=b.ok;unfold Pc.Ok at hb;rw[h3,h4]at hb;exact xW h1 h2 hb (O5 h5)
theorem C5{P:Program}(hmx:P.follows .mixedOrders=true){X:Ctx}(hT:TOk P X.T)(es:List (Ent P))(hX:X.Γ=gam es)(cs:List (PB P)){ps rs:List (Bool×List CT)}{is os:List BT}{f:FuncId}{fn:Func}(vs:List RS){s:(β:Type)->VF (KF (Option β) rs os->Option β) ps is}(hf:P.funcs[f]?=some fn)(hc:((fn.name== "runtime.NumGoroutine"),fn.body,fn.results.toList,(Nat.beq vs.length rs.length&&(ST.tidy rs&&Nat.ble ps.length fn.ntmps)),cs.map (λb=>(find b.q 1 (Ar fn),b.p.v.m,b.p.n,b.p.m)))=(false,some (Ar fn),vs.map RS.toVar,true,cs.map (λb=>([b.p.c],is.length,fn.ntmps,is.length))))(h:∀{β:Type}(x:ST.dens ps×BT.dens is)(k:ST.dens rs×BT.dens os->Option β),exec X fn.ntmps (cuts cs) 1 (Ar fn) ((vIn (sgE ps is rs os s)).mk' x) (retK X.T (sgE ps is rs os s) vs k)=vapp ps is (s β) x (klam rs os k)):SpecOkB P f (sgE ps is rs os λβ=>hid (s β)):=by
 simp only[AN]at hc;obtain⟨h1,h2,h3,h4,h5⟩:=hc;rw[O4];exact pcSB hmx X hT (hX▸Fg es) (cuts cs) vs hf h1 h2 h3 h4 (O5 h5) h
theorem Jr{P:Program}(hmx:P.follows .mixedOrders=true){X:Ctx}(hT:TOk P X.T)(es:List (Ent P))(hX:X.Γ=gam es)(cs:List (PB P)){ps rs:List (Bool×List CT)}{is os:List BT}{f:FuncId}{fn:Func}(vs:List RS){s:(β:Type)->VF (KF (Option β) rs os->Option β) ps is}(hf:P.funcs[f]?=some fn)(hc:((fn.name== "runtime.NumGoroutine"),fn.body,fn.results.toList,(Nat.beq vs.length rs.length&&(ST.tidy rs&&Nat.ble ps.length fn.ntmps)),cs.map (λb=>(find b.q 1 (Ar fn),b.p.v.m,b.p.n,b.p.m)))=(false,some (Ar fn),vs.map RS.toVar,true,cs.map (λb=>([b.p.c],is.length,fn.ntmps,is.length))))(h:∀{β:Type}(x:ST.dens ps×BT.dens is)(k:ST.dens rs×BT.dens os->Option β),exec X fn.ntmps (cuts cs) 1 (Ar fn) ((vIn (sgE ps is rs os s)).mk' x) (retK X.T (sgE ps is rs os s) vs k)=vapp ps is (s β) x (klam rs os k)):SpecOk P f (sgE ps is rs os λβ=>hid (s β)):=(C5 hmx hT es hX cs vs hf hc h).spec
theorem DF{P:Program}(hmx:P.follows .mixedOrders=true){X:Ctx}(hT:TOk P X.T)(es:List (Ent P))(hX:X.Γ=gam es)(cs:List (PB P)){p:Pc}{g:Nat->(β:Type)->p.T β}(hc:((p.o.all λx=>Nat.beq x.2.m p.m),cs.map (λb=>(find b.q 1 (C4 p.c),b.p.v.m,b.p.n,b.p.m)))=(true,cs.map (λb=>([b.p.c],p.m,p.n,p.m))))(hv:p.v.m=p.m)(hl:p.c=.loop (C4 p.c))(h0:∀{β:Type}(d:p.v.den)(ks:Outs.K β p.o),p.un (g 0) d ks=none)(h:∀(i:Nat){β:Type}(d:p.v.den)(ks:Outs.K β p.o),exec X p.n (cuts cs) 1 (C4 p.c) (p.v.mk' d) (La p.v (λd'=>p.un (g i) d' ks) p.o ks)=p.un (g (i+1)) d ks):p.Ok P (p.un λβ=>hid (g fuel β)):=by
 simp only[AN]at hc;rw[O4];exact pcL hmx X hT (hX▸Fg es) (G:=λi=>p.un (g i)) (cuts cs) hl hv hc.1 (O5 hc.2) h0 h fuel
theorem Ie{P:Program}(hmx:P.follows .mixedOrders=true){X:Ctx}(hT:TOk P X.T)(es:List (Ent P))(hX:X.Γ=gam es)(cs:List (PB P))(q:Nat){p:Pc}{g:(β:Type)->p.T β}(hc:((p.o.all λx=>Nat.beq x.2.m p.m),cs.map (λb=>(find b.q q p.c,b.p.v.m,b.p.n,b.p.m)))=(true,cs.map (λb=>([b.p.c],p.m,p.n,p.m))))(h:∀{β:Type}(d:p.v.den)(ks:Outs.K β p.o),exec X p.n (cuts cs) q p.c (p.v.mk' d) (outK p.o ks)=p.un g d ks):p.Ok P (p.un λβ=>hid (g β)):=by
 simp only[AN]at hc;rw[O4];exact pcE hmx X hT (hX▸Fg es) q (cuts cs) hc.1 (O5 hc.2) h
noncomputable def Ent.inl{P:Program}(hmx:P.follows .mixedOrders=true){X:Ctx}(hT:TOk P X.T)(es:List (Ent P))(hX:X.Γ=gam es){no:Nat}{fn:Func}{rs:List RS}(m:Nat)(hf:P.funcs[no]?=some fn)(hc:((fn.name== "runtime.NumGoroutine"),fn.body,fn.results.toList)=(false,some (Ar fn),rs.map RS.toVar)):Ent P:=
 ⟨no,.abs (Go.Lift.inl X fn.ntmps (Ar fn) rs m),y8 hmx hT (hX▸Fg es) m hf hc⟩
noncomputable def Ent.hand{P:Program}{no:Nat}{S:Spec}(h:SpecOkB P no S)(hs:S.outs=S.ins)(hc:(BT.hand S.ins&&(ST.bnd S.ins.length S.res&&BT.bnd S.ins.length S.ins))=true):Ent P:=
 ⟨no,.abs (Go.Lift.hand S hs),bZ h hs hc⟩
noncomputable def Ent.handf{P:Program}{no:Nat}{S:Spec}(h:SpecOkB P no S)(hs:S.outs=S.ins)(hc:(BT.hand S.ins&&(ST.bnd S.ins.length S.res&&BT.bnd S.ins.length S.ins))=true):Ent P:=
 ⟨no,.abs (frzA (Go.Lift.hand S hs)),y9 (bZ h hs hc)⟩
end
end Go.Lift
