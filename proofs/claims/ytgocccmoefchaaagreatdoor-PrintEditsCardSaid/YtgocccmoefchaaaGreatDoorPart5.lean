/- Part5: LiftAb, LiftAc, LiftUc. -/
import Derived.Test.YtgocccmoefchaaaGreatDoorPart4
set_option linter.unusedVariables false
set_option linter.unusedSectionVars false
set_option linter.unusedSimpArgs false
namespace Go.Lift
noncomputable section
def Hz:List C->List Nat
 |[]=>[]
 |.ptr b _::r=>b::Hz r
 |.row b _::r=>b::Hz r
 |.fn _ B4::r=>B4++Hz r
 |.mapv b::r=>b::Hz r
 |.mat b _::r=>b::Hz r
 |.mrow b _ _::r=>b::Hz r
 |.sub b _ _ _::r=>b::Hz r
 |.bself b::r=>b::Hz r
 |.bfn _ b::r=>b::Hz r
 |.trow b _ _::r=>b::Hz r
 |.tptr b _ _ _ _::r=>b::Hz r
 |_::r=>Hz r
def AlQ:V->List Nat
 |.c x=>Hz [x]
 |.agg cs=>Hz cs
 |.eptr b _ _ _=>[b]
 |.mcell b _ _=>[b]
 |.mptr b _ _ _ _=>[b]
 |.arr b _ _ _=>[b]
 |_=>[]
def IU:List V->List Nat
 |[]=>[]
 |v::r=>AlQ v++IU r
def H0(bl:Nat->Option Blk):Nat->List Nat->List Nat->List Nat
 |0,_,acc=>acc
 |_+1,[],acc=>acc
 |n+1,b::r,acc=>
  bif memB b acc then H0 bl n r acc else
   match bl b with
   |some (.cells _ cs)=>H0 bl n (Hz cs++r) (acc++[b])
   |some _=>H0 bl n r (acc++[b])
   |none=>H0 bl n r acc
def LV(bl:Nat->Option Blk):List Nat->List (Nat×Blk)
 |[]=>[]
 |b::r=>
  match bl b with
  |some B=>(b,B)::LV bl r
  |none=>LV bl r
def Pw:List V->Option (List (Bool×List C))
 |[]=>some []
 |.c x::r=>
  match Pw r with
  |some ts=>some ((false,[x])::ts)
  |none=>none
 |.agg cs::r=>
  match Pw r with
  |some ts=>some ((true,cs)::ts)
  |none=>none
 |_::_=>none
def tupV:List V->Option V
 |[v]=>some v
 |vs=>
  match Pw vs with
  |some ts=>some (.tup ts)
  |none=>none
def inlK{β:Type}(T:TypeId->Option TI)(rs:List RS)(ids new:List Nat)(kk:K β):Kx β:=λe σ=>
 match e with
 |.exit _=>none
 |_=>
  match HK T σ.tm σ.bl rs with
  |none=>none
  |some vs=>
   match tupV vs with
   |none=>none
   |some v=>bif IK (wids σ.bl)&&(KN (ids++new) (wids σ.bl)&&KN (wids σ.bl) ids)then kk v (ids++new) σ.bl else none
def zU{β:Type}(X:Ctx)(n:Nat)(c:Code)(rs:List RS)(m:Nat)(bl:Nat->Option Blk)(nx:Nat)(args:List V)(kk:K β):Option β:=
 bif OY bl (AH nx m)&&Nat.ble args.length n then
  exec {X with A:=some (H0 bl 99 (IU args) []++AH nx m)} n (λ_=>none) 1 c ⟨numV 0 args,LV bl (H0 bl 99 (IU args) []),nx⟩ (inlK X.T rs (H0 bl 99 (IU args) []) (AH nx m) kk)
 else none
@[reducible] def inl(X:Ctx)(n:Nat)(c:Code)(rs:List RS)(m:Nat):AbsF:=⟨λbl nx args kk=>zU X n c rs m bl nx args kk⟩
theorem W0{ids:List Nat}:∀{l:List Nat},KN ids l=true->∀b∈l,b∈ids
 |[],_,b,h=>by simp at h
 |c::r,h,b,hb=>by
  obtain⟨h1,h2⟩:=andB h;rcases Bf.1 hb with rfl|hb
  ·exact Hw.1 h1
  ·exact W0 h2 b hb
theorem zV{ids:List Nat}:∀{l:List LogE},dU ids l=true->∀e∈l,∀b∈e.rd,b∈ids
 |[],_,e,h=>by simp at h
 |c::r,h,e,he=>by
  obtain⟨h1,h2⟩:=andB h;rcases Bf.1 he with rfl|he
  ·exact W0 h1
  ·exact zV h2 e he
theorem gI{bl:Nat->Option Blk}:∀{l:List Nat}{i:Nat},look (LV bl l) i=if i∈l then bl i else none
 |[],i=>by simp[LV,EB,Ex]
 |b::r,i=>by
  simp only[LV];cases hb:bl b with
  |none=>
   simp only;rw[gI];by_cases h:i=b
   ·subst h;simp[hb]
   ·simp[h]
  |some B=>
   simp only[EB,Ex];by_cases h:i=b
   ·subst h;simp[hb]
   ·rw[HH h,Cj,gI];simp[h]
theorem zW:∀{l:List (Nat×Blk)}{i:Nat},i∉wids l->look l i=none
 |[],_,_=>rfl
 |(j,x)::r,i,h=>by simp only[wids,Bf,not_or]at h;rw[Ex,HH h.1,Cj,zW h.2]
theorem zX:∀{l:List (Nat×Blk)}{f:Nat->Option Blk}{i:Nat},(wids l).Nodup->updL f l i=if i∈wids l then look l i else f i
 |[],_,_,_=>by simp[wids,updL]
 |(j,x)::r,f,i,h=>by
  obtain⟨h1,h2⟩:=KJ.1 (show(j::wids r).Nodup from h);simp only[updL];rw[zX h2];by_cases hi:i=j
  ·subst hi
   simp[h1,wids,EB,Ex,upd]
  ·simp only[wids,Bf,hi,false_or,EB,Ex,HH hi,Cj,upd,Cx]
theorem zY{E:Env}:∀{vs:List V}{us:List Value}{ts:List (Bool×List C)},VReps E vs us->Pw vs=some ts->TReps E ts us
 |[],us,ts,h,ht=>by simp only[Pw,Af]at ht;subst ht;exact h
 |v::vs,us,ts,⟨u,C4,e,h1,h2⟩,ht=>by
  cases v<;>simp only[Pw]at ht<;>first|(cases ht;done)|skip
  all_goals
   split at ht
   ·rename_i ACt FN
    simp only[Af]at ht;subst ht;refine⟨u,C4,e,?_,zY h2 FN⟩
    first|exact⟨[u],⟨u,[],rfl,h1,rfl⟩,by simp⟩|exact h1
   ·cases ht
theorem AlR{E:Env}{vs:List V}{us:List Value}{v:V}(h:VReps E vs us)(ht:tupV vs=some v):VRep E v (Hx us):=by
 unfold tupV at ht;split at ht
 ·simp only[Af]at ht
  subst ht;obtain⟨u,C4,e,h1,h2⟩:=h;have h2:C4=[]:=h2;subst h2 e;exact h1
 ·rename_i AL
  split at ht
  ·rename_i ts FN
   simp only[Af]at ht;subst ht;refine⟨us,?_,zY h FN⟩;have hl:=VReps.length h
   match us,hl with
   |[],_=>rfl
   |[u],hl=>
    exfalso
    match vs,hl,AL with
    |[v],_,AL=>exact AL v rfl
   |u::u2::us,_=>rfl
  ·cases ht
theorem AlS{P:Program}(Dc:P.follows .mixedOrders=true){X:Ctx}(hT:TOk P X.T)(hΓ:ΓOk P X.Γ){f:FuncId}{fn:Func}{c:Code}{rs:List RS}(m:Nat)(hf:P.funcs[f]?=some fn)(hc:((fn.name== "runtime.NumGoroutine"),fn.body,fn.results.toList)=(false,some c,rs.map RS.toVar)):AbsOk P f (inl X fn.ntmps c rs m):=by
 simp only[BC]at hc;obtain⟨E7,hb,K4⟩:=hc;refine⟨⟨fn,hf,E7,by rw[hb];rfl⟩,λbl nx args kk r hk=>?_⟩;simp only[zU]at hk;generalize NW:H0 bl 99 (IU args) []=ids at hk;generalize HY:AH nx m=new at hk;cases Gc:(OY bl new&&Nat.ble args.length fn.ntmps)with
 |false=>rw[Gc]at hk;cases hk
 |true=>
  rw[Gc,Am]at hk;obtain⟨Gc,Bb⟩:=andB Gc;have Gc:=eW Gc;have Bb:=Hs Bb
  obtain⟨e',σ',hk,hw⟩:=fV (R:=z7) (fr:=λF:{F:Nat->Option Blk // ∀b∈ids++new,F b=none}=>frF (ids++new) F.1 F.2) Dc (X:={X with A:=some (ids++new)})
   (λlog hl e he b hb i=>zV hl e he b hb) hT hΓ (λ_ _ h=>by cases h) hk
  have EH:(e'=.normal\/e'=.ret)/\∃vs v,HK X.T σ'.tm σ'.bl rs=some vs/\tupV vs=some v/\(wids σ'.bl).Nodup/\(∀b∈wids σ'.bl,b∈ids++new)/\(∀b∈ids,b∈wids σ'.bl)/\kk v (ids++new) σ'.bl=some r:=by
   have go:(match HK X.T σ'.tm σ'.bl rs with
     |none=>none
     |some vs=>
      match tupV vs with
      |none=>none
      |some v=>bif IK (wids σ'.bl)&&(KN (ids++new) (wids σ'.bl)&&KN (wids σ'.bl) ids)then kk v (ids++new) σ'.bl else none)=some r->
     ∃vs v,HK X.T σ'.tm σ'.bl rs=some vs/\tupV vs=some v/\(wids σ'.bl).Nodup/\(∀b∈wids σ'.bl,b∈ids++new)/\(∀b∈ids,b∈wids σ'.bl)/\kk v (ids++new) σ'.bl=some r:=by
    intro h;split at h
    ·cases h
    rename_i vs Dp;split at h
    ·cases h
    rename_i v hv;cases Hl:(IK (wids σ'.bl)&&(KN (ids++new) (wids σ'.bl)&&KN (wids σ'.bl) ids))with
    |false=>rw[Hl]at h;cases h
    |true=>rw[Hl,Am]at h;obtain⟨c1,c2⟩:=andB Hl;obtain⟨c2,c3⟩:=andB c2;exact⟨vs,v,Dp,hv,Po c1,W0 c2,W0 c3,h⟩
   cases e' with
   |normal=>exact⟨.inl rfl,go hk⟩
   |ret=>exact⟨.inr rfl,go hk⟩
   |exit id=>cases hk
  obtain⟨Kw,vs,v,Dp,hv,Gw,AO,AzY,hk⟩:=EH;refine⟨v,ids++new,σ'.bl,hk,λAa Ah ok0 base pl w us hr CC=>?_⟩
  let F:Nat->Option Blk:=λi=>if i∈ids++new then none else Aa i
  have hF:∀b∈ids++new,F b=none:=λb hb=>if_pos hb
  have Ib:ov F (look (LV bl ids))=Aa:=by
   funext i;simp only[ov,gI];by_cases hi:i∈ids
   ·rw[if_pos hi]
    have h2:=Ah i (Dl _ hi);cases C6:bl i with
    |some B=>simp only;rw[h2,C6]
    |none=>simp only[F,if_pos (Dl new hi)];rw[h2,C6]
   ·rw[if_neg hi]
    simp only[F];by_cases hn:i∈ids++new
    ·rw[if_pos hn]
     have DR:i∈new:=(Ci.1 hn).resolve_left hi;rw[Ah i hn,Gc i DR]
    ·rw[if_neg hn]
  have Aiu:ov F (look σ'.bl)=updL Aa σ'.bl:=by
   funext i;rw[zX Gw];simp only[ov];by_cases hi:i∈wids σ'.bl
   ·rw[if_pos hi]
    have:∀{l:List (Nat×Blk)},i∈wids l->∃B,look l i=some B:=by
     intro l
     induction l with
     |nil=>intro h;simp[wids]at h
     |cons p l ih=>
      intro h;rw[show look (p::l) i=bif Nat.beq i p.1 then some p.2 else look l i from Ex p.1 p.2 l i];by_cases hp:i=p.1
      ·rw[hp,MS];exact⟨p.2,rfl⟩
      ·rw[HH hp,Cj]
       exact ih (by simpa [wids,hp]using h)
    obtain⟨B,hB⟩:=this hi;rw[hB]
   ·rw[if_neg hi,zW hi]
    simp only[F];by_cases hn:i∈ids++new
    ·rw[if_pos hn]
     have DR:i∈new:=(Ci.1 hn).resolve_left λh=>hi (AzY i h);rw[Ah i hn,Gc i DR]
    ·rw[if_neg hn]
  have M0:us.length<=fn.ntmps:=by rw[VReps.length CC];exact Bb
  refine calls_of_wp hf hb ?_
  have UP:Rel fn.ntmps ok0 base pl (look (numV 0 args)) (ov F (look (LV bl ids))) {tmps:=us.toArray++Array.replicate (fn.ntmps-us.toArray.size) undef,defers:=[]} w:=by rw[Ib];refine⟨rfl,by simp;omega,λt v ht=>?_,hr⟩;obtain⟨_,u,h1,h2⟩:=VReps.get CC ht;simp only[Nat.sub_zero]at h1;rw[EL,V1 (by simpa using(Eu.1 h1).1),V4,h1];exact h2
  refine EN (hw ⟨F,hF⟩ ok0 base pl _ w UP) λe a' w' ⟨he,Ai,Bv,BN⟩=>?_;simp only[Ib,Aiu]at Bv BN;obtain⟨Bh,AA,M6⟩:=gG hT K4 Dp (blw:=updL Aa σ'.bl) (λb B h=>by rw[<-Aiu];simp only[ov,h]) Bv
  have Ep:a'.defers=[]/\∃u,(results fn a'.tmps).run P w'=.ok u w'/\(∃u' Ai,Ending.returned u=.returned u'/\RelB ok0 base Ai (updL Aa σ'.bl) w'/\Step pl Aa w Ai (updL Aa σ'.bl) w'/\VRep (Al ok0 base Ai (updL Aa σ'.bl) w') v u'):=
   ⟨Bv.defers,_,AA,Hx Bh,Ai,rfl,Bv.rel,BN,AlR M6 hv⟩
  rcases Kw with e1|e1<;>rw[e1]at he<;>subst he<;>exact Ep
end
end Go.Lift
namespace Go.Lift
noncomputable section
def IV(R:List Nat)(bl:Nat->Option Blk):Nat->Option Blk:=λi=>bif memB i R then bl i else none
def LW:Option Blk->Nat×Nat
 |some (.row _ _ ver _)=>(ver+1,0)
 |some (.tree _ _ ver Ag _ _)=>(ver+1,Ag)
 |_=>(0,0)
def zZ(f:Nat->Nat×Nat):C->C
 |.row b ver=>.row b (ver+(f b).1)
 |.trow b ver p=>.trow b (ver+tv (f b).1 (f b).2 p) p
 |.tptr b ver p i o=>.tptr b (ver+tv (f b).1 (f b).2 p) p i o
 |c=>c
def W4(f:Nat->Nat×Nat):List C->List C
 |[]=>[]
 |c::r=>zZ f c::W4 f r
def KU(f:Nat->Nat×Nat)(n:Nat×Nat):Blk->Blk
 |.cells t cs=>.cells t (W4 f cs)
 |.row t e ver l=>.row t e (ver+n.1) l
 |.tree t e ver Ag h l=>.tree t e (ver+n.1) (Ag+n.2) h l
 |B=>B
def gJ(f:Nat->Nat×Nat):List (Bool×List C)->List (Bool×List C)
 |[]=>[]
 |t::r=>(t.1,W4 f t.2)::gJ f r
def JZ(f:Nat->Nat×Nat):List Nat->List Blk->List Blk
 |i::is,B::bs=>KU f (f i) B::JZ f is bs
 |_,_=>[]
def W5(bl:Nat->Option Blk)(R:List Nat):List Nat->Bool
 |[]=>true
 |i::r=>(memB i R||(bl i).isNone)&&W5 bl R r
def BT.hand:List BT->Bool
 |[]=>true
 |.mat _ _ _::_=>false
 |_::r=>BT.hand r
def Aa0(ps:List (Bool×List CT))(is:List BT)(bl:Nat->Option Blk)(nx:Nat)(args:List V):Option (List Nat×(ST.dens ps×BT.dens is)):=
 match idsB bl nx is 0 (Rg ps args)with
 |none=>none
 |some ids=>
  match G6 bl ids ps args with
  |none=>none
  |some x=>
   match CF bl ids is ids with
   |none=>none
   |some y=>bif IK ids&&!meet (Fx ps args++Ey bl is ids) ids then some (ids,(x,y))else none
def RG(R ids:List Nat)(bl:Nat->Option Blk):Nat->Nat×Nat:=λb=>bif memB b ids then LW (IV R bl b)else(0,0)
def Aa1{α:Type}:List α->Bool
 |[]=>true
 |_::_=>false
def Aa2{β:Type}(ps rs:List (Bool×List CT))(is:List BT)(run:ST.dens ps×BT.dens is->(ST.dens rs×BT.dens is->Option β)->Option β)(bl:Nat->Option Blk)(nx:Nat)(args:List V)(kk:K β):Option β:=
 match Aa0 ps is (IV (H0 bl 99 (IU args) []) bl) nx args with
 |none=>none
 |some (ids,d)=>
  bif W5 bl (H0 bl 99 (IU args) []) ids&&((ST.flat rs&&BT.flat is)||Aa1 (Fx ps args++Ey (IV (H0 bl 99 (IU args) []) bl) is ids))then
   run d λz=>kk (resV (gJ (RG (H0 bl 99 (IU args) []) ids bl) (mkS ids rs z.1))) (H0 bl 99 (IU args) []++ids)
    (ids.zip (JZ (RG (H0 bl 99 (IU args) []) ids bl) ids (mkB ids is z.2)))
  else none
@[reducible] def hand(S:Spec)(hs:S.outs=S.ins):AbsF:=⟨λ{β} bl nx args kk=>Aa2 (β:=β) S.params S.res S.ins (λd k=>S.run d (hs▸k)) bl nx args kk⟩
structure Bump (f:Nat->Nat×Nat) (E E':Env):Prop where
 w:E'.w=E.w
 ok:E'.ok=E.ok
 base:E'.base=E.base
 pl:E'.pl=E.pl
 row:∀b t e ver' l,E'.bl b=some (.row t e ver' l)->∃ver,E.bl b=some (.row t e ver l)/\ver'=ver+(f b).1
 tree:∀b t e ver' Bp h l,E'.bl b=some (.tree t e ver' Bp h l)->∃ver Ag,E.bl b=some (.tree t e ver Ag h l)/\ver'=ver+(f b).1/\Bp=Ag+(f b).2
 mat:∀b t et e ver Ag h l,E'.bl b=some (.mat t et e ver Ag h l)->E.bl b=some (.mat t et e ver Ag h l)
theorem Aa3(a b n m:Nat)(p:Path):tv (a+n) (b+m) p=tv a b p+tv n m p:=by cases p<;>simp only[tv]<;>omega
section
variable{f:Nat->Nat×Nat}{E E':Env}
theorem CRep.bump(hb:Bump f E E'):∀{c:C}{v:Value},CRep E c v->CRep E' (zZ f c) v
 |.bool _,_,h=>h
 |.int _ _,_,h=>h
 |.str _,_,h=>h
 |.err _,_,h=>h
 |.list e l,v,h=>by show DRep E'.w E'.ok _ _ _;rw[hb.w,hb.ok];exact h
 |.nils,_,h=>h
 |.nilc,_,h=>h
 |.lsome e l,v,h=>by show DRep E'.w E'.ok _ _ _/\_;rw[hb.w,hb.ok];exact h
 |.nilp,_,h=>h
 |.ptr b o,v,h=>by show ∃g,E'.pl b=_/\_;rw[hb.pl];exact h
 |.row b ver,v,⟨h1,sv,Ab,h2,h3⟩=>⟨h1,sv,Ab,by rw[hb.pl];exact h2,λt e ver' l h=>by obtain⟨CL,h4,h5⟩:=hb.row b t e ver' l h;obtain⟨h6,h7⟩:=h3 t e CL l h4;exact⟨by omega,λh8=>h7 (by omega)⟩⟩
 |.fn g B4,v,h=>by show ∃gs:List Nat,B4.map E'.pl=_/\_;rw[hb.pl];exact h
 |.nilfn,_,h=>h
 |.mapv b,v,h=>by show ∃g,E'.pl b=_/\_;rw[hb.pl];exact h
 |.mat b ver,v,⟨h1,sv,Ab,h2,h3⟩=>⟨h1,sv,Ab,by rw[hb.pl];exact h2,λt et e ver' Ag h l hh=>h3 t et e ver' Ag h l (hb.mat b _ _ _ _ _ _ _ hh)⟩
 |.mrow b Ag i,v,⟨h1,sv,Ab,h2,h3⟩=>⟨h1,sv,Ab,by rw[hb.pl];exact h2,λt et e ver' Ag h l hh=>h3 t et e ver' Ag h l (hb.mat b _ _ _ _ _ _ _ hh)⟩
 |.sub b ver i j,v,⟨h1,sv,Ab,h2,h3⟩=>⟨h1,sv,Ab,by rw[hb.pl];exact h2,λt e ver' l h=>by obtain⟨CL,h4,h5⟩:=hb.row b t e ver' l h;obtain⟨h6,h7⟩:=h3 t e CL l h4;exact⟨by omega,λh8=>h7 (by omega)⟩⟩
 |.bself b,v,h=>by show _\/∃g,E'.pl b=_/\_;rw[hb.pl];exact h
 |.trow b ver p,v,⟨h1,sv,Ab,h2,h3⟩=>⟨h1,sv,Ab,by rw[hb.pl];exact h2,λt e ver' Ag h l hh=>by obtain⟨CL,Ft,h4,h5,h8⟩:=hb.tree b t e ver' Ag h l hh;obtain⟨h6,h7⟩:=h3 t e CL Ft h l h4;rw[h5,h8,Aa3];exact⟨by omega,λh8=>h7 (by omega)⟩⟩
 |.bfn g b,v,h=>by show ∃g,E'.pl b=_/\_;rw[hb.pl];exact h
 |.tptr b ver p i o,v,⟨sv,Ab,ad,h2,hv,h3⟩=>⟨sv,Ab,ad,by rw[hb.pl];exact h2,hv,λt e ver' Ag h l hh=>by obtain⟨CL,Ft,h4,h5,h8⟩:=hb.tree b t e ver' Ag h l hh;obtain⟨h6,h7⟩:=h3 t e CL Ft h l h4;rw[h5,h8,Aa3];exact⟨by omega,λh8=>h7 (by omega)⟩⟩
 |.junk,_,h=>h
theorem CReps.bump(hb:Bump f E E'):∀{cs:List C}{vs:List Value},CReps E cs vs->CReps E' (W4 f cs) vs
 |[],_,h=>h
 |_::_,_,⟨v,Ap,e,h1,h2⟩=>⟨v,Ap,e,h1.bump hb,CReps.bump hb h2⟩
theorem TReps.bump(hb:Bump f E E'):∀{ts:List (Bool×List C)}{vs:List Value},TReps E ts vs->TReps E' (gJ f ts) vs
 |[],_,h=>h
 |_::_,_,⟨v,Ap,e,⟨xs,h1,h2⟩,h3⟩=>⟨v,Ap,e,⟨xs,h1.bump hb,h2⟩,TReps.bump hb h3⟩
theorem FRep.bump(hb:Bump f E E'):∀{l:List (List UInt8×(FuncId×Nat))}{es:List MapEntry},FRep E l es->FRep E' l es
 |[],_,h=>h
 |_::_,_,⟨e,r,g,h1,h2,h3,h4,h5⟩=>⟨e,r,g,h1,h2,by rw[hb.pl];exact h3,h4,FRep.bump hb h5⟩
theorem BRep.bump(hb:Bump f E E')(n:Nat×Nat){B:Blk}{p:Pl}(h:BRep E B p):BRep E' (KU f n B) p:=by
 cases B with
 |dead=>exact trivial
 |cells t cs=>
  cases p with
  |row _ _=>exact h.elim
  |cells g=>obtain⟨vs,h1,h2⟩:=h;exact⟨vs,by rw[hb.w];exact h1,h2.bump hb⟩
 |map t k v vg l=>
  cases p with
  |row _ _=>exact h.elim
  |cells g=>obtain⟨es,C8,h1,h2⟩:=h;exact⟨es,C8,by rw[hb.w];exact h1,by rw[hb.w,hb.ok];exact h2⟩
 |fmap t l=>
  cases p with
  |row _ _=>exact h.elim
  |cells g=>obtain⟨es,C8,h1,h2⟩:=h;exact⟨es,C8,by rw[hb.w];exact h1,h2.bump hb⟩
 |row t e ver l=>
  cases p with
  |cells _=>exact h.elim
  |row sv Ab=>obtain⟨h0,xs,h1,h2⟩:=h;exact⟨h0,xs,by rw[hb.w,hb.ok];exact h1,by rw[hb.w,hb.base];exact h2⟩
 |mat t et e ver Ag hole l=>
  cases p with
  |cells _=>exact h.elim
  |row sv Ab=>have hM:MatOk E t et e hole l sv Ab:=h;obtain⟨vs,h1,h2⟩:=hM.outer;refine⟨⟨vs,by rw[hb.w,hb.base];exact h1,h2⟩,hM.len,hM.hole,λi s x hs hx=>?_,hM.sep0,hM.sep⟩;obtain⟨xs,h5,h6⟩:=hM.inner i s x hs hx;exact⟨xs,by rw[hb.w,hb.ok];exact h5,by rw[hb.w,hb.base];exact h6⟩
 |tree t e ver Ag hole l=>
  cases p with
  |cells _=>exact h.elim
  |row sv Ab=>have hT:TreeOk E t e hole l sv Ab:=h;obtain⟨hv,F,h1,h2,h3⟩:=hT.rep;exact⟨⟨hv,F,by rw[hb.w,hb.ok,hb.base];exact h1,h2,h3⟩,hT.top⟩
end
theorem Aa4{f:Nat->Nat×Nat}:∀{ids:List Nat}{Bs:List Blk},ids.length=Bs.length->(JZ f ids Bs).length=Bs.length
 |[],[],_=>rfl
 |_::is,_::bs,h=>by simp only[JZ,Ba];rw[Aa4 (by simpa using h)]
theorem Aa5{f:Nat->Nat×Nat}:∀{ids:List Nat}{Bs:List Blk}{j i:Nat},ids[j]?=some i->(JZ f ids Bs)[j]?=(Bs[j]?).map (KU f (f i))
 |[],_,j,i,h=>by simp at h
 |_::_,[],j,i,_=>by simp[JZ]
 |k::is,B::bs,0,i,h=>by simp only[D1,Af]at h;subst h;rfl
 |k::is,B::bs,j+1,i,h=>by simp only[JZ,DI]at h⊢;exact Aa5 h
theorem Aa6{bl:Nat->Option Blk}{R:List Nat}:∀{ids:List Nat},W5 bl R ids=true->∀i∈ids,i∈R\/bl i=none
 |[],_,i,h=>by simp at h
 |j::r,h,i,hi=>by
  obtain⟨h1,h2⟩:=andB h;rcases Bf.1 hi with rfl|hi
  ·simp only[KI,Option.isNone_iff_eq_none]at h1
   exact h1.imp (λh=>Hw.1 h) id
  ·exact Aa6 h2 i hi
theorem Aa7{bl:Nat->Option Blk}{ids ids2:List Nat}{f:Nat->Nat×Nat}:∀{is:List BT}{js:List Nat}{y y2:BT.dens is},BT.hand is=true->CF bl ids is js=some y->∀(j i:Nat)(B B':Blk),js[j]?=some i->bl i=some B->(mkB ids2 is y2)[j]?=some B'->∀sv Ab AM Bl,KeepR (some B) (some (KU f (LW (some B)) B')) sv Ab AM Bl
 |[],js,y,y2,_,_,j,i,B,B',_,_,h=>by simp[mkB]at h
 |t::is,[],y,y2,_,h,j,i,B,B',hj,_,_=>by simp at hj
 |t::is,k::js,y,y2,hh,h,0,i,B,B',hj,hB,hm=>by
  obtain⟨⟨_,_,_,_,hs⟩,_⟩:=gA ids2 h;simp only[D1,Af]at hj;subst hj;rw[hB]at hs;intro sv Ab AM Bl;cases t with
  |mat t et e=>cases hh
  |row t e=>
   simp only[mkB,D1,Af]at hm;subst hm;rcases hs with hs|⟨ver,l,hs⟩
   ·cases hs
   ·injection hs with hs
    subst hs;exact KeepR.ofRow ⟨by simp only[LW];omega,λh=>absurd h (by simp only[LW];omega)⟩
  |tree t e=>
   simp only[mkB,D1,Af]at hm;subst hm;rcases hs with hs|⟨ver,Ag,l,hs,_⟩
   ·cases hs
   ·injection hs with hs
    subst hs;exact KeepR.ofTree ⟨by simp only[LW];omega,by simp only[LW];omega,λh=>absurd h (by simp only[LW];omega)⟩
  |cells t l=>simp only[mkB,D1,Af]at hm;subst hm;exact⟨(λ_ _ _ _ h=>by cases h),(λ_ _ _ _ _ _ _ h=>by cases h),λ_ _ _ _ _ _ h=>by cases h⟩
  |map t k v vg=>simp only[mkB,D1,Af]at hm;subst hm;exact⟨(λ_ _ _ _ h=>by cases h),(λ_ _ _ _ _ _ _ h=>by cases h),λ_ _ _ _ _ _ h=>by cases h⟩
  |fmap t l=>simp only[mkB,D1,Af]at hm;subst hm;exact⟨(λ_ _ _ _ h=>by cases h),(λ_ _ _ _ _ _ _ h=>by cases h),λ_ _ _ _ _ _ h=>by cases h⟩
 |t::is,k::js,y,y2,hh,h,j+1,i,B,B',hj,hB,hm=>by
  obtain⟨⟨z,hz,_,_,_⟩,_⟩:=gA ids2 h;have U7:BT.hand is=true:=by cases t<;>first|exact hh|cases hh
  have Gs:js[j]?=some i:=by simpa using hj
  cases t<;>simp only[mkB,DI]at hm<;>exact Aa7 U7 hz j i B B' Gs hB hm
theorem Aa8{P:Program}{f:FuncId}{S:Spec}(h:SpecOkB P f S)(hs:S.outs=S.ins)(hc:(BT.hand S.ins&&(ST.bnd S.ins.length S.res&&BT.bnd S.ins.length S.ins))=true):AbsOk P f (hand S hs):=by
 obtain⟨ps,is0,rs,is,run⟩:=S;simp only at hs hc;subst hs;obtain⟨k1,hc⟩:=andB hc;obtain⟨k4,k5⟩:=andB hc;refine⟨h.fn,λbl nx args kk r hk=>?_⟩;simp only[Aa2]at hk;generalize hR:H0 bl 99 (IU args) []=R at hk;split at hk
 ·cases hk
 rename_i ids0 d hv;cases uA:(W5 bl R ids0&&((ST.flat rs&&BT.flat is)||Aa1 (Fx ps args++Ey (IV R bl) is ids0)))with
 |false=>rw[uA]at hk;cases hk
 |true=>
  rw[uA,Am]at hk;obtain⟨Dg,Cl⟩:=andB uA;have Dg:=Aa6 Dg
  have Cl:(ST.flat rs&&BT.flat is)=true\/Fx ps args++Ey (IV R bl) is ids0=[]:=by
   cases hq:(ST.flat rs&&BT.flat is)with
   |true=>exact .inl rfl
   |false=>
    rw[hq,MO]at Cl;refine .inr ?_;generalize Fx ps args++Ey (IV R bl) is ids0=q at Cl;cases q with
    |nil=>rfl
    |cons _ _=>cases Cl
  generalize hf:RG R ids0 bl=fb at hk;obtain⟨z,hz,EG⟩:=h.ok d _ r hk;refine⟨_,_,_,hz,λAa Ah ok0 base pl w us hr CC=>?_⟩
  have hagR:IV R bl=IV R Aa:=by
   funext i;simp only[IV];cases hm:memB i R with
   |false=>rfl
   |true=>rw[Am,Am,Ah i (Dl _ (Hw.1 hm))]
  have hidsB:∀i∈ids0,Aa i=bl i:=λi hi=>Ah i (D7 _ hi);generalize hblR:IV R Aa=blR at*;rw[hagR]at hv Cl;unfold Aa0 at hv;split at hv
  ·cases hv
  rename_i ids _;split at hv
  ·cases hv
  rename_i x hx;split at hv
  ·cases hv
  rename_i y hy;cases Hl:(IK ids&&!meet (Fx ps args++Ey blR is ids) ids)with
  |false=>rw[Hl]at hv;cases hv
  |true=>
   rw[Hl,Am,Af,BC]at hv;obtain⟨rfl,rfl⟩:=hv;obtain⟨c3,c4⟩:=andB Hl;have c3:=Po c3;simp only[MK]at c4;have c4:=Ww.1 c4
   have AO:∀i B,blR i=some B->Aa i=some B:=λi B hB=>by
    rw[<-hblR]at hB;simp only[IV]at hB;cases hm:memB i R with
    |false=>rw[hm]at hB;cases hB
    |true=>rw[hm]at hB;exact hB
   have Gc:∀i∈ids,blR i=none->Aa i=none:=λi hi hn=>by
    rcases Dg i hi with h|h
    ·rw[<-hblR]at hn
     simp only[IV,Hw.2 h,Am]at hn;exact hn
    ·rw[hidsB i hi];exact h
   have uO:∀i∈ids,∀B,Aa i=some B->blR i=some B:=λi hi B hB=>by
    cases hn:blR i with
    |none=>rw[Gc i hi hn]at hB;cases hB
    |some B'=>rw[AO i B' hn]at hB;exact hB
   let ER:Env:=envR ok0 base pl Aa blR w
   have Gb:Ext (Al ok0 base pl Aa w) ER:=⟨AC _,λg h _=>⟨h,rfl⟩,λ_ _ h=>h,λb sv Ab h=>⟨sv,Ab,h,KeepR.of_eq (λC hC=>AO b C hC) _ _⟩⟩
   have Bg:VReps ER args us:=by
    have:∀{vs:List V}{us:List Value},VReps (Al ok0 base pl Aa w) vs us->VReps ER vs us:=by
     intro vs
     induction vs with
     |nil=>intro us h;exact h
     |cons v vs ih=>intro us ⟨u,C4,e,h1,h2⟩;exact⟨u,C4,e,VRep.mono Gb h1,ih h2⟩
    exact this CC
   let n:=is.length
   let plv:Nat->Option Pl:=λb=>(ids[b]?).map (plOf ER)
   let blv:Nat->Option Blk:=fnBl (mkB (AH 0 is.length) is y)
   let N:Nat->Prop:=λg=>(ST.flat rs&&BT.flat is)=false/\g<w.heap.size/\Own pl Aa g/\¬Own plv blv g
   let ok1:OK0 P:=⟨λg=>ok0 g/\¬N g,λg=>ok0.no g\/N g⟩
   have Qw:Fx ps args++Ey blR is ids=[]\/ok1=ok0:=by
    rcases Cl with h|h
    ·refine .inr ?_
     have hN:∀g,¬N g:=λg hN=>by have h1:=hN.1;rw[h]at h1;cases h1
     have e1:ok1.f=ok0.f:=by funext g;exact propext ⟨λq=>q.1,λq=>⟨q,hN g⟩⟩
     have e2:ok1.no=ok0.no:=by funext g;exact propext ⟨λq=>q.resolve_right (hN g),.inl⟩
     obtain⟨f0,n0⟩:=ok0;exact congr (At OK0.mk e1) e2
    ·exact .inl h
   obtain⟨Fo,hT,Bb,Hm,Ak⟩:=zI (ok1:=ok1) hr AO Gc hx hy c3 c4 Bg
    (λg h1 h2=>h1.imp (λh=>⟨h,λhN=>h2 hN.2.2.1⟩) λh=>⟨h.1,λhn=>hn.elim h.2 λhN=>h2 hN.2.2.1⟩)
    Qw
    (λg hn=>hn.elim (λh=>⟨(hr.glob.no g h).1,λho=>(hr.glob.no g h).2 (zH hr AO hy ho)⟩) λhN=>⟨hN.2.1,hN.2.2.2⟩) (λg hn=>hn.imp id λhN=>.inl hN.2.2.1)
   have Q0:∀b i B,ids[b]?=some i->Aa i=some B->plv b=pl i:=λb i B hb hB=>by obtain⟨p,hp,_⟩:=hr.blks i B hB;have:=uO i (CI hb) B hB;simp[plv,hb,plOf,ER,envR,this,hp]
   have AzC:∀g,Own plv blv g->Own pl Aa g:=λg h=>by obtain⟨i,B,p,_,h1,h2,h3,h4⟩:=Ak g h;exact⟨i,B,p,AO i B h1,h2,h3,h4⟩
   refine(EG ok1 base plv w us hr.baseLe Fo hT).mono λe w' Ep=>?_;obtain⟨Bh,Ai,rfl,hRo,hS,hTo⟩:=Ep
   let blo:Nat->Option Blk:=fnBl (mkB (AH 0 is.length) is z.2)
   let Eo:Env:=Al ok1 base Ai blo w'
   let pl3:Nat->Option Pl:=λi=>match place ids i with|some b=>Ai b|none=>pl i
   have Aj:∀i,updL Aa (ids.zip (JZ fb ids (mkB ids is z.2))) i=match place ids i with|some b=>(JZ fb ids (mkB ids is z.2))[b]?|none=>Aa i:=
    λi=>yD i c3 (by rw[Aa4 (by rw[FU];exact Bb),FU];exact Bb)
   generalize ABU:updL Aa (ids.zip (JZ fb ids (mkB ids is z.2)))=bl3 at*;have M3:∀i,place ids i=none->pl3 i=pl i:=λi h=>by simp only[pl3,h]
   have M4:∀i b,place ids i=some b->pl3 i=Ai b:=λi b h=>by simp only[pl3,h]
   have GJ:∀i,place ids i=none->bl3 i=Aa i:=λi h=>by rw[Aj,h]
   have Mt:∀i b,place ids i=some b->bl3 i=((mkB ids is z.2)[b]?).map (KU fb (fb i)):=λi b h=>by rw[Aj,h];exact Aa5 (G9 h)
   have GQ:∀i b,place ids i=some b->b<is.length:=λi b h=>by rw[<-Bb];exact(Eu.1 (G9 h)).1
   have Jh:∀b,b<is.length->∃B,blo b=some B/\B.live=true:=λb hb=>by
    have Aw:b<(mkB (AH 0 is.length) is z.2).length:=by rw[FU];exact hb
    exact⟨_,DK Aw,LU (DK Aw)⟩
   have Dy:∀g,Own pl3 bl3 g->(Own pl Aa g/\∃i B p,place ids i=none/\Aa i=some B/\B.live=true/\pl i=some p/\p.has g)\/Own Ai blo g:=by
    rintro g ⟨i,B,p,hB,hl,hp,hg⟩;cases Av:place ids i with
    |none=>rw[GJ i Av]at hB;rw[M3 i Av]at hp;exact .inl ⟨⟨i,B,p,hB,hl,hp,hg⟩,i,B,p,Av,hB,hl,hp,hg⟩
    |some b=>rw[M4 i b Av]at hp;obtain⟨B',hB',Gt⟩:=Jh b (GQ i b Av);exact .inr ⟨b,B',p,hB',Gt,hp,hg⟩
   have Oa:∀i B p g,place ids i=none->Aa i=some B->B.live=true->pl i=some p->p.has g->w'.heap[g]?=w.heap[g]?/\¬Own Ai blo g:=by
    intro i B p g Av hB hl hp hg;have Ao:g<w.heap.size:=Own.lt hr ⟨i,B,p,hB,hl,hp,hg⟩;refine hS.out g Ao λho=>?_;obtain⟨j,C,q,hj,hC,hlC,hq,Bn⟩:=Ak g ho
    have AL:i≠j:=by rintro rfl;obtain⟨b,hb⟩:=V5 hj;rw[Jr c3 hb]at Av;cases Av
    exact hr.sep i j _ _ _ _ g AL hB (AO j C hC) hl hlC hp hq hg Bn
   have Es:Step pl Aa w pl3 bl3 w':=by
    refine⟨hS.os,hS.tape,hS.output,hS.size,λg Ao ho=>?_,λb g hb=>?_,λb sv Ab hb=>?_⟩
    ·obtain⟨h1,h2⟩:=hS.out g Ao λh=>ho (AzC g h)
     refine⟨h1,λh=>?_⟩;rcases Dy g h with h|h
     ·exact ho h.1
     ·exact h2 h
    ·cases Av:place ids b with
     |none=>rw[M3 b Av];exact hb
     |some j=>
      rw[M4 b j Av];cases hB:Aa b with
      |none=>rw[hr.fresh b hB]at hb;cases hb
      |some B=>exact hS.cells j g (GQ b j Av) (by rw[Q0 j b B (G9 Av) hB];exact hb)
    ·cases Av:place ids b with
     |none=>exact⟨sv,Ab,by rw[M3 b Av];exact hb,KeepR.of_eq (λC h=>by rw[GJ b Av]at h;exact h) _ _⟩
     |some j=>
      cases hB:Aa b with
      |none=>rw[hr.fresh b hB]at hb;cases hb
      |some B=>
       obtain⟨AM,Bl,h1⟩:=hS.rows j sv Ab (GQ b j Av) (by rw[Q0 j b B (G9 Av) hB];exact hb);refine⟨AM,Bl,by rw[M4 b j Av];exact h1,?_⟩;have Ao:j<(mkB ids is z.2).length:=by rw[FU];exact GQ b j Av
       have AyU:fb b=LW (some B):=by have hm:memB b ids=true:=Hw.2 (CI (G9 Av));rw[<-hf];simp only[RG,hm,Am];rw[hagR,uO b (CI (G9 Av)) B hB]
       rw[Mt b j Av,DK Ao,EM,AyU];exact Aa7 k1 hy j b B _ (G9 Av) (uO b (CI (G9 Av)) B hB) (DK Ao) _ _ _ _
   let blm:Nat->Option Blk:=λi=>match place ids i with|some b=>(mkB ids is z.2)[b]?|none=>Aa i
   have Ayw:∀i,place ids i=none->blm i=Aa i:=λi h=>by simp only[blm,h]
   have AhS:∀i b,place ids i=some b->blm i=(mkB ids is z.2)[b]?:=λi b h=>by simp only[blm,h]
   let Em:Env:={w:=w',ok:=(Al ok0 base pl3 bl3 w').ok,base:=base,pl:=pl3,bl:=blm}
   have AhT:Bump fb Em (Al ok0 base pl3 bl3 w'):=by
    have key:∀i B,bl3 i=some B->∃B0,blm i=some B0/\((B=B0/\place ids i=none)\/B=KU fb (fb i) B0):=by
     intro i B hB;cases Av:place ids i with
     |none=>rw[GJ i Av]at hB;exact⟨B,by rw[Ayw i Av];exact hB,.inl ⟨rfl,rfl⟩⟩
     |some b=>rw[Mt i b Av]at hB;obtain⟨B0,h1,h2⟩:=QR.1 hB;exact⟨B0,by rw[AhS i b Av];exact h1,.inr h2.symm⟩
    have hz:∀i,place ids i=none->fb i=(0,0):=λi hi=>by
     have hm:memB i ids=false:=by
      cases hm:memB i ids with
      |false=>rfl
      |true=>obtain⟨b,hb⟩:=V5 (Hw.1 hm);rw[Jr c3 hb]at hi;cases hi
     rw[<-hf];simp only[RG,hm,Cj]
    refine⟨rfl,rfl,rfl,rfl,λi t e ver l h=>?_,λi t e ver Ag hh l h=>?_,λi t et e ver Ag hh l h=>?_⟩
    ·obtain⟨B0,h1,h2⟩:=key i _ h
     rcases h2 with⟨h2,h3⟩|h2
     ·subst h2;exact⟨ver,h1,by rw[hz i h3];rfl⟩
     ·cases B0<;>simp only[KU]at h2<;>first|(cases h2;done)|skip
      injection h2 with q1 q2 q3 q4;subst q1 q2 q3;exact⟨_,by rw[eq_of_heq q4];exact h1,rfl⟩
    ·obtain⟨B0,h1,h2⟩:=key i _ h
     rcases h2 with⟨h2,h3⟩|h2
     ·subst h2;exact⟨ver,Ag,h1,by rw[hz i h3];rfl,by rw[hz i h3];rfl⟩
     ·cases B0<;>simp only[KU]at h2<;>first|(cases h2;done)|skip
      injection h2 with q1 q2 q3 q4 q5 q6;subst q1 q2 q3 q4 q5;exact⟨_,_,by rw[eq_of_heq q6];exact h1,rfl,rfl⟩
    ·obtain⟨B0,h1,h2⟩:=key i _ h
     rcases h2 with⟨h2,h3⟩|h2
     ·subst h2;exact h1
     ·cases B0<;>simp only[KU]at h2<;>first|(cases h2;done)|skip
      exact h2▸h1
   have NP:(ST.flat rs&&BT.flat is)=false\/(ST.flat rs=true/\BT.flat is=true):=by
    cases hf:(ST.flat rs&&BT.flat is)with
    |false=>exact .inl rfl
    |true=>exact .inr (andB hf)
   have Ux:∀(τ:Ty)(x:τ.den)(us:List Value),((ST.flat rs&&BT.flat is)=false\/τ.flat=true)->DRep Eo.w Eo.ok τ x us->DRep Em.w Em.ok τ x us:=λτ x us uB hd=>by
    rcases uB with hq|hq
    ·refine hd.mono λg hg _=>⟨?_,rfl⟩
     obtain⟨h1,h2⟩:=hg;have hnN:¬N g:=h1.elim (λh=>h.2) λh hN=>h.2 (.inr hN);refine⟨h1.imp (λh=>h.1) λh=>⟨h.1,λhn=>h.2 (.inl hn)⟩,λho=>?_⟩;rcases Dy g ho with⟨Ol,i,B,p,Av,hB,hl,hp,CK⟩|Ol
     ·refine hnN ⟨hq,Own.lt hr Ol,Ol,λIb=>?_⟩
      obtain⟨j,C,q,hj,hC,hlC,hq,Bn⟩:=Ak g Ib
      have AL:i≠j:=by rintro rfl;obtain⟨b,hb⟩:=V5 hj;rw[Jr c3 hb]at Av;cases Av
      exact hr.sep i j _ _ _ _ g AL hB (AO j C hC) hl hlC hp hq CK Bn
     ·exact h2 Ol
    ·exact hd.flat hq
   have UN:Ren2 is.length Eo Em (AH 0 is.length) ids:=by
    have key:∀b,b<is.length->pl3 (ids.getD b 0)=Ai b/\blm (ids.getD b 0)=(mkB ids is z.2)[b]?:=by
     intro b hb;have Aw:b<ids.length:=by omega
     have HV:ids[b]?=some ids[b]:=DK Aw;have JA:ids.getD b 0=ids[b]:=by simp[List.getD,HV]
     have UK:=Jr c3 HV;rw[JA];exact⟨M4 _ b UK,AhS _ b UK⟩
    refine⟨λb g hb h=>?_,λb sv Ab hb h=>?_⟩
    ·rw[Ng hb]at h
     show pl3 _=_;rw[(key b hb).1];exact h
    ·rw[Ng hb]at h⊢
     refine⟨?_,λt e ver l h2=>?_,λt et e ver Ag hole l h2=>?_,λt e ver Ag hole l h2=>?_⟩
     ·show pl3 _=_
      rw[(key b hb).1];exact h
     ·have h3:blm (ids.getD b 0)=some (.row t e ver l):=h2
      rw[(key b hb).2]at h3;exact LS h3
     ·have h3:blm (ids.getD b 0)=some (.mat t et e ver Ag hole l):=h2
      rw[(key b hb).2]at h3;exact LT h3
     ·have h3:blm (ids.getD b 0)=some (.tree t e ver Ag hole l):=h2
      rw[(key b hb).2]at h3;exact f9 h3
   refine⟨Hx Bh,pl3,rfl,⟨Df hr.baseLe hS.size,λi B hB=>?_,λi j B C p q g Db hB hC hlB' hlC hp hq CK=>?_,λi hi=>?_,hr.glob.out Es.size Es.out⟩,Es,?_⟩
   ·cases Av:place ids i with
    |none=>
     rw[GJ i Av]at hB;obtain⟨p,hp,hBR⟩:=hr.blks i B hB;refine⟨p,by rw[M3 i Av];exact hp,?_⟩;cases hl:B.live with
     |false=>cases B<;>first|exact trivial|simp[Blk.live]at hl
     |true=>exact BRep.mono Es.ext hBR λg hg=>(Oa i B p g Av hB hl hp hg).1
    |some b=>obtain⟨Bo,hBo,Ge⟩:=Jh b (GQ i b Av);obtain⟨p,hp,hBR⟩:=hRo.blks b Bo hBo;obtain⟨B',h1,h2,_,_,_,_⟩:=LR UN (AC _) Ux rfl k5 (NP.imp id (·.2)) hBo hBR;rw[Mt i b Av,h1,EM,Af]at hB;subst hB;exact⟨p,by rw[M4 i b Av];exact hp,h2.bump AhT (fb i)⟩
   ·cases Av:place ids i with
    |none=>
     rw[GJ i Av]at hB;rw[M3 i Av]at hp;cases Dd:place ids j with
     |none=>rw[GJ j Dd]at hC;rw[M3 j Dd]at hq;exact hr.sep i j B C p q g Db hB hC hlB' hlC hp hq CK
     |some b=>rw[M4 j b Dd]at hq;intro Bn;obtain⟨Bo,hBo,Ge⟩:=Jh b (GQ j b Dd);exact(Oa i B p g Av hB hlB' hp CK).2 ⟨b,Bo,q,hBo,Ge,hq,Bn⟩
    |some b=>
     rw[M4 i b Av]at hp;obtain⟨Bo,hBo,Ge⟩:=Jh b (GQ i b Av);cases Dd:place ids j with
     |none=>rw[GJ j Dd]at hC;rw[M3 j Dd]at hq;intro Bn;exact(Oa j C q g Dd hC hlC hq Bn).2 ⟨b,Bo,p,hBo,Ge,hp,CK⟩
     |some b'=>
      rw[M4 j b' Dd]at hq;obtain⟨Bo',hBo',tU⟩:=Jh b' (GQ j b' Dd)
      have I0:b≠b':=by rintro rfl;have h1:=G9 Av;have h2:=G9 Dd;rw[h1]at h2;injection h2 with h2;exact Db h2
      exact hRo.sep b b' _ _ p q g I0 hBo hBo' Ge tU hp hq CK
   ·cases Av:place ids i with
    |none=>rw[GJ i Av]at hi;rw[M3 i Av];exact hr.fresh i hi
    |some b=>rw[Mt i b Av]at hi;have:=GQ i b Av;rw[Option.map_eq_none_iff,OE,FU]at hi;omega
   ·exact TReps.res ((f4 UN Ux k4 (NP.imp id (·.1)) hTo).bump AhT)
@[reducible] def frzA(A:AbsF):AbsF:=⟨λ{_} bl nx args kk=>IR bl (Cy args) (λbl' DF=>A.run bl' nx (args.map (frzV bl)) DF) kk⟩
theorem AlT{P:Program}{f:FuncId}{A:AbsF}(h:AbsOk P f A):AbsOk P f (frzA A):=by
 refine⟨h.fn,λbl nx args kk r hk=>?_⟩
 have hk:A.run (updL bl (CM bl (Cy args))) nx (args.map (frzV bl)) (λv rd wr=>kk v (Cy args++rd) (CM bl (Cy args)++wr))=some r:=by rw[<-RA];exact hk
 obtain⟨v,rd,wr,Ob,Dg⟩:=h.ok _ _ _ _ _ hk;refine⟨v,_,_,Ob,λAa Ah ok0 base pl w us hr CC=>?_⟩;obtain⟨h1,h2,h3⟩:=freeze (bl:=bl) hr (Cy args) λb hb=>Ah b (Dl _ hb)
 have Fc:∀b∈rd,updL Aa (CM bl (Cy args)) b=updL bl (CM bl (Cy args)) b:=λb hb=>by
  by_cases hm:b∈wids (CM bl (Cy args))
  ·exact Pr hm
  ·rw[GA hm,GA hm]
   exact Ah b (D7 _ hb)
 have key:∀(vs:List V)(us:List Value),(∀v∈vs,v∈args)->VReps (Al ok0 base pl Aa w) vs us->VReps (Al ok0 base pl (updL Aa (CM bl (Cy args))) w) (vs.map (frzV bl)) us:=by
  intro vs
  induction vs with
  |nil=>intro us _ h;exact h
  |cons v vs ih=>rintro us hm ⟨u,C4,e,q1,q2⟩;exact⟨u,C4,e,h3 v u (fO (hm v (by simp))) q1,ih C4 (λx hx=>hm x (by simp[hx])) q2⟩
 refine(Dg _ Fc ok0 base pl w us h1 (key args us (λ_ h=>h) CC)).mono λe w' ⟨u,Ai,q1,q2,q3,q4⟩=>?_;rw[LQ];exact⟨u,Ai,q1,q2,h2.trans q3,q4⟩
end
end Go.Lift
namespace Go.Lift
noncomputable section
open Go.RowKit
universe u
class Sl where
 u:Nat
variable[S:Sl]
def hid{α:Sort u}(a:α):α:=match S.u with|0=>a|_+1=>a
theorem Ad{α:Sort u}(a:α):hid a=a:=by unfold hid;cases S.u<;>rfl
@[reducible] def CT.Fn(R:Type):List CT->Type
 |[]=>R
 |.data τ::r=>τ.den->CT.Fn R r
 |.lsome e::r=>List e.den->CT.Fn R r
 |.tptrh _ ks _::r=>WayT ks->CT.Fn R r
 |.ptr _ _::r|.rowh _::r|.fn _ _::r|.maph _::r|.math _::r|.bself _::r|.bfnh _ _::r|.trowh _::r|.nilc::r|.nils::r|.junk::r=>CT.Fn R r
@[reducible] def ST.Fn(R:Type):List (Bool×List CT)->Type
 |[]=>R
 |t::r=>CT.Fn (ST.Fn R r) t.2
@[reducible] def BT.Fn(R:Type):List BT->Type
 |[]=>R
 |.cells _ l::r=>CT.Fn (BT.Fn R r) l
 |.row _ e::r=>List e.den->BT.Fn R r
 |.map _ k v _::r=>List (k.den×v.den)->BT.Fn R r
 |.mat _ _ e::r=>List (List e.den)->BT.Fn R r
 |.tree _ e::r=>List e.ty.den->BT.Fn R r
 |.fmap _ _::r=>BT.Fn R r
def CT.app{R:Type}:(l:List CT)->CT.Fn R l->CT.dens l->R
 |[],f,_=>f
 |.data _::r,f,d=>CT.app r (f d.1) d.2
 |.lsome _::r,f,d=>CT.app r (f d.1) d.2
 |.tptrh _ _ _::r,f,d=>CT.app r (f d.1) d.2
 |.ptr _ _::r,f,d|.rowh _::r,f,d|.fn _ _::r,f,d|.maph _::r,f,d|.math _::r,f,d|.bself _::r,f,d|.bfnh _ _::r,f,d|.trowh _::r,f,d|.nilc::r,f,d|.nils::r,f,d|.junk::r,f,d=>CT.app r f d
def ST.app{R:Type}:(l:List (Bool×List CT))->ST.Fn R l->ST.dens l->R
 |[],f,_=>f
 |t::r,f,d=>ST.app r (CT.app t.2 f d.1) d.2
def BT.app{R:Type}:(l:List BT)->BT.Fn R l->BT.dens l->R
 |[],f,_=>f
 |.cells _ l::r,f,d=>BT.app r (CT.app l f d.1) d.2
 |.row _ _::r,f,d=>BT.app r (f d.1) d.2
 |.map _ _ _ _::r,f,d=>BT.app r (f d.1) d.2
 |.mat _ _ _::r,f,d=>BT.app r (f d.1) d.2
 |.tree _ _::r,f,d=>BT.app r (f d.1) d.2
 |.fmap _ _::r,f,d=>BT.app r f d
def CT.lam{R:Type}:(l:List CT)->(CT.dens l->R)->CT.Fn R l
 |[],f=>f ()
 |.data _::r,f=>λx=>CT.lam r λd=>f (x,d)
 |.lsome _::r,f=>λx=>CT.lam r λd=>f (x,d)
 |.tptrh _ _ _::r,f=>λx=>CT.lam r λd=>f (x,d)
 |.ptr _ _::r,f|.rowh _::r,f|.fn _ _::r,f|.maph _::r,f|.math _::r,f|.bself _::r,f|.bfnh _ _::r,f|.trowh _::r,f|.nilc::r,f|.nils::r,f|.junk::r,f=>CT.lam r f
def ST.lam{R:Type}:(l:List (Bool×List CT))->(ST.dens l->R)->ST.Fn R l
 |[],f=>f ()
 |t::r,f=>CT.lam t.2 λa=>ST.lam r λd=>f (a,d)
def BT.lam{R:Type}:(l:List BT)->(BT.dens l->R)->BT.Fn R l
 |[],f=>f ()
 |.cells _ l::r,f=>CT.lam l λa=>BT.lam r λd=>f (a,d)
 |.row _ _::r,f=>λx=>BT.lam r λd=>f (x,d)
 |.map _ _ _ _::r,f=>λx=>BT.lam r λd=>f (x,d)
 |.mat _ _ _::r,f=>λx=>BT.lam r λd=>f (x,d)
 |.tree _ _::r,f=>λx=>BT.lam r λd=>f (x,d)
 |.fmap _ _::r,f=>BT.lam r f
@[reducible] def VF(R:Type)(s:List (Bool×List CT))(b:List BT):Type:=ST.Fn (BT.Fn R b) s
def vapp{R:Type}(s:List (Bool×List CT))(b:List BT)(f:VF R s b)(d:ST.dens s×BT.dens b):R:=BT.app b (ST.app s f d.1) d.2
def vlam{R:Type}(s:List (Bool×List CT))(b:List BT)(g:ST.dens s×BT.dens b->R):VF R s b:=ST.lam s λx=>BT.lam b λy=>g (x,y)
def CT.some?:List CT->Bool
 |[]=>false
 |.data _::_=>true
 |.lsome _::_=>true
 |.tptrh _ _ _::_=>true
 |.ptr _ _::r|.rowh _::r|.fn _ _::r|.maph _::r|.math _::r|.bself _::r|.bfnh _ _::r|.trowh _::r|.nilc::r|.nils::r|.junk::r=>CT.some? r
def ST.some?:List (Bool×List CT)->Bool
 |[]=>false
 |t::r=>CT.some? t.2||ST.some? r
def BT.some?:List BT->Bool
 |[]=>false
 |.cells _ l::r=>CT.some? l||BT.some? r
 |.fmap _ _::r=>BT.some? r
 |_::_=>true
@[reducible] def selT(A B:Type):Bool->Type
 |true=>A
 |false=>B
@[reducible] def KF(R:Type)(s:List (Bool×List CT))(b:List BT):Type:=selT (VF R s b) (Unit->VF R s b) (ST.some? s||BT.some? b)
def selk{R:Type}{s:List (Bool×List CT)}{b:List BT}(f:VF R s b):(c:Bool)->selT (VF R s b) (Unit->VF R s b) c
 |true=>f
 |false=>λ_=>f
def klam{R:Type}(s:List (Bool×List CT))(b:List BT)(g:ST.dens s×BT.dens b->R):KF R s b:=selk (vlam s b g) _
def sgE(ps:List (Bool×List CT))(is:List BT)(rs:List (Bool×List CT))(os:List BT)(f:(β:Type)->VF (KF (Option β) rs os->Option β) ps is):Spec:=
 ⟨ps,is,rs,os,λ{β} x k=>vapp ps is (f β) x (klam rs os k)⟩
abbrev sg(ps:List (Bool×List CT))(is:List BT)(rs:List (Bool×List CT))(os:List BT)(f:{β:Type}->VF (KF (Option β) rs os->Option β) ps is):Spec:=sgE ps is rs os λβ=>f (β:=β)
theorem W6{F:Type->Type}(s:(β:Type)->F β):(λβ=>hid (s β))=s:=funext λβ=>Ad (s β)
@[reducible] def OF(β R:Type):List (AExit×View)->Type
 |[]=>R
 |x::r=>KF (Option β) x.2.params x.2.ins->OF β R r
def oapp{β R:Type}:(l:List (AExit×View))->OF β R l->Outs.K β l->R
 |[],f,_=>f
 |x::r,f,ks=>oapp r (f (klam x.2.params x.2.ins ks.1)) ks.2
abbrev Pc.T(p:Pc)(β:Type):Type:=OF β (VF (Option β) p.v.params p.v.ins) p.o
def Pc.un(p:Pc)(f:(β:Type)->p.T β):p.G:=λ{β} d ks=>vapp _ _ (oapp p.o (f β) ks) d
def AlU(P:Program)(f:Nat):Fun->Prop
 |.spec S=>SpecOk P f S
 |.rows F=>RowOk P f F
 |.bld F=>BldOk P f F
 |.abs A=>AbsOk P f A
structure Ent (P:Program) where
 no:Nat
 F:Fun
 ok:AlU P no F
def Ent.of{P:Program}{no:Nat}{S:Spec}(h:SpecOk P no S):Ent P:=⟨no,.spec S,h⟩
@[reducible] def gam{P:Program}(l:List (Ent P)):Nat->Option Fun:=Ez (l.map λe=>(e.no,e.F))
theorem Js{P:Program}:∀l:List (Ent P),ΓOk P (gam l)
 |[]=>ΓOk_nil
 |⟨_,.spec _,h⟩::l=>ΓOk_cons h (Js l)
 |⟨_,.rows _,h⟩::l=>ΓOk_row h (Js l)
 |⟨_,.bld _,h⟩::l=>ΓOk_bld h (Js l)
 |⟨_,.abs _,h⟩::l=>ΓOk_abs h (Js l)
structure PB (P:Program) where
 q:Nat
 p:Pc
 f:(β:Type)->p.T β
 ok:p.Ok P (p.un f)
@[reducible] def cuts{P:Program}(l:List (PB P)):Nat->Option Cut:=Ez (l.map λb=>(b.q,b.p.cut (b.p.un b.f)))
theorem W7{P:Program}{n m q:Nat}{c:Code}:∀{l:List (PB P)},l.map (λb=>(find b.q q c,b.p.v.m,b.p.n,b.p.m))=l.map (λb=>([b.p.c],m,n,m))->Nk P n m q c (cuts l)
 |[],_=>AlK
 |b::l,h=>by simp only[CE,De,BC]at h;obtain⟨⟨h1,h2,h3,h4⟩,h5⟩:=h;have hb:=b.ok;unfold Pc.Ok at hb;rw[h3,h4]at hb;exact AlL h1 h2 hb (W7 h5)
theorem Ka{P:Program}(Dc:P.follows .mixedOrders=true){X:Ctx}(hT:TOk P X.T)(es:List (Ent P))(hX:X.Γ=gam es)(cs:List (PB P)){ps rs:List (Bool×List CT)}{is os:List BT}{f:FuncId}{fn:Func}(vs:List RS){s:(β:Type)->VF (KF (Option β) rs os->Option β) ps is}(hf:P.funcs[f]?=some fn)(hc:((fn.name== "runtime.NumGoroutine"),fn.body,fn.results.toList,(Nat.beq vs.length rs.length&&(ST.tidy rs&&Nat.ble ps.length fn.ntmps)),cs.map (λb=>(find b.q 1 (Az fn),b.p.v.m,b.p.n,b.p.m)))=(false,some (Az fn),vs.map RS.toVar,true,cs.map (λb=>([b.p.c],is.length,fn.ntmps,is.length))))(h:∀{β:Type}(x:ST.dens ps×BT.dens is)(k:ST.dens rs×BT.dens os->Option β),exec X fn.ntmps (cuts cs) 1 (Az fn) ((vIn (sgE ps is rs os s)).mk' x) (retK X.T (sgE ps is rs os s) vs k)=vapp ps is (s β) x (klam rs os k)):SpecOkB P f (sgE ps is rs os λβ=>hid (s β)):=by
 simp only[BC]at hc;obtain⟨h1,h2,h3,h4,h5⟩:=hc;rw[W6];exact pcSB Dc X hT (hX▸Js es) (cuts cs) vs hf h1 h2 h3 h4 (W7 h5) h
theorem gK{P:Program}(Dc:P.follows .mixedOrders=true){X:Ctx}(hT:TOk P X.T)(es:List (Ent P))(hX:X.Γ=gam es)(cs:List (PB P)){ps rs:List (Bool×List CT)}{is os:List BT}{f:FuncId}{fn:Func}(vs:List RS){s:(β:Type)->VF (KF (Option β) rs os->Option β) ps is}(hf:P.funcs[f]?=some fn)(hc:((fn.name== "runtime.NumGoroutine"),fn.body,fn.results.toList,(Nat.beq vs.length rs.length&&(ST.tidy rs&&Nat.ble ps.length fn.ntmps)),cs.map (λb=>(find b.q 1 (Az fn),b.p.v.m,b.p.n,b.p.m)))=(false,some (Az fn),vs.map RS.toVar,true,cs.map (λb=>([b.p.c],is.length,fn.ntmps,is.length))))(h:∀{β:Type}(x:ST.dens ps×BT.dens is)(k:ST.dens rs×BT.dens os->Option β),exec X fn.ntmps (cuts cs) 1 (Az fn) ((vIn (sgE ps is rs os s)).mk' x) (retK X.T (sgE ps is rs os s) vs k)=vapp ps is (s β) x (klam rs os k)):SpecOk P f (sgE ps is rs os λβ=>hid (s β)):=(Ka Dc hT es hX cs vs hf hc h).spec
theorem Kb{P:Program}(Dc:P.follows .mixedOrders=true){X:Ctx}(hT:TOk P X.T)(es:List (Ent P))(hX:X.Γ=gam es)(cs:List (PB P)){p:Pc}{g:Nat->(β:Type)->p.T β}(hc:((p.o.all λx=>Nat.beq x.2.m p.m),cs.map (λb=>(find b.q 1 (E1 p.c),b.p.v.m,b.p.n,b.p.m)))=(true,cs.map (λb=>([b.p.c],p.m,p.n,p.m))))(hv:p.v.m=p.m)(hl:p.c=.loop (E1 p.c))(h0:∀{β:Type}(d:p.v.den)(ks:Outs.K β p.o),p.un (g 0) d ks=none)(h:∀(i:Nat){β:Type}(d:p.v.den)(ks:Outs.K β p.o),exec X p.n (cuts cs) 1 (E1 p.c) (p.v.mk' d) (RF p.v (λd'=>p.un (g i) d' ks) p.o ks)=p.un (g (i+1)) d ks):p.Ok P (p.un λβ=>hid (g fuel β)):=by
 simp only[BC]at hc;rw[W6];exact pcL Dc X hT (hX▸Js es) (G:=λi=>p.un (g i)) (cuts cs) hl hv hc.1 (W7 hc.2) h0 h fuel
theorem RH{P:Program}(Dc:P.follows .mixedOrders=true){X:Ctx}(hT:TOk P X.T)(es:List (Ent P))(hX:X.Γ=gam es)(cs:List (PB P))(q:Nat){p:Pc}{g:(β:Type)->p.T β}(hc:((p.o.all λx=>Nat.beq x.2.m p.m),cs.map (λb=>(find b.q q p.c,b.p.v.m,b.p.n,b.p.m)))=(true,cs.map (λb=>([b.p.c],p.m,p.n,p.m))))(h:∀{β:Type}(d:p.v.den)(ks:Outs.K β p.o),exec X p.n (cuts cs) q p.c (p.v.mk' d) (outK p.o ks)=p.un g d ks):p.Ok P (p.un λβ=>hid (g β)):=by
 simp only[BC]at hc;rw[W6];exact pcE Dc X hT (hX▸Js es) q (cuts cs) hc.1 (W7 hc.2) h
noncomputable def Ent.inl{P:Program}(Dc:P.follows .mixedOrders=true){X:Ctx}(hT:TOk P X.T)(es:List (Ent P))(hX:X.Γ=gam es){no:Nat}{fn:Func}{rs:List RS}(m:Nat)(hf:P.funcs[no]?=some fn)(hc:((fn.name== "runtime.NumGoroutine"),fn.body,fn.results.toList)=(false,some (Az fn),rs.map RS.toVar)):Ent P:=
 ⟨no,.abs (Go.Lift.inl X fn.ntmps (Az fn) rs m),AlS Dc hT (hX▸Js es) m hf hc⟩
noncomputable def Ent.hand{P:Program}{no:Nat}{S:Spec}(h:SpecOkB P no S)(hs:S.outs=S.ins)(hc:(BT.hand S.ins&&(ST.bnd S.ins.length S.res&&BT.bnd S.ins.length S.ins))=true):Ent P:=
 ⟨no,.abs (Go.Lift.hand S hs),Aa8 h hs hc⟩
noncomputable def Ent.handf{P:Program}{no:Nat}{S:Spec}(h:SpecOkB P no S)(hs:S.outs=S.ins)(hc:(BT.hand S.ins&&(ST.bnd S.ins.length S.res&&BT.bnd S.ins.length S.ins))=true):Ent P:=
 ⟨no,.abs (frzA (Go.Lift.hand S hs)),AlT (Aa8 h hs hc)⟩
end
end Go.Lift
