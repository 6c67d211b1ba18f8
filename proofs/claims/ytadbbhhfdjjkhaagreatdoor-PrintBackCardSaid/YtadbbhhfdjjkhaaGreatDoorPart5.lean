/- Part5: LiftAb, LiftAc, LiftUc. -/
import Derived.Test.YtadbbhhfdjjkhaaGreatDoorPart4
set_option linter.unusedVariables false
set_option linter.unusedSectionVars false
set_option linter.unusedSimpArgs false
namespace Go.Lift
noncomputable section
def HW:List C->List Nat
 |[]=>[]
 |.ptr b _::r=>b::HW r
 |.row b _::r=>b::HW r
 |.fn _ BN::r=>BN++HW r
 |.mapv b::r=>b::HW r
 |.mat b _::r=>b::HW r
 |.mrow b _ _::r=>b::HW r
 |.sub b _ _ _::r=>b::HW r
 |.bself b::r=>b::HW r
 |.bfn _ b::r=>b::HW r
 |.trow b _ _::r=>b::HW r
 |.tptr b _ _ _ _::r=>b::HW r
 |_::r=>HW r
def AqU:V->List Nat
 |.c x=>HW [x]
 |.agg cs=>HW cs
 |.eptr b _ _ _=>[b]
 |.mcell b _ _=>[b]
 |.mptr b _ _ _ _=>[b]
 |.arr b _ _ _=>[b]
 |_=>[]
def J7:List V->List Nat
 |[]=>[]
 |v::r=>AqU v++J7 r
def HX(bl:Nat->Option Blk):Nat->List Nat->List Nat->List Nat
 |0,_,acc=>acc
 |_+1,[],acc=>acc
 |n+1,b::r,acc=>
  bif memB b acc then HX bl n r acc else
   match bl b with
   |some (.cells _ cs)=>HX bl n (HW cs++r) (acc++[b])
   |some _=>HX bl n r (acc++[b])
   |none=>HX bl n r acc
def Nc(bl:Nat->Option Blk):List Nat->List (Nat×Blk)
 |[]=>[]
 |b::r=>
  match bl b with
  |some B=>(b,B)::Nc bl r
  |none=>Nc bl r
def QE:List V->Option (List (Bool×List C))
 |[]=>some []
 |.c x::r=>
  match QE r with
  |some ts=>some ((false,[x])::ts)
  |none=>none
 |.agg cs::r=>
  match QE r with
  |some ts=>some ((true,cs)::ts)
  |none=>none
 |_::_=>none
def tupV:List V->Option V
 |[v]=>some v
 |vs=>
  match QE vs with
  |some ts=>some (.tup ts)
  |none=>none
def inlK{β:Type}(T:TypeId->Option TI)(rs:List RS)(ids new:List Nat)(kk:K β):Kx β:=λe σ=>
 match e with
 |.exit _=>none
 |_=>
  match Ir T σ.tm σ.bl rs with
  |none=>none
  |some vs=>
   match tupV vs with
   |none=>none
   |some v=>bif Jy (wids σ.bl)&&(LI (ids++new) (wids σ.bl)&&LI (wids σ.bl) ids)then kk v (ids++new) σ.bl else none
def AdM{β:Type}(X:Ctx)(n:Nat)(c:Code)(rs:List RS)(m:Nat)(bl:Nat->Option Blk)(nx:Nat)(args:List V)(kk:K β):Option β:=
 bif Qt bl (AY nx m)&&Nat.ble args.length n then
  exec {X with A:=some (HX bl 99 (J7 args) []++AY nx m)} n (λ_=>none) 1 c ⟨numV 0 args,Nc bl (HX bl 99 (J7 args) []),nx⟩ (inlK X.T rs (HX bl 99 (J7 args) []) (AY nx m) kk)
 else none
@[reducible] def inl(X:Ctx)(n:Nat)(c:Code)(rs:List RS)(m:Nat):AbsF:=⟨λbl nx args kk=>AdM X n c rs m bl nx args kk⟩
theorem YF{ids:List Nat}:∀{l:List Nat},LI ids l=true->∀b∈l,b∈ids
 |[],_,b,h=>by simp at h
 |c::r,h,b,hb=>by
  obtain⟨h1,h2⟩:=andB h;rcases Bw.1 hb with rfl|hb
  ·exact HT.1 h1
  ·exact YF h2 b hb
theorem AdN{ids:List Nat}:∀{l:List LogE},lJ ids l=true->∀e∈l,∀b∈e.rd,b∈ids
 |[],_,e,h=>by simp at h
 |c::r,h,e,he=>by
  obtain⟨h1,h2⟩:=andB h;rcases Bw.1 he with rfl|he
  ·exact YF h1
  ·exact AdN h2 e he
theorem nO{bl:Nat->Option Blk}:∀{l:List Nat}{i:Nat},look (Nc bl l) i=if i∈l then bl i else none
 |[],i=>by simp[Nc,Fc,EQ]
 |b::r,i=>by
  simp only[Nc];cases hb:bl b with
  |none=>
   simp only;rw[nO];by_cases h:i=b
   ·subst h;simp[hb]
   ·simp[h]
  |some B=>
   simp only[Fc,EQ];by_cases h:i=b
   ·subst h;simp[hb]
   ·rw[Io h,Cd,nO];simp[h]
theorem AdO:∀{l:List (Nat×Blk)}{i:Nat},i∉wids l->look l i=none
 |[],_,_=>rfl
 |(j,x)::r,i,h=>by simp only[wids,Bw,not_or]at h;rw[EQ,Io h.1,Cd,AdO h.2]
theorem AdP:∀{l:List (Nat×Blk)}{f:Nat->Option Blk}{i:Nat},(wids l).Nodup->updL f l i=if i∈wids l then look l i else f i
 |[],_,_,_=>by simp[wids,updL]
 |(j,x)::r,f,i,h=>by
  obtain⟨h1,h2⟩:=LD.1 (show(j::wids r).Nodup from h);simp only[updL];rw[AdP h2];by_cases hi:i=j
  ·subst hi
   simp[h1,wids,Fc,EQ,upd]
  ·simp only[wids,Bw,hi,false_or,Fc,EQ,Io hi,Cd,upd,CF]
theorem AdQ{E:Env}:∀{vs:List V}{us:List Value}{ts:List (Bool×List C)},VReps E vs us->QE vs=some ts->TReps E ts us
 |[],us,ts,h,ht=>by simp only[QE,Ag]at ht;subst ht;exact h
 |v::vs,us,ts,⟨u,CL,e,h1,h2⟩,ht=>by
  cases v<;>simp only[QE]at ht<;>first|(cases ht;done)|skip
  all_goals
   split at ht
   ·rename_i AKo Gu
    simp only[Ag]at ht;subst ht;refine⟨u,CL,e,?_,AdQ h2 Gu⟩
    first|exact⟨[u],⟨u,[],rfl,h1,rfl⟩,by simp⟩|exact h1
   ·cases ht
theorem AqV{E:Env}{vs:List V}{us:List Value}{v:V}(h:VReps E vs us)(ht:tupV vs=some v):VRep E v (HU us):=by
 unfold tupV at ht;split at ht
 ·simp only[Ag]at ht
  subst ht;obtain⟨u,CL,e,h1,h2⟩:=h;have h2:CL=[]:=h2;subst h2 e;exact h1
 ·rename_i AW
  split at ht
  ·rename_i ts Gu
   simp only[Ag]at ht;subst ht;refine⟨us,?_,AdQ h Gu⟩;have hl:=VReps.length h
   match us,hl with
   |[],_=>rfl
   |[u],hl=>
    exfalso
    match vs,hl,AW with
    |[v],_,AW=>exact AW v rfl
   |u::u2::us,_=>rfl
  ·cases ht
theorem AqW{P:Program}(Dx:P.follows .mixedOrders=true){X:Ctx}(hT:TOk P X.T)(hΓ:ΓOk P X.Γ){f:FuncId}{fn:Func}{c:Code}{rs:List RS}(m:Nat)(hf:P.funcs[f]?=some fn)(hc:((fn.name== "runtime.NumGoroutine"),fn.body,fn.results.toList)=(false,some c,rs.map RS.toVar)):AbsOk P f (inl X fn.ntmps c rs m):=by
 simp only[BQ]at hc;obtain⟨EW,hb,Lv⟩:=hc;refine⟨⟨fn,hf,EW,by rw[hb];rfl⟩,λbl nx args kk r hk=>?_⟩;simp only[AdM]at hk;generalize Py:HX bl 99 (J7 args) []=ids at hk;generalize I9:AY nx m=new at hk;cases GF:(Qt bl new&&Nat.ble args.length fn.ntmps)with
 |false=>rw[GF]at hk;cases hk
 |true=>
  rw[GF,Ar]at hk;obtain⟨GF,Bp⟩:=andB GF;have GF:=mI GF;have Bp:=HQ Bp
  obtain⟨e',σ',hk,hw⟩:=n9 (R:=Adr) (fr:=λF:{F:Nat->Option Blk // ∀b∈ids++new,F b=none}=>frF (ids++new) F.1 F.2) Dx (X:={X with A:=some (ids++new)})
   (λlog hl e he b hb i=>AdN hl e he b hb) hT hΓ (λ_ _ h=>by cases h) hk
  have Fg:(e'=.normal\/e'=.ret)/\∃vs v,Ir X.T σ'.tm σ'.bl rs=some vs/\tupV vs=some v/\(wids σ'.bl).Nodup/\(∀b∈wids σ'.bl,b∈ids++new)/\(∀b∈ids,b∈wids σ'.bl)/\kk v (ids++new) σ'.bl=some r:=by
   have go:(match Ir X.T σ'.tm σ'.bl rs with
     |none=>none
     |some vs=>
      match tupV vs with
      |none=>none
      |some v=>bif Jy (wids σ'.bl)&&(LI (ids++new) (wids σ'.bl)&&LI (wids σ'.bl) ids)then kk v (ids++new) σ'.bl else none)=some r->
     ∃vs v,Ir X.T σ'.tm σ'.bl rs=some vs/\tupV vs=some v/\(wids σ'.bl).Nodup/\(∀b∈wids σ'.bl,b∈ids++new)/\(∀b∈ids,b∈wids σ'.bl)/\kk v (ids++new) σ'.bl=some r:=by
    intro h;split at h
    ·cases h
    rename_i vs D7;split at h
    ·cases h
    rename_i v hv;cases HH:(Jy (wids σ'.bl)&&(LI (ids++new) (wids σ'.bl)&&LI (wids σ'.bl) ids))with
    |false=>rw[HH]at h;cases h
    |true=>rw[HH,Ar]at h;obtain⟨c1,c2⟩:=andB HH;obtain⟨c2,c3⟩:=andB c2;exact⟨vs,v,D7,hv,Q6 c1,YF c2,YF c3,h⟩
   cases e' with
   |normal=>exact⟨.inl rfl,go hk⟩
   |ret=>exact⟨.inr rfl,go hk⟩
   |exit id=>cases hk
  obtain⟨Lm,vs,v,D7,hv,GX,Bf,AHp,hk⟩:=Fg;refine⟨v,ids++new,σ'.bl,hk,λAa Aj ok0 base pl w us hr Db=>?_⟩
  let F:Nat->Option Blk:=λi=>if i∈ids++new then none else Aa i
  have hF:∀b∈ids++new,F b=none:=λb hb=>if_pos hb
  have IC:ov F (look (Nc bl ids))=Aa:=by
   funext i;simp only[ov,nO];by_cases hi:i∈ids
   ·rw[if_pos hi]
    have h2:=Aj i (D0 _ hi);cases CP:bl i with
    |some B=>simp only;rw[h2,CP]
    |none=>simp only[F,if_pos (D0 new hi)];rw[h2,CP]
   ·rw[if_neg hi]
    simp only[F];by_cases hn:i∈ids++new
    ·rw[if_pos hn]
     have Ex:i∈new:=(Cs.1 hn).resolve_left hi;rw[Aj i hn,GF i Ex]
    ·rw[if_neg hn]
  have AnH:ov F (look σ'.bl)=updL Aa σ'.bl:=by
   funext i;rw[AdP GX];simp only[ov];by_cases hi:i∈wids σ'.bl
   ·rw[if_pos hi]
    have:∀{l:List (Nat×Blk)},i∈wids l->∃B,look l i=some B:=by
     intro l
     induction l with
     |nil=>intro h;simp[wids]at h
     |cons p l ih=>
      intro h;rw[show look (p::l) i=bif Nat.beq i p.1 then some p.2 else look l i from EQ p.1 p.2 l i];by_cases hp:i=p.1
      ·rw[hp,Of];exact⟨p.2,rfl⟩
      ·rw[Io hp,Cd]
       exact ih (by simpa [wids,hp]using h)
    obtain⟨B,hB⟩:=this hi;rw[hB]
   ·rw[if_neg hi,AdO hi]
    simp only[F];by_cases hn:i∈ids++new
    ·rw[if_pos hn]
     have Ex:i∈new:=(Cs.1 hn).resolve_left λh=>hi (AHp i h);rw[Aj i hn,GF i Ex]
    ·rw[if_neg hn]
  have NB:us.length<=fn.ntmps:=by rw[VReps.length Db];exact Bp
  refine calls_of_wp hf hb ?_
  have WY:Rel fn.ntmps ok0 base pl (look (numV 0 args)) (ov F (look (Nc bl ids))) {tmps:=us.toArray++Array.replicate (fn.ntmps-us.toArray.size) undef,defers:=[]} w:=by rw[IC];refine⟨rfl,by simp;omega,λt v ht=>?_,hr⟩;obtain⟨_,u,h1,h2⟩:=VReps.get Db ht;simp only[Nat.sub_zero]at h1;rw[Fk,XJ (by simpa using(EN.1 h1).1),XN,h1];exact h2
  refine Fm (hw ⟨F,hF⟩ ok0 base pl _ w WY) λe a' w' ⟨he,Ak,BD,Cc⟩=>?_;simp only[IC,AnH]at BD Cc;obtain⟨B4,AM,NH⟩:=nM hT Lv D7 (blw:=updL Aa σ'.bl) (λb B h=>by rw[<-AnH];simp only[ov,h]) BD
  have EK:a'.defers=[]/\∃u,(results fn a'.tmps).run P w'=.ok u w'/\(∃u' Ak,Ending.returned u=.returned u'/\RelB ok0 base Ak (updL Aa σ'.bl) w'/\Step pl Aa w Ak (updL Aa σ'.bl) w'/\VRep (Ap ok0 base Ak (updL Aa σ'.bl) w') v u'):=
   ⟨BD.defers,_,AM,HU B4,Ak,rfl,BD.rel,Cc,AqV NH hv⟩
  rcases Lm with e1|e1<;>rw[e1]at he<;>subst he<;>exact EK
end
end Go.Lift
namespace Go.Lift
noncomputable section
def J8(R:List Nat)(bl:Nat->Option Blk):Nat->Option Blk:=λi=>bif memB i R then bl i else none
def Nd:Option Blk->Nat×Nat
 |some (.row _ _ ver _)=>(ver+1,0)
 |some (.tree _ _ ver Ah _ _)=>(ver+1,Ah)
 |_=>(0,0)
def AdR(f:Nat->Nat×Nat):C->C
 |.row b ver=>.row b (ver+(f b).1)
 |.trow b ver p=>.trow b (ver+tv (f b).1 (f b).2 p) p
 |.tptr b ver p i o=>.tptr b (ver+tv (f b).1 (f b).2 p) p i o
 |c=>c
def YG(f:Nat->Nat×Nat):List C->List C
 |[]=>[]
 |c::r=>AdR f c::YG f r
def LP(f:Nat->Nat×Nat)(n:Nat×Nat):Blk->Blk
 |.cells t cs=>.cells t (YG f cs)
 |.row t e ver l=>.row t e (ver+n.1) l
 |.tree t e ver Ah h l=>.tree t e (ver+n.1) (Ah+n.2) h l
 |B=>B
def nQ(f:Nat->Nat×Nat):List (Bool×List C)->List (Bool×List C)
 |[]=>[]
 |t::r=>(t.1,YG f t.2)::nQ f r
def KQ(f:Nat->Nat×Nat):List Nat->List Blk->List Blk
 |i::is,B::bs=>LP f (f i) B::KQ f is bs
 |_,_=>[]
def YH(bl:Nat->Option Blk)(R:List Nat):List Nat->Bool
 |[]=>true
 |i::r=>(memB i R||(bl i).isNone)&&YH bl R r
def BT.hand:List BT->Bool
 |[]=>true
 |.mat _ _ _::_=>false
 |_::r=>BT.hand r
def AdS(ps:List (Bool×List CT))(is:List BT)(bl:Nat->Option Blk)(nx:Nat)(args:List V):Option (List Nat×(ST.dens ps×BT.dens is)):=
 match idsB bl nx is 0 (SB ps args)with
 |none=>none
 |some ids=>
  match Hg bl ids ps args with
  |none=>none
  |some x=>
   match Dd bl ids is ids with
   |none=>none
   |some y=>bif Jy ids&&!meet (FU ps args++ES bl is ids) ids then some (ids,(x,y))else none
def Tm(R ids:List Nat)(bl:Nat->Option Blk):Nat->Nat×Nat:=λb=>bif memB b ids then Nd (J8 R bl b)else(0,0)
def AdT{α:Type}:List α->Bool
 |[]=>true
 |_::_=>false
def AdU{β:Type}(ps rs:List (Bool×List CT))(is:List BT)(run:ST.dens ps×BT.dens is->(ST.dens rs×BT.dens is->Option β)->Option β)(bl:Nat->Option Blk)(nx:Nat)(args:List V)(kk:K β):Option β:=
 match AdS ps is (J8 (HX bl 99 (J7 args) []) bl) nx args with
 |none=>none
 |some (ids,d)=>
  bif YH bl (HX bl 99 (J7 args) []) ids&&((ST.flat rs&&BT.flat is)||AdT (FU ps args++ES (J8 (HX bl 99 (J7 args) []) bl) is ids))then
   run d λz=>kk (resV (nQ (Tm (HX bl 99 (J7 args) []) ids bl) (mkS ids rs z.1))) (HX bl 99 (J7 args) []++ids)
    (ids.zip (KQ (Tm (HX bl 99 (J7 args) []) ids bl) ids (mkB ids is z.2)))
  else none
@[reducible] def hand(S:Spec)(hs:S.outs=S.ins):AbsF:=⟨λ{β} bl nx args kk=>AdU (β:=β) S.params S.res S.ins (λd k=>S.run d (hs▸k)) bl nx args kk⟩
structure Bump (f:Nat->Nat×Nat) (E E':Env):Prop where
 w:E'.w=E.w
 ok:E'.ok=E.ok
 base:E'.base=E.base
 pl:E'.pl=E.pl
 row:∀b t e ver' l,E'.bl b=some (.row t e ver' l)->∃ver,E.bl b=some (.row t e ver l)/\ver'=ver+(f b).1
 tree:∀b t e ver' B9 h l,E'.bl b=some (.tree t e ver' B9 h l)->∃ver Ah,E.bl b=some (.tree t e ver Ah h l)/\ver'=ver+(f b).1/\B9=Ah+(f b).2
 mat:∀b t et e ver Ah h l,E'.bl b=some (.mat t et e ver Ah h l)->E.bl b=some (.mat t et e ver Ah h l)
theorem AdV(a b n m:Nat)(p:Path):tv (a+n) (b+m) p=tv a b p+tv n m p:=by cases p<;>simp only[tv]<;>omega
section
variable{f:Nat->Nat×Nat}{E E':Env}
theorem CRep.bump(hb:Bump f E E'):∀{c:C}{v:Value},CRep E c v->CRep E' (AdR f c) v
 |.bool _,_,h=>h
 |.int _ _,_,h=>h
 |.str _,_,h=>h
 |.err _,_,h=>h
 |.list e l,v,h=>by show DRep E'.w E'.ok _ _ _;rw[hb.w,hb.ok];exact h
 |.nils,_,h=>h
 |.nilc,_,h=>h
 |.lsome e l,v,h=>by show DRep E'.w E'.ok _ _ _/\_;rw[hb.w,hb.ok];exact h
 |.nilp,_,h=>h
 |.ptr b o,v,h=>by show ∃g,E'.pl b=_/\_;rw[hb.pl];exact h
 |.row b ver,v,⟨h1,sv,Ac,h2,h3⟩=>⟨h1,sv,Ac,by rw[hb.pl];exact h2,λt e ver' l h=>by obtain⟨Dk,h4,h5⟩:=hb.row b t e ver' l h;obtain⟨h6,h7⟩:=h3 t e Dk l h4;exact⟨by omega,λh8=>h7 (by omega)⟩⟩
 |.fn g BN,v,h=>by show ∃gs:List Nat,BN.map E'.pl=_/\_;rw[hb.pl];exact h
 |.nilfn,_,h=>h
 |.mapv b,v,h=>by show ∃g,E'.pl b=_/\_;rw[hb.pl];exact h
 |.mat b ver,v,⟨h1,sv,Ac,h2,h3⟩=>⟨h1,sv,Ac,by rw[hb.pl];exact h2,λt et e ver' Ah h l hh=>h3 t et e ver' Ah h l (hb.mat b _ _ _ _ _ _ _ hh)⟩
 |.mrow b Ah i,v,⟨h1,sv,Ac,h2,h3⟩=>⟨h1,sv,Ac,by rw[hb.pl];exact h2,λt et e ver' Ah h l hh=>h3 t et e ver' Ah h l (hb.mat b _ _ _ _ _ _ _ hh)⟩
 |.sub b ver i j,v,⟨h1,sv,Ac,h2,h3⟩=>⟨h1,sv,Ac,by rw[hb.pl];exact h2,λt e ver' l h=>by obtain⟨Dk,h4,h5⟩:=hb.row b t e ver' l h;obtain⟨h6,h7⟩:=h3 t e Dk l h4;exact⟨by omega,λh8=>h7 (by omega)⟩⟩
 |.bself b,v,h=>by show _\/∃g,E'.pl b=_/\_;rw[hb.pl];exact h
 |.trow b ver p,v,⟨h1,sv,Ac,h2,h3⟩=>⟨h1,sv,Ac,by rw[hb.pl];exact h2,λt e ver' Ah h l hh=>by obtain⟨Dk,FQ,h4,h5,h8⟩:=hb.tree b t e ver' Ah h l hh;obtain⟨h6,h7⟩:=h3 t e Dk FQ h l h4;rw[h5,h8,AdV];exact⟨by omega,λh8=>h7 (by omega)⟩⟩
 |.bfn g b,v,h=>by show ∃g,E'.pl b=_/\_;rw[hb.pl];exact h
 |.tptr b ver p i o,v,⟨sv,Ac,ad,h2,hv,h3⟩=>⟨sv,Ac,ad,by rw[hb.pl];exact h2,hv,λt e ver' Ah h l hh=>by obtain⟨Dk,FQ,h4,h5,h8⟩:=hb.tree b t e ver' Ah h l hh;obtain⟨h6,h7⟩:=h3 t e Dk FQ h l h4;rw[h5,h8,AdV];exact⟨by omega,λh8=>h7 (by omega)⟩⟩
 |.junk,_,h=>h
theorem CReps.bump(hb:Bump f E E'):∀{cs:List C}{vs:List Value},CReps E cs vs->CReps E' (YG f cs) vs
 |[],_,h=>h
 |_::_,_,⟨v,Av,e,h1,h2⟩=>⟨v,Av,e,h1.bump hb,CReps.bump hb h2⟩
theorem TReps.bump(hb:Bump f E E'):∀{ts:List (Bool×List C)}{vs:List Value},TReps E ts vs->TReps E' (nQ f ts) vs
 |[],_,h=>h
 |_::_,_,⟨v,Av,e,⟨xs,h1,h2⟩,h3⟩=>⟨v,Av,e,⟨xs,h1.bump hb,h2⟩,TReps.bump hb h3⟩
theorem FRep.bump(hb:Bump f E E'):∀{l:List (List UInt8×(FuncId×Nat))}{es:List MapEntry},FRep E l es->FRep E' l es
 |[],_,h=>h
 |_::_,_,⟨e,r,g,h1,h2,h3,h4,h5⟩=>⟨e,r,g,h1,h2,by rw[hb.pl];exact h3,h4,FRep.bump hb h5⟩
theorem BRep.bump(hb:Bump f E E')(n:Nat×Nat){B:Blk}{p:Pl}(h:BRep E B p):BRep E' (LP f n B) p:=by
 cases B with
 |dead=>exact trivial
 |cells t cs=>
  cases p with
  |row _ _=>exact h.elim
  |cells g=>obtain⟨vs,h1,h2⟩:=h;exact⟨vs,by rw[hb.w];exact h1,h2.bump hb⟩
 |map t k v vg l=>
  cases p with
  |row _ _=>exact h.elim
  |cells g=>obtain⟨es,CU,h1,h2⟩:=h;exact⟨es,CU,by rw[hb.w];exact h1,by rw[hb.w,hb.ok];exact h2⟩
 |fmap t l=>
  cases p with
  |row _ _=>exact h.elim
  |cells g=>obtain⟨es,CU,h1,h2⟩:=h;exact⟨es,CU,by rw[hb.w];exact h1,h2.bump hb⟩
 |row t e ver l=>
  cases p with
  |cells _=>exact h.elim
  |row sv Ac=>obtain⟨h0,xs,h1,h2⟩:=h;exact⟨h0,xs,by rw[hb.w,hb.ok];exact h1,by rw[hb.w,hb.base];exact h2⟩
 |mat t et e ver Ah hole l=>
  cases p with
  |cells _=>exact h.elim
  |row sv Ac=>have hM:MatOk E t et e hole l sv Ac:=h;obtain⟨vs,h1,h2⟩:=hM.outer;refine⟨⟨vs,by rw[hb.w,hb.base];exact h1,h2⟩,hM.len,hM.hole,λi s x hs hx=>?_,hM.sep0,hM.sep⟩;obtain⟨xs,h5,h6⟩:=hM.inner i s x hs hx;exact⟨xs,by rw[hb.w,hb.ok];exact h5,by rw[hb.w,hb.base];exact h6⟩
 |tree t e ver Ah hole l=>
  cases p with
  |cells _=>exact h.elim
  |row sv Ac=>have hT:TreeOk E t e hole l sv Ac:=h;obtain⟨hv,F,h1,h2,h3⟩:=hT.rep;exact⟨⟨hv,F,by rw[hb.w,hb.ok,hb.base];exact h1,h2,h3⟩,hT.top⟩
end
theorem AdW{f:Nat->Nat×Nat}:∀{ids:List Nat}{Bs:List Blk},ids.length=Bs.length->(KQ f ids Bs).length=Bs.length
 |[],[],_=>rfl
 |_::is,_::bs,h=>by simp only[KQ,AX];rw[AdW (by simpa using h)]
theorem AdX{f:Nat->Nat×Nat}:∀{ids:List Nat}{Bs:List Blk}{j i:Nat},ids[j]?=some i->(KQ f ids Bs)[j]?=(Bs[j]?).map (LP f (f i))
 |[],_,j,i,h=>by simp at h
 |_::_,[],j,i,_=>by simp[KQ]
 |k::is,B::bs,0,i,h=>by simp only[DI,Ag]at h;subst h;rfl
 |k::is,B::bs,j+1,i,h=>by simp only[KQ,Eg]at h⊢;exact AdX h
theorem AdY{bl:Nat->Option Blk}{R:List Nat}:∀{ids:List Nat},YH bl R ids=true->∀i∈ids,i∈R\/bl i=none
 |[],_,i,h=>by simp at h
 |j::r,h,i,hi=>by
  obtain⟨h1,h2⟩:=andB h;rcases Bw.1 hi with rfl|hi
  ·simp only[LC,Option.isNone_iff_eq_none]at h1
   exact h1.imp (λh=>HT.1 h) id
  ·exact AdY h2 i hi
theorem AdZ{bl:Nat->Option Blk}{ids ids2:List Nat}{f:Nat->Nat×Nat}:∀{is:List BT}{js:List Nat}{y y2:BT.dens is},BT.hand is=true->Dd bl ids is js=some y->∀(j i:Nat)(B B':Blk),js[j]?=some i->bl i=some B->(mkB ids2 is y2)[j]?=some B'->∀sv Ac Bd B6,KeepR (some B) (some (LP f (Nd (some B)) B')) sv Ac Bd B6
 |[],js,y,y2,_,_,j,i,B,B',_,_,h=>by simp[mkB]at h
 |t::is,[],y,y2,_,h,j,i,B,B',hj,_,_=>by simp at hj
 |t::is,k::js,y,y2,hh,h,0,i,B,B',hj,hB,hm=>by
  obtain⟨⟨_,_,_,_,hs⟩,_⟩:=nG ids2 h;simp only[DI,Ag]at hj;subst hj;rw[hB]at hs;intro sv Ac Bd B6;cases t with
  |mat t et e=>cases hh
  |row t e=>
   simp only[mkB,DI,Ag]at hm;subst hm;rcases hs with hs|⟨ver,l,hs⟩
   ·cases hs
   ·injection hs with hs
    subst hs;exact KeepR.ofRow ⟨by simp only[Nd];omega,λh=>absurd h (by simp only[Nd];omega)⟩
  |tree t e=>
   simp only[mkB,DI,Ag]at hm;subst hm;rcases hs with hs|⟨ver,Ah,l,hs,_⟩
   ·cases hs
   ·injection hs with hs
    subst hs;exact KeepR.ofTree ⟨by simp only[Nd];omega,by simp only[Nd];omega,λh=>absurd h (by simp only[Nd];omega)⟩
  |cells t l=>simp only[mkB,DI,Ag]at hm;subst hm;exact⟨(λ_ _ _ _ h=>by cases h),(λ_ _ _ _ _ _ _ h=>by cases h),λ_ _ _ _ _ _ h=>by cases h⟩
  |map t k v vg=>simp only[mkB,DI,Ag]at hm;subst hm;exact⟨(λ_ _ _ _ h=>by cases h),(λ_ _ _ _ _ _ _ h=>by cases h),λ_ _ _ _ _ _ h=>by cases h⟩
  |fmap t l=>simp only[mkB,DI,Ag]at hm;subst hm;exact⟨(λ_ _ _ _ h=>by cases h),(λ_ _ _ _ _ _ _ h=>by cases h),λ_ _ _ _ _ _ h=>by cases h⟩
 |t::is,k::js,y,y2,hh,h,j+1,i,B,B',hj,hB,hm=>by
  obtain⟨⟨z,hz,_,_,_⟩,_⟩:=nG ids2 h;have WF:BT.hand is=true:=by cases t<;>first|exact hh|cases hh
  have GU:js[j]?=some i:=by simpa using hj
  cases t<;>simp only[mkB,Eg]at hm<;>exact AdZ WF hz j i B B' GU hB hm
theorem Ae0{P:Program}{f:FuncId}{S:Spec}(h:SpecOkB P f S)(hs:S.outs=S.ins)(hc:(BT.hand S.ins&&(ST.bnd S.ins.length S.res&&BT.bnd S.ins.length S.ins))=true):AbsOk P f (hand S hs):=by
 obtain⟨ps,is0,rs,is,run⟩:=S;simp only at hs hc;subst hs;obtain⟨k1,hc⟩:=andB hc;obtain⟨k4,k5⟩:=andB hc;refine⟨h.fn,λbl nx args kk r hk=>?_⟩;simp only[AdU]at hk;generalize hR:HX bl 99 (J7 args) []=R at hk;split at hk
 ·cases hk
 rename_i ids0 d hv;cases AaS:(YH bl R ids0&&((ST.flat rs&&BT.flat is)||AdT (FU ps args++ES (J8 R bl) is ids0)))with
 |false=>rw[AaS]at hk;cases hk
 |true=>
  rw[AaS,Ar]at hk;obtain⟨D3,C3⟩:=andB AaS;have D3:=AdY D3
  have C3:(ST.flat rs&&BT.flat is)=true\/FU ps args++ES (J8 R bl) is ids0=[]:=by
   cases hq:(ST.flat rs&&BT.flat is)with
   |true=>exact .inl rfl
   |false=>
    rw[hq,NZ]at C3;refine .inr ?_;generalize FU ps args++ES (J8 R bl) is ids0=q at C3;cases q with
    |nil=>rfl
    |cons _ _=>cases C3
  generalize hf:Tm R ids0 bl=fb at hk;obtain⟨z,hz,Ff⟩:=h.ok d _ r hk;refine⟨_,_,_,hz,λAa Aj ok0 base pl w us hr Db=>?_⟩
  have hagR:J8 R bl=J8 R Aa:=by
   funext i;simp only[J8];cases hm:memB i R with
   |false=>rfl
   |true=>rw[Ar,Ar,Aj i (D0 _ (HT.1 hm))]
  have hidsB:∀i∈ids0,Aa i=bl i:=λi hi=>Aj i (DJ _ hi);generalize hblR:J8 R Aa=blR at*;rw[hagR]at hv C3;unfold AdS at hv;split at hv
  ·cases hv
  rename_i ids _;split at hv
  ·cases hv
  rename_i x hx;split at hv
  ·cases hv
  rename_i y hy;cases HH:(Jy ids&&!meet (FU ps args++ES blR is ids) ids)with
  |false=>rw[HH]at hv;cases hv
  |true=>
   rw[HH,Ar,Ag,BQ]at hv;obtain⟨rfl,rfl⟩:=hv;obtain⟨c3,c4⟩:=andB HH;have c3:=Q6 c3;simp only[NW]at c4;have c4:=YB.1 c4
   have Bf:∀i B,blR i=some B->Aa i=some B:=λi B hB=>by
    rw[<-hblR]at hB;simp only[J8]at hB;cases hm:memB i R with
    |false=>rw[hm]at hB;cases hB
    |true=>rw[hm]at hB;exact hB
   have GF:∀i∈ids,blR i=none->Aa i=none:=λi hi hn=>by
    rcases D3 i hi with h|h
    ·rw[<-hblR]at hn
     simp only[J8,HT.2 h,Ar]at hn;exact hn
    ·rw[hidsB i hi];exact h
   have Ab6:∀i∈ids,∀B,Aa i=some B->blR i=some B:=λi hi B hB=>by
    cases hn:blR i with
    |none=>rw[GF i hi hn]at hB;cases hB
    |some B'=>rw[Bf i B' hn]at hB;exact hB
   let ER:Env:=envR ok0 base pl Aa blR w
   have GE:Ext (Ap ok0 base pl Aa w) ER:=⟨AQ _,λg h _=>⟨h,rfl⟩,λ_ _ h=>h,λb sv Ac h=>⟨sv,Ac,h,KeepR.of_eq (λC hC=>Bf b C hC) _ _⟩⟩
   have B3:VReps ER args us:=by
    have:∀{vs:List V}{us:List Value},VReps (Ap ok0 base pl Aa w) vs us->VReps ER vs us:=by
     intro vs
     induction vs with
     |nil=>intro us h;exact h
     |cons v vs ih=>intro us ⟨u,CL,e,h1,h2⟩;exact⟨u,CL,e,VRep.mono GE h1,ih h2⟩
    exact this Db
   let n:=is.length
   let plv:Nat->Option Pl:=λb=>(ids[b]?).map (plOf ER)
   let blv:Nat->Option Blk:=fnBl (mkB (AY 0 is.length) is y)
   let N:Nat->Prop:=λg=>(ST.flat rs&&BT.flat is)=false/\g<w.heap.size/\Own pl Aa g/\¬Own plv blv g
   let ok1:OK0 P:=⟨λg=>ok0 g/\¬N g,λg=>ok0.no g\/N g⟩
   have RK:FU ps args++ES blR is ids=[]\/ok1=ok0:=by
    rcases C3 with h|h
    ·refine .inr ?_
     have hN:∀g,¬N g:=λg hN=>by have h1:=hN.1;rw[h]at h1;cases h1
     have e1:ok1.f=ok0.f:=by funext g;exact propext ⟨λq=>q.1,λq=>⟨q,hN g⟩⟩
     have e2:ok1.no=ok0.no:=by funext g;exact propext ⟨λq=>q.resolve_right (hN g),.inl⟩
     obtain⟨f0,n0⟩:=ok0;exact congr (Ax OK0.mk e1) e2
    ·exact .inl h
   obtain⟨FO,hT,Bp,HJ,Ao⟩:=AdA (ok1:=ok1) hr Bf GF hx hy c3 c4 B3
    (λg h1 h2=>h1.imp (λh=>⟨h,λhN=>h2 hN.2.2.1⟩) λh=>⟨h.1,λhn=>hn.elim h.2 λhN=>h2 hN.2.2.1⟩)
    RK
    (λg hn=>hn.elim (λh=>⟨(hr.glob.no g h).1,λho=>(hr.glob.no g h).2 (Adz hr Bf hy ho)⟩) λhN=>⟨hN.2.1,hN.2.2.2⟩) (λg hn=>hn.imp id λhN=>.inl hN.2.2.1)
   have RO:∀b i B,ids[b]?=some i->Aa i=some B->plv b=pl i:=λb i B hb hB=>by obtain⟨p,hp,_⟩:=hr.blks i B hB;have:=Ab6 i (Dg hb) B hB;simp[plv,hb,plOf,ER,envR,this,hp]
   have AH3:∀g,Own plv blv g->Own pl Aa g:=λg h=>by obtain⟨i,B,p,_,h1,h2,h3,h4⟩:=Ao g h;exact⟨i,B,p,Bf i B h1,h2,h3,h4⟩
   refine(Ff ok1 base plv w us hr.baseLe FO hT).mono λe w' EK=>?_;obtain⟨B4,Ak,rfl,hRo,hS,hTo⟩:=EK
   let blo:Nat->Option Blk:=fnBl (mkB (AY 0 is.length) is z.2)
   let Eo:Env:=Ap ok1 base Ak blo w'
   let pl3:Nat->Option Pl:=λi=>match place ids i with|some b=>Ak b|none=>pl i
   have An:∀i,updL Aa (ids.zip (KQ fb ids (mkB ids is z.2))) i=match place ids i with|some b=>(KQ fb ids (mkB ids is z.2))[b]?|none=>Aa i:=
    λi=>Ad3 i c3 (by rw[AdW (by rw[G3];exact Bp),G3];exact Bp)
   generalize AJP:updL Aa (ids.zip (KQ fb ids (mkB ids is z.2)))=bl3 at*;have NE:∀i,place ids i=none->pl3 i=pl i:=λi h=>by simp only[pl3,h]
   have NF:∀i b,place ids i=some b->pl3 i=Ak b:=λi b h=>by simp only[pl3,h]
   have Ht:∀i,place ids i=none->bl3 i=Aa i:=λi h=>by rw[An,h]
   have N4:∀i b,place ids i=some b->bl3 i=((mkB ids is z.2)[b]?).map (LP fb (fb i)):=λi b h=>by rw[An,h];exact AdX (Hj h)
   have Hy:∀i b,place ids i=some b->b<is.length:=λi b h=>by rw[<-Bp];exact(EN.1 (Hj h)).1
   have JP:∀b,b<is.length->∃B,blo b=some B/\B.live=true:=λb hb=>by
    have AH:b<(mkB (AY 0 is.length) is z.2).length:=by rw[G3];exact hb
    exact⟨_,Ef AH,Nb (Ef AH)⟩
   have DE:∀g,Own pl3 bl3 g->(Own pl Aa g/\∃i B p,place ids i=none/\Aa i=some B/\B.live=true/\pl i=some p/\p.has g)\/Own Ak blo g:=by
    rintro g ⟨i,B,p,hB,hl,hp,hg⟩;cases AC:place ids i with
    |none=>rw[Ht i AC]at hB;rw[NE i AC]at hp;exact .inl ⟨⟨i,B,p,hB,hl,hp,hg⟩,i,B,p,AC,hB,hl,hp,hg⟩
    |some b=>rw[NF i b AC]at hp;obtain⟨B',hB',Gt⟩:=JP b (Hy i b AC);exact .inr ⟨b,B',p,hB',Gt,hp,hg⟩
   have P2:∀i B p g,place ids i=none->Aa i=some B->B.live=true->pl i=some p->p.has g->w'.heap[g]?=w.heap[g]?/\¬Own Ak blo g:=by
    intro i B p g AC hB hl hp hg;have Au:g<w.heap.size:=Own.lt hr ⟨i,B,p,hB,hl,hp,hg⟩;refine hS.out g Au λho=>?_;obtain⟨j,C,q,hj,hC,hlC,hq,B8⟩:=Ao g ho
    have AW:i≠j:=by rintro rfl;obtain⟨b,hb⟩:=XO hj;rw[Kb c3 hb]at AC;cases AC
    exact hr.sep i j _ _ _ _ g AW hB (Bf j C hC) hl hlC hp hq hg B8
   have EM:Step pl Aa w pl3 bl3 w':=by
    refine⟨hS.os,hS.tape,hS.output,hS.size,λg Au ho=>?_,λb g hb=>?_,λb sv Ac hb=>?_⟩
    ·obtain⟨h1,h2⟩:=hS.out g Au λh=>ho (AH3 g h)
     refine⟨h1,λh=>?_⟩;rcases DE g h with h|h
     ·exact ho h.1
     ·exact h2 h
    ·cases AC:place ids b with
     |none=>rw[NE b AC];exact hb
     |some j=>
      rw[NF b j AC];cases hB:Aa b with
      |none=>rw[hr.fresh b hB]at hb;cases hb
      |some B=>exact hS.cells j g (Hy b j AC) (by rw[RO j b B (Hj AC) hB];exact hb)
    ·cases AC:place ids b with
     |none=>exact⟨sv,Ac,by rw[NE b AC];exact hb,KeepR.of_eq (λC h=>by rw[Ht b AC]at h;exact h) _ _⟩
     |some j=>
      cases hB:Aa b with
      |none=>rw[hr.fresh b hB]at hb;cases hb
      |some B=>
       obtain⟨Bd,B6,h1⟩:=hS.rows j sv Ac (Hy b j AC) (by rw[RO j b B (Hj AC) hB];exact hb);refine⟨Bd,B6,by rw[NF b j AC];exact h1,?_⟩;have Au:j<(mkB ids is z.2).length:=by rw[G3];exact Hy b j AC
       have AGl:fb b=Nd (some B):=by have hm:memB b ids=true:=HT.2 (Dg (Hj AC));rw[<-hf];simp only[Tm,hm,Ar];rw[hagR,Ab6 b (Dg (Hj AC)) B hB]
       rw[N4 b j AC,Ef Au,Fa,AGl];exact AdZ k1 hy j b B _ (Hj AC) (Ab6 b (Dg (Hj AC)) B hB) (Ef Au) _ _ _ _
   let blm:Nat->Option Blk:=λi=>match place ids i with|some b=>(mkB ids is z.2)[b]?|none=>Aa i
   have AFY:∀i,place ids i=none->blm i=Aa i:=λi h=>by simp only[blm,h]
   have An8:∀i b,place ids i=some b->blm i=(mkB ids is z.2)[b]?:=λi b h=>by simp only[blm,h]
   let Em:Env:={w:=w',ok:=(Ap ok0 base pl3 bl3 w').ok,base:=base,pl:=pl3,bl:=blm}
   have An9:Bump fb Em (Ap ok0 base pl3 bl3 w'):=by
    have key:∀i B,bl3 i=some B->∃B0,blm i=some B0/\((B=B0/\place ids i=none)\/B=LP fb (fb i) B0):=by
     intro i B hB;cases AC:place ids i with
     |none=>rw[Ht i AC]at hB;exact⟨B,by rw[AFY i AC];exact hB,.inl ⟨rfl,rfl⟩⟩
     |some b=>rw[N4 i b AC]at hB;obtain⟨B0,h1,h2⟩:=Sv.1 hB;exact⟨B0,by rw[An8 i b AC];exact h1,.inr h2.symm⟩
    have hz:∀i,place ids i=none->fb i=(0,0):=λi hi=>by
     have hm:memB i ids=false:=by
      cases hm:memB i ids with
      |false=>rfl
      |true=>obtain⟨b,hb⟩:=XO (HT.1 hm);rw[Kb c3 hb]at hi;cases hi
     rw[<-hf];simp only[Tm,hm,Cd]
    refine⟨rfl,rfl,rfl,rfl,λi t e ver l h=>?_,λi t e ver Ah hh l h=>?_,λi t et e ver Ah hh l h=>?_⟩
    ·obtain⟨B0,h1,h2⟩:=key i _ h
     rcases h2 with⟨h2,h3⟩|h2
     ·subst h2;exact⟨ver,h1,by rw[hz i h3];rfl⟩
     ·cases B0<;>simp only[LP]at h2<;>first|(cases h2;done)|skip
      injection h2 with q1 q2 q3 q4;subst q1 q2 q3;exact⟨_,by rw[eq_of_heq q4];exact h1,rfl⟩
    ·obtain⟨B0,h1,h2⟩:=key i _ h
     rcases h2 with⟨h2,h3⟩|h2
     ·subst h2;exact⟨ver,Ah,h1,by rw[hz i h3];rfl,by rw[hz i h3];rfl⟩
     ·cases B0<;>simp only[LP]at h2<;>first|(cases h2;done)|skip
      injection h2 with q1 q2 q3 q4 q5 q6;subst q1 q2 q3 q4 q5;exact⟨_,_,by rw[eq_of_heq q6];exact h1,rfl,rfl⟩
    ·obtain⟨B0,h1,h2⟩:=key i _ h
     rcases h2 with⟨h2,h3⟩|h2
     ·subst h2;exact h1
     ·cases B0<;>simp only[LP]at h2<;>first|(cases h2;done)|skip
      exact h2▸h1
   have Pr:(ST.flat rs&&BT.flat is)=false\/(ST.flat rs=true/\BT.flat is=true):=by
    cases hf:(ST.flat rs&&BT.flat is)with
    |false=>exact .inl rfl
    |true=>exact .inr (andB hf)
   have W5:∀(τ:Ty)(x:τ.den)(us:List Value),((ST.flat rs&&BT.flat is)=false\/τ.flat=true)->DRep Eo.w Eo.ok τ x us->DRep Em.w Em.ok τ x us:=λτ x us AaT hd=>by
    rcases AaT with hq|hq
    ·refine hd.mono λg hg _=>⟨?_,rfl⟩
     obtain⟨h1,h2⟩:=hg;have hnN:¬N g:=h1.elim (λh=>h.2) λh hN=>h.2 (.inr hN);refine⟨h1.imp (λh=>h.1) λh=>⟨h.1,λhn=>h.2 (.inl hn)⟩,λho=>?_⟩;rcases DE g ho with⟨PA,i,B,p,AC,hB,hl,hp,Dj⟩|PA
     ·refine hnN ⟨hq,Own.lt hr PA,PA,λIC=>?_⟩
      obtain⟨j,C,q,hj,hC,hlC,hq,B8⟩:=Ao g IC
      have AW:i≠j:=by rintro rfl;obtain⟨b,hb⟩:=XO hj;rw[Kb c3 hb]at AC;cases AC
      exact hr.sep i j _ _ _ _ g AW hB (Bf j C hC) hl hlC hp hq Dj B8
     ·exact h2 PA
    ·exact hd.flat hq
   have WW:Ren2 is.length Eo Em (AY 0 is.length) ids:=by
    have key:∀b,b<is.length->pl3 (ids.getD b 0)=Ak b/\blm (ids.getD b 0)=(mkB ids is z.2)[b]?:=by
     intro b hb;have AH:b<ids.length:=by omega
     have I6:ids[b]?=some ids[b]:=Ef AH;have Ku:ids.getD b 0=ids[b]:=by simp[List.getD,I6]
     have WS:=Kb c3 I6;rw[Ku];exact⟨NF _ b WS,An8 _ b WS⟩
    refine⟨λb g hb h=>?_,λb sv Ac hb h=>?_⟩
    ·rw[Ow hb]at h
     show pl3 _=_;rw[(key b hb).1];exact h
    ·rw[Ow hb]at h⊢
     refine⟨?_,λt e ver l h2=>?_,λt et e ver Ah hole l h2=>?_,λt e ver Ah hole l h2=>?_⟩
     ·show pl3 _=_
      rw[(key b hb).1];exact h
     ·have h3:blm (ids.getD b 0)=some (.row t e ver l):=h2
      rw[(key b hb).2]at h3;exact MZ h3
     ·have h3:blm (ids.getD b 0)=some (.mat t et e ver Ah hole l):=h2
      rw[(key b hb).2]at h3;exact Na h3
     ·have h3:blm (ids.getD b 0)=some (.tree t e ver Ah hole l):=h2
      rw[(key b hb).2]at h3;exact mO h3
   refine⟨HU B4,pl3,rfl,⟨D2 hr.baseLe hS.size,λi B hB=>?_,λi j B C p q g Dw hB hC hlB' hlC hp hq Dj=>?_,λi hi=>?_,hr.glob.out EM.size EM.out⟩,EM,?_⟩
   ·cases AC:place ids i with
    |none=>
     rw[Ht i AC]at hB;obtain⟨p,hp,hBR⟩:=hr.blks i B hB;refine⟨p,by rw[NE i AC];exact hp,?_⟩;cases hl:B.live with
     |false=>cases B<;>first|exact trivial|simp[Blk.live]at hl
     |true=>exact BRep.mono EM.ext hBR λg hg=>(P2 i B p g AC hB hl hp hg).1
    |some b=>obtain⟨Bo,hBo,GH⟩:=JP b (Hy i b AC);obtain⟨p,hp,hBR⟩:=hRo.blks b Bo hBo;obtain⟨B',h1,h2,_,_,_,_⟩:=MY WW (AQ _) W5 rfl k5 (Pr.imp id (·.2)) hBo hBR;rw[N4 i b AC,h1,Fa,Ag]at hB;subst hB;exact⟨p,by rw[NF i b AC];exact hp,h2.bump An9 (fb i)⟩
   ·cases AC:place ids i with
    |none=>
     rw[Ht i AC]at hB;rw[NE i AC]at hp;cases Dy:place ids j with
     |none=>rw[Ht j Dy]at hC;rw[NE j Dy]at hq;exact hr.sep i j B C p q g Dw hB hC hlB' hlC hp hq Dj
     |some b=>rw[NF j b Dy]at hq;intro B8;obtain⟨Bo,hBo,GH⟩:=JP b (Hy j b Dy);exact(P2 i B p g AC hB hlB' hp Dj).2 ⟨b,Bo,q,hBo,GH,hq,B8⟩
    |some b=>
     rw[NF i b AC]at hp;obtain⟨Bo,hBo,GH⟩:=JP b (Hy i b AC);cases Dy:place ids j with
     |none=>rw[Ht j Dy]at hC;rw[NE j Dy]at hq;intro B8;exact(P2 j C q g Dy hC hlC hq B8).2 ⟨b,Bo,p,hBo,GH,hp,Dj⟩
     |some b'=>
      rw[NF j b' Dy]at hq;obtain⟨Bo',hBo',AaK⟩:=JP b' (Hy j b' Dy)
      have Jg:b≠b':=by rintro rfl;have h1:=Hj AC;have h2:=Hj Dy;rw[h1]at h2;injection h2 with h2;exact Dw h2
      exact hRo.sep b b' _ _ p q g Jg hBo hBo' GH AaK hp hq Dj
   ·cases AC:place ids i with
    |none=>rw[Ht i AC]at hi;rw[NE i AC];exact hr.fresh i hi
    |some b=>rw[N4 i b AC]at hi;have:=Hy i b AC;rw[Option.map_eq_none_iff,Qf,G3]at hi;omega
   ·exact TReps.res ((mM WW W5 k4 (Pr.imp id (·.1)) hTo).bump An9)
@[reducible] def frzA(A:AbsF):AbsF:=⟨λ{_} bl nx args kk=>J4 bl (CG args) (λbl' Ea=>A.run bl' nx (args.map (frzV bl)) Ea) kk⟩
theorem AqX{P:Program}{f:FuncId}{A:AbsF}(h:AbsOk P f A):AbsOk P f (frzA A):=by
 refine⟨h.fn,λbl nx args kk r hk=>?_⟩
 have hk:A.run (updL bl (Dl bl (CG args))) nx (args.map (frzV bl)) (λv rd wr=>kk v (CG args++rd) (Dl bl (CG args)++wr))=some r:=by rw[<-Th];exact hk
 obtain⟨v,rd,wr,P3,D3⟩:=h.ok _ _ _ _ _ hk;refine⟨v,_,_,P3,λAa Aj ok0 base pl w us hr Db=>?_⟩;obtain⟨h1,h2,h3⟩:=freeze (bl:=bl) hr (CG args) λb hb=>Aj b (D0 _ hb)
 have FA:∀b∈rd,updL Aa (Dl bl (CG args)) b=updL bl (Dl bl (CG args)) b:=λb hb=>by
  by_cases hm:b∈wids (Dl bl (CG args))
  ·exact Q9 hm
  ·rw[Hk hm,Hk hm]
   exact Aj b (DJ _ hb)
 have key:∀(vs:List V)(us:List Value),(∀v∈vs,v∈args)->VReps (Ap ok0 base pl Aa w) vs us->VReps (Ap ok0 base pl (updL Aa (Dl bl (CG args))) w) (vs.map (frzV bl)) us:=by
  intro vs
  induction vs with
  |nil=>intro us _ h;exact h
  |cons v vs ih=>rintro us hm ⟨u,CL,e,q1,q2⟩;exact⟨u,CL,e,h3 v u (mX (hm v (by simp))) q1,ih CL (λx hx=>hm x (by simp[hx])) q2⟩
 refine(D3 _ FA ok0 base pl w us h1 (key args us (λ_ h=>h) Db)).mono λe w' ⟨u,Ak,q1,q2,q3,q4⟩=>?_;rw[MX];exact⟨u,Ak,q1,q2,h2.trans q3,q4⟩
end
end Go.Lift
namespace Go.Lift
noncomputable section
open Go.RowKit
universe u
class Sl where
 u:Nat
variable[S:Sl]
def hid{α:Sort u}(a:α):α:=match S.u with|0=>a|_+1=>a
theorem Ad{α:Sort u}(a:α):hid a=a:=by unfold hid;cases S.u<;>rfl
@[reducible] def CT.Fn(R:Type):List CT->Type
 |[]=>R
 |.data τ::r=>τ.den->CT.Fn R r
 |.lsome e::r=>List e.den->CT.Fn R r
 |.tptrh _ ks _::r=>WayT ks->CT.Fn R r
 |.ptr _ _::r|.rowh _::r|.fn _ _::r|.maph _::r|.math _::r|.bself _::r|.bfnh _ _::r|.trowh _::r|.nilc::r|.nils::r|.junk::r=>CT.Fn R r
@[reducible] def ST.Fn(R:Type):List (Bool×List CT)->Type
 |[]=>R
 |t::r=>CT.Fn (ST.Fn R r) t.2
@[reducible] def BT.Fn(R:Type):List BT->Type
 |[]=>R
 |.cells _ l::r=>CT.Fn (BT.Fn R r) l
 |.row _ e::r=>List e.den->BT.Fn R r
 |.map _ k v _::r=>List (k.den×v.den)->BT.Fn R r
 |.mat _ _ e::r=>List (List e.den)->BT.Fn R r
 |.tree _ e::r=>List e.ty.den->BT.Fn R r
 |.fmap _ _::r=>BT.Fn R r
def CT.app{R:Type}:(l:List CT)->CT.Fn R l->CT.dens l->R
 |[],f,_=>f
 |.data _::r,f,d=>CT.app r (f d.1) d.2
 |.lsome _::r,f,d=>CT.app r (f d.1) d.2
 |.tptrh _ _ _::r,f,d=>CT.app r (f d.1) d.2
 |.ptr _ _::r,f,d|.rowh _::r,f,d|.fn _ _::r,f,d|.maph _::r,f,d|.math _::r,f,d|.bself _::r,f,d|.bfnh _ _::r,f,d|.trowh _::r,f,d|.nilc::r,f,d|.nils::r,f,d|.junk::r,f,d=>CT.app r f d
def ST.app{R:Type}:(l:List (Bool×List CT))->ST.Fn R l->ST.dens l->R
 |[],f,_=>f
 |t::r,f,d=>ST.app r (CT.app t.2 f d.1) d.2
def BT.app{R:Type}:(l:List BT)->BT.Fn R l->BT.dens l->R
 |[],f,_=>f
 |.cells _ l::r,f,d=>BT.app r (CT.app l f d.1) d.2
 |.row _ _::r,f,d=>BT.app r (f d.1) d.2
 |.map _ _ _ _::r,f,d=>BT.app r (f d.1) d.2
 |.mat _ _ _::r,f,d=>BT.app r (f d.1) d.2
 |.tree _ _::r,f,d=>BT.app r (f d.1) d.2
 |.fmap _ _::r,f,d=>BT.app r f d
def CT.lam{R:Type}:(l:List CT)->(CT.dens l->R)->CT.Fn R l
 |[],f=>f ()
 |.data _::r,f=>λx=>CT.lam r λd=>f (x,d)
 |.lsome _::r,f=>λx=>CT.lam r λd=>f (x,d)
 |.tptrh _ _ _::r,f=>λx=>CT.lam r λd=>f (x,d)
 |.ptr _ _::r,f|.rowh _::r,f|.fn _ _::r,f|.maph _::r,f|.math _::r,f|.bself _::r,f|.bfnh _ _::r,f|.trowh _::r,f|.nilc::r,f|.nils::r,f|.junk::r,f=>CT.lam r f
def ST.lam{R:Type}:(l:List (Bool×List CT))->(ST.dens l->R)->ST.Fn R l
 |[],f=>f ()
 |t::r,f=>CT.lam t.2 λa=>ST.lam r λd=>f (a,d)
def BT.lam{R:Type}:(l:List BT)->(BT.dens l->R)->BT.Fn R l
 |[],f=>f ()
 |.cells _ l::r,f=>CT.lam l λa=>BT.lam r λd=>f (a,d)
 |.row _ _::r,f=>λx=>BT.lam r λd=>f (x,d)
 |.map _ _ _ _::r,f=>λx=>BT.lam r λd=>f (x,d)
 |.mat _ _ _::r,f=>λx=>BT.lam r λd=>f (x,d)
 |.tree _ _::r,f=>λx=>BT.lam r λd=>f (x,d)
 |.fmap _ _::r,f=>BT.lam r f
@[reducible] def VF(R:Type)(s:List (Bool×List CT))(b:List BT):Type:=ST.Fn (BT.Fn R b) s
def vapp{R:Type}(s:List (Bool×List CT))(b:List BT)(f:VF R s b)(d:ST.dens s×BT.dens b):R:=BT.app b (ST.app s f d.1) d.2
def vlam{R:Type}(s:List (Bool×List CT))(b:List BT)(g:ST.dens s×BT.dens b->R):VF R s b:=ST.lam s λx=>BT.lam b λy=>g (x,y)
def CT.some?:List CT->Bool
 |[]=>false
 |.data _::_=>true
 |.lsome _::_=>true
 |.tptrh _ _ _::_=>true
 |.ptr _ _::r|.rowh _::r|.fn _ _::r|.maph _::r|.math _::r|.bself _::r|.bfnh _ _::r|.trowh _::r|.nilc::r|.nils::r|.junk::r=>CT.some? r
def ST.some?:List (Bool×List CT)->Bool
 |[]=>false
 |t::r=>CT.some? t.2||ST.some? r
def BT.some?:List BT->Bool
 |[]=>false
 |.cells _ l::r=>CT.some? l||BT.some? r
 |.fmap _ _::r=>BT.some? r
 |_::_=>true
@[reducible] def selT(A B:Type):Bool->Type
 |true=>A
 |false=>B
@[reducible] def KF(R:Type)(s:List (Bool×List CT))(b:List BT):Type:=selT (VF R s b) (Unit->VF R s b) (ST.some? s||BT.some? b)
def selk{R:Type}{s:List (Bool×List CT)}{b:List BT}(f:VF R s b):(c:Bool)->selT (VF R s b) (Unit->VF R s b) c
 |true=>f
 |false=>λ_=>f
def klam{R:Type}(s:List (Bool×List CT))(b:List BT)(g:ST.dens s×BT.dens b->R):KF R s b:=selk (vlam s b g) _
def sgE(ps:List (Bool×List CT))(is:List BT)(rs:List (Bool×List CT))(os:List BT)(f:(β:Type)->VF (KF (Option β) rs os->Option β) ps is):Spec:=
 ⟨ps,is,rs,os,λ{β} x k=>vapp ps is (f β) x (klam rs os k)⟩
abbrev sg(ps:List (Bool×List CT))(is:List BT)(rs:List (Bool×List CT))(os:List BT)(f:{β:Type}->VF (KF (Option β) rs os->Option β) ps is):Spec:=sgE ps is rs os λβ=>f (β:=β)
theorem YI{F:Type->Type}(s:(β:Type)->F β):(λβ=>hid (s β))=s:=funext λβ=>Ad (s β)
@[reducible] def OF(β R:Type):List (AExit×View)->Type
 |[]=>R
 |x::r=>KF (Option β) x.2.params x.2.ins->OF β R r
def oapp{β R:Type}:(l:List (AExit×View))->OF β R l->Outs.K β l->R
 |[],f,_=>f
 |x::r,f,ks=>oapp r (f (klam x.2.params x.2.ins ks.1)) ks.2
abbrev Pc.T(p:Pc)(β:Type):Type:=OF β (VF (Option β) p.v.params p.v.ins) p.o
def Pc.un(p:Pc)(f:(β:Type)->p.T β):p.G:=λ{β} d ks=>vapp _ _ (oapp p.o (f β) ks) d
def AqY(P:Program)(f:Nat):Fun->Prop
 |.spec S=>SpecOk P f S
 |.rows F=>RowOk P f F
 |.bld F=>BldOk P f F
 |.abs A=>AbsOk P f A
structure Ent (P:Program) where
 no:Nat
 F:Fun
 ok:AqY P no F
def Ent.of{P:Program}{no:Nat}{S:Spec}(h:SpecOk P no S):Ent P:=⟨no,.spec S,h⟩
@[reducible] def gam{P:Program}(l:List (Ent P)):Nat->Option Fun:=ET (l.map λe=>(e.no,e.F))
theorem Kc{P:Program}:∀l:List (Ent P),ΓOk P (gam l)
 |[]=>ΓOk_nil
 |⟨_,.spec _,h⟩::l=>ΓOk_cons h (Kc l)
 |⟨_,.rows _,h⟩::l=>ΓOk_row h (Kc l)
 |⟨_,.bld _,h⟩::l=>ΓOk_bld h (Kc l)
 |⟨_,.abs _,h⟩::l=>ΓOk_abs h (Kc l)
structure PB (P:Program) where
 q:Nat
 p:Pc
 f:(β:Type)->p.T β
 ok:p.Ok P (p.un f)
@[reducible] def cuts{P:Program}(l:List (PB P)):Nat->Option Cut:=ET (l.map λb=>(b.q,b.p.cut (b.p.un b.f)))
theorem YJ{P:Program}{n m q:Nat}{c:Code}:∀{l:List (PB P)},l.map (λb=>(find b.q q c,b.p.v.m,b.p.n,b.p.m))=l.map (λb=>([b.p.c],m,n,m))->O0 P n m q c (cuts l)
 |[],_=>AqO
 |b::l,h=>by simp only[CM,D1,BQ]at h;obtain⟨⟨h1,h2,h3,h4⟩,h5⟩:=h;have hb:=b.ok;unfold Pc.Ok at hb;rw[h3,h4]at hb;exact AqP h1 h2 hb (YJ h5)
theorem FG{P:Program}(Dx:P.follows .mixedOrders=true){X:Ctx}(hT:TOk P X.T)(es:List (Ent P))(hX:X.Γ=gam es)(cs:List (PB P)){ps rs:List (Bool×List CT)}{is os:List BT}{f:FuncId}{fn:Func}(vs:List RS){s:(β:Type)->VF (KF (Option β) rs os->Option β) ps is}(hf:P.funcs[f]?=some fn)(hc:((fn.name== "runtime.NumGoroutine"),fn.body,fn.results.toList,(Nat.beq vs.length rs.length&&(ST.tidy rs&&Nat.ble ps.length fn.ntmps)),cs.map (λb=>(find b.q 1 (Ay fn),b.p.v.m,b.p.n,b.p.m)))=(false,some (Ay fn),vs.map RS.toVar,true,cs.map (λb=>([b.p.c],is.length,fn.ntmps,is.length))))(h:∀{β:Type}(x:ST.dens ps×BT.dens is)(k:ST.dens rs×BT.dens os->Option β),exec X fn.ntmps (cuts cs) 1 (Ay fn) ((vIn (sgE ps is rs os s)).mk' x) (retK X.T (sgE ps is rs os s) vs k)=vapp ps is (s β) x (klam rs os k)):SpecOkB P f (sgE ps is rs os λβ=>hid (s β)):=by
 simp only[BQ]at hc;obtain⟨h1,h2,h3,h4,h5⟩:=hc;rw[YI];exact pcSB Dx X hT (hX▸Kc es) (cuts cs) vs hf h1 h2 h3 h4 (YJ h5) h
theorem QF{P:Program}(Dx:P.follows .mixedOrders=true){X:Ctx}(hT:TOk P X.T)(es:List (Ent P))(hX:X.Γ=gam es)(cs:List (PB P)){ps rs:List (Bool×List CT)}{is os:List BT}{f:FuncId}{fn:Func}(vs:List RS){s:(β:Type)->VF (KF (Option β) rs os->Option β) ps is}(hf:P.funcs[f]?=some fn)(hc:((fn.name== "runtime.NumGoroutine"),fn.body,fn.results.toList,(Nat.beq vs.length rs.length&&(ST.tidy rs&&Nat.ble ps.length fn.ntmps)),cs.map (λb=>(find b.q 1 (Ay fn),b.p.v.m,b.p.n,b.p.m)))=(false,some (Ay fn),vs.map RS.toVar,true,cs.map (λb=>([b.p.c],is.length,fn.ntmps,is.length))))(h:∀{β:Type}(x:ST.dens ps×BT.dens is)(k:ST.dens rs×BT.dens os->Option β),exec X fn.ntmps (cuts cs) 1 (Ay fn) ((vIn (sgE ps is rs os s)).mk' x) (retK X.T (sgE ps is rs os s) vs k)=vapp ps is (s β) x (klam rs os k)):SpecOk P f (sgE ps is rs os λβ=>hid (s β)):=(FG Dx hT es hX cs vs hf hc h).spec
theorem HY{P:Program}(Dx:P.follows .mixedOrders=true){X:Ctx}(hT:TOk P X.T)(es:List (Ent P))(hX:X.Γ=gam es)(cs:List (PB P)){p:Pc}{g:Nat->(β:Type)->p.T β}(hc:((p.o.all λx=>Nat.beq x.2.m p.m),cs.map (λb=>(find b.q 1 (E5 p.c),b.p.v.m,b.p.n,b.p.m)))=(true,cs.map (λb=>([b.p.c],p.m,p.n,p.m))))(hv:p.v.m=p.m)(hl:p.c=.loop (E5 p.c))(h0:∀{β:Type}(d:p.v.den)(ks:Outs.K β p.o),p.un (g 0) d ks=none)(h:∀(i:Nat){β:Type}(d:p.v.den)(ks:Outs.K β p.o),exec X p.n (cuts cs) 1 (E5 p.c) (p.v.mk' d) (Tl p.v (λd'=>p.un (g i) d' ks) p.o ks)=p.un (g (i+1)) d ks):p.Ok P (p.un λβ=>hid (g fuel β)):=by
 simp only[BQ]at hc;rw[YI];exact pcL Dx X hT (hX▸Kc es) (G:=λi=>p.un (g i)) (cuts cs) hl hv hc.1 (YJ hc.2) h0 h fuel
theorem O1{P:Program}(Dx:P.follows .mixedOrders=true){X:Ctx}(hT:TOk P X.T)(es:List (Ent P))(hX:X.Γ=gam es)(cs:List (PB P))(q:Nat){p:Pc}{g:(β:Type)->p.T β}(hc:((p.o.all λx=>Nat.beq x.2.m p.m),cs.map (λb=>(find b.q q p.c,b.p.v.m,b.p.n,b.p.m)))=(true,cs.map (λb=>([b.p.c],p.m,p.n,p.m))))(h:∀{β:Type}(d:p.v.den)(ks:Outs.K β p.o),exec X p.n (cuts cs) q p.c (p.v.mk' d) (outK p.o ks)=p.un g d ks):p.Ok P (p.un λβ=>hid (g β)):=by
 simp only[BQ]at hc;rw[YI];exact pcE Dx X hT (hX▸Kc es) q (cuts cs) hc.1 (YJ hc.2) h
noncomputable def Ent.inl{P:Program}(Dx:P.follows .mixedOrders=true){X:Ctx}(hT:TOk P X.T)(es:List (Ent P))(hX:X.Γ=gam es){no:Nat}{fn:Func}{rs:List RS}(m:Nat)(hf:P.funcs[no]?=some fn)(hc:((fn.name== "runtime.NumGoroutine"),fn.body,fn.results.toList)=(false,some (Ay fn),rs.map RS.toVar)):Ent P:=
 ⟨no,.abs (Go.Lift.inl X fn.ntmps (Ay fn) rs m),AqW Dx hT (hX▸Kc es) m hf hc⟩
noncomputable def Ent.hand{P:Program}{no:Nat}{S:Spec}(h:SpecOkB P no S)(hs:S.outs=S.ins)(hc:(BT.hand S.ins&&(ST.bnd S.ins.length S.res&&BT.bnd S.ins.length S.ins))=true):Ent P:=
 ⟨no,.abs (Go.Lift.hand S hs),Ae0 h hs hc⟩
noncomputable def Ent.handf{P:Program}{no:Nat}{S:Spec}(h:SpecOkB P no S)(hs:S.outs=S.ins)(hc:(BT.hand S.ins&&(ST.bnd S.ins.length S.res&&BT.bnd S.ins.length S.ins))=true):Ent P:=
 ⟨no,.abs (frzA (Go.Lift.hand S hs)),AqX (Ae0 h hs hc)⟩
end
end Go.Lift
