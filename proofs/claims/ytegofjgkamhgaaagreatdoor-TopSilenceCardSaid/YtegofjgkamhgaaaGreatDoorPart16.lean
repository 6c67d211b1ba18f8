/- Part16 -/
import Derived.Shelf.SlSortCmp.NoneTotal
import Derived.Test.YtegofjgkamhgaaaGreatDoorPart3
set_option linter.unusedVariables false
set_option linter.unusedSectionVars false
set_option linter.unusedSimpArgs false
open Option renaming some → Ybl
open Bool renaming false → Ybo, true → Ybq
open _root_ renaming List → Ybp, Array → Ybx, Inhabited → Yb0
open Decidable renaming decide → Ybv
namespace Go.Lift
open Go.RowKit Go.Shelf Go.Sort Go.Lib Go.Proofs
def encT:(τ:Ty)->τ.den->Ybp Value
 |.bool,b=>[.bool b]
 |.int k,n=>[.int k n]
 |.str,s=>[.string ⟨s.toArray⟩]
 |.unit,_=>[]
 |.prod a b,x=>encT a x.1++encT b x.2
 |.slice _,_=>[]
 |.err,_=>[]
theorem DRep.enc{w:World}{ok:Nat->Prop}:∀{τ:Ty}{x:τ.den}{vs:Ybp Value},τ.flat=Ybq->(DRep w ok τ x vs↔vs=encT τ x)
 |.bool,_,_,_=>Iff.rfl
 |.int _,_,_,_=>Iff.rfl
 |.str,_,_,_=>Iff.rfl
 |.unit,_,_,_=>Iff.rfl
 |.prod a b,x,vs,hf=>by
  simp only[Ty.flat,CO]at hf;simp only[DRep,encT];constructor
  ·rintro⟨u,v,rfl,h1,h2⟩
   rw[(DRep.enc hf.1).1 h1,(DRep.enc hf.2).1 h2]
  ·intro h
   exact⟨_,_,h,(DRep.enc hf.1).2 rfl,(DRep.enc hf.2).2 rfl⟩
 |.slice _,_,_,hf=>by simp[Ty.flat]at hf
theorem jK:∀{τ:Ty}{x:τ.den},τ.flat=Ybq->(encT τ x).length=τ.size:=λ{τ x} hf=>
 DRep.length (w:=default) (ok:=λ_=>True) ((DRep.enc hf).2 rfl)
theorem Ack{τ:Ty}{x:τ.den}(hf:τ.flat=Ybq):∀v∈encT τ x,v.oneCell'=Ybq:=
 DRep.oneCell (w:=default) (ok:=λ_=>True) ((DRep.enc hf).2 rfl)
theorem DList.enc{w:World}{ok:Nat->Prop}{e:Ty}(hf:e.flat=Ybq):∀{l:Ybp e.den}{xs:Ybp Value},DList (λx u=>DRep w ok e x u) l xs↔xs=l.flatMap (encT e)
 |[],xs=>by simp[DList]
 |x::l,xs=>by
  simp only[DList,NV];constructor
  ·rintro⟨u,v,rfl,h1,h2⟩
   rw[(DRep.enc hf).1 h1,(DList.enc hf).1 h2]
  ·rintro rfl
   exact⟨_,_,rfl,(DRep.enc hf).2 rfl,(DList.enc hf).2 rfl⟩
theorem Acl{α:Type}[Yb0 α]{enc:α->Ybp Value}{k:Nat}(hk:∀x,(enc x).length=k)(bT:0<k):∀(l:Ybp α)(t:Nat),t<l.length*k->(l.flatMap enc)[t]?=Ybl ((enc (l.getD (t / k) default))[t%k]!)
 |[],t,h=>by simp at h
 |x::l,t,h=>by
  rw[NV];by_cases ht:t<k
  ·rw[G0 (by rw[hk];exact ht),Nat.div_eq_of_lt ht,Nat.mod_eq_of_lt ht]
   have:t<(enc x).length:=by rw[hk];exact ht
   simp[this]
  ·rw[ES (by rw[hk];omega),hk]
   have h2:t-k<l.length*k:=by rw[Be,DJ]at h;omega
   rw[Acl hk bT l (t-k) h2];obtain⟨s,rfl⟩:∃s,t=s+k:=⟨t-k,by omega⟩;simp[Nat.add_div_right s bT]
theorem Acm{α:Type}[Yb0 α]{enc:α->Ybp Value}{k:Nat}(hk:∀x,(enc x).length=k)(bT:0<k)(d:Ybx α):(flatK enc k d).toList=d.toList.flatMap enc:=by
 apply RR;intro t;by_cases ht:t<d.size*k
 ·rw[Acl hk bT d.toList t (by simpa using ht)]
  have h1:t<(flatK enc k d).toList.length:=by simpa using ht
  have h2:=get_flatK enc k d t ht;rw[C0 h1];congr 1
  have h3:(flatK enc k d)[t]! =(flatK enc k d).toList[t]:=by rw[getElem!_pos (flatK enc k d) t (by simpa using ht)];rfl
  rw[<-h3,h2];have h4:d.toList.getD (t / k) default=d[t / k]!:=by simp[List.getD,Array.getElem!_eq_getD,EQ]
  rw[h4]
 ·have h1:(flatK enc k d).toList.length=d.size*k:=by simp
  rw[MG (by omega),MG]
  have key:∀l:Ybp α,(l.flatMap enc).length=l.length*k:=by
   intro l
   induction l with
   |nil=>simp
   |cons x l ih=>rw[NV,Bd,ih,hk,Be,DJ,MJ]
  rw[key d.toList];simpa using ht
theorem ApB{w:World}{g n:Nat}{os:Ybx Obj}{AI:Ybx Value}{e:TypeId}{fr:Nat×Nat}(d:Ybx Value)(hb:w.heap[g]?=Ybl (.cells AI e fr)):(grow (putRow id (Sort.ahead w n) g 0 d) os).heap[g]?=Ybl (.cells (putCells id 0 d AI) e fr):=by
 have hg:g<w.heap.size:=(Fb.1 hb).1;rw[heap_grow_old _ _ (by simpa using hg)];simp[putRow,mapBlock,Sort.ahead,PG,hb,onCells]
theorem ApC{w:World}{g n:Nat}{os:Ybx Obj}(d:Ybx Value):w.grownBy (grow (putRow id (Sort.ahead w n) g 0 d) os) (Ybl g):=by refine⟨rfl,rfl,rfl,by simp,λk hk Az=>?_⟩;rw[heap_grow_old _ _ (by simpa using hk)];have:g≠k:=λe=>Az (by rw[e]);simp[putRow,mapBlock,Sort.ahead,PG,this]
theorem ApD(AI:Ybx Value)(d:Ybx Value)(h:d.size<=AI.size):(putCells id 0 d AI).toList.take d.size=d.toList:=by
 apply RR;intro j;by_cases hj:j<d.size
 ·rw[HA hj,Array.getElem?_toList]
  simp[putCells,hj,show j<AI.size by omega]
 ·rw[List.getElem?_take_eq_none (by omega),MG (by simp;omega)]
theorem ApE{w:World}{g:Nat}{AI:Ybx Value}{e:TypeId}{d:Ybx Value}(hb:w.heap[g]?=Ybl (.cells AI e (0,0)))(ht:AI.toList.take d.size=d.toList):Holds id w g 0 d:=by
 intro j hj;refine⟨?_,by simp[World.frozen?,hb]⟩;have h1:(AI.toList.take d.size)[j]?=d.toList[j]?:=by rw[ht]
 rw[HA hj]at h1;simp only[World.cell?,hb,CQ];simp only[Option.isSome_none,G3,Cb];rw[<-Array.getElem?_toList,h1];simp[hj]
def FY{α:Type}(good:α->Bool)(d0:α)(h0:good d0=Ybq)(cf:α->α->Int)(l:Ybp α):Ybp α:=
 haveI:Yb0 {x:α // good x=Ybq}:=⟨⟨d0,h0⟩⟩
 if h:∀x∈l,good x=Ybq then
  (pdq (ltOf λ(x y:{x:α // good x=Ybq})=>cf x.1 y.1) (l.attachWith _ h).toArray 0 l.length (Lib.bitLen l.length) Ybq Ybq).toList.map (·.1)
 else l
section
variable{α:Type}{good:α->Bool}{d0:α}{h0:good d0=Ybq}{cf:α->α->Int}
theorem ApF(hO:SWO (ltOf λ(x y:{x:α // good x=Ybq})=>cf x.1 y.1)){l:Ybp α}(h:∀x∈l,good x=Ybq):(FY good d0 h0 cf l).Perm l/\∀i j,i<j->j<l.length->¬cf ((FY good d0 h0 cf l).getD j d0) ((FY good d0 h0 cf l).getD i d0)<0:=by
 letI:Yb0 {x:α // good x=Ybq}:=⟨⟨d0,h0⟩⟩
 unfold FY;rw[dif_pos h];have hs:=pdq_sorts (ltOf λ(x y:{x:α // good x=Ybq})=>cf x.1 y.1) hO (l.attachWith _ h).toArray 0 l.length (Lib.bitLen l.length) Ybq Ybq (BD _) (by simp) (Or.inl rfl);generalize pdq (ltOf λ(x y:{x:α // good x=Ybq})=>cf x.1 y.1) (l.attachWith _ h).toArray 0 l.length (Lib.bitLen l.length) Ybq Ybq=d' at hs;obtain⟨⟨B4,_,hp⟩,AEr⟩:=hs;have AEy:d'.size=l.length:=by rw[B4];simp
 have e1:(d'.extract 0 l.length).toList=d'.toList:=by rw[<-AEy];simp
 have e2:((l.attachWith _ h).toArray.extract 0 l.length).toList=l.attachWith _ h:=by simp;exact GL (by simp)
 rw[e1,e2]at hp;refine⟨?_,λi j Du hj Ae=>?_⟩
 ·have:=hp.map (λx:{x:α // good x=Ybq}=>x.1)
  simpa using this
 ·have h3:=AEr i j (BD _) Du hj
  have Jd:i<d'.size:=by omega
  have Ha:j<d'.size:=by omega
  have h4:∀q,(hq:q<d'.size)->(d'.toList.map (λx:{x:α // good x=Ybq}=>x.1)).getD q d0=(d'[q]!).1:=by intro q hq;simp[List.getD,hq]
  rw[h4 i Jd,h4 j Ha]at Ae;simp only[ltOf,dD]at h3;exact h3 Ae
theorem jL(hO:SWO (ltOf λ(x y:{x:α // good x=Ybq})=>cf x.1 y.1))(l:Ybp α):(FY good d0 h0 cf l).length=l.length:=by
 by_cases h:∀x∈l,good x=Ybq
 ·exact(ApF hO h).1.length_eq
 ·unfold FY
  rw[dif_neg h]
end
def ApG(t:TypeId)(e:Ty)(good:e.den->Bool)(d0:e.den)(h0:good d0=true)(cf:e.den->e.den->Int)(g:FuncId):RowF:=
 ⟨t,e,Ybo,λl=>l.all good&&Ybv (l.length<4611686018427387904),FY good d0 h0 cf,Ybl g⟩
theorem Acn{P:Program}{f:FuncId}{t:TypeId}{e:Ty}{good:e.den->Bool}{d0:e.den}{h0:good d0=Ybq}{cf:e.den->e.den->Int}{g:FuncId}(N:Nat)(he:e.flat=Ybq)(Hd:0<e.size)(hO:SWO (ltOf λ(x y:{x:e.den // good x=Ybq})=>cf x.1 y.1))(C6:∀w,Calls P f #[.slice none 0 0,.func (.func g) #[] #[]] w λe w'=>e=.returned (.tuple #[])/\w'=w)(J0:letI:Yb0 {x:e.den // good x=Ybq}:=⟨⟨d0,h0⟩⟩
   ∀(gb cap:Nat)(d:Ybx {x:e.den // good x=Ybq})(w:World),HoldsK (λx=>encT e x.1) e.size w gb 0 d->gb<w.heap.size->d.size<N->
   Calls P f #[.slice (Ybl ⟨gb,0,none⟩) d.size cap,.func (.func g) #[] #[]] w λe2 w'=>e2=.returned (.tuple #[])/\∃n os,w'=sortWorldK (λx=>encT e x.1) e.size w gb 0 n (pdq (ltOf λ(x y:{x:e.den // good x=Ybq})=>cf x.1 y.1) d 0 d.size (Lib.bitLen d.size) Ybq Ybq) os)
  (B9:∃fn,P.funcs[f]?=Ybl fn/\(fn.name== "runtime.NumGoroutine")=Ybo/\fn.body.isNone=Ybo):RowOk P f ⟨t,e,Ybo,λl=>l.all good&&Ybv (l.length<N),FY good d0 h0 cf,Ybl g⟩:=by
 refine⟨B9,he,λ_ l=>jL hO l,λw base sv(l:Ybp e.den) xs Al7 BM _ hd Ah=>?_⟩;have hd:DList (λx u=>DRep w (λ_=>True) e x u) l xs:=hd;have Ah:w.ownsRow base t e.size sv l.length xs:=Ah;have Al8:(l.all good&&Ybv (l.length<N))=Ybq:=Al7;obtain⟨Alg,Iy⟩:=andB Al8;have Iy:=AC Iy;have wM:∀x∈l,good x=Ybq:=NW.1 Alg;clear Al7 Al8 Alg;have Ad:xs=l.flatMap (encT e):=(DList.enc he).1 hd;subst Ad;change Calls P _ #[sv,.func (.func g) #[] #[]] w _
 letI:Yb0 {x:e.den // good x=Ybq}:=⟨⟨d0,h0⟩⟩
 rcases Ah.2 with⟨rfl,EN⟩|⟨gb,cap,AI,rfl,Ht,hb,h1,h2,h3,h4⟩
 ·have hl:l=([]:Ybp e.den):=FT EN
  subst hl;refine(C6 w).mono λe2 w' ⟨GD,hw⟩=>?_;subst hw;have hr:FY good d0 h0 cf []=[]:=FT (jL hO []);refine⟨.slice none 0 0,GD,⟨rfl,rfl,rfl,Aw _,λ_ _ _=>rfl⟩,λ_=>rfl,.inl rfl,[],?_,?_⟩
  ·show DList _ (FY good d0 h0 cf []) []
   rw[hr];rfl
  ·show World.ownsRow _ base t e.size _ (FY good d0 h0 cf []).length []
   rw[hr];exact⟨by simp,.inl ⟨rfl,rfl⟩⟩
 ·let enc:{x:e.den // good x=Ybq}->Ybp Value:=λx=>encT e x.1
  have hk:∀x,(enc x).length=e.size:=λx=>jK he
  let d:Ybx {x:e.den // good x=Ybq}:=(l.attachWith _ wM).toArray
  have F4:d.size=l.length:=by simp[d]
  have Ki:d.toList.flatMap enc=l.flatMap (encT e):=by
   have:l.flatMap (encT e)=((l.attachWith _ wM).map (·.1)).flatMap (encT e):=by simp
   rw[this,dT]
  have J3:=Acm hk Hd d;have OW:(flatK enc e.size d).size=l.length*e.size:=by rw[size_flatK,F4]
  have hH:HoldsK enc e.size w gb 0 d:=ApE hb (by rw[OW,J3,Ki];exact h4);have hg:gb<w.heap.size:=(Fb.1 hb).1;have UC:=J0 gb cap d w hH hg (by rw[F4];exact Iy);rw[F4]at UC;refine UC.mono λe2 w' ⟨GD,n,os,hw⟩=>?_
  have AE:FY good d0 h0 cf l=(pdq (ltOf λ(x y:{x:e.den // good x=Ybq})=>cf x.1 y.1) d 0 l.length (Lib.bitLen l.length) Ybq Ybq).toList.map (·.1):=by show FY good d0 h0 cf l=_;unfold FY;rw[dif_pos wM]
  have B4:=(pdq_sorts (ltOf λ(x y:{x:e.den // good x=Ybq})=>cf x.1 y.1) hO d 0 l.length (Lib.bitLen l.length) Ybq Ybq (BD _) (by rw[F4];exact Aw _) (Or.inl rfl)).1.1;generalize pdq (ltOf λ(x y:{x:e.den // good x=Ybq})=>cf x.1 y.1) d 0 l.length (Lib.bitLen l.length) Ybq Ybq=d' at hw AE B4;have Alc:=Acm hk Hd d';have ADq:d'.size=l.length:=B4.trans F4;have wI:(flatK enc e.size d').size=l.length*e.size:=by rw[size_flatK,ADq]
  have Alb:d'.toList.flatMap enc=(FY good d0 h0 cf l).flatMap (encT e):=by rw[AE,dT]
  have AK:(FY good d0 h0 cf l).length=l.length:=jL hO l;have hw:w'=grow (putRow id (Sort.ahead w n) gb 0 (flatK enc e.size d')) os:=hw;subst hw;refine⟨.slice (Ybl ⟨gb,0,none⟩) l.length cap,GD,ApC _,λ_=>rfl,.inl rfl,(FY good d0 h0 cf l).flatMap (encT e),(DList.enc he).2 rfl,?_⟩;rw[AK];refine⟨?_,.inr ⟨gb,cap,_,rfl,Ht,ApB _ hb,h1,h2,?_,?_⟩⟩
  ·rw[<-Alb,<-Alc,FV,wI]
  ·show(putCells id 0 (flatK enc e.size d') AI).size=cap*e.size
   rw[<-h3];simp[putCells]
  ·have Bx:(flatK enc e.size d').size<=AI.size:=by rw[wI,h3];exact Fs _ h1
   have:=ApD AI (flatK enc e.size d') Bx;rw[wI,Alc,Alb]at this;exact this
theorem Aco{P:Program}{ρ:Shelf.Ren}{f:FuncId}{t:TypeId}{e:Ty}{good:e.den->Bool}{d0:e.den}{h0:good d0=Ybq}{cf:e.den->e.den->Int}{g:FuncId}(he:e.flat=Ybq)(Hd:0<e.size)(L:SlLaysF0.n6 P ρ)(hf:ρ.f 6=f)(aE:∀w,(Go.isAgg (ρ.t 24)).run P w=.ok Ybq w)(zE:∀w,(Go.sizeOf (ρ.t 24)).run P w=.ok e.size w)(hO:SWO (ltOf λ(x y:{x:e.den // good x=Ybq})=>cf x.1 y.1))(eg:∀args w,(callFunc g args).run P w=.ok (.enter g args) w)(wB:∀x y:e.den,good x=Ybq->good y=Ybq->∀W,Calls P g #[.agg (encT e x).toArray,.agg (encT e y).toArray] W λe w'=>e=.returned (.int .i64 (cf x y))/\∃q MA,w'=grow (W.drewN q) MA)(B9:∃fn,P.funcs[f]?=Ybl fn/\(fn.name== "runtime.NumGoroutine")=Ybo/\fn.body.isNone=Ybo):RowOk P f (ApG t e good d0 h0 cf g):=by
 subst hf;refine Acn 4611686018427387904 he Hd hO (λw=>AnyF.slices_SortFunc_none L none 0 _ w) ?_ B9;intro gb cap d w hH hg Iy
 letI:Yb0 {x:e.den // good x=Ybq}:=⟨⟨d0,h0⟩⟩
 exact AnyQ.slices_SortFunc_eq (α:={x:e.den // good x=Ybq}) L e.size aE zE (λx:{x:e.den // good x=Ybq}=>encT e x.1) (λ_=>jK he) (λ_=>Ack he) (λ(x y:{x:e.den // good x=Ybq})=>cf x.1 y.1) hO g #[] gb 0 cap d w eg (λm os dk _ x y=>wB x.1 y.1 x.2 y.2 _) hH hg Iy
theorem ApH{P:Program}{ρ:Shelf.Ren}{f fi:FuncId}{t:TypeId}{e:Ty}{good:e.den->Bool}{d0:e.den}{h0:good d0=Ybq}{cf:e.den->e.den->Int}{g:FuncId}(he:e.flat=Ybq)(Hd:0<e.size)(L:SlLaysF0.n20 P ρ)(hi:ρ.f 20=fi)(aE:∀w,(Go.isAgg (ρ.t 24)).run P w=.ok Ybq w)(zE:∀w,(Go.sizeOf (ρ.t 24)).run P w=.ok e.size w)(hO:SWO (ltOf λ(x y:{x:e.den // good x=Ybq})=>cf x.1 y.1))(eg:∀args w,(callFunc g args).run P w=.ok (.enter g args) w)(wB:∀x y:e.den,good x=Ybq->good y=Ybq->∀W,Calls P g #[.agg (encT e x).toArray,.agg (encT e y).toArray] W λe w'=>e=.returned (.int .i64 (cf x y))/\∃q MA,w'=grow (W.drewN q) MA)(AlW:∀(p:Option Addr)(n cap:Nat)(w:World)(Q:World->Prop),n<13->Calls P fi #[.slice p n cap,.int .i64 0,.int .i64 n,.func (.func g) #[] #[]] w (λe2 w'=>e2=.returned (.tuple #[])/\Q w')->Calls P f #[.slice p n cap,.func (.func g) #[] #[]] w λe2 w'=>e2=.returned (.tuple #[])/\Q w')(B9:∃fn,P.funcs[f]?=Ybl fn/\(fn.name== "runtime.NumGoroutine")=Ybo/\fn.body.isNone=Ybo):RowOk P f ⟨t,e,Ybo,λl=>l.all good&&Ybv (l.length<13),FY good d0 h0 cf,Ybl g⟩:=by
 subst hi;refine Acn 13 he Hd hO (λw=>AlW none 0 0 w (λw'=>w'=w) (by omega) (AnyF.insertionSortCmpFunc_none L none 0 _ w)) ?_ B9;intro gb cap d w hH hg Iy
 letI:Yb0 {x:e.den // good x=Ybq}:=⟨⟨d0,h0⟩⟩
 refine AlW _ d.size cap w _ Iy ?_;refine(AnyQ.insertionSortCmpFunc (α:={x:e.den // good x=Ybq}) L e.size aE zE (λx:{x:e.den // good x=Ybq}=>encT e x.1) (λ_=>jK he) (λ_=>Ack he) (λ(x y:{x:e.den // good x=Ybq})=>cf x.1 y.1) g #[] gb 0 cap 0 d.size d w eg (λm os dk _ x y=>wB x.1 y.1 x.2 y.2 _) hH hg (BD _) (Aw _) (by omega)).mono λe2 w' ⟨GD,n,os,hw⟩=>⟨GD,n,os,?_⟩;exact hw.trans (Ai (λz=>sortWorldK _ _ w gb 0 n z os) (Sort.pdq_small (by omega)).symm)
end Go.Lift
