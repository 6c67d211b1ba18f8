/- Part12: LiftZs. -/
import Derived.Shelf.SlSortCmp.NoneTotal
import Derived.Test.YtgocccmoefchaaaGreatDoorPart11
set_option linter.unusedVariables false
set_option linter.unusedSectionVars false
set_option linter.unusedSimpArgs false
namespace Go.Lift
open Go.RowKit Go.Shelf Go.Sort Go.Lib Go.Proofs
def encT:(τ:Ty)->τ.den->List Value
 |.bool,b=>[.bool b]
 |.int k,n=>[.int k n]
 |.str,s=>[.string ⟨s.toArray⟩]
 |.unit,_=>[]
 |.prod a b,x=>encT a x.1++encT b x.2
 |.slice _,_=>[]
 |.err,_=>[]
theorem DRep.enc{w:World}{ok:Nat->Prop}:∀{τ:Ty}{x:τ.den}{vs:List Value},τ.flat=true->(DRep w ok τ x vs↔vs=encT τ x)
 |.bool,_,_,_=>Iff.rfl
 |.int _,_,_,_=>Iff.rfl
 |.str,_,_,_=>Iff.rfl
 |.unit,_,_,_=>Iff.rfl
 |.prod a b,x,vs,hf=>by
  simp only[Ty.flat,C5]at hf;simp only[DRep,encT];constructor
  ·rintro⟨u,v,rfl,h1,h2⟩
   rw[(DRep.enc hf.1).1 h1,(DRep.enc hf.2).1 h2]
  ·intro h
   exact⟨_,_,h,(DRep.enc hf.1).2 rfl,(DRep.enc hf.2).2 rfl⟩
 |.slice _,_,_,hf=>by simp[Ty.flat]at hf
theorem Aaq:∀{τ:Ty}{x:τ.den},τ.flat=true->(encT τ x).length=τ.size:=λ{τ x} hf=>
 DRep.length (w:=default) (ok:=λ_=>True) ((DRep.enc hf).2 rfl)
theorem Amv{τ:Ty}{x:τ.den}(hf:τ.flat=true):∀v∈encT τ x,v.oneCell'=true:=
 DRep.oneCell (w:=default) (ok:=λ_=>True) ((DRep.enc hf).2 rfl)
theorem DList.enc{w:World}{ok:Nat->Prop}{e:Ty}(hf:e.flat=true):∀{l:List e.den}{xs:List Value},DList (λx u=>DRep w ok e x u) l xs↔xs=l.flatMap (encT e)
 |[],xs=>by simp[DList]
 |x::l,xs=>by
  simp only[DList,ML];constructor
  ·rintro⟨u,v,rfl,h1,h2⟩
   rw[(DRep.enc hf).1 h1,(DList.enc hf).1 h2]
  ·rintro rfl
   exact⟨_,_,rfl,(DRep.enc hf).2 rfl,(DList.enc hf).2 rfl⟩
theorem Aar{α:Type}[Inhabited α]{enc:α->List Value}{k:Nat}(hk:∀x,(enc x).length=k)(aN:0<k):∀(l:List α)(t:Nat),t<l.length*k->(l.flatMap enc)[t]?=some ((enc (l.getD (t / k) default))[t%k]!)
 |[],t,h=>by simp at h
 |x::l,t,h=>by
  rw[ML];by_cases ht:t<k
  ·rw[GX (by rw[hk];exact ht),Nat.div_eq_of_lt ht,Nat.mod_eq_of_lt ht]
   have:t<(enc x).length:=by rw[hk];exact ht
   simp[this]
  ·rw[FG (by rw[hk];omega),hk]
   have h2:t-k<l.length*k:=by rw[Ba,HG]at h;omega
   rw[Aar hk aN l (t-k) h2];obtain⟨s,rfl⟩:∃s,t=s+k:=⟨t-k,by omega⟩;simp[Nat.add_div_right s aN]
theorem Aas{α:Type}[Inhabited α]{enc:α->List Value}{k:Nat}(hk:∀x,(enc x).length=k)(aN:0<k)(d:Array α):(flatK enc k d).toList=d.toList.flatMap enc:=by
 apply V9;intro t;by_cases ht:t<d.size*k
 ·rw[Aar hk aN d.toList t (by simpa using ht)]
  have h1:t<(flatK enc k d).toList.length:=by simpa using ht
  have h2:=get_flatK enc k d t ht;rw[DK h1];congr 1
  have h3:(flatK enc k d)[t]! =(flatK enc k d).toList[t]:=by rw[getElem!_pos (flatK enc k d) t (by simpa using ht)];rfl
  rw[<-h3,h2];have h4:d.toList.getD (t / k) default=d[t / k]!:=by simp[List.getD,Array.getElem!_eq_getD,EL]
  rw[h4]
 ·have h1:(flatK enc k d).toList.length=d.size*k:=by simp
  rw[QS (by omega),QS]
  have key:∀l:List α,(l.flatMap enc).length=l.length*k:=by
   intro l
   induction l with
   |nil=>simp
   |cons x l ih=>rw[ML,AE,ih,hk,Ba,HG,LK]
  rw[key d.toList];simpa using ht
theorem Amw{w:World}{g n:Nat}{os:Array Obj}{AQ:Array Value}{e:TypeId}{fr:Nat×Nat}(d:Array Value)(hb:w.heap[g]?=some (.cells AQ e fr)):(grow (putRow id (Sort.ahead w n) g 0 d) os).heap[g]?=some (.cells (putCells id 0 d AQ) e fr):=by
 have hg:g<w.heap.size:=(HD.1 hb).1;rw[heap_grow_old _ _ (by simpa using hg)];simp[putRow,mapBlock,Sort.ahead,QT,hb,onCells]
theorem Amx{w:World}{g n:Nat}{os:Array Obj}(d:Array Value):w.grownBy (grow (putRow id (Sort.ahead w n) g 0 d) os) (some g):=by refine⟨rfl,rfl,rfl,by simp,λk hk AL=>?_⟩;rw[heap_grow_old _ _ (by simpa using hk)];have:g≠k:=λe=>AL (by rw[e]);simp[putRow,mapBlock,Sort.ahead,QT,this]
theorem Amy(AQ:Array Value)(d:Array Value)(h:d.size<=AQ.size):(putCells id 0 d AQ).toList.take d.size=d.toList:=by
 apply V9;intro j;by_cases hj:j<d.size
 ·rw[QP hj,Array.getElem?_toList]
  simp[putCells,hj,show j<AQ.size by omega]
 ·rw[List.getElem?_take_eq_none (by omega),QS (by simp;omega)]
theorem Amz{w:World}{g:Nat}{AQ:Array Value}{e:TypeId}{d:Array Value}(hb:w.heap[g]?=some (.cells AQ e (0,0)))(ht:AQ.toList.take d.size=d.toList):Holds id w g 0 d:=by
 intro j hj;refine⟨?_,by simp[World.frozen?,hb]⟩;have h1:(AQ.toList.take d.size)[j]?=d.toList[j]?:=by rw[ht]
 rw[QP hj]at h1;simp only[World.cell?,hb,DL];simp only[Option.isSome_none,HE,Cx];rw[<-Array.getElem?_toList,h1];simp[hj]
def Gl{α:Type}(good:α->Bool)(d0:α)(h0:good d0=true)(cf:α->α->Int)(l:List α):List α:=
 haveI:Inhabited {x:α // good x=true}:=⟨⟨d0,h0⟩⟩
 if h:∀x∈l,good x=true then
  (pdq (ltOf λ(x y:{x:α // good x=true})=>cf x.1 y.1) (l.attachWith _ h).toArray 0 l.length (Lib.bitLen l.length) true true).toList.map (·.1)
 else l
section
variable{α:Type}{good:α->Bool}{d0:α}{h0:good d0=true}{cf:α->α->Int}
theorem Aat(hO:SWO (ltOf λ(x y:{x:α // good x=true})=>cf x.1 y.1)){l:List α}(h:∀x∈l,good x=true):(Gl good d0 h0 cf l).Perm l/\∀i j,i<j->j<l.length->¬cf ((Gl good d0 h0 cf l).getD j d0) ((Gl good d0 h0 cf l).getD i d0)<0:=by
 letI:Inhabited {x:α // good x=true}:=⟨⟨d0,h0⟩⟩
 unfold Gl;rw[dif_pos h];have hs:=pdq_sorts (ltOf λ(x y:{x:α // good x=true})=>cf x.1 y.1) hO (l.attachWith _ h).toArray 0 l.length (Lib.bitLen l.length) true true (DM _) (by simp) (Or.inl rfl);generalize pdq (ltOf λ(x y:{x:α // good x=true})=>cf x.1 y.1) (l.attachWith _ h).toArray 0 l.length (Lib.bitLen l.length) true true=d' at hs;obtain⟨⟨C3,_,hp⟩,AzV⟩:=hs;have AzZ:d'.size=l.length:=by rw[C3];simp
 have e1:(d'.extract 0 l.length).toList=d'.toList:=by rw[<-AzZ];simp
 have e2:((l.attachWith _ h).toArray.extract 0 l.length).toList=l.attachWith _ h:=by simp;exact G0 (by simp)
 rw[e1,e2]at hp;refine⟨?_,λi j Db hj Ao=>?_⟩
 ·have:=hp.map (λx:{x:α // good x=true}=>x.1)
  simpa using this
 ·have h3:=AzV i j (DM _) Db hj
  have NV:i<d'.size:=by omega
  have Gs:j<d'.size:=by omega
  have h4:∀q,(hq:q<d'.size)->(d'.toList.map (λx:{x:α // good x=true}=>x.1)).getD q d0=(d'[q]!).1:=by intro q hq;simp[List.getD,hq]
  rw[h4 i NV,h4 j Gs]at Ao;simp only[ltOf,cH]at h3;exact h3 Ao
theorem gX(hO:SWO (ltOf λ(x y:{x:α // good x=true})=>cf x.1 y.1))(l:List α):(Gl good d0 h0 cf l).length=l.length:=by
 by_cases h:∀x∈l,good x=true
 ·exact(Aat hO h).1.length_eq
 ·unfold Gl
  rw[dif_neg h]
end
theorem AmA{P:Program}{f:FuncId}{t:TypeId}{e:Ty}{good:e.den->Bool}{d0:e.den}{h0:good d0=true}{cf:e.den->e.den->Int}{g:FuncId}(N:Nat)(he:e.flat=true)(Hn:0<e.size)(hO:SWO (ltOf λ(x y:{x:e.den // good x=true})=>cf x.1 y.1))(Dx:∀w,Calls P f #[.slice none 0 0,.func (.func g) #[] #[]] w λe w'=>e=.returned (.tuple #[])/\w'=w)(Ln:letI:Inhabited {x:e.den // good x=true}:=⟨⟨d0,h0⟩⟩
   ∀(gb cap:Nat)(d:Array {x:e.den // good x=true})(w:World),HoldsK (λx=>encT e x.1) e.size w gb 0 d->gb<w.heap.size->d.size<N->
   Calls P f #[.slice (some ⟨gb,0,none⟩) d.size cap,.func (.func g) #[] #[]] w λe2 w'=>e2=.returned (.tuple #[])/\∃n os,w'=sortWorldK (λx=>encT e x.1) e.size w gb 0 n (pdq (ltOf λ(x y:{x:e.den // good x=true})=>cf x.1 y.1) d 0 d.size (Lib.bitLen d.size) true true) os)
  (Cl:∃fn,P.funcs[f]?=some fn/\(fn.name== "runtime.NumGoroutine")=false/\fn.body.isNone=false):RowOk P f ⟨t,e,false,λl=>l.all good&&decide (l.length<N),Gl good d0 h0 cf,some g⟩:=by
 refine⟨Cl,he,λ_ l=>gX hO l,λw base sv(l:List e.den) xs AhX BR _ hd Ak=>?_⟩;have hd:DList (λx u=>DRep w (λ_=>True) e x u) l xs:=hd;have Ak:w.ownsRow base t e.size sv l.length xs:=Ak;have AhY:(l.all good&&decide (l.length<N))=true:=AhX;obtain⟨Aia,Of⟩:=andB AhY;have Of:=AV Of;have tL:∀x∈l,good x=true:=Ef.1 Aia;clear AhX AhY Aia;have Ae:xs=l.flatMap (encT e):=(DList.enc he).1 hd;subst Ae;change Calls P _ #[sv,.func (.func g) #[] #[]] w _
 letI:Inhabited {x:e.den // good x=true}:=⟨⟨d0,h0⟩⟩
 rcases Ak.2 with⟨rfl,Gd⟩|⟨gb,cap,AQ,rfl,Uq,hb,h1,h2,h3,h4⟩
 ·have hl:l=([]:List e.den):=Ik Gd
  subst hl;refine(Dx w).mono λe2 w' ⟨I1,hw⟩=>?_;subst hw;have hr:Gl good d0 h0 cf []=[]:=Ik (gX hO []);refine⟨.slice none 0 0,I1,⟨rfl,rfl,rfl,AC _,λ_ _ _=>rfl⟩,λ_=>rfl,.inl rfl,[],?_,?_⟩
  ·show DList _ (Gl good d0 h0 cf []) []
   rw[hr];rfl
  ·show World.ownsRow _ base t e.size _ (Gl good d0 h0 cf []).length []
   rw[hr];exact⟨by simp,.inl ⟨rfl,rfl⟩⟩
 ·let enc:{x:e.den // good x=true}->List Value:=λx=>encT e x.1
  have hk:∀x,(enc x).length=e.size:=λx=>Aaq he
  let d:Array {x:e.den // good x=true}:=(l.attachWith _ tL).toArray
  have Ls:d.size=l.length:=by simp[d]
  have NP:d.toList.flatMap enc=l.flatMap (encT e):=by
   have:l.flatMap (encT e)=((l.attachWith _ tL).map (·.1)).flatMap (encT e):=by simp
   rw[this,List.flatMap_map]
  have I2:=Aas hk Hn d;have NR:(flatK enc e.size d).size=l.length*e.size:=by rw[size_flatK,Ls]
  have hH:HoldsK enc e.size w gb 0 d:=Amz hb (by rw[NR,I2,NP];exact h4);have hg:gb<w.heap.size:=(HD.1 hb).1;have AhW:=Ln gb cap d w hH hg (by rw[Ls];exact Of);rw[Ls]at AhW;refine AhW.mono λe2 w' ⟨I1,n,os,hw⟩=>?_
  have AA:Gl good d0 h0 cf l=(pdq (ltOf λ(x y:{x:e.den // good x=true})=>cf x.1 y.1) d 0 l.length (Lib.bitLen l.length) true true).toList.map (·.1):=by show Gl good d0 h0 cf l=_;unfold Gl;rw[dif_pos tL]
  have C3:=(pdq_sorts (ltOf λ(x y:{x:e.den // good x=true})=>cf x.1 y.1) hO d 0 l.length (Lib.bitLen l.length) true true (DM _) (by rw[Ls];exact AC _) (Or.inl rfl)).1.1;generalize pdq (ltOf λ(x y:{x:e.den // good x=true})=>cf x.1 y.1) d 0 l.length (Lib.bitLen l.length) true true=d' at hw AA C3;have Ai5:=Aas hk Hn d';have AyO:d'.size=l.length:=C3.trans Ls;have tJ:(flatK enc e.size d').size=l.length*e.size:=by rw[size_flatK,AyO]
  have Ai4:d'.toList.flatMap enc=(Gl good d0 h0 cf l).flatMap (encT e):=by rw[AA,List.flatMap_map]
  have Bb:(Gl good d0 h0 cf l).length=l.length:=gX hO l;have hw:w'=grow (putRow id (Sort.ahead w n) gb 0 (flatK enc e.size d')) os:=hw;subst hw;refine⟨.slice (some ⟨gb,0,none⟩) l.length cap,I1,Amx _,λ_=>rfl,.inl rfl,(Gl good d0 h0 cf l).flatMap (encT e),(DList.enc he).2 rfl,?_⟩;rw[Bb];refine⟨?_,.inr ⟨gb,cap,_,rfl,Uq,Amw _ hb,h1,h2,?_,?_⟩⟩
  ·rw[<-Ai4,<-Ai5,G3,tJ]
  ·show(putCells id 0 (flatK enc e.size d') AQ).size=cap*e.size
   rw[<-h3];simp[putCells]
  ·have BD:(flatK enc e.size d').size<=AQ.size:=by rw[tJ,h3];exact KG _ h1
   have:=Amy AQ (flatK enc e.size d') BD;rw[tJ,Ai5,Ai4]at this;exact this
theorem AmB{P:Program}{ρ:Shelf.Ren}{f fi:FuncId}{t:TypeId}{e:Ty}{good:e.den->Bool}{d0:e.den}{h0:good d0=true}{cf:e.den->e.den->Int}{g:FuncId}(he:e.flat=true)(Hn:0<e.size)(L:SlLaysF0.n20 P ρ)(hi:ρ.f 20=fi)(aE:∀w,(Go.isAgg (ρ.t 24)).run P w=.ok true w)(zE:∀w,(Go.sizeOf (ρ.t 24)).run P w=.ok e.size w)(hO:SWO (ltOf λ(x y:{x:e.den // good x=true})=>cf x.1 y.1))(eg:∀args w,(callFunc g args).run P w=.ok (.enter g args) w)(AyD:∀x y:e.den,good x=true->good y=true->∀W,Calls P g #[.agg (encT e x).toArray,.agg (encT e y).toArray] W λe w'=>e=.returned (.int .i64 (cf x y))/\∃q vC,w'=grow (W.drewN q) vC)(AiP:∀(p:Option Addr)(n cap:Nat)(w:World)(Q:World->Prop),n<13->Calls P fi #[.slice p n cap,.int .i64 0,.int .i64 n,.func (.func g) #[] #[]] w (λe2 w'=>e2=.returned (.tuple #[])/\Q w')->Calls P f #[.slice p n cap,.func (.func g) #[] #[]] w λe2 w'=>e2=.returned (.tuple #[])/\Q w')(Cl:∃fn,P.funcs[f]?=some fn/\(fn.name== "runtime.NumGoroutine")=false/\fn.body.isNone=false):RowOk P f ⟨t,e,false,λl=>l.all good&&decide (l.length<13),Gl good d0 h0 cf,some g⟩:=by
 subst hi;refine AmA 13 he Hn hO (λw=>AiP none 0 0 w (λw'=>w'=w) (by omega) (AnyF.insertionSortCmpFunc_none L none 0 _ w)) ?_ Cl;intro gb cap d w hH hg Of
 letI:Inhabited {x:e.den // good x=true}:=⟨⟨d0,h0⟩⟩
 refine AiP _ d.size cap w _ Of ?_;refine(AnyQ.insertionSortCmpFunc (α:={x:e.den // good x=true}) L e.size aE zE (λx:{x:e.den // good x=true}=>encT e x.1) (λ_=>Aaq he) (λ_=>Amv he) (λ(x y:{x:e.den // good x=true})=>cf x.1 y.1) g #[] gb 0 cap 0 d.size d w eg (λm os dk _ x y=>AyD x.1 y.1 x.2 y.2 _) hH hg (DM _) (AC _) (by omega)).mono λe2 w' ⟨I1,n,os,hw⟩=>⟨I1,n,os,?_⟩;exact hw.trans (At (λz=>sortWorldK _ _ w gb 0 n z os) (Sort.pdq_small (by omega)).symm)
end Go.Lift
