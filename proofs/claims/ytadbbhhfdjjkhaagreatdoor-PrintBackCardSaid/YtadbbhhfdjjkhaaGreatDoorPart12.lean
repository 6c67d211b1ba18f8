/- Part12: LiftZs. -/
import Derived.Shelf.SlSortCmp.NoneTotal
import Derived.Test.YtadbbhhfdjjkhaaGreatDoorPart11
set_option linter.unusedVariables false
set_option linter.unusedSectionVars false
set_option linter.unusedSimpArgs false
namespace Go.Lift
open Go.RowKit Go.Shelf Go.Sort Go.Lib Go.Proofs
def encT:(τ:Ty)->τ.den->List Value
 |.bool,b=>[.bool b]
 |.int k,n=>[.int k n]
 |.str,s=>[.string ⟨s.toArray⟩]
 |.unit,_=>[]
 |.prod a b,x=>encT a x.1++encT b x.2
 |.slice _,_=>[]
 |.err,_=>[]
theorem DRep.enc{w:World}{ok:Nat->Prop}:∀{τ:Ty}{x:τ.den}{vs:List Value},τ.flat=true->(DRep w ok τ x vs↔vs=encT τ x)
 |.bool,_,_,_=>Iff.rfl
 |.int _,_,_,_=>Iff.rfl
 |.str,_,_,_=>Iff.rfl
 |.unit,_,_,_=>Iff.rfl
 |.prod a b,x,vs,hf=>by
  simp only[Ty.flat,CE]at hf;simp only[DRep,encT];constructor
  ·rintro⟨u,v,rfl,h1,h2⟩
   rw[(DRep.enc hf.1).1 h1,(DRep.enc hf.2).1 h2]
  ·intro h
   exact⟨_,_,h,(DRep.enc hf.1).2 rfl,(DRep.enc hf.2).2 rfl⟩
 |.slice _,_,_,hf=>by simp[Ty.flat]at hf
theorem Aei:∀{τ:Ty}{x:τ.den},τ.flat=true->(encT τ x).length=τ.size:=λ{τ x} hf=>
 DRep.length (w:=default) (ok:=λ_=>True) ((DRep.enc hf).2 rfl)
theorem ArB{τ:Ty}{x:τ.den}(hf:τ.flat=true):∀v∈encT τ x,v.oneCell'=true:=
 DRep.oneCell (w:=default) (ok:=λ_=>True) ((DRep.enc hf).2 rfl)
theorem DList.enc{w:World}{ok:Nat->Prop}{e:Ty}(hf:e.flat=true):∀{l:List e.den}{xs:List Value},DList (λx u=>DRep w ok e x u) l xs↔xs=l.flatMap (encT e)
 |[],xs=>by simp[DList]
 |x::l,xs=>by
  simp only[DList,Jw];constructor
  ·rintro⟨u,v,rfl,h1,h2⟩
   rw[(DRep.enc hf).1 h1,(DList.enc hf).1 h2]
  ·rintro rfl
   exact⟨_,_,rfl,(DRep.enc hf).2 rfl,(DList.enc hf).2 rfl⟩
theorem Aej{α:Type}[Inhabited α]{enc:α->List Value}{k:Nat}(hk:∀x,(enc x).length=k)(iE:0<k):∀(l:List α)(t:Nat),t<l.length*k->(l.flatMap enc)[t]?=some ((enc (l.getD (t / k) default))[t%k]!)
 |[],t,h=>by simp at h
 |x::l,t,h=>by
  rw[Jw];by_cases ht:t<k
  ·rw[H5 (by rw[hk];exact ht),Nat.div_eq_of_lt ht,Nat.mod_eq_of_lt ht]
   have:t<(enc x).length:=by rw[hk];exact ht
   simp[this]
  ·rw[Gn (by rw[hk];omega),hk]
   have h2:t-k<l.length*k:=by rw[AX,In]at h;omega
   rw[Aej hk iE l (t-k) h2];obtain⟨s,rfl⟩:∃s,t=s+k:=⟨t-k,by omega⟩;simp[Nat.add_div_right s iE]
theorem Aek{α:Type}[Inhabited α]{enc:α->List Value}{k:Nat}(hk:∀x,(enc x).length=k)(iE:0<k)(d:Array α):(flatK enc k d).toList=d.toList.flatMap enc:=by
 apply XT;intro t;by_cases ht:t<d.size*k
 ·rw[Aej hk iE d.toList t (by simpa using ht)]
  have h1:t<(flatK enc k d).toList.length:=by simpa using ht
  have h2:=get_flatK enc k d t ht;rw[Ef h1];congr 1
  have h3:(flatK enc k d)[t]! =(flatK enc k d).toList[t]:=by rw[getElem!_pos (flatK enc k d) t (by simpa using ht)];rfl
  rw[<-h3,h2];have h4:d.toList.getD (t / k) default=d[t / k]!:=by simp[List.getD,Array.getElem!_eq_getD,Fk]
  rw[h4]
 ·have h1:(flatK enc k d).toList.length=d.size*k:=by simp
  rw[Sw (by omega),Sw]
  have key:∀l:List α,(l.flatMap enc).length=l.length*k:=by
   intro l
   induction l with
   |nil=>simp
   |cons x l ih=>rw[Jw,AR,ih,hk,AX,In,MP]
  rw[key d.toList];simpa using ht
theorem ArC{w:World}{g n:Nat}{os:Array Obj}{AP:Array Value}{e:TypeId}{fr:Nat×Nat}(d:Array Value)(hb:w.heap[g]?=some (.cells AP e fr)):(grow (putRow id (Sort.ahead w n) g 0 d) os).heap[g]?=some (.cells (putCells id 0 d AP) e fr):=by
 have hg:g<w.heap.size:=(Ik.1 hb).1;rw[heap_grow_old _ _ (by simpa using hg)];simp[putRow,mapBlock,Sort.ahead,Sx,hb,onCells]
theorem ArD{w:World}{g n:Nat}{os:Array Obj}(d:Array Value):w.grownBy (grow (putRow id (Sort.ahead w n) g 0 d) os) (some g):=by refine⟨rfl,rfl,rfl,by simp,λk hk AW=>?_⟩;rw[heap_grow_old _ _ (by simpa using hk)];have:g≠k:=λe=>AW (by rw[e]);simp[putRow,mapBlock,Sort.ahead,Sx,this]
theorem ArE(AP:Array Value)(d:Array Value)(h:d.size<=AP.size):(putCells id 0 d AP).toList.take d.size=d.toList:=by
 apply XT;intro j;by_cases hj:j<d.size
 ·rw[Ss hj,Array.getElem?_toList]
  simp[putCells,hj,show j<AP.size by omega]
 ·rw[List.getElem?_take_eq_none (by omega),Sw (by simp;omega)]
theorem ArF{w:World}{g:Nat}{AP:Array Value}{e:TypeId}{d:Array Value}(hb:w.heap[g]?=some (.cells AP e (0,0)))(ht:AP.toList.take d.size=d.toList):Holds id w g 0 d:=by
 intro j hj;refine⟨?_,by simp[World.frozen?,hb]⟩;have h1:(AP.toList.take d.size)[j]?=d.toList[j]?:=by rw[ht]
 rw[Ss hj]at h1;simp only[World.cell?,hb,Ei];simp only[Option.isSome_none,Il,CF];rw[<-Array.getElem?_toList,h1];simp[hj]
def GN{α:Type}(good:α->Bool)(d0:α)(h0:good d0=true)(cf:α->α->Int)(l:List α):List α:=
 haveI:Inhabited {x:α // good x=true}:=⟨⟨d0,h0⟩⟩
 if h:∀x∈l,good x=true then
  (pdq (ltOf λ(x y:{x:α // good x=true})=>cf x.1 y.1) (l.attachWith _ h).toArray 0 l.length (Lib.bitLen l.length) true true).toList.map (·.1)
 else l
section
variable{α:Type}{good:α->Bool}{d0:α}{h0:good d0=true}{cf:α->α->Int}
theorem Ael(hO:SWO (ltOf λ(x y:{x:α // good x=true})=>cf x.1 y.1)){l:List α}(h:∀x∈l,good x=true):(GN good d0 h0 cf l).Perm l/\∀i j,i<j->j<l.length->¬cf ((GN good d0 h0 cf l).getD j d0) ((GN good d0 h0 cf l).getD i d0)<0:=by
 letI:Inhabited {x:α // good x=true}:=⟨⟨d0,h0⟩⟩
 unfold GN;rw[dif_pos h];have hs:=pdq_sorts (ltOf λ(x y:{x:α // good x=true})=>cf x.1 y.1) hO (l.attachWith _ h).toArray 0 l.length (Lib.bitLen l.length) true true (Ej _) (by simp) (Or.inl rfl);generalize pdq (ltOf λ(x y:{x:α // good x=true})=>cf x.1 y.1) (l.attachWith _ h).toArray 0 l.length (Lib.bitLen l.length) true true=d' at hs;obtain⟨⟨CK,_,hp⟩,AHm⟩:=hs;have AHq:d'.size=l.length:=by rw[CK];simp
 have e1:(d'.extract 0 l.length).toList=d'.toList:=by rw[<-AHq];simp
 have e2:((l.attachWith _ h).toArray.extract 0 l.length).toList=l.attachWith _ h:=by simp;exact Hb (by simp)
 rw[e1,e2]at hp;refine⟨?_,λi j Dw hj Au=>?_⟩
 ·have:=hp.map (λx:{x:α // good x=true}=>x.1)
  simpa using this
 ·have h3:=AHm i j (Ej _) Dw hj
  have Px:i<d'.size:=by omega
  have GU:j<d'.size:=by omega
  have h4:∀q,(hq:q<d'.size)->(d'.toList.map (λx:{x:α // good x=true}=>x.1)).getD q d0=(d'[q]!).1:=by intro q hq;simp[List.getD,hq]
  rw[h4 i Px,h4 j GU]at Au;simp only[ltOf,XL]at h3;exact h3 Au
theorem o7(hO:SWO (ltOf λ(x y:{x:α // good x=true})=>cf x.1 y.1))(l:List α):(GN good d0 h0 cf l).length=l.length:=by
 by_cases h:∀x∈l,good x=true
 ·exact(Ael hO h).1.length_eq
 ·unfold GN
  rw[dif_neg h]
end
theorem ArG{P:Program}{f:FuncId}{t:TypeId}{e:Ty}{good:e.den->Bool}{d0:e.den}{h0:good d0=true}{cf:e.den->e.den->Int}{g:FuncId}(N:Nat)(he:e.flat=true)(HK:0<e.size)(hO:SWO (ltOf λ(x y:{x:e.den // good x=true})=>cf x.1 y.1))(DD:∀w,Calls P f #[.slice none 0 0,.func (.func g) #[] #[]] w λe w'=>e=.returned (.tuple #[])/\w'=w)(JN:letI:Inhabited {x:e.den // good x=true}:=⟨⟨d0,h0⟩⟩
   ∀(gb cap:Nat)(d:Array {x:e.den // good x=true})(w:World),HoldsK (λx=>encT e x.1) e.size w gb 0 d->gb<w.heap.size->d.size<N->
   Calls P f #[.slice (some ⟨gb,0,none⟩) d.size cap,.func (.func g) #[] #[]] w λe2 w'=>e2=.returned (.tuple #[])/\∃n os,w'=sortWorldK (λx=>encT e x.1) e.size w gb 0 n (pdq (ltOf λ(x y:{x:e.den // good x=true})=>cf x.1 y.1) d 0 d.size (Lib.bitLen d.size) true true) os)
  (C3:∃fn,P.funcs[f]?=some fn/\(fn.name== "runtime.NumGoroutine")=false/\fn.body.isNone=false):RowOk P f ⟨t,e,false,λl=>l.all good&&decide (l.length<N),GN good d0 h0 cf,some g⟩:=by
 refine⟨C3,he,λ_ l=>o7 hO l,λw base sv(l:List e.den) xs Anc Cm _ hd Ao=>?_⟩;have hd:DList (λx u=>DRep w (λ_=>True) e x u) l xs:=hd;have Ao:w.ownsRow base t e.size sv l.length xs:=Ao;have And:(l.all good&&decide (l.length<N))=true:=Anc;obtain⟨Ann,P5⟩:=andB And;have P5:=Bv P5;have Aaz:∀x∈l,good x=true:=Eh.1 Ann;clear Anc And Ann;have Af:xs=l.flatMap (encT e):=(DList.enc he).1 hd;subst Af;change Calls P _ #[sv,.func (.func g) #[] #[]] w _
 letI:Inhabited {x:e.den // good x=true}:=⟨⟨d0,h0⟩⟩
 rcases Ao.2 with⟨rfl,GG⟩|⟨gb,cap,AP,rfl,Ww,hb,h1,h2,h3,h4⟩
 ·have hl:l=([]:List e.den):=IK GG
  subst hl;refine(DD w).mono λe2 w' ⟨Jh,hw⟩=>?_;subst hw;have hr:GN good d0 h0 cf []=[]:=IK (o7 hO []);refine⟨.slice none 0 0,Jh,⟨rfl,rfl,rfl,AQ _,λ_ _ _=>rfl⟩,λ_=>rfl,.inl rfl,[],?_,?_⟩
  ·show DList _ (GN good d0 h0 cf []) []
   rw[hr];rfl
  ·show World.ownsRow _ base t e.size _ (GN good d0 h0 cf []).length []
   rw[hr];exact⟨by simp,.inl ⟨rfl,rfl⟩⟩
 ·let enc:{x:e.den // good x=true}->List Value:=λx=>encT e x.1
  have hk:∀x,(enc x).length=e.size:=λx=>Aei he
  let d:Array {x:e.den // good x=true}:=(l.attachWith _ Aaz).toArray
  have Mu:d.size=l.length:=by simp[d]
  have Pr:d.toList.flatMap enc=l.flatMap (encT e):=by
   have:l.flatMap (encT e)=((l.attachWith _ Aaz).map (·.1)).flatMap (encT e):=by simp
   rw[this,List.flatMap_map]
  have Ji:=Aek hk HK d;have Pt:(flatK enc e.size d).size=l.length*e.size:=by rw[size_flatK,Mu]
  have hH:HoldsK enc e.size w gb 0 d:=ArF hb (by rw[Pt,Ji,Pr];exact h4);have hg:gb<w.heap.size:=(Ik.1 hb).1;have Anb:=JN gb cap d w hH hg (by rw[Mu];exact P5);rw[Mu]at Anb;refine Anb.mono λe2 w' ⟨Jh,n,os,hw⟩=>?_
  have AM:GN good d0 h0 cf l=(pdq (ltOf λ(x y:{x:e.den // good x=true})=>cf x.1 y.1) d 0 l.length (Lib.bitLen l.length) true true).toList.map (·.1):=by show GN good d0 h0 cf l=_;unfold GN;rw[dif_pos Aaz]
  have CK:=(pdq_sorts (ltOf λ(x y:{x:e.den // good x=true})=>cf x.1 y.1) hO d 0 l.length (Lib.bitLen l.length) true true (Ej _) (by rw[Mu];exact AQ _) (Or.inl rfl)).1.1;generalize pdq (ltOf λ(x y:{x:e.den // good x=true})=>cf x.1 y.1) d 0 l.length (Lib.bitLen l.length) true true=d' at hw AM CK;have Ani:=Aek hk HK d';have AGg:d'.size=l.length:=CK.trans Mu;have Aax:(flatK enc e.size d').size=l.length*e.size:=by rw[size_flatK,AGg]
  have Anh:d'.toList.flatMap enc=(GN good d0 h0 cf l).flatMap (encT e):=by rw[AM,List.flatMap_map]
  have Bp:(GN good d0 h0 cf l).length=l.length:=o7 hO l;have hw:w'=grow (putRow id (Sort.ahead w n) gb 0 (flatK enc e.size d')) os:=hw;subst hw;refine⟨.slice (some ⟨gb,0,none⟩) l.length cap,Jh,ArD _,λ_=>rfl,.inl rfl,(GN good d0 h0 cf l).flatMap (encT e),(DList.enc he).2 rfl,?_⟩;rw[Bp];refine⟨?_,.inr ⟨gb,cap,_,rfl,Ww,ArC _ hb,h1,h2,?_,?_⟩⟩
  ·rw[<-Anh,<-Ani,Hc,Aax]
  ·show(putCells id 0 (flatK enc e.size d') AP).size=cap*e.size
   rw[<-h3];simp[putCells]
  ·have BS:(flatK enc e.size d').size<=AP.size:=by rw[Aax,h3];exact L9 _ h1
   have:=ArE AP (flatK enc e.size d') BS;rw[Aax,Ani,Anh]at this;exact this
theorem ArH{P:Program}{ρ:Shelf.Ren}{f fi:FuncId}{t:TypeId}{e:Ty}{good:e.den->Bool}{d0:e.den}{h0:good d0=true}{cf:e.den->e.den->Int}{g:FuncId}(he:e.flat=true)(HK:0<e.size)(L:SlLaysF0.n20 P ρ)(hi:ρ.f 20=fi)(aE:∀w,(Go.isAgg (ρ.t 24)).run P w=.ok true w)(zE:∀w,(Go.sizeOf (ρ.t 24)).run P w=.ok e.size w)(hO:SWO (ltOf λ(x y:{x:e.den // good x=true})=>cf x.1 y.1))(eg:∀args w,(callFunc g args).run P w=.ok (.enter g args) w)(AG5:∀x y:e.den,good x=true->good y=true->∀W,Calls P g #[.agg (encT e x).toArray,.agg (encT e y).toArray] W λe w'=>e=.returned (.int .i64 (cf x y))/\∃q Abw,w'=grow (W.drewN q) Abw)(AnY:∀(p:Option Addr)(n cap:Nat)(w:World)(Q:World->Prop),n<13->Calls P fi #[.slice p n cap,.int .i64 0,.int .i64 n,.func (.func g) #[] #[]] w (λe2 w'=>e2=.returned (.tuple #[])/\Q w')->Calls P f #[.slice p n cap,.func (.func g) #[] #[]] w λe2 w'=>e2=.returned (.tuple #[])/\Q w')(C3:∃fn,P.funcs[f]?=some fn/\(fn.name== "runtime.NumGoroutine")=false/\fn.body.isNone=false):RowOk P f ⟨t,e,false,λl=>l.all good&&decide (l.length<13),GN good d0 h0 cf,some g⟩:=by
 subst hi;refine ArG 13 he HK hO (λw=>AnY none 0 0 w (λw'=>w'=w) (by omega) (AnyF.insertionSortCmpFunc_none L none 0 _ w)) ?_ C3;intro gb cap d w hH hg P5
 letI:Inhabited {x:e.den // good x=true}:=⟨⟨d0,h0⟩⟩
 refine AnY _ d.size cap w _ P5 ?_;refine(AnyQ.insertionSortCmpFunc (α:={x:e.den // good x=true}) L e.size aE zE (λx:{x:e.den // good x=true}=>encT e x.1) (λ_=>Aei he) (λ_=>ArB he) (λ(x y:{x:e.den // good x=true})=>cf x.1 y.1) g #[] gb 0 cap 0 d.size d w eg (λm os dk _ x y=>AG5 x.1 y.1 x.2 y.2 _) hH hg (Ej _) (AQ _) (by omega)).mono λe2 w' ⟨Jh,n,os,hw⟩=>⟨Jh,n,os,?_⟩;exact hw.trans (Ax (λz=>sortWorldK _ _ w gb 0 n z os) (Sort.pdq_small (by omega)).symm)
end Go.Lift
