/- Part16 -/
import Derived.Shelf.SlSortCmp.NoneTotal
import Derived.Test.YthjiepigkfklkaaGreatDoorPart15
set_option linter.unusedVariables false
set_option linter.unusedSectionVars false
set_option linter.unusedSimpArgs false
open _root_ renaming List → Ye, Nat → Yn, Array → YQ
open Option renaming some → Yg
open Bool renaming true → Yp
open Go renaming Value → Yq, World → Yx
namespace Go.Lift
open Go.RowKit Go.Shelf Go.Sort Go.Lib Go.Proofs
def encT:(τ:Ty)->τ.den->Ye Yq
 |.bool,b=>[.bool b]
 |.int k,n=>[.int k n]
 |.str,s=>[.string ⟨s.toArray⟩]
 |.unit,_=>[]
 |.prod a b,x=>encT a x.1++encT b x.2
 |.slice _,_=>[]
 |.err,_=>[]
theorem DRep.enc{w:Yx}{ok:Yn->Prop}:∀{τ:Ty}{x:τ.den}{vs:Ye Yq},τ.flat=Yp->(DRep w ok τ x vs↔vs=encT τ x)
 |.bool,_,_,_=>Iff.rfl
 |.int _,_,_,_=>Iff.rfl
 |.str,_,_,_=>Iff.rfl
 |.unit,_,_,_=>Iff.rfl
 |.prod a b,x,vs,hf=>by
  simp only[Ty.flat,Dk]at hf;simp only[DRep,encT];constructor
  ·rintro⟨u,v,rfl,h1,h2⟩
   rw[(DRep.enc hf.1).1 h1,(DRep.enc hf.2).1 h2]
  ·intro h
   exact⟨_,_,h,(DRep.enc hf.1).2 rfl,(DRep.enc hf.2).2 rfl⟩
 |.slice _,_,_,hf=>by simp[Ty.flat]at hf
theorem Ah7:∀{τ:Ty}{x:τ.den},τ.flat=Yp->(encT τ x).length=τ.size:=λ{τ x} hf=>
 DRep.length (w:=default) (ok:=λ_=>True) ((DRep.enc hf).2 rfl)
theorem AvN{τ:Ty}{x:τ.den}(hf:τ.flat=Yp):∀v∈encT τ x,v.oneCell'=Yp:=
 DRep.oneCell (w:=default) (ok:=λ_=>True) ((DRep.enc hf).2 rfl)
theorem DList.enc{w:Yx}{ok:Yn->Prop}{e:Ty}(hf:e.flat=Yp):∀{l:Ye e.den}{xs:Ye Yq},DList (λx u=>DRep w ok e x u) l xs↔xs=l.flatMap (encT e)
 |[],xs=>by simp[DList]
 |x::l,xs=>by
  simp only[DList,Pd];constructor
  ·rintro⟨u,v,rfl,h1,h2⟩
   rw[(DRep.enc hf).1 h1,(DList.enc hf).1 h2]
  ·rintro rfl
   exact⟨_,_,rfl,(DRep.enc hf).2 rfl,(DList.enc hf).2 rfl⟩
theorem Ah8{α:Type}[Inhabited α]{enc:α->Ye Yq}{k:Yn}(hk:∀x,(enc x).length=k)(nK:0<k):∀(l:Ye α)(t:Yn),t<l.length*k->(l.flatMap enc)[t]?=Yg ((enc (l.getD (t / k) default))[t%k]!)
 |[],t,h=>by simp at h
 |x::l,t,h=>by
  rw[Pd];by_cases ht:t<k
  ·rw[HO (by rw[hk];exact ht),Nat.div_eq_of_lt ht,Nat.mod_eq_of_lt ht]
   have:t<(enc x).length:=by rw[hk];exact ht
   simp[this]
  ·rw[Gy (by rw[hk];omega),hk]
   have h2:t-k<l.length*k:=by rw[B9,Hr]at h;omega
   rw[Ah8 hk nK l (t-k) h2];obtain⟨s,rfl⟩:∃s,t=s+k:=⟨t-k,by omega⟩;simp[Nat.add_div_right s nK]
theorem Ah9{α:Type}[Inhabited α]{enc:α->Ye Yq}{k:Yn}(hk:∀x,(enc x).length=k)(nK:0<k)(d:YQ α):(flatK enc k d).toList=d.toList.flatMap enc:=by
 apply ZY;intro t;by_cases ht:t<d.size*k
 ·rw[Ah8 hk nK d.toList t (by simpa using ht)]
  have h1:t<(flatK enc k d).toList.length:=by simpa using ht
  have h2:=get_flatK enc k d t ht;rw[Ff h1];congr 1
  have h3:(flatK enc k d)[t]! =(flatK enc k d).toList[t]:=by rw[getElem!_pos (flatK enc k d) t (by simpa using ht)];rfl
  rw[<-h3,h2];have h4:d.toList.getD (t / k) default=d[t / k]!:=by simp[List.getD,Array.getElem!_eq_getD,F6]
  rw[h4]
 ·have h1:(flatK enc k d).toList.length=d.size*k:=by simp
  rw[TK (by omega),TK]
  have key:∀l:Ye α,(l.flatMap enc).length=l.length*k:=by
   intro l
   induction l with
   |nil=>simp
   |cons x l ih=>rw[Pd,AQ,ih,hk,B9,Hr,Pj]
  rw[key d.toList];simpa using ht
theorem AvO{w:Yx}{g n:Yn}{os:YQ Obj}{Ba:YQ Yq}{e:TypeId}{fr:Yn×Yn}(d:YQ Yq)(hb:w.heap[g]?=Yg (.cells Ba e fr)):(grow (putRow id (Sort.ahead w n) g 0 d) os).heap[g]?=Yg (.cells (putCells id 0 d Ba) e fr):=by
 have hg:g<w.heap.size:=(IN.1 hb).1;rw[heap_grow_old _ _ (by simpa using hg)];simp[putRow,mapBlock,Sort.ahead,TL,hb,onCells]
theorem AvP{w:Yx}{g n:Yn}{os:YQ Obj}(d:YQ Yq):w.grownBy (grow (putRow id (Sort.ahead w n) g 0 d) os) (Yg g):=by refine⟨rfl,rfl,rfl,by simp,λk hk AO=>?_⟩;rw[heap_grow_old _ _ (by simpa using hk)];have:g≠k:=λe=>AO (by rw[e]);simp[putRow,mapBlock,Sort.ahead,TL,this]
theorem AvQ(Ba:YQ Yq)(d:YQ Yq)(h:d.size<=Ba.size):(putCells id 0 d Ba).toList.take d.size=d.toList:=by
 apply ZY;intro j;by_cases hj:j<d.size
 ·rw[TH hj,Array.getElem?_toList]
  simp[putCells,hj,show j<Ba.size by omega]
 ·rw[List.getElem?_take_eq_none (by omega),TK (by simp;omega)]
theorem AvR{w:Yx}{g:Yn}{Ba:YQ Yq}{e:TypeId}{d:YQ Yq}(hb:w.heap[g]?=Yg (.cells Ba e (0,0)))(ht:Ba.toList.take d.size=d.toList):Holds id w g 0 d:=by
 intro j hj;refine⟨?_,by simp[World.frozen?,hb]⟩;have h1:(Ba.toList.take d.size)[j]?=d.toList[j]?:=by rw[ht]
 rw[TH hj]at h1;simp only[World.cell?,hb,DZ];simp only[Option.isSome_none,IQ,CN];rw[<-Array.getElem?_toList,h1];simp[hj]
section
variable{α:Type}{good:α->Bool}{d0:α}{h0:good d0=Yp}{cf:α->α->Int}
end
end Go.Lift
