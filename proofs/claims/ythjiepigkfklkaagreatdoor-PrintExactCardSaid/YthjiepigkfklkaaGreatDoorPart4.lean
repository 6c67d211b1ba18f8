/- Part4 -/
import Derived.Laws.AppendOwn
import Derived.Below
import Derived.Lib.Join
import Derived.Lib.LaidTab
import Derived.Lib.ItoaNum
import Derived.Lib.Space
import Derived.Lib.SpaceR
import Derived.Orders
import Derived.Laws.Rows
import Derived.Laws.CopyRow
import Derived.Laws.MakeOwn
import Derived.Laws.Build
import Derived.Laws.StructEq
import Derived.Laws.Small
import Derived.Deep.RegionLaw
import Derived.Test.YthjiepigkfklkaaGreatDoorPart0
set_option linter.unusedVariables false
set_option linter.unusedSectionVars false
set_option linter.unusedSimpArgs false
open _root_ renaming Option → Ya, List → Ye, Int → Yh, UInt8 → Yj, cond → Yk, Nat → Yn, Bool → Ys, if_neg → Yy, if_pos → Y1, absurd → Y7, Array → YQ
open List renaming length → Yb, getD → Ym, replicate → Y8, set → YG, set_append_right → Yba, set_append_left → Ybe, take_succ_cons → Ybg
open Decidable renaming decide → Yd
open Option renaming none → Yf, some → Yg
open Bool renaming false → Yi, true → Yp
open Nat renaming beq → Yo, blt → Y0, ble → YI, min → YV
open Go renaming Value → Yq, TypeId → Yr, Program → Yw, World → Yx, Operand → Y2, execOp → Y3, FuncId → YA, TypeDesc → YD, TypeInfo → YN, MapEntry → YS, IntKind → YT, heap_setCell_other → YZ, maxLen → Yaj, BinOp → Ya6, storeVar → YaH
open Go.Op renaming operands → Yt, bytesLess → Yap
open Go.Result renaming andThen_ok → Y9
open Go.Sem renaming run_bind → YC
open Go.Region renaming binds → YJ
open Go.Addr renaming add_lit → YM, add → Ya4
open BitVec renaming ofInt → Yai
open Go.Oper renaming wp → Yan
open Go.Instr renaming sureAddr → Yau
open Go.Lib renaming join → Yay
open Go.World renaming setCell → YaB
open Classical renaming em → YaM
namespace Go.Lift
inductive Ty where
 |bool|int (k:YT)|str|unit|err
 |prod (a b:Ty)|slice (e:Ty)
 deriving DecidableEq
@[reducible] def Ty.den:Ty->Type
 |.bool=>Ys
 |.int _=>Yh
 |.str=>Ye Yj
 |.unit=>Unit
 |.err=>Ys
 |.prod a b=>a.den×b.den
 |.slice e=>Ye e.den
def Ty.dflt:(τ:Ty)->τ.den
 |.bool=>Yi
 |.int _=>(0:Yh)
 |.str=>([]:Ye Yj)
 |.unit=>()
 |.err=>Yp
 |.prod a b=>(a.dflt,b.dflt)
 |.slice e=>([]:Ye e.den)
def Ty.size:Ty->Yn
 |.bool|.int _|.str|.err|.slice _=>1
 |.unit=>0
 |.prod a b=>a.size+b.size
def DList{α:Type}(R:α->Ye Yq->Prop):Ye α->Ye Yq->Prop
 |[],xs=>xs=[]
 |x::l,xs=>∃u v,xs=u++v/\R x u/\DList R l v
def errRep:Ys->Yq->Prop
 |true,v=>v=.nilIface
 |false,v=>∃t u,v=.iface t u
theorem errRep.one{b:Ys}{v:Yq}(h:errRep b v):v.oneCell'=Yp:=by
 cases b with
 |true=>obtain rfl:v=.nilIface:=h;rfl
 |false=>obtain⟨t,u,rfl⟩:=h;rfl
def DRep(w:Yx)(ok:Yn->Prop):(τ:Ty)->τ.den->Ye Yq->Prop
 |.bool,b,vs=>vs=[.bool b]
 |.int k,n,vs=>vs=[.int k n]
 |.str,s,vs=>vs=[.string ⟨s.toArray⟩]
 |.err,b,vs=>∃v,vs=[v]/\errRep b v
 |.unit,_,vs=>vs=[]
 |.prod a b,x,vs=>∃u v,vs=u++v/\DRep w ok a x.1 u/\DRep w ok b x.2 v
 |.slice e,l,vs=>∃A c xs,vs=[.slice A l.length c]/\l.length<=c/\c<=Yaj/\DList (λx u=>DRep w ok e x u) l xs/\
   ∀j v,xs[j]?=Yg v->∃ad,A=Yg ad/\ok ad.block/\w.cell? (ad.add j)=Yg v
theorem DList.mono{α:Type}{R R':α->Ye Yq->Prop}(h:∀x u,R x u->R' x u):∀{l xs},DList R l xs->DList R' l xs
 |[],_,hx=>hx
 |_::_,_,⟨u,v,e,hr,ht⟩=>⟨u,v,e,h _ _ hr,DList.mono h ht⟩
theorem DList.append{α:Type}{R:α->Ye Yq->Prop}:∀{l l' xs ys},DList R l xs->DList R l' ys->DList R (l++l') (xs++ys)
 |[],_,_,_,hx,hy=>by simp only[DList]at hx;subst hx;simpa using hy
 |_::_,_,_,_,⟨u,v,e,hr,ht⟩,hy=>⟨u,v++_,by rw[e,C4],hr,DList.append ht hy⟩
theorem DRep.length{w:Yx}{ok:Yn->Prop}:∀{τ:Ty}{x:τ.den}{vs:Ye Yq},DRep w ok τ x vs->vs.length=τ.size
 |.bool,_,_,h=>by simp only[DRep]at h;simp[h,Ty.size]
 |.int _,_,_,h=>by simp only[DRep]at h;simp[h,Ty.size]
 |.str,_,_,h=>by simp only[DRep]at h;simp[h,Ty.size]
 |.err,_,_,h=>by simp only[DRep]at h;obtain⟨v,rfl,_⟩:=h;rfl
 |.unit,_,_,h=>by simp only[DRep]at h;simp[h,Ty.size]
 |.prod a b,_,_,h=>by simp only[DRep]at h;obtain⟨u,v,rfl,h1,h2⟩:=h;simp[Ty.size,DRep.length h1,DRep.length h2]
 |.slice _,_,_,h=>by simp only[DRep]at h;obtain⟨A,c,xs,rfl,_⟩:=h;simp[Ty.size]
theorem DRep.oneCell{w:Yx}{ok:Yn->Prop}:∀{τ:Ty}{x:τ.den}{vs:Ye Yq},DRep w ok τ x vs->∀v∈vs,v.oneCell'=Yp
 |.bool,_,_,h,v,hv=>by simp only[DRep]at h;subst h;simp at hv;subst hv;rfl
 |.int _,_,_,h,v,hv=>by simp only[DRep]at h;subst h;simp at hv;subst hv;rfl
 |.str,_,_,h,v,hv=>by simp only[DRep]at h;subst h;simp at hv;subst hv;rfl
 |.err,_,_,h,v,hv=>by simp only[DRep]at h;obtain⟨u,rfl,hu⟩:=h;simp at hv;subst hv;exact hu.one
 |.unit,_,_,h,v,hv=>by simp only[DRep]at h;subst h;simp at hv
 |.prod a b,_,_,h,v,hv=>by
  simp only[DRep]at h;obtain⟨x,y,rfl,h1,h2⟩:=h;rcases C5.1 hv with hv|hv
  ·exact DRep.oneCell h1 v hv
  ·exact DRep.oneCell h2 v hv
 |.slice _,_,_,h,v,hv=>by simp only[DRep]at h;obtain⟨A,c,xs,rfl,_⟩:=h;simp at hv;subst hv;rfl
theorem DList.length{w:Yx}{ok:Yn->Prop}{e:Ty}:∀{l:Ye e.den}{xs:Ye Yq},DList (λx u=>DRep w ok e x u) l xs->xs.length=l.length*e.size
 |[],_,h=>by simp only[DList]at h;simp[h]
 |_::l,_,⟨u,v,e1,hr,ht⟩=>by rw[e1,AQ,DRep.length hr,DList.length ht,B9,Hr,Pj]
theorem DList.oneCell{w:Yx}{ok:Yn->Prop}{e:Ty}:∀{l:Ye e.den}{xs:Ye Yq},DList (λx u=>DRep w ok e x u) l xs->∀v∈xs,v.oneCell'=Yp
 |[],_,h,v,hv=>by simp only[DList]at h;subst h;simp at hv
 |_::l,_,⟨x,y,e1,hr,ht⟩,v,hv=>by
  subst e1;rcases C5.1 hv with hv|hv
  ·exact DRep.oneCell hr v hv
  ·exact DList.oneCell ht v hv
theorem DList.get{w:Yx}{ok:Yn->Prop}{e:Ty}:∀{l:Ye e.den}{xs:Ye Yq}{i:Yn}(d:e.den),DList (λx u=>DRep w ok e x u) l xs->i<l.length->∃u p q,xs=p++(u++q)/\p.length=i*e.size/\DRep w ok e (l.getD i d) u
 |[],_,i,_,_,h=>by simp at h
 |x::l,xs,0,d,⟨u,v,e1,hr,ht⟩,_=>⟨u,[],v,by simp[e1],by simp,by simpa using hr⟩
 |x::l,xs,i+1,d,⟨u,v,e1,hr,ht⟩,h=>by obtain⟨u',p,q,hv,hp,hd⟩:=DList.get (i:=i) d ht (by simpa using h);refine⟨u',u++p,q,by rw[e1,hv,C4],?_,by simpa using hd⟩;rw[AQ,DRep.length hr,hp,Hr,Pj]
theorem DList.set{w:Yx}{ok:Yn->Prop}{e:Ty}:∀{l:Ye e.den}{xs:Ye Yq}{i:Yn}(x':e.den)(u':Ye Yq),DList (λx u=>DRep w ok e x u) l xs->i<l.length->DRep w ok e x' u'->∃p u q,xs=p++(u++q)/\p.length=i*e.size/\u.length=e.size/\DList (λx u=>DRep w ok e x u) (l.set i x') (p++(u'++q))
 |[],_,i,_,_,_,h,_=>by simp at h
 |x::l,xs,0,x',u',⟨u,v,e1,hr,ht⟩,_,h'=>⟨[],u,v,by simp[e1],by simp,DRep.length hr,⟨u',v,by simp,h',ht⟩⟩
 |x::l,xs,i+1,x',u',⟨u,v,e1,hr,ht⟩,h,h'=>by obtain⟨p,u0,q,hv,hp,hu,hd⟩:=DList.set (i:=i) x' u' ht (by simpa using h) h';refine⟨u++p,u0,q,by rw[e1,hv,C4],?_,hu,⟨u,p++(u'++q),by rw[C4],hr,by simpa using hd⟩⟩;rw[AQ,DRep.length hr,hp,Hr,Pj]
def Keeps(w:Yx)(ok:Yn->Prop)(w':Yx)(ok':Yn->Prop):Prop:=∀g,ok g->g<w.heap.size->ok' g/\w'.heap[g]?=w.heap[g]?
theorem Keeps.cell{w w':Yx}{ok ok':Yn->Prop}(h:Keeps w ok w' ok'){a:Addr}{v:Yq}(ho:ok a.block)(hc:w.cell? a=Yg v):ok' a.block/\w'.cell? a=Yg v:=by obtain⟨h1,h2⟩:=h _ ho (World.block_lt_of_cell? w a hc);exact⟨h1,(World.cell?_of_block h2).trans hc⟩
theorem M7(a:Addr)(n:Yn):(a.add n).block=a.block:=by unfold Ya4;split<;>rfl
theorem ND(a:Addr)(i j:Yn):(a.add i).add j=a.add (i+j):=by unfold Ya4;by_cases hi:i=0<;>by_cases hj:j=0<;>simp[hi,hj,TQ]
theorem DRep.mono{w w':Yx}{ok ok':Yn->Prop}(hk:Keeps w ok w' ok'):∀{τ:Ty}{x:τ.den}{vs:Ye Yq},DRep w ok τ x vs->DRep w' ok' τ x vs
 |.bool,_,_,h=>h
 |.int _,_,_,h=>h
 |.str,_,_,h=>h
 |.err,_,_,h=>h
 |.unit,_,_,h=>h
 |.prod a b,_,_,h=>by simp only[DRep]at h⊢;obtain⟨u,v,e,h1,h2⟩:=h;exact⟨u,v,e,DRep.mono hk h1,DRep.mono hk h2⟩
 |.slice e,_,_,h=>by
  simp only[DRep]at h⊢;obtain⟨A,c,xs,e1,hl,hc,hd,hx⟩:=h;refine⟨A,c,xs,e1,hl,hc,hd.mono λx u hu=>DRep.mono hk hu,λj v hj=>?_⟩;obtain⟨ad,ha,ho,DG⟩:=hx j v hj;have hb:ok (ad.add j).block:=by rw[M7];exact ho
  obtain⟨o',c'⟩:=hk.cell hb DG;rw[M7]at o';exact⟨ad,ha,o',c'⟩
def Ty.flat:Ty->Ys
 |.slice _|.err=>Yi
 |.prod a b=>a.flat&&b.flat
 |_=>Yp
theorem DRep.flat{w w':Yx}{ok ok':Yn->Prop}:∀{τ:Ty}{x:τ.den}{vs:Ye Yq},τ.flat=Yp->DRep w ok τ x vs->DRep w' ok' τ x vs
 |.bool,_,_,_,h=>h
 |.int _,_,_,_,h=>h
 |.str,_,_,_,h=>h
 |.unit,_,_,_,h=>h
 |.prod a b,_,_,hf,h=>by simp only[Ty.flat,Dk]at hf;simp only[DRep]at h⊢;obtain⟨u,v,e,h1,h2⟩:=h;exact⟨u,v,e,DRep.flat hf.1 h1,DRep.flat hf.2 h2⟩
 |.slice _,_,_,hf,_=>by simp[Ty.flat]at hf
 |.err,_,_,hf,_=>by simp[Ty.flat]at hf
end Go.Lift
namespace Go.Lift
inductive OT where
 |d (τ:Ty)
 |p (a b:OT)
 |r (t:Yr) (e:OT)
 deriving DecidableEq
@[reducible] def OT.ty:OT->Ty
 |.d τ=>τ
 |.p a b=>.prod a.ty b.ty
 |.r _ e=>.slice e.ty
abbrev Path:=Ye (Yn×Yn)
abbrev Fg:=(te:Yr×OT)×Ye te.2.ty.den
def BL:(o:OT)->o.ty.den->Yn->Path->Ya Fg
 |.d _,_,_,_=>Yf
 |.p a b,x,k,p=>if k<a.ty.size then BL a x.1 k p else BL b x.2 (k-a.ty.size) p
 |.r t e,l,0,[]=>Yg ⟨(t,e),l⟩
 |.r _ e,l,0,(i,k)::p=>
  match(l:Ye e.ty.den)[i]? with
  |some x=>BL e x k p
  |none=>Yf
 |.r _ _,_,_+1,_=>Yf
def Ht:(o:OT)->o.ty.den->Yn->Path->(e':OT)->Ye e'.ty.den->o.ty.den
 |.d _,x,_,_,_,_=>x
 |.p a b,x,k,p,e',y=>if k<a.ty.size then(Ht a x.1 k p e' y,x.2)else(x.1,Ht b x.2 (k-a.ty.size) p e' y)
 |.r _ e,l,0,[],e',y=>if h:e'=e then(h▸y:Ye e.ty.den)else l
 |.r _ e,l,0,(i,k)::p,e',y=>
  match(l:Ye e.ty.den)[i]? with
  |some x=>(YG l i (Ht e x k p e' y):Ye e.ty.den)
  |none=>l
 |.r _ _,l,_+1,_,_,_=>l
def cnt:(o:OT)->o.ty.den->Yn
 |.d _,_=>0
 |.p a b,x=>cnt a x.1+cnt b x.2
 |.r _ e,l=>1+((l:Ye e.ty.den).map (cnt e)).sum
def nix:(o:OT)->o.ty.den->Yn->Path->Yn
 |.d _,_,_,_=>0
 |.p a b,x,k,p=>if k<a.ty.size then nix a x.1 k p else cnt a x.1+nix b x.2 (k-a.ty.size) p
 |.r _ _,_,_,[]=>0
 |.r _ e,l,_,(i,k)::p=>
  match(l:Ye e.ty.den)[i]? with
  |some x=>1+(((l:Ye e.ty.den).take i).map (cnt e)).sum+nix e x k p
  |none=>0
def OL{α:Type}(R:Yn->α->Ye Yq->Ye Yq->Prop):Yn->Ye α->Ye Yq->Ye Yq->Prop
 |_,[],xs,F=>xs=[]/\F=[]
 |j,x::l,xs,F=>∃u v F1 F2,xs=u++v/\F=F1++F2/\R j x u F1/\OL R (j+1) l v F2
def hL(n:Yn):Ya (Yn×Path)->Ya (Yn×Path)
 |some (k,p)=>if k<n then Yg (k,p)else Yf
 |none=>Yf
def hR(n:Yn):Ya (Yn×Path)->Ya (Yn×Path)
 |some (k,p)=>if k<n then Yf else Yg (k-n,p)
 |none=>Yf
def hI(i k:Yn)(p:Path)(j:Yn):Ya (Yn×Path):=if j=i then Yg (k,p)else Yf
def Owns(w:Yx)(ok:Yn->Prop)(base:Yn)(hv:Yq):(o:OT)->Ya (Yn×Path)->o.ty.den->Ye Yq->Ye Yq->Prop
 |.d τ,h,x,vs,F=>h=Yf/\DRep w ok τ x vs/\F=[]
 |.p a b,h,x,vs,F=>∃u v F1 F2,vs=u++v/\F=F1++F2/\Owns w ok base hv a (hL a.ty.size h) x.1 u F1/\Owns w ok base hv b (hR a.ty.size h) x.2 v F2
 |.r t e,Yf,l,vs,F=>∃sv xs F',vs=[sv]/\F=sv::F'/\w.ownsRow base t e.ty.size sv (l:Ye e.ty.den).length xs/\OL (λ_ x u f=>Owns w ok base hv e Yf x u f) 0 (l:Ye e.ty.den) xs F'
 |.r _ _,Yg (0,[]),_,vs,F=>vs=[hv]/\F=[]/\hv.oneCell'=Yp
 |.r t e,Yg (0,(i,k)::p),l,vs,F=>i<(l:Ye e.ty.den).length/\∃sv xs F',vs=[sv]/\F=sv::F'/\w.ownsRow base t e.ty.size sv (l:Ye e.ty.den).length xs/\
   OL (λj x u f=>Owns w ok base hv e (hI i k p j) x u f) 0 (l:Ye e.ty.den) xs F'
 |.r _ _,Yg (_+1,_),_,_,_=>False
section
variable{α:Type}{R R':Yn->α->Ye Yq->Ye Yq->Prop}
theorem OL.monoJ:∀{l:Ye α}{j:Yn}{xs F:Ye Yq},(∀i x u f,j<=i->(∀s∈f,s∈F)->R i x u f->R' i x u f)->OL R j l xs F->OL R' j l xs F
 |[],_,_,_,_,hx=>hx
 |_::_,_,_,_,h,⟨u,v,F1,F2,e,ef,hr,ht⟩=>⟨u,v,F1,F2,e,ef,h _ _ _ _ (Av _) (λs hs=>by rw[ef];exact D5 _ hs) hr,
   OL.monoJ (λi x u f hi hf=>h i x u f (DC (Nat.le_succ _) hi) λs hs=>by rw[ef];exact DW _ (hf s hs)) ht⟩
theorem OL.mono{l:Ye α}{j:Yn}{xs F:Ye Yq}(h:∀i x u f,(∀s∈f,s∈F)->R i x u f->R' i x u f)(hx:OL R j l xs F):OL R' j l xs F:=hx.monoJ λi x u f _=>h i x u f
theorem OL.shift(hR:∀i i' x u f,R i x u f->R i' x u f):∀{l:Ye α}{j j':Yn}{xs F:Ye Yq},OL R j l xs F->OL R j' l xs F
 |[],_,_,_,_,h=>h
 |_::_,_,_,_,_,⟨u,v,F1,F2,e,ef,hr,ht⟩=>⟨u,v,F1,F2,e,ef,hR _ _ _ _ _ hr,OL.shift hR ht⟩
theorem OL.append(hR:∀i i' x u f,R i x u f->R i' x u f):∀{l l':Ye α}{j:Yn}{xs ys F G:Ye Yq},OL R j l xs F->OL R j l' ys G->OL R j (l++l') (xs++ys) (F++G)
 |[],_,_,_,_,_,_,hx,hy=>by obtain⟨rfl,rfl⟩:=hx;exact hy
 |_::_,_,_,_,_,_,_,⟨u,v,F1,F2,e,ef,hr,ht⟩,hy=>
  ⟨u,v++_,F1,F2++_,by rw[e,C4],by rw[ef,C4],hr,OL.append hR ht (hy.shift hR)⟩
theorem OL.length{n:Yn}(hn:∀i x u f,R i x u f->u.length=n):∀{l:Ye α}{j:Yn}{xs F:Ye Yq},OL R j l xs F->xs.length=l.length*n
 |[],_,_,_,h=>by obtain⟨rfl,_⟩:=h;simp
 |_::_,_,_,_,⟨u,v,F1,F2,e,ef,hr,ht⟩=>by rw[e,AQ,hn _ _ _ _ hr,OL.length hn ht,B9,Hr,Pj]
theorem OL.all{Q:Yq->Prop}(hn:∀i x u f,R i x u f->∀v∈u,Q v):∀{l:Ye α}{j:Yn}{xs F:Ye Yq},OL R j l xs F->∀v∈xs,Q v
 |[],_,_,_,h,v,hv=>by obtain⟨rfl,_⟩:=h;simp at hv
 |_::_,_,_,_,⟨u,w,F1,F2,e,ef,hr,ht⟩,v,hv=>by rw[e]at hv;exact(C5.1 hv).elim (hn _ _ _ _ hr v) (OL.all hn ht v)
theorem OL.own{Q:Yq->Prop}(hn:∀i x u f,R i x u f->∀v∈f,Q v):∀{l:Ye α}{j:Yn}{xs F:Ye Yq},OL R j l xs F->∀v∈F,Q v
 |[],_,_,_,h,v,hv=>by obtain⟨_,rfl⟩:=h;simp at hv
 |_::_,_,_,_,⟨u,w,F1,F2,e,ef,hr,ht⟩,v,hv=>by rw[ef]at hv;exact(C5.1 hv).elim (hn _ _ _ _ hr v) (OL.own hn ht v)
theorem OL.focus{n:Yn}(hn:∀i x u f,R i x u f->u.length=n):∀{l:Ye α}{j i:Yn}{xs F:Ye Yq},OL R j l xs F->i<l.length->∃x u p q Fu Fp Fq,l[i]?=Yg x/\xs=p++(u++q)/\p.length=i*n/\F=Fp++(Fu++Fq)/\R (j+i) x u Fu/\(∃pre,OL R j (l.take i) p Fp/\pre=Fp)/\∀(R':Yn->α->Ye Yq->Ye Yq->Prop) x' u' Fu',(∀m x u f,m≠j+i->(∀s∈f,s∈Fp\/s∈Fq)->R m x u f->R' m x u f)->R' (j+i) x' u' Fu'->OL R' j (l.set i x') (p++(u'++q)) (Fp++(Fu'++Fq))
 |[],_,_,_,_,_,h=>by simp at h
 |x::l,j,0,xs,F,⟨u,v,F1,F2,e,ef,hr,ht⟩,_=>
  ⟨x,u,[],v,F1,[],F2,rfl,e,by simp,ef,hr,⟨[],⟨rfl,rfl⟩,rfl⟩,λR' x' u' Fu' h1 h2=>⟨u',v,Fu',F2,rfl,rfl,h2,ht.monoJ λi x u f hi hf h=>h1 i x u f (by omega) (λs hs=>.inr (hf s hs)) h⟩⟩
 |x::l,j,i+1,xs,F,⟨u,v,F1,F2,e,ef,hr,ht⟩,h=>by
  obtain⟨y,u1,p,q,Fu,Fp,Fq,h1,h2,h3,h4,h5,⟨_,h7,_⟩,h6⟩:=OL.focus hn (i:=i) ht (by simpa using h);refine⟨y,u1,u++p,q,Fu,F1++Fp,Fq,by simpa using h1,by rw[e,h2,C4],?_,by rw[ef,h4,C4],by rw[show j+(i+1)=j+1+i by omega];exact h5,⟨_,⟨u,p,F1,Fp,rfl,rfl,hr,h7⟩,rfl⟩,λR' x' u' Fu' g1 g2=>?_⟩
  ·rw[AQ,hn _ _ _ _ hr,h3,Hr,Pj]
  ·rw[show j+(i+1)=j+1+i by omega]at g1 g2
   exact⟨u,p++(u'++q),F1,Fp++(Fu'++Fq),by rw[C4],by rw[C4],g1 _ _ _ _ (by omega) (λs hs=>.inl (D5 _ hs)) hr,h6 R' x' u' Fu' (λm x u f hm hf=>g1 m x u f hm λs hs=>(hf s hs).imp (DW _) id) g2⟩
end
theorem Rm{w:World}{base:Nat}{t:TypeId}{size:Nat}{v:Value}{n:Nat}{xs:List Value}(h:w.ownsRow base t size v n xs):v.oneCell'=true:=by rcases h.2 with⟨h,_⟩|⟨g,cap,Ba,h,_⟩<;>rw[h]<;>rfl
section
variable{w w':Yx}{ok ok':Yn->Prop}{base base':Yn}{hv C6:Yq}
theorem Owns.length:∀{o:OT}{h:Ya (Yn×Path)}{x:o.ty.den}{vs F:Ye Yq},Owns w ok base hv o h x vs F->vs.length=o.ty.size
 |.d _,_,_,_,_,⟨_,h,_⟩=>h.length
 |.p a b,_,_,_,_,⟨u,v,F1,F2,e,_,h1,h2⟩=>by rw[e,AQ,Owns.length h1,Owns.length h2];rfl
 |.r _ _,Yf,_,_,_,⟨sv,xs,F',e,_⟩=>by rw[e];rfl
 |.r _ _,Yg (0,[]),_,_,_,⟨e,_⟩=>by rw[e];rfl
 |.r _ _,Yg (0,(_,_)::_),_,_,_,⟨_,sv,xs,F',e,_⟩=>by rw[e];rfl
theorem Owns.oneCell:∀{o:OT}{h:Ya (Yn×Path)}{x:o.ty.den}{vs F:Ye Yq},Owns w ok base hv o h x vs F->∀v∈vs,v.oneCell'=Yp
 |.d _,_,_,_,_,⟨_,h,_⟩=>h.oneCell
 |.p a b,_,_,_,_,⟨u,v,F1,F2,e,_,h1,h2⟩=>by intro s hs;rw[e]at hs;exact(C5.1 hs).elim (Owns.oneCell h1 s) (Owns.oneCell h2 s)
 |.r _ _,Yf,_,_,_,⟨sv,xs,F',e,_,h,_⟩=>by intro s hs;rw[e,DY]at hs;rw[hs];exact Rm h
 |.r _ _,Yg (0,[]),_,_,_,⟨e,_,h⟩=>by intro s hs;rw[e,DY]at hs;rw[hs];exact h
 |.r _ _,Yg (0,(_,_)::_),_,_,_,⟨_,sv,xs,F',e,_,h,_⟩=>by intro s hs;rw[e,DY]at hs;rw[hs];exact Rm h
theorem Owns.lt:∀{o:OT}{h:Ya (Yn×Path)}{x:o.ty.den}{vs F:Ye Yq},Owns w ok base hv o h x vs F->∀s∈F,∀g,s.ownBlock=Yg g->base<=g/\g<w.heap.size
 |.d _,_,_,_,_,⟨_,_,e⟩=>by intro s hs;rw[e]at hs;simp at hs
 |.p a b,_,_,_,_,⟨u,v,F1,F2,_,e,h1,h2⟩=>by intro s hs;rw[e]at hs;exact(C5.1 hs).elim (Owns.lt h1 s) (Owns.lt h2 s)
 |.r _ _,Yf,_,_,_,⟨sv,xs,F',_,e,h,hl⟩=>by
  intro s hs g hg;rw[e]at hs;rcases Bl.1 hs with rfl|hs
  ·exact h.lt g hg
  ·exact OL.own (Q:=λs=>∀g,s.ownBlock=Yg g->base<=g/\g<w.heap.size) (λ_ _ _ _ h=>Owns.lt h) hl s hs g hg
 |.r _ _,Yg (0,[]),_,_,_,⟨_,e,_⟩=>by intro s hs;rw[e]at hs;simp at hs
 |.r _ _,Yg (0,(_,_)::_),_,_,_,⟨_,sv,xs,F',_,e,h,hl⟩=>by
  intro s hs g hg;rw[e]at hs;rcases Bl.1 hs with rfl|hs
  ·exact h.lt g hg
  ·exact OL.own (Q:=λs=>∀g,s.ownBlock=Yg g->base<=g/\g<w.heap.size) (λ_ _ _ _ h=>Owns.lt h) hl s hs g hg
theorem Pn{t:Yr}{size:Yn}{v:Yq}{n:Yn}{xs:Ye Yq}(hb:base'<=base)(hg:∀g,v.ownBlock=Yg g->w'.heap[g]?=w.heap[g]?)(h:w.ownsRow base t size v n xs):w'.ownsRow base' t size v n xs:=by
 refine⟨h.1,?_⟩;rcases h.2 with h3|⟨g,cap,Ba,rfl,Ai,hh,r⟩
 ·exact .inl h3
 ·exact .inr ⟨g,cap,Ba,rfl,DC hb Ai,(hg g rfl).trans hh,r⟩
theorem Owns.mono(hb:base'<=base)(hk:Keeps w ok w' ok'):∀{o:OT}{h:Ya (Yn×Path)}{x:o.ty.den}{vs F:Ye Yq},(∀s∈F,∀g,s.ownBlock=Yg g->w'.heap[g]?=w.heap[g]?)->Owns w ok base hv o h x vs F->Owns w' ok' base' hv o h x vs F
 |.d _,_,_,_,_,_,⟨a,h,e⟩=>⟨a,h.mono hk,e⟩
 |.p a b,_,_,_,_,hf,⟨u,v,F1,F2,e,e2,h1,h2⟩=>⟨u,v,F1,F2,e,e2,Owns.mono hb hk (λs hs=>hf s (by rw[e2];exact D5 _ hs)) h1,Owns.mono hb hk (λs hs=>hf s (by rw[e2];exact DW _ hs)) h2⟩
 |.r _ _,Yf,_,_,_,hf,⟨sv,xs,F',e,e2,h,hl⟩=>
  ⟨sv,xs,F',e,e2,Pn hb (hf sv (by rw[e2];exact Ha ..)) h,hl.mono λ_ _ _ f Adr h=>Owns.mono hb hk (λs hs=>hf s (by rw[e2];exact DX _ (Adr s hs))) h⟩
 |.r _ _,Yg (0,[]),_,_,_,_,h=>h
 |.r _ _,Yg (0,(_,_)::_),_,_,_,hf,⟨hi,sv,xs,F',e,e2,h,hl⟩=>
  ⟨hi,sv,xs,F',e,e2,Pn hb (hf sv (by rw[e2];exact Ha ..)) h,hl.mono λ_ _ _ f Adr h=>Owns.mono hb hk (λs hs=>hf s (by rw[e2];exact DX _ (Adr s hs))) h⟩
theorem Owns.ren(hb:base'<=base)(hd:∀(τ:Ty)(x:τ.den)(us:Ye Yq),DRep w ok τ x us->DRep w ok' τ x us):∀{o:OT}{h:Ya (Yn×Path)}{x:o.ty.den}{vs F:Ye Yq},Owns w ok base hv o h x vs F->Owns w ok' base' hv o h x vs F
 |.d _,_,_,_,_,⟨a,h,e⟩=>⟨a,hd _ _ _ h,e⟩
 |.p a b,_,_,_,_,⟨u,v,F1,F2,e,e2,h1,h2⟩=>⟨u,v,F1,F2,e,e2,Owns.ren hb hd h1,Owns.ren hb hd h2⟩
 |.r _ _,Yf,_,_,_,⟨sv,xs,F',e,e2,h,hl⟩=>⟨sv,xs,F',e,e2,Pn hb (λ_ _=>rfl) h,hl.mono λ_ _ _ _ _ h=>Owns.ren hb hd h⟩
 |.r _ _,Yg (0,[]),_,_,_,h=>h
 |.r _ _,Yg (0,(_,_)::_),_,_,_,⟨hi,sv,xs,F',e,e2,h,hl⟩=>⟨hi,sv,xs,F',e,e2,Pn hb (λ_ _=>rfl) h,hl.mono λ_ _ _ _ _ h=>Owns.ren hb hd h⟩
def OT.flat:OT->Ys
 |.d τ=>τ.flat
 |.p a b=>a.flat&&b.flat
 |.r _ e=>e.flat
theorem Owns.renF{all:Prop}(hb:base'<=base)(hd:∀(τ:Ty)(x:τ.den)(us:Ye Yq),(all\/τ.flat=Yp)->DRep w ok τ x us->DRep w ok' τ x us):∀{o:OT}{h:Ya (Yn×Path)}{x:o.ty.den}{vs F:Ye Yq},(all\/o.flat=Yp)->Owns w ok base hv o h x vs F->Owns w ok' base' hv o h x vs F
 |.d _,_,_,_,_,hf,⟨a,h,e⟩=>⟨a,hd _ _ _ hf h,e⟩
 |.p a b,_,_,_,_,hf,⟨u,v,F1,F2,e,e2,h1,h2⟩=>⟨u,v,F1,F2,e,e2,Owns.renF hb hd (hf.imp id λh=>by simp only[OT.flat,Dk]at h;exact h.1) h1,Owns.renF hb hd (hf.imp id λh=>by simp only[OT.flat,Dk]at h;exact h.2) h2⟩
 |.r _ _,Yf,_,_,_,hf,⟨sv,xs,F',e,e2,h,hl⟩=>⟨sv,xs,F',e,e2,Pn hb (λ_ _=>rfl) h,hl.mono λ_ _ _ _ _ h=>Owns.renF hb hd hf h⟩
 |.r _ _,Yg (0,[]),_,_,_,_,h=>h
 |.r _ _,Yg (0,(_,_)::_),_,_,_,hf,⟨hi,sv,xs,F',e,e2,h,hl⟩=>⟨hi,sv,xs,F',e,e2,Pn hb (λ_ _=>rfl) h,hl.mono λ_ _ _ _ _ h=>Owns.renF hb hd hf h⟩
theorem Owns.any:∀{o:OT}{x:o.ty.den}{vs F:Ye Yq},Owns w ok base hv o Yf x vs F->Owns w ok base C6 o Yf x vs F
 |.d _,_,_,_,h=>h
 |.p _ _,_,_,_,⟨u,v,F1,F2,e,e2,h1,h2⟩=>⟨u,v,F1,F2,e,e2,Owns.any (show Owns w ok base hv _ Yf _ _ _ from h1),Owns.any (show Owns w ok base hv _ Yf _ _ _ from h2)⟩
 |.r _ _,_,_,_,⟨sv,xs,F',e,e2,h,hl⟩=>⟨sv,xs,F',e,e2,h,hl.mono λ_ _ _ _ _ h=>Owns.any h⟩
theorem Owns.cnt:∀{o:OT}{x:o.ty.den}{vs F:Ye Yq},Owns w ok base hv o Yf x vs F->F.length=Go.Lift.cnt o x
 |.d _,_,_,_,⟨_,_,e⟩=>by rw[e];rfl
 |.p a b,_,_,_,⟨u,v,F1,F2,_,e,h1,h2⟩=>by rw[e,AQ,Owns.cnt (show Owns w ok base hv a Yf _ _ _ from h1),Owns.cnt (show Owns w ok base hv b Yf _ _ _ from h2)];rfl
 |.r _ e0,l,_,_,⟨sv,xs,F',_,e,_,hl⟩=>by
  have key:∀{l:Ye e0.ty.den}{j:Yn}{xs F:Ye Yq},OL (λ_ x u f=>Owns w ok base hv e0 Yf x u f) j l xs F->F.length=(l.map (Go.Lift.cnt e0)).sum:=by
   intro l
   induction l with
   |nil=>intro j xs F h;obtain⟨_,rfl⟩:=h;rfl
   |cons x l ih=>intro j xs F h;obtain⟨u,v,F1,F2,_,ef,hr,ht⟩:=h;rw[ef,AQ,Owns.cnt hr,ih ht,CH,aJ]
  rw[e,B9,key hl,Pj];rfl
theorem set_getElem?_same{α:Type}{l:Ye α}{i:Yn}{x:α}(h:l[i]?=Yg x):l.set i x=l:=by obtain⟨h1,h2⟩:=Fe.1 h;rw[<-h2,List.set_getElem_self]
theorem Po(i k:Yn)(p:Path):hI i k p i=Yg (k,p):=Y1 rfl
theorem Rn{i k j:Yn}{p:Path}(h:j≠i):hI i k p j=Yf:=Yy h
theorem TU(e:OT){w:Yx}{ok:Yn->Prop}{base:Yn}{hv:Yq}:∀{l:Ye e.ty.den}{j:Yn}{xs F:Ye Yq},OL (λ_ x u f=>Owns w ok base hv e Yf x u f) j l xs F->F.length=(l.map (Go.Lift.cnt e)).sum
 |[],_,_,_,⟨_,h⟩=>by rw[h];rfl
 |x::l,_,_,_,⟨u,v,F1,F2,_,ef,hr,ht⟩=>by rw[ef,AQ,Owns.cnt hr,TU e ht,CH,aJ]
theorem Owns.split:∀{o:OT}{x:o.ty.den}{k:Yn}{p:Path}{vs F:Ye Yq}{n:Fg},Owns w ok base hv o Yf x vs F->BL o x k p=Yg n->∃s G1 Fn G2,F=G1++(s::Fn++G2)/\G1.length=nix o x k p/\Owns w ok base s (.r n.1.1 n.1.2) Yf n.2 [s] (s::Fn)/\Owns w ok base s o (Yg (k,p)) x vs (G1++G2)
 |.d _,_,_,_,_,_,_,_,h=>by cases h
 |.p a b,x,k,p,vs,F,n,⟨u,v,F1,F2,e,e2,h1,h2⟩,h=>by
  simp only[BL]at h;have h1:Owns w ok base hv a Yf x.1 u F1:=h1;have h2:Owns w ok base hv b Yf x.2 v F2:=h2;split at h
  ·rename_i hk
   obtain⟨s,G1,Fn,G2,q1,q2,q3,q4⟩:=Owns.split h1 h;refine⟨s,G1,Fn,G2++F2,by rw[e2,q1];simp,by rw[q2];simp only[nix,Y1 hk],q3,u,v,G1++G2,F2,e,by simp,?_,?_⟩
   ·show Owns w ok base s a (hL a.ty.size (Yg (k,p))) x.1 u (G1++G2)
    simp only[hL,Y1 hk];exact q4
   ·show Owns w ok base s b (hR a.ty.size (Yg (k,p))) x.2 v F2
    simp only[hR,Y1 hk];exact h2.any
  ·rename_i hk
   obtain⟨s,G1,Fn,G2,q1,q2,q3,q4⟩:=Owns.split h2 h;refine⟨s,F1++G1,Fn,G2,by rw[e2,q1];simp,by rw[AQ,q2,h1.cnt];simp only[nix,Yy hk],q3,u,v,F1,G1++G2,e,by simp,?_,?_⟩
   ·show Owns w ok base s a (hL a.ty.size (Yg (k,p))) x.1 u F1
    simp only[hL,Yy hk];exact h1.any
   ·show Owns w ok base s b (hR a.ty.size (Yg (k,p))) x.2 v (G1++G2)
    simp only[hR,Yy hk];exact q4
 |.r t e,l,0,[],vs,F,n,⟨sv,xs,F',e1,e2,h1,h2⟩,h=>by simp only[BL,Af]at h;subst h;exact⟨sv,[],F',[],by simp[e2],rfl,⟨sv,xs,F',rfl,rfl,h1,h2.mono λ_ _ _ _ _ h=>h.any⟩,e1,rfl,Rm h1⟩
 |.r t e,l,0,(i,k)::p,vs,F,n,⟨sv,xs,F',e1,e2,h1,h2⟩,h=>by
  simp only[BL]at h;split at h
  ·rename_i x hx
   have hi:i<(l:Ye e.ty.den).length:=(Fe.1 hx).1;obtain⟨x',u,pp,q,Fu,Fp,Fq,a1,a2,a3,a4,a5,⟨_,a7,_⟩,a6⟩:=OL.focus (n:=e.ty.size) (λ_ _ _ _ h=>h.length) h2 hi;rw[hx]at a1;injection a1 with a1;subst a1;obtain⟨s,G1,Fn,G2,q1,q2,q3,q4⟩:=Owns.split a5 h;refine⟨s,sv::(Fp++G1),Fn,G2++Fq,by rw[e2,a4,q1];simp,?_,q3,hi,sv,xs,(Fp++G1)++(G2++Fq),e1,by simp,h1,?_⟩
   ·have DB:(l:Ye e.ty.den)[i]?=Yg x:=hx
    simp only[nix,DB,B9,AQ,q2,TU e a7];omega
   ·have:=a6 (λj x u f=>Owns w ok base s e (hI i k p j) x u f) x u (G1++G2) (λm x u f hm _ h=>by simp only[DZ]at hm;simp only[Rn hm];exact h.any) (by simp only[DZ,Po];exact q4)
    rw[set_getElem?_same hx,<-a2]at this;simpa using this
  ·cases h
 |.r _ _,_,_+1,_,_,_,_,_,h=>by cases h
theorem Owns.join:∀{o:OT}{x:o.ty.den}{k:Yn}{p:Path}{vs G:Ye Yq}{n:Fg},Owns w ok base hv o (Yg (k,p)) x vs G->BL o x k p=Yg n->∃G1 G2,G=G1++G2/\G1.length=nix o x k p/\∀(y:Ye n.1.2.ty.den)(Fn:Ye Yq),Owns w ok base hv (.r n.1.1 n.1.2) Yf y [hv] Fn->Owns w ok base hv o Yf (Ht o x k p n.1.2 y) vs (G1++(Fn++G2))
 |.d _,_,_,_,_,_,_,_,h=>by cases h
 |.p a b,x,k,p,vs,F,n,⟨u,v,F1,F2,e,e2,h1,h2⟩,h=>by
  simp only[BL]at h;have h1:Owns w ok base hv a (hL a.ty.size (Yg (k,p))) x.1 u F1:=h1;have h2:Owns w ok base hv b (hR a.ty.size (Yg (k,p))) x.2 v F2:=h2;split at h
  ·rename_i hk
   simp only[hL,hR,Y1 hk]at h1 h2;obtain⟨G1,G2,q1,q2,q3⟩:=Owns.join h1 h;refine⟨G1,G2++F2,by rw[e2,q1];simp,by rw[q2];simp only[nix,Y1 hk],λy Fn hy=>?_⟩;simp only[Ht,Y1 hk];exact⟨u,v,G1++(Fn++G2),F2,e,by simp,q3 y Fn hy,h2⟩
  ·rename_i hk
   simp only[hL,hR,Yy hk]at h1 h2;obtain⟨G1,G2,q1,q2,q3⟩:=Owns.join h2 h;refine⟨F1++G1,G2,by rw[e2,q1];simp,by rw[AQ,q2,Owns.cnt h1];simp only[nix,Yy hk],λy Fn hy=>?_⟩;simp only[Ht,Yy hk];exact⟨u,v,F1,G1++(Fn++G2),e,by simp,h1,q3 y Fn hy⟩
 |.r t e,l,0,[],vs,F,n,⟨e1,e2,h1⟩,h=>by simp only[BL,Af]at h;subst h;refine⟨[],[],e2,rfl,λy Fn hy=>?_⟩;simp only[Ht,dif_pos,GA,In];rw[e1];exact hy
 |.r t e,l,0,(i,k)::p,vs,F,n,⟨hi,sv,xs,F',e1,e2,h1,h2⟩,h=>by
  simp only[BL]at h;split at h
  ·rename_i x hx
   have DB:(l:Ye e.ty.den)[i]?=Yg x:=hx;obtain⟨x',u,pp,q,Fu,Fp,Fq,a1,a2,a3,a4,a5,⟨_,a7,_⟩,a6⟩:=OL.focus (n:=e.ty.size) (λ_ _ _ _ h=>h.length) h2 hi;rw[hx]at a1;injection a1 with a1;subst a1;simp only[DZ,Po]at a5;obtain⟨G1,G2,q1,q2,q3⟩:=Owns.join a5 h
   have JL:OL (λ_ x u f=>Owns w ok base hv e Yf x u f) 0 ((l:Ye e.ty.den).take i) pp Fp:=by
    have:∀{l:Ye e.ty.den}{j:Yn}{xs F:Ye Yq},j+l.length<=i->OL (λj x u f=>Owns w ok base hv e (hI i k p j) x u f) j l xs F->OL (λ_ x u f=>Owns w ok base hv e Yf x u f) j l xs F:=by
     intro l
     induction l with
     |nil=>intro j xs F _ h;exact h
     |cons y l ih=>intro j xs F hj h;obtain⟨u,v,F1,F2,b1,b2,b3,b4⟩:=h;simp only[B9]at hj;simp only[Rn (show j≠i by omega)]at b3;exact⟨u,v,F1,F2,b1,b2,b3,ih (by omega) b4⟩
    exact this (by rw[HP];omega) a7
   refine⟨sv::(Fp++G1),G2++Fq,by rw[e2,a4,q1];simp,?_,λy Fn hy=>?_⟩
   ·simp only[nix,DB,B9,AQ,q2,TU e JL]
    omega
   ·have:=a6 (λ_ x u f=>Owns w ok base hv e Yf x u f) (Ht e x k p n.1.2 y) u (G1++(Fn++G2)) (λm x u f hm _ h=>by simp only[DZ]at hm;simp only[Rn hm]at h;exact h) (q3 y Fn hy)
    rw[<-a2]at this;simp only[Ht,DB];refine⟨sv,xs,Fp++((G1++(Fn++G2))++Fq),e1,by simp,?_,this⟩;have:(YG (l:Ye e.ty.den) i (Ht e x k p n.1.2 y)).length=(l:Ye e.ty.den).length:=Pe;rw[this];exact h1
  ·cases h
 |.r _ _,_,_+1,_,_,_,_,_,h=>by cases h
theorem Owns.top:∀{o:OT}{x:o.ty.den}{k:Yn}{u F:Ye Yq},Owns w ok base hv o (Yg (k,[])) x u F->u[k]?=Yg hv/\∀s,s.oneCell'=Yp->Owns w ok base s o (Yg (k,[])) x (u.set k s) F
 |.d _,_,_,_,_,⟨h,_⟩=>by cases h
 |.p a b,x,k,vs,F,⟨u,v,F1,F2,e,e2,h1,h2⟩=>by
  have h1:Owns w ok base hv a (hL a.ty.size (Yg (k,[]))) x.1 u F1:=h1;have h2:Owns w ok base hv b (hR a.ty.size (Yg (k,[]))) x.2 v F2:=h2;by_cases hk:k<a.ty.size
  ·simp only[hL,hR,Y1 hk]at h1 h2
   have hl:=h1.length;obtain⟨q1,q2⟩:=Owns.top h1;refine⟨by rw[e,HO (by omega)];exact q1,λs hs=>⟨u.set k s,v,F1,F2,by rw[e,Ybe _ _ (by omega)],e2,?_,?_⟩⟩
   ·show Owns w ok base s a (hL a.ty.size (Yg (k,[]))) x.1 _ F1
    simp only[hL,Y1 hk];exact q2 s hs
   ·show Owns w ok base s b (hR a.ty.size (Yg (k,[]))) x.2 v F2
    simp only[hR,Y1 hk];exact h2.any
  ·simp only[hL,hR,Yy hk]at h1 h2
   have hl:=h1.length;obtain⟨q1,q2⟩:=Owns.top h2;refine⟨by rw[e,Gy (by omega),hl];exact q1,λs hs=>⟨u,v.set (k-a.ty.size) s,F1,F2,by rw[e,Yba _ _ (by omega),hl],e2,?_,?_⟩⟩
   ·show Owns w ok base s a (hL a.ty.size (Yg (k,[]))) x.1 _ F1
    simp only[hL,Yy hk];exact h1.any
   ·show Owns w ok base s b (hR a.ty.size (Yg (k,[]))) x.2 _ F2
    simp only[hR,Yy hk];exact q2 s hs
 |.r _ _,_,0,_,_,⟨e1,e2,h1⟩=>by rw[e1];exact⟨rfl,λs hs=>⟨rfl,e2,hs⟩⟩
 |.r _ _,_,_+1,_,_,h=>h.elim
theorem Atp{t:Yr}{size n:Yn}{v:Yq}{xs:Ye Yq}(h:w.ownsRow base t size v n xs)(hn:0<n):∃g c,v=.slice (Yg ⟨g,0,Yf⟩) n c:=by
 rcases h.2 with⟨_,h0⟩|⟨g,cap,Ba,h,_⟩
 ·omega
 ·exact⟨g,cap,h⟩
theorem Keeps.set(hb:∀g,ok g->ok' g){g j:Yn}{s:Yq}(hg:¬ok g):Keeps w ok (w.setCell ⟨g,j,Yf⟩ s) ok':=λg' h _=>
 ⟨hb g' h,YZ w ⟨g,j,Yf⟩ g' s (λe=>hg (by simpa [e]using h))⟩
theorem Atq{α:Type}{p u q:Ye α}{k:Yn}{s:α}(hk:k<u.length):(p++(u++q)).set (p.length+k) s=p++(u.set k s++q):=by rw[Yba _ _ (by omega),N7,Ybe _ _ hk]
theorem Owns.header(hb:∀g,ok g->ok' g):∀{o:OT}{x:o.ty.den}{k0:Yn}{p:Path}{i k:Yn}{vs F:Ye Yq},(∀s∈F,∀g,s.ownBlock=Yg g->¬ok g)->Owns w ok base hv o (Yg (k0,p++[(i,k)])) x vs F->∃n s g c G1 Fn,BL o x k0 p=Yg n/\F=G1++s::Fn/\G1.length=nix o x k0 p/\s=.slice (Yg ⟨g,0,Yf⟩) n.2.length c/\i<n.2.length/\w.cell? ⟨g,i*n.1.2.ty.size+k,Yf⟩=Yg hv/\w.frozen? ⟨g,i*n.1.2.ty.size+k,Yf⟩=Yi/\∀s2,s2.oneCell'=Yp->(∀s'∈G1++Fn,s'.ownBlock≠Yg g)->Owns (w.setCell ⟨g,i*n.1.2.ty.size+k,Yf⟩ s2) ok' base s2 o (Yg (k0,p++[(i,k)])) x vs F
 |.d _,_,_,_,_,_,_,_,_,⟨h,_⟩=>by cases h
 |.p a b,x,k0,p,i,k,vs,F,Jm,⟨u,v,F1,F2,e,e2,h1,h2⟩=>by
  have h1:Owns w ok base hv a (hL a.ty.size (Yg (k0,p++[(i,k)]))) x.1 u F1:=h1;have h2:Owns w ok base hv b (hR a.ty.size (Yg (k0,p++[(i,k)]))) x.2 v F2:=h2;by_cases hk:k0<a.ty.size
  ·simp only[hL,hR,Y1 hk]at h1 h2
   obtain⟨n,s,g,c,G1,Fn,q1,q2,q3,q4,q5,q6,q6',q7⟩:=Owns.header hb (λs hs=>Jm s (by rw[e2];exact D5 _ hs)) h1;refine⟨n,s,g,c,G1,Fn++F2,by simp only[BL,Y1 hk];exact q1,by rw[e2,q2];simp,by rw[q3];simp only[nix,Y1 hk],q4,q5,q6,q6',λs2 AW hd=>⟨u,v,F1,F2,e,e2,?_,?_⟩⟩
   ·show Owns _ ok' base s2 a (hL a.ty.size (Yg (k0,p++[(i,k)]))) x.1 u F1
    simp only[hL,Y1 hk];exact q7 s2 AW λs' h=>hd s' (by rcases C5.1 h with h|h<;>simp[h])
   ·show Owns _ ok' base s2 b (hR a.ty.size (Yg (k0,p++[(i,k)]))) x.2 v F2
    simp only[hR,Y1 hk];have hg:¬ok g:=Jm s (by rw[e2,q2];simp) g (by rw[q4];rfl);exact(h2.mono (Av _) (Keeps.set hb hg) λs' Cd g' CK=>YZ w _ g' s2 (λe=>hd s' (by simp[Cd]) (by simp only at e;rw[CK,e]))).any
  ·simp only[hL,hR,Yy hk]at h1 h2
   obtain⟨n,s,g,c,G1,Fn,q1,q2,q3,q4,q5,q6,q6',q7⟩:=Owns.header hb (λs hs=>Jm s (by rw[e2];exact DW _ hs)) h2;refine⟨n,s,g,c,F1++G1,Fn,by simp only[BL,Yy hk];exact q1,by rw[e2,q2];simp,by rw[AQ,q3,Owns.cnt h1];simp only[nix,Yy hk],q4,q5,q6,q6',λs2 AW hd=>⟨u,v,F1,F2,e,e2,?_,?_⟩⟩
   ·show Owns _ ok' base s2 a (hL a.ty.size (Yg (k0,p++[(i,k)]))) x.1 u F1
    simp only[hL,Yy hk];have hg:¬ok g:=Jm s (by rw[e2,q2];simp) g (by rw[q4];rfl);exact(h1.mono (Av _) (Keeps.set hb hg) λs' Cd g' CK=>YZ w _ g' s2 (λe=>hd s' (by simp[Cd]) (by simp only at e;rw[CK,e]))).any
   ·show Owns _ ok' base s2 b (hR a.ty.size (Yg (k0,p++[(i,k)]))) x.2 v F2
    simp only[hR,Yy hk];exact q7 s2 AW λs' h=>hd s' (by rcases C5.1 h with h|h<;>simp[h])
 |.r _ _,_,_+1,_,_,_,_,_,_,h=>h.elim
 |.r t e,l,0,[],i,k,vs,F,Jm,⟨hi,sv,xs,F',e1,e2,h1,h2⟩=>by
  obtain⟨g,c,AA⟩:=Atp h1 (by omega);obtain⟨x',u,pp,q,Fu,Fp,Fq,a1,a2,a3,a4,a5,_,a6⟩:=OL.focus (n:=e.ty.size) (λ_ _ _ _ h=>h.length) h2 hi;simp only[DZ,Po]at a5;obtain⟨b1,b2⟩:=Owns.top a5;have hk:k<u.length:=(Fe.1 b1).1;have oC:=a5.length;subst AA;have F4:xs.length=(l:Ye e.ty.den).length*e.ty.size:=h1.1
  have Ax:i*e.ty.size+k<(l:Ye e.ty.den).length*e.ty.size:=by have:(i+1)*e.ty.size<=(l:Ye e.ty.den).length*e.ty.size:=KO _ hi;rw[Hr]at this;omega
  have DG:xs[i*e.ty.size+k]?=Yg hv:=by rw[a2,<-a3,Gy (by omega),N7,HO hk];exact b1
  have Q6:w.frozen? ⟨g,i*e.ty.size+k,Yf⟩=Yi:=by
   rcases h1.2 with⟨h,_⟩|⟨g',cap,Ba,h,_,hh,_⟩
   ·cases h
   ·injection h with h _ _
    injection h with h;injection h with h;subst h;exact frozen_of_row w g _ Ba t hh
  refine⟨⟨(t,e),l⟩,_,g,c,[],F',rfl,e2,rfl,rfl,hi,by rw[h1.cellAt _ Ax];exact DG,Q6,λs2 AW hd=>?_⟩;have hg:¬ok g:=Jm _ (by rw[e2];exact Ha ..) g rfl;obtain⟨r1,r2⟩:=h1.stored (i*e.ty.size+k) s2;refine⟨hi,_,xs.set (i*e.ty.size+k) s2,F',e1,e2,r1,?_⟩
  have hm:∀{o:OT}{h:Ya (Yn×Path)}{x:o.ty.den}{vs f:Ye Yq},(∀s'∈f,s'∈F')->Owns w ok base hv o h x vs f->Owns (w.setCell ⟨g,i*e.ty.size+k,Yf⟩ s2) ok' base hv o h x vs f:=λhf h=>
   h.mono (Av _) (Keeps.set hb hg) λs' Cd g' CK=>YZ w _ g' s2 (λe=>hd s' (by simp[hf s' Cd]) (by simp only at e;rw[CK,e]))
  have h3:=h2.mono (R':=λj x u f=>Owns (w.setCell ⟨g,i*e.ty.size+k,Yf⟩ s2) ok' base hv e (hI i k [] j) x u f) (λ_ _ _ _ hf h=>hm hf h);obtain⟨x2,u2,pp2,q2,Fu2,Fp2,Fq2,c1,c2,c3,c4,c5,_,c6⟩:=OL.focus (n:=e.ty.size) (λ_ _ _ _ h=>h.length) h3 hi;simp only[DZ,Po]at c5
  have:=c6 (λj x u f=>Owns (w.setCell ⟨g,i*e.ty.size+k,Yf⟩ s2) ok' base s2 e (hI i k [] j) x u f) x2 (u2.set k s2) Fu2 (λm x u f hm _ h=>by simp only[DZ]at hm;simp only[Rn hm]at h⊢;exact h.any) (by simp only[DZ,Po];exact(Owns.top c5).2 s2 AW)
  rw[set_getElem?_same c1,<-c4,<-Atq (by rw[c5.length];omega),c3,<-c2]at this;exact this
 |.r t e,l,0,(i0,k1)::p,i,k,vs,F,Jm,⟨hi,sv,xs,F',e1,e2,h1,h2⟩=>by
  obtain⟨x',u,pp,q,Fu,Fp,Fq,a1,a2,a3,a4,a5,⟨_,a7,_⟩,a6⟩:=OL.focus (n:=e.ty.size) (λ_ _ _ _ h=>h.length) h2 hi;have DB:(l:Ye e.ty.den)[i0]?=Yg x':=a1;simp only[DZ,Po]at a5;obtain⟨n,s,g,c,G1,Fn,q1,q2,q3,q4,q5,q6,q6',q7⟩:=Owns.header hb (λs hs=>Jm s (by rw[e2,a4];simp[hs])) a5;have hg:¬ok g:=Jm s (by rw[e2,a4,q2];simp) g (by rw[q4];rfl)
  have JL:OL (λ_ x u f=>Owns w ok base hv e Yf x u f) 0 ((l:Ye e.ty.den).take i0) pp Fp:=by
   have:∀{l:Ye e.ty.den}{j:Yn}{xs F:Ye Yq},j+l.length<=i0->OL (λj x u f=>Owns w ok base hv e (hI i0 k1 (p++[(i,k)]) j) x u f) j l xs F->OL (λ_ x u f=>Owns w ok base hv e Yf x u f) j l xs F:=by
    intro l
    induction l with
    |nil=>intro j xs F _ h;exact h
    |cons y l ih=>intro j xs F hj h;obtain⟨u,v,F1,F2,b1,b2,b3,b4⟩:=h;simp only[B9]at hj;simp only[Rn (show j≠i0 by omega)]at b3;exact⟨u,v,F1,F2,b1,b2,b3,ih (by omega) b4⟩
   exact this (by rw[HP];omega) a7
  refine⟨n,s,g,c,sv::(Fp++G1),Fn++Fq,by simp only[BL,DB];exact q1,by rw[e2,a4,q2];simp,?_,q4,q5,q6,q6',λs2 AW hd=>?_⟩
  ·simp only[nix,DB,B9,AQ,q3,TU e JL]
   omega
  ·have Arw:∀s' g',s'∈sv::(Fp++G1)++(Fn++Fq)->s'.ownBlock=Yg g'->(w.setCell ⟨g,i*n.1.2.ty.size+k,Yf⟩ s2).heap[g']?=w.heap[g']?:=λs' g' h CK=>
    YZ w _ g' s2 (λe=>hd s' h (by simp only at e;rw[CK,e]))
   have AA:=Pn (Av base) (λg' CK=>Arw sv g' (by simp) CK) h1
   have h4:=a6 (λj x u f=>Owns (w.setCell ⟨g,i*n.1.2.ty.size+k,Yf⟩ s2) ok' base s2 e (hI i0 k1 (p++[(i,k)]) j) x u f) x' u Fu (λm x u f hm hf h=>by
    simp only[DZ]at hm;simp only[Rn hm]at h⊢;exact(h.mono (Av _) (Keeps.set hb hg) λs' Cd g' CK=>Arw s' g' (by rcases hf s' Cd with h|h<;>simp[h]) CK).any) (by
    simp only[DZ,Po];exact q7 s2 AW λs' h=>hd s' (by rcases C5.1 h with h|h<;>simp[h]))
   rw[set_getElem?_same a1,<-a2,<-a4]at h4;exact⟨hi,sv,xs,F',e1,e2,AA,h4⟩
end
theorem AeW{α:Type}{f:α->Nat}:∀{l:List α}{i:Nat}{x:α},l[i]?=some x->((l.take i).map f).sum+f x<=(l.map f).sum
 |[],_,_,h=>by simp at h
 |y::l,0,x,h=>by simp at h;subst h;simp
 |y::l,i+1,x,h=>by have:=AeW (f:=f) (l:=l) (i:=i) (x:=x) (by simpa using h);simp only[Ybg,CH,aJ];omega
theorem pT{α:Type}{f:α->Yn}:∀{l:Ye α}{i j:Yn}{x:α},l[i]?=Yg x->i<j->((l.take i).map f).sum+f x<=((l.take j).map f).sum
 |[],_,_,_,h,_=>by simp at h
 |y::l,0,j+1,x,h,_=>by simp at h;subst h;simp
 |y::l,i+1,j+1,x,h,hl=>by have:=pT (f:=f) (l:=l) (i:=i) (j:=j) (x:=x) (by simpa using h) (by omega);simp only[Ybg,CH,aJ];omega
theorem AeX(t:Yr)(e:OT)(l:Ye e.ty.den):1<=cnt (.r t e) l:=by simp only[cnt];omega
theorem Pp:∀{o:OT}{x:o.ty.den}{k:Yn}{p:Path}{n:Fg},BL o x k p=Yg n->nix o x k p+cnt (.r n.1.1 n.1.2) n.2<=cnt o x
 |.d _,_,_,_,_,h=>by cases h
 |.p a b,x,k,p,n,h=>by
  simp only[BL]at h;split at h
  ·rename_i hk
   have:=Pp h;simp only[nix,Y1 hk,cnt];simp only[cnt]at this;omega
  ·rename_i hk
   have:=Pp h;simp only[nix,Yy hk,cnt];simp only[cnt]at this;omega
 |.r t e,l,0,[],n,h=>by simp only[BL,Af]at h;subst h;simp only[nix];omega
 |.r t e,l,0,(i,k)::p,n,h=>by
  simp only[BL]at h;split at h
  ·rename_i x hx
   have DB:(l:Ye e.ty.den)[i]?=Yg x:=hx;have h1:=Pp h;have h2:=AeW (f:=cnt e) DB;simp only[nix,DB];show 1+_+_+_<=1+((l:Ye e.ty.den).map (cnt e)).sum;omega
  ·cases h
 |.r _ _,_,_+1,_,_,h=>by cases h
theorem aP:∀{o:OT}{x:o.ty.den}{k k':Yn}{P p:Path}{n m:Fg},BL o x k P=Yg n->BL o x k' p=Yg m->¬(k'=k/\P<+:p)->nix o x k' p<nix o x k P\/nix o x k P+cnt (.r n.1.1 n.1.2) n.2<=nix o x k' p
 |.d _,_,_,_,_,_,_,_,h,_,_=>by cases h
 |.p a b,x,k,k',P,p,n,m,h,h',AO=>by
  simp only[BL]at h h';split at h
  ·rename_i hk
   split at h'
   ·rename_i Fz
    have:=aP h h' AO;simp only[nix,Y1 hk,Y1 Fz];exact this
   ·rename_i Fz
    have h1:=Pp h;simp only[nix,Y1 hk,Yy Fz];simp only[cnt]at h1⊢;omega
  ·rename_i hk
   split at h'
   ·rename_i Fz
    have h1:=Pp h';simp only[nix,Yy hk,Y1 Fz];have:=AeX m.1.1 m.1.2 m.2;omega
   ·rename_i Fz
    have:=aP h h' (λq=>AO ⟨by omega,q.2⟩);simp only[nix,Yy hk,Yy Fz];omega
 |.r t e,l,0,0,[],p,n,m,h,h',AO=>Y7 ⟨rfl,List.nil_prefix⟩ AO
 |.r t e,l,0,0,(i,k)::P,[],n,m,h,h',AO=>by
  simp only[BL]at h;split at h
  ·rename_i x hx
   have DB:(l:Ye e.ty.den)[i]?=Yg x:=hx;simp only[nix,DB];omega
  ·cases h
 |.r t e,l,0,0,(i,k)::P,(i',k')::p,n,m,h,h',AO=>by
  simp only[BL]at h h';split at h
  ·rename_i x hx
   split at h'
   ·rename_i x' DB
    have hx:(l:Ye e.ty.den)[i]?=Yg x:=hx;have DB:(l:Ye e.ty.den)[i']?=Yg x':=DB;have c1:=Pp h;have c2:=Pp h';have p2:=AeX m.1.1 m.1.2 m.2;simp only[nix,hx,DB];rcases Nat.lt_trichotomy i' i with Ax|Ej|Ax
    ·have:=pT (f:=cnt e) DB Ax
     omega
    ·subst Ej
     rw[hx]at DB;injection DB with DB;subst DB;have:=aP h h' (λq=>AO ⟨rfl,by rw[q.1];exact List.cons_prefix_cons.2 ⟨rfl,q.2⟩⟩);omega
    ·have:=pT (f:=cnt e) hx Ax
     omega
   ·cases h'
  ·cases h
 |.r _ _,_,_+1,_,_,_,_,_,h,_,_=>by cases h
 |.r _ _,_,0,_+1,_,_,_,_,_,h',_=>by cases h'
section
variable{w:Yx}{ok ok':Yn->Prop}{base:Yn}{hv:Yq}
theorem Owns.data(hb:∀g,ok g->ok' g):∀{o:OT}{x:o.ty.den}{vs F:Ye Yq},(∀s∈F,∀g,s.ownBlock=Yg g->ok' g)->Owns w ok base hv o Yf x vs F->DRep w ok' o.ty x vs
 |.d _,_,_,_,_,⟨_,h,_⟩=>h.mono λg hg _=>⟨hb g hg,rfl⟩
 |.p _ _,_,_,_,hf,⟨u,v,F1,F2,e,e2,h1,h2⟩=>⟨u,v,e,Owns.data hb (λs hs=>hf s (by rw[e2];exact D5 _ hs)) (show Owns w ok base hv _ Yf _ _ _ from h1),Owns.data hb (λs hs=>hf s (by rw[e2];exact DW _ hs)) (show Owns w ok base hv _ Yf _ _ _ from h2)⟩
 |.r _ e0,l,_,_,hf,⟨sv,xs,F',e,e2,h,hl⟩=>by
  have hd:DList (λx u=>DRep w ok' e0.ty x u) l xs:=by
   have:∀{l:Ye e0.ty.den}{j:Yn}{xs F:Ye Yq},(∀s∈F,∀g,s.ownBlock=Yg g->ok' g)->OL (λ_ x u f=>Owns w ok base hv e0 Yf x u f) j l xs F->DList (λx u=>DRep w ok' e0.ty x u) l xs:=by
    intro l
    induction l with
    |nil=>intro j xs F _ h;exact h.1
    |cons y l ih=>intro j xs F hF h;obtain⟨u,v,F1,F2,b1,b2,b3,b4⟩:=h;exact⟨u,v,b1,Owns.data hb (λs hs=>hF s (by rw[b2];exact D5 _ hs)) b3,ih (λs hs=>hF s (by rw[b2];exact DW _ hs)) b4⟩
   exact this (λs hs=>hf s (by rw[e2];exact DX _ hs)) hl
  have F4:=h.1;rcases h.2 with⟨h1,h2⟩|⟨g,cap,Ba,h1,X9,hh,hn,hm,hs,ht⟩
  ·refine⟨Yf,0,xs,by rw[e,h1,h2],by rw[h2];exact Av _,EA _,hd,λj v hj=>?_⟩
   have:xs=[]:=JV (by rw[F4,h2,Nat.zero_mul]);rw[this]at hj;simp at hj
  ·refine⟨Yg ⟨g,0,Yf⟩,cap,xs,by rw[e,h1],hn,hm,hd,λj v hj=>⟨⟨g,0,Yf⟩,rfl,hf sv (by rw[e2];exact Ha ..) g (by rw[h1];rfl),?_⟩⟩
   exact h.cells (g:=g) (by rw[h1];rfl) j v hj
end
end Go.Lift
namespace Go.Lift
inductive C where
 |bool (b:Ys)
 |int (k:YT) (n:Yh)
 |str (s:Ye Yj)
 |err (b:Ys)
 |list (e:Ty) (l:Ye e.den)
 |nils
 |nilc
 |lsome (e:Ty) (l:Ye e.den)
 |nilp
 |ptr (b o:Yn)
 |row (b ver:Yn)
 |fn (f:YA) (BS:Ye Yn)
 |nilfn
 |mapv (b:Yn)
 |mat (b ver:Yn)
 |mrow (b Ah i:Yn)
 |sub (b ver i j:Yn)
 |bself (b:Yn)
 |trow (b ver:Yn) (p:Path)
 |bfn (f:YA) (b:Yn)
 |tptr (b ver:Yn) (p:Path) (i o:Yn)
 |junk
inductive V where
 |junk
 |c (x:C)
 |agg (cs:Ye C)
 |tup (ts:Ye (Ys×Ye C))
 |eptr (b ver i o:Yn)
 |lptr (e:Ty) (x:e.den) (o:Yn)
 |mcell (b ver i:Yn)
 |mptr (b Ah i j o:Yn)
 |arr (b o:Yn) (e:Ty) (n:Yn)
inductive Blk where
 |cells (t:Yr) (cs:Ye C)
 |row (t:Yr) (e:Ty) (ver:Yn) (l:Ye e.den)
 |map (t:Yr) (k v:Ty) (vg:Ys) (l:Ye (k.den×v.den))
 |mat (t et:Yr) (e:Ty) (ver Ah:Yn) (hole:Ya Yn) (l:Ye (Ye e.den))
 |tree (t:Yr) (e:OT) (ver Ah:Yn) (hole:Ya Path) (l:Ye e.ty.den)
 |fmap (t:Yr) (l:Ye (Ye Yj×(YA×Yn)))
 |dead
inductive Pl where
 |cells (g:Yn)
 |row (sv:Yq) (Ac:Ye (Ya Yq))
def Pl.has:Pl->Yn->Prop
 |.cells g',g=>g'=g
 |.row sv Ac,g=>sv.ownBlock=Yg g\/∃(i:Yn)(s:Yq),Ac[i]?=Yg (Yg s)/\s.ownBlock=Yg g
theorem Pl.has_row{sv:Yq}{g:Yn}(h:(Pl.row sv []).has g):sv.ownBlock=Yg g:=by
 rcases h with h|⟨i,s,h,_⟩
 ·exact h
 ·simp at h
structure Env where
 w:Yx
 ok:Yn->Prop
 base:Yn
 pl:Yn->Ya Pl
 bl:Yn->Ya Blk
def tv(ver Ah:Yn):Path->Yn
 |[]=>ver
 |_::_=>ver+Ah
theorem aQ{a b a' b':Yn}(ha:a<=a')(hb:b<=b')(p:Path):tv a b p<=tv a' b' p:=by cases p<;>simp only[tv]<;>omega
theorem AeY{a b a' b':Yn}(ha:a<=a')(hb:b<=b'){p:Path}(h:tv a b p=tv a' b' p):a=a'/\(p=[]\/b=b'):=by
 cases p with
 |nil=>exact⟨h,.inl rfl⟩
 |cons _ _=>simp only[tv]at h;exact⟨by omega,.inr (by omega)⟩
def TV(h:Ya Path)(p:Path):Prop:=∀q,h=Yg q->¬q<+:p
def CRep(E:Env):C->Yq->Prop
 |.bool b,v=>v=.bool b
 |.int k n,v=>v=.int k n
 |.str s,v=>v=.string ⟨s.toArray⟩
 |.err b,v=>errRep b v
 |.list e l,v=>DRep E.w E.ok (.slice e) l [v]
 |.nils,v=>v=.slice Yf 0 0
 |.nilc,v=>∃c,v=.slice Yf 0 c
 |.lsome e l,v=>DRep E.w E.ok (.slice e) l [v]/\∀n c,v≠.slice Yf n c
 |.nilp,v=>v=.pointer Yf
 |.ptr b o,v=>∃g,E.pl b=Yg (.cells g)/\v=.pointer (Yg ⟨g,o,Yf⟩)
 |.row b ver,v=>v.oneCell'=Yp/\∃sv Ac,E.pl b=Yg (.row sv Ac)/\∀t e ver' l,E.bl b=Yg (.row t e ver' l)->ver<=ver'/\(ver=ver'->v=sv)
 |.fn f BS,v=>∃gs:Ye Yn,BS.map E.pl=gs.map (λg=>Yg (.cells g))/\v=.func (.func f) #[] (gs.map λg=>.pointer (Yg ⟨g,0,Yf⟩)).toArray
 |.nilfn,v=>v=.nilFunc
 |.mapv b,v=>∃g,E.pl b=Yg (.cells g)/\v=.map (Yg g)
 |.mat b ver,v=>v.oneCell'=Yp/\∃sv Ac,E.pl b=Yg (.row sv Ac)/\∀t et e ver' Ah hole l,E.bl b=Yg (.mat t et e ver' Ah hole l)->ver<=ver'/\(ver=ver'->v=sv)
 |.mrow b Ah i,v=>v.oneCell'=Yp/\∃sv Ac,E.pl b=Yg (.row sv Ac)/\∀t et e ver B8 hole l,E.bl b=Yg (.mat t et e ver B8 hole l)->Ah<=B8/\(Ah=B8->i<l.length/\Ac[i]?=Yg (Yg v))
 |.sub b ver i j,v=>v.oneCell'=Yp/\∃sv Ac,E.pl b=Yg (.row sv Ac)/\∀t e ver' l,E.bl b=Yg (.row t e ver' l)->ver<=ver'/\(ver=ver'->i<=j/\j<=l.length/\
   ∃A A' n c,sv=.slice A n c/\v=.slice A' (j-i) (c-i)/\(i<j->A'=A.map (·.add (i*e.size)))/\(i=0->A'=A))
 |.bself b,v=>v=.pointer Yf\/∃g,E.pl b=Yg (.cells g)/\v=.pointer (Yg ⟨g,0,Yf⟩)
 |.trow b ver p,v=>v.oneCell'=Yp/\∃sv Ac,E.pl b=Yg (.row sv Ac)/\∀t e ver' B8 h l,E.bl b=Yg (.tree t e ver' B8 h l)->ver<=tv ver' B8 p/\(ver=tv ver' B8 p->TV h p->
   ∃n,BL (.r t e) l 0 p=Yg n/\(Yg sv::Ac)[nix (.r t e) l 0 p]?=Yg (Yg v))
 |.bfn f b,v=>∃g,E.pl b=Yg (.cells g)/\v=.func (.func f) #[.pointer (Yg ⟨g,0,Yf⟩)] #[]
 |.tptr b ver p i o,v=>∃sv Ac ad,E.pl b=Yg (.row sv Ac)/\v=.pointer (Yg ad)/\∀t e ver' B8 h l,E.bl b=Yg (.tree t e ver' B8 h l)->ver<=tv ver' B8 p/\(ver=tv ver' B8 p->TV h p->
   ∃n s,BL (.r t e) l 0 p=Yg n/\(Yg sv::Ac)[nix (.r t e) l 0 p]?=Yg (Yg s)/\i<n.2.length/\∃g m c,s=.slice (Yg ⟨g,0,Yf⟩) m c/\ad=⟨g,i*n.1.2.ty.size+o,Yf⟩)
 |.junk,v=>v.oneCell'=Yp
def CReps(E:Env):Ye C->Ye Yq->Prop
 |[],vs=>vs=[]
 |c::cs,vs=>∃v Az,vs=v::Az/\CRep E c v/\CReps E cs Az
def SRep(E:Env)(agg:Ys)(cs:Ye C)(v:Yq):Prop:=
 ∃vs,CReps E cs vs/\if agg then v=.agg vs.toArray else vs=[v]
def TReps(E:Env):Ye (Ys×Ye C)->Ye Yq->Prop
 |[],vs=>vs=[]
 |t::ts,vs=>∃v Az,vs=v::Az/\SRep E t.1 t.2 v/\TReps E ts Az
def VRep(E:Env):V->Yq->Prop
 |.junk,_=>True
 |.c x,v=>CRep E x v
 |.agg cs,v=>SRep E Yp cs v
 |.tup ts,v=>∃vs,v=.tuple vs.toArray/\TReps E ts vs
 |.eptr b ver i o,v=>∃sv Ac ad,E.pl b=Yg (.row sv Ac)/\v=.pointer (Yg ad)/\∀t e ver' l,E.bl b=Yg (.row t e ver' l)->ver<=ver'/\
   (ver=ver'->i<l.length/\∃g n c,sv=.slice (Yg ⟨g,0,Yf⟩) n c/\ad=⟨g,i*e.size+o,Yf⟩)
 |.mcell b ver i,v=>∃sv Ac ad,E.pl b=Yg (.row sv Ac)/\v=.pointer (Yg ad)/\∀t et e ver' Ah hole l,E.bl b=Yg (.mat t et e ver' Ah hole l)->ver<=ver'/\
   (ver=ver'->i<l.length/\∃g n c,sv=.slice (Yg ⟨g,0,Yf⟩) n c/\ad=⟨g,i,Yf⟩)
 |.mptr b Ah i j o,v=>∃sv Ac ad,E.pl b=Yg (.row sv Ac)/\v=.pointer (Yg ad)/\∀t et e ver B8 hole l,E.bl b=Yg (.mat t et e ver B8 hole l)->Ah<=B8/\
   (Ah=B8->∃s x,l[i]?=Yg x/\Ac[i]?=Yg (Yg s)/\j<x.length/\∃g n c,s=.slice (Yg ⟨g,0,Yf⟩) n c/\ad=⟨g,j*e.size+o,Yf⟩)
 |.arr b o _ n,v=>∃g,E.pl b=Yg (.cells g)/\v=.slice (Yg ⟨g,o,Yf⟩) n n
 |.lptr e x o,v=>∃xs ad,DRep E.w E.ok e x xs/\v=.pointer (Yg ad)/\∀j u,(xs.drop o)[j]?=Yg u->E.ok ad.block/\E.w.cell? (ad.add j)=Yg u
def keyW:Ty->Ys
 |.prod _ _=>Yp
 |_=>Yi
def KRep(w:Yx)(ok:Yn->Prop)(k:Ty)(x:k.den)(u:Yq):Prop:=
 ∃us,DRep w ok k x us/\if keyW k then u=.agg us.toArray else us=[u]
def MRep(w:Yx)(ok:Yn->Prop)(k v:Ty)(vg:Ys):Ye (k.den×v.den)->Ye YS->Prop
 |[],es=>es=[]
 |x::l,es=>∃e r,es=e::r/\KRep w ok k x.1 e.key/\(∃us,DRep w ok v x.2 us/\if vg then e.val=.agg us.toArray else us=[e.val])/\MRep w ok k v vg l r
theorem MRep.mono{w w':Yx}{ok ok':Yn->Prop}{k v:Ty}{vg:Ys}(hk:∀x us,DRep w ok k x us->DRep w' ok' k x us)(hv:∀x us,DRep w ok v x us->DRep w' ok' v x us):∀{l:Ye (k.den×v.den)}{es:Ye YS},MRep w ok k v vg l es->MRep w' ok' k v vg l es
 |[],_,h=>h
 |_::_,_,⟨e,r,h0,⟨ks,h1,h5⟩,⟨us,h2,h3⟩,h4⟩=>⟨e,r,h0,⟨ks,hk _ _ h1,h5⟩,⟨us,hv _ _ h2,h3⟩,MRep.mono hk hv h4⟩
def FRep(E:Env):Ye (Ye Yj×(YA×Yn))->Ye YS->Prop
 |[],es=>es=[]
 |x::l,es=>∃e r g,es=e::r/\e.key=.string ⟨x.1.toArray⟩/\E.pl x.2.2=Yg (.cells g)/\e.val=.func (.func x.2.1) #[.pointer (Yg ⟨g,0,Yf⟩)] #[]/\FRep E l r
structure MatOk (E:Env) (t et:Yr) (e:Ty) (hole:Ya Yn) (l:Ye (Ye e.den)) (sv:Yq) (Ac:Ye (Ya Yq)):Prop where
 outer:∃vs:Ye Yq,E.w.ownsRow E.base t 1 sv l.length vs/\∀(i:Yn)(s:Yq),Ac[i]?=Yg (Yg s)->vs[i]?=Yg s
 len:Ac.length=l.length
 hole:∀i:Yn,Ac[i]?=Yg Yf->hole=Yg i
 inner:∀(i:Yn)(s:Yq)(x:Ye e.den),Ac[i]?=Yg (Yg s)->l[i]?=Yg x->∃xs,DList (λx u=>DRep E.w E.ok e x u) x xs/\E.w.ownsRow E.base et e.size s x.length xs
 sep0:∀(i:Yn)(s:Yq)(g:Yn),Ac[i]?=Yg (Yg s)->sv.ownBlock=Yg g->s.ownBlock≠Yg g
 sep:∀(i j:Yn)(s r:Yq)(g:Yn),i≠j->Ac[i]?=Yg (Yg s)->Ac[j]?=Yg (Yg r)->s.ownBlock=Yg g->r.ownBlock≠Yg g
def Placed(t:Yr)(e:OT)(l:Ye e.ty.den):Ya Path->Ye Yq->Ye (Ya Yq)->Prop
 |none,F,Ac=>Ac=F.map Yg
 |some P,F,Ac=>∃n G1 G2,BL (.r t e) l 0 P=Yg n/\F=G1++G2/\G1.length=nix (.r t e) l 0 P/\Ac=G1.map Yg++(Y8 (cnt (.r n.1.1 n.1.2) n.2) Yf++G2.map Yg)
structure TreeOk (E:Env) (t:Yr) (e:OT) (hole:Ya Path) (l:Ye e.ty.den) (sv:Yq) (Ac:Ye (Ya Yq)):Prop where
 rep:∃hv F,Owns E.w E.ok E.base hv (.r t e) (hole.map λp=>(0,p)) l [sv] (sv::F)/\Placed t e l hole (sv::F) (Yg sv::Ac)/\(sv::F).Pairwise (λs r=>∀g,s.ownBlock=Yg g->r.ownBlock≠Yg g)
 top:hole≠Yg []
def BRep(E:Env):Blk->Pl->Prop
 |.cells t cs,.cells g=>∃vs:Ye Yq,E.w.heap[g]?=Yg (.cells vs.toArray t (0,0))/\CReps E cs vs
 |.row t e _ l,.row sv Ac=>Ac=[]/\∃xs,DList (λx u=>DRep E.w E.ok e x u) l xs/\E.w.ownsRow E.base t e.size sv l.length xs
 |.mat t et e _ _ hole l,.row sv Ac=>MatOk E t et e hole l sv Ac
 |.tree t e _ _ hole l,.row sv Ac=>TreeOk E t e hole l sv Ac
 |.map _ k v vg l,.cells g=>∃(es:YQ YS)(CS:Yn),E.w.heap[g]?=Yg (.map es CS)/\MRep E.w E.ok k v vg l es.toList
 |.fmap _ l,.cells g=>∃(es:YQ YS)(CS:Yn),E.w.heap[g]?=Yg (.map es CS)/\FRep E l es.toList
 |.dead,_=>True
 |_,_=>False
def KeepT(c:Prop)(t:Yr)(e:OT)(h h':Ya Path)(l l':Ye e.ty.den)(sv:Yq)(Ac By:Ye (Ya Yq)):Prop:=
 ∀p,(p=[]\/c)->TV h' p->TV h p/\∀n,BL (.r t e) l 0 p=Yg n->∃n',BL (.r t e) l' 0 p=Yg n'/\n'.1=n.1/\n'.2.length=n.2.length/\
  ∀s,(Yg sv::Ac)[nix (.r t e) l 0 p]?=Yg (Yg s)->(Yg sv::By)[nix (.r t e) l' 0 p]?=Yg (Yg s)
theorem KeepT.refl(c:Prop)(t:Yr)(e:OT)(h:Ya Path)(l:Ye e.ty.den)(sv:Yq)(Ac:Ye (Ya Yq)):KeepT c t e h h l l sv Ac Ac:=λ_ _ ho=>⟨ho,λn hn=>⟨n,hn,rfl,rfl,λ_ hs=>hs⟩⟩
theorem KeepT.trans{c c1 c2:Prop}(hc:c->c1/\c2){t:Yr}{e:OT}{h h1 h2:Ya Path}{l l1 l2:Ye e.ty.den}{sv:Yq}{Ac N4 L0:Ye (Ya Yq)}(a:KeepT c1 t e h h1 l l1 sv Ac N4)(b:KeepT c2 t e h1 h2 l1 l2 sv N4 L0):KeepT c t e h h2 l l2 sv Ac L0:=λp hp ho=>by obtain⟨b1,b2⟩:=b p (hp.imp id λh=>(hc h).2) ho;obtain⟨a1,a2⟩:=a p (hp.imp id λh=>(hc h).1) b1;refine⟨a1,λn hn=>?_⟩;obtain⟨n1,c1,c2,c3,c4⟩:=a2 n hn;obtain⟨n2,d1,d2,d3,d4⟩:=b2 n1 c1;exact⟨n2,d1,d2.trans c2,d3.trans c3,λs hs=>d4 s (c4 s hs)⟩
structure KeepR (B B':Ya Blk) (sv:Yq) (Ac:Ye (Ya Yq)) (AS:Yq) (By:Ye (Ya Yq)):Prop where
 row:∀t e ver' l',B'=Yg (.row t e ver' l')->∃ver l,B=Yg (.row t e ver l)/\ver<=ver'/\(ver=ver'->AS=sv/\l'.length=l.length)
 mat:∀t et e ver' B8 Hn l',B'=Yg (.mat t et e ver' B8 Hn l')->∃ver Ah hole l,B=Yg (.mat t et e ver Ah hole l)/\ver<=ver'/\Ah<=B8/\
  (ver=ver'->AS=sv/\l'.length=l.length)/\(Ah=B8->By=Ac/\l'.map Yb=l.map Yb)
 tree:∀t e ver' B8 h' l',B'=Yg (.tree t e ver' B8 h' l')->∃ver Ah h l,B=Yg (.tree t e ver Ah h l)/\ver<=ver'/\Ah<=B8/\(ver=ver'->AS=sv/\KeepT (Ah=B8) t e h h' l l' sv Ac By)
theorem KeepR.refl(B:Ya Blk)(sv:Yq)(Ac:Ye (Ya Yq)):KeepR B B sv Ac sv Ac:=
 ⟨λ_ _ ver' l' hb=>⟨ver',l',hb,Av _,λ_=>⟨rfl,rfl⟩⟩,λ_ _ _ ver' B8 Hn l' hb=>⟨ver',B8,Hn,l',hb,Av _,Av _,λ_=>⟨rfl,rfl⟩,λ_=>⟨rfl,rfl⟩⟩,λ_ _ ver' B8 h' l' hb=>⟨ver',B8,h',l',hb,Av _,Av _,λ_=>⟨rfl,KeepT.refl _ _ _ _ _ _ _⟩⟩⟩
theorem KeepR.of_eq{B B':Ya Blk}(h:∀C,B'=Yg C->B=Yg C)(sv:Yq)(Ac:Ye (Ya Yq)):KeepR B B' sv Ac sv Ac:=
 ⟨λ_ _ ver' l' hb=>⟨ver',l',h _ hb,Av _,λ_=>⟨rfl,rfl⟩⟩,λ_ _ _ ver' B8 Hn l' hb=>⟨ver',B8,Hn,l',h _ hb,Av _,Av _,λ_=>⟨rfl,rfl⟩,λ_=>⟨rfl,rfl⟩⟩,λ_ _ ver' B8 h' l' hb=>⟨ver',B8,h',l',h _ hb,Av _,Av _,λ_=>⟨rfl,KeepT.refl _ _ _ _ _ _ _⟩⟩⟩
theorem KeepR.of_live{B B':Ya Blk}(h:∀C,B'=Yg C->C≠.dead->B=Yg C)(sv:Yq)(Ac:Ye (Ya Yq)):KeepR B B' sv Ac sv Ac:=
 ⟨λ_ _ ver' l' hb=>⟨ver',l',h _ hb (by simp),Av _,λ_=>⟨rfl,rfl⟩⟩,λ_ _ _ ver' B8 Hn l' hb=>⟨ver',B8,Hn,l',h _ hb (by simp),Av _,Av _,λ_=>⟨rfl,rfl⟩,λ_=>⟨rfl,rfl⟩⟩,λ_ _ ver' B8 h' l' hb=>⟨ver',B8,h',l',h _ hb (by simp),Av _,Av _,λ_=>⟨rfl,KeepT.refl _ _ _ _ _ _ _⟩⟩⟩
theorem KeepR.trans{B B1 B2:Ya Blk}{sv sv1 sv2:Yq}{Ac N4 L0:Ye (Ya Yq)}(h:KeepR B B1 sv Ac sv1 N4)(k:KeepR B1 B2 sv1 N4 sv2 L0):KeepR B B2 sv Ac sv2 L0:=by
 constructor
 ·intro t e Ju l2 Ai
  obtain⟨Da,l1,BE,le1,eq1⟩:=k.row t e Ju l2 Ai;obtain⟨Dj,l0,Eh,le0,eq0⟩:=h.row t e Da l1 BE;refine⟨Dj,l0,Eh,DC le0 le1,λhe=>?_⟩;have e01:Dj=Da:=Jw le0 (he▸le1);have e12:Da=Ju:=e01▸he;exact⟨(eq1 e12).1.trans (eq0 e01).1,(eq1 e12).2.trans (eq0 e01).2⟩
 ·intro t et e Ju T0 ALN l2 Ai
  obtain⟨Da,HK,Zf,l1,BE,le1,ile1,eq1,ieq1⟩:=k.mat t et e Ju T0 ALN l2 Ai;obtain⟨Dj,Gc,Nq,l0,Eh,le0,ile0,eq0,ieq0⟩:=h.mat t et e Da HK Zf l1 BE;refine⟨Dj,Gc,Nq,l0,Eh,DC le0 le1,DC ile0 ile1,λhe=>?_,λhe=>?_⟩
  ·have e01:Dj=Da:=Jw le0 (he▸le1)
   have e12:Da=Ju:=e01▸he;exact⟨(eq1 e12).1.trans (eq0 e01).1,(eq1 e12).2.trans (eq0 e01).2⟩
  ·have e01:Gc=HK:=Jw ile0 (he▸ile1)
   have e12:HK=T0:=e01▸he;exact⟨(ieq1 e12).1.trans (ieq0 e01).1,(ieq1 e12).2.trans (ieq0 e01).2⟩
 ·intro t e Ju T0 h2 l2 Ai
  obtain⟨Da,HK,h1,l1,BE,le1,ile1,eq1⟩:=k.tree t e Ju T0 h2 l2 Ai;obtain⟨Dj,Gc,h0,l0,Eh,le0,ile0,eq0⟩:=h.tree t e Da HK h1 l1 BE;refine⟨Dj,Gc,h0,l0,Eh,DC le0 le1,DC ile0 ile1,λhe=>?_⟩;have e01:Dj=Da:=Jw le0 (he▸le1);have e12:Da=Ju:=e01▸he;obtain⟨a1,a2⟩:=eq0 e01;obtain⟨b1,b2⟩:=eq1 e12;rw[a1]at b2;exact⟨b1.trans a1,a2.trans (λhc=>⟨by omega,by omega⟩) b2⟩
structure Ext (E E':Env):Prop where
 base:E'.base<=E.base
 heap:Keeps E.w E.ok E'.w E'.ok
 cells:∀b g,E.pl b=Yg (.cells g)->E'.pl b=Yg (.cells g)
 rows:∀b sv Ac,E.pl b=Yg (.row sv Ac)->∃AS By,E'.pl b=Yg (.row AS By)/\KeepR (E.bl b) (E'.bl b) sv Ac AS By
theorem Ext.refl(E:Env):Ext E E:=⟨Av _,λ_ h _=>⟨h,rfl⟩,λ_ _ h=>h,λ_ sv Ac h=>⟨sv,Ac,h,KeepR.refl _ _ _⟩⟩
section
variable{E E':Env}
theorem Atr{α:Type}{l l':Ye (Ye α)}(h:l'.map Yb=l.map Yb){i:Yn}{x:Ye α}(hx:l[i]?=Yg x):∃x',l'[i]?=Yg x'/\x'.length=x.length:=by
 have h1:(l'.map Yb)[i]?=Yg x.length:=by rw[h,Gz,hx];rfl
 rw[Gz]at h1;cases hy:l'[i]? with
 |none=>rw[hy]at h1;cases h1
 |some y=>rw[hy]at h1;injection h1 with h1;exact⟨y,rfl,h1⟩
theorem CRep.mono(hx:Ext E E'):∀{c:C}{v:Yq},CRep E c v->CRep E' c v
 |.bool _,_,h=>h
 |.int _ _,_,h=>h
 |.str _,_,h=>h
 |.err _,_,h=>h
 |.list e l,_,h=>DRep.mono (τ:=.slice e) hx.heap h
 |.nils,_,h=>h
 |.nilc,_,h=>h
 |.lsome e l,_,h=>⟨DRep.mono (τ:=.slice e) hx.heap h.1,h.2⟩
 |.nilp,_,h=>h
 |.nilfn,_,h=>h
 |.junk,_,h=>h
 |.ptr _ _,_,⟨g,h,hv⟩=>⟨g,hx.cells _ _ h,hv⟩
 |.mapv _,_,⟨g,h,hv⟩=>⟨g,hx.cells _ _ h,hv⟩
 |.bfn _ _,_,⟨g,h,hv⟩=>⟨g,hx.cells _ _ h,hv⟩
 |.tptr b ver p i o,_,⟨sv,Ac,ad,h,he,hv⟩=>by obtain⟨AS,By,h',hr⟩:=hx.rows _ _ _ h;refine⟨AS,By,ad,h',he,λt e ver' B8 XP l' hb=>?_⟩;obtain⟨Dj,Gc,hh,l,Eh,BF,ile,Ej⟩:=hr.tree t e ver' B8 XP l' hb;obtain⟨h1,h2⟩:=hv t e Dj Gc hh l Eh;refine⟨DC h1 (aQ BF ile p),λhe ho=>?_⟩;have Cg:=Jw (aQ BF ile p) (he▸h1);obtain⟨this,hc⟩:=AeY BF ile Cg;obtain⟨q1,q2⟩:=Ej this;obtain⟨r1,r2⟩:=q2 p hc ho;obtain⟨n,s,h3,h4,h5,h6⟩:=h2 (he.trans Cg.symm) r1;obtain⟨n',s1,s2,s3,s4⟩:=r2 n h3;rw[q1];exact⟨n',s,s1,s4 _ h4,by rw[s3];exact h5,by rw[s2];exact h6⟩
 |.bself _,_,.inl h=>.inl h
 |.bself _,_,.inr ⟨g,h,hv⟩=>.inr ⟨g,hx.cells _ _ h,hv⟩
 |.row b ver,_,⟨Nb,sv,Ac,h,hv⟩=>by obtain⟨AS,By,h',hr⟩:=hx.rows _ _ _ h;refine⟨Nb,AS,By,h',λt e ver' l' hb=>?_⟩;obtain⟨Dj,l,Eh,BF,Ej⟩:=hr.row t e ver' l' hb;obtain⟨h1,h2⟩:=hv t e Dj l Eh;refine⟨DC h1 BF,λhe=>?_⟩;have:Dj=ver':=Jw BF (he▸h1);rw[(Ej this).1];exact h2 (he.trans this.symm)
 |.mat b ver,_,⟨Nb,sv,Ac,h,hv⟩=>by obtain⟨AS,By,h',hr⟩:=hx.rows _ _ _ h;refine⟨Nb,AS,By,h',λt et e ver' B8 Hn l' hb=>?_⟩;obtain⟨Dj,Gc,Nq,l,Eh,BF,_,Ej,_⟩:=hr.mat t et e ver' B8 Hn l' hb;obtain⟨h1,h2⟩:=hv t et e Dj Gc Nq l Eh;refine⟨DC h1 BF,λhe=>?_⟩;have:Dj=ver':=Jw BF (he▸h1);rw[(Ej this).1];exact h2 (he.trans this.symm)
 |.mrow b Ah i,_,⟨Nb,sv,Ac,h,hv⟩=>by
  obtain⟨AS,By,h',hr⟩:=hx.rows _ _ _ h;refine⟨Nb,AS,By,h',λt et e ver' B8 Hn l' hb=>?_⟩;obtain⟨Dj,Gc,Nq,l,Eh,_,BF,_,Ej⟩:=hr.mat t et e ver' B8 Hn l' hb;obtain⟨h1,h2⟩:=hv t et e Dj Gc Nq l Eh;refine⟨DC h1 BF,λhe=>?_⟩;have hi:Gc=B8:=Jw BF (he▸h1);obtain⟨q1,q2⟩:=Ej hi;have q3:l'.length=l.length:=by simpa using Aw Yb q2
  rw[q1,q3];exact h2 (he.trans hi.symm)
 |.sub b ver i j,_,⟨Nb,sv,Ac,h,hv⟩=>by obtain⟨AS,By,h',hr⟩:=hx.rows _ _ _ h;refine⟨Nb,AS,By,h',λt e ver' l' hb=>?_⟩;obtain⟨Dj,l,Eh,BF,Ej⟩:=hr.row t e ver' l' hb;obtain⟨h1,h2⟩:=hv t e Dj l Eh;refine⟨DC h1 BF,λhe=>?_⟩;have:Dj=ver':=Jw BF (he▸h1);rw[(Ej this).1,(Ej this).2];exact h2 (he.trans this.symm)
 |.trow b ver p,_,⟨Nb,sv,Ac,h,hv⟩=>by obtain⟨AS,By,h',hr⟩:=hx.rows _ _ _ h;refine⟨Nb,AS,By,h',λt e ver' B8 XP l' hb=>?_⟩;obtain⟨Dj,Gc,hh,l,Eh,BF,ile,Ej⟩:=hr.tree t e ver' B8 XP l' hb;obtain⟨h1,h2⟩:=hv t e Dj Gc hh l Eh;refine⟨DC h1 (aQ BF ile p),λhe ho=>?_⟩;have Cg:=Jw (aQ BF ile p) (he▸h1);obtain⟨this,hc⟩:=AeY BF ile Cg;obtain⟨q1,q2⟩:=Ej this;obtain⟨r1,r2⟩:=q2 p hc ho;obtain⟨n,h3,h4⟩:=h2 (he.trans Cg.symm) r1;obtain⟨n',s1,_,_,s4⟩:=r2 n h3;rw[q1];exact⟨n',s1,s4 _ h4⟩
 |.fn f BS,_,⟨gs,h,hv⟩=>by
  refine⟨gs,?_,hv⟩;clear hv
  induction BS generalizing gs with
  |nil=>cases gs<;>simp_all
  |cons b bs ih=>
   cases gs with
   |nil=>simp at h
   |cons g gs=>simp only[CH,Dx]at h⊢;exact⟨hx.cells _ _ h.1,ih gs h.2⟩
theorem CReps.mono(hx:Ext E E'):∀{cs:Ye C}{vs:Ye Yq},CReps E cs vs->CReps E' cs vs
 |[],_,h=>h
 |_::_,_,⟨v,Az,e,h,ht⟩=>⟨v,Az,e,CRep.mono hx h,CReps.mono hx ht⟩
theorem SRep.mono(hx:Ext E E'){agg:Ys}{cs:Ye C}{v:Yq}(h:SRep E agg cs v):SRep E' agg cs v:=by obtain⟨vs,h1,h2⟩:=h;exact⟨vs,h1.mono hx,h2⟩
theorem TReps.mono(hx:Ext E E'):∀{ts:Ye (Ys×Ye C)}{vs:Ye Yq},TReps E ts vs->TReps E' ts vs
 |[],_,h=>h
 |_::_,_,⟨v,Az,e,h,ht⟩=>⟨v,Az,e,h.mono hx,TReps.mono hx ht⟩
theorem VRep.mono(hx:Ext E E'):∀{x:V}{v:Yq},VRep E x v->VRep E' x v
 |.junk,_,_=>trivial
 |.c _,_,h=>CRep.mono hx h
 |.agg _,_,h=>SRep.mono hx h
 |.tup _,_,⟨vs,e,h⟩=>⟨vs,e,h.mono hx⟩
 |.mcell b ver i,_,⟨sv,Ac,ad,h,he,hv⟩=>by obtain⟨AS,By,h',hr⟩:=hx.rows _ _ _ h;refine⟨AS,By,ad,h',he,λt et e ver' B8 Hn l' hb=>?_⟩;obtain⟨Dj,Gc,Nq,l,Eh,BF,_,Ej,_⟩:=hr.mat t et e ver' B8 Hn l' hb;obtain⟨h1,h2⟩:=hv t et e Dj Gc Nq l Eh;refine⟨DC h1 BF,λhe=>?_⟩;have:Dj=ver':=Jw BF (he▸h1);obtain⟨q1,q2⟩:=Ej this;rw[q1,q2];exact h2 (he.trans this.symm)
 |.mptr b Ah i j o,_,⟨sv,Ac,ad,h,he,hv⟩=>by obtain⟨AS,By,h',hr⟩:=hx.rows _ _ _ h;refine⟨AS,By,ad,h',he,λt et e ver' B8 Hn l' hb=>?_⟩;obtain⟨Dj,Gc,Nq,l,Eh,_,BF,_,Ej⟩:=hr.mat t et e ver' B8 Hn l' hb;obtain⟨h1,h2⟩:=hv t et e Dj Gc Nq l Eh;refine⟨DC h1 BF,λhe=>?_⟩;have hi:Gc=B8:=Jw BF (he▸h1);obtain⟨q1,q2⟩:=Ej hi;obtain⟨s,x,h3,h4,h5,h6⟩:=h2 (he.trans hi.symm);obtain⟨x',h7,h8⟩:=Atr q2 h3;rw[q1];exact⟨s,x',h7,h4,by rw[h8];exact h5,h6⟩
 |.eptr b ver i o,_,⟨sv,Ac,ad,h,he,hv⟩=>by obtain⟨AS,By,h',hr⟩:=hx.rows _ _ _ h;refine⟨AS,By,ad,h',he,λt e ver' l' hb=>?_⟩;obtain⟨Dj,l,Eh,BF,Ej⟩:=hr.row t e ver' l' hb;obtain⟨h1,h2⟩:=hv t e Dj l Eh;refine⟨DC h1 BF,λhe=>?_⟩;have:Dj=ver':=Jw BF (he▸h1);obtain⟨q1,q2⟩:=Ej this;rw[q1,q2];exact h2 (he.trans this.symm)
 |.arr _ _ _ _,_,⟨g,h,e⟩=>⟨g,hx.cells _ _ h,e⟩
 |.lptr e x o,_,⟨xs,ad,h,hv,hc⟩=>by
  refine⟨xs,ad,h.mono hx.heap,hv,λj u hj=>?_⟩;obtain⟨h1,h2⟩:=hc j u hj;have hb:E.ok (ad.add j).block:=by rw[M7];exact h1
  obtain⟨o',c'⟩:=hx.heap.cell hb h2;rw[M7]at o';exact⟨o',c'⟩
theorem pU{w w':Yx}{b b':Yn}{t:Yr}{size:Yn}{v:Yq}{n:Yn}{xs:Ye Yq}(hb:b'<=b)(hg:∀g,v.ownBlock=Yg g->w'.heap[g]?=w.heap[g]?)(h:w.ownsRow b t size v n xs):w'.ownsRow b' t size v n xs:=by
 refine⟨h.1,?_⟩;rcases h.2 with h3|⟨g,cap,Ba,rfl,Ai,hh,r⟩
 ·exact .inl h3
 ·exact .inr ⟨g,cap,Ba,rfl,DC hb Ai,(hg g rfl).trans hh,r⟩
theorem Placed.mem{t:Yr}{e:OT}{l:Ye e.ty.den}{hole:Ya Path}{F:Ye Yq}{Ac:Ye (Ya Yq)}(h:Placed t e l hole F Ac){s:Yq}:s∈F↔Yg s∈Ac:=by
 cases hole with
 |none=>have h:Ac=F.map Yg:=h;rw[h];simp
 |some P=>obtain⟨n,G1,G2,_,e1,_,e3⟩:=h;rw[e1,e3];simp[List.mem_replicate]
theorem Placed.has{t:Yr}{e:OT}{l:Ye e.ty.den}{hole:Ya Path}{F:Ye Yq}{sv:Yq}{Ac:Ye (Ya Yq)}(h:Placed t e l hole F (Yg sv::Ac)){s:Yq}(hs:s∈F){g:Yn}(hg:s.ownBlock=Yg g):(Pl.row sv Ac).has g:=by
 rcases Bl.1 (h.mem.1 hs)with h1|h1
 ·injection h1 with h1
  exact .inl (h1▸hg)
 ·obtain⟨i,hi⟩:=Rc.1 h1
  exact .inr ⟨i,s,hi,hg⟩
theorem Placed.of_has{t:Yr}{e:OT}{l:Ye e.ty.den}{hole:Ya Path}{F:Ye Yq}{sv:Yq}{Ac:Ye (Ya Yq)}(h:Placed t e l hole F (Yg sv::Ac)){g:Yn}(hg:(Pl.row sv Ac).has g):∃s∈F,s.ownBlock=Yg g:=by
 rcases hg with hg|⟨i,s,hs,hg⟩
 ·exact⟨sv,h.mem.2 (Ha ..),hg⟩
 ·exact⟨s,h.mem.2 (DX _ (Dg hs)),hg⟩
theorem FRep.mono(hx:Ext E E'):∀{l:Ye (Ye Yj×(YA×Yn))}{es:Ye YS},FRep E l es->FRep E' l es
 |[],_,h=>h
 |_::_,_,⟨e,r,g,h1,h2,h3,h4,h5⟩=>⟨e,r,g,h1,h2,hx.cells _ _ h3,h4,FRep.mono hx h5⟩
theorem BRep.mono(hx:Ext E E'){B:Blk}{p:Pl}(h:BRep E B p)(hg:∀g,p.has g->E'.w.heap[g]?=E.w.heap[g]?):BRep E' B p:=by
 cases B with
 |dead=>exact trivial
 |cells t cs=>
  cases p with
  |row _ _=>exact h.elim
  |cells g=>obtain⟨vs,h1,h2⟩:=h;exact⟨vs,(hg g rfl).trans h1,h2.mono hx⟩
 |map t k v vg l=>
  cases p with
  |row _ _=>exact h.elim
  |cells g=>obtain⟨es,CS,h1,h2⟩:=h;exact⟨es,CS,(hg g rfl).trans h1,h2.mono (λ_ _ h=>h.mono hx.heap) (λ_ _ h=>h.mono hx.heap)⟩
 |fmap t l=>
  cases p with
  |row _ _=>exact h.elim
  |cells g=>obtain⟨es,CS,h1,h2⟩:=h;exact⟨es,CS,(hg g rfl).trans h1,h2.mono hx⟩
 |row t e ver l=>
  cases p with
  |cells _=>exact h.elim
  |row sv Ac=>obtain⟨h0,xs,h1,h2⟩:=h;exact⟨h0,xs,h1.mono λx u hu=>hu.mono hx.heap,pU hx.base (λg Ga=>hg g (.inl Ga)) h2⟩
 |mat t et e ver Ah hole l=>
  cases p with
  |cells _=>exact h.elim
  |row sv Ac=>have h:MatOk E t et e hole l sv Ac:=h;obtain⟨vs,h1,h2⟩:=h.outer;refine⟨⟨vs,pU hx.base (λg Ga=>hg g (.inl Ga)) h1,h2⟩,h.len,h.hole,λi s x hs hl=>?_,h.sep0,h.sep⟩;obtain⟨xs,h3,h4⟩:=h.inner i s x hs hl;exact⟨xs,h3.mono λx u hu=>hu.mono hx.heap,pU hx.base (λg Ga=>hg g (.inr ⟨i,s,hs,Ga⟩)) h4⟩
 |tree t e ver Ah hole l=>
  cases p with
  |cells _=>exact h.elim
  |row sv Ac=>have h:TreeOk E t e hole l sv Ac:=h;obtain⟨hv,F,h1,h2,h3⟩:=h.rep;exact⟨⟨hv,F,h1.mono hx.base hx.heap λs hs g Ga=>hg g (Placed.has h2 hs Ga),h2,h3⟩,h.top⟩
end
theorem CReps.length{E:Env}:∀{cs:List C}{vs:List Value},CReps E cs vs->vs.length=cs.length
 |[],_,h=>by simp only[CReps]at h;simp[h]
 |_::_,_,⟨_,_,e,_,ht⟩=>by rw[e,B9,B9,CReps.length ht]
theorem CRep.oneCell{E:Env}{c:C}{v:Yq}(h:CRep E c v):v.oneCell'=Yp:=by
 cases c with
 |list e l=>exact DRep.oneCell h v (by simp)
 |lsome e l=>exact DRep.oneCell h.1 v (by simp)
 |nilc=>obtain⟨c,rfl⟩:=h;rfl
 |ptr b o=>obtain⟨g,_,rfl⟩:=h;rfl
 |bself b=>rcases h with rfl|⟨g,_,rfl⟩<;>rfl
 |fn f BS=>obtain⟨gs,_,rfl⟩:=h;rfl
 |mapv b=>obtain⟨g,_,rfl⟩:=h;rfl
 |bfn f b=>obtain⟨g,_,rfl⟩:=h;rfl
 |tptr b ver p i o=>obtain⟨_,_,ad,_,rfl,_⟩:=h;rfl
 |row b ver=>exact h.1
 |mat b ver=>exact h.1
 |mrow b Ah i=>exact h.1
 |sub b ver i j=>exact h.1
 |trow b ver p=>exact h.1
 |junk=>exact h
 |bool _=>simp only[CRep]at h;subst h;rfl
 |int _ _=>simp only[CRep]at h;subst h;rfl
 |str _=>simp only[CRep]at h;subst h;rfl
 |err _=>exact errRep.one h
 |nils=>simp only[CRep]at h;subst h;rfl
 |nilp=>simp only[CRep]at h;subst h;rfl
 |nilfn=>simp only[CRep]at h;subst h;rfl
end Go.Lift
namespace Go.Lift
noncomputable section
noncomputable def look{α:Type}(l:Ye (Yn×α))(i:Yn):Ya α:=List.rec (motive:=λ_=>Ya α) Yf (λp _ ih=>Bool.rec (motive:=λ_=>Ya α) ih (Yg p.2) (Yo i p.1)) l
theorem Fw{α:Type}(i:Yn):look ([]:Ye (Yn×α)) i=Yf:=rfl
theorem Fh{α:Type}(j:Yn)(x:α)(r:Ye (Yn×α))(i:Yn):look ((j,x)::r) i=bif Yo i j then Yg x else look r i:=by show(Bool.rec (motive:=λ_=>Ya α) (look r i) (Yg x) (Yo i j):Ya α)=_;cases Yo i j<;>rfl
noncomputable def put{α:Type}(l:Ye (Yn×α))(i:Yn)(x:α):Ye (Yn×α):=List.rec (motive:=λ_=>Ye (Yn×α)) [(i,x)] (λp r ih=>Bool.rec (motive:=λ_=>Ye (Yn×α)) ((i,x)::p::r) (Bool.rec (motive:=λ_=>Ye (Yn×α)) (p::ih) ((i,x)::r) (Yo i p.1)) (YI p.1 i)) l
theorem AeZ{α:Type}(i:Yn)(x:α):put ([]:Ye (Yn×α)) i x=[(i,x)]:=rfl
theorem Af0{α:Type}(j:Yn)(y:α)(r:Ye (Yn×α))(i:Yn)(x:α):put ((j,y)::r) i x=bif Y0 i j then(i,x)::(j,y)::r else bif Yo i j then(i,x)::r else(j,y)::put r i x:=by
 have e:Y0 i j=!YI j i:=by
  by_cases h:i<j
  ·have h1:Y0 i j=Yp:=by rw[Nat.blt_eq];exact h
   have h2:YI j i=Yi:=by
    cases h2:YI j i with
    |false=>rfl
    |true=>exact Y7 (IP h2) (Nat.not_le.2 h)
   rw[h1,h2];rfl
  ·have h1:Y0 i j=Yi:=by
    cases h1:Y0 i j with
    |false=>rfl
    |true=>rw[Nat.blt_eq]at h1;exact Y7 h1 h
   have h2:YI j i=Yp:=Nat.ble_eq_true_of_le (Nat.not_lt.1 h);rw[h1,h2];rfl
 rw[e];show(Bool.rec (motive:=λ_=>Ye (Yn×α)) ((i,x)::(j,y)::r) (Bool.rec (motive:=λ_=>Ye (Yn×α)) ((j,y)::put r i x) ((i,x)::r) (Yo i j)) (YI j i):Ye (Yn×α))=_;cases YI j i<;>cases Yo i j<;>rfl
def puts{α:Type}:Ye (Yn×α)->Ye (Yn×α)->Ye (Yn×α)
 |l,[]=>l
 |l,(i,x)::r=>puts (put l i x) r
theorem IT{i j:Yn}(h:¬i=j):Yo i j=Yi:=by
 cases hb:Yo i j with
 |false=>rfl
 |true=>exact Y7 (AB hb) h
theorem Pq(i:Yn):Yo i i=Yp:=Nat.beq_refl i
theorem aR{α:Type}(l:Ye (Yn×α))(i:Yn)(x:α)(j:Yn):look (put l i x) j=if j=i then Yg x else look l j:=by
 induction l with
 |nil=>
  simp only[AeZ,Af0,Fw,Fh];by_cases h:j=i
  ·subst h;simp
  ·simp[h,IT h]
 |cons p r ih=>
  obtain⟨k,y⟩:=p;simp only[AeZ,Af0];cases h1:Y0 i k
  ·cases h2:Yo i k
   ·simp only[C7,Fw,Fh,ih]
    by_cases h:j=i
    ·subst h;simp[h2]
    ·simp[h]
   ·have:i=k:=AB h2
    subst this;simp only[C7,As,Fw,Fh];by_cases h:j=i
    ·subst h;simp
    ·simp[h,IT h]
  ·simp only[As,Fw,Fh]
   by_cases h:j=i
   ·subst h;simp
   ·simp[h,IT h]
inductive BK where
 |b|i|s
structure TI where
 agg:Ys
 size:Yn
 bytes:Yn
 zero:Ye C
 flds:Ye (Yn×Yn×Ys)
 elem:Ya Yr
 len:Ya Yn
 ty:Ya Ty
 kind:Ya YT
 isBool:Ys
 isStr:Ys
 eqs:Ya (Ye BK)
 mp:Ya (Yr×Yr)
 ptr:Ys
inductive CT where
 |data (τ:Ty)
 |ptr (b o:Yn)
 |rowh (b:Yn)
 |fn (f:YA) (BS:Ye Yn)
 |maph (b:Yn)
 |math (b:Yn)
 |bself (b:Yn)
 |bfnh (f:YA) (b:Yn)
 |trowh (b:Yn)
 |tptrh (b:Yn) (ks:Ye Yn) (o:Yn)
 |nilc
 |nils
 |lsome (e:Ty)
 |junk
inductive BT where
 |cells (t:Yr) (l:Ye CT)
 |row (t:Yr) (e:Ty)
 |map (t:Yr) (k v:Ty) (vg:Ys)
 |mat (t et:Yr) (e:Ty)
 |tree (t:Yr) (e:OT)
 |fmap (t:Yr) (l:Ye (Ye Yj×(YA×Yn)))
@[reducible] def WayT:Ye Yn->Type
 |[]=>Yn
 |_::r=>Yn×WayT r
@[reducible] def CT.dens:Ye CT->Type
 |[]=>Unit
 |.tptrh _ ks _::r=>WayT ks×CT.dens r
 |.data τ::r=>τ.den×CT.dens r
 |.lsome e::r=>Ye e.den×CT.dens r
 |.ptr _ _::r|.rowh _::r|.fn _ _::r|.maph _::r|.math _::r|.bself _::r|.bfnh _ _::r|.trowh _::r|.nilc::r|.nils::r|.junk::r=>CT.dens r
@[reducible] def ST.dens:Ye (Ys×Ye CT)->Type
 |[]=>Unit
 |t::r=>CT.dens t.2×ST.dens r
@[reducible] def BT.dens:Ye BT->Type
 |[]=>Unit
 |.cells _ l::r=>CT.dens l×BT.dens r
 |.row _ e::r=>Ye e.den×BT.dens r
 |.map _ k v _::r=>Ye (k.den×v.den)×BT.dens r
 |.mat _ _ e::r=>Ye (Ye e.den)×BT.dens r
 |.tree _ e::r=>Ye e.ty.den×BT.dens r
 |.fmap _ _::r=>BT.dens r
structure Spec where
 params:Ye (Ys×Ye CT)
 ins:Ye BT
 res:Ye (Ys×Ye CT)
 outs:Ye BT
 run:{β:Type}->ST.dens params×BT.dens ins->(ST.dens res×BT.dens outs->Ya β)->Ya β
structure RowF where
 t:Yr
 e:Ty
 cut:Ys
 dom:Ye e.den->Ys
 run:Ye e.den->Ye e.den
 fn:Ya YA:=Yf
def RowF.extra(F:RowF):Ye Yq:=match F.fn with|none=>[]|some g=>[.func (.func g) #[] #[]]
structure BldF where
 t:Yr
 te:Yr
 op:Yn
structure AbsF where
 run:{β:Type}->(Yn->Ya Blk)->Yn->Ye V->(V->Ye Yn->Ye (Yn×Blk)->Ya β)->Ya β
inductive Fun where
 |spec (S:Spec)
 |rows (F:RowF)
 |bld (F:BldF)
 |abs (A:AbsF)
structure Ctx where
 T:Yr->Ya TI
 Γ:YA->Ya Fun
 M:Ys
 R:Ys
 D:Ys
 S:Ys
 O:Ye (Yr×OT)
 A:Ya (Ye Yn)
 N:Yn
 L:Ye (Yr×Ye Yn)
def memB(x:Yn):Ye Yn->Ys
 |[]=>Yi
 |y::r=>Yo x y||memB x r
def JX:Ye Yn->Ys
 |[]=>Yp
 |x::r=>!memB x r&&JX r
def cells:(τ:Ty)->τ.den->Ye C
 |.bool,b=>[.bool b]
 |.int k,n=>[.int k n]
 |.str,s=>[.str s]
 |.err,b=>[.err b]
 |.unit,_=>[]
 |.prod a b,x=>cells a x.1++cells b x.2
 |.slice e,l=>[.list e l]
def IU(bl:Yn->Ya Blk)(b ver:Yn)(e:Ty):Ya (Ye e.den):=
 match bl b with
 |some (.row _ e' ver' l)=>bif Yo ver ver' then(if h:e'=e then Yg (h▸l)else Yf)else Yf
 |_=>Yf
def J0:(o:OT)->o.ty.den->Yn->Path->Ya Fg
 |.d _,_,_,_=>Yf
 |.p a b,x,k,p=>bif Y0 k a.ty.size then J0 a x.1 k p else J0 b x.2 (k-a.ty.size) p
 |.r t e,l,0,[]=>Yg ⟨(t,e),l⟩
 |.r _ e,l,0,(i,k)::p=>J0 e ((l:Ye e.ty.den).getD i e.ty.dflt) k p
 |.r _ _,_,_+1,_=>Yf
def setD:(o:OT)->o.ty.den->Yn->Path->(e':OT)->Ye e'.ty.den->o.ty.den
 |.d _,x,_,_,_,_=>x
 |.p a b,x,k,p,e',y=>bif Y0 k a.ty.size then(setD a x.1 k p e' y,x.2)else(x.1,setD b x.2 (k-a.ty.size) p e' y)
 |.r _ e,l,0,[],e',y=>if h:e'=e then(h▸y:Ye e.ty.den)else l
 |.r _ e,l,0,(i,k)::p,e',y=>(YG l i (setD e ((l:Ye e.ty.den).getD i e.ty.dflt) k p e' y):Ye e.ty.den)
 |.r _ _,l,_+1,_,_,_=>l
def Ro(b ver:Yn)(p:Path)(i:Yn):Yn->(o:OT)->o.ty.den->Ye C
 |_,.d τ,x=>cells τ x
 |k,.p a c,x=>Ro b ver p i k a x.1++Ro b ver p i (k+a.ty.size) c x.2
 |k,.r _ _,_=>[.trow b ver (p++[(i,k)])]
def Rp(bl:Yn->Ya Blk)(b ver:Yn)(p:Path):Ya ((te:Yr×OT)×(Ye te.2.ty.den×(Yn×(Yn×Fg)))):=
 match bl b with
 |some (.tree t e ver' Ah Yf l)=>
  bif Yo ver (tv ver' Ah p)then
   match J0 (.r t e) l 0 p with
   |some n=>Yg ⟨(t,e),l,ver',Ah,n⟩
   |none=>Yf
  else Yf
 |_=>Yf
def TW(bl:Yn->Ya Blk)(b ver:Yn)(e:Ty):Ya (Ye e.den):=
 match bl b with
 |some (.tree _ o ver' _ Yf l)=>bif Yo ver ver' then(if h:o.ty=e then Yg (h▸l)else Yf)else Yf
 |_=>Yf
def pack(bl:Yn->Ya Blk):(τ:Ty)->Ye C->Ya (τ.den×Ye C)
 |.bool,.bool b::r=>Yg (b,r)
 |.int k,.int k' n::r=>if k=k' then Yg (n,r)else Yf
 |.str,.str s::r=>Yg (s,r)
 |.err,.err b::r=>Yg (b,r)
 |.unit,r=>Yg ((),r)
 |.prod a b,r=>
  match pack bl a r with
  |none=>Yf
  |some (x,r1)=>
   match pack bl b r1 with
   |none=>Yf
   |some (y,r2)=>Yg ((x,y),r2)
 |.slice e,.nils::r=>Yg (([]:Ye e.den),r)
 |.slice e,.list e' l::r=>if h:e'=e then Yg ((h▸l:Ye e.den),r)else Yf
 |.slice e,.row b ver::r=>
  match IU bl b ver e with
  |none=>Yf
  |some l=>Yg (l,r)
 |.slice e,.sub b ver i j::r=>
  match IU bl b ver e with
  |none=>Yf
  |some l=>Yg ((l.take j).drop i,r)
 |.slice e,.trow b ver []::r=>
  match TW bl b ver e with
  |none=>Yf
  |some l=>Yg (l,r)
 |_,_=>Yf
def LF(bl:Yn->Ya Blk)(τ:Ty)(cs:Ye C):Ya τ.den:=
 match pack bl τ cs with
 |some (x,[])=>Yg x
 |_=>Yf
def CE:Ye C->Ye Yn
 |[]=>[]
 |.row b _::r=>b::CE r
 |.sub b _ _ _::r=>b::CE r
 |.mat b _::r=>b::CE r
 |.trow b _ _::r=>b::CE r
 |_::r=>CE r
def V.cells:V->Ya (Ye C)
 |.c x=>Yg [x]
 |.agg cs=>Yg cs
 |_=>Yf
def V.mk(agg:Ys)(cs:Ye C):V:=
 bif agg then .agg cs else
  match cs with
  |[x]=>.c x
  |_=>.junk
def C.ofValue:Yq->Ya C
 |.bool b=>Yg (.bool b)
 |.int k n=>Yg (.int k n)
 |.string s=>Yg (.str s.data.toList)
 |.slice Yf 0 0=>Yg .nils
 |.pointer Yf=>Yg .nilp
 |.nilFunc=>Yg .nilfn
 |.nilIface=>Yg (.err Yp)
 |_=>Yf
def C.ofValues:Ye Yq->Ya (Ye C)
 |[]=>Yg []
 |v::r=>
  match C.ofValue v,C.ofValues r with
  |some x,Yg xs=>Yg (x::xs)
  |_,_=>Yf
def V.ofValue:Yq->V
 |.agg cs=>
  match C.ofValues cs.toList with
  |some l=>.agg l
  |none=>.junk
 |v=>
  match C.ofValue v with
  |some x=>.c x
  |none=>.junk
def over:Ye C->Yn->Ye C->Ya (Ye C)
 |cs,0,new=>bif YI new.length cs.length then Yg (new++cs.drop new.length)else Yf
 |[],_+1,_=>Yf
 |c::cs,o+1,new=>
  match over cs o new with
  |some r=>Yg (c::r)
  |none=>Yf
def sub(cs:Ye C)(o n:Yn):Ya (Ye C):=
 bif YI (o+n) cs.length then Yg ((cs.drop o).take n)else Yf
def ival:V->Ya (YT×Yh)
 |.c (.int k n)=>Yg (k,n)
 |_=>Yf
section
variable{β:Type}
abbrev K(β:Type):=V->Ye Yn->Ye (Yn×Blk)->Ya β
def DD(c:Ys)(x:Ya β):Ya β:=Yk c x Yf
def JY(op:Ya6)(k:YT)(a b:Yh):Yh:=
 match op with
 |.and=>k.wrap ((Yai k.bits a&&&Yai k.bits b).toNat:Yh)
 |.or=>k.wrap ((Yai k.bits a|||Yai k.bits b).toNat:Yh)
 |.xor=>k.wrap ((Yai k.bits a ^^^ Yai k.bits b).toNat:Yh)
 |_=>k.wrap ((Yai k.bits a&&&~~~Yai k.bits b).toNat:Yh)
def aT(op:Ya6)(k:YT)(a b:Yh):Yh:=
 match op with
 |.shl=>k.wrap (a*2^(min b.toNat k.bits))
 |_=>a.fdiv (2^(min b.toNat k.bits))
def pV:Ya6->Ys
 |.shl|.shr=>Yp
 |_=>Yi
def Af1(op:Ya6)(k:YT)(a b:Yh)(kk:K β):Ya β:=
 match op with
 |.add=>kk (.c (.int k (k.wrap (a+b)))) [] []
 |.sub=>kk (.c (.int k (k.wrap (a-b)))) [] []
 |.mul=>kk (.c (.int k (k.wrap (a*b)))) [] []
 |.quo=>DD (!Yd (b=0)) (kk (.c (.int k (k.wrap (a.tdiv b)))) [] [])
 |.rem=>DD (!Yd (b=0)) (kk (.c (.int k (a.tmod b))) [] [])
 |.eql=>kk (.c (.bool (Yd (a=b)))) [] []
 |.neq=>kk (.c (.bool (!Yd (a=b)))) [] []
 |.lss=>kk (.c (.bool (Yd (a<b)))) [] []
 |.leq=>kk (.c (.bool (Yd (a<=b)))) [] []
 |.gtr=>kk (.c (.bool (Yd (b<a)))) [] []
 |.geq=>kk (.c (.bool (Yd (b<=a)))) [] []
 |.and=>kk (.c (.int k (JY .and k a b))) [] []
 |.or=>kk (.c (.int k (JY .or k a b))) [] []
 |.xor=>kk (.c (.int k (JY .xor k a b))) [] []
 |.andNot=>kk (.c (.int k (JY .andNot k a b))) [] []
 |_=>Yf
def Af2(op:Ya6)(a b:Ye Yj)(kk:K β):Ya β:=
 match op with
 |.add=>DD (Yd (a.length+b.length<=9223372036854775807)) (kk (.c (.str (a++b))) [] [])
 |.eql=>kk (.c (.bool (Yd (a=b)))) [] []
 |.neq=>kk (.c (.bool (!Yd (a=b)))) [] []
 |.lss=>kk (.c (.bool (Yap a b))) [] []
 |.leq=>kk (.c (.bool (Yap a b||Yd (a=b)))) [] []
 |.gtr=>kk (.c (.bool (!(Yap a b||Yd (a=b))))) [] []
 |.geq=>kk (.c (.bool (!Yap a b))) [] []
 |_=>Yf
def C3:Ye BK->Ye C->Ye C->Ya Ys
 |[],[],[]=>Yg Yp
 |.b::k,.bool a::r,.bool b::s=>
  match C3 k r s with
  |some q=>Yg ((a==b)&&q)
  |none=>Yf
 |.i::k,.int ka a::r,.int kb b::s=>
  if ka=kb then
   match C3 k r s with
   |some q=>Yg (Yd (a=b)&&q)
   |none=>Yf
  else Yf
 |.s::k,.str a::r,.str b::s=>
  match C3 k r s with
  |some q=>Yg (Yd (a=b)&&q)
  |none=>Yf
 |_,_,_=>Yf
def aU(T:Yr->Ya TI)(op:Ya6)(t:Yr)(b:Ys)(kk:K β):Ya β:=
 match T t with
 |some ti=>
  match ti.elem,ti.len,op with
  |some _,Yf,.eql=>kk (.c (.bool b)) [] []
  |some _,Yf,.neq=>kk (.c (.bool (!b))) [] []
  |_,_,_=>Yf
 |none=>Yf
def pW(T:Yr->Ya TI)(op:Ya6)(t:Yr)(x y:V)(kk:K β):Ya β:=
 match x,y with
 |.c (.int k a),.c (.int k' b)=>
  bif pV op then DD (Yd (0<=b)) (kk (.c (.int k (aT op k a b))) [] [])else
  if k=k' then Af1 op k a b kk else Yf
 |.c (.str a),.c (.str b)=>Af2 op a b kk
 |.c (.bool a),.c (.bool b)=>
  match T t with
  |some ti=>
   bif ti.isBool then
    match op with
    |.eql=>kk (.c (.bool (a==b))) [] []
    |.neq=>kk (.c (.bool (!(a==b)))) [] []
    |_=>Yf
   else Yf
  |none=>Yf
 |.agg a,.agg b=>
  match T t with
  |some ti=>
   match ti.eqs with
   |some ks=>
    match op,C3 ks a b with
    |.eql,Yg r=>kk (.c (.bool r)) [] []
    |.neq,Yg r=>kk (.c (.bool (!r))) [] []
    |_,_=>Yf
   |none=>Yf
  |none=>Yf
 |.c .nilc,.c .nils=>aU T op t Yp kk
 |.c (.lsome _ _),.c .nils=>aU T op t Yi kk
 |_,_=>Yf
def pX(T:Yr->Ya TI)(op:Ya6)(t:Yr)(b:Ys)(kk:K β):Ya β:=
 match T t with
 |some ti=>
  match ti.ty,ti.agg,op with
  |some .err,Yi,.eql=>kk (.c (.bool b)) [] []
  |some .err,Yi,.neq=>kk (.c (.bool (!b))) [] []
  |_,_,_=>Yf
 |none=>Yf
def aV(T:Yr->Ya TI)(op:Ya6)(t:Yr)(b:Ys)(kk:K β):Ya β:=
 match T t with
 |some ti=>
  match ti.ptr,op with
  |true,.eql=>kk (.c (.bool b)) [] []
  |true,.neq=>kk (.c (.bool (!b))) [] []
  |_,_=>Yf
 |none=>Yf
def pY(T:Yr->Ya TI)(op:Ya6)(t:Yr)(x y:V)(yo:Y2)(kk:K β):Ya β:=
 match x,yo with
 |.c (.err b),.const .nilIface=>pX T op t b kk
 |.c .nilp,.const (.pointer Yf)=>aV T op t Yp kk
 |.c (.tptr _ _ _ _ _),.const (.pointer Yf)=>aV T op t Yi kk
 |_,_=>pW T op t x y kk
def NE(cells:Ye C):Ye (Yn×Ye C)->Ya (Ye C)
 |[]=>Yg cells
 |(o,new)::r=>
  match over cells o new with
  |some cs=>NE cs r
  |none=>Yf
def Hu(ti:TI)(T:Yr->Ya TI):Ye (Yn×V)->Ya (Ye (Yn×Ye C))
 |[]=>Yg []
 |(i,v)::r=>
  match v.cells,Hu ti T r with
  |some cs,Yg rest=>
   match ti.len,ti.elem with
   |some _,Yg e=>
    match T e with
    |some te=>bif Yo cs.length te.size then Yg ((i*te.size,cs)::rest)else Yf
    |none=>Yf
   |_,_=>
    match ti.flds[i]? with
    |some (o,n,_)=>bif Yo cs.length n then Yg ((o,cs)::rest)else Yf
    |none=>Yf
  |_,_=>Yf
def repC(n:Yn)(cs:Ye C):Ye C:=
 match n with
 |0=>[]
 |n+1=>cs++repC n cs
def JZ(bl:Yn->Ya Blk)(e:Ty):Yn->Ye C->Ya (Ye e.den)
 |0,[]=>Yg []
 |0,_::_=>Yf
 |n+1,cs=>
  match pack bl e cs with
  |some (x,r)=>
   match JZ bl e n r with
   |some l=>Yg (x::l)
   |none=>Yf
  |none=>Yf
def TX(T:Yr->Ya TI)(bl:Yn->Ya Blk)(t:Yr)(p:V)(kk:K β):Ya β:=
 match T t with
 |none=>Yf
 |some ti=>
  bif ti.agg||Yo ti.size 1 then
  match p with
  |.c (.ptr b o)=>
   match bl b with
   |some (.cells _ cs)=>
    match sub cs o ti.size with
    |some r=>kk (V.mk ti.agg r) [b] []
    |none=>Yf
   |_=>Yf
  |.eptr b ver i o=>
   match bl b with
   |some (.row _ e ver' l)=>
    bif Yo ver ver' then
     match sub (cells e (l.getD i e.dflt)) o ti.size with
     |some r=>kk (V.mk ti.agg r) [b] []
     |none=>Yf
    else Yf
   |_=>Yf
  |.lptr e x o=>
   match sub (cells e x) o ti.size with
   |some r=>kk (V.mk ti.agg r) [] []
   |none=>Yf
  |.c (.tptr b ver p i o)=>
   match Rp bl b ver p with
   |some a=>
    match sub (Ro b (a.2.2.1+a.2.2.2.1) p i 0 a.2.2.2.2.1.2 (a.2.2.2.2.2.getD i a.2.2.2.2.1.2.ty.dflt)) o ti.size with
    |some r=>kk (V.mk ti.agg r) [b] []
    |none=>Yf
   |none=>Yf
  |_=>Yf
  else Yf
def LG:(o:OT)->o.ty.den->Yn->Ye C->Ya o.ty.den
 |.d τ,x,k,new=>
  match over (cells τ x) k new with
  |some r=>LF (λ_=>Yf) τ r
  |none=>Yf
 |.p a b,x,k,new=>
  bif YI (k+new.length) a.ty.size then
   match LG a x.1 k new with
   |some y=>Yg (y,x.2)
   |none=>Yf
  else bif YI a.ty.size k then
   match LG b x.2 (k-a.ty.size) new with
   |some y=>Yg (x.1,y)
   |none=>Yf
  else Yf
 |.r _ _,_,_,_=>Yf
def TY(bl:Yn->Ya Blk):V->Ya (Yn×Fg)
 |.c (.row r rv)=>
  match bl r with
  |some (.row t e ver l)=>bif Yo rv ver then Yg (r,⟨(t,.d e),l⟩)else Yf
  |_=>Yf
 |.c (.trow r rv [])=>
  match bl r with
  |some (.tree t e ver _ Yf l)=>bif Yo rv ver then Yg (r,⟨(t,e),l⟩)else Yf
  |_=>Yf
 |_=>Yf
def aW:Path->Path->Ys
 |[],[]=>Yp
 |(i,k)::p,(j,m)::q=>decide (i=j)&&(Yo k m&&aW p q)
 |_,_=>Yi
def Pr(T:Yr->Ya TI)(bl:Yn->Ya Blk)(t:Yr)(p v:V)(kk:K β):Ya β:=
 match T t,v.cells with
 |some ti,Yg new=>
  bif Yo new.length ti.size then
   match p with
   |.c (.ptr b o)=>
    match bl b with
    |some (.cells t0 cs)=>
     match over cs o new with
     |some r=>kk .junk [b] [(b,.cells t0 r)]
     |none=>Yf
    |_=>Yf
   |.eptr b ver i o=>
    match bl b with
    |some (.row t0 e ver' l)=>
     bif Yo ver ver' then
      match over (cells e (l.getD i e.dflt)) o new with
      |some r=>
       match LF (λ_=>Yf) e r with
       |some x=>kk .junk [b] [(b,.row t0 e ver' (l.set i x))]
       |none=>Yf
      |none=>Yf
     else Yf
    |_=>Yf
   |.c (.tptr b ver p i o)=>
    match bl b with
    |some (.tree t0 e ver' Ah Yf l)=>
     bif Yo ver (tv ver' Ah p)then
      match J0 (.r t0 e) l 0 p with
      |some n=>
       match LG n.1.2 (n.2.getD i n.1.2.ty.dflt) o new with
       |some x=>kk .junk [b] [(b,.tree t0 e ver' Ah Yf (setD (.r t0 e) l 0 p n.1.2 (n.2.set i x)))]
       |none=>Yf
      |none=>Yf
     else Yf
    |some (.tree t0 e ver' Ah (Yg P) l)=>
     bif Yo ver (tv ver' Ah p)then
      match J0 (.r t0 e) l 0 P,TY bl v with
      |some n,Yg (r,m)=>
       if m.1=n.1 then DD (aW P (p++[(i,o)])) (kk .junk [b,r] [(r,.dead),(b,.tree t0 e ver' (Ah+1) Yf (setD (.r t0 e) l 0 P m.1.2 m.2))])else Yf
      |_,_=>Yf
     else Yf
    |_=>Yf
   |_=>Yf
  else Yf
 |_,_=>Yf
def Af3(bl:Yn->Ya Blk)(b:Yn):Ys:=
 match bl b with
 |some (.tree _ _ _ _ (Yg _) _)=>Yp
 |_=>Yi
def pZ(T:Yr->Ya TI)(t:Yr)(p:V)(f:Yn)(kk:K β):Ya β:=
 match T t with
 |none=>Yf
 |some ti=>
  match ti.flds[f]? with
  |none=>Yf
  |some (off,n,_)=>
   bif Yo n 0 then Yf else
   match p with
   |.c (.ptr b o)=>kk (.c (.ptr b (o+off))) [] []
   |.eptr b ver i o=>kk (.eptr b ver i (o+off)) [] []
   |.lptr e x o=>kk (.lptr e x (o+off)) [] []
   |.c (.tptr b ver p i o)=>kk (.c (.tptr b ver p i (o+off))) [] []
   |_=>Yf
def Rq(i:Yh)(kk:Yn->Ya β):Yn->Yn->Ya β
 |_,0=>Yf
 |j,m+1=>Yk (Yd (i=(j:Yh))) (kk j) (Rq i kk (j+1) m)
def Af4(bl:Yn->Ya Blk)(n:Yn)(b ver:Yn)(p:Path)(i:Yh)(kk:K β):Ya β:=
 match p,bl b with
 |[],Yg (.tree _ e ver' _ (Yg (_::_)) l)=>
  bif Yo ver ver'&&(Yo e.ty.size n&&Y0 0 n)then DD (Yd (0<=i)&&Yd (i<(l.length:Yh))) (kk (.c (.tptr b ver [] i.toNat 0)) [b] [])else Yf
 |_,_=>Yf
def q8(T:Yr->Ya TI)(bl:Yn->Ya Blk)(t:Yr)(x ix:V)(kk:K β):Ya β:=
 match ival ix with
 |none=>Yf
 |some (_,i)=>
  match T t with
  |none=>Yf
  |some ti=>
   match ti.elem,ti.len with
   |some et,Yf=>
    match T et with
    |none=>Yf
    |some te=>
     match x with
     |.c (.list e l)=>
      bif Yo e.size te.size&&Y0 0 te.size then DD (Yd (0<=i)&&Yd (i<(l.length:Yh))) (kk (.lptr e (l.getD i.toNat e.dflt) 0) [] [])else Yf
     |.c (.row b ver)=>
      match bl b with
      |some (.row _ e ver' l)=>
       bif Yo ver ver'&&(Yo e.size te.size&&Y0 0 te.size)then DD (Yd (0<=i)&&Yd (i<(l.length:Yh))) (kk (.eptr b ver i.toNat 0) [b] [])else Yf
      |_=>Yf
     |.c (.sub b ver lo hi)=>
      match bl b with
      |some (.row _ e ver' _)=>
       bif Yo ver ver'&&(Yo e.size te.size&&Y0 0 te.size)then DD (Yd (0<=i)&&Yd (i<((hi-lo:Yn):Yh))) (kk (.eptr b ver (lo+i.toNat) 0) [b] [])else Yf
      |_=>Yf
     |.c (.trow b ver p)=>
      match Rp bl b ver p with
      |some a=>bif Yo a.2.2.2.2.1.2.ty.size te.size&&Y0 0 te.size then DD (Yd (0<=i)&&Yd (i<(a.2.2.2.2.2.length:Yh))) (kk (.c (.tptr b ver p i.toNat 0)) [b] [])else Yf
      |none=>Af4 bl te.size b ver p i kk
     |_=>Yf
   |some et,Yg n=>
    match x with
    |.c (.ptr b o)=>
     match T et with
     |some te=>Rq i (λj=>kk (.c (.ptr b (o+j*te.size))) [] []) 0 n
     |none=>Yf
    |.eptr b ver q o=>
     match T et with
     |some te=>Rq i (λj=>kk (.eptr b ver q (o+j*te.size)) [] []) 0 n
     |none=>Yf
    |_=>Yf
   |_,_=>Yf
def IV(v:Ya V)(d:Yh):Ya Yh:=
 match v with
 |none=>Yg d
 |some v=>
  match ival v with
  |some (_,n)=>Yg n
  |none=>Yf
def TZ(T:Yr->Ya TI)(bl:Yn->Ya Blk)(t:Yr)(x:V)(lo hi:Ya V)(kk:K β):Ya β:=
 match T t with
 |none=>Yf
 |some ti=>
  match x with
  |.c (.str s)=>
   bif ti.isStr then
    match IV lo 0,IV hi (s.length:Yh)with
    |some a,Yg b=>DD (Yd (0<=a)&&(Yd (a<=b)&&Yd (b<=(s.length:Yh)))) (kk (.c (.str ((s.take b.toNat).drop a.toNat))) [] [])
    |_,_=>Yf
   else Yf
  |.c (.list e l)=>
   match ti.elem,ti.len with
   |some et,Yf=>
    match T et with
    |none=>Yf
    |some te=>
     bif Yo e.size te.size&&Y0 0 te.size then
      match IV lo 0,IV hi (l.length:Yh)with
      |some a,Yg b=>DD (Yd (0<=a)&&(Yd (a<=b)&&Yd (b<=(l.length:Yh)))) (kk (.c (.list e ((l.take b.toNat).drop a.toNat))) [] [])
      |_,_=>Yf
     else Yf
   |_,_=>Yf
  |.c (.row bb ver)=>
   match ti.elem,ti.len with
   |some et,Yf=>
    match T et with
    |none=>Yf
    |some te=>
     match bl bb with
     |some (.row _ e ver' l)=>
      bif Yo ver ver'&&(Yo e.size te.size&&Y0 0 te.size)then
       match IV lo 0,IV hi (l.length:Yh)with
       |some a,Yg b=>DD (Yd (0<=a)&&(Yd (a<=b)&&Yd (b<=(l.length:Yh)))) (kk (.c (.sub bb ver a.toNat b.toNat)) [bb] [])
       |_,_=>Yf
      else Yf
     |_=>Yf
   |_,_=>Yf
  |.c (.sub bb ver i j)=>
   match ti.elem,ti.len with
   |some et,Yf=>
    match T et with
    |none=>Yf
    |some te=>
     match bl bb with
     |some (.row _ e ver' _)=>
      bif Yo ver ver'&&(Yo e.size te.size&&Y0 0 te.size)then
       match IV lo 0,IV hi ((j-i:Yn):Yh)with
       |some a,Yg b=>DD (Yd (0<=a)&&(Yd (a<=b)&&Yd (b<=((j-i:Yn):Yh)))) (kk (.c (.sub bb ver (i+a.toNat) (i+b.toNat))) [bb] [])
       |_,_=>Yf
      else Yf
     |_=>Yf
   |_,_=>Yf
  |.c (.ptr b o)=>
   match ti.elem,ti.len,lo,hi with
   |some et,Yg n,Yf,Yf=>
    match T et with
    |none=>Yf
    |some te=>
     match te.ty with
     |some e=>bif Yo e.size te.size&&Y0 0 n then kk (.arr b o e n) [] []else Yf
     |none=>Yf
   |_,_,_,_=>Yf
  |.c .nils=>
   match ti.elem,ti.len with
   |some et,Yf=>
    match T et with
    |none=>Yf
    |some _=>
     match IV lo 0,IV hi 0 with
     |some a,Yg b=>DD (Yd (0<=a)&&(Yd (a<=b)&&Yd (b<=(0:Yh)))) (kk (.c .nils) [] [])
     |_,_=>Yf
   |_,_=>Yf
  |_=>Yf
def q9(T:Yr->Ya TI)(bl:Yn->Ya Blk)(t:Yr)(x:V)(hi:Ya V)(kk:K β):Ya β:=
 match T t with
 |none=>Yf
 |some ti=>
  match ti.elem,ti.len with
  |some et,Yf=>
   match T et with
   |none=>Yf
   |some te=>
    match x with
    |.c (.row b ver)=>
     match bl b with
     |some (.row t0 e ver' l)=>
      bif Yo ver ver'&&(Yo e.size te.size&&Y0 0 te.size)then
       match IV hi (l.length:Yh)with
       |some m=>DD (Yd (0<=m)&&Yd (m<=(l.length:Yh))) (kk (.c (.row b (ver+1))) [b] [(b,.row t0 e (ver+1) (l.take m.toNat))])
       |none=>Yf
      else Yf
     |_=>Yf
    |_=>Yf
  |_,_=>Yf
def aX:V->Ys
 |.c (.row _ _)=>Yp
 |_=>Yi
def Ka(ti:TI):Ys:=
 match ti.elem,ti.len with
 |some _,Yf=>Yp
 |_,_=>Yi
def qC(T:Yr->Ya TI)(bl:Yn->Ya Blk)(t:Yr)(x:V)(kk:K β):Ya β:=
 match T t with
 |none=>Yf
 |some ti=>
  match x with
  |.c (.str s)=>bif ti.isStr then kk (.c (.int .i64 (s.length:Yh))) [] []else Yf
  |.c (.list _ l)=>bif Ka ti then kk (.c (.int .i64 (l.length:Yh))) [] []else Yf
  |.c .nils=>bif Ka ti then kk (.c (.int .i64 0)) [] []else Yf
  |.c (.row b ver)=>
   match bl b with
   |some (.row _ _ ver' l)=>bif Yo ver ver'&&Ka ti then kk (.c (.int .i64 (l.length:Yh))) [b] []else Yf
   |_=>Yf
  |.c (.sub b ver i j)=>
   match bl b with
   |some (.row _ _ ver' _)=>bif Yo ver ver'&&Ka ti then kk (.c (.int .i64 ((j-i:Yn):Yh))) [b] []else Yf
   |_=>Yf
  |.c (.trow b ver p)=>
   match Rp bl b ver p with
   |some a=>bif Ka ti then kk (.c (.int .i64 (a.2.2.2.2.2.length:Yh))) [b] []else Yf
   |none=>Yf
  |.c (.mapv b)=>
   match bl b,ti.mp with
   |some (.map _ _ _ _ l),Yg _=>kk (.c (.int .i64 (l.length:Yh))) [b] []
   |_,_=>Yf
  |_=>Yf
def FT(tk:TI):Ty->Ys
 |.bool=>tk.isBool
 |.int k=>decide (tk.kind=Yg k)
 |.str=>tk.isStr
 |.prod (.int _) (.int _)=>
  match tk.eqs,tk.len with
  |some [.i,.i],Yg 2=>Yp
  |_,_=>Yi
 |_=>Yi
def J1:(k:Ty)->k.den->k.den->Ys
 |.bool,a,b=>a==b
 |.int _,a,b=>decide (a=b)
 |.str,a,b=>decide (a=b)
 |.prod (.int _) (.int _),a,b=>decide (a.1=b.1)&&Yd (a.2=b.2)
 |_,_,_=>Yi
def J2:(k:Ty)->V->Ya k.den
 |.bool,.c (.bool b)=>Yg b
 |.int k,.c (.int k' n)=>if k=k' then Yg n else Yf
 |.str,.c (.str s)=>Yg s
 |.prod (.int k) (.int k2),.agg [.int j n,.int j2 n2]=>if k=j/\k2=j2 then Yg (n,n2)else Yf
 |_,_=>Yf
def mGet(k:Ty){δ:Type}:Ye (k.den×δ)->k.den->δ->δ
 |[],_,d=>d
 |y::r,x,d=>bif J1 k y.1 x then y.2 else mGet k r x d
def mHas(k:Ty){δ:Type}:Ye (k.den×δ)->k.den->Ys
 |[],_=>Yi
 |y::r,x=>bif J1 k y.1 x then Yp else mHas k r x
def mPut(k:Ty){δ:Type}:Ye (k.den×δ)->k.den->δ->Ye (k.den×δ)
 |[],x,v=>[(x,v)]
 |y::r,x,v=>bif J1 k y.1 x then(x,v)::r else y::mPut k r x v
def qD(T:Yr->Ya TI)(ti:TI)(cs:Ye C)(i:Yh)(kk:K β):Ya β:=
 match ti.elem,ti.len with
 |some et,Yg n=>
  match T et with
  |some te=>
   match te.ty with
   |some e=>
    match JZ (λ_=>Yf) e n cs with
    |some l=>bif Yo e.size te.size&&(te.agg||Yo te.size 1)then DD (Yd (0<=i)&&Yd (i<(l.length:Yh))) (kk (V.mk te.agg (cells e (l.getD i.toNat e.dflt))) [] [])else Yf
    |none=>Yf
   |none=>Yf
  |none=>Yf
 |_,_=>Yf
def qE(T:Yr->Ya TI)(bl:Yn->Ya Blk)(nx:Yn)(t:Yr)(kk:K β):Ya β:=
 match T t with
 |none=>Yf
 |some ti=>
  match ti.mp with
  |none=>Yf
  |some (kt,vt)=>
   match T kt,T vt with
   |some tk,Yg tv=>
    match tk.ty,tv.ty,bl nx with
    |some .str,Yf,Yf=>kk (.c (.mapv nx)) [nx] [(nx,.fmap t [])]
    |some k,Yg v,Yf=>bif FT tk k then kk (.c (.mapv nx)) [nx] [(nx,.map t k v tv.agg [])]else Yf
    |_,_,_=>Yf
   |_,_=>Yf
def fHas:Ye (Ye Yj×(YA×Yn))->Ye Yj->Ys
 |[],_=>Yi
 |x::r,s=>decide (x.1=s)||fHas r s
def Ps(kk:YA×Yn->Ya β):Ye (Ye Yj×(YA×Yn))->Ye Yj->Ya β
 |[],_=>Yf
 |x::r,s=>Yk (Yd (x.1=s)) (kk x.2) (Ps kk r s)
def fKey(T:Yr->Ya TI)(t:Yr):Ys:=
 match T t with
 |some ti=>
  match ti.mp with
  |some (kt,_)=>
   match T kt with
   |some tk=>FT tk .str
   |none=>Yi
  |none=>Yi
 |none=>Yi
def qF(T:Yr->Ya TI)(bl:Yn->Ya Blk)(t:Yr)(x ix:V)(commaOk:Ys)(kk:K β):Ya β:=
 bif fKey T t then
 match x,ix,commaOk with
 |.c (.mapv b),.c (.str s),Yi=>
  match bl b with
  |some (.fmap _ l)=>Ps (λy=>kk (.c (.bfn y.1 y.2)) [b] []) l s
  |_=>Yf
 |_,_,_=>Yf
 else Yf
def qG(T:Yr->Ya TI)(bl:Yn->Ya Blk)(t:Yr)(x ix y:V)(kk:K β):Ya β:=
 bif fKey T t then
 match x,ix,y with
 |.c (.mapv b),.c (.str s),.c (.bfn f rb)=>
  match bl b with
  |some (.fmap t l)=>DD (!fHas l s) (kk .junk [b] [(b,.fmap t (l++[(s,(f,rb))]))])
  |_=>Yf
 |_,_,_=>Yf
 else Yf
def Af5(bl:Yn->Ya Blk):V->Ys
 |.c (.mapv b)=>
  match bl b with
  |some (.fmap _ _)=>Yp
  |_=>Yi
 |_=>Yi
def qH(T:Yr->Ya TI)(bl:Yn->Ya Blk)(t:Yr)(x ix:V)(commaOk:Ys)(kk:K β):Ya β:=
 match T t with
 |none=>Yf
 |some ti=>
  match ti.mp with
  |none=>Yf
  |some (kt,vt)=>
   match T kt,T vt with
   |some tk,Yg tv=>
    match x with
    |.c (.mapv b)=>
     match bl b with
     |some (.map _ k v vg l)=>
      bif FT tk k&&(vg||Yo v.size 1)&&(vg==tv.agg)then
       match J2 k ix,LF (λ_=>Yf) v tv.zero with
       |some key,Yg z=>
        kk (bif commaOk then .tup [(vg,cells v (mGet k l key z)),(Yi,[.bool (mHas k l key)])]else V.mk vg (cells v (mGet k l key z))) [b] []
       |_,_=>Yf
      else Yf
     |_=>Yf
    |_=>Yf
   |_,_=>Yf
def Ua:V->Ya Ys
 |.c _=>Yg Yi
 |.agg _=>Yg Yp
 |_=>Yf
def qI(T:Yr->Ya TI)(bl:Yn->Ya Blk)(t:Yr)(x ix y:V)(kk:K β):Ya β:=
 match T t with
 |none=>Yf
 |some ti=>
  match ti.mp with
  |none=>Yf
  |some (kt,_)=>
   match T kt with
   |none=>Yf
   |some tk=>
    match x,y.cells with
    |.c (.mapv b),Yg cs=>
     match bl b with
     |some (.map t' k v vg l)=>
      bif FT tk k&&Yd (Ua y=Yg vg)then
       match J2 k ix,LF (λ_=>Yf) v cs with
       |some key,Yg z=>kk .junk [b] [(b,.map t' k v vg (mPut k l key z))]
       |_,_=>Yf
      else Yf
     |_=>Yf
    |_,_=>Yf
def AR:Yn:=140737488355328
def Rr(bl:Yn->Ya Blk)(e:Ty):V->Ya (Ye e.den×Ye Yn)
 |.c .nils=>Yg ([],[])
 |.c (.list e' l)=>if h:e'=e then Yg (h▸l,[])else Yf
 |.c (.lsome e' l)=>if h:e'=e then Yg (h▸l,[])else Yf
 |.c (.row b ver)=>(IU bl b ver e).map λl=>(l,[b])
 |.c (.sub b ver i j)=>(IU bl b ver e).map λl=>((l.take j).drop i,[b])
 |_=>Yf
def qJ(T:Yr->Ya TI)(bl:Yn->Ya Blk)(t:Yr)(x y:V)(kk:K β):Ya β:=
 match T t with
 |none=>Yf
 |some ti=>
  match ti.elem,ti.len with
  |some et,Yf=>
   match T et with
   |none=>Yf
   |some te=>
    match te.ty with
    |none=>Yf
    |some e=>
     bif Yo e.size te.size&&Y0 0 te.size then
     match Rr bl e y with
     |none=>Yf
     |some (new,rd)=>
      match x with
      |.c (.sub b ver i j)=>
       match bl b with
       |some (.row t0 e0 ver' l)=>
        bif Yo ver ver' then
         if h:e0=e then
          kk (.c (.int .i64 ((YV new.length (j-i):Yn):Yh))) (b::rd) [(b,.row t0 e ver' ((h▸l:Ye e.den).take i++(new.take (j-i)++(h▸l:Ye e.den).drop (i+YV new.length (j-i)))))]
         else Yf
        else Yf
       |_=>Yf
      |.c (.row b ver)=>
       match bl b with
       |some (.row t0 e0 ver' l)=>
        bif Yo ver ver' then
         if h:e0=e then
          kk (.c (.int .i64 ((YV new.length l.length:Yn):Yh))) (b::rd) [(b,.row t0 e ver' (new.take l.length++(h▸l:Ye e.den).drop (YV new.length l.length)))]
         else Yf
        else Yf
       |_=>Yf
      |_=>Yf
     else Yf
  |_,_=>Yf
def qK(T:Yr->Ya TI)(bl:Yn->Ya Blk)(t:Yr)(x:V)(kk:K β):Ya β:=
 match T t with
 |none=>Yf
 |some ti=>
  match ti.elem,ti.len with
  |some et,Yf=>
   match T et with
   |none=>Yf
   |some te=>
    match te.ty with
    |none=>Yf
    |some e=>
     bif Yo e.size te.size&&Y0 0 te.size then
     match LF (λ_=>Yf) e te.zero with
     |none=>Yf
     |some z=>
      match x with
      |.c (.sub b ver i j)=>
       match bl b with
       |some (.row t0 e0 ver' l)=>
        bif Yo ver ver' then
         if h:e0=e then kk (.tup []) [b] [(b,.row t0 e ver' ((h▸l:Ye e.den).take i++(Y8 (j-i) z++(h▸l:Ye e.den).drop j)))]
         else Yf
        else Yf
       |_=>Yf
      |_=>Yf
     else Yf
  |_,_=>Yf
def qL(T:Yr->Ya TI)(t:Yr)(x:V)(kk:K β):Ya β:=
 match T t with
 |none=>Yf
 |some ti=>
  match ti.elem,ti.len,x with
  |some _,Yf,.c .nils=>kk (.c (.int .i64 0)) [] []
  |_,_,_=>Yf
def qM(T:Yr->Ya TI)(bl:Yn->Ya Blk)(nx:Yn)(t:Yr)(x y:V)(kk:K β):Ya β:=
 match T t with
 |none=>Yf
 |some ti=>
  match ti.elem,ti.len with
  |some et,Yf=>
   match T et with
   |none=>Yf
   |some te=>
    match te.ty with
    |none=>Yf
    |some e=>
     bif Yo e.size te.size&&(Y0 0 te.size&&Y0 0 te.bytes)then
     match Rr bl e y with
     |none=>Yf
     |some (new,rd)=>
      match x with
      |.c .nils=>
       match bl nx with
       |none=>DD (Yd (new.length*te.bytes<=AR)) (kk (.c (.row nx 0)) (nx::rd) [(nx,.row et e 0 new)])
       |some _=>Yf
      |.c (.row b ver)=>
       match bl b with
       |some (.row t0 e0 ver' l)=>
        bif Yo ver ver'&&Yo t0 et then
         if h:e0=e then DD (Yd (((l.length+new.length)*te.bytes)<=AR)) (kk (.c (.row b (ver+1))) (b::rd) [(b,.row t0 e (ver+1) ((h▸l)++new))])
         else Yf
        else Yf
       |_=>Yf
      |_=>Yf
     else Yf
  |_,_=>Yf
def srcT(bl:Yn->Ya Blk)(t:Yr)(e:OT)(y:V):Ya (Ye e.ty.den×(Ye Yn×Ye Yn)):=
 match e with
 |.d τ=>
  match Rr bl τ y with
  |some z=>Yg (z.1,z.2,[])
  |none=>Yf
 |e=>
  match TY bl y with
  |some (r,m)=>if h:m.1=(t,e)then Yg ((show m.1.2=e from Aw (·.2) h)▸m.2,[r],[r])else Yf
  |none=>Yf
def dead:Ye Yn->Ye (Yn×Blk)
 |[]=>[]
 |i::r=>(i,.dead)::dead r
def aY:V->Ys
 |.c (.trow _ _ _)=>Yp
 |_=>Yi
def qN(X:Ye (Yr×OT))(T:Yr->Ya TI)(bl:Yn->Ya Blk)(nx:Yn)(t:Yr)(x y:V)(kk:K β):Ya β:=
 match T t with
 |none=>Yf
 |some ti=>
  match ti.elem,ti.len with
  |some et,Yf=>
   match T et with
   |none=>Yf
   |some te=>
    match x with
    |.c .nils=>
     match look X et with
     |none=>Yf
     |some e=>
      bif Yo e.ty.size te.size&&(Y0 0 te.size&&Y0 0 te.bytes)then
       match srcT bl et e y,bl nx with
       |some (new,rd,dd),Yf=>DD (Yd (new.length*te.bytes<=AR)) (kk (.c (.trow nx 0 [])) (nx::rd) (dead dd++[(nx,.tree et e 0 0 Yf new)]))
       |_,_=>Yf
      else Yf
    |.c (.trow b ver [])=>
     match bl b with
     |some (.tree t0 e ver' Ah Yf l)=>
      bif Yo ver ver'&&(Yo t0 et&&(Yo e.ty.size te.size&&(Y0 0 te.size&&Y0 0 te.bytes)))then
       match srcT bl t0 e y with
       |some (new,rd,dd)=>DD (!memB b rd&&Yd (((l.length+new.length)*te.bytes)<=AR)) (kk (.c (.trow b (ver'+1) [])) (b::rd) (dead dd++[(b,.tree t0 e (ver'+1) Ah Yf (l++new))]))
       |none=>Yf
      else Yf
     |_=>Yf
    |.c (.trow b ver (i::q))=>
     match Rp bl b ver (i::q)with
     |none=>Yf
     |some a=>
      bif Yo a.2.2.2.2.1.1 et&&(Yo a.2.2.2.2.1.2.ty.size te.size&&(Y0 0 te.size&&Y0 0 te.bytes))then
       match srcT bl a.2.2.2.2.1.1 a.2.2.2.2.1.2 y,bl nx with
       |some (new,rd,dd),Yf=>
        DD (!memB b rd&&Yd (((a.2.2.2.2.2.length+new.length)*te.bytes)<=AR)) (kk (.c (.trow nx 0 [])) (nx::b::rd) (dead dd++[(b,.tree a.1.1 a.1.2 a.2.2.1 a.2.2.2.1 (Yg (i::q)) a.2.1),(nx,.tree a.2.2.2.2.1.1 a.2.2.2.2.1.2 0 0 Yf (a.2.2.2.2.2++new))]))
       |_,_=>Yf
      else Yf
    |_=>Yf
  |_,_=>Yf
def Af6(X:Ye (Yr×OT))(T:Yr->Ya TI)(t:Yr):Ys:=
 match T t with
 |some ti=>
  match ti.elem,ti.len with
  |some et,Yf=>
   match look X et with
   |some _=>Yp
   |none=>Yi
  |_,_=>Yi
 |none=>Yi
def M8(bl:Yn->Ya Blk):(o:OT)->Ye C->Ya (o.ty.den×(Ye C×Ye Yn))
 |.d τ,cs=>
  match pack (λ_=>Yf) τ cs with
  |some (x,r)=>Yg (x,r,[])
  |none=>Yf
 |.p a b,cs=>
  match M8 bl a cs with
  |none=>Yf
  |some (x,r1,i1)=>
   match M8 bl b r1 with
   |none=>Yf
   |some (y,r2,i2)=>Yg ((x,y),r2,i1++i2)
 |.r t e,c::r=>
  match c with
  |.nils=>Yg (([]:Ye e.ty.den),r,[])
  |c=>
   match TY bl (.c c)with
   |some (b,m)=>if h:m.1=(t,e)then Yg ((show m.1.2=e from Aw (·.2) h)▸m.2,r,[b])else Yf
   |none=>Yf
 |.r _ _,[]=>Yf
def Af7(X:Ye (Yr×OT))(T:Yr->Ya TI)(bl:Yn->Ya Blk)(t:Yr):Ye (Yn×V)->Ys
 |[(_,v)]=>
  match T t,v.cells with
  |some ti,Yg cs=>
   match ti.elem with
   |some et=>
    match look X et with
    |some e=>(M8 bl e cs).isSome
    |none=>Yi
   |none=>Yi
  |_,_=>Yi
 |_=>Yi
def qO(X:Ye (Yr×OT))(T:Yr->Ya TI)(bl:Yn->Ya Blk)(nx:Yn)(t:Yr)(n:Yn)(parts:Ye (Yn×V))(kk:K β):Ya β:=
 match parts with
 |[(0,v)]=>
  match T t,v.cells with
  |some ti,Yg cs=>
   match ti.elem,ti.len with
   |some et,Yf=>
    match T et,look X et,bl nx with
    |some te,Yg e,Yf=>
     match M8 bl e cs with
     |some (x,[],ids)=>bif Yo n 1&&(Yo cs.length te.size&&(Yo e.ty.size te.size&&(Y0 0 te.size&&(YI te.size 16777216&&JX ids))))then kk (.c (.trow nx 0 [])) (nx::ids) (dead ids++[(nx,.tree et e 0 0 Yf [x])])else Yf
     |_=>Yf
    |_,_,_=>Yf
   |_,_=>Yf
  |_,_=>Yf
 |_=>Yf
def qP(T:Yr->Ya TI)(bl:Yn->Ya Blk)(nx:Yn)(t u:Yr)(x y:V)(kk:K β):Ya β:=
 match T t,T u,ival y with
 |some ti,Yg tu,Yg (_,m)=>
  match x with
  |.c .nils=>
   match ti.elem,ti.len,tu.kind with
   |some et,Yf,Yg _=>
    match T et with
    |none=>Yf
    |some te=>
     match te.ty with
     |none=>Yf
     |some e=>
      match LF (λ_=>Yf) e te.zero,bl nx with
      |some z,Yf=>
       bif Yo e.size te.size&&(Y0 0 te.size&&Y0 0 te.bytes)then
        DD (Yd (0<=m)&&Yd (m.toNat*te.bytes<=AR)) (kk (.c (.row nx 0)) [nx] [(nx,.row et e 0 (Y8 m.toNat z))])
       else Yf
      |_,_=>Yf
   |_,_,_=>Yf
  |_=>Yf
 |_,_,_=>Yf
def Ub(isMax:Ys)(k:YT):Yh->Ye V->Ya V
 |a,[]=>Yg (.c (.int k a))
 |a,.c (.int k' b)::r=>if k=k' then Ub isMax k (bif isMax then(if b>a then b else a)else(if b<a then b else a)) r else Yf
 |_,_::_=>Yf
def aZ(isMax:Ys):Ye V->Ya V
 |.c (.int k a)::r=>Ub isMax k a r
 |_=>Yf
def Kb:Ye CT->Ye C->Ye (Yn×Yn)
 |.data τ::l,cs=>Kb l (cs.drop τ.size)
 |.ptr b _::l,.ptr b' _::cs=>(b,b')::Kb l cs
 |.rowh b::l,.row b' _::cs=>(b,b')::Kb l cs
 |.fn _ BS::l,.fn _ Ia::cs=>BS.zip Ia++Kb l cs
 |.maph b::l,.mapv b'::cs=>(b,b')::Kb l cs
 |.bfnh _ b::l,.bfn _ b'::cs=>(b,b')::Kb l cs
 |.math b::l,.mat b' _::cs=>(b,b')::Kb l cs
 |.trowh b::l,.trow b' _ _::cs=>(b,b')::Kb l cs
 |.tptrh b _ _::l,.tptr b' _ _ _ _::cs=>(b,b')::Kb l cs
 |_::l,_::cs=>Kb l cs
 |_,_=>[]
def Uc:Ye (Ys×Ye CT)->Ye V->Ye (Yn×Yn)
 |t::ts,v::vs=>
  match v.cells with
  |some cs=>Kb t.2 cs++Uc ts vs
  |none=>Uc ts vs
 |_,_=>[]
def Ud(ps:Ye (Yn×Yn)):Yn->Yn->Ya (Ye Yn)
 |_,0=>Yg []
 |j,n+1=>
  match look ps j,Ud ps (j+1) n with
  |some b,Yg r=>Yg (b::r)
  |_,_=>Yf
def wayP:(ks:Ye Yn)->WayT ks->Path
 |[],_=>[]
 |k::r,x=>(x.1,k)::wayP r x.2
def wayI:(ks:Ye Yn)->WayT ks->Yn
 |[],x=>x
 |_::r,x=>wayI r x.2
def Pt(i:Yn):(ks:Ye Yn)->Path->Ya (WayT ks)
 |[],[]=>Yg i
 |k::r,(j,m)::p=>
  bif Yo k m then
   match Pt i r p with
   |some x=>Yg (j,x)
   |none=>Yf
  else Yf
 |_,_=>Yf
def Bn(bl:Yn->Ya Blk)(ids:Ye Yn):(l:Ye CT)->Ye C->Ya (CT.dens l)
 |[],[]=>Yg ()
 |.data τ::l,cs=>
  match pack bl τ cs with
  |none=>Yf
  |some (x,r)=>
   match Bn bl ids l r with
   |none=>Yf
   |some y=>Yg (x,y)
 |.ptr b o::l,.ptr b' o'::cs=>
  match ids[b]? with
  |some i=>bif Yo i b'&&Yo o o' then Bn bl ids l cs else Yf
  |none=>Yf
 |.rowh b::l,.row b' ver::cs=>
  match ids[b]? with
  |some i=>
   bif Yo i b' then
    match bl b' with
    |some (.row _ _ ver' _)=>bif Yo ver ver' then Bn bl ids l cs else Yf
    |_=>Yf
   else Yf
  |none=>Yf
 |.rowh b::l,.nils::cs=>
  match ids[b]? with
  |some i=>
   match bl i with
   |none=>Bn bl ids l cs
   |some _=>Yf
  |none=>Yf
 |.fn f BS::l,.fn f' Ia::cs=>bif Yo f f'&&Yd (BS.map (ids[·]?)=Ia.map Yg)then Bn bl ids l cs else Yf
 |.maph b::l,.mapv b'::cs=>
  match ids[b]? with
  |some i=>bif Yo i b' then Bn bl ids l cs else Yf
  |none=>Yf
 |.math b::l,.mat b' ver::cs=>
  match ids[b]? with
  |some i=>
   bif Yo i b' then
    match bl b' with
    |some (.mat _ _ _ ver' _ Yf _)=>bif Yo ver ver' then Bn bl ids l cs else Yf
    |_=>Yf
   else Yf
  |none=>Yf
 |.math b::l,.nils::cs=>
  match ids[b]? with
  |some i=>
   match bl i with
   |none=>Bn bl ids l cs
   |some _=>Yf
  |none=>Yf
 |.trowh b::l,.trow b' ver []::cs=>
  match ids[b]? with
  |some i=>
   bif Yo i b' then
    match bl b' with
    |some (.tree _ _ ver' _ Yf _)=>bif Yo ver ver' then Bn bl ids l cs else Yf
    |_=>Yf
   else Yf
  |none=>Yf
 |.tptrh b ks o::l,.tptr b' ver p i o'::cs=>
  match ids[b]? with
  |some j=>
   bif Yo j b'&&Yo o o' then
    match bl b' with
    |some (.tree _ _ ver' B8 Yf _)=>
     bif Yo ver (tv ver' B8 p)then
      match Pt i ks p with
      |some x=>
       match Bn bl ids l cs with
       |some y=>Yg (x,y)
       |none=>Yf
      |none=>Yf
     else Yf
    |_=>Yf
   else Yf
  |none=>Yf
 |.trowh b::l,.nils::cs=>
  match ids[b]? with
  |some i=>
   match bl i with
   |none=>Bn bl ids l cs
   |some _=>Yf
  |none=>Yf
 |.bself b::l,.bself b'::cs=>
  match ids[b]? with
  |some i=>bif Yo i b' then Bn bl ids l cs else Yf
  |none=>Yf
 |.bself _::l,.nilp::cs=>Bn bl ids l cs
 |.bfnh f b::l,.bfn f' b'::cs=>
  match ids[b]? with
  |some i=>bif Yo f f'&&Yo i b' then Bn bl ids l cs else Yf
  |none=>Yf
 |.junk::l,_::cs=>Bn bl ids l cs
 |.nils::l,.nils::cs=>Bn bl ids l cs
 |_,_=>Yf
def Hv(bl:Yn->Ya Blk)(ids:Ye Yn):(l:Ye (Ys×Ye CT))->Ye V->Ya (ST.dens l)
 |[],[]=>Yg ()
 |t::l,v::vs=>
  match v,t.1 with
  |.c x,Yi=>
   match Bn bl ids t.2 [x]with
   |none=>Yf
   |some y=>
    match Hv bl ids l vs with
    |none=>Yf
    |some z=>Yg (y,z)
  |.agg cs,Yp=>
   match Bn bl ids t.2 cs with
   |none=>Yf
   |some y=>
    match Hv bl ids l vs with
    |none=>Yf
    |some z=>Yg (y,z)
  |_,_=>Yf
 |_,_=>Yf
def GB(bl:Yn->Ya Blk)(ids:Ye Yn):(l:Ye BT)->Ye Yn->Ya (BT.dens l)
 |[],[]=>Yg ()
 |.cells t l::r,i::is=>
  match bl i with
  |some (.cells t' cs)=>
   bif Yo t t' then
    match Bn bl ids l cs with
    |none=>Yf
    |some y=>
     match GB bl ids r is with
     |none=>Yf
     |some z=>Yg (y,z)
   else Yf
  |_=>Yf
 |_,_=>Yf
def mkC(ids:Ye Yn):(l:Ye CT)->CT.dens l->Ye C
 |[],_=>[]
 |.data τ::l,x=>cells τ x.1++mkC ids l x.2
 |.ptr b o::l,x=>.ptr (ids.getD b 0) o::mkC ids l x
 |.rowh b::l,x=>.row (ids.getD b 0) 0::mkC ids l x
 |.fn f BS::l,x=>.fn f (BS.map λb=>ids.getD b 0)::mkC ids l x
 |.maph b::l,x=>.mapv (ids.getD b 0)::mkC ids l x
 |.math b::l,x=>.mat (ids.getD b 0) 0::mkC ids l x
 |.bself b::l,x=>.bself (ids.getD b 0)::mkC ids l x
 |.bfnh f b::l,x=>.bfn f (ids.getD b 0)::mkC ids l x
 |.trowh b::l,x=>.trow (ids.getD b 0) 0 []::mkC ids l x
 |.tptrh b ks o::l,x=>.tptr (ids.getD b 0) 0 (wayP ks x.1) (wayI ks x.1) o::mkC ids l x.2
 |.nilc::l,x=>.nilc::mkC ids l x
 |.nils::l,x=>.nils::mkC ids l x
 |.lsome e::l,x=>.lsome e x.1::mkC ids l x.2
 |.junk::l,x=>.junk::mkC ids l x
def mkS(ids:Ye Yn):(l:Ye (Ys×Ye CT))->ST.dens l->Ye (Ys×Ye C)
 |[],_=>[]
 |t::l,x=>(t.1,mkC ids t.2 x.1)::mkS ids l x.2
def fIds(ids:Ye Yn):Ye (Ye Yj×(YA×Yn))->Ye (Ye Yj×(YA×Yn))
 |[]=>[]
 |x::r=>(x.1,(x.2.1,ids.getD x.2.2 0))::fIds ids r
def mkB(ids:Ye Yn):(l:Ye BT)->BT.dens l->Ye Blk
 |[],_=>[]
 |.cells t l::r,x=>.cells t (mkC ids l x.1)::mkB ids r x.2
 |.row t e::r,x=>.row t e 0 x.1::mkB ids r x.2
 |.map t k v vg::r,x=>.map t k v vg x.1::mkB ids r x.2
 |.mat t et e::r,x=>.mat t et e 0 0 Yf x.1::mkB ids r x.2
 |.tree t e::r,x=>.tree t e 0 0 Yf x.1::mkB ids r x.2
 |.fmap t l::r,x=>.fmap t (fIds ids l)::mkB ids r x
def resV:Ye (Ys×Ye C)->V
 |[t]=>V.mk t.1 t.2
 |ts=>.tup ts
def CT.flat:Ye CT->Ys
 |[]=>Yp
 |.data τ::r=>τ.flat&&CT.flat r
 |.lsome _::_=>Yi
 |_::r=>CT.flat r
def ST.flat:Ye (Ys×Ye CT)->Ys
 |[]=>Yp
 |t::r=>CT.flat t.2&&ST.flat r
def BT.flat:Ye BT->Ys
 |[]=>Yp
 |.cells _ l::r=>CT.flat l&&BT.flat r
 |.row _ e::r=>e.flat&&BT.flat r
 |.map _ k v _::r=>k.flat&&(v.flat&&BT.flat r)
 |.mat _ _ e::r=>e.flat&&BT.flat r
 |.tree _ e::r=>e.flat&&BT.flat r
 |.fmap _ _::r=>BT.flat r
def CI:Ye V->Ye Yn
 |[]=>[]
 |v::vs=>
  match v.cells with
  |some cs=>CE cs++CI vs
  |none=>CI vs
def AP:Yn->Yn->Ye Yn
 |_,0=>[]
 |i,n+1=>i::AP (i+1) n
def Rs(bl:Yn->Ya Blk):Ye Yn->Ys
 |[]=>Yp
 |i::r=>
  match bl i with
  |none=>Rs bl r
  |some _=>Yi
def Kc(bl:Yn->Ya Blk):Ye Yn->Ye Yn
 |[]=>[]
 |i::r=>
  match bl i with
  |some (.cells _ cs)=>CE cs++Kc bl r
  |_=>Kc bl r
def CT.bnd(m:Yn):Ye CT->Ys
 |[]=>Yp
 |.ptr b _::r|.rowh b::r|.maph b::r|.math b::r|.bself b::r|.bfnh _ b::r|.trowh b::r|.tptrh b _ _::r=>Y0 b m&&CT.bnd m r
 |.fn _ BS::r=>BS.all (λb=>Y0 b m)&&CT.bnd m r
 |.data _::r|.nilc::r|.nils::r|.lsome _::r|.junk::r=>CT.bnd m r
def ST.bnd(m:Yn):Ye (Ys×Ye CT)->Ys
 |[]=>Yp
 |t::r=>CT.bnd m t.2&&ST.bnd m r
def BT.bnd(m:Yn):Ye BT->Ys
 |[]=>Yp
 |.cells _ l::r=>CT.bnd m l&&BT.bnd m r
 |.row _ _::r=>BT.bnd m r
 |.map _ _ _ _::r=>BT.bnd m r
 |.mat _ _ _::r=>BT.bnd m r
 |.tree _ _::r=>BT.bnd m r
 |.fmap _ l::r=>l.all (λe=>Y0 e.2.2 m)&&BT.bnd m r
def Rt(S:Spec)(bl:Yn->Ya Blk)(rds:Ye Yn):Ye (Yn×Blk):=
 bif ST.flat S.res&&BT.flat S.outs then []else
  rds.filterMap λb=>
   match bl b with
   |some (.row _ _ _ _)=>Yg (b,.dead)
   |some (.tree _ _ _ _ _ _)=>Yg (b,.dead)
   |_=>Yf
def qQ(S:Spec)(bl:Yn->Ya Blk)(ids new:Ye Yn):Ys:=
 JX ids&&((Rs bl new&&(YI S.ins.length S.outs.length&&(ST.bnd S.outs.length S.res&&BT.bnd S.outs.length S.outs))))
def qR(F:RowF)(args:Ye V):Ya (Yn×Yn):=
 match args,F.fn with
 |[.c (.row b ver)],Yf=>Yg (b,ver)
 |[.c (.row b ver),.c (.fn g [])],Yg g'=>bif Yo g g' then Yg (b,ver)else Yf
 |_,_=>Yf
def qS(F:RowF)(bl:Yn->Ya Blk)(args:Ye V)(kk:K β):Ya β:=
 match qR F args with
 |some (b,ver)=>
  match bl b with
  |some (.row t e ver' l)=>
   bif Yo ver ver'&&Yo t F.t then
    if h:e=F.e then
     DD (F.dom (h▸l))
      (bif F.cut then kk (.c (.row b (ver+1))) [b] [(b,.row t F.e (ver+1) (F.run (h▸l)))]else kk (.tup []) [b] [(b,.row t F.e ver (F.run (h▸l)))])
    else Yf
   else Yf
  |_=>Yf
 |none=>Yf
def Hc(l:Ye Yh):Ye Yj:=l.map λn=>UInt8.ofNat n.toNat
def Du(s:Ye Yj):Ye Yh:=s.map λb=>(b.toNat:Yh)
def NF(l:Ye Yh):Ys:=l.all λn=>decide (0<=n)&&Yd (n<=255)
def Ue:C->Yn->Ys
 |.nilp,_=>Yp
 |.bself b,i=>Yo b i
 |_,_=>Yi
def Uf(F:BldF)(bl:Yn->Ya Blk)(i:Yn):Ya (Ya (Yn×Yn)×Ye Yh):=
 match bl i with
 |some (.cells t [p,q])=>
  bif Yo t F.t&&Ue p i then
   match q with
   |.nils=>Yg (Yf,[])
   |.row j ver=>
    match bl j with
    |some (.row te (.int .u8) ver' l)=>bif Yo te F.te&&Yo ver ver' then Yg (Yg (j,ver),l)else Yf
    |_=>Yf
   |_=>Yf
  else Yf
 |_=>Yf
def Af8(bl:Yn->Ya Blk)(i:Yn):Ys:=
 match bl i with
 |none=>Yp
 |some _=>Yi
def wrote(s:Ye Yj):V:=.tup [(Yi,[.int .i64 (s.length:Yh)]),(Yi,[.err Yp])]
def qT(F:BldF)(bl:Yn->Ya Blk)(nx:Yn)(args:Ye V)(kk:K β):Ya β:=
 match F.op,args with
 |0,[.c (.ptr i 0),.c (.str s)]=>
  match Uf F bl i with
  |some (Yf,_)=>
   DD (Af8 bl nx) (DD (Yd (s.length<=140737488355328)) (kk (wrote s) [i,nx] [(nx,.row F.te (.int .u8) 0 (Du s)),(i,.cells F.t [.bself i,.row nx 0])]))
  |some (Yg (j,ver),l)=>
   DD (Yd (l.length+s.length<=140737488355328)) (kk (wrote s) [i,j] [(j,.row F.te (.int .u8) (ver+1) (l++Du s)),(i,.cells F.t [.bself i,.row j (ver+1)])])
  |none=>Yf
 |1,[.c (.ptr i 0)]=>
  match Uf F bl i with
  |some (Yf,_)=>kk (.c (.str [])) [i] []
  |some (Yg (j,_),l)=>DD (NF l) (kk (.c (.str (Hc l))) [i,j] [(j,.dead)])
  |none=>Yf
 |2,[.c (.ptr i 0)]=>
  match Uf F bl i with
  |some (Yf,_)=>kk (.c (.int .i64 0)) [i] []
  |some (Yg (j,_),l)=>kk (.c (.int .i64 (l.length:Yh))) [i,j] []
  |none=>Yf
 |3,[.c .nils,.c (.str _)]=>kk (.c (.str [])) [] []
 |3,[.c (.row j ver),.c (.str sep)]=>
  match bl j with
  |some (.row t .str ver' l)=>
   bif Yo t F.t&&Yo ver ver' then
    DD (Yd (l.length<=140737488355328)&&Yd ((Yay l sep).length<=140737488355328)) (kk (.c (.str (Yay l sep))) [j] [])
   else Yf
  |_=>Yf
 |_,_=>Yf
def LH(bl:Yn->Ya Blk):Yn->Ya Blk:=λi=>
 match bl i with
 |some (.mat _ _ _ _ _ _ _)=>Yf
 |B=>B
def Ru(bl:Yn->Ya Blk):V->V
 |.arr b o e n=>
  match bl b with
  |some (.cells _ cs)=>
   match sub cs o (n*e.size)with
   |some ds=>
    match JZ (λ_=>Yf) e n ds with
    |some l=>bif YI n 4096&&Y0 0 e.size then .c (.list e l)else .junk
    |none=>.junk
   |none=>.junk
  |_=>.junk
 |v=>v
def M9:Ye V->Ye Yn
 |[]=>[]
 |.arr b _ _ _::r=>b::M9 r
 |_::r=>M9 r
def Ug(S:Spec)(ids:Ye Yn):Ye Yn->Ys
 |[]=>Yp
 |b::r=>(ST.flat S.res&&BT.flat S.outs)&&(!memB b ids&&Ug S ids r)
def NG:Ye CT->Ye C->Ye C
 |.junk::l,_::cs=>.junk::NG l cs
 |.data τ::l,cs=>cs.take τ.size++NG l (cs.drop τ.size)
 |_::l,c::cs=>c::NG l cs
 |_,cs=>cs
def Ats:Ye CT->V->V
 |l,.agg cs=>.agg (NG l cs)
 |_,v=>v
def Uh:Ye (Ys×Ye CT)->Ye V->Ye V
 |t::ts,v::vs=>Ats t.2 v::Uh ts vs
 |_,vs=>vs
def Rv(S:Spec)(bl:Yn->Ya Blk)(args:Ye V):Ye V:=Uh S.params (args.map (Ru bl))
def Ui(X:Ctx)(bl:Yn->Ya Blk)(nx:Yn)(f:YA)(args:Ye V)(kk:K β):Ya β:=
 match X.Γ f with
 |none=>Yf
 |some (.rows F)=>qS F bl args kk
 |some (.bld F)=>qT F bl nx args kk
 |some (.abs A)=>A.run bl nx args kk
 |some (.spec S)=>
  match Ud (Uc S.params (Rv S bl args)) 0 S.ins.length with
  |none=>Yf
  |some ids=>
   match Hv (LH bl) ids S.params (Rv S bl args),GB (LH bl) ids S.ins ids with
   |some x,Yg y=>
    bif qQ S bl ids (AP nx (S.outs.length-S.ins.length))&&Ug S ids (M9 args)then
     S.run (x,y) λz=>
      kk (resV (mkS (ids++AP nx (S.outs.length-S.ins.length)) S.res z.1)) (ids++((CI (Rv S bl args)++Kc bl ids)++(AP nx (S.outs.length-S.ins.length)++M9 args)))
       (Rt S bl (CI (Rv S bl args)++Kc bl ids)++(ids++AP nx (S.outs.length-S.ins.length)).zip (mkB (ids++AP nx (S.outs.length-S.ins.length)) S.outs z.2))
    else Yf
   |_,_=>Yf
def frzC(bl:Yn->Ya Blk):C->C
 |.row b ver=>
  match bl b with
  |some (.row _ e ver' l)=>bif Yo ver ver' then .list e l else .row b ver
  |_=>.row b ver
 |.sub b ver i j=>
  match bl b with
  |some (.row _ e ver' l)=>bif Yo ver ver' then .list e ((l.take j).drop i)else .sub b ver i j
  |_=>.sub b ver i j
 |.trow b ver []=>
  match bl b with
  |some (.tree _ e ver' _ Yf l)=>bif Yo ver ver' then .list e.ty l else .trow b ver []
  |_=>.trow b ver []
 |c=>c
def frzV(bl:Yn->Ya Blk):V->V
 |.c x=>.c (frzC bl x)
 |.agg cs=>.agg (cs.map (frzC bl))
 |v=>v
def Dl(bl:Yn->Ya Blk):Ye Yn->Ye (Yn×Blk)
 |[]=>[]
 |b::r=>
  match bl b with
  |some (.row _ _ _ _)=>(b,.dead)::Dl bl r
  |some (.tree _ _ _ _ _ _)=>(b,.dead)::Dl bl r
  |_=>Dl bl r
def Rw(bl:Yn->Ya Blk):Ye (Yn×Blk)->Yn->Ya Blk
 |[],i=>bl i
 |(j,x)::r,i=>Rw (λk=>bif Yo k j then Yg x else bl k) r i
def Kd(bl:Yn->Ya Blk)(rds:Ye Yn)(run:(Yn->Ya Blk)->K β->Ya β)(kk:K β):Ya β:=
 run (Rw bl (Dl bl rds)) λv rd wr=>kk v (rds++rd) (Dl bl rds++wr)
def qU(T:Yr->Ya TI)(bl:Yn->Ya Blk)(si ti:TI)(y:V)(kk:K β):Ya β:=
 match si.elem,si.len with
 |some et,Yf=>
  match T et with
  |none=>Yf
  |some te=>
   match te.kind with
   |some .u8=>
    bif ti.isStr then
     match Rr bl (.int .u8) y with
     |some (l,rd)=>kk (.c (.str (Hc l))) rd []
     |none=>Yf
    else Yf
   |_=>Yf
 |_,_=>Yf
def Af9(ρ:Y2->V):Callee->Ya (YA×(Ye V×Ye V))
 |.value x=>
  match ρ x with
  |.c (.fn f BS)=>Yg (f,[],BS.map λb=>.c (.ptr b 0))
  |.c (.bfn f b)=>Yg (f,[.c (.ptr b 0)],[])
  |_=>Yf
 |_=>Yf
def Rx(bl:Yn->Ya Blk)(nx:Yn)(t:Yr)(cs:Ye C)(kk:K β):Ya β:=
 match bl nx with
 |none=>kk (.c (.ptr nx 0)) [nx] [(nx,.cells t cs)]
 |some _=>Yf
def qV(T:Yr->Ya TI)(bl:Yn->Ya Blk)(nx:Yn)(t:Yr)(n:Yn)(parts:Ye (Yn×V))(kk:K β):Ya β:=
 match T t with
 |none=>Yf
 |some ti=>
  match ti.elem,ti.len with
  |some et,Yf=>
   match T et with
   |none=>Yf
   |some te=>
    match te.ty with
    |none=>Yf
    |some e=>
     bif Yo e.size te.size&&(YI (n*te.size) 16777216&&Y0 0 te.size)then
      match Hu {te with elem:=Yg et,len:=Yg n} T parts with
      |none=>Yf
      |some ps=>
       match NE (repC n te.zero) ps with
       |none=>Yf
       |some cs=>
        match JZ (λ_=>Yf) e n cs,bl nx with
        |some l,Yf=>kk (.c (.row nx 0)) [nx] [(nx,.row et e 0 l)]
        |_,_=>Yf
     else Yf
  |_,_=>Yf
def qW(T:Yr->Ya TI)(bl:Yn->Ya Blk)(nx:Yn)(t:Yr)(n c:V)(kk:K β):Ya β:=
 match T t,ival n,ival c with
 |some ti,Yg (_,i),Yg (_,j)=>
  match ti.elem,ti.len with
  |some et,Yf=>
   match T et with
   |none=>Yf
   |some te=>
    match te.ty with
    |none=>Yf
    |some e=>
     match LF (λ_=>Yf) e te.zero,bl nx with
     |some z,Yf=>
      bif Yo e.size te.size&&Y0 0 te.size then
       DD (Yd (0<=i)&&(Yd (i=j)&&(Yd (i.toNat*te.bytes<=AR)&&Yd (i<=9223372036854775807)))) (kk (.c (.row nx 0)) [nx] [(nx,.row et e 0 (Y8 i.toNat z))])
      else Yf
     |_,_=>Yf
  |_,_=>Yf
 |_,_,_=>Yf
def Ry:Ye V->Ya (Ye Yn)
 |[]=>Yg []
 |.c (.ptr b 0)::r=>
  match Ry r with
  |some l=>Yg (b::l)
  |none=>Yf
 |_::_=>Yf
def Afa(bl:Yn->Ya Blk):V->Ys
 |.c (.row b _)=>
  match bl b with
  |some (.row _ e _ _)=>e.flat
  |_=>Yp
 |_=>Yp
def Afb:V->Ys
 |.c (.sub _ _ _ _)=>Yp
 |_=>Yi
def Afc:V->Ys
 |.agg _=>Yp
 |_=>Yi
def LI(bl:Yn->Ya Blk):Yn->Ye Yn->Ye C->Ye C
 |_,_,[]=>[]
 |i,ps,c::cs=>(bif memB i ps then frzC bl c else c)::LI bl (i+1) ps cs
def FH:Yn->Ye Yn->Ye C->Ye Yn
 |_,_,[]=>[]
 |i,ps,c::cs=>bif memB i ps then CE [c]++FH (i+1) ps cs else FH (i+1) ps cs
def qX(T:Yr->Ya TI)(bl:Yn->Ya Blk)(t:Yr)(ps:Ye Yn)(p:V)(kk:K β):Ya β:=
 match p with
 |.c (.ptr b o)=>
  match bl b with
  |some (.cells t0 cs)=>
   TX T (Rw (Rw bl (Dl bl (FH 0 ps cs))) [(b,.cells t0 (LI bl 0 ps cs))]) t (.c (.ptr b o)) λv rd wr=>
    kk v (FH 0 ps cs++(b::rd)) (Dl bl (FH 0 ps cs)++((b,.cells t0 (LI bl 0 ps cs))::wr))
  |_=>Yf
 |_=>TX T bl t p kk
def bA{β:Type}(T:Yr->Ya TI)(t:Yr)(parts:Ye (Yn×V))(kk:K β):Ya β:=
 match T t with
 |some ti=>
  bif ti.agg then
   match Hu ti T parts with
   |some ps=>
    match NE ti.zero ps with
    |some cs=>kk (.agg cs) [] []
    |none=>Yf
   |none=>Yf
  else Yf
 |none=>Yf
def bB(X:Ctx)(o:Oper)(ρ:Y2->V)(bl:Yn->Ya Blk)(nx:Yn)(kk:K β):Ya β:=
 match o.op with
 |.move x=>bif X.S&&Afb (ρ x)then Kd bl (CI [ρ x]) (λ_ El=>El (frzV bl (ρ x)) [] []) kk else kk (ρ x) [] []
 |.assign x=>bif X.D&&Afa bl (ρ x)then Kd bl (CI [ρ x]) (λ_ El=>El (frzV bl (ρ x)) [] []) kk else kk (ρ x) [] []
 |.pick c a b=>
  match ρ c with
  |.c (.bool g)=>Yk g (kk (ρ a) [] []) (kk (ρ b) [] [])
  |_=>Yf
 |.alloc t=>
  match X.T t with
  |some ti=>Rx bl nx t ti.zero kk
  |none=>Yf
 |.box t x=>
  match(ρ x).cells with
  |some cs=>Rx bl nx t cs kk
  |none=>Yf
 |.build t parts=>bif X.D then Kd bl (CI (parts.toList.map λp=>ρ p.2)) (λ_ El=>bA X.T t (parts.toList.map λp=>(p.1,frzV bl (ρ p.2))) El) kk else bA X.T t (parts.toList.map λp=>(p.1,ρ p.2)) kk
 |.buildSlice t n parts=>bif Af6 X.O X.T t&&Af7 X.O X.T bl t (parts.toList.map λp=>(p.1,ρ p.2))then qO X.O X.T bl nx t n (parts.toList.map λp=>(p.1,ρ p.2)) kk else Kd bl (CI (parts.toList.map λp=>ρ p.2)) (λbl' El=>qV X.T bl' nx t n (parts.toList.map λp=>(p.1,frzV bl (ρ p.2))) El) kk
 |.load t a=>
  match look X.L t with
  |some ps=>qX X.T bl t ps (ρ a) kk
  |none=>TX X.T bl t (ρ a) kk
 |.store t a x=>
  match ρ a with
  |.eptr _ _ _ _=>Kd bl (CI [ρ a,ρ x]) (λbl' El=>Pr X.T bl' t (frzV bl (ρ a)) (frzV bl (ρ x)) El) kk
  |.c (.tptr b _ _ _ _)=>bif Af3 bl b then Pr X.T bl t (ρ a) (ρ x) kk else Kd bl (CI [ρ a,ρ x]) (λbl' El=>Pr X.T bl' t (frzV bl (ρ a)) (frzV bl (ρ x)) El) kk
  |_=>bif X.D&&Afc (ρ x)then Kd bl (CI [ρ a,ρ x]) (λbl' El=>Pr X.T bl' t (frzV bl (ρ a)) (frzV bl (ρ x)) El) kk else Pr X.T bl t (ρ a) (ρ x) kk
 |.nilCheck x=>
  match ρ x with
  |.c (.ptr b o)=>kk (.c (.ptr b o)) [] []
  |.eptr b ver i o=>kk (.eptr b ver i o) [] []
  |.lptr e x o=>kk (.lptr e x o) [] []
  |.c (.tptr b ver p i o)=>kk (.c (.tptr b ver p i o)) [] []
  |.c (.fn f BS)=>kk (.c (.fn f BS)) [] []
  |.c (.bfn f b)=>kk (.c (.bfn f b)) [] []
  |_=>Yf
 |.binOp op t x y _=>pY X.T op t (ρ x) (ρ y) y kk
 |.unOp op _ x=>
  match op,ρ x with
  |.not,.c (.bool b)=>kk (.c (.bool (!b))) [] []
  |.neg,.c (.int k n)=>kk (.c (.int k (k.wrap (0-n)))) [] []
  |_,_=>Yf
 |.convert s t x=>
  match X.T s,X.T t,ρ x with
  |some _,Yg ti,.c (.int _ n)=>
   match ti.kind with
   |some k=>kk (.c (.int k (k.wrap n))) [] []
   |none=>Yf
  |some _,Yg ti,.c (.str s)=>bif ti.isStr then kk (.c (.str s)) [] []else Yf
  |some si,Yg ti,y=>qU X.T bl si ti y kk
  |_,_,_=>Yf
 |.makeFunc (.func f) first BS=>
  match first.toList with
  |[]=>
   match Ry (BS.toList.map ρ)with
   |some bs=>kk (.c (.fn f bs)) [] []
   |none=>Yf
  |[x]=>
   match ρ x,BS.toList with
   |.c (.ptr b 0),[]=>kk (.c (.bfn f b)) [] []
   |_,_=>Yf
  |_::_=>Yf
 |.makeSlice t n c=>qW X.T bl nx t (ρ n) (ρ c) kk
 |.makeMap t Yf=>qE X.T bl nx t kk
 |.lookup t x i commaOk=>bif Af5 bl (ρ x)then qF X.T bl t (ρ x) (ρ i) commaOk kk else qH X.T bl t (ρ x) (ρ i) commaOk kk
 |.insert t m i v=>qG X.T bl t (ρ m) (ρ i) (ρ v) kk
 |.mapUpdate t m i v=>Kd bl (CI [ρ m,ρ i,ρ v]) (λbl' El=>qI X.T bl' t (frzV bl (ρ m)) (frzV bl (ρ i)) (frzV bl (ρ v)) El) kk
 |.slice t x Yf hi Yf=>bif X.R&&aX (ρ x)then q9 X.T bl t (ρ x) (hi.map ρ) kk else TZ X.T bl t (ρ x) Yf (hi.map ρ) kk
 |.slice t x lo hi Yf=>bif X.S&&aX (ρ x)then Kd bl (CI ((x::(lo.toList++hi.toList)).map ρ)) (λbl' El=>TZ X.T bl' t (frzV bl (ρ x)) (lo.map λy=>frzV bl (ρ y)) (hi.map λy=>frzV bl (ρ y)) El) kk else TZ X.T bl t (ρ x) (lo.map ρ) (hi.map ρ) kk
 |.fieldAddr t x f=>pZ X.T t (ρ x) f kk
 |.field t x f=>
  match X.T t,ρ x with
  |some ti,.agg cs=>
   match ti.flds[f]? with
   |some (o,n,g)=>
    bif g||Yo n 1 then
     match sub cs o n with
     |some r=>kk (V.mk g r) [] []
     |none=>Yf
    else Yf
   |none=>Yf
  |_,_=>Yf
 |.indexAddr t x i=>q8 X.T bl t (ρ x) (ρ i) kk
 |.index t x i=>
  match X.T t,ρ x,ival (ρ i)with
  |some ti,.c (.str s),Yg (_,i)=>bif ti.isStr then DD (Yd (0<=i)&&Yd (i<(s.length:Yh))) (kk (.c (.int .u8 ((s.getD i.toNat 0).toNat:Yh))) [] [])else Yf
  |some ti,.agg cs,Yg (_,i)=>qD X.T ti cs i kk
  |_,_,_=>Yf
 |.extract x i=>
  match ρ x with
  |.tup ts=>
   match ts[i]? with
   |some t=>kk (V.mk t.1 t.2) [] []
   |none=>Yf
  |_=>Yf
 |.call c=>
  match c.callee with
  |.builtin .len=>
   match c.args.toList.map ρ,c.argTypes.toList with
   |[x],[t]=>qC X.T bl t x kk
   |_,_=>Yf
  |.builtin .min=>
   match aZ Yi (c.args.toList.map ρ)with
   |some v=>kk v [] []
   |none=>Yf
  |.builtin .max=>
   match aZ Yp (c.args.toList.map ρ)with
   |some v=>kk v [] []
   |none=>Yf
  |.builtin .append=>
   match c.args.toList.map ρ,c.argTypes.toList with
   |[x,y],[t,t']=>bif Yo t t' then(bif aY x||aY y then qN X.O X.T bl nx t x y kk else qM X.T bl nx t x y kk)else qP X.T bl nx t t' x y kk
   |_,_=>Yf
  |.builtin .clear=>
   match c.args.toList.map ρ,c.argTypes.toList with
   |[x],[t]=>qK X.T bl t x kk
   |_,_=>Yf
  |.builtin .cap=>
   match c.args.toList.map ρ,c.argTypes.toList with
   |[x],[t]=>qL X.T t x kk
   |_,_=>Yf
  |.builtin .copy=>
   match c.args.toList.map ρ,c.argTypes.toList with
   |[x,y],[t,t']=>bif Yo t t' then qJ X.T bl t x y kk else Yf
   |_,_=>Yf
  |.builtin _=>Yf
  |callee=>
   match Af9 ρ callee with
   |some (f,pre,BS)=>Ui X bl nx f (pre++(c.args.toList.map ρ++BS)) kk
   |none=>Yf
 |_=>Yf
structure LogE where
 i:Yn
 dst:Ya Yn
 v:V
 tin:Ye Yn
 rd:Ye Yn
 wr:Ye (Yn×Blk)
structure St where
 tm:Ye (Yn×V)
 bl:Ye (Yn×Blk)
 nx:Yn
def Uj(tm:Ye (Yn×V)):Y2->V
 |.tmp t=>
  match look tm t with
  |some v=>v
  |none=>.junk
 |.const v=>V.ofValue v
 |.global _=>.junk
 |.func f=>.c (.fn f [])
def Ke:Ye Y2->Ye Yn
 |[]=>[]
 |.tmp t::r=>t::Ke r
 |_::r=>Ke r
def Pu(ops:YQ Oper)(o:Oper):Ya (Yn×Ys):=
 match o.guard with
 |none=>Yf
 |some (j,want)=>((ops[j]?).bind (·.dst)).map λt=>(t,want)
def putD(tm:Ye (Yn×V))(dst:Ya Yn)(v:V):Ye (Yn×V):=
 match dst with
 |some d=>put tm d v
 |none=>tm
def qY:Yn->Ye (Yn×Blk)->Yn
 |nx,[]=>nx
 |nx,(i,_)::r=>qY (bif YI nx i then i+1 else nx) r
def Uk(n:Yn):Ya Yn->Ys
 |none=>Yp
 |some d=>Y0 d n
def LJ(X:Ctx)(n:Yn)(all:YQ Oper):Ye (Yn×Oper)->St->Ye LogE->(St->Ye LogE->Ya β)->Ya β
 |[],σ,log,k=>k σ log
 |(i,o)::rest,σ,log,k=>
  let tin:=Ke o.op.operands.toList
  let go (σ:St) (tin:Ye Yn):Ya β:=
   bB X o (Uj σ.tm) (look σ.bl) σ.nx λv rd wr=>
    LJ X n all rest ⟨putD σ.tm o.dst v,puts σ.bl wr,qY σ.nx wr⟩ (⟨i,o.dst,v,tin,rd,wr⟩::log) k
  bif Uk n o.dst then
   match o.guard with
   |none=>go σ tin
   |some _=>
    match Pu all o with
    |none=>Yf
    |some (t,want)=>
     match look σ.tm t with
     |some (.tup [])=>LJ X n all rest ⟨putD σ.tm o.dst (.tup []),σ.bl,σ.nx⟩ (⟨i,o.dst,.tup [],[t],[],[]⟩::log) k
     |some (.c (.bool g))=>
      let skip:Ya β:=LJ X n all rest ⟨putD (put σ.tm t (.c (.bool (!want)))) o.dst (.tup []),σ.bl,σ.nx⟩ (⟨i,o.dst,.tup [],[t],[],[]⟩::log) k
      let take:Ya β:=go {σ with tm:=put σ.tm t (.c (.bool want))} (t::tin)
      match want with
      |true=>Yk g take skip
      |false=>Yk g skip take
     |_=>Yf
  else Yf
def Kf(ms:Ye Yn):Ye Edge->Yn
 |[]=>0
 |e::r=>(bif YJ .any e then Nat.lor (Nat.shiftLeft 1 e.on) (ms.getD e.on 0)else 0) |> Nat.lor (Kf ms r)
def Hd:Ye Oper->Ye Yn->Ye Yn
 |[],acc=>acc
 |o::r,acc=>Hd r (acc++[Kf acc o.after.toList])
def LK:Ye (Yn×Oper)->Ys
 |[]=>Yp
 |(i,o)::r=>o.after.toList.all (λe=>!YJ .any e||Y0 e.on i)&&LK r
def meet(a b:Ye Yn):Ys:=
 match a with
 |[]=>Yi
 |x::r=>memB x b||meet r b
def wids:Ye (Yn×Blk)->Ye Yn
 |[]=>[]
 |(i,_)::r=>i::wids r
def Rz(x y:LogE):Ys:=
 (match x.dst with
  |some d=>memB d y.tin||(match y.dst with|some d'=>Yo d d'|none=>Yi)
  |none=>Yi)||
 (match y.dst with
  |some d=>memB d x.tin
  |none=>Yi)||
 meet (wids x.wr) (y.rd++wids y.wr)||meet (wids y.wr) x.rd
def bC(m:Yn)(y:LogE):Ye LogE->Ys
 |[]=>Yp
 |x::r=>(!Rz x y||Nat.testBit m x.i)&&bC m y r
def fine(ms:Ye Yn):Ye LogE->Ys
 |[]=>Yp
 |y::r=>bC (ms.getD y.i 0) y r&&fine ms r
inductive AExit where
 |normal
 |exit (id:Yn)
 |ret
def MA(ids:Ye Yn):Ye Yn->Ys
 |[]=>Yp
 |b::r=>memB b ids&&MA ids r
def qZ(ids:Ye Yn):Ye LogE->Ys
 |[]=>Yp
 |e::r=>MA ids e.rd&&qZ ids r
def MB:Ya (Ye Yn)->Ye LogE->Ys
 |none,_=>Yp
 |some ids,log=>qZ ids log
abbrev Kx(β:Type):=AExit->St->Ya β
structure Cut where
 run:{β:Type}->St->(AExit->St->Ya β)->Ya β
def Hw:Yn->Ye Oper->Ye (Yn×Oper)
 |_,[]=>[]
 |i,o::r=>(i,o)::Hw (i+1) r
def bD(f:St->Kx β->Ya β):Yn->St->Kx β->Ya β
 |0,_,_=>Yf
 |i+1,σ,k=>f σ λe σ'=>
  match e with
  |.normal=>bD f i σ' k
  |.exit id=>k (.exit id) σ'
  |.ret=>k .ret σ'
def exec(X:Ctx)(n:Yn)(Λ:Yn->Ya Cut)(p:Yn)(c:Code)(σ:St)(k:Kx β):Ya β:=
 match Λ p with
 |some cut=>cut.run σ k
 |none=>
  match c with
  |.skip=>k .normal σ
  |.region _ ops draw=>
   let l:=Hw 0 ops.toList
   LJ X n ops l σ [] λσ' log=>
    bif MB X.A log&&(!draw||(LK l&&fine (Hd ops.toList []) log))then k .normal σ' else Yf
  |.seq a b=>
   exec X n Λ (2*p) a σ λe σ'=>
    match e with
    |.normal=>exec X n Λ (2*p+1) b σ' k
    |e=>k e σ'
  |.cond x a b=>
   match Uj σ.tm x with
   |.c (.bool g)=>Yk g (exec X n Λ (2*p) a σ k) (exec X n Λ (2*p+1) b σ k)
   |_=>Yf
  |.block id a=>
   exec X n Λ (2*p) a σ λe σ'=>
    match e with
    |.exit Tz=>bif Yo Tz id then k .normal σ' else k (.exit Tz) σ'
    |e=>k e σ'
  |.exit id=>k (.exit id) σ
  |.ret=>k .ret σ
  |.loop a=>bD (λσ' k'=>exec X n (λ_=>Yf) 1 a σ' k') X.N σ k
  |_=>Yf
end
end
end Go.Lift
namespace Go.Lift
open Go.RowKit
def Blk.live:Blk->Ys
 |.dead=>Yi
 |_=>Yp
def Own(pl:Yn->Ya Pl)(bl:Yn->Ya Blk)(g:Yn):Prop:=
 ∃i B p,bl i=Yg B/\B.live=Yp/\pl i=Yg p/\p.has g
structure OK0 (P:Yw) where
 f:Yn->Prop
 no:Yn->Prop
instance{P:Yw}:CoeFun (OK0 P) (λ_=>Yn->Prop):=⟨OK0.f⟩
def Ul:Ye (String×YT×Ye Yh):=[("internal/strconv.uint64pow10",.u64,Lib.pow10Tab),("strings.asciiSpace",.u8,Lib.asciiSpaceTab)]
def Um:Ye String:=["strconv.ErrSyntax", "strconv.ErrRange"]
def ReadsAt(w:Yx)(b o:Yn)(vs:Ye Yq):Prop:=∀i v,vs[i]?=Yg v->w.cell? ⟨b,o+i,Yf⟩=Yg v
def bE(g:Yn)(w:Yx):Prop:=
 ∃T oT R oR,ReadsAt w g 0 [.pointer (Yg ⟨T,oT,Yf⟩)]/\ReadsAt w T oT [.slice (Yg ⟨R,oR,Yf⟩) 7 7,.slice Yf 0 0,.int .i64 2]/\ReadsAt w R oR (Lib.whiteT.map λz:Yn=>Value.int .u16 (z:Yh))
structure Opened (P:Yw) (w:Yx):Prop where
 open_:w.ShapedOpen P
 tabs:∀x∈Ul,(P.globalNamed x.1).isSome=Yp->Lib.TabIs P w x.1 x.2.1 x.2.2
 errs:∀n∈Um,(P.globalNamed n).isSome=Yp->∃t u,w.var? P n=Yg #[.iface t u]
 white:∀g,P.globalNamed "unicode.White_Space"=Yg g->bE g w
def Glob0(P:Yw)(no:Yn->Prop)(pl:Yn->Ya Pl)(bl:Yn->Ya Blk)(w:Yx):Prop:=
 ∃w0:Yx,Opened P w0/\w0.heap.size<=w.heap.size/\(∀g,g<w0.heap.size->w.heap[g]?=w0.heap[g]?/\¬Own pl bl g)/\∀g,no g->w0.heap.size<=g
def GlobR(P:Yw)(own:Ya Yn)(w:Yx):Prop:=
 ∃w0:Yx,Opened P w0/\w0.heap.size<=w.heap.size/\∀g,g<w0.heap.size->w.heap[g]?=w0.heap[g]?/\own≠Yg g
theorem GlobR.glob{P:Yw}{pl:Yn->Ya Pl}{bl:Yn->Ya Blk}{w:Yx}{own:Ya Yn}(h:GlobR P own w)(ho:∀g,Own pl bl g->own=Yg g):Glob0 P (λ_=>False) pl bl w:=by obtain⟨w0,h1,h2,h3⟩:=h;exact⟨w0,h1,h2,λg hl=>⟨(h3 g hl).1,λq=>(h3 g hl).2 (ho g q)⟩,λ_ h=>h.elim⟩
theorem Glob0.gen{P:Yw}{no AsV:Yn->Prop}{pl Ak:Yn->Ya Pl}{bl bl':Yn->Ya Blk}{w w':Yx}(h:Glob0 P no pl bl w)(hs:w.heap.size<=w'.heap.size)(ho:∀g,g<w.heap.size->¬Own pl bl g->¬no g->w'.heap[g]?=w.heap[g]?/\¬Own Ak bl' g)(hn:∀g,AsV g->no g\/Own pl bl g\/w.heap.size<=g):Glob0 P AsV Ak bl' w':=by
 obtain⟨w0,h1,h2,h3,h4⟩:=h;refine⟨w0,h1,DC h2 hs,λg hl=>?_,λg hg=>?_⟩
 ·obtain⟨a,b⟩:=h3 g hl
  obtain⟨c,d⟩:=ho g (ZV hl h2) b λhn=>Y7 (h4 g hn) (Nat.not_le.2 hl);exact⟨c.trans a,d⟩
 ·rcases hn g hg with q|q|q
  ·exact h4 g q
  ·exact Nat.le_of_not_lt λhl=>(h3 g hl).2 q
  ·exact DC h2 q
structure Glob {P:Yw} (ok0:OK0 P) (pl:Yn->Ya Pl) (bl:Yn->Ya Blk) (w:Yx):Prop where
 g0:Glob0 P ok0.no pl bl w
 no:∀g,ok0.no g->g<w.heap.size/\¬Own pl bl g
section
variable{P:Yw}{ok0:OK0 P}{pl Ak:Yn->Ya Pl}{bl bl':Yn->Ya Blk}{w w':Yx}
theorem Glob.out(h:Glob ok0 pl bl w)(hs:w.heap.size<=w'.heap.size)(ho:∀g,g<w.heap.size->¬Own pl bl g->w'.heap[g]?=w.heap[g]?/\¬Own Ak bl' g):Glob ok0 Ak bl' w':=
 ⟨h.g0.gen hs (λg h1 h2 _=>ho g h1 h2) λ_ h=>.inl h,λg hn=>by obtain⟨h1,h2⟩:=h.no g hn;exact⟨ZV h1 hs,(ho g h1 h2).2⟩⟩
theorem Glob.mono(h:Glob ok0 pl bl w)(ho:∀g,Own Ak bl' g->Own pl bl g):Glob ok0 Ak bl' w:=h.out (Av _) λg _ h1=>⟨rfl,λq=>h1 (ho g q)⟩
theorem Glob.row{own:Ya Yn}(h:Glob ok0 pl bl w)(ho:∀g,own=Yg g->Own pl bl g):GlobR P own w:=by obtain⟨w0,h1,h2,h3,_⟩:=h.g0;exact⟨w0,h1,h2,λg hl=>⟨(h3 g hl).1,λq=>(h3 g hl).2 (ho g q)⟩⟩
end
def At{P:Program}(ok0:OK0 P)(base:Nat)(pl:Nat->Option Pl)(bl:Nat->Option Blk)(w:World):Env:={w,ok:=λg=>(ok0 g\/(base<=g/\¬ok0.no g))/\¬Own pl bl g,base,pl,bl}
structure RelB {P:Yw} (ok0:OK0 P) (base:Yn) (pl:Yn->Ya Pl) (bl:Yn->Ya Blk) (w:Yx):Prop where
 baseLe:base<=w.heap.size
 blks:∀i B,bl i=Yg B->∃p,pl i=Yg p/\BRep (At ok0 base pl bl w) B p
 sep:∀i j B C p q g,i≠j->bl i=Yg B->bl j=Yg C->B.live=Yp->C.live=Yp->pl i=Yg p->pl j=Yg q->p.has g->¬q.has g
 fresh:∀i,bl i=Yf->pl i=Yf
 glob:Glob ok0 pl bl w
structure Step (pl:Yn->Ya Pl) (bl:Yn->Ya Blk) (w:Yx) (Ak:Yn->Ya Pl) (bl':Yn->Ya Blk) (w':Yx):Prop where
 os:w'.os=w.os
 tape:w'.tape=w.tape
 output:w'.output=w.output
 size:w.heap.size<=w'.heap.size
 out:∀g,g<w.heap.size->¬Own pl bl g->w'.heap[g]?=w.heap[g]?/\¬Own Ak bl' g
 cells:∀b g,pl b=Yg (.cells g)->Ak b=Yg (.cells g)
 rows:∀b sv Ac,pl b=Yg (.row sv Ac)->∃AS By,Ak b=Yg (.row AS By)/\KeepR (bl b) (bl' b) sv Ac AS By
theorem Step.refl(pl:Yn->Ya Pl)(bl:Yn->Ya Blk)(w:Yx):Step pl bl w pl bl w:=
 ⟨rfl,rfl,rfl,Av _,λ_ _ h=>⟨rfl,h⟩,λ_ _ h=>h,λ_ sv Ac h=>⟨sv,Ac,h,KeepR.refl _ _ _⟩⟩
theorem Step.trans{pl pl1 pl2:Yn->Ya Pl}{bl bl1 Ab:Yn->Ya Blk}{w w1 w2:Yx}(h:Step pl bl w pl1 bl1 w1)(k:Step pl1 bl1 w1 pl2 Ab w2):Step pl bl w pl2 Ab w2:=by
 refine⟨k.os.trans h.os,k.tape.trans h.tape,k.output.trans h.output,DC h.size k.size,λg hg ho=>?_,λb g hb=>k.cells b g (h.cells b g hb),λb sv Ac hb=>?_⟩
 ·obtain⟨h1,h2⟩:=h.out g hg ho
  obtain⟨k1,k2⟩:=k.out g (ZV hg h.size) h2;exact⟨k1.trans h1,k2⟩
 ·obtain⟨sv1,N4,p1,r1⟩:=h.rows b sv Ac hb
  obtain⟨sv2,L0,p2,r2⟩:=k.rows b sv1 N4 p1;exact⟨sv2,L0,p2,r1.trans r2⟩
structure StepM (m:Yn) (pl:Yn->Ya Pl) (bl:Yn->Ya Blk) (w:Yx) (Ak:Yn->Ya Pl) (bl':Yn->Ya Blk) (w':Yx):Prop where
 os:w'.os=w.os
 tape:w'.tape=w.tape
 output:w'.output=w.output
 size:w.heap.size<=w'.heap.size
 out:∀g,g<w.heap.size->¬Own pl bl g->w'.heap[g]?=w.heap[g]?/\¬Own Ak bl' g
 cells:∀b g,b<m->pl b=Yg (.cells g)->Ak b=Yg (.cells g)
 rows:∀b sv Ac,b<m->pl b=Yg (.row sv Ac)->∃AS By,Ak b=Yg (.row AS By)
theorem Step.toM{m:Yn}{pl Ak:Yn->Ya Pl}{bl bl':Yn->Ya Blk}{w w':Yx}(h:Step pl bl w Ak bl' w'):StepM m pl bl w Ak bl' w':=
 ⟨h.os,h.tape,h.output,h.size,h.out,λb g _=>h.cells b g,λb sv Ac _ hb=>by obtain⟨AS,By,h1,_⟩:=h.rows b sv Ac hb;exact⟨AS,By,h1⟩⟩
theorem StepM.refl(m:Yn)(pl:Yn->Ya Pl)(bl:Yn->Ya Blk)(w:Yx):StepM m pl bl w pl bl w:=(Step.refl pl bl w).toM
theorem StepM.trans{m:Yn}{pl pl1 pl2:Yn->Ya Pl}{bl bl1 Ab:Yn->Ya Blk}{w w1 w2:Yx}(h:StepM m pl bl w pl1 bl1 w1)(k:StepM m pl1 bl1 w1 pl2 Ab w2):StepM m pl bl w pl2 Ab w2:=by
 refine⟨k.os.trans h.os,k.tape.trans h.tape,k.output.trans h.output,DC h.size k.size,λg hg ho=>?_,λb g hm hb=>k.cells b g hm (h.cells b g hm hb),λb sv Ac hm hb=>?_⟩
 ·obtain⟨h1,h2⟩:=h.out g hg ho
  obtain⟨k1,k2⟩:=k.out g (ZV hg h.size) h2;exact⟨k1.trans h1,k2⟩
 ·obtain⟨AS,By,h1⟩:=h.rows b sv Ac hm hb
  exact k.rows b AS By hm h1
theorem Step.ext{P:Yw}{ok0:OK0 P}{base:Yn}{pl Ak:Yn->Ya Pl}{bl bl':Yn->Ya Blk}{w w':Yx}(h:Step pl bl w Ak bl' w'):Ext (At ok0 base pl bl w) (At ok0 base Ak bl' w'):=
 ⟨Av _,λg hg Ax=>⟨⟨hg.1,(h.out g Ax hg.2).2⟩,(h.out g Ax hg.2).1⟩,h.cells,h.rows⟩
def upd{α:Type}(f:Yn->Ya α)(i:Yn)(x:α):Yn->Ya α:=λj=>if j=i then Yg x else f j
def updL{α:Type}(f:Yn->Ya α):Ye (Yn×α)->Yn->Ya α
 |[]=>f
 |(i,x)::r=>updL (upd f i x) r
theorem r4{α:Type}:∀(r l:Ye (Yn×α)),look (puts l r)=updL (look l) r
 |[],_=>rfl
 |(i,x)::r,l=>by rw[puts,r4 r,updL];congr 1;funext j;rw[aR,upd]
def OpOk(P:Yw)(o:Oper)(ρ:Y2->V)(bl:Yn->Ya Blk)(v:V)(wr:Ye (Yn×Blk)):Prop:=
 ∀(ok0:OK0 P)(base:Yn)(pl:Yn->Ya Pl)(w:Yx)(a:Act),RelB ok0 base pl bl w->
  (∀x∈o.op.operands,VRep (At ok0 base pl bl w) (ρ x) (a.eval x))->
  ∀(K:Act->Yx->Prop)(Q:Exit->Act->Yx->Prop),
   (∀val Ak w',RelB ok0 base Ak (updL bl wr) w'->Step pl bl w Ak (updL bl wr) w'->VRep (At ok0 base Ak (updL bl wr) w') v val->K (a.put o.dst val) w')->
   o.wp P a w K Q
section
variable{P:Yw}{o:Oper}{ρ:Y2->V}{bl:Yn->Ya Blk}{v:V}
theorem HR{a:Act}{w w':Yx}{val:Yq}(h:(Y3 a.eval o).run P w=.ok (.value val) w'){K:Act->Yx->Prop}{Q:Exit->Act->Yx->Prop}(hk:K (a.put o.dst val) w'):o.wp P a w K Q:=by unfold Yan;rw[h];exact hk
theorem Pv{a:Act}{w w':Yx}(h:(Y3 a.eval o).run P w=.ok .skip w'){K:Act->Yx->Prop}{Q:Exit->Act->Yx->Prop}(hk:K (a.put o.dst undef) w'):o.wp P a w K Q:=by unfold Yan;rw[h];exact hk
theorem OpOk.of_pure(h:∀(ok0:OK0 P)(base:Yn)(pl:Yn->Ya Pl)(w:Yx)(a:Act),RelB ok0 base pl bl w->(∀x∈o.op.operands,VRep (At ok0 base pl bl w) (ρ x) (a.eval x))->∃val,(Y3 a.eval o).run P w=.ok (.value val) w/\VRep (At ok0 base pl bl w) v val):OpOk P o ρ bl v []:=by
 intro ok0 base pl w a hr hx K Q hk;obtain⟨val,h1,h2⟩:=h ok0 base pl w a hr hx;exact HR h1 (hk val pl w hr (Step.refl pl bl w) h2)
end
section
variable{P:Yw}{ok0:OK0 P}{base:Yn}{pl:Yn->Ya Pl}{bl:Yn->Ya Blk}{w:Yx}
theorem RelB.put(hr:RelB ok0 base pl bl w){i:Yn}{B:Blk}{p:Pl}{w':Yx}(hs:Step pl bl w (upd pl i p) (upd bl i B) w')(hB:BRep (At ok0 base (upd pl i p) (upd bl i B) w') B p)(hg:∀j C q g,j≠i->bl j=Yg C->C.live=Yp->pl j=Yg q->q.has g->w'.heap[g]?=w.heap[g]?/\¬p.has g):RelB ok0 base (upd pl i p) (upd bl i B) w':=by
 refine⟨DC hr.baseLe hs.size,λj C hC=>?_,λj k C D q r g Ari hC hD hlC hlD hq BA B7=>?_,λj hj=>?_,hr.glob.out hs.size hs.out⟩
 ·by_cases hj:j=i
  ·subst hj
   simp only[upd,D6,Af]at hC;subst hC;exact⟨p,by simp[upd],hB⟩
  ·simp only[upd,hj,CN]at hC⊢
   obtain⟨q,hq,hBq⟩:=hr.blks j C hC;refine⟨q,hq,?_⟩;cases hl:C.live with
   |false=>cases C<;>first|exact trivial|simp[Blk.live]at hl
   |true=>exact BRep.mono hs.ext hBq λg B7=>(hg j C q g hj hC hl hq B7).1
 ·by_cases hj:j=i
  ·by_cases hk:k=i
   ·exact Y7 (hj.trans hk.symm) Ari
   ·subst hj
    simp only[upd,D6,Af,hk,CN]at hC hD hq BA;subst hC hq;intro Tq;exact(hg k D r g hk hD hlD BA Tq).2 B7
  ·by_cases hk:k=i
   ·subst hk
    simp only[upd,D6,Af,hj,CN]at hC hD hq BA;subst hD BA;exact(hg j C q g hj hC hlC hq B7).2
   ·simp only[upd,hj,hk,CN]at hC hD hq BA
    exact hr.sep j k C D q r g Ari hC hD hlC hlD hq BA B7
 ·by_cases If:j=i
  ·subst If;simp[upd]at hj
  ·simp only[upd,If,CN]at hj⊢
   exact hr.fresh j hj
theorem Own.lt(hr:RelB ok0 base pl bl w){g:Yn}(h:Own pl bl g):g<w.heap.size:=by
 obtain⟨i,B,p,hB,hl,hp,hg⟩:=h;obtain⟨q,hq,hR⟩:=hr.blks i B hB;rw[hp]at hq;injection hq with hq;subst hq;cases B with
 |dead=>simp[Blk.live]at hl
 |cells t cs=>
  cases p with
  |row _ _=>exact hR.elim
  |cells g'=>obtain⟨vs,h1,_⟩:=hR;have hg:g'=g:=hg;subst hg;exact(IN.1 h1).1
 |map t k v vg l=>
  cases p with
  |row _ _=>exact hR.elim
  |cells g'=>obtain⟨es,CS,h1,_⟩:=hR;have hg:g'=g:=hg;subst hg;exact(IN.1 h1).1
 |fmap t l=>
  cases p with
  |row _ _=>exact hR.elim
  |cells g'=>obtain⟨es,CS,h1,_⟩:=hR;have hg:g'=g:=hg;subst hg;exact(IN.1 h1).1
 |row t e ver l=>
  cases p with
  |cells _=>exact hR.elim
  |row sv Ac=>obtain⟨h0,xs,_,h2⟩:=hR;subst h0;exact(h2.lt g (Pl.has_row hg)).2
 |mat t et e ver Ah hole l=>
  cases p with
  |cells _=>exact hR.elim
  |row sv Ac=>
   have hR:MatOk _ t et e hole l sv Ac:=hR;rcases hg with hg|⟨i,s,hs,hg⟩
   ·obtain⟨vs,h1,_⟩:=hR.outer
    exact(h1.lt g hg).2
   ·have Ax:i<l.length:=by rw[<-hR.len];exact(Fe.1 hs).1
    obtain⟨xs,_,h2⟩:=hR.inner i s l[i] hs (Ff Ax);exact(h2.lt g hg).2
 |tree t e ver Ah hole l=>
  cases p with
  |cells _=>exact hR.elim
  |row sv Ac=>have hR:TreeOk _ t e hole l sv Ac:=hR;obtain⟨hv,F,h1,h2,_⟩:=hR.rep;obtain⟨s,hs,hg⟩:=h2.of_has hg;exact(h1.lt s hs g hg).2
theorem Step.new(hr:RelB ok0 base pl bl w){i:Yn}(hi:bl i=Yf){B:Blk}{p:Pl}{w':Yx}(hg:w.grownBy w' Yf)(hp:∀g,p.has g->w.heap.size<=g):Step pl bl w (upd pl i p) (upd bl i B) w':=by
 have AC:=hr.fresh i hi;refine⟨hg.os,hg.tape,hg.output,hg.size,λg Ax ho=>⟨hg.block g Ax (by simp),?_⟩,λb g hb=>?_,λb sv Ac hb=>?_⟩
 ·rintro⟨j,C,q,hC,hl,hq,B7⟩
  by_cases hj:j=i
  ·subst hj
   simp only[upd,D6,Af]at hC hq;subst hq;have:=hp g B7;omega
  ·simp only[upd,hj,CN]at hC hq
   exact ho ⟨j,C,q,hC,hl,hq,B7⟩
 ·have CQ:b≠i:=by rintro rfl;rw[AC]at hb;cases hb
  simp[upd,CQ,hb]
 ·have CQ:b≠i:=by rintro rfl;rw[AC]at hb;cases hb
  exact⟨sv,Ac,by simp[upd,CQ,hb],KeepR.of_eq (λC hC=>by simpa [upd,CQ]using hC) _ _⟩
theorem RelB.new(hr:RelB ok0 base pl bl w){i:Yn}(hi:bl i=Yf){B:Blk}{p:Pl}{w':Yx}(hg:w.grownBy w' Yf)(hp:∀g,p.has g->w.heap.size<=g)(hB:BRep (At ok0 base (upd pl i p) (upd bl i B) w') B p):RelB ok0 base (upd pl i p) (upd bl i B) w':=by
 refine hr.put (Step.new hr hi hg hp) hB λj C q g hj hC hl hq B7=>?_;have Ax:g<w.heap.size:=Own.lt hr ⟨j,C,q,hC,hl,hq,B7⟩;refine⟨hg.block g Ax (by simp),λDh=>?_⟩;have:=hp g Dh;omega
theorem Step.grownP(_hr:RelB ok0 base pl bl w){i:Yn}{B B':Blk}(hi:bl i=Yg B)(nU:B.live=Yp){sv AS:Yq}{Ac By:Ye (Ya Yq)}(AC:pl i=Yg (.row sv Ac)){w':Yx}{og:Ya Yn}(hg:w.grownBy w' og)(Jn:∀g,og=Yg g->(Pl.row sv Ac).has g)(hv:∀g,(Pl.row AS By).has g->(Pl.row sv Ac).has g\/w.heap.size<=g)(hk:KeepR (Yg B) (Yg B') sv Ac AS By):Step pl bl w (upd pl i (.row AS By)) (upd bl i B') w':=by
 have Aq:∀g,(Pl.row sv Ac).has g->Own pl bl g:=λg h=>⟨i,_,_,hi,nU,AC,h⟩;refine⟨hg.os,hg.tape,hg.output,hg.size,λg Ax ho=>⟨hg.block g Ax (λh=>ho (Aq g (Jn g h.symm))),?_⟩,λb g hb=>?_,λb sv0 ZE hb=>?_⟩
 ·rintro⟨j,C,q,hC,hl,hq,B7⟩
  by_cases hj:j=i
  ·subst hj
   simp only[upd,D6,Af]at hC hq;subst hq;rcases hv g B7 with hv|hv
   ·exact ho (Aq g hv)
   ·omega
  ·simp only[upd,hj,CN]at hC hq
   exact ho ⟨j,C,q,hC,hl,hq,B7⟩
 ·have CQ:b≠i:=by rintro rfl;rw[AC]at hb;cases hb
  simp[upd,CQ,hb]
 ·by_cases CQ:b=i
  ·subst CQ
   rw[AC]at hb;injection hb with hb;injection hb with hb Ai;subst hb Ai;refine⟨AS,By,by simp[upd],?_⟩;rw[hi];simpa [upd]using hk
  ·exact⟨sv0,ZE,by simp[upd,CQ,hb],KeepR.of_eq (λC hC=>by simpa [upd,CQ]using hC) _ _⟩
theorem RelB.grownP(hr:RelB ok0 base pl bl w){i:Yn}{B B':Blk}(hi:bl i=Yg B)(nU:B.live=Yp){sv AS:Yq}{Ac By:Ye (Ya Yq)}(AC:pl i=Yg (.row sv Ac)){w':Yx}{og:Ya Yn}(hg:w.grownBy w' og)(Jn:∀g,og=Yg g->(Pl.row sv Ac).has g)(hv:∀g,(Pl.row AS By).has g->(Pl.row sv Ac).has g\/w.heap.size<=g)(hk:KeepR (Yg B) (Yg B') sv Ac AS By)(hB:BRep (At ok0 base (upd pl i (.row AS By)) (upd bl i B') w') B' (.row AS By)):RelB ok0 base (upd pl i (.row AS By)) (upd bl i B') w':=by
 refine hr.put (Step.grownP hr hi nU AC hg Jn hv hk) hB λj C q g hj hC hl hq B7=>?_;have Ax:g<w.heap.size:=Own.lt hr ⟨j,C,q,hC,hl,hq,B7⟩;have AO:¬(Pl.row sv Ac).has g:=λh=>hr.sep j i _ _ _ _ g hj hC hi hl nU hq AC B7 h;refine⟨hg.block g Ax (λh=>AO (Jn g h.symm)),λDh=>?_⟩;rcases hv g Dh with hv|hv
 ·exact AO hv
 ·omega
theorem KeepR.ofRow{t:Yr}{e:Ty}{ver ver':Yn}{l l':Ye e.den}{sv AS:Yq}{Ac By:Ye (Ya Yq)}(AY:ver<=ver'/\(ver=ver'->AS=sv/\l'.length=l.length)):KeepR (Yg (.row t e ver l)) (Yg (.row t e ver' l')) sv Ac AS By:=by
 constructor
 ·intro t1 e1 Da l1 h1
  simp only[Af]at h1;injection h1 with h2 h3 h4 h5;subst h2 h3 h4;simp only[Jx]at h5;subst h5;exact⟨ver,l,rfl,AY.1,AY.2⟩
 ·intro t1 et1 e1 Da HK Zf l1 h1
  cases h1
 ·intro t1 e1 Da HK Zf l1 h1
  cases h1
theorem KeepR.ofTree{t:Yr}{e:OT}{ver ver' Ah B8:Yn}{hole Hn:Ya Path}{l l':Ye e.ty.den}{sv AS:Yq}{Ac By:Ye (Ya Yq)}(AY:ver<=ver'/\Ah<=B8/\(ver=ver'->AS=sv/\KeepT (Ah=B8) t e hole Hn l l' sv Ac By)):KeepR (Yg (.tree t e ver Ah hole l)) (Yg (.tree t e ver' B8 Hn l')) sv Ac AS By:=by
 constructor
 ·intro t1 e1 Da l1 h1
  cases h1
 ·intro t1 et1 e1 Da HK Zf l1 h1
  cases h1
 ·intro t1 e1 Da HK Zf l1 h1
  simp only[Af]at h1;injection h1 with h2 h3 h4 h5 h6 h7;subst h2 h3 h4 h5 h6;simp only[Jx]at h7;subst h7;exact⟨ver,Ah,hole,l,rfl,AY.1,AY.2.1,AY.2.2⟩
theorem KeepR.ofDead{B:Ya Blk}{sv AS:Yq}{Ac By:Ye (Ya Yq)}:KeepR B (Yg .dead) sv Ac AS By:=
 ⟨λ_ _ _ _ h=>(by cases h),λ_ _ _ _ _ _ _ h=>(by cases h),λ_ _ _ _ _ _ h=>(by cases h)⟩
theorem Step.grown(_hr:RelB ok0 base pl bl w){i:Yn}{t:Yr}{e:Ty}{ver ver':Yn}{l l':Ye e.den}(hi:bl i=Yg (.row t e ver l)){sv AS:Yq}(AC:pl i=Yg (.row sv [])){w':Yx}(hg:w.grownBy w' sv.ownBlock)(hv:AS.ownBlock=sv.ownBlock\/∀g,AS.ownBlock=Yg g->w.heap.size<=g)(AY:ver<=ver'/\(ver=ver'->AS=sv/\l'.length=l.length)):Step pl bl w (upd pl i (.row AS [])) (upd bl i (.row t e ver' l')) w':=
 Step.grownP _hr hi rfl AC hg (λg h=>.inl h) (λg h=>by
  have h:=Pl.has_row h;rcases hv with hv|hv
  ·exact .inl (.inl (hv▸h))
  ·exact .inr (hv g h)) (KeepR.ofRow AY)
theorem RelB.grown(hr:RelB ok0 base pl bl w){i:Yn}{t:Yr}{e:Ty}{ver ver':Yn}{l l':Ye e.den}(hi:bl i=Yg (.row t e ver l)){sv AS:Yq}(AC:pl i=Yg (.row sv [])){w':Yx}(hg:w.grownBy w' sv.ownBlock)(hv:AS.ownBlock=sv.ownBlock\/∀g,AS.ownBlock=Yg g->w.heap.size<=g)(AY:ver<=ver'/\(ver=ver'->AS=sv/\l'.length=l.length))(hB:BRep (At ok0 base (upd pl i (.row AS [])) (upd bl i (.row t e ver' l')) w') (.row t e ver' l') (.row AS [])):RelB ok0 base (upd pl i (.row AS [])) (upd bl i (.row t e ver' l')) w':=
 RelB.grownP hr hi rfl AC hg (λg h=>.inl h) (λg h=>by
  have h:=Pl.has_row h;rcases hv with hv|hv
  ·exact .inl (.inl (hv▸h))
  ·exact .inr (hv g h)) (KeepR.ofRow AY) hB
theorem Step.wroteB(_hr:RelB ok0 base pl bl w){i g0:Yn}{B B':Blk}(hi:bl i=Yg B)(hl:B.live=Yp)(AC:pl i=Yg (.cells g0)){w':Yx}(hg:w.grownBy w' (Yg g0)):Step pl bl w (upd pl i (.cells g0)) (upd bl i B') w':=by
 have Aq:Own pl bl g0:=⟨i,_,_,hi,hl,AC,rfl⟩;refine⟨hg.os,hg.tape,hg.output,hg.size,λg Ax ho=>⟨hg.block g Ax (λh=>ho (by injection h with h;subst h;exact Aq)),?_⟩,λb g hb=>?_,λb sv0 ZE hb=>?_⟩
 ·rintro⟨j,C,q,hC,hl,hq,B7⟩
  by_cases hj:j=i
  ·subst hj
   simp only[upd,D6,Af]at hC hq;subst hq;have B7:g0=g:=B7;subst B7;exact ho Aq
  ·simp only[upd,hj,CN]at hC hq
   exact ho ⟨j,C,q,hC,hl,hq,B7⟩
 ·by_cases CQ:b=i
  ·subst CQ;rw[AC]at hb;simpa [upd]using hb
  ·simp[upd,CQ,hb]
 ·have CQ:b≠i:=by rintro rfl;rw[AC]at hb;cases hb
  exact⟨sv0,ZE,by simp[upd,CQ,hb],KeepR.of_eq (λC hC=>by simpa [upd,CQ]using hC) _ _⟩
theorem RelB.wroteB(hr:RelB ok0 base pl bl w){i g0:Yn}{B B':Blk}(hi:bl i=Yg B)(GT:B.live=Yp)(AC:pl i=Yg (.cells g0)){w':Yx}(hg:w.grownBy w' (Yg g0))(hB:BRep (At ok0 base (upd pl i (.cells g0)) (upd bl i B') w') B' (.cells g0)):RelB ok0 base (upd pl i (.cells g0)) (upd bl i B') w':=by
 refine hr.put (Step.wroteB hr hi GT AC hg) hB λj C q g hj hC hl hq B7=>?_;have Ax:g<w.heap.size:=Own.lt hr ⟨j,C,q,hC,hl,hq,B7⟩;have AO:g0≠g:=λh=>hr.sep j i _ _ _ _ g hj hC hi hl GT hq AC B7 h;exact⟨hg.block g Ax (λh=>AO (by injection h with h;exact h.symm)),λDh=>AO Dh⟩
theorem Step.wrote(hr:RelB ok0 base pl bl w){i g0:Yn}{t:Yr}{cs cs':Ye C}(hi:bl i=Yg (.cells t cs))(AC:pl i=Yg (.cells g0)){w':Yx}(hg:w.grownBy w' (Yg g0)):Step pl bl w (upd pl i (.cells g0)) (upd bl i (.cells t cs')) w':=Step.wroteB hr hi rfl AC hg
theorem RelB.wrote(hr:RelB ok0 base pl bl w){i g0:Yn}{t:Yr}{cs cs':Ye C}(hi:bl i=Yg (.cells t cs))(AC:pl i=Yg (.cells g0)){w':Yx}(hg:w.grownBy w' (Yg g0))(hB:BRep (At ok0 base (upd pl i (.cells g0)) (upd bl i (.cells t cs')) w') (.cells t cs') (.cells g0)):RelB ok0 base (upd pl i (.cells g0)) (upd bl i (.cells t cs')) w':=RelB.wroteB hr hi rfl AC hg hB
def CA(pl:Yn->Ya Pl)(bl:Yn->Ya Blk)(i g:Yn):Prop:=∃B p,bl i=Yg B/\B.live=Yp/\pl i=Yg p/\p.has g
theorem Step.two(_hr:RelB ok0 base pl bl w){i j:Yn}(Dv:i≠j){Bi Bj:Blk}{pi pj:Pl}{w':Yx}{og:Ya Yn}(hg:w.grownBy w' og)(Jn:∀g,og=Yg g->CA pl bl i g\/CA pl bl j g)(hi:∀g,Bi.live=Yp->pi.has g->CA pl bl i g\/CA pl bl j g\/w.heap.size<=g)(hj:∀g,Bj.live=Yp->pj.has g->CA pl bl i g\/CA pl bl j g\/w.heap.size<=g)(AKY:∀g,pl i=Yg (.cells g)->pi=.cells g)(XC:∀g,pl j=Yg (.cells g)->pj=.cells g)(AM8:∀sv Ac,pl i=Yg (.row sv Ac)->∃AS By,pi=.row AS By/\KeepR (bl i) (Yg Bi) sv Ac AS By)(AM9:∀sv Ac,pl j=Yg (.row sv Ac)->∃AS By,pj=.row AS By/\KeepR (bl j) (Yg Bj) sv Ac AS By):Step pl bl w (upd (upd pl i pi) j pj) (upd (upd bl i Bi) j Bj) w':=by
 have hOwn:∀k g,CA pl bl k g->Own pl bl g:=λk g ⟨B,p,h1,h2,h3,h4⟩=>⟨k,B,p,h1,h2,h3,h4⟩;refine⟨hg.os,hg.tape,hg.output,hg.size,λg Ax ho=>⟨hg.block g Ax (λh=>?_),?_⟩,λb g hb=>?_,λb sv Ac hb=>?_⟩
 ·rcases Jn g h.symm with h|h
  ·exact ho (hOwn i g h)
  ·exact ho (hOwn j g h)
 ·rintro⟨k,C,q,hC,hl,hq,B7⟩
  by_cases DU:k=j
  ·subst DU
   simp only[upd,D6,Af]at hC hq;subst hq hC;rcases hj g hl B7 with h|h|h
   ·exact ho (hOwn i g h)
   ·exact ho (hOwn k g h)
   ·omega
  ·by_cases F3:k=i
   ·subst F3
    simp only[upd,DU,CN,D6,Af]at hC hq;subst hq hC;rcases hi g hl B7 with h|h|h
    ·exact ho (hOwn k g h)
    ·exact ho (hOwn j g h)
    ·omega
   ·simp only[upd,DU,F3,CN]at hC hq
    exact ho ⟨k,C,q,hC,hl,hq,B7⟩
 ·by_cases DU:b=j
  ·subst DU;simp[upd,XC g hb]
  ·by_cases F3:b=i
   ·subst F3;simp[upd,DU,AKY g hb]
   ·simp[upd,DU,F3,hb]
 ·by_cases DU:b=j
  ·subst DU
   obtain⟨AS,By,h1,h2⟩:=AM9 sv Ac hb;exact⟨AS,By,by simp[upd,h1],by simpa [upd]using h2⟩
  ·by_cases F3:b=i
   ·subst F3
    obtain⟨AS,By,h1,h2⟩:=AM8 sv Ac hb;exact⟨AS,By,by simp[upd,DU,h1],by simpa [upd,DU]using h2⟩
   ·exact⟨sv,Ac,by simp[upd,DU,F3,hb],KeepR.of_eq (λC hC=>by simpa [upd,DU,F3]using hC) _ _⟩
theorem RelB.two(hr:RelB ok0 base pl bl w){i j:Yn}(Dv:i≠j){Bi Bj:Blk}{pi pj:Pl}{w':Yx}{og:Ya Yn}(hg:w.grownBy w' og)(Jn:∀g,og=Yg g->CA pl bl i g\/CA pl bl j g)(hi:∀g,Bi.live=Yp->pi.has g->CA pl bl i g\/CA pl bl j g\/w.heap.size<=g)(hj:∀g,Bj.live=Yp->pj.has g->CA pl bl i g\/CA pl bl j g\/w.heap.size<=g)(hd:∀g,Bi.live=Yp->Bj.live=Yp->pi.has g->¬pj.has g)(hs:Step pl bl w (upd (upd pl i pi) j pj) (upd (upd bl i Bi) j Bj) w')(hBi:BRep (At ok0 base (upd (upd pl i pi) j pj) (upd (upd bl i Bi) j Bj) w') Bi pi)(hBj:BRep (At ok0 base (upd (upd pl i pi) j pj) (upd (upd bl i Bi) j Bj) w') Bj pj):RelB ok0 base (upd (upd pl i pi) j pj) (upd (upd bl i Bi) j Bj) w':=by
 have Nr:∀k C q g,k≠i->k≠j->bl k=Yg C->C.live=Yp->pl k=Yg q->q.has g->w'.heap[g]?=w.heap[g]?/\(Bi.live=Yp->¬pi.has g)/\(Bj.live=Yp->¬pj.has g):=by
  intro k C q g F3 DU hC hl hq B7;have Ax:g<w.heap.size:=Own.lt hr ⟨k,C,q,hC,hl,hq,B7⟩;have Np:∀m,k≠m->¬CA pl bl m g:=λm hm ⟨B,p,h1,h2,h3,h4⟩=>hr.sep k m C B q p g hm hC h1 hl h2 hq h3 B7 h4;refine⟨hg.block g Ax (λh=>?_),λAdC h=>?_,λALw h=>?_⟩
  ·rcases Jn g h.symm with h|h
   ·exact Np i F3 h
   ·exact Np j DU h
  ·rcases hi g AdC h with h|h|h
   ·exact Np i F3 h
   ·exact Np j DU h
   ·omega
  ·rcases hj g ALw h with h|h|h
   ·exact Np i F3 h
   ·exact Np j DU h
   ·omega
 have Ap:∀k,upd (upd bl i Bi) j Bj k=if k=j then Yg Bj else if k=i then Yg Bi else bl k:=λk=>rfl;have Bp:∀k,upd (upd pl i pi) j pj k=if k=j then Yg pj else if k=i then Yg pi else pl k:=λk=>rfl;refine⟨DC hr.baseLe hs.size,λk C hC=>?_,λk m C D q r g JI hC hD hlC hlD hq BA B7=>?_,λk hk=>?_,hr.glob.out hs.size hs.out⟩
 ·by_cases DU:k=j
  ·subst DU
   simp only[upd,D6,Af]at hC;subst hC;exact⟨pj,by simp[upd],hBj⟩
  ·by_cases F3:k=i
   ·subst F3
    simp only[upd,DU,CN,D6,Af]at hC;subst hC;exact⟨pi,by simp[upd,DU],hBi⟩
   ·simp only[upd,DU,F3,CN]at hC⊢
    obtain⟨q,hq,hBq⟩:=hr.blks k C hC;refine⟨q,hq,?_⟩;cases hl:C.live with
    |false=>cases C<;>first|exact trivial|simp[Blk.live]at hl
    |true=>exact BRep.mono hs.ext hBq λg B7=>(Nr k C q g F3 DU hC hl hq B7).1
 ·rw[Ap]at hC hD
  rw[Bp]at hq BA;by_cases DU:k=j
  ·subst DU
   have QG:m≠k:=λh=>JI h.symm;simp only[D6,QG,CN,Af]at hC hD hq BA;subst hC hq;by_cases Tm:m=i
   ·subst Tm
    simp only[D6,Af]at hD BA;subst hD BA;exact λh=>hd g hlD hlC h B7
   ·simp only[Tm,CN]at hD BA
    exact λh=>(Nr m D r g Tm QG hD hlD BA h).2.2 hlC B7
  ·by_cases F3:k=i
   ·subst F3
    simp only[DU,CN,D6,Af]at hC hq;subst hC hq;by_cases JJ:m=j
    ·subst JJ
     simp only[D6,Af]at hD BA;subst hD BA;exact hd g hlC hlD B7
    ·have QG:m≠k:=λh=>JI h.symm
     simp only[JJ,QG,CN]at hD BA;exact λh=>(Nr m D r g QG JJ hD hlD BA h).2.1 hlC B7
   ·simp only[DU,F3,CN]at hC hq
    by_cases JJ:m=j
    ·subst JJ
     simp only[D6,Af]at hD BA;subst hD BA;exact(Nr k C q g F3 DU hC hlC hq B7).2.2 hlD
    ·by_cases Tm:m=i
     ·subst Tm
      simp only[JJ,CN,D6,Af]at hD BA;subst hD BA;exact(Nr k C q g F3 DU hC hlC hq B7).2.1 hlD
     ·simp only[JJ,Tm,CN]at hD BA
      exact hr.sep k m C D q r g JI hC hD hlC hlD hq BA B7
 ·rw[Ap]at hk
  rw[Bp];by_cases DU:k=j
  ·simp[DU]at hk
  ·by_cases F3:k=i
   ·simp[F3]at hk
    split at hk<;>cases hk
   ·simp only[DU,F3,CN]at hk⊢
    exact hr.fresh k hk
end
end Go.Lift
namespace Go.Lift
open Go.RowKit
def J3(P:Yw)(t:Yr):Ys:=
 match P.underlying t with
 |some (.struct _)|some (.array _ _)=>Yp
 |_=>Yi
def tyOf(P:Yw):Yn->Yr->Ya Ty
 |0,_=>Yf
 |n+1,t=>
  match P.underlying t with
  |some .bool=>Yg .bool
  |some (.int k)=>Yg (.int k)
  |some .string=>Yg .str
  |some (.interface ms)=>bif Yd (ms=P.methodsAt t)then Yg .err else Yf
  |some (.slice e)=>(tyOf P n e).map .slice
  |some (.struct fs)=>many (fs.toList.map λf=>tyOf P n f.type)
  |some (.array m e)=>many (Y8 m (tyOf P n e))
  |_=>Yf
 where
 many:Ye (Ya Ty)->Ya Ty
  |[]=>Yg .unit
  |[t]=>t
  |some t::r=>(many r).map (.prod t)
  |none::_=>Yf
def zeroC(v:Yq):C:=
 match C.ofValue v with
 |some c=>c
 |none=>.junk
def LL(P:Yw)(t:Yr):Ya BK:=
 match P.underlying t with
 |some .bool=>Yg .b
 |some (.int _)=>Yg .i
 |some .string=>Yg .s
 |_=>Yf
def Un(P:Yw):Yn->Ye Field->Ya (Ye BK)
 |_,[]=>Yg []
 |i,f::fs=>
  bif f.name != "_"&&Yo f.offset i then
   match LL P f.type,Un P (i+1) fs with
   |some k,Yg ks=>Yg (k::ks)
   |_,_=>Yf
  else Yf
def Afd(P:Yw)(t:Yr):Ya (Ye BK):=
 match P.underlying t,P.info? t with
 |some (.struct gs),Yg i=>
  match Un P 0 gs.toList with
  |some js=>bif !P.stoodInHeld t&&Yo i.size js.length then Yg js else Yf
  |none=>Yf
 |_,_=>Yf
def R0(P:Yw):Yn->Ye Field->Ya (Ye BK)
 |_,[]=>Yg []
 |i,f::fs=>
  bif f.name != "_"&&Yo f.offset i then
   match LL P f.type with
   |some k=>
    match R0 P (i+1) fs with
    |some ks=>Yg (k::ks)
    |none=>Yf
   |none=>
    match Afd P f.type with
    |some js=>
     match R0 P (i+js.length) fs with
     |some ks=>Yg (js++ks)
     |none=>Yf
    |none=>Yf
  else Yf
def Uo(P:Yw)(t:Yr):Ya (Ye BK):=
 match P.underlying t with
 |some (.struct fs)=>bif P.stoodInHeld t||P.eqGuardType P.depth t then Yf else R0 P 0 fs.toList
 |some (.array n e)=>
  match LL P e with
  |some k=>bif Yo (P.cellsOf e) 1&&!P.eqGuardType P.depth t then Yg (Y8 n k)else Yf
  |none=>Yf
 |_=>Yf
def bF(P:Yw):YD->Ye (Yn×Yn×Ys)
 |.struct fs=>fs.toList.map λf=>(f.offset,P.cellsOf f.type,J3 P f.type)
 |_=>[]
def bG:YD->Ya Yr
 |.slice e=>Yg e
 |.array _ e=>Yg e
 |_=>Yf
def lenD:YD->Ya Yn
 |.array n _=>Yg n
 |_=>Yf
def R2:YD->Ya YT
 |.int k=>Yg k
 |_=>Yf
def R3(P:Yw):YD->Ys
 |.struct fs=>fs.toList.all λf=>(P.info? f.type).isSome&&(P.underlying f.type).isSome
 |.slice e=>(P.info? e).isSome&&(P.underlying e).isSome
 |.array _ e=>(P.info? e).isSome&&(P.underlying e).isSome
 |_=>Yp
def mpD:YD->Ya (Yr×Yr)
 |.map k v=>Yg (k,v)
 |_=>Yf
def bH:YD->Ys
 |.string=>Yp
 |_=>Yi
def bI:YD->Ys
 |.bool=>Yp
 |_=>Yi
def r5:YD->Ys
 |.pointer _=>Yp
 |_=>Yi
def Up:Yq->Ys
 |.agg _=>Yp
 |_=>Yi
def tiOf(P:Yw)(t:Yr):Ya TI:=
 match P.info? t,P.underlying t with
 |some i,Yg d=>
  match i.zero with
  |some z=>
   bif z.cells.toList.all (·.oneCell')&&(Yo z.cells.toList.length i.size&&(R3 P d&&(Up z==J3 P t)))then
    Yg {
     agg:=J3 P t
     size:=i.size
     bytes:=i.bytes
     zero:=z.cells.toList.map zeroC
     flds:=bF P d
     elem:=bG d
     len:=lenD d
     ty:=tyOf P 12 t
     kind:=R2 d
     isBool:=bI d
     isStr:=bH d
     eqs:=Uo P t
     mp:=mpD d
     ptr:=r5 d}
   else Yf
  |none=>Yf
 |_,_=>Yf
def TOk(P:Yw)(T:Yr->Ya TI):Prop:=∀t ti,T t=Yg ti->tiOf P t=Yg ti
structure TFacts (P:Yw) (t:Yr) (ti:TI) (i:YN) (d:YD) (z:Yq):Prop where
 info:P.info? t=Yg i
 under:P.underlying t=Yg d
 zero:i.zero=Yg z
 agg:ti.agg=J3 P t
 size:ti.size=i.size
 bytes:ti.bytes=i.bytes
 zeroC:ti.zero=z.cells.toList.map zeroC
 one:z.cells.toList.all (·.oneCell')=Yp
 len:z.cells.toList.length=i.size
 known:R3 P d=Yp
 flds:ti.flds=bF P d
 elem:ti.elem=bG d
 alen:ti.len=lenD d
 kind:ti.kind=R2 d
 isBool:ti.isBool=bI d
 isStr:ti.isStr=bH d
 eqs:ti.eqs=Uo P t
 mp:ti.mp=mpD d
 ptr:ti.ptr=r5 d
 ty:ti.ty=tyOf P 12 t
 zagg:Up z=J3 P t
theorem TOk.facts{P:Yw}{T:Yr->Ya TI}(h:TOk P T){t:Yr}{ti:TI}(ht:T t=Yg ti):∃i d z,TFacts P t ti i d z:=by
 have h1:=h t ti ht;unfold tiOf at h1;split at h1
 ·rename_i i d hi hd
  split at h1
  ·rename_i z hz
   cases hb:(z.cells.toList.all (·.oneCell')&&(Yo z.cells.toList.length i.size&&(R3 P d&&(Up z==J3 P t))))with
   |false=>rw[hb]at h1;cases h1
   |true=>simp only[hb,As,Af]at h1;subst h1;simp only[Dk]at hb;exact⟨i,d,z,hi,hd,hz,rfl,rfl,rfl,rfl,hb.1,AB hb.2.1,hb.2.2.1,rfl,rfl,rfl,rfl,rfl,rfl,rfl,rfl,rfl,rfl,by simpa using hb.2.2.2⟩
  ·cases h1
 ·cases h1
theorem C.ofValue_rep{E:Env}{v:Yq}{c:C}(h:C.ofValue v=Yg c):CRep E c v:=by
 unfold C.ofValue at h
 split at h<;>first
  |(simp only[Af]at h;subst h;rfl)
  |cases h
theorem Att{E:Env}{v:Yq}(h:v.oneCell'=Yp):CRep E (zeroC v) v:=by
 unfold zeroC;cases hc:C.ofValue v with
 |none=>exact h
 |some c=>exact C.ofValue_rep hc
theorem NH{E:Env}:∀{vs:Ye Yq},vs.all (·.oneCell')=Yp->CReps E (vs.map zeroC) vs
 |[],_=>rfl
 |v::vs,h=>by simp only[Rh,Dk]at h;exact⟨v,vs,rfl,Att h.1,NH h.2⟩
theorem C.ofValues_rep{E:Env}:∀{vs:Ye Yq}{cs:Ye C},C.ofValues vs=Yg cs->CReps E cs vs
 |[],cs,h=>by simp only[C.ofValues,Af]at h;subst h;rfl
 |v::vs,cs,h=>by
  simp only[C.ofValues]at h;split at h
  ·rename_i x xs hx Ae
   simp only[Af]at h;subst h;exact⟨v,vs,rfl,C.ofValue_rep hx,C.ofValues_rep Ae⟩
  ·cases h
theorem V.ofValue_rep{E:Env}(v:Yq):VRep E (V.ofValue v) v:=by
 unfold V.ofValue;split
 ·rename_i cs
  split
  ·rename_i l hl
   exact⟨cs.toList,C.ofValues_rep hl,by simp⟩
  ·exact trivial
 ·split
  ·rename_i x hx
   exact C.ofValue_rep hx
  ·exact trivial
section
variable{E:Env}
theorem CReps.append:∀{cs ds:Ye C}{vs us:Ye Yq},CReps E cs vs->CReps E ds us->CReps E (cs++ds) (vs++us)
 |[],_,_,_,h,k=>by simp only[CReps]at h;subst h;simpa using k
 |_::_,_,_,_,⟨v,Az,e,h,ht⟩,k=>⟨v,Az++_,by rw[e];rfl,h,CReps.append ht k⟩
theorem CReps.drop:∀{cs:Ye C}{vs:Ye Yq}(n:Yn),CReps E cs vs->CReps E (cs.drop n) (vs.drop n)
 |[],_,n,h=>by simp only[CReps]at h;subst h;simp[CReps]
 |_::_,_,0,h=>by simpa using h
 |_::_,_,n+1,⟨v,Az,e,h,ht⟩=>by subst e;simpa using CReps.drop n ht
theorem CReps.take:∀{cs:Ye C}{vs:Ye Yq}(n:Yn),CReps E cs vs->CReps E (cs.take n) (vs.take n)
 |[],_,n,h=>by simp only[CReps]at h;subst h;simp[CReps]
 |_::_,_,0,h=>by simp[CReps]
 |_::_,_,n+1,⟨v,Az,e,h,ht⟩=>by subst e;exact⟨v,Az.take n,by simp,h,CReps.take n ht⟩
theorem CReps.split:∀{cs ds:Ye C}{vs:Ye Yq},CReps E (cs++ds) vs->∃us ws,vs=us++ws/\CReps E cs us/\CReps E ds ws
 |[],_,vs,h=>⟨[],vs,rfl,rfl,h⟩
 |_::cs,_,_,⟨v,Az,e,h,ht⟩=>by obtain⟨us,ws,e',h1,h2⟩:=CReps.split (cs:=cs) ht;exact⟨v::us,ws,by rw[e,e'];rfl,⟨v,us,rfl,h,h1⟩,h2⟩
theorem CReps.oneCell:∀{cs:Ye C}{vs:Ye Yq},CReps E cs vs->∀v∈vs,v.oneCell'=Yp
 |[],_,h,v,hv=>by simp only[CReps]at h;subst h;simp at hv
 |_::_,_,⟨u,Az,e,h,ht⟩,v,hv=>by
  subst e;rcases Bl.1 hv with rfl|hv
  ·exact CRep.oneCell h
  ·exact CReps.oneCell ht v hv
theorem VRep.cells_of{x:V}{cs:Ye C}{v:Yq}(hx:x.cells=Yg cs)(h:VRep E x v):CReps E cs v.cells.toList:=by
 cases x with
 |c c=>simp only[V.cells,Af]at hx;subst hx;have h1:=CRep.oneCell h;refine⟨v,[],?_,h,rfl⟩;cases v<;>first|rfl|simp[Value.oneCell']at h1
 |agg ds=>simp only[V.cells,Af]at hx;subst hx;obtain⟨vs,h1,h2⟩:=h;simp only[D6]at h2;subst h2;simpa [Value.cells]using h1
 |junk=>simp[V.cells]at hx
 |tup _=>simp[V.cells]at hx
 |eptr _ _ _ _=>simp[V.cells]at hx
 |lptr _ _ _=>simp[V.cells]at hx
 |arr _ _ _ _=>simp[V.cells]at hx
 |mcell _ _ _=>simp[V.cells]at hx
 |mptr _ _ _ _ _=>simp[V.cells]at hx
theorem VRep.mk{agg:Ys}{cs:Ye C}{v:Yq}(h:SRep E agg cs v):VRep E (V.mk agg cs) v:=by
 unfold V.mk;cases agg with
 |true=>exact h
 |false=>
  simp only[C7];split
  ·rename_i x
   obtain⟨vs,h1,h2⟩:=h;simp only[IQ,CN]at h2;subst h2;obtain⟨u,us,e,h3,h4⟩:=h1;simp only[Dx]at e;rw[e.1];exact h3
  ·exact trivial
theorem Iq:∀{τ:Ty}{x:τ.den}{vs:Ye Yq},DRep E.w E.ok τ x vs->CReps E (cells τ x) vs
 |.bool,_,_,h=>⟨_,[],h,rfl,rfl⟩
 |.int _,_,_,h=>⟨_,[],h,rfl,rfl⟩
 |.str,_,_,h=>⟨_,[],h,rfl,rfl⟩
 |.err,_,_,h=>by simp only[DRep]at h;obtain⟨v,e,hv⟩:=h;exact⟨v,[],e,hv,rfl⟩
 |.unit,_,_,h=>h
 |.prod a b,_,_,h=>by simp only[DRep]at h;obtain⟨u,v,e,h1,h2⟩:=h;rw[e];exact(Iq h1).append (Iq h2)
 |.slice e,l,vs,h=>by have h':=h;simp only[DRep]at h';obtain⟨A,c,xs,e1,_⟩:=h';subst e1;exact⟨_,[],rfl,h,rfl⟩
theorem r6:∀(τ:Ty)(x:τ.den),(cells τ x).length=τ.size
 |.bool,_=>rfl
 |.int _,_=>rfl
 |.str,_=>rfl
 |.err,_=>rfl
 |.unit,_=>rfl
 |.prod a b,x=>by simp[cells,Ty.size,r6 a,r6 b]
 |.slice _,_=>rfl
theorem Pw{cs:Ye C}{vs:Ye Yq}{o n:Yn}{r:Ye C}(h:CReps E cs vs)(hs:sub cs o n=Yg r):CReps E r ((vs.drop o).take n)/\((vs.drop o).take n).length=n/\o+n<=vs.length:=by
 unfold sub at hs;cases hb:YI (o+n) cs.length with
 |false=>simp[hb]at hs
 |true=>simp only[hb,As,Af]at hs;subst hs;have BF:o+n<=cs.length:=IP hb;have hl:=h.length;exact⟨(h.drop o).take n,by simp;omega,by omega⟩
theorem Uq:∀{cs:Ye C}{vs:Ye Yq}{o:Yn}{new:Ye C}{us:Ye Yq}{r:Ye C},CReps E cs vs->CReps E new us->over cs o new=Yg r->CReps E r (vs.take o++us++vs.drop (o+us.length))/\o+us.length<=vs.length
 |cs,vs,0,new,us,r,h,hn,ho=>by
  unfold over at ho;cases hb:YI new.length cs.length with
  |false=>simp[hb]at ho
  |true=>simp only[hb,As,Af]at ho;subst ho;have BF:new.length<=cs.length:=IP hb;have h1:=h.length;have h2:=hn.length;refine⟨?_,by omega⟩;simp only[List.take_zero,GA,DZ];rw[h2];exact hn.append (h.drop _)
 |[],_,o+1,_,_,_,_,_,ho=>by simp[over]at ho
 |c::cs,vs,o+1,new,us,r,⟨v,Az,e,h,ht⟩,hn,ho=>by
  simp only[over]at ho;split at ho
  ·rename_i r' BA
   simp only[Af]at ho;subst ho e;obtain⟨h1,h2⟩:=Uq ht hn BA;refine⟨⟨v,_,?_,h,h1⟩,by simp;omega⟩;have:o+1+us.length=(o+us.length)+1:=by omega
   rw[this];simp
  ·cases ho
end
end Go.Lift
namespace Go.Lift
open Go.RowKit
theorem andB{a b:Ys}(h:(a&&b)=Yp):a=Yp/\b=Yp:=by simpa using h
theorem DN{β:Type}{c:Ys}{x:Ya β}{r:β}(h:DD c x=Yg r):c=Yp/\x=Yg r:=by
 cases c with
 |false=>cases h
 |true=>exact⟨rfl,h⟩
structure Rows (E:Env) (blp:Yn->Ya Blk) (okp:Yn->Prop) (ids:Ye Yn):Prop where
 ok:∀g,E.ok g->okp g
 row:∀b∈ids,∀t e ver l,blp b=Yg (.row t e ver l)->E.bl b=Yg (.row t e ver l)/\∀sv g,E.pl b=Yg (.row sv [])->sv.ownBlock=Yg g->okp g
 mat:∀b∈ids,∀t et e ver Ah hole l,blp b=Yg (.mat t et e ver Ah hole l)->E.bl b=Yg (.mat t et e ver Ah hole l)/\∀sv Ac g,E.pl b=Yg (.row sv Ac)->(Pl.row sv Ac).has g->okp g
 tree:∀b∈ids,∀t e ver Ah h l,blp b=Yg (.tree t e ver Ah h l)->E.bl b=Yg (.tree t e ver Ah h l)/\∀sv Ac g,E.pl b=Yg (.row sv Ac)->(Pl.row sv Ac).has g->okp g
theorem DList.take{w:Yx}{ok:Yn->Prop}{e:Ty}:∀{l:Ye e.den}{xs:Ye Yq}(n:Yn),DList (λx u=>DRep w ok e x u) l xs->DList (λx u=>DRep w ok e x u) (l.take n) (xs.take (n*e.size))
 |[],_,n,h=>by simp only[DList]at h;subst h;simp[DList]
 |_::_,_,0,h=>by simp[DList]
 |x::l,xs,n+1,⟨u,v,e1,hr,ht⟩=>by refine⟨u,v.take (n*e.size),?_,hr,DList.take n ht⟩;have hu:=hr.length;rw[e1,Hr,aA,GY (by omega)];congr 2;omega
theorem DList.drop{w:Yx}{ok:Yn->Prop}{e:Ty}:∀{l:Ye e.den}{xs:Ye Yq}(n:Yn),DList (λx u=>DRep w ok e x u) l xs->DList (λx u=>DRep w ok e x u) (l.drop n) (xs.drop (n*e.size))
 |[],_,n,h=>by simp only[DList]at h;subst h;simp[DList]
 |_::_,_,0,h=>by simpa using h
 |x::l,xs,n+1,⟨u,v,e1,hr,ht⟩=>by
  have hu:=hr.length;have h2:=DList.drop n ht
  have e2:xs.drop ((n+1)*e.size)=v.drop (n*e.size):=by rw[e1,Hr,aB,Rb (l:=u) (by omega),GA];congr 1;omega
  rw[e2];simpa using h2
theorem bJ{c:C}{cs:Ye C}{b:Yn}(h:b∈CE cs):b∈CE (c::cs):=by cases c<;>simp_all [CE]
theorem Rows.tail{E:Env}{blp:Yn->Ya Blk}{okp:Yn->Prop}{c:C}{cs:Ye C}(h:Rows E blp okp (CE (c::cs))):Rows E blp okp (CE cs):=
 ⟨h.ok,λb hb=>h.row b (bJ hb),λb hb=>h.mat b (bJ hb),λb hb=>h.tree b (bJ hb)⟩
theorem Rows.sub{E:Env}{blp:Yn->Ya Blk}{okp:Yn->Prop}{a b:Ye Yn}(h:Rows E blp okp a)(hs:∀x∈b,x∈a):Rows E blp okp b:=⟨h.ok,λx hx=>h.row x (hs x hx),λx hx=>h.mat x (hs x hx),λx hx=>h.tree x (hs x hx)⟩
theorem Ur:∀(cs ds:Ye C),CE (cs++ds)=CE cs++CE ds
 |[],_=>rfl
 |c::cs,ds=>by cases c<;>simp[CE,Ur cs ds]
def Ez(E:Env):Prop:=∀i B,E.bl i=Yg B->∃p,E.pl i=Yg p/\BRep E B p
theorem bK{E:Env}{blp:Yn->Ya Blk}(hb:Ez E){b ver:Yn}{e:Ty}{l:Ye e.den}(AX:∀t e ver l,blp b=Yg (.row t e ver l)->E.bl b=Yg (.row t e ver l))(h:IU blp b ver e=Yg l):∃t sv xs,blp b=Yg (.row t e ver l)/\E.bl b=Yg (.row t e ver l)/\E.pl b=Yg (.row sv [])/\DList (λx u=>DRep E.w E.ok e x u) l xs/\E.w.ownsRow E.base t e.size sv l.length xs:=by
 unfold IU at h;split at h
 ·rename_i t e' ver' l' XA
  have Ap:=AX _ _ _ _ XA;cases AY:Yo ver ver' with
  |false=>rw[AY]at h;cases h
  |true=>
   have:ver=ver':=AB AY;subst this;simp only[AY,As]at h;split at h
   ·rename_i he
    subst he;simp only[Af]at h;subst h;obtain⟨p,D0,hB⟩:=hb b _ Ap;cases p with
    |cells _=>exact hB.elim
    |row sv Ac=>obtain⟨h0,xs,hd,ho⟩:=hB;subst h0;exact⟨t,sv,xs,XA,Ap,D0,hd,ho⟩
   ·cases h
 ·cases h
theorem r7{E:Env}{blp:Yn->Ya Blk}(hb:Ez E){b ver:Yn}{e:Ty}{l:Ye e.den}(AX:∀t e ver l,blp b=Yg (.row t e ver l)->E.bl b=Yg (.row t e ver l))(h:IU blp b ver e=Yg l){v:Yq}(hv:CRep E (.row b ver) v):∃t sv xs,E.bl b=Yg (.row t e ver l)/\E.pl b=Yg (.row sv [])/\v=sv/\DList (λx u=>DRep E.w E.ok e x u) l xs/\E.w.ownsRow E.base t e.size sv l.length xs:=by
 obtain⟨t,sv,xs,_,Ap,hp,hd,ho⟩:=bK hb AX h;obtain⟨h1,sv2,L0,CY,Bg⟩:=hv;rw[hp]at CY;injection CY with CY;injection CY with CY _;subst CY;exact⟨t,sv,xs,Ap,hp,(Bg t e ver l Ap).2 rfl,hd,ho⟩
theorem r8{w:Yx}{okI:Yn->Prop}{base:Yn}{t:Yr}{e:Ty}{l:Ye e.den}{sv v:Yq}{xs:Ye Yq}{i j:Yn}(Dv:i<=j/\j<=l.length/\∃A A' n c,sv=.slice A n c/\v=.slice A' (j-i) (c-i)/\(i<j->A'=A.map (·.add (i*e.size)))/\(i=0->A'=A))(hd:DList (λx u=>DRep w okI e x u) l xs)(ho:w.ownsRow base t e.size sv l.length xs):∃A c ys,v=.slice A ((l.take j).drop i).length c/\((l.take j).drop i).length<=c/\c<=Yaj/\DList (λx u=>DRep w okI e x u) ((l.take j).drop i) ys/\∀k u,ys[k]?=Yg u->∃ad,A=Yg ad/\sv.ownBlock=Yg ad.block/\w.cell? (ad.add k)=Yg u:=by
 obtain⟨h1,h2,A,A',n,c,AA,hv,hA,_⟩:=Dv;have AU:((l.take j).drop i).length=j-i:=by simp;omega
 have Aq:=ho
 have hc:l.length<=c/\c<=Yaj:=by
  rcases ho.2 with⟨e1,hn⟩|⟨g,cap,Ba,e1,Cs,hh,FD,FC,De,Jr⟩
  ·rw[AA]at e1
   injection e1 with _ _ e3;subst e3;exact⟨by omega,by simp[Yaj]⟩
  ·rw[AA]at e1
   injection e1 with _ _ e3;subst e3;exact⟨FD,FC⟩
 refine⟨A',c-i,(xs.take (j*e.size)).drop (i*e.size),by rw[hv,AU],by rw[AU];omega,by omega,(hd.take j).drop i,λk u hk=>?_⟩;rw[Rd,N9]at hk;split at hk
 ·rename_i Ax
  have Dv:i<j:=by
   rcases TS i j with h|h
   ·exact h
   ·have:j*e.size<=i*e.size:=KO _ h
    omega
  rcases ho.2 with⟨e1,hn⟩|⟨g,cap,Ba,e1,Cs,hh,FD,FC,De,Jr⟩
  ·have:l=[]:=JV hn
   subst this;simp at h2;omega
  ·rw[AA]at e1
   injection e1 with e1 _ _;subst e1;refine⟨(⟨g,0,Yf⟩:Addr).add (i*e.size),hA Dv,by rw[AA,M7];rfl,?_⟩;rw[ND];exact Aq.cells (g:=g) (by rw[AA];rfl) _ _ hk
 ·cases hk
theorem Afe{E:Env}{okp:Yn->Prop}(Ds:∀g,E.ok g->okp g){t:Yr}{e:Ty}{l:Ye e.den}{sv:Yq}{xs:Ye Yq}(hg:∀g,sv.ownBlock=Yg g->okp g)(hd:DList (λx u=>DRep E.w E.ok e x u) l xs)(ho:E.w.ownsRow E.base t e.size sv l.length xs):DRep E.w okp (.slice e) l [sv]:=by
 simp only[DRep];have Ct:DList (λx u=>DRep E.w okp e x u) l xs:=hd.mono λx u hu=>hu.mono (λg h1 _=>⟨Ds g h1,rfl⟩);have Aq:=ho;rcases ho.2 with⟨rfl,hn⟩|⟨g,cap,Ba,rfl,Cs,hh,FD,FC,De,Jr⟩
 ·have hl:l=[]:=JV hn
  subst hl;simp only[DList]at Ct;subst Ct;exact⟨Yf,0,[],rfl,by simp,by simp[Yaj],rfl,by simp⟩
 ·refine⟨Yg ⟨g,0,Yf⟩,cap,xs,rfl,FD,FC,Ct,λj u hj=>⟨_,rfl,hg g rfl,Aq.cells (g:=g) rfl j u hj⟩⟩
theorem Atu{blp:Yn->Ya Blk}{b ver:Yn}{e:Ty}{l:Ye e.den}(h:TW blp b ver e=Yg l):∃t o Ah,∃(l':Ye o.ty.den)(he:o.ty=e),blp b=Yg (.tree t o ver Ah Yf l')/\l=he▸l':=by
 unfold TW at h;split at h
 ·rename_i t o ver' Ah l' Ap
  cases hv:Yo ver ver' with
  |false=>rw[hv]at h;cases h
  |true=>
   have:=AB hv;subst this;rw[hv,As]at h;split at h
   ·rename_i he
    simp only[Af]at h;exact⟨t,o,Ah,l',he,Ap,h.symm⟩
   ·cases h
 ·cases h
theorem bL{E:Env}(hb:Ez E){b ver:Yn}{t:Yr}{o:OT}{Ah:Yn}{h:Ya Path}{l:Ye o.ty.den}(Ap:E.bl b=Yg (.tree t o ver Ah h l)){v:Yq}(hv:CRep E (.trow b ver []) v):∃Ac,E.pl b=Yg (.row v Ac)/\TreeOk E t o h l v Ac:=by
 obtain⟨_,sv,Ac,Bp,Bg⟩:=hv;obtain⟨p,hp,hB⟩:=hb b _ Ap;rw[Bp]at hp;injection hp with hp;subst hp;have hT:TreeOk E t o h l sv Ac:=hB;obtain⟨n,_,h2⟩:=(Bg _ _ _ _ _ _ Ap).2 rfl (λq hq JL=>hT.top (by rw[hq,List.prefix_nil.1 JL]));have h3:sv=v:=by simpa [nix]using h2
 subst h3;exact⟨Ac,Bp,hT⟩
theorem Aff{E:Env}{blp:Yn->Ya Blk}{okp:Yn->Prop}(Ds:∀g,E.ok g->okp g)(hb:Ez E){b ver:Yn}{e:Ty}{l:Ye e.den}(hr:∀t e ver Ah h l,blp b=Yg (.tree t e ver Ah h l)->E.bl b=Yg (.tree t e ver Ah h l)/\∀sv Ac g,E.pl b=Yg (.row sv Ac)->(Pl.row sv Ac).has g->okp g)(h:TW blp b ver e=Yg l){v:Yq}(hv:CRep E (.trow b ver []) v):DRep E.w okp (.slice e) l [v]:=by
 obtain⟨t,o,Ah,l',he,Ap,rfl⟩:=Atu h;subst he;obtain⟨Ei,Aq⟩:=hr _ _ _ _ _ _ Ap;obtain⟨Ac,Bp,hT⟩:=bL hb Ei hv;obtain⟨OQ,F,h1,h2,_⟩:=hT.rep;exact Owns.data (o:=.r t o) Ds (λs hs g hg=>Aq _ _ g Bp (Placed.has h2 hs hg)) h1
theorem Px{E:Env}{blp:Yn->Ya Blk}{okp:Yn->Prop}(hb:Ez E):∀{τ:Ty}{cs:Ye C}{vs:Ye Yq}{x:τ.den}{r:Ye C},Rows E blp okp (CE cs)->CReps E cs vs->pack blp τ cs=Yg (x,r)->∃us ws,vs=us++ws/\DRep E.w okp τ x us/\CReps E r ws/\(∃ds,cs=ds++r)
 |.bool,cs,vs,x,r,hr,h,hp=>by
  cases cs with
  |nil=>simp[pack]at hp
  |cons c cs=>
   cases c<;>simp only[pack]at hp<;>try(cases hp;done)
   simp only[Af,Cb]at hp;obtain⟨EX,CY⟩:=hp;subst EX CY;obtain⟨v,Az,e,h1,h2⟩:=h;simp only[CRep]at h1;subst e h1;exact⟨[_],Az,rfl,rfl,h2,⟨[_],rfl⟩⟩
 |.int k,cs,vs,x,r,hr,h,hp=>by
  cases cs with
  |nil=>simp[pack]at hp
  |cons c cs=>
   cases c<;>simp only[pack]at hp<;>try(cases hp;done)
   rename_i k' n;split at hp
   ·rename_i hk
    subst hk;simp only[Af,Cb]at hp;obtain⟨EX,CY⟩:=hp;subst EX CY;obtain⟨v,Az,e,h1,h2⟩:=h;simp only[CRep]at h1;subst e h1;exact⟨[_],Az,rfl,rfl,h2,⟨[_],rfl⟩⟩
   ·cases hp
 |.err,cs,vs,x,r,hr,h,hp=>by
  cases cs with
  |nil=>simp[pack]at hp
  |cons c cs=>
   cases c<;>simp only[pack]at hp<;>try(cases hp;done)
   simp only[Af,Cb]at hp;obtain⟨EX,CY⟩:=hp;subst EX CY;obtain⟨v,Az,e,h1,h2⟩:=h;subst e;exact⟨[v],Az,rfl,⟨v,rfl,h1⟩,h2,⟨[_],rfl⟩⟩
 |.str,cs,vs,x,r,hr,h,hp=>by
  cases cs with
  |nil=>simp[pack]at hp
  |cons c cs=>
   cases c<;>simp only[pack]at hp<;>try(cases hp;done)
   simp only[Af,Cb]at hp;obtain⟨EX,CY⟩:=hp;subst EX CY;obtain⟨v,Az,e,h1,h2⟩:=h;simp only[CRep]at h1;subst e h1;exact⟨[_],Az,rfl,rfl,h2,⟨[_],rfl⟩⟩
 |.unit,cs,vs,x,r,hr,h,hp=>by simp only[pack,Af,Cb]at hp;obtain⟨_,CY⟩:=hp;subst CY;exact⟨[],vs,rfl,rfl,h,⟨[],rfl⟩⟩
 |.prod a b,cs,vs,x,r,hr,h,hp=>by
  simp only[pack]at hp;split at hp
  ·cases hp
  ·rename_i y r1 h1
   split at hp
   ·cases hp
   ·rename_i z r2 h2
    simp only[Af,Cb]at hp;obtain⟨EX,CY⟩:=hp;subst EX CY;obtain⟨us,ws,e1,d1,c1,ds1,CU⟩:=Px hb hr h h1;have Nt:Rows E blp okp (CE r1):=hr.sub λb DF=>by rw[CU,Ur];exact DW _ DF
    obtain⟨us2,ws2,e2,d2,c2,ds2,Cw⟩:=Px hb Nt c1 h2;refine⟨us++us2,ws2,by rw[e1,e2,C4],?_,c2,⟨ds1++ds2,by rw[CU,Cw,C4]⟩⟩;simp only[DRep];exact⟨us,us2,rfl,d1,d2⟩
 |.slice e,cs,vs,x,r,hr,h,hp=>by
  cases cs with
  |nil=>simp[pack]at hp
  |cons c cs=>
   obtain⟨v,Az,e1,h1,h2⟩:=h;subst e1;rcases YaM (∃b ver p,c=.trow b ver p)with⟨b,ver,p,rfl⟩|QI
   ·cases p with
    |cons _ _=>simp[pack]at hp
    |nil=>
     simp only[pack]at hp;split at hp
     ·cases hp
     ·rename_i l hl
      simp only[Af,Cb]at hp;obtain⟨EX,CY⟩:=hp;subst EX CY;exact⟨[v],Az,rfl,Aff hr.ok hb (hr.tree b (by simp[CE])) hl h1,h2,⟨[_],rfl⟩⟩
   cases c<;>first|exact Y7 ⟨_,_,_,rfl⟩ QI|skip
   all_goals simp only[pack]at hp
   all_goals try(cases hp;done)
   ·rename_i e' l
    split at hp
    ·rename_i he
     subst he;simp only[Af,Cb]at hp;obtain⟨EX,CY⟩:=hp;subst EX CY;exact⟨[v],Az,rfl,DRep.mono (τ:=.slice _) (λg hg _=>⟨hr.ok g hg,rfl⟩) h1,h2,⟨[_],rfl⟩⟩
    ·cases hp
   ·simp only[Af,Cb]at hp
    obtain⟨EX,CY⟩:=hp;subst EX CY;simp only[CRep]at h1;subst h1;refine⟨[_],Az,rfl,?_,h2,⟨[_],rfl⟩⟩;simp only[DRep];exact⟨Yf,0,[],rfl,by simp,by simp[Yaj],rfl,by simp⟩
   ·rename_i b ver
    split at hp
    ·cases hp
    ·rename_i l hl
     simp only[Af,Cb]at hp;obtain⟨EX,CY⟩:=hp;subst EX CY;have D9:b∈CE (C.row b ver::cs):=by simp[CE]
     obtain⟨t,sv,xs,Ap,Bp,rfl,hd,ho⟩:=r7 hb (λt e ver l hB=>(hr.row b D9 t e ver l hB).1) hl h1
     have AKU:∃t e ver l,blp b=Yg (.row t e ver l):=by
      unfold IU at hl;split at hl
      ·rename_i h0;exact⟨_,_,_,_,h0⟩
      ·cases hl
     obtain⟨t',e',ver',l',hB⟩:=AKU;exact⟨[v],Az,rfl,Afe hr.ok (λg hg=>(hr.row b D9 t' e' ver' l' hB).2 v g Bp hg) hd ho,h2,⟨[_],rfl⟩⟩
   ·rename_i b ver i j
    split at hp
    ·cases hp
    ·rename_i l hl
     simp only[Af,Cb]at hp;obtain⟨EX,CY⟩:=hp;subst EX CY;have D9:b∈CE (C.sub b ver i j::cs):=by simp[CE]
     obtain⟨t,sv,xs,hB,Ap,Bp,hd,ho⟩:=bK hb (λt e ver l hB=>(hr.row b D9 t e ver l hB).1) hl;obtain⟨_,sv2,L0,Gn,Bg⟩:=h1;rw[Bp]at Gn;injection Gn with Gn;injection Gn with Gn _;subst Gn;obtain⟨A,c,ys,q1,q2,q3,q4,q5⟩:=r8 ((Bg _ _ _ _ Ap).2 rfl) hd ho;refine⟨[v],Az,rfl,?_,h2,⟨[_],rfl⟩⟩;simp only[DRep];refine⟨A,c,ys,by rw[q1],q2,q3,q4.mono λx u hu=>hu.mono (λg h1 _=>⟨hr.ok g h1,rfl⟩),λk u hk=>?_⟩;obtain⟨ad,r1,r2,r3⟩:=q5 k u hk;exact⟨ad,r1,(hr.row b D9 _ _ _ _ hB).2 sv _ Bp r2,r3⟩
theorem Py{E:Env}{blp:Yn->Ya Blk}{okp:Yn->Prop}(hb:Ez E){τ:Ty}{cs:Ye C}{vs:Ye Yq}{x:τ.den}(hr:Rows E blp okp (CE cs))(h:CReps E cs vs)(hp:LF blp τ cs=Yg x):DRep E.w okp τ x vs:=by
 unfold LF at hp;split at hp
 ·rename_i y hy
  simp only[Af]at hp;subst hp;obtain⟨us,ws,e,d,c,_⟩:=Px hb hr h hy;simp only[CReps]at c;subst c;simpa [e]using d
 ·cases hp
theorem bM{E:Env}{blp:Yn->Ya Blk}{okp:Yn->Prop}(hb:Ez E){e:Ty}:∀{n:Yn}{cs:Ye C}{vs:Ye Yq}{l:Ye e.den},Rows E blp okp (CE cs)->CReps E cs vs->JZ blp e n cs=Yg l->DList (λx u=>DRep E.w okp e x u) l vs/\l.length=n
 |0,[],vs,l,_,h,hp=>by simp only[JZ,Af]at hp;subst hp;simp only[CReps]at h;exact⟨h,rfl⟩
 |0,_::_,_,_,_,_,hp=>by simp[JZ]at hp
 |n+1,cs,vs,l,hr,h,hp=>by
  simp only[JZ]at hp;split at hp
  ·rename_i x r hx
   split at hp
   ·rename_i l' GS
    simp only[Af]at hp;subst hp;obtain⟨us,ws,e1,d1,c1,ds,hc⟩:=Px hb hr h hx;have Nt:Rows E blp okp (CE r):=hr.sub λb DF=>by rw[hc,Ur];exact DW _ DF
    obtain⟨h1,h2⟩:=bM hb Nt c1 GS;exact⟨⟨us,ws,e1,d1,h1⟩,by simp[h2]⟩
   ·cases hp
  ·cases hp
theorem RelB.blksOk{P:Yw}{ok0:OK0 P}{base:Yn}{pl:Yn->Ya Pl}{bl:Yn->Ya Blk}{w:Yx}(h:RelB ok0 base pl bl w):Ez (At ok0 base pl bl w):=h.blks
theorem Rows.none(E:Env)(ids:Ye Yn):Rows E (λ_=>Yf) E.ok ids:=⟨λ_ h=>h,λ_ _ _ _ _ _ h=>(by cases h),λ_ _ _ _ _ _ _ _ _ h=>(by cases h),λ_ _ _ _ _ _ _ _ h=>(by cases h)⟩
section
variable{P:Yw}{o:Oper}{ρ:Y2->V}{bl:Yn->Ya Blk}{β:Type}{r:β}
def Sound(P:Yw)(o:Oper)(ρ:Y2->V)(bl:Yn->Ya Blk)(kk:K β)(r:β):Prop:=
 ∃v rd wr,kk v rd wr=Yg r/\∀Ab,(∀b∈rd,Ab b=bl b)->OpOk P o ρ Ab v wr
theorem Sound.pure{kk:K β}{v:V}{rd:Ye Yn}(hk:kk v rd []=Yg r)(h:∀Ab,(∀b∈rd,Ab b=bl b)->∀(ok0:OK0 P)(base:Yn)(pl:Yn->Ya Pl)(w:Yx)(a:Act),RelB ok0 base pl Ab w->(∀x∈o.op.operands,VRep (At ok0 base pl Ab w) (ρ x) (a.eval x))->∃val,(Y3 a.eval o).run P w=.ok (.value val) w/\VRep (At ok0 base pl Ab w) v val):Sound P o ρ bl kk r:=
 ⟨v,rd,[],hk,λAb hb=>OpOk.of_pure (h Ab hb)⟩
theorem bN{kk:K β}{x:Y2}(ho:o.op=.move x\/o.op=.assign x)(hk:kk (ρ x) [] []=Yg r):Sound P o ρ bl kk r:=by
 refine Sound.pure hk λAb _ ok0 base pl w a hr hx=>⟨a.eval x,?_,hx x ?_⟩
 ·rcases ho with ho|ho<;>simp[Y3,ho]
 ·rcases ho with ho|ho<;>simp[ho,Yt]
theorem Atv{kk:K β}{c a b:Y2}(ho:o.op=.pick c a b){g:Ys}(hc:ρ c=.c (.bool g))(hk:Yk g (kk (ρ a) [] []) (kk (ρ b) [] [])=Yg r):Sound P o ρ bl kk r:=by
 have AJ:∀(Ab:Yn->Ya Blk)(ok0:OK0 P)(base:Yn)(pl:Yn->Ya Pl)(w:Yx)(act:Act),(∀x∈o.op.operands,VRep (At ok0 base pl Ab w) (ρ x) (act.eval x))->
   (Y3 act.eval o).run P w=.ok (.value (if g then act.eval a else act.eval b)) w:=by
  intro Ab ok0 base pl w act hx;have h1:=hx c (by simp[ho,Yt]);rw[hc]at h1;have h2:act.eval c=.bool g:=h1;simp[Y3,ho,h2,asBool]
 cases g with
 |true=>exact Sound.pure hk λAb _ ok0 base pl w act hr hx=>⟨_,AJ Ab ok0 base pl w act hx,by simpa using hx a (by simp[ho,Yt])⟩
 |false=>exact Sound.pure hk λAb _ ok0 base pl w act hr hx=>⟨_,AJ Ab ok0 base pl w act hx,by simpa using hx b (by simp[ho,Yt])⟩
theorem Afg{kk:K β}{nx:Yn}{t:Yr}{cs:Ye C}(hk:Rx bl nx t cs kk=Yg r)(AJ:∀(Ab:Yn->Ya Blk)(ok0:OK0 P)(base:Yn)(pl:Yn->Ya Pl)(w:Yx)(a:Act),RelB ok0 base pl Ab w->(∀x∈o.op.operands,VRep (At ok0 base pl Ab w) (ρ x) (a.eval x))->∃vs:Ye Yq,(Y3 a.eval o).run P w=.ok (.value (.pointer (Yg ⟨w.heap.size,0,Yf⟩))) (w.alloc (.cells vs.toArray t))/\CReps (At ok0 base pl Ab w) cs vs):Sound P o ρ bl kk r:=by
 unfold Rx at hk;split at hk
 ·rename_i hn
  refine⟨_,_,_,hk,λAb hb=>?_⟩;have Dq:Ab nx=Yf:=(hb nx (by simp)).trans hn;intro ok0 base pl w a hr hx K Q hK;obtain⟨vs,h1,h2⟩:=AJ Ab ok0 base pl w a hr hx;have hg:w.grownBy (w.alloc (.cells vs.toArray t)) Yf:=World.grownBy_alloc w _ Yf;have hp:∀g,(Pl.cells w.heap.size).has g->w.heap.size<=g:=λg Ga=>M4 Ga;have hs:Step pl Ab w (upd pl nx (.cells w.heap.size)) (upd Ab nx (.cells t cs)) (w.alloc (.cells vs.toArray t)):=Step.new hr Dq hg hp;refine HR h1 (hK _ (upd pl nx (.cells w.heap.size)) _ ?_ hs ?_)
  ·exact RelB.new hr Dq hg hp ⟨vs,heap_alloc_new w _,h2.mono hs.ext⟩
  ·exact⟨w.heap.size,by simp[At,upd],rfl⟩
 ·cases hk
theorem Atw{T:Yr->Ya TI}(hT:TOk P T){kk:K β}{nx:Yn}{t:Yr}(ho:o.op=.alloc t){ti:TI}(ht:T t=Yg ti)(hk:Rx bl nx t ti.zero kk=Yg r):Sound P o ρ bl kk r:=by
 obtain⟨i,d,z,f⟩:=hT.facts ht;refine Afg hk λAb ok0 base pl w a hr hx=>⟨z.cells.toList,?_,?_⟩
 ·simp[Y3,ho,Instr.alloc,zeroValue,typeInfo,f.info,f.zero,newVar,newRow]
 ·rw[f.zeroC]
  exact NH f.one
theorem Atx{kk:K β}{nx:Yn}{t:Yr}{x:Y2}(ho:o.op=.box t x){cs:Ye C}(hc:(ρ x).cells=Yg cs)(hk:Rx bl nx t cs kk=Yg r):Sound P o ρ bl kk r:=by
 refine Afg hk λAb ok0 base pl w a hr hx=>⟨(a.eval x).cells.toList,?_,?_⟩
 ·simp[Y3,ho,Instr.box,newVar,newRow]
 ·exact VRep.cells_of hc (hx x (by simp[ho,Yt]))
end
end Go.Lift
namespace Go.Lift
open Go.RowKit
theorem Afh{α:Type}{a b:Yn}(x y:α):(bif Y0 a b then x else y)=if a<b then x else y:=by
 cases h:Y0 a b with
 |true=>rw[Y1 (by simpa using h)];rfl
 |false=>rw[Yy (λAx=>by rw[show Y0 a b=Yp by simpa using Ax]at h;cases h)];rfl
theorem MC:∀{o:OT}{x:o.ty.den}{k:Yn}{p:Path}{n:Fg},BL o x k p=Yg n->J0 o x k p=Yg n
 |.d _,_,_,_,_,h=>by cases h
 |.p a b,x,k,p,n,h=>by
  simp only[BL]at h;simp only[J0,Afh];split at h
  ·rename_i hk;rw[Y1 hk];exact MC h
  ·rename_i hk;rw[Yy hk];exact MC h
 |.r _ _,_,0,[],_,h=>h
 |.r _ e,l,0,(i,k)::p,n,h=>by
  simp only[BL]at h;simp only[J0];split at h
  ·rename_i x hx
   rw[show(l:Ye e.ty.den).getD i e.ty.dflt=x by rw[Ym,hx];rfl];exact MC h
  ·cases h
 |.r _ _,_,_+1,_,_,h=>by cases h
theorem R4:∀{o:OT}{x:o.ty.den}{k:Yn}{p:Path}{n:Fg}{e':OT}{y:Ye e'.ty.den},BL o x k p=Yg n->setD o x k p e' y=Ht o x k p e' y
 |.d _,_,_,_,_,_,_,h=>by cases h
 |.p a b,x,k,p,n,_,_,h=>by
  simp only[BL]at h;simp only[setD,Ht,Afh];split at h
  ·rename_i hk;rw[Y1 hk,Y1 hk,R4 h]
  ·rename_i hk;rw[Yy hk,Yy hk,R4 h]
 |.r _ _,_,0,[],_,_,_,h=>rfl
 |.r _ e,l,0,(i,k)::p,n,_,_,h=>by
  simp only[BL]at h;simp only[setD,Ht];split at h
  ·rename_i x hx
   rw[show(l:Ye e.ty.den).getD i e.ty.dflt=x by rw[Ym,hx];rfl,R4 h]
  ·cases h
 |.r _ _,_,_+1,_,_,_,_,h=>by cases h
theorem bO:∀{o:OT}{x:o.ty.den}{k:Yn}{p:Path}{n:Fg}{i:Yn}{y:n.1.2.ty.den},BL o x k p=Yg n->n.2[i]?=Yg y->∀j,BL o x k (p++[(i,j)])=BL n.1.2 y j []
 |.d _,_,_,_,_,_,_,h,_,_=>by cases h
 |.p a b,x,k,p,n,i,y,h,hy,j=>by
  simp only[BL]at h⊢;split at h
  ·rename_i hk;rw[Y1 hk];exact bO h hy j
  ·rename_i hk;rw[Yy hk];exact bO h hy j
 |.r _ _,_,0,[],_,i,y,h,hy,j=>by simp only[BL,Af]at h;subst h;simp only[GA,BL];rw[show(_:Ye _)[i]?=Yg y from hy]
 |.r _ e,l,0,(i',k)::p,n,i,y,h,hy,j=>by
  simp only[BL,G0]at h⊢;split at h
  ·rename_i x hx
   exact bO h hy j
  ·cases h
 |.r _ _,_,_+1,_,_,_,_,h,_,_=>by cases h
theorem Us:∀{o:OT}{x:o.ty.den}{k:Yn}{p:Path}{n:Fg}{i:Yn}{y:n.1.2.ty.den},BL o x k p=Yg n->n.2[i]?=Yg y->∀j,nix o x k (p++[(i,j)])=nix o x k p+1+((n.2.take i).map (cnt n.1.2)).sum+nix n.1.2 y j []
 |.d _,_,_,_,_,_,_,h,_,_=>by cases h
 |.p a b,x,k,p,n,i,y,h,hy,j=>by
  simp only[BL]at h;simp only[nix];split at h
  ·rename_i hk;rw[Y1 hk,Y1 hk];exact Us h hy j
  ·rename_i hk;rw[Yy hk,Yy hk,Us h hy j];omega
 |.r _ _,_,0,[],_,i,y,h,hy,j=>by simp only[BL,Af]at h;subst h;simp only[GA,nix];rw[show(_:Ye _)[i]?=Yg y from hy]
 |.r _ e,l,0,(i',k)::p,n,i,y,h,hy,j=>by
  simp only[BL]at h;simp only[nix,G0];split at h
  ·rename_i x hx
   rw[Us h hy j];omega
  ·cases h
 |.r _ _,_,_+1,_,_,_,_,h,_,_=>by cases h
section
variable{E E':Env}{t:Yr}{e:OT}
theorem TreeOk.node{l:Ye e.ty.den}{sv:Yq}{Ac:Ye (Ya Yq)}(hT:TreeOk E t e Yf l sv Ac){p:Path}{n:Fg}(hn:BL (.r t e) l 0 p=Yg n):∃s Fn G1 G2,sv::Ac.filterMap id=G1++(s::Fn++G2)/\G1.length=nix (.r t e) l 0 p/\(Yg sv::Ac)=(G1++(s::Fn++G2)).map Yg/\(Yg sv::Ac)[nix (.r t e) l 0 p]?=Yg (Yg s)/\Owns E.w E.ok E.base s (.r n.1.1 n.1.2) Yf n.2 [s] (s::Fn)/\Owns E.w E.ok E.base s (.r t e) (Yg (0,p)) l [sv] (G1++G2)/\(G1++(s::Fn++G2)).Pairwise (λs r=>∀g,s.ownBlock=Yg g->r.ownBlock≠Yg g):=by
 obtain⟨hv,F,h1,h2,h3⟩:=hT.rep;have h2:Yg sv::Ac=(sv::F).map Yg:=h2;obtain⟨s,G1,Fn,G2,e1,e2,e3,e4⟩:=Owns.split h1 hn;have hs:Ac=F.map Yg:=by simpa using h2
 refine⟨s,Fn,G1,G2,?_,e2,?_,?_,e3,e4,e1▸h3⟩
 ·rw[<-e1,hs];simp[List.filterMap_map]
 ·rw[<-e1];exact h2
 ·rw[h2,e1,IR,Gy (by simp[e2])]
  simp[e2]
theorem r9(hb:Ez E){b ver Ah:Yn}{l:Ye e.ty.den}{p:Path}(Ap:E.bl b=Yg (.tree t e ver Ah Yf l)){v:Yq}(hv:CRep E (.trow b (tv ver Ah p) p) v):∃sv Ac n,E.pl b=Yg (.row sv Ac)/\TreeOk E t e Yf l sv Ac/\BL (.r t e) l 0 p=Yg n/\(Yg sv::Ac)[nix (.r t e) l 0 p]?=Yg (Yg v):=by
 obtain⟨_,sv,Ac,Bp,Bg⟩:=hv;obtain⟨q,hq,hB⟩:=hb b _ Ap;rw[Bp]at hq;injection hq with hq;subst hq;obtain⟨n,h1,h2⟩:=(Bg _ _ _ _ _ _ Ap).2 rfl (λ_ h=>by cases h);exact⟨sv,Ac,n,Bp,hB,h1,h2⟩
theorem Aty(hb:Ez E){b ver Ah:Yn}{l:Ye e.ty.den}{p:Path}(Ap:E.bl b=Yg (.tree t e ver Ah Yf l)){v:Yq}(hv:CRep E (.trow b (tv ver Ah p) p) v){n:Fg}(hn:J0 (.r t e) l 0 p=Yg n):∃xs,E.w.ownsRow E.base n.1.1 n.1.2.ty.size v n.2.length xs:=by
 obtain⟨sv,Ac,n',Bp,hT,E4,KJ⟩:=r9 hb Ap hv;have:=MC E4;rw[hn]at this;injection this with this;subst this;obtain⟨s',Fn,G1,G2,_,_,_,h4,h5,_,_⟩:=hT.node E4;rw[KJ]at h4;injection h4 with h4;injection h4 with h4;subst h4;obtain⟨s',xs,F',e1,_,Aq,_⟩:=h5;have e1:=(LB e1).1;subst e1;exact⟨xs,Aq⟩
theorem bP{bl:Yn->Ya Blk}{b ver:Yn}{p:Path}{a:(te:Yr×OT)×(Ye te.2.ty.den×(Yn×(Yn×Fg)))}(h:Rp bl b ver p=Yg a):bl b=Yg (.tree a.1.1 a.1.2 a.2.2.1 a.2.2.2.1 Yf a.2.1)/\ver=tv a.2.2.1 a.2.2.2.1 p/\J0 (.r a.1.1 a.1.2) a.2.1 0 p=Yg a.2.2.2.2:=by
 unfold Rp at h;split at h
 ·rename_i t e ver' Ah l Ap
  cases hv:Yo ver (tv ver' Ah p)with
  |false=>rw[hv]at h;cases h
  |true=>
   rw[hv,As]at h;split at h
   ·rename_i n hn
    simp only[Af]at h;subst h;exact⟨Ap,AB hv,hn⟩
   ·cases h
 ·cases h
theorem rA{b ver i:Yn}{p:Path}{hv:Yq}:∀{o:OT}{x:o.ty.den}{u F:Ye Yq}{k0:Yn},Owns E.w E.ok E.base hv o Yf x u F->(∀j m s,BL o x j []=Yg m->u[j]?=Yg s->F[nix o x j []]?=Yg s->CRep E (.trow b ver (p++[(i,k0+j)])) s)->CReps E (Ro b ver p i k0 o x) u
 |.d _,_,_,_,_,h,_=>Iq h.2.1
 |.p a c,x,u,F,k0,⟨u1,u2,F1,F2,e1,e2,h1,h2⟩,hc=>by
  have h1:Owns E.w E.ok E.base hv a Yf x.1 u1 F1:=h1;have h2:Owns E.w E.ok E.base hv c Yf x.2 u2 F2:=h2;have l1:=h1.length;rw[e1];refine CReps.append (rA h1 λj m s hn hu hF=>?_) (rA h2 λj m s hn hu hF=>?_)
  ·have hj:j<u1.length:=(Fe.1 hu).1
   have If:j<a.ty.size:=by omega
   refine hc j m s (by simp only[BL,Y1 If];exact hn) (by rw[e1,HO hj];exact hu) ?_;simp only[nix,Y1 If];rw[e2,HO (Fe.1 hF).1];exact hF
  ·have If:¬(a.ty.size+j<a.ty.size):=by omega
   have:=hc (a.ty.size+j) m s (by simp only[BL,Yy If,N7];exact hn) (by rw[e1,Gy (by omega),l1,N7];exact hu) (by
    simp only[nix,Yy If,N7];rw[<-h1.cnt,e2,Gy (by omega),N7];exact hF)
   rw[show k0+a.ty.size+j=k0+(a.ty.size+j) by omega];exact this
 |.r t e,l,u,F,k0,⟨sv,xs,F',e1,e2,h,hl⟩,hc=>by rw[e1];exact⟨sv,[],rfl,hc 0 ⟨(t,e),l⟩ sv rfl (by rw[e1];rfl) (by rw[e2];rfl),rfl⟩
theorem Owns.elem{w:Yx}{ok:Yn->Prop}{base:Yn}{hv s:Yq}{l:Ye e.ty.den}{Fn:Ye Yq}(h:Owns w ok base hv (.r t e) Yf l [s] (s::Fn)){i:Yn}(hi:i<l.length):∃y u pre post Fu Fp Fq,l[i]?=Yg y/\w.ownsRow base t e.ty.size s l.length (pre++(u++post))/\pre.length=i*e.ty.size/\Fn=Fp++(Fu++Fq)/\Fp.length=((l.take i).map (Go.Lift.cnt e)).sum/\Owns w ok base hv e Yf y u Fu/\∀(w':Yx)(ok':Yn->Prop)(base':Yn)(C6:Yq) y' u' Fu',(∀x u f,(∀s∈f,s∈Fp\/s∈Fq)->Owns w ok base hv e Yf x u f->Owns w' ok' base' C6 e Yf x u f)->Owns w' ok' base' C6 e Yf y' u' Fu'->w'.ownsRow base' t e.ty.size s l.length (pre++(u'++post))->Owns w' ok' base' C6 (.r t e) Yf (l.set i y') [s] (s::(Fp++(Fu'++Fq))):=by
 obtain⟨sv,xs,F',e1,e2,h,hl⟩:=h;have e1:s=sv:=by simpa using e1
 subst e1;have e2:Fn=F':=by simpa using e2
 subst e2;obtain⟨y,u,p,q,Fu,Fp,Fq,g1,g2,g3,g4,g5,⟨_,g7,_⟩,g6⟩:=OL.focus (n:=e.ty.size) (λ_ _ _ _ h=>Owns.length h) hl (i:=i) hi;rw[g2]at h;refine⟨y,u,p,q,Fu,Fp,Fq,g1,h,g3,g4,TU e g7,by simpa using g5,λw' ok' base' C6 y' u' Fu' k1 k2 k3=>?_⟩;exact⟨s,_,_,rfl,rfl,by rw[Pe];exact k3,g6 _ y' u' Fu' (λm x u f _ hf hx=>k1 x u f hf hx) k2⟩
theorem Afi(hb:Ez E){b ver Ah i o:Yn}{l:Ye e.ty.den}{p:Path}(Ap:E.bl b=Yg (.tree t e ver Ah Yf l)){v:Yq}(hv:VRep E (.c (.tptr b (tv ver Ah p) p i o)) v):∃sv Ac n s g m c,E.pl b=Yg (.row sv Ac)/\TreeOk E t e Yf l sv Ac/\BL (.r t e) l 0 p=Yg n/\(Yg sv::Ac)[nix (.r t e) l 0 p]?=Yg (Yg s)/\i<n.2.length/\s=.slice (Yg ⟨g,0,Yf⟩) m c/\v=.pointer (Yg ⟨g,i*n.1.2.ty.size+o,Yf⟩):=by
 obtain⟨sv,Ac,ad,Bp,hv,Bg⟩:=hv;obtain⟨q,hq,hB⟩:=hb b _ Ap;rw[Bp]at hq;injection hq with hq;subst hq;obtain⟨n,s,h1,h2,h3,g,m,c,h4,rfl⟩:=(Bg _ _ _ _ _ _ Ap).2 rfl (λ_ h=>by cases h);exact⟨sv,Ac,n,s,g,m,c,Bp,hB,h1,h2,h3,h4,hv⟩
theorem Atz(hb:Ez E){b ver Ah i:Yn}{l:Ye e.ty.den}{p:Path}(Ap:E.bl b=Yg (.tree t e ver Ah Yf l)){sv:Yq}{Ac:Ye (Ya Yq)}(Bp:E.pl b=Yg (.row sv Ac))(hT:TreeOk E t e Yf l sv Ac){n:Fg}(hn:BL (.r t e) l 0 p=Yg n){s:Yq}(hs:(Yg sv::Ac)[nix (.r t e) l 0 p]?=Yg (Yg s))(hi:i<n.2.length):∃u pre post,E.w.ownsRow E.base n.1.1 n.1.2.ty.size s n.2.length (pre++(u++post))/\pre.length=i*n.1.2.ty.size/\CReps E (Ro b (ver+Ah) p i 0 n.1.2 (n.2.getD i n.1.2.ty.dflt)) u:=by
 obtain⟨s',Fn,G1,G2,_,h2,h3,h4,h5,_,_⟩:=hT.node hn;rw[hs]at h4;injection h4 with h4;injection h4 with h4;subst h4;obtain⟨y,u,pre,post,Fu,Fp,Fq,g1,g2,g3,g4,g5,g6,_⟩:=h5.elem hi;refine⟨u,pre,post,g2,g3,?_⟩;rw[show n.2.getD i n.1.2.ty.dflt=y by rw[Ym,g1];rfl];refine rA g6 λj m s1 hm hu hF=>?_;rw[DZ];refine⟨g6.oneCell s1 (Dg hu),sv,Ac,Bp,λt1 e1 Da HK IC l1 BE=>?_⟩;rw[Ap]at BE;injection BE with BE;injection BE with q1 q2 q3 q4 q5 q6;subst q1 q2 q3 q4 q5;simp only[Jx]at q6;subst q6;have oB:tv ver Ah (p++[(i,j)])=ver+Ah:=by cases p<;>rfl
 rw[oB];refine⟨Av _,λ_ _=>⟨m,by rw[bO hn g1];exact hm,?_⟩⟩;rw[Us hn g1,h3,Gz,<-h2,<-g5,Gy (by omega)];rw[show G1.length+1+Fp.length+nix n.1.2 y j []-G1.length=(Fp.length+nix n.1.2 y j [])+1 by omega,G0,Er,g4];have Ax:=(Fe.1 hF).1;rw[C4,Gy (by omega),N7,C4,HO Ax,hF];rfl
def Same:(o:OT)->o.ty.den->o.ty.den->Prop
 |.d _,_,_=>True
 |.p a b,x,y=>Same a x.1 y.1/\Same b x.2 y.2
 |.r _ e,l,l'=>Yb l'=Yb l/\∀(i:Yn)(x x':e.ty.den),(l:Ye e.ty.den)[i]?=Yg x->(l':Ye e.ty.den)[i]?=Yg x'->Same e x x'
theorem Same.refl:∀(o:OT)(x:o.ty.den),Same o x x
 |.d _,_=>trivial
 |.p a b,x=>⟨Same.refl a x.1,Same.refl b x.2⟩
 |.r _ e,l=>⟨rfl,λi x x' h h'=>by rw[h]at h';injection h' with h';subst h';exact Same.refl e x⟩
theorem Afj{e:OT}(ih:∀x x',Same e x x'->cnt e x'=cnt e x){l l':Ye e.ty.den}(hl:l'.length=l.length)(h:∀(i:Yn)(x x':e.ty.den),l[i]?=Yg x->l'[i]?=Yg x'->Same e x x')(m:Yn):(l'.take m).map (cnt e)=(l.take m).map (cnt e):=by
 apply ZY;intro i;simp only[Gz,N9];split
 ·cases hx:l[i]? with
  |none=>rw[Ra]at hx;rw[Ra.2 (by omega)]
  |some x=>have Ax:=(Fe.1 hx).1;rw[Ff (by omega:i<l'.length)];simp only[F8];rw[ih x _ (h i x _ hx (Ff (by omega)))]
 ·rfl
theorem Same.cnt:∀{o:OT}{x y:o.ty.den},Same o x y->Go.Lift.cnt o y=Go.Lift.cnt o x
 |.d _,_,_,_=>rfl
 |.p a b,x,y,h=>by simp only[Go.Lift.cnt];rw[h.1.cnt,h.2.cnt]
 |.r _ e,l,l',h=>by have:=Afj (λx x' h=>Same.cnt h) h.1 h.2 (Yb l);rw[L9,GY (by rw[h.1];exact Av _)]at this;simp only[Go.Lift.cnt];rw[this]
theorem Same.node:∀{o:OT}{x y:o.ty.den}{k:Yn}{p:Path}{n:Fg},Same o x y->BL o x k p=Yg n->∃n',BL o y k p=Yg n'/\n'.1=n.1/\n'.2.length=n.2.length/\nix o y k p=nix o x k p
 |.d _,_,_,_,_,_,_,h=>by cases h
 |.p a b,x,y,k,p,n,hs,h=>by
  simp only[BL,nix]at h⊢;split at h
  ·rename_i hk;rw[Y1 hk,Y1 hk,Y1 hk];exact Same.node hs.1 h
  ·rename_i hk
   rw[Yy hk,Yy hk,Yy hk,hs.1.cnt];obtain⟨n',h1,h2,h3,h4⟩:=Same.node hs.2 h;exact⟨n',h1,h2,h3,by rw[h4]⟩
 |.r _ _,_,_,0,[],_,hs,h=>by simp only[BL,Af]at h;subst h;exact⟨_,rfl,rfl,hs.1,rfl⟩
 |.r _ e,l,l',0,(i,k)::p,n,hs,h=>by
  simp only[BL,nix]at h⊢;split at h
  ·rename_i x hx
   have Ax:=(Fe.1 hx).1;have hl:=hs.1;have DB:(l':Ye e.ty.den)[i]?=Yg ((l':Ye e.ty.den)[i]'(by rw[hl];exact Ax)):=Ff _;obtain⟨n',h1,h2,h3,h4⟩:=Same.node (hs.2 i x _ hx DB) h;refine⟨n',?_,h2,h3,?_⟩
   ·rw[DB];exact h1
   ·rw[DB]
    simp only;rw[h4,Afj (λx x' h=>Same.cnt h) hs.1 hs.2 i]
  ·cases h
 |.r _ _,_,_,_+1,_,_,_,h=>by cases h
theorem Same.set:∀{o:OT}{x:o.ty.den}{k:Yn}{p:Path}{n:Fg}{y:Ye n.1.2.ty.den},BL o x k p=Yg n->Same (.r n.1.1 n.1.2) n.2 y->Same o x (Ht o x k p n.1.2 y)
 |.d _,_,_,_,_,_,h,_=>by cases h
 |.p a b,x,k,p,n,y,h,hs=>by
  simp only[BL,Ht]at h⊢;split at h
  ·rename_i hk;rw[Y1 hk];exact⟨Same.set h hs,Same.refl _ _⟩
  ·rename_i hk;rw[Yy hk];exact⟨Same.refl _ _,Same.set h hs⟩
 |.r _ _,_,0,[],n,y,h,hs=>by simp only[BL,Af]at h;subst h;simp only[Ht];exact hs
 |.r _ e,l,0,(i,k)::p,n,y,h,hs=>by
  simp only[BL,Ht]at h⊢;split at h
  ·rename_i x hx
   refine⟨Pe,λj z z' hz Ho=>?_⟩;by_cases hj:i=j
   ·subst hj
    rw[hx]at hz;injection hz with hz;subst hz;rw[List.getElem?_set_self (Fe.1 hx).1]at Ho;injection Ho with Ho;subst Ho;exact Same.set h hs
   ·rw[List.getElem?_set_ne hj,hz]at Ho
    injection Ho with Ho;subst Ho;exact Same.refl e z
  ·cases h
 |.r _ _,_,_+1,_,_,_,h,_=>by cases h
theorem Same.leaf:∀{o:OT}{x:o.ty.den}{k:Yn}{new:Ye C}{y:o.ty.den},LG o x k new=Yg y->Same o x y
 |.d _,_,_,_,_,_=>trivial
 |.p a b,x,k,new,y,h=>by
  simp only[LG]at h;cases h1:YI (k+new.length) a.ty.size with
  |true=>
   rw[h1,As]at h;split at h
   ·rename_i z hz
    simp only[Af]at h;subst h;exact⟨Same.leaf hz,Same.refl _ _⟩
   ·cases h
  |false=>
   rw[h1,C7]at h;cases h2:YI a.ty.size k with
   |false=>rw[h2]at h;cases h
   |true=>
    rw[h2,As]at h;split at h
    ·rename_i z hz
     simp only[Af]at h;subst h;exact⟨Same.refl _ _,Same.leaf hz⟩
    ·cases h
 |.r _ _,_,_,_,_,h=>by cases h
theorem KeepT.same{c:Prop}{l l':Ye e.ty.den}(h:Same (.r t e) l l')(sv:Yq)(Ac:Ye (Ya Yq)):KeepT c t e Yf Yf l l' sv Ac Ac:=λp _ ho=>⟨ho,λn hn=>by obtain⟨n',h1,h2,h3,h4⟩:=h.node hn;exact⟨n',h1,h2,h3,λs hs=>by rw[h4];exact hs⟩⟩
theorem Owns.leaf(hb:Ez E){hv:Yq}:∀{o:OT}{x:o.ty.den}{u F us:Ye Yq}{k:Yn}{new:Ye C}{y:o.ty.den},Owns E.w E.ok E.base hv o Yf x u F->CReps E new us->LG o x k new=Yg y->k+us.length<=u.length/\Owns E.w E.ok E.base hv o Yf y (u.take k++us++u.drop (k+us.length)) F
 |.d τ,x,u,F,us,k,new,y,h,hn,hs=>by
  obtain⟨h1,h2,h3⟩:=h;simp only[LG]at hs;split at hs
  ·rename_i rc Jo
   obtain⟨s1,s2⟩:=Uq (Iq h2) hn Jo;exact⟨s2,rfl,Py hb (Rows.none _ _) s1 hs,h3⟩
  ·cases hs
 |.p a b,x,u,F,us,k,new,y,⟨u1,u2,F1,F2,e1,e2,h1,h2⟩,hn,hs=>by
  have h1:Owns E.w E.ok E.base hv a Yf x.1 u1 F1:=h1;have h2:Owns E.w E.ok E.base hv b Yf x.2 u2 F2:=h2;have l1:=h1.length;have ln:=hn.length;simp only[LG]at hs;cases hc:YI (k+new.length) a.ty.size with
  |true=>
   rw[hc,As]at hs;have hc:=IP hc;split at hs
   ·rename_i z hz
    simp only[Af]at hs;subst hs;obtain⟨q1,q2⟩:=Owns.leaf hb h1 hn hz;refine⟨by rw[e1,AQ];omega,_,u2,F1,F2,?_,e2,q2,h2⟩;rw[e1,L6 (by omega),OY (by omega),<-C4]
   ·cases hs
  |false=>
   rw[hc,C7]at hs;cases Cw:YI a.ty.size k with
   |false=>rw[Cw]at hs;cases hs
   |true=>
    rw[Cw,As]at hs;have Cw:=IP Cw;split at hs
    ·rename_i z hz
     simp only[Af]at hs;subst hs;obtain⟨q1,q2⟩:=Owns.leaf hb h2 hn hz;refine⟨by rw[e1,AQ];omega,u1,_,F1,F2,?_,e2,h1,q2⟩;rw[e1,aA,GY (by omega),aB,Rb (by omega),GA,l1];simp only[C4];rw[show k+us.length-a.ty.size=k-a.ty.size+us.length by omega]
    ·cases hs
 |.r _ _,_,_,_,_,_,_,_,_,_,hs=>by cases hs
theorem Afk{R:Yq->Yq->Prop}{A B C:Ye Yq}{s:Yq}(hR:∀a b,R a b->R b a)(h:(A++(s::B++C)).Pairwise R):∀r,(r∈A\/r∈B\/r∈C)->R s r:=λr hr=>by
 rw[FS]at h;obtain⟨_,h2,h3⟩:=h;rw[G0,Fs]at h2;rcases hr with hr|hr|hr
 ·exact hR _ _ (h3 r hr s (by simp))
 ·exact h2.1 r (by simp[hr])
 ·exact h2.1 r (by simp[hr])
theorem Afl(a b:Yq)(h:∀g,a.ownBlock=Yg g->b.ownBlock≠Yg g):∀g,b.ownBlock=Yg g->a.ownBlock≠Yg g:=λg h1 h2=>h g h2 h1
theorem Pz{sv:Yq}{Ac:Ye (Ya Yq)}{F:Ye Yq}(h:(Yg sv::Ac)=F.map Yg){s:Yq}(hs:s∈F){g:Yn}(hg:s.ownBlock=Yg g):(Pl.row sv Ac).has g:=by
 have:Yg s∈Yg sv::Ac:=by rw[h];exact List.mem_map_of_mem hs
 rcases Bl.1 this with h1|h1
 ·injection h1 with h1;subst h1;exact .inl hg
 ·obtain⟨i,hi⟩:=Rc.1 h1;exact .inr ⟨i,s,hi,hg⟩
theorem TreeOk.leaf(hb:Ez E){l:Ye e.ty.den}{sv:Yq}{Ac:Ye (Ya Yq)}(hT:TreeOk E t e Yf l sv Ac){p:Path}{n:Fg}(hn:BL (.r t e) l 0 p=Yg n){s:Yq}(hs:(Yg sv::Ac)[nix (.r t e) l 0 p]?=Yg (Yg s)){i o:Yn}(hi:i<n.2.length){g m c:Yn}(AA:s=.slice (Yg ⟨g,0,Yf⟩) m c){new:Ye C}{us:Ye Yq}{y:n.1.2.ty.den}(Jl:CReps E new us)(Mp:LG n.1.2 (n.2.getD i n.1.2.ty.dflt) o new=Yg y):∃xs,E.w.ownsRow E.base n.1.1 n.1.2.ty.size s n.2.length xs/\i*n.1.2.ty.size+o+us.length<=xs.length/\∀E',Ext E E'->E'.base=E.base->(∀g',(Pl.row sv Ac).has g'->g'≠g->E'.w.heap[g']?=E.w.heap[g']?)->E'.w.ownsRow E.base n.1.1 n.1.2.ty.size s n.2.length (xs.take (i*n.1.2.ty.size+o)++us++xs.drop (i*n.1.2.ty.size+o+us.length))->TreeOk E' t e Yf (setD (.r t e) l 0 p n.1.2 (n.2.set i y)) sv Ac:=by
 obtain⟨s',Fn,G1,G2,_,h2,h3,h4,h5,h6,h7⟩:=hT.node hn;rw[hs]at h4;injection h4 with h4;injection h4 with h4;subst h4;obtain⟨y0,u,pre,post,Fu,Fp,Fq,g1,g2,g3,g4,g5,g6,g7⟩:=h5.elem hi;rw[show n.2.getD i n.1.2.ty.dflt=y0 by rw[Ym,g1];rfl]at Mp;obtain⟨q1,q2⟩:=Owns.leaf hb g6 Jl Mp;refine⟨_,g2,by simp only[AQ];omega,λE' hx Mg hh Aq=>?_⟩;have Ap:s.ownBlock=Yg g:=by rw[AA];rfl
 have Tk:∀r,(r∈G1\/r∈Fn\/r∈G2)->∀g',r.ownBlock=Yg g'->E'.w.heap[g']?=E.w.heap[g']?:=λr hr g' CK=>hh g' (Pz h3 (by rcases hr with h|h|h<;>simp[h]) CK) (λh=>Afk Afl h7 r hr g Ap (h▸CK));have Cs:E'.base<=E.base:=by rw[Mg];exact Av _
 have AdM:=Owns.mono Cs hx.heap (λr hr g' CK=>Tk r ((C5.1 hr).imp id .inr) g' CK) h6
 have Gb:(pre++(u++post)).take (i*n.1.2.ty.size+o)++us++(pre++(u++post)).drop (i*n.1.2.ty.size+o+us.length)=pre++((u.take o++us++u.drop (o+us.length))++post):=by
  have e1:(pre++(u++post)).take (i*n.1.2.ty.size+o)=pre++u.take o:=by rw[aA,GY (by omega),L6 (by omega)];congr 2;omega
  have e2:(pre++(u++post)).drop (i*n.1.2.ty.size+o+us.length)=u.drop (o+us.length)++post:=by rw[aB,Rb (by omega),GA,OY (by omega)];congr 2;omega
  rw[e1,e2];simp only[C4]
 rw[Gb]at Aq
 have CV:=g7 E'.w E'.ok E'.base s y _ Fu (λx u f hf h=>Owns.mono Cs hx.heap (λr hr g' CK=>Tk r (.inr (.inl (by rw[g4];rcases hf r hr with h|h<;>simp[h]))) g' CK) h)
  (Owns.mono Cs hx.heap (λr hr g' CK=>Tk r (.inr (.inl (by rw[g4];simp[hr]))) g' CK) q2) (by rw[Mg];exact Aq)
 rw[<-g4]at CV;obtain⟨H1,H2,k1,k2,k3⟩:=Owns.join AdM hn;have IB:=k3 _ _ CV;have k4:G1=H1/\G2=H2:=aG k1 (by rw[h2,k2]);obtain⟨rfl,rfl⟩:=k4;rw[<-R4 hn]at IB;obtain⟨sv0,xs0,F0,z1,z2,z3,z4⟩:=IB;have z1:sv=sv0:=by simpa using z1
 subst z1;refine⟨⟨s,F0,?_,?_,?_⟩,by simp⟩
 ·exact⟨sv,xs0,F0,rfl,rfl,z3,z4⟩
 ·show Yg sv::Ac=(sv::F0).map Yg
  rw[<-z2];exact h3
 ·rw[<-z2];exact h7
theorem Same.write{l:Ye e.ty.den}{p:Path}{n:Fg}(hn:BL (.r t e) l 0 p=Yg n){i o:Yn}{new:Ye C}{y:n.1.2.ty.den}(hi:i<n.2.length)(Mp:LG n.1.2 (n.2.getD i n.1.2.ty.dflt) o new=Yg y):Same (.r t e) l (setD (.r t e) l 0 p n.1.2 (n.2.set i y)):=by
 rw[R4 hn];refine Same.set hn ⟨Pe,λj z z' hz Ho=>?_⟩;by_cases hj:i=j
 ·subst hj
  rw[List.getElem?_set_self hi]at Ho;injection Ho with Ho;subst Ho;have:=Same.leaf Mp;rw[show n.2.getD i n.1.2.ty.dflt=z by rw[Ym,hz];rfl]at this;exact this
 ·rw[List.getElem?_set_ne hj,hz]at Ho
  injection Ho with Ho;subst Ho;exact Same.refl _ z
theorem Afm:∀{p q:Path},aW p q=Yp->p=q
 |[],[],_=>rfl
 |[],_::_,h=>by cases h
 |_::_,[],h=>by cases h
 |(i,k)::p,(j,m)::q,h=>by obtain⟨h1,h2⟩:=andB (show(Yd (i=j)&&(Yo k m&&aW p q))=Yp from h);obtain⟨h2,h3⟩:=andB h2;rw[Bd h1,AB h2,Afm h3]
theorem rB{w:Yx}{ok:Yn->Prop}{base:Yn}{hv:Yq}{τ:Ty}:∀{l:Ye τ.den}{j:Yn}{xs:Ye Yq},DList (λx u=>DRep w ok τ x u) l xs->OL (λ_ x u f=>Owns w ok base hv (.d τ) Yf x u f) j l xs []
 |[],_,_,h=>⟨h,rfl⟩
 |_::_,_,_,⟨u,v,e,h1,h2⟩=>⟨u,v,[],[],e,rfl,⟨rfl,h1,rfl⟩,rB h2⟩
theorem rC{blp:Yn->Ya Blk}(hb:Ez E){v:V}{r:Yn}{m:Fg}(h:TY blp v=Yg (r,m))(AX:E.bl r=blp r){u:Yq}(hv:VRep E v u):∃Ac Fr B,E.bl r=Yg B/\B≠.dead/\(∀t e ver Ah P l,B≠.tree t e ver Ah (Yg P) l)/\E.pl r=Yg (.row u Ac)/\(∀OQ,Owns E.w E.ok E.base OQ (.r m.1.1 m.1.2) Yf m.2 [u] (u::Fr))/\Yg u::Ac=(u::Fr).map Yg/\(u::Fr).Pairwise (λs r=>∀g,s.ownBlock=Yg g->r.ownBlock≠Yg g):=by
 unfold TY at h;split at h
 ·rename_i r' rv
  split at h
  ·rename_i t e ver l Ap
   cases hc:Yo rv ver with
   |false=>rw[hc]at h;cases h
   |true=>have:=AB hc;subst this;simp only[hc,As,Af,Cb]at h;obtain⟨rfl,rfl⟩:=h;obtain⟨_,sv,Ac,Bp,Bg⟩:=hv;rw[<-AX]at Ap;have hu:=(Bg _ _ _ _ Ap).2 rfl;subst hu;obtain⟨q,hq,hB⟩:=hb _ _ Ap;rw[Bp]at hq;injection hq with hq;subst hq;obtain⟨h0,xs,h1,h2⟩:=hB;subst h0;exact⟨[],[],_,Ap,(by simp),(by simp),Bp,λOQ=>⟨u,xs,[],rfl,rfl,h2,rB h1⟩,rfl,by simp⟩
  ·cases h
 ·rename_i r' rv
  split at h
  ·rename_i t e ver Ah l Ap
   cases hc:Yo rv ver with
   |false=>rw[hc]at h;cases h
   |true=>have:=AB hc;subst this;simp only[hc,As,Af,Cb]at h;obtain⟨rfl,rfl⟩:=h;rw[<-AX]at Ap;obtain⟨Ac,Bp,hT⟩:=bL hb Ap hv;obtain⟨FF,F,k1,k2,k3⟩:=hT.rep;exact⟨Ac,F,_,Ap,(by simp),(by simp),Bp,λOQ=>Owns.any k1,k2,k3⟩
  ·cases h
 ·cases h
theorem TreeOk.put{l:Ye e.ty.den}{sv:Yq}{Ac:Ye (Ya Yq)}{p:Path}{i o:Yn}(hT:TreeOk E t e (Yg (p++[(i,o)])) l sv Ac){n0:Fg}(JK:BL (.r t e) l 0 p=Yg n0){s:Yq}(hs:(Yg sv::Ac)[nix (.r t e) l 0 p]?=Yg (Yg s))(hi:i<n0.2.length){g m0 c:Yn}(AA:s=.slice (Yg ⟨g,0,Yf⟩) m0 c)(Jm:∀g,(Pl.row sv Ac).has g->¬E.ok g){n m:Fg}(hn:J0 (.r t e) l 0 (p++[(i,o)])=Yg n)(Cz:m.1=n.1){u:Yq}{Fr:Ye Yq}(hu:∀OQ,Owns E.w E.ok E.base OQ (.r m.1.1 m.1.2) Yf m.2 [u] (u::Fr))(Jq:(u::Fr).Pairwise (λs r=>∀g,s.ownBlock=Yg g->r.ownBlock≠Yg g))(hsep:∀s∈u::Fr,∀g,s.ownBlock=Yg g->¬(Pl.row sv Ac).has g):(∃old,E.w.cell? ⟨g,i*n0.1.2.ty.size+o,Yf⟩=Yg old)/\E.w.frozen? ⟨g,i*n0.1.2.ty.size+o,Yf⟩=Yi/\∃By,(∀g,(Pl.row sv By).has g->(Pl.row sv Ac).has g\/∃s∈u::Fr,s.ownBlock=Yg g)/\∀E':Env,E'.w=E.w.setCell ⟨g,i*n0.1.2.ty.size+o,Yf⟩ u->E'.base=E.base->(∀g,E.ok g->g<E.w.heap.size->E'.ok g)->TreeOk E' t e Yf (setD (.r t e) l 0 (p++[(i,o)]) m.1.2 m.2) sv By:=by
 obtain⟨hv,F,h1,h2,h3⟩:=hT.rep;obtain⟨nP,A,B,a1,a2,a3,a4⟩:=h2
 have ALJ:nP=n:=by have:=MC a1;rw[hn]at this;injection this with this;exact this.symm
 subst ALJ;have D9:∀r,r∈sv::F->∀g,r.ownBlock=Yg g->(Pl.row sv Ac).has g:=λr hr g hg=>Placed.has (t:=t) (e:=e) (l:=l) (hole:=Yg (p++[(i,o)])) ⟨nP,A,B,a1,a2,a3,a4⟩ hr hg;obtain⟨n1,s1,g1,c1,G1,Fn,b1,b2,b3,b4,b5,b6,b6',b7⟩:=Owns.header (ok':=E.ok) (λ_ h=>h) (λr hr g hg=>Jm g (D9 r hr g hg)) h1;rw[JK]at b1;injection b1 with b1;subst b1
 have Ax:nix (.r t e) l 0 p<A.length:=by rw[a3,Us JK (Ff hi)];omega
 have KJ:s1=s:=by
  have k1:(sv::F)[nix (.r t e) l 0 p]?=Yg s1:=by rw[b2,<-b3,Gy (Av _),Nat.sub_self];rfl
  rw[a2,HO Ax]at k1;rw[a4,HO (by simpa using Ax),Gz,k1]at hs;simpa using hs
 subst KJ;rw[AA]at b4;injection b4 with b4 b4' b4'';injection b4 with b4;injection b4 with b4;subst b4;have Ap:s1.ownBlock=Yg g:=by rw[AA];rfl
 have Tu:u.oneCell'=Yp:=(hu u).oneCell u (by simp)
 have AO:∀s'∈G1++Fn,s'.ownBlock≠Yg g:=λs' Cd=>by rw[b2]at h3;exact Afk (C:=[]) Afl (by simpa using h3) s' (by rcases C5.1 Cd with h|h<;>simp[h]) g Ap
 have hgF:∀s'∈u::Fr,s'.ownBlock≠Yg g:=λs' Cd hg=>hsep s' Cd g hg (D9 s1 (by rw[b2];simp) g Ap);have ALK:¬E.ok g:=Jm g (D9 s1 (by rw[b2];simp) g Ap);obtain⟨A',B',k1,k2,k3⟩:=Owns.join (b7 u Tu AO) a1;have k4:A=A'/\B=B':=aG (a2▸k1) (by rw[a3,k2]);obtain⟨rfl,rfl⟩:=k4
 obtain⟨A2,hA2⟩:∃A2,A=sv::A2:=by
  cases A with
  |nil=>simp at Ax
  |cons a A=>rw[G0]at a2;injection a2 with a2 _;exact⟨A,by rw[a2]⟩
 subst hA2;have hF:F=A2++B:=by simpa using a2
 refine⟨⟨_,b6⟩,b6',(A2++(u::Fr++B)).map Yg,λg' h=>?_,λE' hw Mg Ds=>?_⟩
 ·rcases h with h|⟨j,s',hj,h⟩
  ·exact .inl (.inl h)
  ·have hm:=Dg hj
   obtain⟨s2,AW,E5⟩:=Hb.1 hm;injection E5 with E5;subst E5;rcases C5.1 AW with h4|h4
   ·exact .inl (D9 s2 (by rw[a2];simp[h4]) g' h)
   ·rcases C5.1 h4 with h4|h4
    ·exact .inr ⟨s2,h4,h⟩
    ·exact .inl (D9 s2 (by rw[a2];simp[h4]) g' h)
 ·have hm:=Owns.mono (w':=E.w.setCell ⟨g,i*n0.1.2.ty.size+o,Yf⟩ u) (Av E.base) (Keeps.set (ok':=E.ok) (λ_ h=>h) ALK) (λs' Cd g' CK=>YZ E.w _ g' u (λe=>hgF s' Cd (by simp only at e;rw[CK,e]))) (hu u)
  obtain⟨⟨m1,m2⟩,m3⟩:=m;obtain⟨⟨q1,q2⟩,q3⟩:=nP;simp only[Cb]at Cz;obtain⟨rfl,rfl⟩:=Cz;have IB:=k3 _ _ hm;rw[<-R4 a1]at IB;have IB:=Owns.mono (w':=E'.w) (ok':=E'.ok) (base':=E'.base) (by rw[Mg];exact Av _) (λg' h Ax=>⟨Ds g' h (by simpa [YaB]using Ax),by rw[hw]⟩) (λ_ _ _ _=>by rw[hw]) IB;refine⟨⟨u,A2++(u::Fr++B),IB,?_,?_⟩,by simp⟩
  ·show _=_
   simp
  ·rw[hF]at h3
   have h3:(sv::A2++B).Pairwise (λs r=>∀g,s.ownBlock=Yg g->r.ownBlock≠Yg g):=h3;rw[FS]at h3;obtain⟨p1,p2,p3⟩:=h3;have hAB:∀a∈sv::A2++B,∀b∈u::Fr,∀g,a.ownBlock=Yg g->b.ownBlock≠Yg g:=λa ha b hb g h1 h2=>hsep b hb g h2 (D9 a (by rw[a2];exact ha) g h1);show(sv::A2++(u::Fr++B)).Pairwise _;rw[FS,FS];refine⟨p1,⟨Jq,p2,λa ha b hb g h1 h2=>hAB b (DW _ hb) a ha g h2 h1⟩,λa ha b hb=>?_⟩;rcases C5.1 hb with hb|hb
   ·exact hAB a (D5 _ ha) b hb
   ·exact p3 a ha b hb
end
end Go.Lift
namespace Go.Lift
open Go.RowKit
theorem bQ{P:Yw}{t:Yr}{ti:TI}{i:YN}{d:YD}{z:Yq}(f:TFacts P t ti i d z)(w:Yx):(isAgg t).run P w=.ok ti.agg w:=by rw[f.agg];unfold isAgg J3;rw[YC,run_underlying f.under w,f.under];cases d<;>simp
theorem run_sizeOf{P:Yw}{t:Yr}{ti:TI}{i:YN}{d:YD}{z:Yq}(f:TFacts P t ti i d z)(w:Yx):(sizeOf t).run P w=.ok ti.size w:=by rw[f.size];simp[sizeOf,typeInfo,f.info]
theorem Ut{P:Yw}{t:Yr}{ti:TI}{i:YN}{d:YD}{z:Yq}(f:TFacts P t ti i d z){w:Yx}{ad:Addr}{us:Ye Yq}(hl:us.length=ti.size)(h1:ti.agg=Yp\/ti.size=1)(hc:∀j u,us[j]?=Yg u->w.cell? (ad.add j)=Yg u){E:Env}{cs:Ye C}(hr:CReps E cs us):∃val,(loadVar t ad).run P w=.ok val w/\VRep E (V.mk ti.agg cs) val:=by
 unfold loadVar;cases ha:ti.agg with
 |true=>refine⟨.agg us.toArray,?_,us,hr,by simp⟩;have AdE:=run_loadCells_list (P:=P) w ad us hc;simp[bQ f,ha,run_sizeOf f,<-hl,AdE]
 |false=>
  have hs:us.length=1:=by
   rcases h1 with h1|h1
   ·rw[ha]at h1;cases h1
   ·omega
  match us,hs with
  |[u],_=>
   refine⟨u,?_,VRep.mk ⟨[u],hr,by simp⟩⟩;have h0:=hc 0 u rfl;have Adc:ad.add 0=ad:=by simp[Ya4]
   rw[Adc]at h0;simp[bQ f,ha,h0]
theorem bR{w:Yx}{g o:Yn}{vs:Ye Yq}{t:Yr}{fr:Yn×Yn}(hg:w.heap[g]?=Yg (.cells vs.toArray t fr)){n j:Yn}{u:Yq}(h:((vs.drop o).take n)[j]?=Yg u):w.cell? ((⟨g,o,Yf⟩:Addr).add j)=Yg u:=by
 rw[YM,cell_of_row w g (o+j) _ t fr hg];rw[N9]at h;split at h
 ·simpa using h
 ·cases h
theorem AtA{P:Yw}{t:Yr}{ti:TI}{i:YN}{d:YD}{z:Yq}(f:TFacts P t ti i d z)(CB:ti.agg=Yp\/ti.size=1){E:Env}{base:Yn}{t0:Yr}{e:Ty}{l:Ye e.den}{sv:Yq}{xs:Ye Yq}(hd:DList (λx u=>DRep E.w E.ok e x u) l xs)(Aq:E.w.ownsRow base t0 e.size sv l.length xs){ix off g n c:Yn}(hi:ix<l.length)(AA:sv=.slice (Yg ⟨g,0,Yf⟩) n c){rc:Ye C}(AX:sub (cells e (l.getD ix e.dflt)) off ti.size=Yg rc):∃val,(loadVar t ⟨g,ix*e.size+off,Yf⟩).run P E.w=.ok val E.w/\VRep E (V.mk ti.agg rc) val:=by
 obtain⟨u,p1,q1,Zv,EX,O9⟩:=DList.get e.dflt hd hi;have De:=Iq (E:=E) O9;obtain⟨s1,s2,s3⟩:=Pw De AX
 have DG:∀j v,((u.drop off).take ti.size)[j]?=Yg v->E.w.cell? ((⟨g,ix*e.size+off,Yf⟩:Addr).add j)=Yg v:=by
  intro j v hj;rw[N9]at hj;split at hj
  ·have h2:xs[ix*e.size+off+j]?=Yg v:=by rw[Rd]at hj;have Ax:off+j<u.length:=(Fe.1 hj).1;rw[Zv,Gy (by omega),HO (by omega)];rw[<-hj];congr 1;omega
   have h3:=Aq.cells (g:=g) (by rw[AA];rfl) _ _ h2;rw[YM]at h3⊢;rw[DZ]at h3;exact h3
  ·cases hj
 exact Ut f s2 CB DG s1
theorem AtB{P:Yw}{t:Yr}{ti:TI}{i:YN}{d:YD}{z:Yq}(f:TFacts P t ti i d z)(CB:ti.agg=Yp\/ti.size=1){E:Env}(hb:Ez E){t0:Yr}{e:OT}{b ver Ah ix off:Yn}{l:Ye e.ty.den}{p:Path}(Ap:E.bl b=Yg (.tree t0 e ver Ah Yf l)){v:Yq}(hv:VRep E (.c (.tptr b (tv ver Ah p) p ix off)) v){n:Fg}(hn:J0 (.r t0 e) l 0 p=Yg n){rc:Ye C}(AX:sub (Ro b (ver+Ah) p ix 0 n.1.2 (n.2.getD ix n.1.2.ty.dflt)) off ti.size=Yg rc):∃ad val,v=.pointer (Yg ad)/\(loadVar t ad).run P E.w=.ok val E.w/\VRep E (V.mk ti.agg rc) val:=by
 obtain⟨sv,Ac,n',s,g,m,c,Bp,hT,E4,hs,hi,AA,rfl⟩:=Afi hb Ap hv;have:=MC E4;rw[hn]at this;injection this with this;subst this;obtain⟨u,pre,post,Aq,EX,De⟩:=Atz hb Ap Bp hT E4 hs hi;obtain⟨s1,s2,s3⟩:=Pw De AX
 have DG:∀j v,((u.drop off).take ti.size)[j]?=Yg v->E.w.cell? ((⟨g,ix*n.1.2.ty.size+off,Yf⟩:Addr).add j)=Yg v:=by
  intro j v hj;rw[N9]at hj;split at hj
  ·have h2:(pre++(u++post))[ix*n.1.2.ty.size+off+j]?=Yg v:=by rw[Rd]at hj;have Ax:off+j<u.length:=(Fe.1 hj).1;rw[Gy (by omega),HO (by omega)];rw[<-hj];congr 1;omega
   have h3:=Aq.cells (g:=g) (by rw[AA];rfl) _ _ h2;rw[YM]at h3⊢;rw[DZ]at h3;exact h3
  ·cases hj
 obtain⟨val,v1,v2⟩:=Ut f s2 CB DG s1;exact⟨_,val,rfl,v1,v2⟩
section
variable{P:Yw}{o:Oper}{ρ:Y2->V}{bl:Yn->Ya Blk}{β:Type}{r:β}
theorem rD{T:Yr->Ya TI}(hT:TOk P T){kk:K β}{t:Yr}{x:Y2}(ho:o.op=.load t x)(hk:TX T bl t (ρ x) kk=Yg r):Sound P o ρ bl kk r:=by
 unfold TX at hk;split at hk
 ·cases hk
 rename_i ti ht;obtain⟨i,d,z,f⟩:=hT.facts ht;cases h1:(ti.agg||Yo ti.size 1)with
 |false=>rw[h1]at hk;cases hk
 |true=>
  have CB:ti.agg=Yp\/ti.size=1:=by
   rcases(Pf _ _).mp h1 with h|h
   ·exact .inl h
   ·exact .inr (AB h)
  simp only[h1,As]at hk
  have AJ:∀(a:Act)(w:Yx)(ad:Addr)(val:Yq),a.eval x=.pointer (Yg ad)->(loadVar t ad).run P w=.ok val w->(Y3 a.eval o).run P w=.ok (.value val) w:=by intro a w ad val ha hv;simp[Y3,ho,ha,Instr.loadAt,Yau,hv]
  split at hk
  ·
   rename_i b off hx;split at hk
   ·rename_i t0 cs hb
    split at hk
    ·rename_i rc AX
     refine Sound.pure hk λAb Ai ok0 base pl w a hr Ae=>?_;have AE:Ab b=Yg (.cells t0 cs):=(Ai b (by simp)).trans hb;have hv:=Ae x (by simp[ho,Yt]);rw[hx]at hv;obtain⟨g,hg,B6⟩:=hv;obtain⟨p,hp,hB⟩:=hr.blks b _ AE;have:p=.cells g:=by have h2:pl b=Yg (.cells g):=hg;rw[hp]at h2;injection h2
     subst this;obtain⟨vs,hh,De⟩:=hB;obtain⟨s1,s2,s3⟩:=Pw De AX;obtain⟨val,FF,GU⟩:=Ut f s2 CB (λj u hj=>bR hh hj) s1;exact⟨val,AJ a w _ val B6 FF,GU⟩
    ·cases hk
   ·cases hk
  ·
   rename_i b ver ix off hx;split at hk
   ·rename_i t0 e ver' l hb
    cases AY:Yo ver ver' with
    |false=>rw[AY]at hk;cases hk
    |true=>
     have:=AB AY;subst this;simp only[AY,As]at hk;split at hk
     ·rename_i rc AX
      refine Sound.pure hk λAb Ai ok0 base pl w a hr Ae=>?_;have AE:Ab b=Yg (.row t0 e ver l):=(Ai b (by simp)).trans hb;have hv:=Ae x (by simp[ho,Yt]);rw[hx]at hv;obtain⟨sv,Ac,ad,hg,B6,Bg⟩:=hv;obtain⟨hi,g,n,c,AA,rfl⟩:=(Bg t0 e ver l AE).2 rfl;obtain⟨p,hp,hB⟩:=hr.blks b _ AE;have:p=.row sv Ac:=by have h2:pl b=Yg (.row sv Ac):=hg;rw[hp]at h2;injection h2
      subst this;obtain⟨_,xs,hd,Aq⟩:=hB;obtain⟨val,FF,GU⟩:=AtA f CB hd Aq hi AA AX;exact⟨val,AJ a w _ val B6 FF,GU⟩
     ·cases hk
   ·cases hk
  ·
   rename_i e x0 off hx;split at hk
   ·rename_i rc AX
    refine Sound.pure hk λAb Ai ok0 base pl w a hr Ae=>?_;have hv:=Ae x (by simp[ho,Yt]);rw[hx]at hv;obtain⟨xs,ad,hd,B6,hc⟩:=hv;have De:=Iq (E:=At ok0 base pl Ab w) hd;obtain⟨s1,s2,s3⟩:=Pw De AX
    obtain⟨val,FF,GU⟩:=Ut f s2 CB (λj u hj=>(hc j u (by
     rw[N9]at hj;split at hj
     ·exact hj
     ·cases hj)).2) s1
    exact⟨val,AJ a w _ val B6 FF,GU⟩
   ·cases hk
  ·
   rename_i b ver p ix off hx;split at hk
   ·rename_i q hq
    split at hk
    ·rename_i rc AX
     obtain⟨hb,AY,hn⟩:=bP hq;subst AY;refine Sound.pure hk λAb Ai ok0 base pl w a hr Ae=>?_;have AE:=(Ai b (by simp)).trans hb;have hv:=Ae x (by simp[ho,Yt]);rw[hx]at hv;obtain⟨ad,val,B6,FF,GU⟩:=AtB f CB (E:=At ok0 base pl Ab w) hr.blksOk AE hv hn AX;exact⟨val,AJ a w _ val B6 FF,GU⟩
    ·cases hk
   ·cases hk
  ·cases hk
theorem rE(w:Yx)(g:Yn)(cs:YQ Yq):w.grownBy (w.setRow g cs) (Yg g):=
 ⟨rfl,rfl,rfl,by simp,λk _ hk=>setRow_other w g k _ (λe=>hk (by rw[e]))⟩
theorem Afn{P:Yw}{t:Yr}{ti:TI}{i:YN}{d:YD}{z:Yq}(f:TFacts P t ti i d z){w:Yx}{g off:Yn}{v:Yq}{vs:Ye Yq}{t0:Yr}(hh:w.heap[g]?=Yg (.cells vs.toArray t0 (0,0)))(hl:v.cells.toList.length=ti.size)(BF:off+v.cells.toList.length<=vs.length)(h1:∀u∈v.cells.toList,u.oneCell'=Yp):(YaH t ⟨g,off,Yf⟩ v).run P w=.ok () (w.setRow g (vs.take off++v.cells.toList++vs.drop (off+v.cells.toList.length)).toArray):=by
 have Ce:=run_storeCells_at P g off t0 v.cells.toList 0 vs.toArray w hh (by simpa using BF) h1;have GS:v.cells.size=ti.size:=by simpa using hl
 simp only[YaH,YC,run_sizeOf f,Y9,GS,ne_eq,ZZ,CN];simpa using Ce
theorem Afo{P:Yw}{t:Yr}{ti:TI}{i:YN}{d:YD}{z:Yq}(f:TFacts P t ti i d z){w:Yx}{base:Yn}{t0:Yr}{size:Yn}{sv:Yq}{m:Yn}{xs:Ye Yq}(Aq:w.ownsRow base t0 size sv m xs){g o n c:Yn}(AA:sv=.slice (Yg ⟨g,0,Yf⟩) n c){v:Yq}(h1:∀u∈v.cells.toList,u.oneCell'=Yp)(hl:v.cells.toList.length=ti.size)(BF:o+v.cells.toList.length<=xs.length):∃w',(YaH t ⟨g,o,Yf⟩ v).run P w=.ok () w'/\w.grownBy w' (Yg g)/\w'.ownsRow base t0 size sv m (xs.take o++v.cells.toList++xs.drop (o+v.cells.toList.length)):=by
 obtain⟨F4,DI⟩:=Aq;rcases DI with⟨h0,_⟩|⟨g',cap,Ba,KK,Cs,hh,FD,FC,XE,Jr⟩
 ·rw[AA]at h0;cases h0
 have hh:w.heap[g']?=Yg (.cells Ba t0 (0,0)):=hh
 have Ga:g'=g:=by rw[AA]at KK;injection KK with e1 e2 e3;injection e1 with e1;injection e1 with e1;exact e1.symm
 subst Ga
 have Bg:Ba.toList=xs++Ba.toList.drop (m*size):=by rw[<-Jr,M0]
 have AdB:o+v.cells.toList.length<=Ba.toList.length:=by rw[Bg];simp only[AQ];omega
 have Ce:=Afn f (v:=v) (vs:=Ba.toList) (off:=o) (t0:=t0) (g:=g') (w:=w) (by simpa using hh) hl AdB h1
 have Jl:Ba.toList.take o++v.cells.toList++Ba.toList.drop (o+v.cells.toList.length)=xs.take o++v.cells.toList++xs.drop (o+v.cells.toList.length)++Ba.toList.drop (m*size):=by
  have e1:Ba.toList.take o=xs.take o:=by rw[Bg,L6 (by omega)]
  have e2:Ba.toList.drop (o+v.cells.toList.length)=xs.drop (o+v.cells.toList.length)++Ba.toList.drop (m*size):=by
   conv=>lhs;rw[Bg]
   rw[OY BF]
  rw[e1,e2];simp only[C4]
 have Mm:(xs.take o++v.cells.toList++xs.drop (o+v.cells.toList.length)).length=xs.length:=by simp only[AQ,HP,LA];omega
 refine⟨_,Ce,rE w g' _,by rw[Mm];exact F4,.inr ⟨g',cap,_,KK,Cs,setRow_heap w g' _ _ t0 _ hh,FD,FC,?_,?_⟩⟩
 ·have Adn:Ba.size=cap*size:=XE
  have:(Ba.toList.take o++v.cells.toList++Ba.toList.drop (o+v.cells.toList.length)).length=Ba.toList.length:=by simp only[AQ,HP,LA];omega
  rw[a8,this,Hq];exact Adn
 ·simp only[Jl]
  rw[L6 (by rw[Mm,F4];exact Av _),GY (by rw[Mm,F4];exact Av _)]
theorem AtC{P:Yw}{t:Yr}{ti:TI}{i:YN}{d:YD}{z:Yq}(f:TFacts P t ti i d z){E:Env}(AKT:Ez E){base:Yn}{t0:Yr}{e:Ty}{l:Ye e.den}{sv:Yq}{xs:Ye Yq}(hd:DList (λx u=>DRep E.w E.ok e x u) l xs)(Aq:E.w.ownsRow base t0 e.size sv l.length xs){ix off g n c:Yn}(hi:ix<l.length)(AA:sv=.slice (Yg ⟨g,0,Yf⟩) n c){new rc:Ye C}{v:Yq}(hy:CReps E new v.cells.toList)(OD:new.length=ti.size)(Jo:over (cells e (l.getD ix e.dflt)) off new=Yg rc){x':e.den}(AdQ:LF (λ_=>Yf) e rc=Yg x'):∃w' D4,(YaH t ⟨g,ix*e.size+off,Yf⟩ v).run P E.w=.ok () w'/\E.w.grownBy w' (Yg g)/\DList (λx u=>DRep E.w E.ok e x u) (l.set ix x') D4/\w'.ownsRow base t0 e.size sv l.length D4:=by
 obtain⟨u,p1,q1,Zv,EX,O9⟩:=DList.get e.dflt hd hi;have De:=Iq (E:=E) O9;obtain⟨s1,s2⟩:=Uq De hy Jo;have Arq:=hy.length;have oC:=O9.length;have DB:=Py AKT (Rows.none _ _) s1 AdQ;have AOK:=DB.length;obtain⟨p2,u2,q2,ArQ,CY,AOI,BI⟩:=DList.set x' _ hd hi DB
 have nZ:p1=p2/\u=u2/\q1=q2:=by rw[Zv]at ArQ;have h3:=aG ArQ (by omega);have h4:=aG h3.2 (by omega);exact⟨h3.1,h4.1,h4.2⟩
 obtain⟨rfl,rfl,rfl⟩:=nZ
 have ALB:ix*e.size+off+v.cells.toList.length<=xs.length:=by rw[Zv];simp only[AQ];omega
 obtain⟨w',h1,h2,h3⟩:=Afo f Aq (o:=ix*e.size+off) AA hy.oneCell (by omega) ALB;refine⟨w',_,h1,h2,BI,?_⟩
 have:p1++(u.take off++v.cells.toList++u.drop (off+v.cells.toList.length)++q1)=xs.take (ix*e.size+off)++v.cells.toList++xs.drop (ix*e.size+off+v.cells.toList.length):=by
  rw[Zv]
  have e1:(p1++(u++q1)).take (ix*e.size+off)=p1++u.take off:=by rw[aA,GY (by omega),L6 (by omega)];congr 2;omega
  have e2:(p1++(u++q1)).drop (ix*e.size+off+v.cells.toList.length)=u.drop (off+v.cells.toList.length)++q1:=by rw[aB,Rb (by omega),GA,OY (by omega)];congr 2;omega
  rw[e1,e2];simp only[C4]
 rw[this];exact h3
theorem Uu{T:Yr->Ya TI}(hT:TOk P T){kk:K β}{t:Yr}{x y:Y2}(ho:o.op=.store t x y)(hk:Pr T bl t (ρ x) (ρ y) kk=Yg r):Sound P o ρ bl kk r:=by
 unfold Pr at hk;split at hk
 ·rename_i ti new ht Jl
  obtain⟨i,d,z,f⟩:=hT.facts ht;cases AU:Yo new.length ti.size with
  |false=>rw[AU]at hk;cases hk
  |true=>
   have OD:=AB AU;simp only[AU,As]at hk
   have AJ:∀(a:Act)(w w':Yx)(ad:Addr),a.eval x=.pointer (Yg ad)->(YaH t ad (a.eval y)).run P w=.ok () w'->(Y3 a.eval o).run P w=.ok .skip w':=by intro a w w' ad ha hv;simp[Y3,ho,ha,Instr.storeAt,Yau,hv]
   split at hk
   ·rename_i b off hx
    split at hk
    ·rename_i t0 cs hb
     split at hk
     ·rename_i rc Jo
      refine⟨_,_,_,hk,λAb Ai=>?_⟩;have AE:Ab b=Yg (.cells t0 cs):=(Ai b (by simp)).trans hb;intro ok0 base pl w a hr Ae K Q hK;have hv:=Ae x (by simp[ho,Yt]);rw[hx]at hv;obtain⟨g,hg,B6⟩:=hv;obtain⟨p,hp,hB⟩:=hr.blks b _ AE;have:p=.cells g:=by have h2:pl b=Yg (.cells g):=hg;rw[hp]at h2;injection h2
      subst this;obtain⟨vs,hh,De⟩:=hB;have hy:=VRep.cells_of Jl (Ae y (by simp[ho,Yt]));obtain⟨s1,s2⟩:=Uq De hy Jo;have Arq:=hy.length;have Ce:=Afn f (v:=a.eval y) hh (by omega) s2 hy.oneCell;have HG:=rE w g (vs.take off++(a.eval y).cells.toList++vs.drop (off+(a.eval y).cells.toList.length)).toArray;have hs:=Step.wrote (cs':=rc) hr AE hp HG;refine Pv (AJ a w _ _ B6 Ce) (hK undef (upd pl b (.cells g)) _ ?_ hs trivial);exact RelB.wrote hr AE hp HG ⟨_,setRow_heap w g _ _ t0 _ hh,s1.mono hs.ext⟩
     ·cases hk
    ·cases hk
   ·rename_i b ver ix off hx
    split at hk
    ·rename_i t0 e ver' l hb
     cases AY:Yo ver ver' with
     |false=>rw[AY]at hk;cases hk
     |true=>
      have:=AB AY;subst this;simp only[AY,As]at hk;split at hk
      ·rename_i rc Jo
       split at hk
       ·rename_i x' AdQ
        refine⟨_,_,_,hk,λAb Ai=>?_⟩;have AE:Ab b=Yg (.row t0 e ver l):=(Ai b (by simp)).trans hb;intro ok0 base pl w a hr Ae K Q hK;have hv:=Ae x (by simp[ho,Yt]);rw[hx]at hv;obtain⟨sv,Ac,ad,hg,B6,Bg⟩:=hv;obtain⟨hi,g,n,c,AA,rfl⟩:=(Bg t0 e ver l AE).2 rfl;obtain⟨p,hp,hB⟩:=hr.blks b _ AE;have:p=.row sv Ac:=by have h2:pl b=Yg (.row sv Ac):=hg;rw[hp]at h2;injection h2
        subst this;obtain⟨h0,xs,hd,Aq⟩:=hB;subst h0;have hy:=VRep.cells_of Jl (Ae y (by simp[ho,Yt]));obtain⟨w',D4,Ce,HG,BI,DI⟩:=AtC f (E:=At ok0 base pl Ab w) hr.blksOk hd Aq hi AA hy OD Jo AdQ;have Ap:sv.ownBlock=Yg g:=by rw[AA];rfl
        have Ar9:w.grownBy w' sv.ownBlock:=by rw[Ap];exact HG
        have hs:=Step.grown (l':=l.set ix x') hr AE hp Ar9 (.inl rfl) ⟨Av _,λ_=>⟨rfl,by simp⟩⟩;have GQ:=hs.ext (ok0:=ok0) (base:=base);refine Pv (AJ a w _ _ B6 Ce) (hK undef (upd pl b (.row sv [])) _ ?_ hs trivial);exact RelB.grown hr AE hp Ar9 (.inl rfl) ⟨Av _,λ_=>⟨rfl,by simp⟩⟩ ⟨rfl,D4,BI.mono λx u hu=>hu.mono GQ.heap,by rw[Pe];exact DI⟩
       ·cases hk
      ·cases hk
    ·cases hk
   ·
    rename_i b ver p ix off hx;split at hk
    ·rename_i t0 e ver' Ah l hb
     cases AY:Yo ver (tv ver' Ah p)with
     |false=>rw[AY]at hk;cases hk
     |true=>
      have:=AB AY;subst this;simp only[AY,As]at hk;split at hk
      ·rename_i n hn
       split at hk
       ·rename_i x' Mp
        refine⟨_,_,_,hk,λAb Ai=>?_⟩;have AE:Ab b=Yg (.tree t0 e ver' Ah Yf l):=(Ai b (by simp)).trans hb;intro ok0 base pl w a hr Ae K Q hK;have hv:=Ae x (by simp[ho,Yt]);rw[hx]at hv;obtain⟨sv,Ac,n',s,g,m,c,Bp,hT,E4,hs,hi,AA,B6⟩:=Afi (E:=At ok0 base pl Ab w) hr.blksOk AE hv;have:=MC E4;rw[hn]at this;injection this with this;subst this;have hp:pl b=Yg (.row sv Ac):=Bp;have hy:=VRep.cells_of Jl (Ae y (by simp[ho,Yt]));have Arq:=hy.length;obtain⟨xs,Aq,BF,IB⟩:=hT.leaf hr.blksOk E4 hs hi AA hy Mp;have AMc:=Same.write E4 hi Mp;obtain⟨w',Ce,HG,DI⟩:=Afo f Aq (o:=ix*n.1.2.ty.size+off) AA hy.oneCell (by omega) BF;have Ap:s.ownBlock=Yg g:=by rw[AA];rfl
        have Jn:∀g',Yg g=Yg g'->(Pl.row sv Ac).has g':=λg' h=>by
         injection h with h;subst h;rcases Bl.1 (Dg hs)with h1|h1
         ·injection h1 with h1;exact .inl (h1▸Ap)
         ·obtain⟨j,hj⟩:=Rc.1 h1;exact .inr ⟨j,s,hj,Ap⟩
        have OB:KeepR (Yg (.tree t0 e ver' Ah Yf l)) (Yg (.tree t0 e ver' Ah Yf (setD (.r t0 e) l 0 p n.1.2 (n.2.set ix x')))) sv Ac sv Ac:=
         KeepR.ofTree ⟨Av _,Av _,λ_=>⟨rfl,KeepT.same AMc sv Ac⟩⟩
        have ArK:=Step.grownP hr AE rfl hp HG Jn (λg h=>.inl h) OB;have GQ:=ArK.ext (ok0:=ok0) (base:=base);refine Pv (AJ a w _ _ B6 Ce) (hK undef (upd pl b (.row sv Ac)) _ ?_ ArK trivial);exact RelB.grownP hr AE rfl hp HG Jn (λg h=>.inl h) OB (IB _ GQ rfl (λg' h AO=>HG.block g' (Own.lt hr ⟨b,_,_,AE,rfl,hp,h⟩) (λh2=>AO (by injection h2))) DI)
       ·cases hk
      ·cases hk
    ·
     rename_i t0 e ver' Ah PP l hb;cases AY:Yo ver (tv ver' Ah p)with
     |false=>rw[AY]at hk;cases hk
     |true=>
      have:=AB AY;subst this;simp only[AY,As]at hk;split at hk
      ·rename_i n rr m hn AMa
       split at hk
       ·rename_i Cz
        obtain⟨ALW,hk⟩:=DN hk;have:=Afm ALW;subst this;refine⟨_,_,_,hk,λAb Ai=>?_⟩;have AE:Ab b=Yg (.tree t0 e ver' Ah (Yg (p++[(ix,off)])) l):=(Ai b (by simp)).trans hb;intro ok0 base pl w a hr Ae K Q hK;have hv:=Ae x (by simp[ho,Yt]);rw[hx]at hv;obtain⟨sv,Ac,ad,hg,B6,Bg⟩:=hv
        obtain⟨n0,s,JK,hs,hi,g,m0,c,AA,rfl⟩:=(Bg _ _ _ _ _ _ AE).2 rfl (λq hq JL=>by injection hq with hq;subst hq;have:=JL.length_le;simp only[AQ,E9]at this;omega)
        obtain⟨q,hp,hB⟩:=hr.blks b _ AE;have:q=.row sv Ac:=by have h2:pl b=Yg (.row sv Ac):=hg;rw[hp]at h2;injection h2
        subst this;have ArM:=Ae y (by simp[ho,Yt]);obtain⟨svr,Fr,Br,O8,nS,ALI,Tp,hu,Arz,Jq⟩:=rC (E:=At ok0 base pl Ab w) hr.blksOk AMa (Ai rr (by simp)) ArM;have O8:Ab rr=Yg Br:=O8;have Tp:pl rr=Yg (.row (a.eval y) svr):=Tp;have Ig:Br.live=Yp:=by cases Br<;>first|rfl|exact Y7 rfl nS
        have AdU:rr≠b:=by rintro rfl;rw[AE]at O8;injection O8 with O8;exact ALI _ _ _ _ _ _ O8.symm
        have Ary:∀g',(Pl.row sv Ac).has g'->CA pl Ab b g':=λg' h=>⟨_,_,AE,rfl,hp,h⟩;have ALT:∀s'∈a.eval y::Fr,∀g',s'.ownBlock=Yg g'->CA pl Ab rr g':=λs' Cd g' h=>⟨_,_,O8,Ig,Tp,Pz Arz Cd h⟩;have hsep:∀s'∈a.eval y::Fr,∀g',s'.ownBlock=Yg g'->¬(Pl.row sv Ac).has g':=λs' Cd g' h h2=>hr.sep rr b _ _ _ _ g' AdU O8 AE Ig rfl Tp hp (Pz Arz Cd h) h2;have Jm:∀g',(Pl.row sv Ac).has g'->¬(At ok0 base pl Ab w).ok g':=λg' h h2=>h2.2 ⟨b,_,_,AE,rfl,hp,h⟩;obtain⟨⟨old,DG⟩,Q6,By,ALk,IB⟩:=TreeOk.put (E:=At ok0 base pl Ab w) hB JK hs hi AA Jm hn Cz hu Jq hsep;have Tu:(a.eval y).oneCell'=Yp:=(hu (a.eval y)).oneCell _ (by simp)
        have Ado:(a.eval y).cells=#[a.eval y]:=by obtain⟨_,_,_,z1,_,z3,_⟩:=hu (a.eval y);have z1:=(LB z1).1;rw[z1];rcases z3.2 with⟨h,_⟩|⟨g,cap,Ba,h,_⟩<;>rw[h]<;>rfl
        have Ce:(YaH t ⟨g,ix*n0.1.2.ty.size+off,Yf⟩ (a.eval y)).run P w=.ok () (w.setCell ⟨g,ix*n0.1.2.ty.size+off,Yf⟩ (a.eval y)):=by
         have XD:new.length=1:=by have:=(VRep.cells_of Jl ArM).length;rw[Ado]at this;simpa using this.symm
         have DG:w.cell? ⟨g,ix*n0.1.2.ty.size+off,Yf⟩=Yg old:=DG;have Q6:w.frozen? ⟨g,ix*n0.1.2.ty.size+off,Yf⟩=Yi:=Q6;have Cp:(a.eval y).cells.size=ti.size:=by rw[Ado];simp;omega
         simp only[YaH,YC,run_sizeOf f,Y9,Cp,ne_eq,ZZ,CN];rw[Ado];have Adc:(⟨g,ix*n0.1.2.ty.size+off,Yf⟩:Addr).add 0=⟨g,ix*n0.1.2.ty.size+off,Yf⟩:=by simp[Ya4]
         simp only[storeCells,YC,Adc,run_store P w _ _ _ Tu,DG,Q6,IQ,CN,Y9];rfl
        have Ap:s.ownBlock=Yg g:=by rw[AA];rfl
        have ALm:(Pl.row sv Ac).has g:=by
         rcases Bl.1 (Dg hs)with h1|h1
         ·injection h1 with h1;exact .inl (h1▸Ap)
         ·obtain⟨j,hj⟩:=Rc.1 h1;exact .inr ⟨j,s,hj,Ap⟩
        have HG:w.grownBy (w.setCell ⟨g,ix*n0.1.2.ty.size+off,Yf⟩ (a.eval y)) (Yg g):=
         ⟨rfl,rfl,rfl,by simp[YaB],λk _ hk=>YZ w _ k _ (λe=>hk (by rw[e]))⟩
        have IB:=λ(E':Env)(h1:E'.w=w.setCell ⟨g,ix*n0.1.2.ty.size+off,Yf⟩ (a.eval y))=>IB E' h1;generalize w.setCell ⟨g,ix*n0.1.2.ty.size+off,Yf⟩ (a.eval y)=w' at*
        have Art:∀g',(Pl.row sv By).has g'->CA pl Ab rr g'\/CA pl Ab b g'\/w.heap.size<=g':=λg' h=>by
         rcases ALk g' h with h|⟨s',Cd,h⟩
         ·exact .inr (.inl (Ary g' h))
         ·exact .inl (ALT s' Cd g' h)
        have Jn:∀g',Yg g=Yg g'->CA pl Ab rr g'\/CA pl Ab b g':=λg' h=>by injection h with h;subst h;exact .inr (Ary _ ALm)
        have Fb:Step pl Ab w (upd (upd pl rr (.row (a.eval y) [])) b (.row sv By)) (upd (upd Ab rr .dead) b (.tree t0 e ver' (Ah+1) Yf (setD (.r t0 e) l 0 (p++[(ix,off)]) m.1.2 m.2))) w':=by
         refine Step.two hr AdU HG Jn (λg' h=>by cases h) (λg' _ h=>Art g' h) (λg' h=>by rw[Tp]at h;cases h) (λg' h=>by rw[hp]at h;cases h) (λsv0 ZE h=>?_) (λsv0 ZE h=>?_)
         ·rw[Tp]at h
          injection h with h;injection h with h h2;subst h h2;exact⟨_,_,rfl,KeepR.ofDead⟩
         ·rw[hp]at h
          injection h with h;injection h with h h2;subst h h2;refine⟨_,_,rfl,?_⟩;rw[AE];refine KeepR.ofTree ⟨Av _,by omega,λ_=>⟨rfl,λq hq ho=>?_⟩⟩;rcases hq with rfl|hq
          ·refine⟨λQ hQ JL=>?_,λn2 Dq=>?_⟩
           ·injection hQ with hQ
            subst hQ;have:=List.prefix_nil.1 JL;simp at this
           ·simp only[BL,Af]at Dq
            subst Dq;refine⟨⟨(t0,e),setD (.r t0 e) l 0 (p++[(ix,off)]) m.1.2 m.2⟩,rfl,rfl,?_,λs hs=>hs⟩;cases p<;>simp[setD]
          ·omega
        have GQ:=Fb.ext (ok0:=ok0) (base:=base);refine Pv (AJ a w _ _ B6 Ce) (hK undef (upd (upd pl rr (.row (a.eval y) [])) b (.row sv By)) _ ?_ Fb trivial);refine RelB.two hr AdU HG Jn (λg' h=>by cases h) (λg' _ h=>Art g' h) (λg' h=>by cases h) Fb trivial (IB _ rfl rfl λg' h Ax=>(GQ.heap g' h Ax).1)
       ·cases hk
      ·cases hk
    ·cases hk
   ·cases hk
 ·cases hk
end
end Go.Lift
