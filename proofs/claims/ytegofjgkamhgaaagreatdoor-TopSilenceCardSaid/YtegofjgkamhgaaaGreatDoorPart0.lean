/- Part0 -/
import Derived.Laws.AppendOwn
import Derived.Below
import Derived.Lib.Join
import Derived.Lib.LaidTab
import Derived.Lib.ItoaNum
import Derived.Lib.Space
import Derived.Lib.SpaceR
import Derived.Orders
import Derived.Laws.Rows
import Derived.Laws.CopyRow
import Derived.Laws.MakeOwn
import Derived.Laws.Build
import Derived.Laws.StructEq
import Derived.Laws.Small
import Derived.Deep.RegionLaw
set_option linter.unusedVariables false
set_option linter.unusedSectionVars false
set_option linter.unusedSimpArgs false
open _root_ renaming List → Ya, Option → Yb, Int → Yi, Nat → Yk, UInt8 → Yl, cond → Yr, Bool → Ys, absurd → Yw, if_neg → Y4, if_pos → Y7, Array → YX
open Bool renaming false → Yc, true → Yo
open Option renaming some → Yd, none → Ye
open Decidable renaming decide → Yf
open List renaming length → Yg, getD → Yn, replicate → Y8, set → YG, set_append_left → YaZ, take_succ_cons → Ybc
open Nat renaming beq → Ym, blt → Yz, ble → YB, min → YS
open Go renaming Value → Yp, TypeId → Yq, Program → Yv, World → Yx, Operand → Y0, execOp → Y1, FuncId → Y6, TypeDesc → YC, MapEntry → YL, IntKind → YP, heap_setCell_other → Yab, maxLen → Yaj, BinOp → Ya4
open Go.Op renaming operands → Yt, bytesLess → Yy
open Go.Region renaming binds → YH
open BitVec renaming ofInt → Yad
open Go.Oper renaming wp → Yan
open Go.Lib renaming join → Ya2
open Go.Addr renaming add → Ya3
namespace Go.Lift
abbrev Af:=@Option.some.injEq
abbrev At:=@Nat.eq_of_beq_eq_true
abbrev AC:=@of_decide_eq_true
abbrev Ai:=@congrArg
abbrev Aw:=@Nat.le_refl
abbrev Ao:=@cond_true
abbrev Bd:=@List.length_append
abbrev Be:=@List.length_cons
abbrev Bg:=@List.mem_cons
abbrev C0:=@List.getElem?_eq_getElem
abbrev Bv:=@Prod.mk.injEq
abbrev BP:=@List.length_nil
abbrev Do:=@List.getElem?_eq_some_iff
abbrev Dg:=@List.getElem?_cons_zero
abbrev BV:=@List.mem_append
abbrev CI:=@List.mem_append_left
abbrev CN:=@List.mem_of_getElem?
abbrev Da:=@List.mem_append_right
abbrev BH:=@Nat.le_trans
abbrev C1:=@List.append_assoc
abbrev BD:=@Nat.zero_le
abbrev Ee:=@List.getElem?_cons_succ
abbrev EQ:=@Array.getD_eq_getD_getElem?
abbrev CJ:=@List.length_take
abbrev ES:=@List.getElem?_append_right
abbrev C8:=@Nat.not_lt_zero
abbrev CO:=@Bool.and_eq_true
abbrev Fb:=@Array.getElem?_eq_some_iff
abbrev CK:=@List.cons.injEq
abbrev FT:=@List.eq_nil_of_length_eq_zero
abbrev CD:=@decide_eq_true
abbrev BU:=@cond_false
abbrev DS:=@List.mem_singleton
abbrev E6:=@List.mem_cons_of_mem
abbrev CP:=@List.map_cons
abbrev CQ:=@Nat.zero_add
abbrev G0:=@List.getElem?_append_left
abbrev DT:=@List.nil_append
abbrev Fs:=@Nat.mul_le_mul_right
abbrev Ew:=@List.getElem_mem
abbrev Cb:=@if_false
abbrev Ex:=@decide_eq_false
abbrev FU:=@List.pairwise_append
abbrev EE:=@List.cons_append
abbrev Gi:=@Array.toArray_toList
abbrev FV:=@Array.length_toList
abbrev GL:=@List.take_of_length_le
abbrev GM:=@List.drop_of_length_le
abbrev DJ:=@Nat.succ_mul
abbrev HA:=@List.getElem?_take_of_lt
abbrev FJ:=@List.getElem?_map
abbrev Fc:=@List.length_map
abbrev Ft:=@Option.map_some
abbrev Fv:=@List.mem_filter
abbrev G3:=@Bool.false_eq_true
abbrev G4:=@List.pairwise_cons
abbrev Ey:=@Int.le_refl
abbrev Gj:=@List.append_nil
abbrev JH:=@List.drop_eq_getElem_cons
abbrev IC:=@Nat.le_of_ble_eq_true
abbrev KY:=@List.take_append_of_le_length
abbrev GN:=@List.length_drop
abbrev CR:=@if_true
abbrev Fw:=@List.mem_map
abbrev HB:=@decide_eq_true_eq
abbrev Ij:=@Nat.lt_of_lt_of_le
abbrev Ef:=@and_true
abbrev Ik:=@Bool.or_eq_true
abbrev ID:=@Nat.min_eq_left
abbrev Jh:=@Option.getD_some
abbrev Ji:=@Nat.le_antisymm
abbrev MF:=@Nat.add_sub_cancel_left
abbrev KZ:=@List.getElem?_drop
abbrev Il:=@List.map_nil
abbrev MG:=@List.getElem?_eq_none
abbrev MH:=@List.length_filter_le
abbrev LH:=@List.getElem?_take
abbrev LI:=@List.filter_append
abbrev HC:=@Array.ext'
abbrev NQ:=@Option.map_eq_some_iff
abbrev PA:=@Array.getElem?_eq_getElem
abbrev PC:=@List.getElem?_eq_none_iff
abbrev La:=@List.nodup_cons
abbrev NR:=@List.take_append_drop
abbrev RN:=@List.drop_append_of_le_length
abbrev LJ:=@List.filter_cons
abbrev MI:=@of_decide_eq_false
abbrev Ko:=@Bool.false_or
abbrev NS:=@Bool.or_eq_false_iff
abbrev LK:=@List.map_append
abbrev LL:=@List.take_left'
abbrev Lb:=@List.cons.inj
abbrev PD:=@List.mem_iff_getElem?
abbrev NT:=@List.mem_cons_self
abbrev PE:=@List.getElem?_toArray
abbrev PF:=@List.length_replicate
abbrev LM:=@List.take_take
abbrev PG:=@Array.getElem?_modify
abbrev NU:=@List.size_toArray
abbrev NV:=@List.flatMap_cons
abbrev Jj:=@heq_eq_eq
abbrev VS:=@Array.getElem?_setIfInBounds
abbrev NW:=@List.all_eq_true
abbrev LN:=@Nat.le_of_eq
abbrev NX:=@Option.some.inj
abbrev VT:=@Array.getElem?_append_left
abbrev PH:=@Bool.not_eq_true'
abbrev MJ:=@Nat.add_comm
abbrev MK:=@Classical.em
abbrev PI:=@Array.toList_map
abbrev d8:=@List.take_succ_eq_append_getElem
abbrev VU:=@Bool.eq_false_or_eq_true
abbrev RO:=@List.mem_map_of_mem
abbrev RP:=@Nat.eq_zero_or_pos
abbrev RQ:=@Int.tmod_lt_of_pos
abbrev RR:=@List.ext_getElem?
abbrev RT:=@List.length_range
abbrev RU:=@List.pairwise_map
abbrev PJ:=@List.drop_drop
abbrev PK:=@List.drop_zero
abbrev RV:=@List.take_append
abbrev RX:=@List.drop_append
abbrev RY:=@List.not_mem_nil
abbrev VV:=@List.getElem?_of_mem
abbrev VW:=@List.mem_of_mem_drop
abbrev yZ:=@Array.getElem?_setIfInBounds_self_of_lt
abbrev PL:=@List.any_cons
abbrev NY:=@Nat.add_mul
abbrev VX:=@Array.getElem?_push
abbrev VY:=@List.filter_eq_self
abbrev d9:=@List.pairwise_iff_getElem
abbrev RZ:=@List.length_set
abbrev Sa:=@List.foldl_cons
abbrev PM:=@List.map_map
abbrev dA:=@Option.isSome_iff_exists
abbrev Sb:=@List.take_left
abbrev Sc:=@List.mem_range
abbrev dB:=@List.length_eq_zero_iff
abbrev dC:=@Nat.le_mul_of_pos_right
abbrev dD:=@decide_eq_false_iff_not
abbrev VZ:=@not_true_eq_false
abbrev PN:=@Nat.le_succ
abbrev dE:=@List.drop_eq_nil_of_le
abbrev Sd:=@Nat.add_assoc
abbrev Se:=@Bool.not_true
abbrev Sf:=@Bool.or_false
abbrev Wa:=@List.take_length
abbrev Wb:=@Nat.min_eq_right
abbrev Wc:=@Array.mem_append
abbrev Wd:=@Option.bind_some
abbrev z6:=@Array.all_eq_true_iff_forall_mem
abbrev We:=@List.any_eq_true
abbrev dF:=@List.set_append_right
abbrev dG:=@List.length_mergeSort
abbrev z7:=@Array.getElem?_setIfInBounds_ne
abbrev Sg:=@Nat.zero_mul
abbrev Wg:=@List.append_inj
abbrev Sh:=@Nat.sub_self
abbrev dH:=@List.range_eq_range'
abbrev Si:=@Nat.min_self
abbrev Sj:=@Bool.true_or
abbrev dI:=@List.Pairwise.filter
abbrev dJ:=@Array.toList_append
abbrev dK:=@List.flatMap_append
abbrev dL:=@beq_eq_false_iff_ne
abbrev Wh:=@List.drop_left
abbrev Wi:=@List.nodup_nil
abbrev Wj:=@List.sum_cons
abbrev z8:=@List.getD_eq_getElem?_getD
abbrev dM:=@Nat.lt_trichotomy
abbrev dN:=@not_false_eq_true
abbrev dO:=@Int.toNat_natCast
abbrev dP:=@Array.size_append
abbrev dQ:=@List.nodup_append
abbrev dR:=@decide_eq_decide
abbrev dS:=@List.mem_toArray
abbrev dT:=@List.flatMap_map
abbrev Wk:=@Int.le_trans
abbrev dU:=@List.mem_flatMap
inductive Ty where
 |bool|int (k:YP)|str|unit|err
 |prod (a b:Ty)|slice (e:Ty)
 deriving DecidableEq
@[reducible] def Ty.den:Ty->Type
 |.bool=>Ys
 |.int _=>Yi
 |.str=>Ya Yl
 |.unit=>Unit
 |.err=>Ys
 |.prod a b=>a.den×b.den
 |.slice e=>Ya e.den
def Ty.dflt:(τ:Ty)->τ.den
 |.bool=>Yc
 |.int _=>(0:Yi)
 |.str=>([]:Ya Yl)
 |.unit=>()
 |.err=>Yo
 |.prod a b=>(a.dflt,b.dflt)
 |.slice e=>([]:Ya e.den)
def Ty.size:Ty->Yk
 |.bool|.int _|.str|.err|.slice _=>1
 |.unit=>0
 |.prod a b=>a.size+b.size
def DList{α:Type}(R:α->Ya Yp->Prop):Ya α->Ya Yp->Prop
 |[],xs=>xs=[]
 |x::l,xs=>∃u v,xs=u++v/\R x u/\DList R l v
def errRep:Ys->Yp->Prop
 |true,v=>v=.nilIface
 |false,v=>∃t u,v=.iface t u
theorem errRep.one{b:Ys}{v:Yp}(h:errRep b v):v.oneCell'=Yo:=by
 cases b with
 |true=>obtain rfl:v=.nilIface:=h;rfl
 |false=>obtain⟨t,u,rfl⟩:=h;rfl
def DRep(w:Yx)(ok:Yk->Prop):(τ:Ty)->τ.den->Ya Yp->Prop
 |.bool,b,vs=>vs=[.bool b]
 |.int k,n,vs=>vs=[.int k n]
 |.str,s,vs=>vs=[.string ⟨s.toArray⟩]
 |.err,b,vs=>∃v,vs=[v]/\errRep b v
 |.unit,_,vs=>vs=[]
 |.prod a b,x,vs=>∃u v,vs=u++v/\DRep w ok a x.1 u/\DRep w ok b x.2 v
 |.slice e,l,vs=>∃A c xs,vs=[.slice A l.length c]/\l.length<=c/\c<=Yaj/\DList (λx u=>DRep w ok e x u) l xs/\
   ∀j v,xs[j]?=Yd v->∃ad,A=Yd ad/\ok ad.block/\w.cell? (ad.add j)=Yd v
theorem DList.mono{α:Type}{R R':α->Ya Yp->Prop}(h:∀x u,R x u->R' x u):∀{l xs},DList R l xs->DList R' l xs
 |[],_,hx=>hx
 |_::_,_,⟨u,v,e,hr,ht⟩=>⟨u,v,e,h _ _ hr,DList.mono h ht⟩
theorem DList.append{α:Type}{R:α->Ya Yp->Prop}:∀{l l' xs ys},DList R l xs->DList R l' ys->DList R (l++l') (xs++ys)
 |[],_,_,_,hx,hy=>by simp only[DList]at hx;subst hx;simpa using hy
 |_::_,_,_,_,⟨u,v,e,hr,ht⟩,hy=>⟨u,v++_,by rw[e,C1],hr,DList.append ht hy⟩
theorem DRep.length{w:Yx}{ok:Yk->Prop}:∀{τ:Ty}{x:τ.den}{vs:Ya Yp},DRep w ok τ x vs->vs.length=τ.size
 |.bool,_,_,h=>by simp only[DRep]at h;simp[h,Ty.size]
 |.int _,_,_,h=>by simp only[DRep]at h;simp[h,Ty.size]
 |.str,_,_,h=>by simp only[DRep]at h;simp[h,Ty.size]
 |.err,_,_,h=>by simp only[DRep]at h;obtain⟨v,rfl,_⟩:=h;rfl
 |.unit,_,_,h=>by simp only[DRep]at h;simp[h,Ty.size]
 |.prod a b,_,_,h=>by simp only[DRep]at h;obtain⟨u,v,rfl,h1,h2⟩:=h;simp[Ty.size,DRep.length h1,DRep.length h2]
 |.slice _,_,_,h=>by simp only[DRep]at h;obtain⟨A,c,xs,rfl,_⟩:=h;simp[Ty.size]
theorem DRep.oneCell{w:Yx}{ok:Yk->Prop}:∀{τ:Ty}{x:τ.den}{vs:Ya Yp},DRep w ok τ x vs->∀v∈vs,v.oneCell'=Yo
 |.bool,_,_,h,v,hv=>by simp only[DRep]at h;subst h;simp at hv;subst hv;rfl
 |.int _,_,_,h,v,hv=>by simp only[DRep]at h;subst h;simp at hv;subst hv;rfl
 |.str,_,_,h,v,hv=>by simp only[DRep]at h;subst h;simp at hv;subst hv;rfl
 |.err,_,_,h,v,hv=>by simp only[DRep]at h;obtain⟨u,rfl,hu⟩:=h;simp at hv;subst hv;exact hu.one
 |.unit,_,_,h,v,hv=>by simp only[DRep]at h;subst h;simp at hv
 |.prod a b,_,_,h,v,hv=>by
  simp only[DRep]at h;obtain⟨x,y,rfl,h1,h2⟩:=h;rcases BV.1 hv with hv|hv
  ·exact DRep.oneCell h1 v hv
  ·exact DRep.oneCell h2 v hv
 |.slice _,_,_,h,v,hv=>by simp only[DRep]at h;obtain⟨A,c,xs,rfl,_⟩:=h;simp at hv;subst hv;rfl
theorem DList.length{w:Yx}{ok:Yk->Prop}{e:Ty}:∀{l:Ya e.den}{xs:Ya Yp},DList (λx u=>DRep w ok e x u) l xs->xs.length=l.length*e.size
 |[],_,h=>by simp only[DList]at h;simp[h]
 |_::l,_,⟨u,v,e1,hr,ht⟩=>by rw[e1,Bd,DRep.length hr,DList.length ht,Be,DJ,MJ]
theorem DList.oneCell{w:Yx}{ok:Yk->Prop}{e:Ty}:∀{l:Ya e.den}{xs:Ya Yp},DList (λx u=>DRep w ok e x u) l xs->∀v∈xs,v.oneCell'=Yo
 |[],_,h,v,hv=>by simp only[DList]at h;subst h;simp at hv
 |_::l,_,⟨x,y,e1,hr,ht⟩,v,hv=>by
  subst e1;rcases BV.1 hv with hv|hv
  ·exact DRep.oneCell hr v hv
  ·exact DList.oneCell ht v hv
theorem DList.get{w:Yx}{ok:Yk->Prop}{e:Ty}:∀{l:Ya e.den}{xs:Ya Yp}{i:Yk}(d:e.den),DList (λx u=>DRep w ok e x u) l xs->i<l.length->∃u p q,xs=p++(u++q)/\p.length=i*e.size/\DRep w ok e (l.getD i d) u
 |[],_,i,_,_,h=>by simp at h
 |x::l,xs,0,d,⟨u,v,e1,hr,ht⟩,_=>⟨u,[],v,by simp[e1],by simp,by simpa using hr⟩
 |x::l,xs,i+1,d,⟨u,v,e1,hr,ht⟩,h=>by obtain⟨u',p,q,hv,hp,hd⟩:=DList.get (i:=i) d ht (by simpa using h);refine⟨u',u++p,q,by rw[e1,hv,C1],?_,by simpa using hd⟩;rw[Bd,DRep.length hr,hp,DJ,MJ]
theorem DList.set{w:Yx}{ok:Yk->Prop}{e:Ty}:∀{l:Ya e.den}{xs:Ya Yp}{i:Yk}(x':e.den)(u':Ya Yp),DList (λx u=>DRep w ok e x u) l xs->i<l.length->DRep w ok e x' u'->∃p u q,xs=p++(u++q)/\p.length=i*e.size/\u.length=e.size/\DList (λx u=>DRep w ok e x u) (l.set i x') (p++(u'++q))
 |[],_,i,_,_,_,h,_=>by simp at h
 |x::l,xs,0,x',u',⟨u,v,e1,hr,ht⟩,_,h'=>⟨[],u,v,by simp[e1],by simp,DRep.length hr,⟨u',v,by simp,h',ht⟩⟩
 |x::l,xs,i+1,x',u',⟨u,v,e1,hr,ht⟩,h,h'=>by obtain⟨p,u0,q,hv,hp,hu,hd⟩:=DList.set (i:=i) x' u' ht (by simpa using h) h';refine⟨u++p,u0,q,by rw[e1,hv,C1],?_,hu,⟨u,p++(u'++q),by rw[C1],hr,by simpa using hd⟩⟩;rw[Bd,DRep.length hr,hp,DJ,MJ]
def Keeps(w:Yx)(ok:Yk->Prop)(w':Yx)(ok':Yk->Prop):Prop:=∀g,ok g->g<w.heap.size->ok' g/\w'.heap[g]?=w.heap[g]?
theorem Keeps.cell{w w':Yx}{ok ok':Yk->Prop}(h:Keeps w ok w' ok'){a:Addr}{v:Yp}(ho:ok a.block)(hc:w.cell? a=Yd v):ok' a.block/\w'.cell? a=Yd v:=by obtain⟨h1,h2⟩:=h _ ho (World.block_lt_of_cell? w a hc);exact⟨h1,(World.cell?_of_block h2).trans hc⟩
theorem ML(a:Addr)(n:Yk):(a.add n).block=a.block:=by unfold Ya3;split<;>rfl
theorem MM(a:Addr)(i j:Yk):(a.add i).add j=a.add (i+j):=by unfold Ya3;by_cases hi:i=0<;>by_cases hj:j=0<;>simp[hi,hj,Sd]
theorem DRep.mono{w w':Yx}{ok ok':Yk->Prop}(hk:Keeps w ok w' ok'):∀{τ:Ty}{x:τ.den}{vs:Ya Yp},DRep w ok τ x vs->DRep w' ok' τ x vs
 |.bool,_,_,h=>h
 |.int _,_,_,h=>h
 |.str,_,_,h=>h
 |.err,_,_,h=>h
 |.unit,_,_,h=>h
 |.prod a b,_,_,h=>by simp only[DRep]at h⊢;obtain⟨u,v,e,h1,h2⟩:=h;exact⟨u,v,e,DRep.mono hk h1,DRep.mono hk h2⟩
 |.slice e,_,_,h=>by
  simp only[DRep]at h⊢;obtain⟨A,c,xs,e1,hl,hc,hd,hx⟩:=h;refine⟨A,c,xs,e1,hl,hc,hd.mono λx u hu=>DRep.mono hk hu,λj v hj=>?_⟩;obtain⟨ad,ha,ho,DN⟩:=hx j v hj;have hb:ok (ad.add j).block:=by rw[ML];exact ho
  obtain⟨o',c'⟩:=hk.cell hb DN;rw[ML]at o';exact⟨ad,ha,o',c'⟩
def Ty.flat:Ty->Ys
 |.slice _|.err=>Yc
 |.prod a b=>a.flat&&b.flat
 |_=>Yo
theorem DRep.flat{w w':Yx}{ok ok':Yk->Prop}:∀{τ:Ty}{x:τ.den}{vs:Ya Yp},τ.flat=Yo->DRep w ok τ x vs->DRep w' ok' τ x vs
 |.bool,_,_,_,h=>h
 |.int _,_,_,_,h=>h
 |.str,_,_,_,h=>h
 |.unit,_,_,_,h=>h
 |.prod a b,_,_,hf,h=>by simp only[Ty.flat,CO]at hf;simp only[DRep]at h⊢;obtain⟨u,v,e,h1,h2⟩:=h;exact⟨u,v,e,DRep.flat hf.1 h1,DRep.flat hf.2 h2⟩
 |.slice _,_,_,hf,_=>by simp[Ty.flat]at hf
 |.err,_,_,hf,_=>by simp[Ty.flat]at hf
end Go.Lift
namespace Go.Lift
inductive OT where
 |d (τ:Ty)
 |p (a b:OT)
 |r (t:Yq) (e:OT)
 deriving DecidableEq
@[reducible] def OT.ty:OT->Ty
 |.d τ=>τ
 |.p a b=>.prod a.ty b.ty
 |.r _ e=>.slice e.ty
abbrev Path:=Ya (Yk×Yk)
abbrev EF:=(te:Yq×OT)×Ya te.2.ty.den
def BC:(o:OT)->o.ty.den->Yk->Path->Yb EF
 |.d _,_,_,_=>Ye
 |.p a b,x,k,p=>if k<a.ty.size then BC a x.1 k p else BC b x.2 (k-a.ty.size) p
 |.r t e,l,0,[]=>Yd ⟨(t,e),l⟩
 |.r _ e,l,0,(i,k)::p=>
  match(l:Ya e.ty.den)[i]? with
  |some x=>BC e x k p
  |none=>Ye
 |.r _ _,_,_+1,_=>Ye
def Hi:(o:OT)->o.ty.den->Yk->Path->(e':OT)->Ya e'.ty.den->o.ty.den
 |.d _,x,_,_,_,_=>x
 |.p a b,x,k,p,e',y=>if k<a.ty.size then(Hi a x.1 k p e' y,x.2)else(x.1,Hi b x.2 (k-a.ty.size) p e' y)
 |.r _ e,l,0,[],e',y=>if h:e'=e then(h▸y:Ya e.ty.den)else l
 |.r _ e,l,0,(i,k)::p,e',y=>
  match(l:Ya e.ty.den)[i]? with
  |some x=>(YG l i (Hi e x k p e' y):Ya e.ty.den)
  |none=>l
 |.r _ _,l,_+1,_,_,_=>l
def cnt:(o:OT)->o.ty.den->Yk
 |.d _,_=>0
 |.p a b,x=>cnt a x.1+cnt b x.2
 |.r _ e,l=>1+((l:Ya e.ty.den).map (cnt e)).sum
def nix:(o:OT)->o.ty.den->Yk->Path->Yk
 |.d _,_,_,_=>0
 |.p a b,x,k,p=>if k<a.ty.size then nix a x.1 k p else cnt a x.1+nix b x.2 (k-a.ty.size) p
 |.r _ _,_,_,[]=>0
 |.r _ e,l,_,(i,k)::p=>
  match(l:Ya e.ty.den)[i]? with
  |some x=>1+(((l:Ya e.ty.den).take i).map (cnt e)).sum+nix e x k p
  |none=>0
def OL{α:Type}(R:Yk->α->Ya Yp->Ya Yp->Prop):Yk->Ya α->Ya Yp->Ya Yp->Prop
 |_,[],xs,F=>xs=[]/\F=[]
 |j,x::l,xs,F=>∃u v F1 F2,xs=u++v/\F=F1++F2/\R j x u F1/\OL R (j+1) l v F2
def hL(n:Yk):Yb (Yk×Path)->Yb (Yk×Path)
 |some (k,p)=>if k<n then Yd (k,p)else Ye
 |none=>Ye
def hR(n:Yk):Yb (Yk×Path)->Yb (Yk×Path)
 |some (k,p)=>if k<n then Ye else Yd (k-n,p)
 |none=>Ye
def hI(i k:Yk)(p:Path)(j:Yk):Yb (Yk×Path):=if j=i then Yd (k,p)else Ye
def Owns(w:Yx)(ok:Yk->Prop)(base:Yk)(hv:Yp):(o:OT)->Yb (Yk×Path)->o.ty.den->Ya Yp->Ya Yp->Prop
 |.d τ,h,x,vs,F=>h=Ye/\DRep w ok τ x vs/\F=[]
 |.p a b,h,x,vs,F=>∃u v F1 F2,vs=u++v/\F=F1++F2/\Owns w ok base hv a (hL a.ty.size h) x.1 u F1/\Owns w ok base hv b (hR a.ty.size h) x.2 v F2
 |.r t e,Ye,l,vs,F=>∃sv xs F',vs=[sv]/\F=sv::F'/\w.ownsRow base t e.ty.size sv (l:Ya e.ty.den).length xs/\OL (λ_ x u f=>Owns w ok base hv e Ye x u f) 0 (l:Ya e.ty.den) xs F'
 |.r _ _,Yd (0,[]),_,vs,F=>vs=[hv]/\F=[]/\hv.oneCell'=Yo
 |.r t e,Yd (0,(i,k)::p),l,vs,F=>i<(l:Ya e.ty.den).length/\∃sv xs F',vs=[sv]/\F=sv::F'/\w.ownsRow base t e.ty.size sv (l:Ya e.ty.den).length xs/\
   OL (λj x u f=>Owns w ok base hv e (hI i k p j) x u f) 0 (l:Ya e.ty.den) xs F'
 |.r _ _,Yd (_+1,_),_,_,_=>False
section
variable{α:Type}{R R':Yk->α->Ya Yp->Ya Yp->Prop}
theorem OL.monoJ:∀{l:Ya α}{j:Yk}{xs F:Ya Yp},(∀i x u f,j<=i->(∀s∈f,s∈F)->R i x u f->R' i x u f)->OL R j l xs F->OL R' j l xs F
 |[],_,_,_,_,hx=>hx
 |_::_,_,_,_,h,⟨u,v,F1,F2,e,ef,hr,ht⟩=>⟨u,v,F1,F2,e,ef,h _ _ _ _ (Aw _) (λs hs=>by rw[ef];exact CI _ hs) hr,
   OL.monoJ (λi x u f hi hf=>h i x u f (BH (PN _) hi) λs hs=>by rw[ef];exact Da _ (hf s hs)) ht⟩
theorem OL.mono{l:Ya α}{j:Yk}{xs F:Ya Yp}(h:∀i x u f,(∀s∈f,s∈F)->R i x u f->R' i x u f)(hx:OL R j l xs F):OL R' j l xs F:=hx.monoJ λi x u f _=>h i x u f
theorem OL.shift(hR:∀i i' x u f,R i x u f->R i' x u f):∀{l:Ya α}{j j':Yk}{xs F:Ya Yp},OL R j l xs F->OL R j' l xs F
 |[],_,_,_,_,h=>h
 |_::_,_,_,_,_,⟨u,v,F1,F2,e,ef,hr,ht⟩=>⟨u,v,F1,F2,e,ef,hR _ _ _ _ _ hr,OL.shift hR ht⟩
theorem OL.append(hR:∀i i' x u f,R i x u f->R i' x u f):∀{l l':Ya α}{j:Yk}{xs ys F G:Ya Yp},OL R j l xs F->OL R j l' ys G->OL R j (l++l') (xs++ys) (F++G)
 |[],_,_,_,_,_,_,hx,hy=>by obtain⟨rfl,rfl⟩:=hx;exact hy
 |_::_,_,_,_,_,_,_,⟨u,v,F1,F2,e,ef,hr,ht⟩,hy=>
  ⟨u,v++_,F1,F2++_,by rw[e,C1],by rw[ef,C1],hr,OL.append hR ht (hy.shift hR)⟩
theorem OL.length{n:Yk}(hn:∀i x u f,R i x u f->u.length=n):∀{l:Ya α}{j:Yk}{xs F:Ya Yp},OL R j l xs F->xs.length=l.length*n
 |[],_,_,_,h=>by obtain⟨rfl,_⟩:=h;simp
 |_::_,_,_,_,⟨u,v,F1,F2,e,ef,hr,ht⟩=>by rw[e,Bd,hn _ _ _ _ hr,OL.length hn ht,Be,DJ,MJ]
theorem OL.all{Q:Yp->Prop}(hn:∀i x u f,R i x u f->∀v∈u,Q v):∀{l:Ya α}{j:Yk}{xs F:Ya Yp},OL R j l xs F->∀v∈xs,Q v
 |[],_,_,_,h,v,hv=>by obtain⟨rfl,_⟩:=h;simp at hv
 |_::_,_,_,_,⟨u,w,F1,F2,e,ef,hr,ht⟩,v,hv=>by rw[e]at hv;exact(BV.1 hv).elim (hn _ _ _ _ hr v) (OL.all hn ht v)
theorem OL.own{Q:Yp->Prop}(hn:∀i x u f,R i x u f->∀v∈f,Q v):∀{l:Ya α}{j:Yk}{xs F:Ya Yp},OL R j l xs F->∀v∈F,Q v
 |[],_,_,_,h,v,hv=>by obtain⟨_,rfl⟩:=h;simp at hv
 |_::_,_,_,_,⟨u,w,F1,F2,e,ef,hr,ht⟩,v,hv=>by rw[ef]at hv;exact(BV.1 hv).elim (hn _ _ _ _ hr v) (OL.own hn ht v)
theorem OL.focus{n:Yk}(hn:∀i x u f,R i x u f->u.length=n):∀{l:Ya α}{j i:Yk}{xs F:Ya Yp},OL R j l xs F->i<l.length->∃x u p q Fu Fp Fq,l[i]?=Yd x/\xs=p++(u++q)/\p.length=i*n/\F=Fp++(Fu++Fq)/\R (j+i) x u Fu/\(∃pre,OL R j (l.take i) p Fp/\pre=Fp)/\∀(R':Yk->α->Ya Yp->Ya Yp->Prop) x' u' Fu',(∀m x u f,m≠j+i->(∀s∈f,s∈Fp\/s∈Fq)->R m x u f->R' m x u f)->R' (j+i) x' u' Fu'->OL R' j (l.set i x') (p++(u'++q)) (Fp++(Fu'++Fq))
 |[],_,_,_,_,_,h=>by simp at h
 |x::l,j,0,xs,F,⟨u,v,F1,F2,e,ef,hr,ht⟩,_=>
  ⟨x,u,[],v,F1,[],F2,rfl,e,by simp,ef,hr,⟨[],⟨rfl,rfl⟩,rfl⟩,λR' x' u' Fu' h1 h2=>⟨u',v,Fu',F2,rfl,rfl,h2,ht.monoJ λi x u f hi hf h=>h1 i x u f (by omega) (λs hs=>.inr (hf s hs)) h⟩⟩
 |x::l,j,i+1,xs,F,⟨u,v,F1,F2,e,ef,hr,ht⟩,h=>by
  obtain⟨y,u1,p,q,Fu,Fp,Fq,h1,h2,h3,h4,h5,⟨_,h7,_⟩,h6⟩:=OL.focus hn (i:=i) ht (by simpa using h);refine⟨y,u1,u++p,q,Fu,F1++Fp,Fq,by simpa using h1,by rw[e,h2,C1],?_,by rw[ef,h4,C1],by rw[show j+(i+1)=j+1+i by omega];exact h5,⟨_,⟨u,p,F1,Fp,rfl,rfl,hr,h7⟩,rfl⟩,λR' x' u' Fu' g1 g2=>?_⟩
  ·rw[Bd,hn _ _ _ _ hr,h3,DJ,MJ]
  ·rw[show j+(i+1)=j+1+i by omega]at g1 g2
   exact⟨u,p++(u'++q),F1,Fp++(Fu'++Fq),by rw[C1],by rw[C1],g1 _ _ _ _ (by omega) (λs hs=>.inl (CI _ hs)) hr,h6 R' x' u' Fu' (λm x u f hm hf=>g1 m x u f hm λs hs=>(hf s hs).imp (Da _) id) g2⟩
end
theorem PO{w:World}{base:Nat}{t:TypeId}{size:Nat}{v:Value}{n:Nat}{xs:List Value}(h:w.ownsRow base t size v n xs):v.oneCell'=true:=by rcases h.2 with⟨h,_⟩|⟨g,cap,AI,h,_⟩<;>rw[h]<;>rfl
section
variable{w w':Yx}{ok ok':Yk->Prop}{base base':Yk}{hv Cq:Yp}
theorem Owns.length:∀{o:OT}{h:Yb (Yk×Path)}{x:o.ty.den}{vs F:Ya Yp},Owns w ok base hv o h x vs F->vs.length=o.ty.size
 |.d _,_,_,_,_,⟨_,h,_⟩=>h.length
 |.p a b,_,_,_,_,⟨u,v,F1,F2,e,_,h1,h2⟩=>by rw[e,Bd,Owns.length h1,Owns.length h2];rfl
 |.r _ _,Ye,_,_,_,⟨sv,xs,F',e,_⟩=>by rw[e];rfl
 |.r _ _,Yd (0,[]),_,_,_,⟨e,_⟩=>by rw[e];rfl
 |.r _ _,Yd (0,(_,_)::_),_,_,_,⟨_,sv,xs,F',e,_⟩=>by rw[e];rfl
theorem Owns.oneCell:∀{o:OT}{h:Yb (Yk×Path)}{x:o.ty.den}{vs F:Ya Yp},Owns w ok base hv o h x vs F->∀v∈vs,v.oneCell'=Yo
 |.d _,_,_,_,_,⟨_,h,_⟩=>h.oneCell
 |.p a b,_,_,_,_,⟨u,v,F1,F2,e,_,h1,h2⟩=>by intro s hs;rw[e]at hs;exact(BV.1 hs).elim (Owns.oneCell h1 s) (Owns.oneCell h2 s)
 |.r _ _,Ye,_,_,_,⟨sv,xs,F',e,_,h,_⟩=>by intro s hs;rw[e,DS]at hs;rw[hs];exact PO h
 |.r _ _,Yd (0,[]),_,_,_,⟨e,_,h⟩=>by intro s hs;rw[e,DS]at hs;rw[hs];exact h
 |.r _ _,Yd (0,(_,_)::_),_,_,_,⟨_,sv,xs,F',e,_,h,_⟩=>by intro s hs;rw[e,DS]at hs;rw[hs];exact PO h
theorem Owns.lt:∀{o:OT}{h:Yb (Yk×Path)}{x:o.ty.den}{vs F:Ya Yp},Owns w ok base hv o h x vs F->∀s∈F,∀g,s.ownBlock=Yd g->base<=g/\g<w.heap.size
 |.d _,_,_,_,_,⟨_,_,e⟩=>by intro s hs;rw[e]at hs;simp at hs
 |.p a b,_,_,_,_,⟨u,v,F1,F2,_,e,h1,h2⟩=>by intro s hs;rw[e]at hs;exact(BV.1 hs).elim (Owns.lt h1 s) (Owns.lt h2 s)
 |.r _ _,Ye,_,_,_,⟨sv,xs,F',_,e,h,hl⟩=>by
  intro s hs g hg;rw[e]at hs;rcases Bg.1 hs with rfl|hs
  ·exact h.lt g hg
  ·exact OL.own (Q:=λs=>∀g,s.ownBlock=Yd g->base<=g/\g<w.heap.size) (λ_ _ _ _ h=>Owns.lt h) hl s hs g hg
 |.r _ _,Yd (0,[]),_,_,_,⟨_,e,_⟩=>by intro s hs;rw[e]at hs;simp at hs
 |.r _ _,Yd (0,(_,_)::_),_,_,_,⟨_,sv,xs,F',_,e,h,hl⟩=>by
  intro s hs g hg;rw[e]at hs;rcases Bg.1 hs with rfl|hs
  ·exact h.lt g hg
  ·exact OL.own (Q:=λs=>∀g,s.ownBlock=Yd g->base<=g/\g<w.heap.size) (λ_ _ _ _ h=>Owns.lt h) hl s hs g hg
theorem NZ{t:Yq}{size:Yk}{v:Yp}{n:Yk}{xs:Ya Yp}(hb:base'<=base)(hg:∀g,v.ownBlock=Yd g->w'.heap[g]?=w.heap[g]?)(h:w.ownsRow base t size v n xs):w'.ownsRow base' t size v n xs:=by
 refine⟨h.1,?_⟩;rcases h.2 with h3|⟨g,cap,AI,rfl,Aj,hh,r⟩
 ·exact .inl h3
 ·exact .inr ⟨g,cap,AI,rfl,BH hb Aj,(hg g rfl).trans hh,r⟩
theorem Owns.mono(hb:base'<=base)(hk:Keeps w ok w' ok'):∀{o:OT}{h:Yb (Yk×Path)}{x:o.ty.den}{vs F:Ya Yp},(∀s∈F,∀g,s.ownBlock=Yd g->w'.heap[g]?=w.heap[g]?)->Owns w ok base hv o h x vs F->Owns w' ok' base' hv o h x vs F
 |.d _,_,_,_,_,_,⟨a,h,e⟩=>⟨a,h.mono hk,e⟩
 |.p a b,_,_,_,_,hf,⟨u,v,F1,F2,e,e2,h1,h2⟩=>⟨u,v,F1,F2,e,e2,Owns.mono hb hk (λs hs=>hf s (by rw[e2];exact CI _ hs)) h1,Owns.mono hb hk (λs hs=>hf s (by rw[e2];exact Da _ hs)) h2⟩
 |.r _ _,Ye,_,_,_,hf,⟨sv,xs,F',e,e2,h,hl⟩=>
  ⟨sv,xs,F',e,e2,NZ hb (hf sv (by rw[e2];exact NT ..)) h,hl.mono λ_ _ _ f wH h=>Owns.mono hb hk (λs hs=>hf s (by rw[e2];exact E6 _ (wH s hs))) h⟩
 |.r _ _,Yd (0,[]),_,_,_,_,h=>h
 |.r _ _,Yd (0,(_,_)::_),_,_,_,hf,⟨hi,sv,xs,F',e,e2,h,hl⟩=>
  ⟨hi,sv,xs,F',e,e2,NZ hb (hf sv (by rw[e2];exact NT ..)) h,hl.mono λ_ _ _ f wH h=>Owns.mono hb hk (λs hs=>hf s (by rw[e2];exact E6 _ (wH s hs))) h⟩
theorem Owns.ren(hb:base'<=base)(hd:∀(τ:Ty)(x:τ.den)(us:Ya Yp),DRep w ok τ x us->DRep w ok' τ x us):∀{o:OT}{h:Yb (Yk×Path)}{x:o.ty.den}{vs F:Ya Yp},Owns w ok base hv o h x vs F->Owns w ok' base' hv o h x vs F
 |.d _,_,_,_,_,⟨a,h,e⟩=>⟨a,hd _ _ _ h,e⟩
 |.p a b,_,_,_,_,⟨u,v,F1,F2,e,e2,h1,h2⟩=>⟨u,v,F1,F2,e,e2,Owns.ren hb hd h1,Owns.ren hb hd h2⟩
 |.r _ _,Ye,_,_,_,⟨sv,xs,F',e,e2,h,hl⟩=>⟨sv,xs,F',e,e2,NZ hb (λ_ _=>rfl) h,hl.mono λ_ _ _ _ _ h=>Owns.ren hb hd h⟩
 |.r _ _,Yd (0,[]),_,_,_,h=>h
 |.r _ _,Yd (0,(_,_)::_),_,_,_,⟨hi,sv,xs,F',e,e2,h,hl⟩=>⟨hi,sv,xs,F',e,e2,NZ hb (λ_ _=>rfl) h,hl.mono λ_ _ _ _ _ h=>Owns.ren hb hd h⟩
def OT.flat:OT->Ys
 |.d τ=>τ.flat
 |.p a b=>a.flat&&b.flat
 |.r _ e=>e.flat
theorem Owns.renF{all:Prop}(hb:base'<=base)(hd:∀(τ:Ty)(x:τ.den)(us:Ya Yp),(all\/τ.flat=Yo)->DRep w ok τ x us->DRep w ok' τ x us):∀{o:OT}{h:Yb (Yk×Path)}{x:o.ty.den}{vs F:Ya Yp},(all\/o.flat=Yo)->Owns w ok base hv o h x vs F->Owns w ok' base' hv o h x vs F
 |.d _,_,_,_,_,hf,⟨a,h,e⟩=>⟨a,hd _ _ _ hf h,e⟩
 |.p a b,_,_,_,_,hf,⟨u,v,F1,F2,e,e2,h1,h2⟩=>⟨u,v,F1,F2,e,e2,Owns.renF hb hd (hf.imp id λh=>by simp only[OT.flat,CO]at h;exact h.1) h1,Owns.renF hb hd (hf.imp id λh=>by simp only[OT.flat,CO]at h;exact h.2) h2⟩
 |.r _ _,Ye,_,_,_,hf,⟨sv,xs,F',e,e2,h,hl⟩=>⟨sv,xs,F',e,e2,NZ hb (λ_ _=>rfl) h,hl.mono λ_ _ _ _ _ h=>Owns.renF hb hd hf h⟩
 |.r _ _,Yd (0,[]),_,_,_,_,h=>h
 |.r _ _,Yd (0,(_,_)::_),_,_,_,hf,⟨hi,sv,xs,F',e,e2,h,hl⟩=>⟨hi,sv,xs,F',e,e2,NZ hb (λ_ _=>rfl) h,hl.mono λ_ _ _ _ _ h=>Owns.renF hb hd hf h⟩
theorem Owns.any:∀{o:OT}{x:o.ty.den}{vs F:Ya Yp},Owns w ok base hv o Ye x vs F->Owns w ok base Cq o Ye x vs F
 |.d _,_,_,_,h=>h
 |.p _ _,_,_,_,⟨u,v,F1,F2,e,e2,h1,h2⟩=>⟨u,v,F1,F2,e,e2,Owns.any (show Owns w ok base hv _ Ye _ _ _ from h1),Owns.any (show Owns w ok base hv _ Ye _ _ _ from h2)⟩
 |.r _ _,_,_,_,⟨sv,xs,F',e,e2,h,hl⟩=>⟨sv,xs,F',e,e2,h,hl.mono λ_ _ _ _ _ h=>Owns.any h⟩
theorem Owns.cnt:∀{o:OT}{x:o.ty.den}{vs F:Ya Yp},Owns w ok base hv o Ye x vs F->F.length=Go.Lift.cnt o x
 |.d _,_,_,_,⟨_,_,e⟩=>by rw[e];rfl
 |.p a b,_,_,_,⟨u,v,F1,F2,_,e,h1,h2⟩=>by rw[e,Bd,Owns.cnt (show Owns w ok base hv a Ye _ _ _ from h1),Owns.cnt (show Owns w ok base hv b Ye _ _ _ from h2)];rfl
 |.r _ e0,l,_,_,⟨sv,xs,F',_,e,_,hl⟩=>by
  have key:∀{l:Ya e0.ty.den}{j:Yk}{xs F:Ya Yp},OL (λ_ x u f=>Owns w ok base hv e0 Ye x u f) j l xs F->F.length=(l.map (Go.Lift.cnt e0)).sum:=by
   intro l
   induction l with
   |nil=>intro j xs F h;obtain⟨_,rfl⟩:=h;rfl
   |cons x l ih=>intro j xs F h;obtain⟨u,v,F1,F2,_,ef,hr,ht⟩:=h;rw[ef,Bd,Owns.cnt hr,ih ht,CP,Wj]
  rw[e,Be,key hl,MJ];rfl
theorem set_getElem?_same{α:Type}{l:Ya α}{i:Yk}{x:α}(h:l[i]?=Yd x):l.set i x=l:=by obtain⟨h1,h2⟩:=Do.1 h;rw[<-h2,List.set_getElem_self]
theorem Oa(i k:Yk)(p:Path):hI i k p i=Yd (k,p):=Y7 rfl
theorem PQ{i k j:Yk}{p:Path}(h:j≠i):hI i k p j=Ye:=Y4 h
theorem Sk(e:OT){w:Yx}{ok:Yk->Prop}{base:Yk}{hv:Yp}:∀{l:Ya e.ty.den}{j:Yk}{xs F:Ya Yp},OL (λ_ x u f=>Owns w ok base hv e Ye x u f) j l xs F->F.length=(l.map (Go.Lift.cnt e)).sum
 |[],_,_,_,⟨_,h⟩=>by rw[h];rfl
 |x::l,_,_,_,⟨u,v,F1,F2,_,ef,hr,ht⟩=>by rw[ef,Bd,Owns.cnt hr,Sk e ht,CP,Wj]
theorem Owns.split:∀{o:OT}{x:o.ty.den}{k:Yk}{p:Path}{vs F:Ya Yp}{n:EF},Owns w ok base hv o Ye x vs F->BC o x k p=Yd n->∃s G1 Fn G2,F=G1++(s::Fn++G2)/\G1.length=nix o x k p/\Owns w ok base s (.r n.1.1 n.1.2) Ye n.2 [s] (s::Fn)/\Owns w ok base s o (Yd (k,p)) x vs (G1++G2)
 |.d _,_,_,_,_,_,_,_,h=>by cases h
 |.p a b,x,k,p,vs,F,n,⟨u,v,F1,F2,e,e2,h1,h2⟩,h=>by
  simp only[BC]at h;have h1:Owns w ok base hv a Ye x.1 u F1:=h1;have h2:Owns w ok base hv b Ye x.2 v F2:=h2;split at h
  ·rename_i hk
   obtain⟨s,G1,Fn,G2,q1,q2,q3,q4⟩:=Owns.split h1 h;refine⟨s,G1,Fn,G2++F2,by rw[e2,q1];simp,by rw[q2];simp only[nix,Y7 hk],q3,u,v,G1++G2,F2,e,by simp,?_,?_⟩
   ·show Owns w ok base s a (hL a.ty.size (Yd (k,p))) x.1 u (G1++G2)
    simp only[hL,Y7 hk];exact q4
   ·show Owns w ok base s b (hR a.ty.size (Yd (k,p))) x.2 v F2
    simp only[hR,Y7 hk];exact h2.any
  ·rename_i hk
   obtain⟨s,G1,Fn,G2,q1,q2,q3,q4⟩:=Owns.split h2 h;refine⟨s,F1++G1,Fn,G2,by rw[e2,q1];simp,by rw[Bd,q2,h1.cnt];simp only[nix,Y4 hk],q3,u,v,F1,G1++G2,e,by simp,?_,?_⟩
   ·show Owns w ok base s a (hL a.ty.size (Yd (k,p))) x.1 u F1
    simp only[hL,Y4 hk];exact h1.any
   ·show Owns w ok base s b (hR a.ty.size (Yd (k,p))) x.2 v (G1++G2)
    simp only[hR,Y4 hk];exact q4
 |.r t e,l,0,[],vs,F,n,⟨sv,xs,F',e1,e2,h1,h2⟩,h=>by simp only[BC,Af]at h;subst h;exact⟨sv,[],F',[],by simp[e2],rfl,⟨sv,xs,F',rfl,rfl,h1,h2.mono λ_ _ _ _ _ h=>h.any⟩,e1,rfl,PO h1⟩
 |.r t e,l,0,(i,k)::p,vs,F,n,⟨sv,xs,F',e1,e2,h1,h2⟩,h=>by
  simp only[BC]at h;split at h
  ·rename_i x hx
   have hi:i<(l:Ya e.ty.den).length:=(Do.1 hx).1;obtain⟨x',u,pp,q,Fu,Fp,Fq,a1,a2,a3,a4,a5,⟨_,a7,_⟩,a6⟩:=OL.focus (n:=e.ty.size) (λ_ _ _ _ h=>h.length) h2 hi;rw[hx]at a1;injection a1 with a1;subst a1;obtain⟨s,G1,Fn,G2,q1,q2,q3,q4⟩:=Owns.split a5 h;refine⟨s,sv::(Fp++G1),Fn,G2++Fq,by rw[e2,a4,q1];simp,?_,q3,hi,sv,xs,(Fp++G1)++(G2++Fq),e1,by simp,h1,?_⟩
   ·have DH:(l:Ya e.ty.den)[i]?=Yd x:=hx
    simp only[nix,DH,Be,Bd,q2,Sk e a7];omega
   ·have:=a6 (λj x u f=>Owns w ok base s e (hI i k p j) x u f) x u (G1++G2) (λm x u f hm _ h=>by simp only[CQ]at hm;simp only[PQ hm];exact h.any) (by simp only[CQ,Oa];exact q4)
    rw[set_getElem?_same hx,<-a2]at this;simpa using this
  ·cases h
 |.r _ _,_,_+1,_,_,_,_,_,h=>by cases h
theorem Owns.join:∀{o:OT}{x:o.ty.den}{k:Yk}{p:Path}{vs G:Ya Yp}{n:EF},Owns w ok base hv o (Yd (k,p)) x vs G->BC o x k p=Yd n->∃G1 G2,G=G1++G2/\G1.length=nix o x k p/\∀(y:Ya n.1.2.ty.den)(Fn:Ya Yp),Owns w ok base hv (.r n.1.1 n.1.2) Ye y [hv] Fn->Owns w ok base hv o Ye (Hi o x k p n.1.2 y) vs (G1++(Fn++G2))
 |.d _,_,_,_,_,_,_,_,h=>by cases h
 |.p a b,x,k,p,vs,F,n,⟨u,v,F1,F2,e,e2,h1,h2⟩,h=>by
  simp only[BC]at h;have h1:Owns w ok base hv a (hL a.ty.size (Yd (k,p))) x.1 u F1:=h1;have h2:Owns w ok base hv b (hR a.ty.size (Yd (k,p))) x.2 v F2:=h2;split at h
  ·rename_i hk
   simp only[hL,hR,Y7 hk]at h1 h2;obtain⟨G1,G2,q1,q2,q3⟩:=Owns.join h1 h;refine⟨G1,G2++F2,by rw[e2,q1];simp,by rw[q2];simp only[nix,Y7 hk],λy Fn hy=>?_⟩;simp only[Hi,Y7 hk];exact⟨u,v,G1++(Fn++G2),F2,e,by simp,q3 y Fn hy,h2⟩
  ·rename_i hk
   simp only[hL,hR,Y4 hk]at h1 h2;obtain⟨G1,G2,q1,q2,q3⟩:=Owns.join h2 h;refine⟨F1++G1,G2,by rw[e2,q1];simp,by rw[Bd,q2,Owns.cnt h1];simp only[nix,Y4 hk],λy Fn hy=>?_⟩;simp only[Hi,Y4 hk];exact⟨u,v,F1,G1++(Fn++G2),e,by simp,h1,q3 y Fn hy⟩
 |.r t e,l,0,[],vs,F,n,⟨e1,e2,h1⟩,h=>by simp only[BC,Af]at h;subst h;refine⟨[],[],e2,rfl,λy Fn hy=>?_⟩;simp only[Hi,dif_pos,DT,Gj];rw[e1];exact hy
 |.r t e,l,0,(i,k)::p,vs,F,n,⟨hi,sv,xs,F',e1,e2,h1,h2⟩,h=>by
  simp only[BC]at h;split at h
  ·rename_i x hx
   have DH:(l:Ya e.ty.den)[i]?=Yd x:=hx;obtain⟨x',u,pp,q,Fu,Fp,Fq,a1,a2,a3,a4,a5,⟨_,a7,_⟩,a6⟩:=OL.focus (n:=e.ty.size) (λ_ _ _ _ h=>h.length) h2 hi;rw[hx]at a1;injection a1 with a1;subst a1;simp only[CQ,Oa]at a5;obtain⟨G1,G2,q1,q2,q3⟩:=Owns.join a5 h
   have J8:OL (λ_ x u f=>Owns w ok base hv e Ye x u f) 0 ((l:Ya e.ty.den).take i) pp Fp:=by
    have:∀{l:Ya e.ty.den}{j:Yk}{xs F:Ya Yp},j+l.length<=i->OL (λj x u f=>Owns w ok base hv e (hI i k p j) x u f) j l xs F->OL (λ_ x u f=>Owns w ok base hv e Ye x u f) j l xs F:=by
     intro l
     induction l with
     |nil=>intro j xs F _ h;exact h
     |cons y l ih=>intro j xs F hj h;obtain⟨u,v,F1,F2,b1,b2,b3,b4⟩:=h;simp only[Be]at hj;simp only[PQ (show j≠i by omega)]at b3;exact⟨u,v,F1,F2,b1,b2,b3,ih (by omega) b4⟩
    exact this (by rw[CJ];omega) a7
   refine⟨sv::(Fp++G1),G2++Fq,by rw[e2,a4,q1];simp,?_,λy Fn hy=>?_⟩
   ·simp only[nix,DH,Be,Bd,q2,Sk e J8]
    omega
   ·have:=a6 (λ_ x u f=>Owns w ok base hv e Ye x u f) (Hi e x k p n.1.2 y) u (G1++(Fn++G2)) (λm x u f hm _ h=>by simp only[CQ]at hm;simp only[PQ hm]at h;exact h) (q3 y Fn hy)
    rw[<-a2]at this;simp only[Hi,DH];refine⟨sv,xs,Fp++((G1++(Fn++G2))++Fq),e1,by simp,?_,this⟩;have:(YG (l:Ya e.ty.den) i (Hi e x k p n.1.2 y)).length=(l:Ya e.ty.den).length:=RZ;rw[this];exact h1
  ·cases h
 |.r _ _,_,_+1,_,_,_,_,_,h=>by cases h
theorem Owns.top:∀{o:OT}{x:o.ty.den}{k:Yk}{u F:Ya Yp},Owns w ok base hv o (Yd (k,[])) x u F->u[k]?=Yd hv/\∀s,s.oneCell'=Yo->Owns w ok base s o (Yd (k,[])) x (u.set k s) F
 |.d _,_,_,_,_,⟨h,_⟩=>by cases h
 |.p a b,x,k,vs,F,⟨u,v,F1,F2,e,e2,h1,h2⟩=>by
  have h1:Owns w ok base hv a (hL a.ty.size (Yd (k,[]))) x.1 u F1:=h1;have h2:Owns w ok base hv b (hR a.ty.size (Yd (k,[]))) x.2 v F2:=h2;by_cases hk:k<a.ty.size
  ·simp only[hL,hR,Y7 hk]at h1 h2
   have hl:=h1.length;obtain⟨q1,q2⟩:=Owns.top h1;refine⟨by rw[e,G0 (by omega)];exact q1,λs hs=>⟨u.set k s,v,F1,F2,by rw[e,YaZ _ _ (by omega)],e2,?_,?_⟩⟩
   ·show Owns w ok base s a (hL a.ty.size (Yd (k,[]))) x.1 _ F1
    simp only[hL,Y7 hk];exact q2 s hs
   ·show Owns w ok base s b (hR a.ty.size (Yd (k,[]))) x.2 v F2
    simp only[hR,Y7 hk];exact h2.any
  ·simp only[hL,hR,Y4 hk]at h1 h2
   have hl:=h1.length;obtain⟨q1,q2⟩:=Owns.top h2;refine⟨by rw[e,ES (by omega),hl];exact q1,λs hs=>⟨u,v.set (k-a.ty.size) s,F1,F2,by rw[e,dF _ _ (by omega),hl],e2,?_,?_⟩⟩
   ·show Owns w ok base s a (hL a.ty.size (Yd (k,[]))) x.1 _ F1
    simp only[hL,Y4 hk];exact h1.any
   ·show Owns w ok base s b (hR a.ty.size (Yd (k,[]))) x.2 _ F2
    simp only[hR,Y4 hk];exact q2 s hs
 |.r _ _,_,0,_,_,⟨e1,e2,h1⟩=>by rw[e1];exact⟨rfl,λs hs=>⟨rfl,e2,hs⟩⟩
 |.r _ _,_,_+1,_,_,h=>h.elim
theorem Amn{t:Yq}{size n:Yk}{v:Yp}{xs:Ya Yp}(h:w.ownsRow base t size v n xs)(hn:0<n):∃g c,v=.slice (Yd ⟨g,0,Ye⟩) n c:=by
 rcases h.2 with⟨_,h0⟩|⟨g,cap,AI,h,_⟩
 ·omega
 ·exact⟨g,cap,h⟩
theorem Keeps.set(hb:∀g,ok g->ok' g){g j:Yk}{s:Yp}(hg:¬ok g):Keeps w ok (w.setCell ⟨g,j,Ye⟩ s) ok':=λg' h _=>
 ⟨hb g' h,Yab w ⟨g,j,Ye⟩ g' s (λe=>hg (by simpa [e]using h))⟩
theorem Amo{α:Type}{p u q:Ya α}{k:Yk}{s:α}(hk:k<u.length):(p++(u++q)).set (p.length+k) s=p++(u.set k s++q):=by rw[dF _ _ (by omega),MF,YaZ _ _ hk]
theorem Owns.header(hb:∀g,ok g->ok' g):∀{o:OT}{x:o.ty.den}{k0:Yk}{p:Path}{i k:Yk}{vs F:Ya Yp},(∀s∈F,∀g,s.ownBlock=Yd g->¬ok g)->Owns w ok base hv o (Yd (k0,p++[(i,k)])) x vs F->∃n s g c G1 Fn,BC o x k0 p=Yd n/\F=G1++s::Fn/\G1.length=nix o x k0 p/\s=.slice (Yd ⟨g,0,Ye⟩) n.2.length c/\i<n.2.length/\w.cell? ⟨g,i*n.1.2.ty.size+k,Ye⟩=Yd hv/\w.frozen? ⟨g,i*n.1.2.ty.size+k,Ye⟩=Yc/\∀s2,s2.oneCell'=Yo->(∀s'∈G1++Fn,s'.ownBlock≠Yd g)->Owns (w.setCell ⟨g,i*n.1.2.ty.size+k,Ye⟩ s2) ok' base s2 o (Yd (k0,p++[(i,k)])) x vs F
 |.d _,_,_,_,_,_,_,_,_,⟨h,_⟩=>by cases h
 |.p a b,x,k0,p,i,k,vs,F,H0,⟨u,v,F1,F2,e,e2,h1,h2⟩=>by
  have h1:Owns w ok base hv a (hL a.ty.size (Yd (k0,p++[(i,k)]))) x.1 u F1:=h1;have h2:Owns w ok base hv b (hR a.ty.size (Yd (k0,p++[(i,k)]))) x.2 v F2:=h2;by_cases hk:k0<a.ty.size
  ·simp only[hL,hR,Y7 hk]at h1 h2
   obtain⟨n,s,g,c,G1,Fn,q1,q2,q3,q4,q5,q6,q6',q7⟩:=Owns.header hb (λs hs=>H0 s (by rw[e2];exact CI _ hs)) h1;refine⟨n,s,g,c,G1,Fn++F2,by simp only[BC,Y7 hk];exact q1,by rw[e2,q2];simp,by rw[q3];simp only[nix,Y7 hk],q4,q5,q6,q6',λs2 AP hd=>⟨u,v,F1,F2,e,e2,?_,?_⟩⟩
   ·show Owns _ ok' base s2 a (hL a.ty.size (Yd (k0,p++[(i,k)]))) x.1 u F1
    simp only[hL,Y7 hk];exact q7 s2 AP λs' h=>hd s' (by rcases BV.1 h with h|h<;>simp[h])
   ·show Owns _ ok' base s2 b (hR a.ty.size (Yd (k0,p++[(i,k)]))) x.2 v F2
    simp only[hR,Y7 hk];have hg:¬ok g:=H0 s (by rw[e2,q2];simp) g (by rw[q4];rfl);exact(h2.mono (Aw _) (Keeps.set hb hg) λs' B3 g' BB=>Yab w _ g' s2 (λe=>hd s' (by simp[B3]) (by simp only at e;rw[BB,e]))).any
  ·simp only[hL,hR,Y4 hk]at h1 h2
   obtain⟨n,s,g,c,G1,Fn,q1,q2,q3,q4,q5,q6,q6',q7⟩:=Owns.header hb (λs hs=>H0 s (by rw[e2];exact Da _ hs)) h2;refine⟨n,s,g,c,F1++G1,Fn,by simp only[BC,Y4 hk];exact q1,by rw[e2,q2];simp,by rw[Bd,q3,Owns.cnt h1];simp only[nix,Y4 hk],q4,q5,q6,q6',λs2 AP hd=>⟨u,v,F1,F2,e,e2,?_,?_⟩⟩
   ·show Owns _ ok' base s2 a (hL a.ty.size (Yd (k0,p++[(i,k)]))) x.1 u F1
    simp only[hL,Y4 hk];have hg:¬ok g:=H0 s (by rw[e2,q2];simp) g (by rw[q4];rfl);exact(h1.mono (Aw _) (Keeps.set hb hg) λs' B3 g' BB=>Yab w _ g' s2 (λe=>hd s' (by simp[B3]) (by simp only at e;rw[BB,e]))).any
   ·show Owns _ ok' base s2 b (hR a.ty.size (Yd (k0,p++[(i,k)]))) x.2 v F2
    simp only[hR,Y4 hk];exact q7 s2 AP λs' h=>hd s' (by rcases BV.1 h with h|h<;>simp[h])
 |.r _ _,_,_+1,_,_,_,_,_,_,h=>h.elim
 |.r t e,l,0,[],i,k,vs,F,H0,⟨hi,sv,xs,F',e1,e2,h1,h2⟩=>by
  obtain⟨g,c,Au⟩:=Amn h1 (by omega);obtain⟨x',u,pp,q,Fu,Fp,Fq,a1,a2,a3,a4,a5,_,a6⟩:=OL.focus (n:=e.ty.size) (λ_ _ _ _ h=>h.length) h2 hi;simp only[CQ,Oa]at a5;obtain⟨b1,b2⟩:=Owns.top a5;have hk:k<u.length:=(Do.1 b1).1;have DR:=a5.length;subst Au;have Cp:xs.length=(l:Ya e.ty.den).length*e.ty.size:=h1.1
  have Ae:i*e.ty.size+k<(l:Ya e.ty.den).length*e.ty.size:=by have:(i+1)*e.ty.size<=(l:Ya e.ty.den).length*e.ty.size:=Fs _ hi;rw[DJ]at this;omega
  have DN:xs[i*e.ty.size+k]?=Yd hv:=by rw[a2,<-a3,ES (by omega),MF,G0 hk];exact b1
  have GE:w.frozen? ⟨g,i*e.ty.size+k,Ye⟩=Yc:=by
   rcases h1.2 with⟨h,_⟩|⟨g',cap,AI,h,_,hh,_⟩
   ·cases h
   ·injection h with h _ _
    injection h with h;injection h with h;subst h;exact frozen_of_row w g _ AI t hh
  refine⟨⟨(t,e),l⟩,_,g,c,[],F',rfl,e2,rfl,rfl,hi,by rw[h1.cellAt _ Ae];exact DN,GE,λs2 AP hd=>?_⟩;have hg:¬ok g:=H0 _ (by rw[e2];exact NT ..) g rfl;obtain⟨r1,r2⟩:=h1.stored (i*e.ty.size+k) s2;refine⟨hi,_,xs.set (i*e.ty.size+k) s2,F',e1,e2,r1,?_⟩
  have hm:∀{o:OT}{h:Yb (Yk×Path)}{x:o.ty.den}{vs f:Ya Yp},(∀s'∈f,s'∈F')->Owns w ok base hv o h x vs f->Owns (w.setCell ⟨g,i*e.ty.size+k,Ye⟩ s2) ok' base hv o h x vs f:=λhf h=>
   h.mono (Aw _) (Keeps.set hb hg) λs' B3 g' BB=>Yab w _ g' s2 (λe=>hd s' (by simp[hf s' B3]) (by simp only at e;rw[BB,e]))
  have h3:=h2.mono (R':=λj x u f=>Owns (w.setCell ⟨g,i*e.ty.size+k,Ye⟩ s2) ok' base hv e (hI i k [] j) x u f) (λ_ _ _ _ hf h=>hm hf h);obtain⟨x2,u2,pp2,q2,Fu2,Fp2,Fq2,c1,c2,c3,c4,c5,_,c6⟩:=OL.focus (n:=e.ty.size) (λ_ _ _ _ h=>h.length) h3 hi;simp only[CQ,Oa]at c5
  have:=c6 (λj x u f=>Owns (w.setCell ⟨g,i*e.ty.size+k,Ye⟩ s2) ok' base s2 e (hI i k [] j) x u f) x2 (u2.set k s2) Fu2 (λm x u f hm _ h=>by simp only[CQ]at hm;simp only[PQ hm]at h⊢;exact h.any) (by simp only[CQ,Oa];exact(Owns.top c5).2 s2 AP)
  rw[set_getElem?_same c1,<-c4,<-Amo (by rw[c5.length];omega),c3,<-c2]at this;exact this
 |.r t e,l,0,(i0,k1)::p,i,k,vs,F,H0,⟨hi,sv,xs,F',e1,e2,h1,h2⟩=>by
  obtain⟨x',u,pp,q,Fu,Fp,Fq,a1,a2,a3,a4,a5,⟨_,a7,_⟩,a6⟩:=OL.focus (n:=e.ty.size) (λ_ _ _ _ h=>h.length) h2 hi;have DH:(l:Ya e.ty.den)[i0]?=Yd x':=a1;simp only[CQ,Oa]at a5;obtain⟨n,s,g,c,G1,Fn,q1,q2,q3,q4,q5,q6,q6',q7⟩:=Owns.header hb (λs hs=>H0 s (by rw[e2,a4];simp[hs])) a5;have hg:¬ok g:=H0 s (by rw[e2,a4,q2];simp) g (by rw[q4];rfl)
  have J8:OL (λ_ x u f=>Owns w ok base hv e Ye x u f) 0 ((l:Ya e.ty.den).take i0) pp Fp:=by
   have:∀{l:Ya e.ty.den}{j:Yk}{xs F:Ya Yp},j+l.length<=i0->OL (λj x u f=>Owns w ok base hv e (hI i0 k1 (p++[(i,k)]) j) x u f) j l xs F->OL (λ_ x u f=>Owns w ok base hv e Ye x u f) j l xs F:=by
    intro l
    induction l with
    |nil=>intro j xs F _ h;exact h
    |cons y l ih=>intro j xs F hj h;obtain⟨u,v,F1,F2,b1,b2,b3,b4⟩:=h;simp only[Be]at hj;simp only[PQ (show j≠i0 by omega)]at b3;exact⟨u,v,F1,F2,b1,b2,b3,ih (by omega) b4⟩
   exact this (by rw[CJ];omega) a7
  refine⟨n,s,g,c,sv::(Fp++G1),Fn++Fq,by simp only[BC,DH];exact q1,by rw[e2,a4,q2];simp,?_,q4,q5,q6,q6',λs2 AP hd=>?_⟩
  ·simp only[nix,DH,Be,Bd,q3,Sk e J8]
   omega
  ·have AlD:∀s' g',s'∈sv::(Fp++G1)++(Fn++Fq)->s'.ownBlock=Yd g'->(w.setCell ⟨g,i*n.1.2.ty.size+k,Ye⟩ s2).heap[g']?=w.heap[g']?:=λs' g' h BB=>
    Yab w _ g' s2 (λe=>hd s' h (by simp only at e;rw[BB,e]))
   have Au:=NZ (Aw base) (λg' BB=>AlD sv g' (by simp) BB) h1
   have h4:=a6 (λj x u f=>Owns (w.setCell ⟨g,i*n.1.2.ty.size+k,Ye⟩ s2) ok' base s2 e (hI i0 k1 (p++[(i,k)]) j) x u f) x' u Fu (λm x u f hm hf h=>by
    simp only[CQ]at hm;simp only[PQ hm]at h⊢;exact(h.mono (Aw _) (Keeps.set hb hg) λs' B3 g' BB=>AlD s' g' (by rcases hf s' B3 with h|h<;>simp[h]) BB).any) (by
    simp only[CQ,Oa];exact q7 s2 AP λs' h=>hd s' (by rcases BV.1 h with h|h<;>simp[h]))
   rw[set_getElem?_same a1,<-a2,<-a4]at h4;exact⟨hi,sv,xs,F',e1,e2,Au,h4⟩
end
theorem zA{α:Type}{f:α->Nat}:∀{l:List α}{i:Nat}{x:α},l[i]?=some x->((l.take i).map f).sum+f x<=(l.map f).sum
 |[],_,_,h=>by simp at h
 |y::l,0,x,h=>by simp at h;subst h;simp
 |y::l,i+1,x,h=>by have:=zA (f:=f) (l:=l) (i:=i) (x:=x) (by simpa using h);simp only[Ybc,CP,Wj];omega
theorem dV{α:Type}{f:α->Yk}:∀{l:Ya α}{i j:Yk}{x:α},l[i]?=Yd x->i<j->((l.take i).map f).sum+f x<=((l.take j).map f).sum
 |[],_,_,_,h,_=>by simp at h
 |y::l,0,j+1,x,h,_=>by simp at h;subst h;simp
 |y::l,i+1,j+1,x,h,hl=>by have:=dV (f:=f) (l:=l) (i:=i) (j:=j) (x:=x) (by simpa using h) (by omega);simp only[Ybc,CP,Wj];omega
theorem zB(t:Yq)(e:OT)(l:Ya e.ty.den):1<=cnt (.r t e) l:=by simp only[cnt];omega
theorem Ob:∀{o:OT}{x:o.ty.den}{k:Yk}{p:Path}{n:EF},BC o x k p=Yd n->nix o x k p+cnt (.r n.1.1 n.1.2) n.2<=cnt o x
 |.d _,_,_,_,_,h=>by cases h
 |.p a b,x,k,p,n,h=>by
  simp only[BC]at h;split at h
  ·rename_i hk
   have:=Ob h;simp only[nix,Y7 hk,cnt];simp only[cnt]at this;omega
  ·rename_i hk
   have:=Ob h;simp only[nix,Y4 hk,cnt];simp only[cnt]at this;omega
 |.r t e,l,0,[],n,h=>by simp only[BC,Af]at h;subst h;simp only[nix];omega
 |.r t e,l,0,(i,k)::p,n,h=>by
  simp only[BC]at h;split at h
  ·rename_i x hx
   have DH:(l:Ya e.ty.den)[i]?=Yd x:=hx;have h1:=Ob h;have h2:=zA (f:=cnt e) DH;simp only[nix,DH];show 1+_+_+_<=1+((l:Ya e.ty.den).map (cnt e)).sum;omega
  ·cases h
 |.r _ _,_,_+1,_,_,h=>by cases h
theorem Wl:∀{o:OT}{x:o.ty.den}{k k':Yk}{P p:Path}{n m:EF},BC o x k P=Yd n->BC o x k' p=Yd m->¬(k'=k/\P<+:p)->nix o x k' p<nix o x k P\/nix o x k P+cnt (.r n.1.1 n.1.2) n.2<=nix o x k' p
 |.d _,_,_,_,_,_,_,_,h,_,_=>by cases h
 |.p a b,x,k,k',P,p,n,m,h,h',Az=>by
  simp only[BC]at h h';split at h
  ·rename_i hk
   split at h'
   ·rename_i Er
    have:=Wl h h' Az;simp only[nix,Y7 hk,Y7 Er];exact this
   ·rename_i Er
    have h1:=Ob h;simp only[nix,Y7 hk,Y4 Er];simp only[cnt]at h1⊢;omega
  ·rename_i hk
   split at h'
   ·rename_i Er
    have h1:=Ob h';simp only[nix,Y4 hk,Y7 Er];have:=zB m.1.1 m.1.2 m.2;omega
   ·rename_i Er
    have:=Wl h h' (λq=>Az ⟨by omega,q.2⟩);simp only[nix,Y4 hk,Y4 Er];omega
 |.r t e,l,0,0,[],p,n,m,h,h',Az=>Yw ⟨rfl,List.nil_prefix⟩ Az
 |.r t e,l,0,0,(i,k)::P,[],n,m,h,h',Az=>by
  simp only[BC]at h;split at h
  ·rename_i x hx
   have DH:(l:Ya e.ty.den)[i]?=Yd x:=hx;simp only[nix,DH];omega
  ·cases h
 |.r t e,l,0,0,(i,k)::P,(i',k')::p,n,m,h,h',Az=>by
  simp only[BC]at h h';split at h
  ·rename_i x hx
   split at h'
   ·rename_i x' DH
    have hx:(l:Ya e.ty.den)[i]?=Yd x:=hx;have DH:(l:Ya e.ty.den)[i']?=Yd x':=DH;have c1:=Ob h;have c2:=Ob h';have p2:=zB m.1.1 m.1.2 m.2;simp only[nix,hx,DH];rcases dM i' i with Ae|DY|Ae
    ·have:=dV (f:=cnt e) DH Ae
     omega
    ·subst DY
     rw[hx]at DH;injection DH with DH;subst DH;have:=Wl h h' (λq=>Az ⟨rfl,by rw[q.1];exact List.cons_prefix_cons.2 ⟨rfl,q.2⟩⟩);omega
    ·have:=dV (f:=cnt e) hx Ae
     omega
   ·cases h'
  ·cases h
 |.r _ _,_,_+1,_,_,_,_,_,h,_,_=>by cases h
 |.r _ _,_,0,_+1,_,_,_,_,_,h',_=>by cases h'
section
variable{w:Yx}{ok ok':Yk->Prop}{base:Yk}{hv:Yp}
theorem Owns.data(hb:∀g,ok g->ok' g):∀{o:OT}{x:o.ty.den}{vs F:Ya Yp},(∀s∈F,∀g,s.ownBlock=Yd g->ok' g)->Owns w ok base hv o Ye x vs F->DRep w ok' o.ty x vs
 |.d _,_,_,_,_,⟨_,h,_⟩=>h.mono λg hg _=>⟨hb g hg,rfl⟩
 |.p _ _,_,_,_,hf,⟨u,v,F1,F2,e,e2,h1,h2⟩=>⟨u,v,e,Owns.data hb (λs hs=>hf s (by rw[e2];exact CI _ hs)) (show Owns w ok base hv _ Ye _ _ _ from h1),Owns.data hb (λs hs=>hf s (by rw[e2];exact Da _ hs)) (show Owns w ok base hv _ Ye _ _ _ from h2)⟩
 |.r _ e0,l,_,_,hf,⟨sv,xs,F',e,e2,h,hl⟩=>by
  have hd:DList (λx u=>DRep w ok' e0.ty x u) l xs:=by
   have:∀{l:Ya e0.ty.den}{j:Yk}{xs F:Ya Yp},(∀s∈F,∀g,s.ownBlock=Yd g->ok' g)->OL (λ_ x u f=>Owns w ok base hv e0 Ye x u f) j l xs F->DList (λx u=>DRep w ok' e0.ty x u) l xs:=by
    intro l
    induction l with
    |nil=>intro j xs F _ h;exact h.1
    |cons y l ih=>intro j xs F hF h;obtain⟨u,v,F1,F2,b1,b2,b3,b4⟩:=h;exact⟨u,v,b1,Owns.data hb (λs hs=>hF s (by rw[b2];exact CI _ hs)) b3,ih (λs hs=>hF s (by rw[b2];exact Da _ hs)) b4⟩
   exact this (λs hs=>hf s (by rw[e2];exact E6 _ hs)) hl
  have Cp:=h.1;rcases h.2 with⟨h1,h2⟩|⟨g,cap,AI,h1,Ht,hh,hn,hm,hs,ht⟩
  ·refine⟨Ye,0,xs,by rw[e,h1,h2],by rw[h2];exact Aw _,BD _,hd,λj v hj=>?_⟩
   have:xs=[]:=FT (by rw[Cp,h2,Sg]);rw[this]at hj;simp at hj
  ·refine⟨Yd ⟨g,0,Ye⟩,cap,xs,by rw[e,h1],hn,hm,hd,λj v hj=>⟨⟨g,0,Ye⟩,rfl,hf sv (by rw[e2];exact NT ..) g (by rw[h1];rfl),?_⟩⟩
   exact h.cells (g:=g) (by rw[h1];rfl) j v hj
end
end Go.Lift
namespace Go.Lift
inductive C where
 |bool (b:Ys)
 |int (k:YP) (n:Yi)
 |str (s:Ya Yl)
 |err (b:Ys)
 |list (e:Ty) (l:Ya e.den)
 |nils
 |nilc
 |lsome (e:Ty) (l:Ya e.den)
 |nilp
 |ptr (b o:Yk)
 |row (b ver:Yk)
 |fn (f:Y6) (BI:Ya Yk)
 |nilfn
 |mapv (b:Yk)
 |mat (b ver:Yk)
 |mrow (b Am i:Yk)
 |sub (b ver i j:Yk)
 |bself (b:Yk)
 |trow (b ver:Yk) (p:Path)
 |bfn (f:Y6) (b:Yk)
 |tptr (b ver:Yk) (p:Path) (i o:Yk)
 |hrow (b:Yk)
 |junk
inductive V where
 |junk
 |c (x:C)
 |agg (cs:Ya C)
 |tup (ts:Ya (Ys×Ya C))
 |eptr (b ver i o:Yk)
 |lptr (e:Ty) (x:e.den) (o:Yk)
 |mcell (b ver i:Yk)
 |mptr (b Am i j o:Yk)
 |arr (b o:Yk) (e:Ty) (n:Yk)
 |hptr (b o:Yk)
inductive Blk where
 |cells (t:Yq) (cs:Ya C)
 |row (t:Yq) (e:Ty) (ver:Yk) (l:Ya e.den)
 |map (t:Yq) (k v:Ty) (vg:Ys) (l:Ya (k.den×v.den))
 |mat (t et:Yq) (e:Ty) (ver Am:Yk) (hole:Yb Yk) (l:Ya (Ya e.den))
 |tree (t:Yq) (e:OT) (ver Am:Yk) (hole:Yb Path) (l:Ya e.ty.den)
 |fmap (t:Yq) (l:Ya (Ya Yl×(Y6×Yk)))
 |crow (t:Yq) (e:Ty) (n:Yk) (cs:Ya C)
 |dead
inductive Pl where
 |cells (g:Yk)
 |row (sv:Yp) (Ab:Ya (Yb Yp))
def Pl.has:Pl->Yk->Prop
 |.cells g',g=>g'=g
 |.row sv Ab,g=>sv.ownBlock=Yd g\/∃(i:Yk)(s:Yp),Ab[i]?=Yd (Yd s)/\s.ownBlock=Yd g
theorem Pl.has_row{sv:Yp}{g:Yk}(h:(Pl.row sv []).has g):sv.ownBlock=Yd g:=by
 rcases h with h|⟨i,s,h,_⟩
 ·exact h
 ·simp at h
structure Env where
 w:Yx
 ok:Yk->Prop
 base:Yk
 pl:Yk->Yb Pl
 bl:Yk->Yb Blk
def tv(ver Am:Yk):Path->Yk
 |[]=>ver
 |_::_=>ver+Am
theorem Wm{a b a' b':Yk}(ha:a<=a')(hb:b<=b')(p:Path):tv a b p<=tv a' b' p:=by cases p<;>simp only[tv]<;>omega
theorem zC{a b a' b':Yk}(ha:a<=a')(hb:b<=b'){p:Path}(h:tv a b p=tv a' b' p):a=a'/\(p=[]\/b=b'):=by
 cases p with
 |nil=>exact⟨h,.inl rfl⟩
 |cons _ _=>simp only[tv]at h;exact⟨by omega,.inr (by omega)⟩
def Sm(h:Yb Path)(p:Path):Prop:=∀q,h=Yd q->¬q<+:p
def CRep(E:Env):C->Yp->Prop
 |.bool b,v=>v=.bool b
 |.int k n,v=>v=.int k n
 |.str s,v=>v=.string ⟨s.toArray⟩
 |.err b,v=>errRep b v
 |.list e l,v=>DRep E.w E.ok (.slice e) l [v]
 |.nils,v=>v=.slice Ye 0 0
 |.nilc,v=>∃c,v=.slice Ye 0 c
 |.lsome e l,v=>DRep E.w E.ok (.slice e) l [v]/\∀n c,v≠.slice Ye n c
 |.nilp,v=>v=.pointer Ye
 |.ptr b o,v=>∃g,E.pl b=Yd (.cells g)/\v=.pointer (Yd ⟨g,o,Ye⟩)
 |.row b ver,v=>v.oneCell'=Yo/\∃sv Ab,E.pl b=Yd (.row sv Ab)/\∀t e ver' l,E.bl b=Yd (.row t e ver' l)->ver<=ver'/\(ver=ver'->v=sv)
 |.fn f BI,v=>∃gs:Ya Yk,BI.map E.pl=gs.map (λg=>Yd (.cells g))/\v=.func (.func f) #[] (gs.map λg=>.pointer (Yd ⟨g,0,Ye⟩)).toArray
 |.nilfn,v=>v=.nilFunc
 |.mapv b,v=>∃g,E.pl b=Yd (.cells g)/\v=.map (Yd g)
 |.mat b ver,v=>v.oneCell'=Yo/\∃sv Ab,E.pl b=Yd (.row sv Ab)/\∀t et e ver' Am hole l,E.bl b=Yd (.mat t et e ver' Am hole l)->ver<=ver'/\(ver=ver'->v=sv)
 |.mrow b Am i,v=>v.oneCell'=Yo/\∃sv Ab,E.pl b=Yd (.row sv Ab)/\∀t et e ver By hole l,E.bl b=Yd (.mat t et e ver By hole l)->Am<=By/\(Am=By->i<l.length/\Ab[i]?=Yd (Yd v))
 |.sub b ver i j,v=>v.oneCell'=Yo/\∃sv Ab,E.pl b=Yd (.row sv Ab)/\∀t e ver' l,E.bl b=Yd (.row t e ver' l)->ver<=ver'/\(ver=ver'->i<=j/\j<=l.length/\
   ∃A A' n c,sv=.slice A n c/\v=.slice A' (j-i) (c-i)/\(i<j->A'=A.map (·.add (i*e.size)))/\(i=0->A'=A))
 |.bself b,v=>v=.pointer Ye\/∃g,E.pl b=Yd (.cells g)/\v=.pointer (Yd ⟨g,0,Ye⟩)
 |.trow b ver p,v=>v.oneCell'=Yo/\∃sv Ab,E.pl b=Yd (.row sv Ab)/\∀t e ver' By h l,E.bl b=Yd (.tree t e ver' By h l)->ver<=tv ver' By p/\(ver=tv ver' By p->Sm h p->
   ∃n,BC (.r t e) l 0 p=Yd n/\(Yd sv::Ab)[nix (.r t e) l 0 p]?=Yd (Yd v))
 |.bfn f b,v=>∃g,E.pl b=Yd (.cells g)/\v=.func (.func f) #[.pointer (Yd ⟨g,0,Ye⟩)] #[]
 |.tptr b ver p i o,v=>∃sv Ab ad,E.pl b=Yd (.row sv Ab)/\v=.pointer (Yd ad)/\∀t e ver' By h l,E.bl b=Yd (.tree t e ver' By h l)->ver<=tv ver' By p/\(ver=tv ver' By p->Sm h p->
   ∃n s,BC (.r t e) l 0 p=Yd n/\(Yd sv::Ab)[nix (.r t e) l 0 p]?=Yd (Yd s)/\i<n.2.length/\∃g m c,s=.slice (Yd ⟨g,0,Ye⟩) m c/\ad=⟨g,i*n.1.2.ty.size+o,Ye⟩)
 |.hrow b,v=>v.oneCell'=Yo/\∃sv Ab,E.pl b=Yd (.row sv Ab)/\∀t e n cs,E.bl b=Yd (.crow t e n cs)->v=sv
 |.junk,v=>v.oneCell'=Yo
def CReps(E:Env):Ya C->Ya Yp->Prop
 |[],vs=>vs=[]
 |c::cs,vs=>∃v Av,vs=v::Av/\CRep E c v/\CReps E cs Av
def SRep(E:Env)(agg:Ys)(cs:Ya C)(v:Yp):Prop:=
 ∃vs,CReps E cs vs/\if agg then v=.agg vs.toArray else vs=[v]
def TReps(E:Env):Ya (Ys×Ya C)->Ya Yp->Prop
 |[],vs=>vs=[]
 |t::ts,vs=>∃v Av,vs=v::Av/\SRep E t.1 t.2 v/\TReps E ts Av
def VRep(E:Env):V->Yp->Prop
 |.junk,_=>True
 |.c x,v=>CRep E x v
 |.agg cs,v=>SRep E Yo cs v
 |.tup ts,v=>∃vs,v=.tuple vs.toArray/\TReps E ts vs
 |.eptr b ver i o,v=>∃sv Ab ad,E.pl b=Yd (.row sv Ab)/\v=.pointer (Yd ad)/\∀t e ver' l,E.bl b=Yd (.row t e ver' l)->ver<=ver'/\
   (ver=ver'->i<l.length/\∃g n c,sv=.slice (Yd ⟨g,0,Ye⟩) n c/\ad=⟨g,i*e.size+o,Ye⟩)
 |.mcell b ver i,v=>∃sv Ab ad,E.pl b=Yd (.row sv Ab)/\v=.pointer (Yd ad)/\∀t et e ver' Am hole l,E.bl b=Yd (.mat t et e ver' Am hole l)->ver<=ver'/\
   (ver=ver'->i<l.length/\∃g n c,sv=.slice (Yd ⟨g,0,Ye⟩) n c/\ad=⟨g,i,Ye⟩)
 |.mptr b Am i j o,v=>∃sv Ab ad,E.pl b=Yd (.row sv Ab)/\v=.pointer (Yd ad)/\∀t et e ver By hole l,E.bl b=Yd (.mat t et e ver By hole l)->Am<=By/\
   (Am=By->∃s x,l[i]?=Yd x/\Ab[i]?=Yd (Yd s)/\j<x.length/\∃g n c,s=.slice (Yd ⟨g,0,Ye⟩) n c/\ad=⟨g,j*e.size+o,Ye⟩)
 |.hptr b o,v=>∃sv Ab ad,E.pl b=Yd (.row sv Ab)/\v=.pointer (Yd ad)/\∀t e n cs,E.bl b=Yd (.crow t e n cs)->∃g m c,sv=.slice (Yd ⟨g,0,Ye⟩) m c/\ad=⟨g,o,Ye⟩
 |.arr b o _ n,v=>∃g,E.pl b=Yd (.cells g)/\v=.slice (Yd ⟨g,o,Ye⟩) n n
 |.lptr e x o,v=>∃xs ad,DRep E.w E.ok e x xs/\v=.pointer (Yd ad)/\∀j u,(xs.drop o)[j]?=Yd u->E.ok ad.block/\E.w.cell? (ad.add j)=Yd u
def keyW:Ty->Ys
 |.prod _ _=>Yo
 |_=>Yc
def KRep(w:Yx)(ok:Yk->Prop)(k:Ty)(x:k.den)(u:Yp):Prop:=
 ∃us,DRep w ok k x us/\if keyW k then u=.agg us.toArray else us=[u]
def MRep(w:Yx)(ok:Yk->Prop)(k v:Ty)(vg:Ys):Ya (k.den×v.den)->Ya YL->Prop
 |[],es=>es=[]
 |x::l,es=>∃e r,es=e::r/\KRep w ok k x.1 e.key/\(∃us,DRep w ok v x.2 us/\if vg then e.val=.agg us.toArray else us=[e.val])/\MRep w ok k v vg l r
theorem MRep.mono{w w':Yx}{ok ok':Yk->Prop}{k v:Ty}{vg:Ys}(hk:∀x us,DRep w ok k x us->DRep w' ok' k x us)(hv:∀x us,DRep w ok v x us->DRep w' ok' v x us):∀{l:Ya (k.den×v.den)}{es:Ya YL},MRep w ok k v vg l es->MRep w' ok' k v vg l es
 |[],_,h=>h
 |_::_,_,⟨e,r,h0,⟨ks,h1,h5⟩,⟨us,h2,h3⟩,h4⟩=>⟨e,r,h0,⟨ks,hk _ _ h1,h5⟩,⟨us,hv _ _ h2,h3⟩,MRep.mono hk hv h4⟩
structure MapOk (w:Yx) (ok:Yk->Prop) (k v:Ty) (vg:Ys) (l:Ya (k.den×v.den)) (es:YX YL) (Ch:Yk):Prop where
 m:MRep w ok k v vg l es.toList
 lt:∀x∈es.toList,x.born<Ch
 nd:(es.toList.map (·.born)).Nodup
theorem MapOk.mono{w w':Yx}{ok ok':Yk->Prop}{k v:Ty}{vg:Ys}(hk:∀x us,DRep w ok k x us->DRep w' ok' k x us)(hv:∀x us,DRep w ok v x us->DRep w' ok' v x us){l:Ya (k.den×v.den)}{es:YX YL}{Ch:Yk}(h:MapOk w ok k v vg l es Ch):MapOk w' ok' k v vg l es Ch:=⟨h.m.mono hk hv,h.lt,h.nd⟩
def FRep(E:Env):Ya (Ya Yl×(Y6×Yk))->Ya YL->Prop
 |[],es=>es=[]
 |x::l,es=>∃e r g,es=e::r/\e.key=.string ⟨x.1.toArray⟩/\E.pl x.2.2=Yd (.cells g)/\e.val=.func (.func x.2.1) #[.pointer (Yd ⟨g,0,Ye⟩)] #[]/\FRep E l r
structure MatOk (E:Env) (t et:Yq) (e:Ty) (hole:Yb Yk) (l:Ya (Ya e.den)) (sv:Yp) (Ab:Ya (Yb Yp)):Prop where
 outer:∃vs:Ya Yp,E.w.ownsRow E.base t 1 sv l.length vs/\∀(i:Yk)(s:Yp),Ab[i]?=Yd (Yd s)->vs[i]?=Yd s
 len:Ab.length=l.length
 hole:∀i:Yk,Ab[i]?=Yd Ye->hole=Yd i
 inner:∀(i:Yk)(s:Yp)(x:Ya e.den),Ab[i]?=Yd (Yd s)->l[i]?=Yd x->∃xs,DList (λx u=>DRep E.w E.ok e x u) x xs/\E.w.ownsRow E.base et e.size s x.length xs
 sep0:∀(i:Yk)(s:Yp)(g:Yk),Ab[i]?=Yd (Yd s)->sv.ownBlock=Yd g->s.ownBlock≠Yd g
 sep:∀(i j:Yk)(s r:Yp)(g:Yk),i≠j->Ab[i]?=Yd (Yd s)->Ab[j]?=Yd (Yd r)->s.ownBlock=Yd g->r.ownBlock≠Yd g
def Placed(t:Yq)(e:OT)(l:Ya e.ty.den):Yb Path->Ya Yp->Ya (Yb Yp)->Prop
 |none,F,Ab=>Ab=F.map Yd
 |some P,F,Ab=>∃n G1 G2,BC (.r t e) l 0 P=Yd n/\F=G1++G2/\G1.length=nix (.r t e) l 0 P/\Ab=G1.map Yd++(Y8 (cnt (.r n.1.1 n.1.2) n.2) Ye++G2.map Yd)
structure TreeOk (E:Env) (t:Yq) (e:OT) (hole:Yb Path) (l:Ya e.ty.den) (sv:Yp) (Ab:Ya (Yb Yp)):Prop where
 rep:∃hv F,Owns E.w E.ok E.base hv (.r t e) (hole.map λp=>(0,p)) l [sv] (sv::F)/\Placed t e l hole (sv::F) (Yd sv::Ab)/\(sv::F).Pairwise (λs r=>∀g,s.ownBlock=Yd g->r.ownBlock≠Yd g)
 top:hole≠Yd []
def BRep(E:Env):Blk->Pl->Prop
 |.cells t cs,.cells g=>∃vs:Ya Yp,E.w.heap[g]?=Yd (.cells vs.toArray t (0,0))/\CReps E cs vs
 |.row t e _ l,.row sv Ab=>Ab=[]/\∃xs,DList (λx u=>DRep E.w E.ok e x u) l xs/\E.w.ownsRow E.base t e.size sv l.length xs
 |.mat t et e _ _ hole l,.row sv Ab=>MatOk E t et e hole l sv Ab
 |.tree t e _ _ hole l,.row sv Ab=>TreeOk E t e hole l sv Ab
 |.crow t e n cs,.row sv Ab=>Ab=[]/\∃vs,CReps E cs vs/\E.w.ownsRow E.base t e.size sv n vs
 |.map _ k v vg l,.cells g=>∃(es:YX YL)(Ch:Yk),E.w.heap[g]?=Yd (.map es Ch)/\MapOk E.w E.ok k v vg l es Ch
 |.fmap _ l,.cells g=>∃(es:YX YL)(Ch:Yk),E.w.heap[g]?=Yd (.map es Ch)/\FRep E l es.toList
 |.dead,_=>True
 |_,_=>False
def KeepT(c:Prop)(t:Yq)(e:OT)(h h':Yb Path)(l l':Ya e.ty.den)(sv:Yp)(Ab Bf:Ya (Yb Yp)):Prop:=
 ∀p,(p=[]\/c)->Sm h' p->Sm h p/\∀n,BC (.r t e) l 0 p=Yd n->∃n',BC (.r t e) l' 0 p=Yd n'/\n'.1=n.1/\n'.2.length=n.2.length/\
  ∀s,(Yd sv::Ab)[nix (.r t e) l 0 p]?=Yd (Yd s)->(Yd sv::Bf)[nix (.r t e) l' 0 p]?=Yd (Yd s)
theorem KeepT.refl(c:Prop)(t:Yq)(e:OT)(h:Yb Path)(l:Ya e.ty.den)(sv:Yp)(Ab:Ya (Yb Yp)):KeepT c t e h h l l sv Ab Ab:=λ_ _ ho=>⟨ho,λn hn=>⟨n,hn,rfl,rfl,λ_ hs=>hs⟩⟩
theorem KeepT.trans{c c1 c2:Prop}(hc:c->c1/\c2){t:Yq}{e:OT}{h h1 h2:Yb Path}{l l1 l2:Ya e.ty.den}{sv:Yp}{Ab MC JD:Ya (Yb Yp)}(a:KeepT c1 t e h h1 l l1 sv Ab MC)(b:KeepT c2 t e h1 h2 l1 l2 sv MC JD):KeepT c t e h h2 l l2 sv Ab JD:=λp hp ho=>by obtain⟨b1,b2⟩:=b p (hp.imp id λh=>(hc h).2) ho;obtain⟨a1,a2⟩:=a p (hp.imp id λh=>(hc h).1) b1;refine⟨a1,λn hn=>?_⟩;obtain⟨n1,c1,c2,c3,c4⟩:=a2 n hn;obtain⟨n2,d1,d2,d3,d4⟩:=b2 n1 c1;exact⟨n2,d1,d2.trans c2,d3.trans c3,λs hs=>d4 s (c4 s hs)⟩
structure KeepR (B B':Yb Blk) (sv:Yp) (Ab:Ya (Yb Yp)) (As:Yp) (Bf:Ya (Yb Yp)):Prop where
 row:∀t e ver' l',B'=Yd (.row t e ver' l')->∃ver l,B=Yd (.row t e ver l)/\ver<=ver'/\(ver=ver'->As=sv/\l'.length=l.length)
 mat:∀t et e ver' By Hc l',B'=Yd (.mat t et e ver' By Hc l')->∃ver Am hole l,B=Yd (.mat t et e ver Am hole l)/\ver<=ver'/\Am<=By/\
  (ver=ver'->As=sv/\l'.length=l.length)/\(Am=By->Bf=Ab/\l'.map Yg=l.map Yg)
 tree:∀t e ver' By h' l',B'=Yd (.tree t e ver' By h' l')->∃ver Am h l,B=Yd (.tree t e ver Am h l)/\ver<=ver'/\Am<=By/\(ver=ver'->As=sv/\KeepT (Am=By) t e h h' l l' sv Ab Bf)
 crow:∀t e n cs',B'=Yd (.crow t e n cs')->∃cs,B=Yd (.crow t e n cs)/\As=sv
theorem KeepR.refl(B:Yb Blk)(sv:Yp)(Ab:Ya (Yb Yp)):KeepR B B sv Ab sv Ab:=
 ⟨λ_ _ ver' l' hb=>⟨ver',l',hb,Aw _,λ_=>⟨rfl,rfl⟩⟩,λ_ _ _ ver' By Hc l' hb=>⟨ver',By,Hc,l',hb,Aw _,Aw _,λ_=>⟨rfl,rfl⟩,λ_=>⟨rfl,rfl⟩⟩,λ_ _ ver' By h' l' hb=>⟨ver',By,h',l',hb,Aw _,Aw _,λ_=>⟨rfl,KeepT.refl _ _ _ _ _ _ _⟩⟩,λ_ _ _ cs hb=>⟨cs,hb,rfl⟩⟩
theorem KeepR.of_eq{B B':Yb Blk}(h:∀C,B'=Yd C->B=Yd C)(sv:Yp)(Ab:Ya (Yb Yp)):KeepR B B' sv Ab sv Ab:=
 ⟨λ_ _ ver' l' hb=>⟨ver',l',h _ hb,Aw _,λ_=>⟨rfl,rfl⟩⟩,λ_ _ _ ver' By Hc l' hb=>⟨ver',By,Hc,l',h _ hb,Aw _,Aw _,λ_=>⟨rfl,rfl⟩,λ_=>⟨rfl,rfl⟩⟩,λ_ _ ver' By h' l' hb=>⟨ver',By,h',l',h _ hb,Aw _,Aw _,λ_=>⟨rfl,KeepT.refl _ _ _ _ _ _ _⟩⟩,λ_ _ _ cs hb=>⟨cs,h _ hb,rfl⟩⟩
theorem KeepR.of_live{B B':Yb Blk}(h:∀C,B'=Yd C->C≠.dead->B=Yd C)(sv:Yp)(Ab:Ya (Yb Yp)):KeepR B B' sv Ab sv Ab:=
 ⟨λ_ _ ver' l' hb=>⟨ver',l',h _ hb (by simp),Aw _,λ_=>⟨rfl,rfl⟩⟩,λ_ _ _ ver' By Hc l' hb=>⟨ver',By,Hc,l',h _ hb (by simp),Aw _,Aw _,λ_=>⟨rfl,rfl⟩,λ_=>⟨rfl,rfl⟩⟩,λ_ _ ver' By h' l' hb=>⟨ver',By,h',l',h _ hb (by simp),Aw _,Aw _,λ_=>⟨rfl,KeepT.refl _ _ _ _ _ _ _⟩⟩,λ_ _ _ cs hb=>⟨cs,h _ hb (by simp),rfl⟩⟩
theorem KeepR.trans{B B1 B2:Yb Blk}{sv sv1 sv2:Yp}{Ab MC JD:Ya (Yb Yp)}(h:KeepR B B1 sv Ab sv1 MC)(k:KeepR B1 B2 sv1 MC sv2 JD):KeepR B B2 sv Ab sv2 JD:=by
 constructor
 ·intro t e Gz l2 Aj
  obtain⟨CM,l1,AV,le1,eq1⟩:=k.row t e Gz l2 Aj;obtain⟨CY,l0,Dd,le0,eq0⟩:=h.row t e CM l1 AV;refine⟨CY,l0,Dd,BH le0 le1,λhe=>?_⟩;have e01:CY=CM:=Ji le0 (he▸le1);have e12:CM=Gz:=e01▸he;exact⟨(eq1 e12).1.trans (eq0 e01).1,(eq1 e12).2.trans (eq0 e01).2⟩
 ·intro t et e Gz RA AE4 l2 Aj
  obtain⟨CM,H9,Vk,l1,AV,le1,ile1,eq1,ieq1⟩:=k.mat t et e Gz RA AE4 l2 Aj;obtain⟨CY,FS,M2,l0,Dd,le0,ile0,eq0,ieq0⟩:=h.mat t et e CM H9 Vk l1 AV;refine⟨CY,FS,M2,l0,Dd,BH le0 le1,BH ile0 ile1,λhe=>?_,λhe=>?_⟩
  ·have e01:CY=CM:=Ji le0 (he▸le1)
   have e12:CM=Gz:=e01▸he;exact⟨(eq1 e12).1.trans (eq0 e01).1,(eq1 e12).2.trans (eq0 e01).2⟩
  ·have e01:FS=H9:=Ji ile0 (he▸ile1)
   have e12:H9=RA:=e01▸he;exact⟨(ieq1 e12).1.trans (ieq0 e01).1,(ieq1 e12).2.trans (ieq0 e01).2⟩
 ·intro t e Gz RA h2 l2 Aj
  obtain⟨CM,H9,h1,l1,AV,le1,ile1,eq1⟩:=k.tree t e Gz RA h2 l2 Aj;obtain⟨CY,FS,h0,l0,Dd,le0,ile0,eq0⟩:=h.tree t e CM H9 h1 l1 AV;refine⟨CY,FS,h0,l0,Dd,BH le0 le1,BH ile0 ile1,λhe=>?_⟩;have e01:CY=CM:=Ji le0 (he▸le1);have e12:CM=Gz:=e01▸he;obtain⟨a1,a2⟩:=eq0 e01;obtain⟨b1,b2⟩:=eq1 e12;rw[a1]at b2;exact⟨b1.trans a1,a2.trans (λhc=>⟨by omega,by omega⟩) b2⟩
 ·intro t e n cs2 Aj
  obtain⟨cs1,AV,e1⟩:=k.crow t e n cs2 Aj;obtain⟨cs0,Dd,e0⟩:=h.crow t e n cs1 AV;exact⟨cs0,Dd,e1.trans e0⟩
structure Ext (E E':Env):Prop where
 base:E'.base<=E.base
 heap:Keeps E.w E.ok E'.w E'.ok
 cells:∀b g,E.pl b=Yd (.cells g)->E'.pl b=Yd (.cells g)
 rows:∀b sv Ab,E.pl b=Yd (.row sv Ab)->∃As Bf,E'.pl b=Yd (.row As Bf)/\KeepR (E.bl b) (E'.bl b) sv Ab As Bf
theorem Ext.refl(E:Env):Ext E E:=⟨Aw _,λ_ h _=>⟨h,rfl⟩,λ_ _ h=>h,λ_ sv Ab h=>⟨sv,Ab,h,KeepR.refl _ _ _⟩⟩
section
variable{E E':Env}
theorem Amp{α:Type}{l l':Ya (Ya α)}(h:l'.map Yg=l.map Yg){i:Yk}{x:Ya α}(hx:l[i]?=Yd x):∃x',l'[i]?=Yd x'/\x'.length=x.length:=by
 have h1:(l'.map Yg)[i]?=Yd x.length:=by rw[h,FJ,hx];rfl
 rw[FJ]at h1;cases hy:l'[i]? with
 |none=>rw[hy]at h1;cases h1
 |some y=>rw[hy]at h1;injection h1 with h1;exact⟨y,rfl,h1⟩
theorem CRep.mono(hx:Ext E E'):∀{c:C}{v:Yp},CRep E c v->CRep E' c v
 |.bool _,_,h=>h
 |.int _ _,_,h=>h
 |.str _,_,h=>h
 |.err _,_,h=>h
 |.list e l,_,h=>DRep.mono (τ:=.slice e) hx.heap h
 |.nils,_,h=>h
 |.nilc,_,h=>h
 |.lsome e l,_,h=>⟨DRep.mono (τ:=.slice e) hx.heap h.1,h.2⟩
 |.nilp,_,h=>h
 |.nilfn,_,h=>h
 |.junk,_,h=>h
 |.ptr _ _,_,⟨g,h,hv⟩=>⟨g,hx.cells _ _ h,hv⟩
 |.mapv _,_,⟨g,h,hv⟩=>⟨g,hx.cells _ _ h,hv⟩
 |.bfn _ _,_,⟨g,h,hv⟩=>⟨g,hx.cells _ _ h,hv⟩
 |.tptr b ver p i o,_,⟨sv,Ab,ad,h,he,hv⟩=>by obtain⟨As,Bf,h',hr⟩:=hx.rows _ _ _ h;refine⟨As,Bf,ad,h',he,λt e ver' By UU l' hb=>?_⟩;obtain⟨CY,FS,hh,l,Dd,Bx,ile,DY⟩:=hr.tree t e ver' By UU l' hb;obtain⟨h1,h2⟩:=hv t e CY FS hh l Dd;refine⟨BH h1 (Wm Bx ile p),λhe ho=>?_⟩;have BR:=Ji (Wm Bx ile p) (he▸h1);obtain⟨this,hc⟩:=zC Bx ile BR;obtain⟨q1,q2⟩:=DY this;obtain⟨r1,r2⟩:=q2 p hc ho;obtain⟨n,s,h3,h4,h5,h6⟩:=h2 (he.trans BR.symm) r1;obtain⟨n',s1,s2,s3,s4⟩:=r2 n h3;rw[q1];exact⟨n',s,s1,s4 _ h4,by rw[s3];exact h5,by rw[s2];exact h6⟩
 |.bself _,_,.inl h=>.inl h
 |.bself _,_,.inr ⟨g,h,hv⟩=>.inr ⟨g,hx.cells _ _ h,hv⟩
 |.row b ver,_,⟨KD,sv,Ab,h,hv⟩=>by obtain⟨As,Bf,h',hr⟩:=hx.rows _ _ _ h;refine⟨KD,As,Bf,h',λt e ver' l' hb=>?_⟩;obtain⟨CY,l,Dd,Bx,DY⟩:=hr.row t e ver' l' hb;obtain⟨h1,h2⟩:=hv t e CY l Dd;refine⟨BH h1 Bx,λhe=>?_⟩;have:CY=ver':=Ji Bx (he▸h1);rw[(DY this).1];exact h2 (he.trans this.symm)
 |.mat b ver,_,⟨KD,sv,Ab,h,hv⟩=>by obtain⟨As,Bf,h',hr⟩:=hx.rows _ _ _ h;refine⟨KD,As,Bf,h',λt et e ver' By Hc l' hb=>?_⟩;obtain⟨CY,FS,M2,l,Dd,Bx,_,DY,_⟩:=hr.mat t et e ver' By Hc l' hb;obtain⟨h1,h2⟩:=hv t et e CY FS M2 l Dd;refine⟨BH h1 Bx,λhe=>?_⟩;have:CY=ver':=Ji Bx (he▸h1);rw[(DY this).1];exact h2 (he.trans this.symm)
 |.mrow b Am i,_,⟨KD,sv,Ab,h,hv⟩=>by
  obtain⟨As,Bf,h',hr⟩:=hx.rows _ _ _ h;refine⟨KD,As,Bf,h',λt et e ver' By Hc l' hb=>?_⟩;obtain⟨CY,FS,M2,l,Dd,_,Bx,_,DY⟩:=hr.mat t et e ver' By Hc l' hb;obtain⟨h1,h2⟩:=hv t et e CY FS M2 l Dd;refine⟨BH h1 Bx,λhe=>?_⟩;have hi:FS=By:=Ji Bx (he▸h1);obtain⟨q1,q2⟩:=DY hi;have q3:l'.length=l.length:=by simpa using Ai Yg q2
  rw[q1,q3];exact h2 (he.trans hi.symm)
 |.sub b ver i j,_,⟨KD,sv,Ab,h,hv⟩=>by obtain⟨As,Bf,h',hr⟩:=hx.rows _ _ _ h;refine⟨KD,As,Bf,h',λt e ver' l' hb=>?_⟩;obtain⟨CY,l,Dd,Bx,DY⟩:=hr.row t e ver' l' hb;obtain⟨h1,h2⟩:=hv t e CY l Dd;refine⟨BH h1 Bx,λhe=>?_⟩;have:CY=ver':=Ji Bx (he▸h1);rw[(DY this).1,(DY this).2];exact h2 (he.trans this.symm)
 |.trow b ver p,_,⟨KD,sv,Ab,h,hv⟩=>by obtain⟨As,Bf,h',hr⟩:=hx.rows _ _ _ h;refine⟨KD,As,Bf,h',λt e ver' By UU l' hb=>?_⟩;obtain⟨CY,FS,hh,l,Dd,Bx,ile,DY⟩:=hr.tree t e ver' By UU l' hb;obtain⟨h1,h2⟩:=hv t e CY FS hh l Dd;refine⟨BH h1 (Wm Bx ile p),λhe ho=>?_⟩;have BR:=Ji (Wm Bx ile p) (he▸h1);obtain⟨this,hc⟩:=zC Bx ile BR;obtain⟨q1,q2⟩:=DY this;obtain⟨r1,r2⟩:=q2 p hc ho;obtain⟨n,h3,h4⟩:=h2 (he.trans BR.symm) r1;obtain⟨n',s1,_,_,s4⟩:=r2 n h3;rw[q1];exact⟨n',s1,s4 _ h4⟩
 |.hrow b,_,⟨KD,sv,Ab,h,hv⟩=>by obtain⟨As,Bf,h',hr⟩:=hx.rows _ _ _ h;refine⟨KD,As,Bf,h',λt e n cs hb=>?_⟩;obtain⟨cs0,Dd,e1⟩:=hr.crow t e n cs hb;rw[e1];exact hv t e n cs0 Dd
 |.fn f BI,_,⟨gs,h,hv⟩=>by
  refine⟨gs,?_,hv⟩;clear hv
  induction BI generalizing gs with
  |nil=>cases gs<;>simp_all
  |cons b bs ih=>
   cases gs with
   |nil=>simp at h
   |cons g gs=>simp only[CP,CK]at h⊢;exact⟨hx.cells _ _ h.1,ih gs h.2⟩
theorem CReps.mono(hx:Ext E E'):∀{cs:Ya C}{vs:Ya Yp},CReps E cs vs->CReps E' cs vs
 |[],_,h=>h
 |_::_,_,⟨v,Av,e,h,ht⟩=>⟨v,Av,e,CRep.mono hx h,CReps.mono hx ht⟩
theorem SRep.mono(hx:Ext E E'){agg:Ys}{cs:Ya C}{v:Yp}(h:SRep E agg cs v):SRep E' agg cs v:=by obtain⟨vs,h1,h2⟩:=h;exact⟨vs,h1.mono hx,h2⟩
theorem TReps.mono(hx:Ext E E'):∀{ts:Ya (Ys×Ya C)}{vs:Ya Yp},TReps E ts vs->TReps E' ts vs
 |[],_,h=>h
 |_::_,_,⟨v,Av,e,h,ht⟩=>⟨v,Av,e,h.mono hx,TReps.mono hx ht⟩
theorem VRep.mono(hx:Ext E E'):∀{x:V}{v:Yp},VRep E x v->VRep E' x v
 |.junk,_,_=>trivial
 |.c _,_,h=>CRep.mono hx h
 |.agg _,_,h=>SRep.mono hx h
 |.tup _,_,⟨vs,e,h⟩=>⟨vs,e,h.mono hx⟩
 |.mcell b ver i,_,⟨sv,Ab,ad,h,he,hv⟩=>by obtain⟨As,Bf,h',hr⟩:=hx.rows _ _ _ h;refine⟨As,Bf,ad,h',he,λt et e ver' By Hc l' hb=>?_⟩;obtain⟨CY,FS,M2,l,Dd,Bx,_,DY,_⟩:=hr.mat t et e ver' By Hc l' hb;obtain⟨h1,h2⟩:=hv t et e CY FS M2 l Dd;refine⟨BH h1 Bx,λhe=>?_⟩;have:CY=ver':=Ji Bx (he▸h1);obtain⟨q1,q2⟩:=DY this;rw[q1,q2];exact h2 (he.trans this.symm)
 |.mptr b Am i j o,_,⟨sv,Ab,ad,h,he,hv⟩=>by obtain⟨As,Bf,h',hr⟩:=hx.rows _ _ _ h;refine⟨As,Bf,ad,h',he,λt et e ver' By Hc l' hb=>?_⟩;obtain⟨CY,FS,M2,l,Dd,_,Bx,_,DY⟩:=hr.mat t et e ver' By Hc l' hb;obtain⟨h1,h2⟩:=hv t et e CY FS M2 l Dd;refine⟨BH h1 Bx,λhe=>?_⟩;have hi:FS=By:=Ji Bx (he▸h1);obtain⟨q1,q2⟩:=DY hi;obtain⟨s,x,h3,h4,h5,h6⟩:=h2 (he.trans hi.symm);obtain⟨x',h7,h8⟩:=Amp q2 h3;rw[q1];exact⟨s,x',h7,h4,by rw[h8];exact h5,h6⟩
 |.eptr b ver i o,_,⟨sv,Ab,ad,h,he,hv⟩=>by obtain⟨As,Bf,h',hr⟩:=hx.rows _ _ _ h;refine⟨As,Bf,ad,h',he,λt e ver' l' hb=>?_⟩;obtain⟨CY,l,Dd,Bx,DY⟩:=hr.row t e ver' l' hb;obtain⟨h1,h2⟩:=hv t e CY l Dd;refine⟨BH h1 Bx,λhe=>?_⟩;have:CY=ver':=Ji Bx (he▸h1);obtain⟨q1,q2⟩:=DY this;rw[q1,q2];exact h2 (he.trans this.symm)
 |.arr _ _ _ _,_,⟨g,h,e⟩=>⟨g,hx.cells _ _ h,e⟩
 |.hptr b o,_,⟨sv,Ab,ad,h,he,hv⟩=>by obtain⟨As,Bf,h',hr⟩:=hx.rows _ _ _ h;refine⟨As,Bf,ad,h',he,λt e n cs hb=>?_⟩;obtain⟨cs0,Dd,e1⟩:=hr.crow t e n cs hb;rw[e1];exact hv t e n cs0 Dd
 |.lptr e x o,_,⟨xs,ad,h,hv,hc⟩=>by
  refine⟨xs,ad,h.mono hx.heap,hv,λj u hj=>?_⟩;obtain⟨h1,h2⟩:=hc j u hj;have hb:E.ok (ad.add j).block:=by rw[ML];exact h1
  obtain⟨o',c'⟩:=hx.heap.cell hb h2;rw[ML]at o';exact⟨o',c'⟩
theorem Sn{w w':Yx}{b b':Yk}{t:Yq}{size:Yk}{v:Yp}{n:Yk}{xs:Ya Yp}(hb:b'<=b)(hg:∀g,v.ownBlock=Yd g->w'.heap[g]?=w.heap[g]?)(h:w.ownsRow b t size v n xs):w'.ownsRow b' t size v n xs:=by
 refine⟨h.1,?_⟩;rcases h.2 with h3|⟨g,cap,AI,rfl,Aj,hh,r⟩
 ·exact .inl h3
 ·exact .inr ⟨g,cap,AI,rfl,BH hb Aj,(hg g rfl).trans hh,r⟩
theorem Placed.mem{t:Yq}{e:OT}{l:Ya e.ty.den}{hole:Yb Path}{F:Ya Yp}{Ab:Ya (Yb Yp)}(h:Placed t e l hole F Ab){s:Yp}:s∈F↔Yd s∈Ab:=by
 cases hole with
 |none=>have h:Ab=F.map Yd:=h;rw[h];simp
 |some P=>obtain⟨n,G1,G2,_,e1,_,e3⟩:=h;rw[e1,e3];simp[List.mem_replicate]
theorem Placed.has{t:Yq}{e:OT}{l:Ya e.ty.den}{hole:Yb Path}{F:Ya Yp}{sv:Yp}{Ab:Ya (Yb Yp)}(h:Placed t e l hole F (Yd sv::Ab)){s:Yp}(hs:s∈F){g:Yk}(hg:s.ownBlock=Yd g):(Pl.row sv Ab).has g:=by
 rcases Bg.1 (h.mem.1 hs)with h1|h1
 ·injection h1 with h1
  exact .inl (h1▸hg)
 ·obtain⟨i,hi⟩:=PD.1 h1
  exact .inr ⟨i,s,hi,hg⟩
theorem Placed.of_has{t:Yq}{e:OT}{l:Ya e.ty.den}{hole:Yb Path}{F:Ya Yp}{sv:Yp}{Ab:Ya (Yb Yp)}(h:Placed t e l hole F (Yd sv::Ab)){g:Yk}(hg:(Pl.row sv Ab).has g):∃s∈F,s.ownBlock=Yd g:=by
 rcases hg with hg|⟨i,s,hs,hg⟩
 ·exact⟨sv,h.mem.2 (NT ..),hg⟩
 ·exact⟨s,h.mem.2 (E6 _ (CN hs)),hg⟩
theorem FRep.mono(hx:Ext E E'):∀{l:Ya (Ya Yl×(Y6×Yk))}{es:Ya YL},FRep E l es->FRep E' l es
 |[],_,h=>h
 |_::_,_,⟨e,r,g,h1,h2,h3,h4,h5⟩=>⟨e,r,g,h1,h2,hx.cells _ _ h3,h4,FRep.mono hx h5⟩
theorem BRep.mono(hx:Ext E E'){B:Blk}{p:Pl}(h:BRep E B p)(hg:∀g,p.has g->E'.w.heap[g]?=E.w.heap[g]?):BRep E' B p:=by
 cases B with
 |dead=>exact trivial
 |cells t cs=>
  cases p with
  |row _ _=>exact h.elim
  |cells g=>obtain⟨vs,h1,h2⟩:=h;exact⟨vs,(hg g rfl).trans h1,h2.mono hx⟩
 |map t k v vg l=>
  cases p with
  |row _ _=>exact h.elim
  |cells g=>obtain⟨es,Ch,h1,h2⟩:=h;exact⟨es,Ch,(hg g rfl).trans h1,h2.mono (λ_ _ h=>h.mono hx.heap) (λ_ _ h=>h.mono hx.heap)⟩
 |fmap t l=>
  cases p with
  |row _ _=>exact h.elim
  |cells g=>obtain⟨es,Ch,h1,h2⟩:=h;exact⟨es,Ch,(hg g rfl).trans h1,h2.mono hx⟩
 |row t e ver l=>
  cases p with
  |cells _=>exact h.elim
  |row sv Ab=>obtain⟨h0,xs,h1,h2⟩:=h;exact⟨h0,xs,h1.mono λx u hu=>hu.mono hx.heap,Sn hx.base (λg Fo=>hg g (.inl Fo)) h2⟩
 |crow t e n cs=>
  cases p with
  |cells _=>exact h.elim
  |row sv Ab=>obtain⟨h0,vs,h1,h2⟩:=h;exact⟨h0,vs,h1.mono hx,Sn hx.base (λg Fo=>hg g (.inl Fo)) h2⟩
 |mat t et e ver Am hole l=>
  cases p with
  |cells _=>exact h.elim
  |row sv Ab=>have h:MatOk E t et e hole l sv Ab:=h;obtain⟨vs,h1,h2⟩:=h.outer;refine⟨⟨vs,Sn hx.base (λg Fo=>hg g (.inl Fo)) h1,h2⟩,h.len,h.hole,λi s x hs hl=>?_,h.sep0,h.sep⟩;obtain⟨xs,h3,h4⟩:=h.inner i s x hs hl;exact⟨xs,h3.mono λx u hu=>hu.mono hx.heap,Sn hx.base (λg Fo=>hg g (.inr ⟨i,s,hs,Fo⟩)) h4⟩
 |tree t e ver Am hole l=>
  cases p with
  |cells _=>exact h.elim
  |row sv Ab=>have h:TreeOk E t e hole l sv Ab:=h;obtain⟨hv,F,h1,h2,h3⟩:=h.rep;exact⟨⟨hv,F,h1.mono hx.base hx.heap λs hs g Fo=>hg g (Placed.has h2 hs Fo),h2,h3⟩,h.top⟩
end
theorem CReps.length{E:Env}:∀{cs:List C}{vs:List Value},CReps E cs vs->vs.length=cs.length
 |[],_,h=>by simp only[CReps]at h;simp[h]
 |_::_,_,⟨_,_,e,_,ht⟩=>by rw[e,Be,Be,CReps.length ht]
theorem CRep.oneCell{E:Env}{c:C}{v:Yp}(h:CRep E c v):v.oneCell'=Yo:=by
 cases c with
 |list e l=>exact DRep.oneCell h v (by simp)
 |lsome e l=>exact DRep.oneCell h.1 v (by simp)
 |nilc=>obtain⟨c,rfl⟩:=h;rfl
 |ptr b o=>obtain⟨g,_,rfl⟩:=h;rfl
 |bself b=>rcases h with rfl|⟨g,_,rfl⟩<;>rfl
 |fn f BI=>obtain⟨gs,_,rfl⟩:=h;rfl
 |mapv b=>obtain⟨g,_,rfl⟩:=h;rfl
 |bfn f b=>obtain⟨g,_,rfl⟩:=h;rfl
 |tptr b ver p i o=>obtain⟨_,_,ad,_,rfl,_⟩:=h;rfl
 |row b ver=>exact h.1
 |mat b ver=>exact h.1
 |mrow b Am i=>exact h.1
 |sub b ver i j=>exact h.1
 |trow b ver p=>exact h.1
 |hrow b=>exact h.1
 |junk=>exact h
 |bool _=>simp only[CRep]at h;subst h;rfl
 |int _ _=>simp only[CRep]at h;subst h;rfl
 |str _=>simp only[CRep]at h;subst h;rfl
 |err _=>exact errRep.one h
 |nils=>simp only[CRep]at h;subst h;rfl
 |nilp=>simp only[CRep]at h;subst h;rfl
 |nilfn=>simp only[CRep]at h;subst h;rfl
end Go.Lift
namespace Go.Lift
noncomputable section
noncomputable def look{α:Type}(l:Ya (Yk×α))(i:Yk):Yb α:=List.rec (motive:=λ_=>Yb α) Ye (λp _ ih=>Bool.rec (motive:=λ_=>Yb α) ih (Yd p.2) (Ym i p.1)) l
theorem Fx{α:Type}(i:Yk):look ([]:Ya (Yk×α)) i=Ye:=rfl
theorem EG{α:Type}(j:Yk)(x:α)(r:Ya (Yk×α))(i:Yk):look ((j,x)::r) i=bif Ym i j then Yd x else look r i:=by show(Bool.rec (motive:=λ_=>Yb α) (look r i) (Yd x) (Ym i j):Yb α)=_;cases Ym i j<;>rfl
noncomputable def put{α:Type}(l:Ya (Yk×α))(i:Yk)(x:α):Ya (Yk×α):=List.rec (motive:=λ_=>Ya (Yk×α)) [(i,x)] (λp r ih=>Bool.rec (motive:=λ_=>Ya (Yk×α)) ((i,x)::p::r) (Bool.rec (motive:=λ_=>Ya (Yk×α)) (p::ih) ((i,x)::r) (Ym i p.1)) (YB p.1 i)) l
theorem zD{α:Type}(i:Yk)(x:α):put ([]:Ya (Yk×α)) i x=[(i,x)]:=rfl
theorem zF{α:Type}(j:Yk)(y:α)(r:Ya (Yk×α))(i:Yk)(x:α):put ((j,y)::r) i x=bif Yz i j then(i,x)::(j,y)::r else bif Ym i j then(i,x)::r else(j,y)::put r i x:=by
 have e:Yz i j=!YB j i:=by
  by_cases h:i<j
  ·have h1:Yz i j=Yo:=by rw[Nat.blt_eq];exact h
   have h2:YB j i=Yc:=by
    cases h2:YB j i with
    |false=>rfl
    |true=>exact Yw (IC h2) (Nat.not_le.2 h)
   rw[h1,h2];rfl
  ·have h1:Yz i j=Yc:=by
    cases h1:Yz i j with
    |false=>rfl
    |true=>rw[Nat.blt_eq]at h1;exact Yw h1 h
   have h2:YB j i=Yo:=Nat.ble_eq_true_of_le (Nat.not_lt.1 h);rw[h1,h2];rfl
 rw[e];show(Bool.rec (motive:=λ_=>Ya (Yk×α)) ((i,x)::(j,y)::r) (Bool.rec (motive:=λ_=>Ya (Yk×α)) ((j,y)::put r i x) ((i,x)::r) (Ym i j)) (YB j i):Ya (Yk×α))=_;cases YB j i<;>cases Ym i j<;>rfl
def puts{α:Type}:Ya (Yk×α)->Ya (Yk×α)->Ya (Yk×α)
 |l,[]=>l
 |l,(i,x)::r=>puts (put l i x) r
theorem IE{i j:Yk}(h:¬i=j):Ym i j=Yc:=by
 cases hb:Ym i j with
 |false=>rfl
 |true=>exact Yw (At hb) h
theorem LO(i:Yk):Ym i i=Yo:=Nat.beq_refl i
theorem So{α:Type}(l:Ya (Yk×α))(i:Yk)(x:α)(j:Yk):look (put l i x) j=if j=i then Yd x else look l j:=by
 induction l with
 |nil=>
  simp only[zD,zF,Fx,EG];by_cases h:j=i
  ·subst h;simp
  ·simp[h,IE h]
 |cons p r ih=>
  obtain⟨k,y⟩:=p;simp only[zD,zF];cases h1:Yz i k
  ·cases h2:Ym i k
   ·simp only[BU,Fx,EG,ih]
    by_cases h:j=i
    ·subst h;simp[h2]
    ·simp[h]
   ·have:i=k:=At h2
    subst this;simp only[BU,Ao,Fx,EG];by_cases h:j=i
    ·subst h;simp
    ·simp[h,IE h]
  ·simp only[Ao,Fx,EG]
   by_cases h:j=i
   ·subst h;simp
   ·simp[h,IE h]
inductive BK where
 |b|i|s
structure TI where
 agg:Ys
 size:Yk
 bytes:Yk
 zero:Ya C
 flds:Ya (Yk×Yk×Ys)
 elem:Yb Yq
 len:Yb Yk
 ty:Yb Ty
 kind:Yb YP
 isBool:Ys
 isStr:Ys
 eqs:Yb (Ya BK)
 mp:Yb (Yq×Yq)
 ptr:Ys
inductive CT where
 |data (τ:Ty)
 |ptr (b o:Yk)
 |rowh (b:Yk)
 |fn (f:Y6) (BI:Ya Yk)
 |maph (b:Yk)
 |math (b:Yk)
 |bself (b:Yk)
 |bfnh (f:Y6) (b:Yk)
 |trowh (b:Yk)
 |tptrh (b:Yk) (ks:Ya Yk) (o:Yk)
 |nilc
 |nils
 |lsome (e:Ty)
 |junk
inductive BT where
 |cells (t:Yq) (l:Ya CT)
 |row (t:Yq) (e:Ty)
 |map (t:Yq) (k v:Ty) (vg:Ys)
 |mat (t et:Yq) (e:Ty)
 |tree (t:Yq) (e:OT)
 |fmap (t:Yq) (l:Ya (Ya Yl×(Y6×Yk)))
@[reducible] def WayT:Ya Yk->Type
 |[]=>Yk
 |_::r=>Yk×WayT r
@[reducible] def CT.dens:Ya CT->Type
 |[]=>Unit
 |.tptrh _ ks _::r=>WayT ks×CT.dens r
 |.data τ::r=>τ.den×CT.dens r
 |.lsome e::r=>Ya e.den×CT.dens r
 |.ptr _ _::r|.rowh _::r|.fn _ _::r|.maph _::r|.math _::r|.bself _::r|.bfnh _ _::r|.trowh _::r|.nilc::r|.nils::r|.junk::r=>CT.dens r
@[reducible] def ST.dens:Ya (Ys×Ya CT)->Type
 |[]=>Unit
 |t::r=>CT.dens t.2×ST.dens r
@[reducible] def BT.dens:Ya BT->Type
 |[]=>Unit
 |.cells _ l::r=>CT.dens l×BT.dens r
 |.row _ e::r=>Ya e.den×BT.dens r
 |.map _ k v _::r=>Ya (k.den×v.den)×BT.dens r
 |.mat _ _ e::r=>Ya (Ya e.den)×BT.dens r
 |.tree _ e::r=>Ya e.ty.den×BT.dens r
 |.fmap _ _::r=>BT.dens r
structure Spec where
 params:Ya (Ys×Ya CT)
 ins:Ya BT
 res:Ya (Ys×Ya CT)
 outs:Ya BT
 run:{β:Type}->ST.dens params×BT.dens ins->(ST.dens res×BT.dens outs->Yb β)->Yb β
structure RowF where
 t:Yq
 e:Ty
 cut:Ys
 dom:Ya e.den->Ys
 run:Ya e.den->Ya e.den
 fn:Yb Y6:=Ye
def RowF.extra(F:RowF):Ya Yp:=match F.fn with|none=>[]|some g=>[.func (.func g) #[] #[]]
structure BldF where
 t:Yq
 te:Yq
 op:Yk
structure AbsF where
 run:{β:Type}->(Yk->Yb Blk)->Yk->Ya V->(V->Ya Yk->Ya (Yk×Blk)->Yb β)->Yb β
inductive Fun where
 |spec (S:Spec)
 |rows (F:RowF)
 |bld (F:BldF)
 |abs (A:AbsF)
structure Ctx where
 T:Yq->Yb TI
 Γ:Y6->Yb Fun
 M:Ys
 R:Ys
 D:Ys
 S:Ys
 O:Ya (Yq×OT)
 A:Yb (Ya Yk)
 N:Yk
 L:Ya (Yq×Ya Yk)
def memB(x:Yk):Ya Yk->Ys
 |[]=>Yc
 |y::r=>Ym x y||memB x r
def JI:Ya Yk->Ys
 |[]=>Yo
 |x::r=>!memB x r&&JI r
def cells:(τ:Ty)->τ.den->Ya C
 |.bool,b=>[.bool b]
 |.int k,n=>[.int k n]
 |.str,s=>[.str s]
 |.err,b=>[.err b]
 |.unit,_=>[]
 |.prod a b,x=>cells a x.1++cells b x.2
 |.slice e,l=>[.list e l]
def G6(bl:Yk->Yb Blk)(b ver:Yk)(e:Ty):Yb (Ya e.den):=
 match bl b with
 |some (.row _ e' ver' l)=>bif Ym ver ver' then(if h:e'=e then Yd (h▸l)else Ye)else Ye
 |_=>Ye
def Jk:(o:OT)->o.ty.den->Yk->Path->Yb EF
 |.d _,_,_,_=>Ye
 |.p a b,x,k,p=>bif Yz k a.ty.size then Jk a x.1 k p else Jk b x.2 (k-a.ty.size) p
 |.r t e,l,0,[]=>Yd ⟨(t,e),l⟩
 |.r _ e,l,0,(i,k)::p=>Jk e ((l:Ya e.ty.den).getD i e.ty.dflt) k p
 |.r _ _,_,_+1,_=>Ye
def setD:(o:OT)->o.ty.den->Yk->Path->(e':OT)->Ya e'.ty.den->o.ty.den
 |.d _,x,_,_,_,_=>x
 |.p a b,x,k,p,e',y=>bif Yz k a.ty.size then(setD a x.1 k p e' y,x.2)else(x.1,setD b x.2 (k-a.ty.size) p e' y)
 |.r _ e,l,0,[],e',y=>if h:e'=e then(h▸y:Ya e.ty.den)else l
 |.r _ e,l,0,(i,k)::p,e',y=>(YG l i (setD e ((l:Ya e.ty.den).getD i e.ty.dflt) k p e' y):Ya e.ty.den)
 |.r _ _,l,_+1,_,_,_=>l
def PR(b ver:Yk)(p:Path)(i:Yk):Yk->(o:OT)->o.ty.den->Ya C
 |_,.d τ,x=>cells τ x
 |k,.p a c,x=>PR b ver p i k a x.1++PR b ver p i (k+a.ty.size) c x.2
 |k,.r _ _,_=>[.trow b ver (p++[(i,k)])]
def PS(bl:Yk->Yb Blk)(b ver:Yk)(p:Path):Yb ((te:Yq×OT)×(Ya te.2.ty.den×(Yk×(Yk×EF)))):=
 match bl b with
 |some (.tree t e ver' Am Ye l)=>
  bif Ym ver (tv ver' Am p)then
   match Jk (.r t e) l 0 p with
   |some n=>Yd ⟨(t,e),l,ver',Am,n⟩
   |none=>Ye
  else Ye
 |_=>Ye
def Sp(bl:Yk->Yb Blk)(b ver:Yk)(e:Ty):Yb (Ya e.den):=
 match bl b with
 |some (.tree _ o ver' _ Ye l)=>bif Ym ver ver' then(if h:o.ty=e then Yd (h▸l)else Ye)else Ye
 |_=>Ye
def pack(bl:Yk->Yb Blk):(τ:Ty)->Ya C->Yb (τ.den×Ya C)
 |.bool,.bool b::r=>Yd (b,r)
 |.int k,.int k' n::r=>if k=k' then Yd (n,r)else Ye
 |.str,.str s::r=>Yd (s,r)
 |.err,.err b::r=>Yd (b,r)
 |.unit,r=>Yd ((),r)
 |.prod a b,r=>
  match pack bl a r with
  |none=>Ye
  |some (x,r1)=>
   match pack bl b r1 with
   |none=>Ye
   |some (y,r2)=>Yd ((x,y),r2)
 |.slice e,.nils::r=>Yd (([]:Ya e.den),r)
 |.slice e,.list e' l::r=>if h:e'=e then Yd ((h▸l:Ya e.den),r)else Ye
 |.slice e,.row b ver::r=>
  match G6 bl b ver e with
  |none=>Ye
  |some l=>Yd (l,r)
 |.slice e,.sub b ver i j::r=>
  match G6 bl b ver e with
  |none=>Ye
  |some l=>Yd ((l.take j).drop i,r)
 |.slice e,.trow b ver []::r=>
  match Sp bl b ver e with
  |none=>Ye
  |some l=>Yd (l,r)
 |_,_=>Ye
def Kp(bl:Yk->Yb Blk)(τ:Ty)(cs:Ya C):Yb τ.den:=
 match pack bl τ cs with
 |some (x,[])=>Yd x
 |_=>Ye
def Cx:Ya C->Ya Yk
 |[]=>[]
 |.row b _::r=>b::Cx r
 |.sub b _ _ _::r=>b::Cx r
 |.mat b _::r=>b::Cx r
 |.trow b _ _::r=>b::Cx r
 |_::r=>Cx r
def V.cells:V->Yb (Ya C)
 |.c x=>Yd [x]
 |.agg cs=>Yd cs
 |_=>Ye
def V.mk(agg:Ys)(cs:Ya C):V:=
 bif agg then .agg cs else
  match cs with
  |[x]=>.c x
  |_=>.junk
def C.ofValue:Yp->Yb C
 |.bool b=>Yd (.bool b)
 |.int k n=>Yd (.int k n)
 |.string s=>Yd (.str s.data.toList)
 |.slice Ye 0 0=>Yd .nils
 |.pointer Ye=>Yd .nilp
 |.nilFunc=>Yd .nilfn
 |.nilIface=>Yd (.err Yo)
 |_=>Ye
def C.ofValues:Ya Yp->Yb (Ya C)
 |[]=>Yd []
 |v::r=>
  match C.ofValue v,C.ofValues r with
  |some x,Yd xs=>Yd (x::xs)
  |_,_=>Ye
def V.ofValue:Yp->V
 |.agg cs=>
  match C.ofValues cs.toList with
  |some l=>.agg l
  |none=>.junk
 |v=>
  match C.ofValue v with
  |some x=>.c x
  |none=>.junk
def over:Ya C->Yk->Ya C->Yb (Ya C)
 |cs,0,new=>bif YB new.length cs.length then Yd (new++cs.drop new.length)else Ye
 |[],_+1,_=>Ye
 |c::cs,o+1,new=>
  match over cs o new with
  |some r=>Yd (c::r)
  |none=>Ye
def sub(cs:Ya C)(o n:Yk):Yb (Ya C):=
 bif YB (o+n) cs.length then Yd ((cs.drop o).take n)else Ye
def ival:V->Yb (YP×Yi)
 |.c (.int k n)=>Yd (k,n)
 |_=>Ye
section
variable{β:Type}
abbrev K(β:Type):=V->Ya Yk->Ya (Yk×Blk)->Yb β
def CV(c:Ys)(x:Yb β):Yb β:=Yr c x Ye
def JJ(op:Ya4)(k:YP)(a b:Yi):Yi:=
 match op with
 |.and=>k.wrap ((Yad k.bits a&&&Yad k.bits b).toNat:Yi)
 |.or=>k.wrap ((Yad k.bits a|||Yad k.bits b).toNat:Yi)
 |.xor=>k.wrap ((Yad k.bits a ^^^ Yad k.bits b).toNat:Yi)
 |_=>k.wrap ((Yad k.bits a&&&~~~Yad k.bits b).toNat:Yi)
def MN(op:Ya4)(k:YP)(a b:Yi):Yi:=
 match op with
 |.shl=>k.wrap (a*2^(min b.toNat k.bits))
 |_=>a.fdiv (2^(min b.toNat k.bits))
def dW:Ya4->Ys
 |.shl|.shr=>Yo
 |_=>Yc
def zG(op:Ya4)(k:YP)(a b:Yi)(kk:K β):Yb β:=
 match op with
 |.add=>kk (.c (.int k (k.wrap (a+b)))) [] []
 |.sub=>kk (.c (.int k (k.wrap (a-b)))) [] []
 |.mul=>kk (.c (.int k (k.wrap (a*b)))) [] []
 |.quo=>CV (!Yf (b=0)) (kk (.c (.int k (k.wrap (a.tdiv b)))) [] [])
 |.rem=>CV (!Yf (b=0)) (kk (.c (.int k (a.tmod b))) [] [])
 |.eql=>kk (.c (.bool (Yf (a=b)))) [] []
 |.neq=>kk (.c (.bool (!Yf (a=b)))) [] []
 |.lss=>kk (.c (.bool (Yf (a<b)))) [] []
 |.leq=>kk (.c (.bool (Yf (a<=b)))) [] []
 |.gtr=>kk (.c (.bool (Yf (b<a)))) [] []
 |.geq=>kk (.c (.bool (Yf (b<=a)))) [] []
 |.and=>kk (.c (.int k (JJ .and k a b))) [] []
 |.or=>kk (.c (.int k (JJ .or k a b))) [] []
 |.xor=>kk (.c (.int k (JJ .xor k a b))) [] []
 |.andNot=>kk (.c (.int k (JJ .andNot k a b))) [] []
 |_=>Ye
def zH(op:Ya4)(a b:Ya Yl)(kk:K β):Yb β:=
 match op with
 |.add=>CV (Yf (a.length+b.length<=9223372036854775807)) (kk (.c (.str (a++b))) [] [])
 |.eql=>kk (.c (.bool (Yf (a=b)))) [] []
 |.neq=>kk (.c (.bool (!Yf (a=b)))) [] []
 |.lss=>kk (.c (.bool (Yy a b))) [] []
 |.leq=>kk (.c (.bool (Yy a b||Yf (a=b)))) [] []
 |.gtr=>kk (.c (.bool (!(Yy a b||Yf (a=b))))) [] []
 |.geq=>kk (.c (.bool (!Yy a b))) [] []
 |_=>Ye
def Cm:Ya BK->Ya C->Ya C->Yb Ys
 |[],[],[]=>Yd Yo
 |.b::k,.bool a::r,.bool b::s=>
  match Cm k r s with
  |some q=>Yd ((a==b)&&q)
  |none=>Ye
 |.i::k,.int ka a::r,.int kb b::s=>
  if ka=kb then
   match Cm k r s with
   |some q=>Yd (Yf (a=b)&&q)
   |none=>Ye
  else Ye
 |.s::k,.str a::r,.str b::s=>
  match Cm k r s with
  |some q=>Yd (Yf (a=b)&&q)
  |none=>Ye
 |_,_,_=>Ye
def Wn(T:Yq->Yb TI)(op:Ya4)(t:Yq)(b:Ys)(kk:K β):Yb β:=
 match T t with
 |some ti=>
  match ti.elem,ti.len,op with
  |some _,Ye,.eql=>kk (.c (.bool b)) [] []
  |some _,Ye,.neq=>kk (.c (.bool (!b))) [] []
  |_,_,_=>Ye
 |none=>Ye
def dX(T:Yq->Yb TI)(op:Ya4)(t:Yq)(x y:V)(kk:K β):Yb β:=
 match x,y with
 |.c (.int k a),.c (.int k' b)=>
  bif dW op then CV (Yf (0<=b)) (kk (.c (.int k (MN op k a b))) [] [])else
  if k=k' then zG op k a b kk else Ye
 |.c (.str a),.c (.str b)=>zH op a b kk
 |.c (.bool a),.c (.bool b)=>
  match T t with
  |some ti=>
   bif ti.isBool then
    match op with
    |.eql=>kk (.c (.bool (a==b))) [] []
    |.neq=>kk (.c (.bool (!(a==b)))) [] []
    |_=>Ye
   else Ye
  |none=>Ye
 |.agg a,.agg b=>
  match T t with
  |some ti=>
   match ti.eqs with
   |some ks=>
    match op,Cm ks a b with
    |.eql,Yd r=>kk (.c (.bool r)) [] []
    |.neq,Yd r=>kk (.c (.bool (!r))) [] []
    |_,_=>Ye
   |none=>Ye
  |none=>Ye
 |.c .nilc,.c .nils=>Wn T op t Yo kk
 |.c (.lsome _ _),.c .nils=>Wn T op t Yc kk
 |_,_=>Ye
def dY(T:Yq->Yb TI)(op:Ya4)(t:Yq)(b:Ys)(kk:K β):Yb β:=
 match T t with
 |some ti=>
  match ti.ty,ti.agg,op with
  |some .err,Yc,.eql=>kk (.c (.bool b)) [] []
  |some .err,Yc,.neq=>kk (.c (.bool (!b))) [] []
  |_,_,_=>Ye
 |none=>Ye
def Wo(T:Yq->Yb TI)(op:Ya4)(t:Yq)(b:Ys)(kk:K β):Yb β:=
 match T t with
 |some ti=>
  match ti.ptr,op with
  |true,.eql=>kk (.c (.bool b)) [] []
  |true,.neq=>kk (.c (.bool (!b))) [] []
  |_,_=>Ye
 |none=>Ye
def dZ(T:Yq->Yb TI)(op:Ya4)(t:Yq)(x y:V)(yo:Y0)(kk:K β):Yb β:=
 match x,yo with
 |.c (.err b),.const .nilIface=>dY T op t b kk
 |.c .nilp,.const (.pointer Ye)=>Wo T op t Yo kk
 |.c (.tptr _ _ _ _ _),.const (.pointer Ye)=>Wo T op t Yc kk
 |_,_=>dX T op t x y kk
def MO(cells:Ya C):Ya (Yk×Ya C)->Yb (Ya C)
 |[]=>Yd cells
 |(o,new)::r=>
  match over cells o new with
  |some cs=>MO cs r
  |none=>Ye
def Hj(ti:TI)(T:Yq->Yb TI):Ya (Yk×V)->Yb (Ya (Yk×Ya C))
 |[]=>Yd []
 |(i,v)::r=>
  match v.cells,Hj ti T r with
  |some cs,Yd B5=>
   match ti.len,ti.elem with
   |some _,Yd e=>
    match T e with
    |some te=>bif Ym cs.length te.size then Yd ((i*te.size,cs)::B5)else Ye
    |none=>Ye
   |_,_=>
    match ti.flds[i]? with
    |some (o,n,_)=>bif Ym cs.length n then Yd ((o,cs)::B5)else Ye
    |none=>Ye
  |_,_=>Ye
def repC(n:Yk)(cs:Ya C):Ya C:=
 match n with
 |0=>[]
 |n+1=>cs++repC n cs
def JK(bl:Yk->Yb Blk)(e:Ty):Yk->Ya C->Yb (Ya e.den)
 |0,[]=>Yd []
 |0,_::_=>Ye
 |n+1,cs=>
  match pack bl e cs with
  |some (x,r)=>
   match JK bl e n r with
   |some l=>Yd (x::l)
   |none=>Ye
  |none=>Ye
def PT(T:Yq->Yb TI)(bl:Yk->Yb Blk)(t:Yq)(p:V)(kk:K β):Yb β:=
 match T t with
 |none=>Ye
 |some ti=>
  bif ti.agg||Ym ti.size 1 then
  match p with
  |.c (.ptr b o)=>
   match bl b with
   |some (.cells _ cs)=>
    match sub cs o ti.size with
    |some r=>kk (V.mk ti.agg r) [b] []
    |none=>Ye
   |_=>Ye
  |.eptr b ver i o=>
   match bl b with
   |some (.row _ e ver' l)=>
    bif Ym ver ver' then
     match sub (cells e (l.getD i e.dflt)) o ti.size with
     |some r=>kk (V.mk ti.agg r) [b] []
     |none=>Ye
    else Ye
   |_=>Ye
  |.lptr e x o=>
   match sub (cells e x) o ti.size with
   |some r=>kk (V.mk ti.agg r) [] []
   |none=>Ye
  |.c (.tptr b ver p i o)=>
   match PS bl b ver p with
   |some a=>
    match sub (PR b (a.2.2.1+a.2.2.2.1) p i 0 a.2.2.2.2.1.2 (a.2.2.2.2.2.getD i a.2.2.2.2.1.2.ty.dflt)) o ti.size with
    |some r=>kk (V.mk ti.agg r) [b] []
    |none=>Ye
   |none=>Ye
  |.hptr b o=>
   match bl b with
   |some (.crow _ _ _ cs)=>
    match sub cs o ti.size with
    |some r=>kk (V.mk ti.agg r) [b] []
    |none=>Ye
   |_=>Ye
  |_=>Ye
  else Ye
def Lc:(o:OT)->o.ty.den->Yk->Ya C->Yb o.ty.den
 |.d τ,x,k,new=>
  match over (cells τ x) k new with
  |some r=>Kp (λ_=>Ye) τ r
  |none=>Ye
 |.p a b,x,k,new=>
  bif YB (k+new.length) a.ty.size then
   match Lc a x.1 k new with
   |some y=>Yd (y,x.2)
   |none=>Ye
  else bif YB a.ty.size k then
   match Lc b x.2 (k-a.ty.size) new with
   |some y=>Yd (x.1,y)
   |none=>Ye
  else Ye
 |.r _ _,_,_,_=>Ye
def Sq(bl:Yk->Yb Blk):V->Yb (Yk×EF)
 |.c (.row r rv)=>
  match bl r with
  |some (.row t e ver l)=>bif Ym rv ver then Yd (r,⟨(t,.d e),l⟩)else Ye
  |_=>Ye
 |.c (.trow r rv [])=>
  match bl r with
  |some (.tree t e ver _ Ye l)=>bif Ym rv ver then Yd (r,⟨(t,e),l⟩)else Ye
  |_=>Ye
 |_=>Ye
def Wp:Path->Path->Ys
 |[],[]=>Yo
 |(i,k)::p,(j,m)::q=>decide (i=j)&&(Ym k m&&Wp p q)
 |_,_=>Yc
def MP(T:Yq->Yb TI)(bl:Yk->Yb Blk)(t:Yq)(p v:V)(kk:K β):Yb β:=
 match T t,v.cells with
 |some ti,Yd new=>
  bif Ym new.length ti.size then
   match p with
   |.c (.ptr b o)=>
    match bl b with
    |some (.cells t0 cs)=>
     match over cs o new with
     |some r=>kk .junk [b] [(b,.cells t0 r)]
     |none=>Ye
    |_=>Ye
   |.hptr b o=>
    match bl b with
    |some (.crow t0 e m cs)=>
     match over cs o new with
     |some r=>kk .junk [b] [(b,.crow t0 e m r)]
     |none=>Ye
    |_=>Ye
   |.eptr b ver i o=>
    match bl b with
    |some (.row t0 e ver' l)=>
     bif Ym ver ver' then
      match over (cells e (l.getD i e.dflt)) o new with
      |some r=>
       match Kp (λ_=>Ye) e r with
       |some x=>kk .junk [b] [(b,.row t0 e ver' (l.set i x))]
       |none=>Ye
      |none=>Ye
     else Ye
    |_=>Ye
   |.c (.tptr b ver p i o)=>
    match bl b with
    |some (.tree t0 e ver' Am Ye l)=>
     bif Ym ver (tv ver' Am p)then
      match Jk (.r t0 e) l 0 p with
      |some n=>
       match Lc n.1.2 (n.2.getD i n.1.2.ty.dflt) o new with
       |some x=>kk .junk [b] [(b,.tree t0 e ver' Am Ye (setD (.r t0 e) l 0 p n.1.2 (n.2.set i x)))]
       |none=>Ye
      |none=>Ye
     else Ye
    |some (.tree t0 e ver' Am (Yd P) l)=>
     bif Ym ver (tv ver' Am p)then
      match Jk (.r t0 e) l 0 P,Sq bl v with
      |some n,Yd (r,m)=>
       if m.1=n.1 then CV (Wp P (p++[(i,o)])) (kk .junk [b,r] [(r,.dead),(b,.tree t0 e ver' (Am+1) Ye (setD (.r t0 e) l 0 P m.1.2 m.2))])else Ye
      |_,_=>Ye
     else Ye
    |_=>Ye
   |_=>Ye
  else Ye
 |_,_=>Ye
def zI(bl:Yk->Yb Blk)(b:Yk):Ys:=
 match bl b with
 |some (.tree _ _ _ _ (Yd _) _)=>Yo
 |_=>Yc
def eA(T:Yq->Yb TI)(t:Yq)(p:V)(f:Yk)(kk:K β):Yb β:=
 match T t with
 |none=>Ye
 |some ti=>
  match ti.flds[f]? with
  |none=>Ye
  |some (off,n,_)=>
   bif Ym n 0 then Ye else
   match p with
   |.c (.ptr b o)=>kk (.c (.ptr b (o+off))) [] []
   |.eptr b ver i o=>kk (.eptr b ver i (o+off)) [] []
   |.lptr e x o=>kk (.lptr e x (o+off)) [] []
   |.c (.tptr b ver p i o)=>kk (.c (.tptr b ver p i (o+off))) [] []
   |.hptr b o=>kk (.hptr b (o+off)) [] []
   |_=>Ye
def PU(i:Yi)(kk:Yk->Yb β):Yk->Yk->Yb β
 |_,0=>Ye
 |j,m+1=>Yr (Yf (i=(j:Yi))) (kk j) (PU i kk (j+1) m)
def zJ(bl:Yk->Yb Blk)(n:Yk)(b ver:Yk)(p:Path)(i:Yi)(kk:K β):Yb β:=
 match p,bl b with
 |[],Yd (.tree _ e ver' _ (Yd (_::_)) l)=>
  bif Ym ver ver'&&(Ym e.ty.size n&&Yz 0 n)then CV (Yf (0<=i)&&Yf (i<(l.length:Yi))) (kk (.c (.tptr b ver [] i.toNat 0)) [b] [])else Ye
 |_,_=>Ye
def eB(T:Yq->Yb TI)(bl:Yk->Yb Blk)(t:Yq)(x ix:V)(kk:K β):Yb β:=
 match ival ix with
 |none=>Ye
 |some (_,i)=>
  match T t with
  |none=>Ye
  |some ti=>
   match ti.elem,ti.len with
   |some et,Ye=>
    match T et with
    |none=>Ye
    |some te=>
     match x with
     |.c (.list e l)=>
      bif Ym e.size te.size&&Yz 0 te.size then CV (Yf (0<=i)&&Yf (i<(l.length:Yi))) (kk (.lptr e (l.getD i.toNat e.dflt) 0) [] [])else Ye
     |.c (.row b ver)=>
      match bl b with
      |some (.row _ e ver' l)=>
       bif Ym ver ver'&&(Ym e.size te.size&&Yz 0 te.size)then CV (Yf (0<=i)&&Yf (i<(l.length:Yi))) (kk (.eptr b ver i.toNat 0) [b] [])else Ye
      |_=>Ye
     |.c (.sub b ver lo hi)=>
      match bl b with
      |some (.row _ e ver' _)=>
       bif Ym ver ver'&&(Ym e.size te.size&&Yz 0 te.size)then CV (Yf (0<=i)&&Yf (i<((hi-lo:Yk):Yi))) (kk (.eptr b ver (lo+i.toNat) 0) [b] [])else Ye
      |_=>Ye
     |.c (.trow b ver p)=>
      match PS bl b ver p with
      |some a=>bif Ym a.2.2.2.2.1.2.ty.size te.size&&Yz 0 te.size then CV (Yf (0<=i)&&Yf (i<(a.2.2.2.2.2.length:Yi))) (kk (.c (.tptr b ver p i.toNat 0)) [b] [])else Ye
      |none=>zJ bl te.size b ver p i kk
     |.c (.hrow b)=>
      match bl b with
      |some (.crow _ e m _)=>bif Ym e.size te.size&&Yz 0 te.size then CV (Yf (0<=i)&&Yf (i<(m:Yi))) (kk (.hptr b (i.toNat*e.size)) [b] [])else Ye
      |_=>Ye
     |_=>Ye
   |some et,Yd n=>
    match x with
    |.c (.ptr b o)=>
     match T et with
     |some te=>PU i (λj=>kk (.c (.ptr b (o+j*te.size))) [] []) 0 n
     |none=>Ye
    |.eptr b ver q o=>
     match T et with
     |some te=>PU i (λj=>kk (.eptr b ver q (o+j*te.size)) [] []) 0 n
     |none=>Ye
    |_=>Ye
   |_,_=>Ye
def IF(v:Yb V)(d:Yi):Yb Yi:=
 match v with
 |none=>Yd d
 |some v=>
  match ival v with
  |some (_,n)=>Yd n
  |none=>Ye
def Sr(T:Yq->Yb TI)(bl:Yk->Yb Blk)(t:Yq)(x:V)(lo hi:Yb V)(kk:K β):Yb β:=
 match T t with
 |none=>Ye
 |some ti=>
  match x with
  |.c (.str s)=>
   bif ti.isStr then
    match IF lo 0,IF hi (s.length:Yi)with
    |some a,Yd b=>CV (Yf (0<=a)&&(Yf (a<=b)&&Yf (b<=(s.length:Yi)))) (kk (.c (.str ((s.take b.toNat).drop a.toNat))) [] [])
    |_,_=>Ye
   else Ye
  |.c (.list e l)=>
   match ti.elem,ti.len with
   |some et,Ye=>
    match T et with
    |none=>Ye
    |some te=>
     bif Ym e.size te.size&&Yz 0 te.size then
      match IF lo 0,IF hi (l.length:Yi)with
      |some a,Yd b=>CV (Yf (0<=a)&&(Yf (a<=b)&&Yf (b<=(l.length:Yi)))) (kk (.c (.list e ((l.take b.toNat).drop a.toNat))) [] [])
      |_,_=>Ye
     else Ye
   |_,_=>Ye
  |.c (.row bb ver)=>
   match ti.elem,ti.len with
   |some et,Ye=>
    match T et with
    |none=>Ye
    |some te=>
     match bl bb with
     |some (.row _ e ver' l)=>
      bif Ym ver ver'&&(Ym e.size te.size&&Yz 0 te.size)then
       match IF lo 0,IF hi (l.length:Yi)with
       |some a,Yd b=>CV (Yf (0<=a)&&(Yf (a<=b)&&Yf (b<=(l.length:Yi)))) (kk (.c (.sub bb ver a.toNat b.toNat)) [bb] [])
       |_,_=>Ye
      else Ye
     |_=>Ye
   |_,_=>Ye
  |.c (.sub bb ver i j)=>
   match ti.elem,ti.len with
   |some et,Ye=>
    match T et with
    |none=>Ye
    |some te=>
     match bl bb with
     |some (.row _ e ver' _)=>
      bif Ym ver ver'&&(Ym e.size te.size&&Yz 0 te.size)then
       match IF lo 0,IF hi ((j-i:Yk):Yi)with
       |some a,Yd b=>CV (Yf (0<=a)&&(Yf (a<=b)&&Yf (b<=((j-i:Yk):Yi)))) (kk (.c (.sub bb ver (i+a.toNat) (i+b.toNat))) [bb] [])
       |_,_=>Ye
      else Ye
     |_=>Ye
   |_,_=>Ye
  |.c (.ptr b o)=>
   match ti.elem,ti.len,lo,hi with
   |some et,Yd n,Ye,Ye=>
    match T et with
    |none=>Ye
    |some te=>
     match te.ty with
     |some e=>bif Ym e.size te.size&&Yz 0 n then kk (.arr b o e n) [] []else Ye
     |none=>Ye
   |_,_,_,_=>Ye
  |.c .nils=>
   match ti.elem,ti.len with
   |some et,Ye=>
    match T et with
    |none=>Ye
    |some _=>
     match IF lo 0,IF hi 0 with
     |some a,Yd b=>CV (Yf (0<=a)&&(Yf (a<=b)&&Yf (b<=(0:Yi)))) (kk (.c .nils) [] [])
     |_,_=>Ye
   |_,_=>Ye
  |_=>Ye
def eC(T:Yq->Yb TI)(bl:Yk->Yb Blk)(t:Yq)(x:V)(hi:Yb V)(kk:K β):Yb β:=
 match T t with
 |none=>Ye
 |some ti=>
  match ti.elem,ti.len with
  |some et,Ye=>
   match T et with
   |none=>Ye
   |some te=>
    match x with
    |.c (.row b ver)=>
     match bl b with
     |some (.row t0 e ver' l)=>
      bif Ym ver ver'&&(Ym e.size te.size&&Yz 0 te.size)then
       match IF hi (l.length:Yi)with
       |some m=>CV (Yf (0<=m)&&Yf (m<=(l.length:Yi))) (kk (.c (.row b (ver+1))) [b] [(b,.row t0 e (ver+1) (l.take m.toNat))])
       |none=>Ye
      else Ye
     |_=>Ye
    |_=>Ye
  |_,_=>Ye
def Wq:V->Ys
 |.c (.row _ _)=>Yo
 |_=>Yc
def IG(ti:TI):Ys:=
 match ti.elem,ti.len with
 |some _,Ye=>Yo
 |_,_=>Yc
def eD(T:Yq->Yb TI)(bl:Yk->Yb Blk)(t:Yq)(x:V)(kk:K β):Yb β:=
 match T t with
 |none=>Ye
 |some ti=>
  match x with
  |.c (.str s)=>bif ti.isStr then kk (.c (.int .i64 (s.length:Yi))) [] []else Ye
  |.c (.list _ l)=>bif IG ti then kk (.c (.int .i64 (l.length:Yi))) [] []else Ye
  |.c .nils=>bif IG ti then kk (.c (.int .i64 0)) [] []else Ye
  |.c (.row b ver)=>
   match bl b with
   |some (.row _ _ ver' l)=>bif Ym ver ver'&&IG ti then kk (.c (.int .i64 (l.length:Yi))) [b] []else Ye
   |_=>Ye
  |.c (.sub b ver i j)=>
   match bl b with
   |some (.row _ _ ver' _)=>bif Ym ver ver'&&IG ti then kk (.c (.int .i64 ((j-i:Yk):Yi))) [b] []else Ye
   |_=>Ye
  |.c (.trow b ver p)=>
   match PS bl b ver p with
   |some a=>bif IG ti then kk (.c (.int .i64 (a.2.2.2.2.2.length:Yi))) [b] []else Ye
   |none=>Ye
  |.c (.hrow b)=>
   match bl b with
   |some (.crow _ _ m _)=>bif IG ti then kk (.c (.int .i64 (m:Yi))) [b] []else Ye
   |_=>Ye
  |.c (.mapv b)=>
   match bl b,ti.mp with
   |some (.map _ _ _ _ l),Yd _=>kk (.c (.int .i64 (l.length:Yi))) [b] []
   |_,_=>Ye
  |_=>Ye
def FK(tk:TI):Ty->Ys
 |.bool=>tk.isBool
 |.int k=>decide (tk.kind=Yd k)
 |.str=>tk.isStr
 |.prod (.int _) (.int _)=>
  match tk.eqs,tk.len with
  |some [.i,.i],Yd 2=>Yo
  |_,_=>Yc
 |_=>Yc
def Hk:(k:Ty)->k.den->k.den->Ys
 |.bool,a,b=>a==b
 |.int _,a,b=>decide (a=b)
 |.str,a,b=>decide (a=b)
 |.prod (.int _) (.int _),a,b=>decide (a.1=b.1)&&Yf (a.2=b.2)
 |_,_,_=>Yc
def Jl:(k:Ty)->V->Yb k.den
 |.bool,.c (.bool b)=>Yd b
 |.int k,.c (.int k' n)=>if k=k' then Yd n else Ye
 |.str,.c (.str s)=>Yd s
 |.prod (.int k) (.int k2),.agg [.int j n,.int j2 n2]=>if k=j/\k2=j2 then Yd (n,n2)else Ye
 |_,_=>Ye
def mGet(k:Ty){δ:Type}:Ya (k.den×δ)->k.den->δ->δ
 |[],_,d=>d
 |y::r,x,d=>bif Hk k y.1 x then y.2 else mGet k r x d
def mHas(k:Ty){δ:Type}:Ya (k.den×δ)->k.den->Ys
 |[],_=>Yc
 |y::r,x=>bif Hk k y.1 x then Yo else mHas k r x
def mPut(k:Ty){δ:Type}:Ya (k.den×δ)->k.den->δ->Ya (k.den×δ)
 |[],x,v=>[(x,v)]
 |y::r,x,v=>bif Hk k y.1 x then(x,v)::r else y::mPut k r x v
def eE(T:Yq->Yb TI)(ti:TI)(cs:Ya C)(i:Yi)(kk:K β):Yb β:=
 match ti.elem,ti.len with
 |some et,Yd n=>
  match T et with
  |some te=>
   match te.ty with
   |some e=>
    match JK (λ_=>Ye) e n cs with
    |some l=>bif Ym e.size te.size&&(te.agg||Ym te.size 1)then CV (Yf (0<=i)&&Yf (i<(l.length:Yi))) (kk (V.mk te.agg (cells e (l.getD i.toNat e.dflt))) [] [])else Ye
    |none=>Ye
   |none=>Ye
  |none=>Ye
 |_,_=>Ye
def eG(T:Yq->Yb TI)(bl:Yk->Yb Blk)(nx:Yk)(t:Yq)(kk:K β):Yb β:=
 match T t with
 |none=>Ye
 |some ti=>
  match ti.mp with
  |none=>Ye
  |some (kt,vt)=>
   match T kt,T vt with
   |some tk,Yd tv=>
    match tk.ty,tv.ty,bl nx with
    |some .str,Ye,Ye=>kk (.c (.mapv nx)) [nx] [(nx,.fmap t [])]
    |some k,Yd v,Ye=>bif FK tk k then kk (.c (.mapv nx)) [nx] [(nx,.map t k v tv.agg [])]else Ye
    |_,_,_=>Ye
   |_,_=>Ye
def fHas:Ya (Ya Yl×(Y6×Yk))->Ya Yl->Ys
 |[],_=>Yc
 |x::r,s=>decide (x.1=s)||fHas r s
def Oc(kk:Y6×Yk->Yb β):Ya (Ya Yl×(Y6×Yk))->Ya Yl->Yb β
 |[],_=>Ye
 |x::r,s=>Yr (Yf (x.1=s)) (kk x.2) (Oc kk r s)
def fKey(T:Yq->Yb TI)(t:Yq):Ys:=
 match T t with
 |some ti=>
  match ti.mp with
  |some (kt,_)=>
   match T kt with
   |some tk=>FK tk .str
   |none=>Yc
  |none=>Yc
 |none=>Yc
def eH(T:Yq->Yb TI)(bl:Yk->Yb Blk)(t:Yq)(x ix:V)(commaOk:Ys)(kk:K β):Yb β:=
 bif fKey T t then
 match x,ix,commaOk with
 |.c (.mapv b),.c (.str s),Yc=>
  match bl b with
  |some (.fmap _ l)=>Oc (λy=>kk (.c (.bfn y.1 y.2)) [b] []) l s
  |_=>Ye
 |_,_,_=>Ye
 else Ye
def eI(T:Yq->Yb TI)(bl:Yk->Yb Blk)(t:Yq)(x ix y:V)(kk:K β):Yb β:=
 bif fKey T t then
 match x,ix,y with
 |.c (.mapv b),.c (.str s),.c (.bfn f rb)=>
  match bl b with
  |some (.fmap t l)=>CV (!fHas l s) (kk .junk [b] [(b,.fmap t (l++[(s,(f,rb))]))])
  |_=>Ye
 |_,_,_=>Ye
 else Ye
def zK(bl:Yk->Yb Blk):V->Ys
 |.c (.mapv b)=>
  match bl b with
  |some (.fmap _ _)=>Yo
  |_=>Yc
 |_=>Yc
def eJ(T:Yq->Yb TI)(bl:Yk->Yb Blk)(t:Yq)(x ix:V)(commaOk:Ys)(kk:K β):Yb β:=
 match T t with
 |none=>Ye
 |some ti=>
  match ti.mp with
  |none=>Ye
  |some (kt,vt)=>
   match T kt,T vt with
   |some tk,Yd tv=>
    match x with
    |.c (.mapv b)=>
     match bl b with
     |some (.map _ k v vg l)=>
      bif FK tk k&&(vg||Ym v.size 1)&&(vg==tv.agg)then
       match Jl k ix,Kp (λ_=>Ye) v tv.zero with
       |some key,Yd z=>
        kk (bif commaOk then .tup [(vg,cells v (mGet k l key z)),(Yc,[.bool (mHas k l key)])]else V.mk vg (cells v (mGet k l key z))) [b] []
       |_,_=>Ye
      else Ye
     |_=>Ye
    |_=>Ye
   |_,_=>Ye
def Ss:V->Yb Ys
 |.c _=>Yd Yc
 |.agg _=>Yd Yo
 |_=>Ye
def eK(T:Yq->Yb TI)(bl:Yk->Yb Blk)(t:Yq)(x ix y:V)(kk:K β):Yb β:=
 match T t with
 |none=>Ye
 |some ti=>
  match ti.mp with
  |none=>Ye
  |some (kt,_)=>
   match T kt with
   |none=>Ye
   |some tk=>
    match x,y.cells with
    |.c (.mapv b),Yd cs=>
     match bl b with
     |some (.map t' k v vg l)=>
      bif FK tk k&&Yf (Ss y=Yd vg)then
       match Jl k ix,Kp (λ_=>Ye) v cs with
       |some key,Yd z=>kk .junk [b] [(b,.map t' k v vg (mPut k l key z))]
       |_,_=>Ye
      else Ye
     |_=>Ye
    |_,_=>Ye
def Cn:Yk:=140737488355328
def PV(bl:Yk->Yb Blk)(e:Ty):V->Yb (Ya e.den×Ya Yk)
 |.c .nils=>Yd ([],[])
 |.c (.list e' l)=>if h:e'=e then Yd (h▸l,[])else Ye
 |.c (.lsome e' l)=>if h:e'=e then Yd (h▸l,[])else Ye
 |.c (.row b ver)=>(G6 bl b ver e).map λl=>(l,[b])
 |.c (.sub b ver i j)=>(G6 bl b ver e).map λl=>((l.take j).drop i,[b])
 |_=>Ye
def eL(T:Yq->Yb TI)(bl:Yk->Yb Blk)(t:Yq)(x y:V)(kk:K β):Yb β:=
 match T t with
 |none=>Ye
 |some ti=>
  match ti.elem,ti.len with
  |some et,Ye=>
   match T et with
   |none=>Ye
   |some te=>
    match te.ty with
    |none=>Ye
    |some e=>
     bif Ym e.size te.size&&Yz 0 te.size then
     match PV bl e y with
     |none=>Ye
     |some (new,rd)=>
      match x with
      |.c (.sub b ver i j)=>
       match bl b with
       |some (.row t0 e0 ver' l)=>
        bif Ym ver ver' then
         if h:e0=e then
          kk (.c (.int .i64 ((YS new.length (j-i):Yk):Yi))) (b::rd) [(b,.row t0 e ver' ((h▸l:Ya e.den).take i++(new.take (j-i)++(h▸l:Ya e.den).drop (i+YS new.length (j-i)))))]
         else Ye
        else Ye
       |_=>Ye
      |.c (.row b ver)=>
       match bl b with
       |some (.row t0 e0 ver' l)=>
        bif Ym ver ver' then
         if h:e0=e then
          kk (.c (.int .i64 ((YS new.length l.length:Yk):Yi))) (b::rd) [(b,.row t0 e ver' (new.take l.length++(h▸l:Ya e.den).drop (YS new.length l.length)))]
         else Ye
        else Ye
       |_=>Ye
      |_=>Ye
     else Ye
  |_,_=>Ye
def eM(T:Yq->Yb TI)(bl:Yk->Yb Blk)(t:Yq)(x:V)(kk:K β):Yb β:=
 match T t with
 |none=>Ye
 |some ti=>
  match ti.elem,ti.len with
  |some et,Ye=>
   match T et with
   |none=>Ye
   |some te=>
    match te.ty with
    |none=>Ye
    |some e=>
     bif Ym e.size te.size&&Yz 0 te.size then
     match Kp (λ_=>Ye) e te.zero with
     |none=>Ye
     |some z=>
      match x with
      |.c (.sub b ver i j)=>
       match bl b with
       |some (.row t0 e0 ver' l)=>
        bif Ym ver ver' then
         if h:e0=e then kk (.tup []) [b] [(b,.row t0 e ver' ((h▸l:Ya e.den).take i++(Y8 (j-i) z++(h▸l:Ya e.den).drop j)))]
         else Ye
        else Ye
       |_=>Ye
      |_=>Ye
     else Ye
  |_,_=>Ye
def eO(T:Yq->Yb TI)(t:Yq)(x:V)(kk:K β):Yb β:=
 match T t with
 |none=>Ye
 |some ti=>
  match ti.elem,ti.len,x with
  |some _,Ye,.c .nils=>kk (.c (.int .i64 0)) [] []
  |_,_,_=>Ye
def eP(T:Yq->Yb TI)(bl:Yk->Yb Blk)(nx:Yk)(t:Yq)(x y:V)(kk:K β):Yb β:=
 match T t with
 |none=>Ye
 |some ti=>
  match ti.elem,ti.len with
  |some et,Ye=>
   match T et with
   |none=>Ye
   |some te=>
    match te.ty with
    |none=>Ye
    |some e=>
     bif Ym e.size te.size&&(Yz 0 te.size&&Yz 0 te.bytes)then
     match PV bl e y with
     |none=>Ye
     |some (new,rd)=>
      match x with
      |.c .nils=>
       match bl nx with
       |none=>CV (Yf (new.length*te.bytes<=Cn)) (kk (.c (.row nx 0)) (nx::rd) [(nx,.row et e 0 new)])
       |some _=>Ye
      |.c (.row b ver)=>
       match bl b with
       |some (.row t0 e0 ver' l)=>
        bif Ym ver ver'&&Ym t0 et then
         if h:e0=e then CV (Yf (((l.length+new.length)*te.bytes)<=Cn)) (kk (.c (.row b (ver+1))) (b::rd) [(b,.row t0 e (ver+1) ((h▸l)++new))])
         else Ye
        else Ye
       |_=>Ye
      |_=>Ye
     else Ye
  |_,_=>Ye
def srcT(bl:Yk->Yb Blk)(t:Yq)(e:OT)(y:V):Yb (Ya e.ty.den×(Ya Yk×Ya Yk)):=
 match e with
 |.d τ=>
  match PV bl τ y with
  |some z=>Yd (z.1,z.2,[])
  |none=>Ye
 |e=>
  match Sq bl y with
  |some (r,m)=>if h:m.1=(t,e)then Yd ((show m.1.2=e from Ai (·.2) h)▸m.2,[r],[r])else Ye
  |none=>Ye
def dead:Ya Yk->Ya (Yk×Blk)
 |[]=>[]
 |i::r=>(i,.dead)::dead r
def Wr:V->Ys
 |.c (.trow _ _ _)=>Yo
 |_=>Yc
def eQ(X:Ya (Yq×OT))(T:Yq->Yb TI)(bl:Yk->Yb Blk)(nx:Yk)(t:Yq)(x y:V)(kk:K β):Yb β:=
 match T t with
 |none=>Ye
 |some ti=>
  match ti.elem,ti.len with
  |some et,Ye=>
   match T et with
   |none=>Ye
   |some te=>
    match x with
    |.c .nils=>
     match look X et with
     |none=>Ye
     |some e=>
      bif Ym e.ty.size te.size&&(Yz 0 te.size&&Yz 0 te.bytes)then
       match srcT bl et e y,bl nx with
       |some (new,rd,dd),Ye=>CV (Yf (new.length*te.bytes<=Cn)) (kk (.c (.trow nx 0 [])) (nx::rd) (dead dd++[(nx,.tree et e 0 0 Ye new)]))
       |_,_=>Ye
      else Ye
    |.c (.trow b ver [])=>
     match bl b with
     |some (.tree t0 e ver' Am Ye l)=>
      bif Ym ver ver'&&(Ym t0 et&&(Ym e.ty.size te.size&&(Yz 0 te.size&&Yz 0 te.bytes)))then
       match srcT bl t0 e y with
       |some (new,rd,dd)=>CV (!memB b rd&&Yf (((l.length+new.length)*te.bytes)<=Cn)) (kk (.c (.trow b (ver'+1) [])) (b::rd) (dead dd++[(b,.tree t0 e (ver'+1) Am Ye (l++new))]))
       |none=>Ye
      else Ye
     |_=>Ye
    |.c (.trow b ver (i::q))=>
     match PS bl b ver (i::q)with
     |none=>Ye
     |some a=>
      bif Ym a.2.2.2.2.1.1 et&&(Ym a.2.2.2.2.1.2.ty.size te.size&&(Yz 0 te.size&&Yz 0 te.bytes))then
       match srcT bl a.2.2.2.2.1.1 a.2.2.2.2.1.2 y,bl nx with
       |some (new,rd,dd),Ye=>
        CV (!memB b rd&&Yf (((a.2.2.2.2.2.length+new.length)*te.bytes)<=Cn)) (kk (.c (.trow nx 0 [])) (nx::b::rd) (dead dd++[(b,.tree a.1.1 a.1.2 a.2.2.1 a.2.2.2.1 (Yd (i::q)) a.2.1),(nx,.tree a.2.2.2.2.1.1 a.2.2.2.2.1.2 0 0 Ye (a.2.2.2.2.2++new))]))
       |_,_=>Ye
      else Ye
    |_=>Ye
  |_,_=>Ye
def zL(X:Ya (Yq×OT))(T:Yq->Yb TI)(t:Yq):Ys:=
 match T t with
 |some ti=>
  match ti.elem,ti.len with
  |some et,Ye=>
   match look X et with
   |some _=>Yo
   |none=>Yc
  |_,_=>Yc
 |none=>Yc
def LP(bl:Yk->Yb Blk):(o:OT)->Ya C->Yb (o.ty.den×(Ya C×Ya Yk))
 |.d τ,cs=>
  match pack (λ_=>Ye) τ cs with
  |some (x,r)=>Yd (x,r,[])
  |none=>Ye
 |.p a b,cs=>
  match LP bl a cs with
  |none=>Ye
  |some (x,r1,i1)=>
   match LP bl b r1 with
   |none=>Ye
   |some (y,r2,i2)=>Yd ((x,y),r2,i1++i2)
 |.r t e,c::r=>
  match c with
  |.nils=>Yd (([]:Ya e.ty.den),r,[])
  |c=>
   match Sq bl (.c c)with
   |some (b,m)=>if h:m.1=(t,e)then Yd ((show m.1.2=e from Ai (·.2) h)▸m.2,r,[b])else Ye
   |none=>Ye
 |.r _ _,[]=>Ye
def zM(X:Ya (Yq×OT))(T:Yq->Yb TI)(bl:Yk->Yb Blk)(t:Yq):Ya (Yk×V)->Ys
 |[(_,v)]=>
  match T t,v.cells with
  |some ti,Yd cs=>
   match ti.elem with
   |some et=>
    match look X et with
    |some e=>(LP bl e cs).isSome
    |none=>Yc
   |none=>Yc
  |_,_=>Yc
 |_=>Yc
def eS(X:Ya (Yq×OT))(T:Yq->Yb TI)(bl:Yk->Yb Blk)(nx:Yk)(t:Yq)(n:Yk)(parts:Ya (Yk×V))(kk:K β):Yb β:=
 match parts with
 |[(0,v)]=>
  match T t,v.cells with
  |some ti,Yd cs=>
   match ti.elem,ti.len with
   |some et,Ye=>
    match T et,look X et,bl nx with
    |some te,Yd e,Ye=>
     match LP bl e cs with
     |some (x,[],ids)=>bif Ym n 1&&(Ym cs.length te.size&&(Ym e.ty.size te.size&&(Yz 0 te.size&&(YB te.size 16777216&&JI ids))))then kk (.c (.trow nx 0 [])) (nx::ids) (dead ids++[(nx,.tree et e 0 0 Ye [x])])else Ye
     |_=>Ye
    |_,_,_=>Ye
   |_,_=>Ye
  |_,_=>Ye
 |_=>Ye
def eT(T:Yq->Yb TI)(bl:Yk->Yb Blk)(nx:Yk)(t u:Yq)(x y:V)(kk:K β):Yb β:=
 match T t,T u,ival y with
 |some ti,Yd tu,Yd (_,m)=>
  match x with
  |.c .nils=>
   match ti.elem,ti.len,tu.kind with
   |some et,Ye,Yd _=>
    match T et with
    |none=>Ye
    |some te=>
     match te.ty with
     |none=>Ye
     |some e=>
      match Kp (λ_=>Ye) e te.zero,bl nx with
      |some z,Ye=>
       bif Ym e.size te.size&&(Yz 0 te.size&&Yz 0 te.bytes)then
        CV (Yf (0<=m)&&Yf (m.toNat*te.bytes<=Cn)) (kk (.c (.row nx 0)) [nx] [(nx,.row et e 0 (Y8 m.toNat z))])
       else Ye
      |_,_=>Ye
   |_,_,_=>Ye
  |_=>Ye
 |_,_,_=>Ye
def Su(isMax:Ys)(k:YP):Yi->Ya V->Yb V
 |a,[]=>Yd (.c (.int k a))
 |a,.c (.int k' b)::r=>if k=k' then Su isMax k (bif isMax then(if b>a then b else a)else(if b<a then b else a)) r else Ye
 |_,_::_=>Ye
def Ws(isMax:Ys):Ya V->Yb V
 |.c (.int k a)::r=>Su isMax k a r
 |_=>Ye
def JL:Ya CT->Ya C->Ya (Yk×Yk)
 |.data τ::l,cs=>JL l (cs.drop τ.size)
 |.ptr b _::l,.ptr b' _::cs=>(b,b')::JL l cs
 |.rowh b::l,.row b' _::cs=>(b,b')::JL l cs
 |.fn _ BI::l,.fn _ HY::cs=>BI.zip HY++JL l cs
 |.maph b::l,.mapv b'::cs=>(b,b')::JL l cs
 |.bfnh _ b::l,.bfn _ b'::cs=>(b,b')::JL l cs
 |.math b::l,.mat b' _::cs=>(b,b')::JL l cs
 |.trowh b::l,.trow b' _ _::cs=>(b,b')::JL l cs
 |.tptrh b _ _::l,.tptr b' _ _ _ _::cs=>(b,b')::JL l cs
 |_::l,_::cs=>JL l cs
 |_,_=>[]
def Sv:Ya (Ys×Ya CT)->Ya V->Ya (Yk×Yk)
 |t::ts,v::vs=>
  match v.cells with
  |some cs=>JL t.2 cs++Sv ts vs
  |none=>Sv ts vs
 |_,_=>[]
def Sw(ps:Ya (Yk×Yk)):Yk->Yk->Yb (Ya Yk)
 |_,0=>Yd []
 |j,n+1=>
  match look ps j,Sw ps (j+1) n with
  |some b,Yd r=>Yd (b::r)
  |_,_=>Ye
def wayP:(ks:Ya Yk)->WayT ks->Path
 |[],_=>[]
 |k::r,x=>(x.1,k)::wayP r x.2
def wayI:(ks:Ya Yk)->WayT ks->Yk
 |[],x=>x
 |_::r,x=>wayI r x.2
def Od(i:Yk):(ks:Ya Yk)->Path->Yb (WayT ks)
 |[],[]=>Yd i
 |k::r,(j,m)::p=>
  bif Ym k m then
   match Od i r p with
   |some x=>Yd (j,x)
   |none=>Ye
  else Ye
 |_,_=>Ye
def Bl(bl:Yk->Yb Blk)(ids:Ya Yk):(l:Ya CT)->Ya C->Yb (CT.dens l)
 |[],[]=>Yd ()
 |.data τ::l,cs=>
  match pack bl τ cs with
  |none=>Ye
  |some (x,r)=>
   match Bl bl ids l r with
   |none=>Ye
   |some y=>Yd (x,y)
 |.ptr b o::l,.ptr b' o'::cs=>
  match ids[b]? with
  |some i=>bif Ym i b'&&Ym o o' then Bl bl ids l cs else Ye
  |none=>Ye
 |.rowh b::l,.row b' ver::cs=>
  match ids[b]? with
  |some i=>
   bif Ym i b' then
    match bl b' with
    |some (.row _ _ ver' _)=>bif Ym ver ver' then Bl bl ids l cs else Ye
    |_=>Ye
   else Ye
  |none=>Ye
 |.rowh b::l,.nils::cs=>
  match ids[b]? with
  |some i=>
   match bl i with
   |none=>Bl bl ids l cs
   |some _=>Ye
  |none=>Ye
 |.fn f BI::l,.fn f' HY::cs=>bif Ym f f'&&Yf (BI.map (ids[·]?)=HY.map Yd)then Bl bl ids l cs else Ye
 |.maph b::l,.mapv b'::cs=>
  match ids[b]? with
  |some i=>bif Ym i b' then Bl bl ids l cs else Ye
  |none=>Ye
 |.math b::l,.mat b' ver::cs=>
  match ids[b]? with
  |some i=>
   bif Ym i b' then
    match bl b' with
    |some (.mat _ _ _ ver' _ Ye _)=>bif Ym ver ver' then Bl bl ids l cs else Ye
    |_=>Ye
   else Ye
  |none=>Ye
 |.math b::l,.nils::cs=>
  match ids[b]? with
  |some i=>
   match bl i with
   |none=>Bl bl ids l cs
   |some _=>Ye
  |none=>Ye
 |.trowh b::l,.trow b' ver []::cs=>
  match ids[b]? with
  |some i=>
   bif Ym i b' then
    match bl b' with
    |some (.tree _ _ ver' _ Ye _)=>bif Ym ver ver' then Bl bl ids l cs else Ye
    |_=>Ye
   else Ye
  |none=>Ye
 |.tptrh b ks o::l,.tptr b' ver p i o'::cs=>
  match ids[b]? with
  |some j=>
   bif Ym j b'&&Ym o o' then
    match bl b' with
    |some (.tree _ _ ver' By Ye _)=>
     bif Ym ver (tv ver' By p)then
      match Od i ks p with
      |some x=>
       match Bl bl ids l cs with
       |some y=>Yd (x,y)
       |none=>Ye
      |none=>Ye
     else Ye
    |_=>Ye
   else Ye
  |none=>Ye
 |.trowh b::l,.nils::cs=>
  match ids[b]? with
  |some i=>
   match bl i with
   |none=>Bl bl ids l cs
   |some _=>Ye
  |none=>Ye
 |.bself b::l,.bself b'::cs=>
  match ids[b]? with
  |some i=>bif Ym i b' then Bl bl ids l cs else Ye
  |none=>Ye
 |.bself _::l,.nilp::cs=>Bl bl ids l cs
 |.bfnh f b::l,.bfn f' b'::cs=>
  match ids[b]? with
  |some i=>bif Ym f f'&&Ym i b' then Bl bl ids l cs else Ye
  |none=>Ye
 |.junk::l,_::cs=>Bl bl ids l cs
 |.nils::l,.nils::cs=>Bl bl ids l cs
 |_,_=>Ye
def GP(bl:Yk->Yb Blk)(ids:Ya Yk):(l:Ya (Ys×Ya CT))->Ya V->Yb (ST.dens l)
 |[],[]=>Yd ()
 |t::l,v::vs=>
  match v,t.1 with
  |.c x,Yc=>
   match Bl bl ids t.2 [x]with
   |none=>Ye
   |some y=>
    match GP bl ids l vs with
    |none=>Ye
    |some z=>Yd (y,z)
  |.agg cs,Yo=>
   match Bl bl ids t.2 cs with
   |none=>Ye
   |some y=>
    match GP bl ids l vs with
    |none=>Ye
    |some z=>Yd (y,z)
  |_,_=>Ye
 |_,_=>Ye
def G7(bl:Yk->Yb Blk)(ids:Ya Yk):(l:Ya BT)->Ya Yk->Yb (BT.dens l)
 |[],[]=>Yd ()
 |.cells t l::r,i::is=>
  match bl i with
  |some (.cells t' cs)=>
   bif Ym t t' then
    match Bl bl ids l cs with
    |none=>Ye
    |some y=>
     match G7 bl ids r is with
     |none=>Ye
     |some z=>Yd (y,z)
   else Ye
  |_=>Ye
 |_,_=>Ye
def mkC(ids:Ya Yk):(l:Ya CT)->CT.dens l->Ya C
 |[],_=>[]
 |.data τ::l,x=>cells τ x.1++mkC ids l x.2
 |.ptr b o::l,x=>.ptr (ids.getD b 0) o::mkC ids l x
 |.rowh b::l,x=>.row (ids.getD b 0) 0::mkC ids l x
 |.fn f BI::l,x=>.fn f (BI.map λb=>ids.getD b 0)::mkC ids l x
 |.maph b::l,x=>.mapv (ids.getD b 0)::mkC ids l x
 |.math b::l,x=>.mat (ids.getD b 0) 0::mkC ids l x
 |.bself b::l,x=>.bself (ids.getD b 0)::mkC ids l x
 |.bfnh f b::l,x=>.bfn f (ids.getD b 0)::mkC ids l x
 |.trowh b::l,x=>.trow (ids.getD b 0) 0 []::mkC ids l x
 |.tptrh b ks o::l,x=>.tptr (ids.getD b 0) 0 (wayP ks x.1) (wayI ks x.1) o::mkC ids l x.2
 |.nilc::l,x=>.nilc::mkC ids l x
 |.nils::l,x=>.nils::mkC ids l x
 |.lsome e::l,x=>.lsome e x.1::mkC ids l x.2
 |.junk::l,x=>.junk::mkC ids l x
def mkS(ids:Ya Yk):(l:Ya (Ys×Ya CT))->ST.dens l->Ya (Ys×Ya C)
 |[],_=>[]
 |t::l,x=>(t.1,mkC ids t.2 x.1)::mkS ids l x.2
def fIds(ids:Ya Yk):Ya (Ya Yl×(Y6×Yk))->Ya (Ya Yl×(Y6×Yk))
 |[]=>[]
 |x::r=>(x.1,(x.2.1,ids.getD x.2.2 0))::fIds ids r
def mkB(ids:Ya Yk):(l:Ya BT)->BT.dens l->Ya Blk
 |[],_=>[]
 |.cells t l::r,x=>.cells t (mkC ids l x.1)::mkB ids r x.2
 |.row t e::r,x=>.row t e 0 x.1::mkB ids r x.2
 |.map t k v vg::r,x=>.map t k v vg x.1::mkB ids r x.2
 |.mat t et e::r,x=>.mat t et e 0 0 Ye x.1::mkB ids r x.2
 |.tree t e::r,x=>.tree t e 0 0 Ye x.1::mkB ids r x.2
 |.fmap t l::r,x=>.fmap t (fIds ids l)::mkB ids r x
def resV:Ya (Ys×Ya C)->V
 |[t]=>V.mk t.1 t.2
 |ts=>.tup ts
def CT.flat:Ya CT->Ys
 |[]=>Yo
 |.data τ::r=>τ.flat&&CT.flat r
 |.lsome _::_=>Yc
 |_::r=>CT.flat r
def ST.flat:Ya (Ys×Ya CT)->Ys
 |[]=>Yo
 |t::r=>CT.flat t.2&&ST.flat r
def BT.flat:Ya BT->Ys
 |[]=>Yo
 |.cells _ l::r=>CT.flat l&&BT.flat r
 |.row _ e::r=>e.flat&&BT.flat r
 |.map _ k v _::r=>k.flat&&(v.flat&&BT.flat r)
 |.mat _ _ e::r=>e.flat&&BT.flat r
 |.tree _ e::r=>e.flat&&BT.flat r
 |.fmap _ _::r=>BT.flat r
def Ct:Ya V->Ya Yk
 |[]=>[]
 |v::vs=>
  match v.cells with
  |some cs=>Cx cs++Ct vs
  |none=>Ct vs
def AD:Yk->Yk->Ya Yk
 |_,0=>[]
 |i,n+1=>i::AD (i+1) n
def PW(bl:Yk->Yb Blk):Ya Yk->Ys
 |[]=>Yo
 |i::r=>
  match bl i with
  |none=>PW bl r
  |some _=>Yc
def JM(bl:Yk->Yb Blk):Ya Yk->Ya Yk
 |[]=>[]
 |i::r=>
  match bl i with
  |some (.cells _ cs)=>Cx cs++JM bl r
  |_=>JM bl r
def CT.bnd(m:Yk):Ya CT->Ys
 |[]=>Yo
 |.ptr b _::r|.rowh b::r|.maph b::r|.math b::r|.bself b::r|.bfnh _ b::r|.trowh b::r|.tptrh b _ _::r=>Yz b m&&CT.bnd m r
 |.fn _ BI::r=>BI.all (λb=>Yz b m)&&CT.bnd m r
 |.data _::r|.nilc::r|.nils::r|.lsome _::r|.junk::r=>CT.bnd m r
def ST.bnd(m:Yk):Ya (Ys×Ya CT)->Ys
 |[]=>Yo
 |t::r=>CT.bnd m t.2&&ST.bnd m r
def BT.bnd(m:Yk):Ya BT->Ys
 |[]=>Yo
 |.cells _ l::r=>CT.bnd m l&&BT.bnd m r
 |.row _ _::r=>BT.bnd m r
 |.map _ _ _ _::r=>BT.bnd m r
 |.mat _ _ _::r=>BT.bnd m r
 |.tree _ _::r=>BT.bnd m r
 |.fmap _ l::r=>l.all (λe=>Yz e.2.2 m)&&BT.bnd m r
def PX(S:Spec)(bl:Yk->Yb Blk)(rds:Ya Yk):Ya (Yk×Blk):=
 bif ST.flat S.res&&BT.flat S.outs then []else
  rds.filterMap λb=>
   match bl b with
   |some (.row _ _ _ _)=>Yd (b,.dead)
   |some (.tree _ _ _ _ _ _)=>Yd (b,.dead)
   |_=>Ye
def eU(S:Spec)(bl:Yk->Yb Blk)(ids new:Ya Yk):Ys:=
 JI ids&&((PW bl new&&(YB S.ins.length S.outs.length&&(ST.bnd S.outs.length S.res&&BT.bnd S.outs.length S.outs))))
def eV(F:RowF)(args:Ya V):Yb (Yk×Yk):=
 match args,F.fn with
 |[.c (.row b ver)],Ye=>Yd (b,ver)
 |[.c (.row b ver),.c (.fn g [])],Yd g'=>bif Ym g g' then Yd (b,ver)else Ye
 |_,_=>Ye
def eW(F:RowF)(bl:Yk->Yb Blk)(args:Ya V)(kk:K β):Yb β:=
 match eV F args with
 |some (b,ver)=>
  match bl b with
  |some (.row t e ver' l)=>
   bif Ym ver ver'&&Ym t F.t then
    if h:e=F.e then
     CV (F.dom (h▸l))
      (bif F.cut then kk (.c (.row b (ver+1))) [b] [(b,.row t F.e (ver+1) (F.run (h▸l)))]else kk (.tup []) [b] [(b,.row t F.e ver (F.run (h▸l)))])
    else Ye
   else Ye
  |_=>Ye
 |none=>Ye
def JN(l:Ya Yi):Ya Yl:=l.map λn=>UInt8.ofNat n.toNat
def Im(s:Ya Yl):Ya Yi:=s.map λb=>(b.toNat:Yi)
def Sx(l:Ya Yi):Ys:=l.all λn=>decide (0<=n)&&Yf (n<=255)
def Sy:C->Yk->Ys
 |.nilp,_=>Yo
 |.bself b,i=>Ym b i
 |_,_=>Yc
def Sz(F:BldF)(bl:Yk->Yb Blk)(i:Yk):Yb (Yb (Yk×Yk)×Ya Yi):=
 match bl i with
 |some (.cells t [p,q])=>
  bif Ym t F.t&&Sy p i then
   match q with
   |.nils=>Yd (Ye,[])
   |.row j ver=>
    match bl j with
    |some (.row te (.int .u8) ver' l)=>bif Ym te F.te&&Ym ver ver' then Yd (Yd (j,ver),l)else Ye
    |_=>Ye
   |_=>Ye
  else Ye
 |_=>Ye
def zN(bl:Yk->Yb Blk)(i:Yk):Ys:=
 match bl i with
 |none=>Yo
 |some _=>Yc
def wrote(s:Ya Yl):V:=.tup [(Yc,[.int .i64 (s.length:Yi)]),(Yc,[.err Yo])]
def Wt(F:BldF)(bl:Yk->Yb Blk)(nx i m:Yk)(bs:Ya Yi)(x:V)(kk:K β):Yb β:=
 match Sz F bl i with
 |some (Ye,_)=>
  CV (zN bl nx) (CV (Yf (m<=140737488355328)) (kk x [i,nx] [(nx,.row F.te (.int .u8) 0 bs),(i,.cells F.t [.bself i,.row nx 0])]))
 |some (Yd (j,ver),l)=>
  CV (Yf (l.length+m<=140737488355328)) (kk x [i,j] [(j,.row F.te (.int .u8) (ver+1) (l++bs)),(i,.cells F.t [.bself i,.row j (ver+1)])])
 |none=>Ye
def eX(F:BldF)(bl:Yk->Yb Blk)(nx:Yk)(args:Ya V)(kk:K β):Yb β:=
 match F.op,args with
 |0,[.c (.ptr i 0),.c (.str s)]=>Wt F bl nx i s.length (Im s) (wrote s) kk
 |1,[.c (.ptr i 0)]=>
  match Sz F bl i with
  |some (Ye,_)=>kk (.c (.str [])) [i] []
  |some (Yd (j,_),l)=>CV (Sx l) (kk (.c (.str (JN l))) [i,j] [(j,.dead)])
  |none=>Ye
 |2,[.c (.ptr i 0)]=>
  match Sz F bl i with
  |some (Ye,_)=>kk (.c (.int .i64 0)) [i] []
  |some (Yd (j,_),l)=>kk (.c (.int .i64 (l.length:Yi))) [i,j] []
  |none=>Ye
 |3,[.c .nils,.c (.str _)]=>kk (.c (.str [])) [] []
 |3,[.c (.row j ver),.c (.str sep)]=>
  match bl j with
  |some (.row t .str ver' l)=>
   bif Ym t F.t&&Ym ver ver' then
    CV (Yf (l.length<=140737488355328)&&Yf ((Ya2 l sep).length<=140737488355328)) (kk (.c (.str (Ya2 l sep))) [j] [])
   else Ye
  |_=>Ye
 |4,[.c (.ptr i 0),.c (.int .u8 n)]=>Wt F bl nx i 1 [n] (.c (.err Yo)) kk
 |_,_=>Ye
def Ld(bl:Yk->Yb Blk):Yk->Yb Blk:=λi=>
 match bl i with
 |some (.mat _ _ _ _ _ _ _)=>Ye
 |B=>B
def PY(bl:Yk->Yb Blk):V->V
 |.arr b o e n=>
  match bl b with
  |some (.cells _ cs)=>
   match sub cs o (n*e.size)with
   |some ds=>
    match JK (λ_=>Ye) e n ds with
    |some l=>bif YB n 4096&&Yz 0 e.size then .c (.list e l)else .junk
    |none=>.junk
   |none=>.junk
  |_=>.junk
 |v=>v
def LQ:Ya V->Ya Yk
 |[]=>[]
 |.arr b _ _ _::r=>b::LQ r
 |_::r=>LQ r
def S0(S:Spec)(ids:Ya Yk):Ya Yk->Ys
 |[]=>Yo
 |b::r=>(ST.flat S.res&&BT.flat S.outs)&&(!memB b ids&&S0 S ids r)
def MQ:Ya CT->Ya C->Ya C
 |.junk::l,_::cs=>.junk::MQ l cs
 |.data τ::l,cs=>cs.take τ.size++MQ l (cs.drop τ.size)
 |_::l,c::cs=>c::MQ l cs
 |_,cs=>cs
def Amq:Ya CT->V->V
 |l,.agg cs=>.agg (MQ l cs)
 |_,v=>v
def S1:Ya (Ys×Ya CT)->Ya V->Ya V
 |t::ts,v::vs=>Amq t.2 v::S1 ts vs
 |_,vs=>vs
def PZ(S:Spec)(bl:Yk->Yb Blk)(args:Ya V):Ya V:=S1 S.params (args.map (PY bl))
def S2(X:Ctx)(bl:Yk->Yb Blk)(nx:Yk)(f:Y6)(args:Ya V)(kk:K β):Yb β:=
 match X.Γ f with
 |none=>Ye
 |some (.rows F)=>eW F bl args kk
 |some (.bld F)=>eX F bl nx args kk
 |some (.abs A)=>A.run bl nx args kk
 |some (.spec S)=>
  match Sw (Sv S.params (PZ S bl args)) 0 S.ins.length with
  |none=>Ye
  |some ids=>
   match GP (Ld bl) ids S.params (PZ S bl args),G7 (Ld bl) ids S.ins ids with
   |some x,Yd y=>
    bif eU S bl ids (AD nx (S.outs.length-S.ins.length))&&S0 S ids (LQ args)then
     S.run (x,y) λz=>
      kk (resV (mkS (ids++AD nx (S.outs.length-S.ins.length)) S.res z.1)) (ids++((Ct (PZ S bl args)++JM bl ids)++(AD nx (S.outs.length-S.ins.length)++LQ args)))
       (PX S bl (Ct (PZ S bl args)++JM bl ids)++(ids++AD nx (S.outs.length-S.ins.length)).zip (mkB (ids++AD nx (S.outs.length-S.ins.length)) S.outs z.2))
    else Ye
   |_,_=>Ye
def frzC(bl:Yk->Yb Blk):C->C
 |.row b ver=>
  match bl b with
  |some (.row _ e ver' l)=>bif Ym ver ver' then .list e l else .row b ver
  |_=>.row b ver
 |.sub b ver i j=>
  match bl b with
  |some (.row _ e ver' l)=>bif Ym ver ver' then .list e ((l.take j).drop i)else .sub b ver i j
  |_=>.sub b ver i j
 |.trow b ver []=>
  match bl b with
  |some (.tree _ e ver' _ Ye l)=>bif Ym ver ver' then .list e.ty l else .trow b ver []
  |_=>.trow b ver []
 |c=>c
def frzV(bl:Yk->Yb Blk):V->V
 |.c x=>.c (frzC bl x)
 |.agg cs=>.agg (cs.map (frzC bl))
 |v=>v
def Db(bl:Yk->Yb Blk):Ya Yk->Ya (Yk×Blk)
 |[]=>[]
 |b::r=>
  match bl b with
  |some (.row _ _ _ _)=>(b,.dead)::Db bl r
  |some (.tree _ _ _ _ _ _)=>(b,.dead)::Db bl r
  |_=>Db bl r
def LR(bl:Yk->Yb Blk):Ya (Yk×Blk)->Yk->Yb Blk
 |[],i=>bl i
 |(j,x)::r,i=>LR (λk=>bif Ym k j then Yd x else bl k) r i
def JO(bl:Yk->Yb Blk)(rds:Ya Yk)(run:(Yk->Yb Blk)->K β->Yb β)(kk:K β):Yb β:=
 run (LR bl (Db bl rds)) λv rd wr=>kk v (rds++rd) (Db bl rds++wr)
def eY(T:Yq->Yb TI)(bl:Yk->Yb Blk)(si ti:TI)(y:V)(kk:K β):Yb β:=
 match si.elem,si.len with
 |some et,Ye=>
  match T et with
  |none=>Ye
  |some te=>
   match te.kind with
   |some .u8=>
    bif ti.isStr then
     match PV bl (.int .u8) y with
     |some (l,rd)=>kk (.c (.str (JN l))) rd []
     |none=>Ye
    else Ye
   |_=>Ye
 |_,_=>Ye
def zO(ρ:Y0->V):Callee->Yb (Y6×(Ya V×Ya V))
 |.value x=>
  match ρ x with
  |.c (.fn f BI)=>Yd (f,[],BI.map λb=>.c (.ptr b 0))
  |.c (.bfn f b)=>Yd (f,[.c (.ptr b 0)],[])
  |_=>Ye
 |_=>Ye
def Qa(bl:Yk->Yb Blk)(nx:Yk)(t:Yq)(cs:Ya C)(kk:K β):Yb β:=
 match bl nx with
 |none=>kk (.c (.ptr nx 0)) [nx] [(nx,.cells t cs)]
 |some _=>Ye
def eZ(T:Yq->Yb TI)(bl:Yk->Yb Blk)(nx:Yk)(t:Yq)(n:Yk)(parts:Ya (Yk×V))(kk:K β):Yb β:=
 match T t with
 |none=>Ye
 |some ti=>
  match ti.elem,ti.len with
  |some et,Ye=>
   match T et with
   |none=>Ye
   |some te=>
    match te.ty with
    |none=>Ye
    |some e=>
     bif Ym e.size te.size&&(YB (n*te.size) 16777216&&Yz 0 te.size)then
      match Hj {te with elem:=Yd et,len:=Yd n} T parts with
      |none=>Ye
      |some ps=>
       match MO (repC n te.zero) ps with
       |none=>Ye
       |some cs=>
        match JK (λ_=>Ye) e n cs,bl nx with
        |some l,Ye=>kk (.c (.row nx 0)) [nx] [(nx,.row et e 0 l)]
        |_,_=>Ye
     else Ye
  |_,_=>Ye
def f5(T:Yq->Yb TI)(bl:Yk->Yb Blk)(nx:Yk)(t:Yq)(n c:V)(kk:K β):Yb β:=
 match T t,ival n,ival c with
 |some ti,Yd (_,i),Yd (_,j)=>
  match ti.elem,ti.len with
  |some et,Ye=>
   match T et with
   |none=>Ye
   |some te=>
    match te.ty with
    |none=>Ye
    |some e=>
     match Kp (λ_=>Ye) e te.zero,bl nx with
     |some z,Ye=>
      bif Ym e.size te.size&&Yz 0 te.size then
       CV (Yf (0<=i)&&(Yf (i=j)&&(Yf (i.toNat*te.bytes<=Cn)&&Yf (i<=9223372036854775807)))) (kk (.c (.row nx 0)) [nx] [(nx,.row et e 0 (Y8 i.toNat z))])
      else Ye
     |_,_=>Ye
  |_,_=>Ye
 |_,_,_=>Ye
def Qb:Ya V->Yb (Ya Yk)
 |[]=>Yd []
 |.c (.ptr b 0)::r=>
  match Qb r with
  |some l=>Yd (b::l)
  |none=>Ye
 |_::_=>Ye
def zP(bl:Yk->Yb Blk):V->Ys
 |.c (.row b _)=>
  match bl b with
  |some (.row _ e _ _)=>e.flat
  |_=>Yo
 |_=>Yo
def zQ:V->Ys
 |.c (.sub _ _ _ _)=>Yo
 |_=>Yc
def zR:V->Ys
 |.agg _=>Yo
 |_=>Yc
def Le(bl:Yk->Yb Blk):Yk->Ya Yk->Ya C->Ya C
 |_,_,[]=>[]
 |i,ps,c::cs=>(bif memB i ps then frzC bl c else c)::Le bl (i+1) ps cs
def Fy:Yk->Ya Yk->Ya C->Ya Yk
 |_,_,[]=>[]
 |i,ps,c::cs=>bif memB i ps then Cx [c]++Fy (i+1) ps cs else Fy (i+1) ps cs
def f9(T:Yq->Yb TI)(bl:Yk->Yb Blk)(t:Yq)(ps:Ya Yk)(p:V)(kk:K β):Yb β:=
 match p with
 |.c (.ptr b o)=>
  match bl b with
  |some (.cells t0 cs)=>
   PT T (LR (LR bl (Db bl (Fy 0 ps cs))) [(b,.cells t0 (Le bl 0 ps cs))]) t (.c (.ptr b o)) λv rd wr=>
    kk v (Fy 0 ps cs++(b::rd)) (Db bl (Fy 0 ps cs)++((b,.cells t0 (Le bl 0 ps cs))::wr))
  |_=>Ye
 |_=>PT T bl t p kk
def LS(e:Ty):Ya e.den->Ya C
 |[]=>[]
 |x::l=>cells e x++LS e l
def Wu(b ver nx:Yk):V->V
 |.c (.row b' ver')=>bif Ym b b'&&Ym ver ver' then .c (.hrow nx)else .c (.row b' ver')
 |v=>v
def zS(bl:Yk->Yb Blk):V->Ys
 |.c (.row b _)=>
  match bl b with
  |some (.row _ e _ _)=>!e.flat
  |_=>Yc
 |_=>Yc
def fA(bl:Yk->Yb Blk)(nx:Yk)(x:V)(run:(Yk->Yb Blk)->(V->V)->K β->Yb β)(kk:K β):Yb β:=
 match x with
 |.c (.row b ver)=>
  match bl b,bl nx with
  |some (.row t e ver' l),Ye=>
   bif Ym ver ver' then
    run (LR bl [(b,.dead),(nx,.crow t e l.length (LS e l))]) (Wu b ver nx) λv rd wr=>kk v (b::nx::rd) ((b,.dead)::(nx,.crow t e l.length (LS e l))::wr)
   else Ye
  |_,_=>Ye
 |_=>Ye
def IH{α:Type}(f:Ya C->Yb (α×(Ya C×Ya Yk))):Yk->Ya C->Yb (Ya α×Ya Yk)
 |0,[]=>Yd ([],[])
 |0,_::_=>Ye
 |n+1,cs=>
  match f cs with
  |none=>Ye
  |some (x,r,i1)=>
   match IH f n r with
   |none=>Ye
   |some (l,i2)=>Yd (x::l,i1++i2)
def dfrz(bl:Yk->Yb Blk):(τ:Ty)->Ya C->Yb (τ.den×(Ya C×Ya Yk))
 |.prod a b,r=>
  match dfrz bl a r with
  |none=>Ye
  |some (x,r1,i1)=>
   match dfrz bl b r1 with
   |none=>Ye
   |some (y,r2,i2)=>Yd ((x,y),r2,i1++i2)
 |.slice e,.row b ver::r=>
  match G6 bl b ver e with
  |none=>Ye
  |some l=>Yd (l,r,[b])
 |.slice e,.hrow b::r=>
  match bl b with
  |some (.crow _ e' m cs)=>
   if e'=e then
    match IH (dfrz bl e) m cs with
    |some (l,ids)=>Yd (l,r,b::ids)
    |none=>Ye
   else Ye
  |_=>Ye
 |τ,cs=>
  match pack (λ_=>Ye) τ cs with
  |some (x,r)=>Yd (x,r,[])
  |none=>Ye
def fB(T:Yq->Yb TI)(bl:Yk->Yb Blk)(t:Yq)(p:V)(kk:K β):Yb β:=
 match p,T t with
 |.c (.ptr b o),Yd ti=>
  match ti.ty,bl b with
  |some τ,Yd (.cells t0 cs)=>
   match sub cs o ti.size with
   |none=>Ye
   |some r=>
    match dfrz bl τ r with
    |some (x,[],ids)=>
     match over cs o (cells τ x)with
     |some cs'=>PT T (LR (LR bl (dead ids)) [(b,.cells t0 cs')]) t (.c (.ptr b o)) λv rd wr=>kk v (ids++(b::rd)) (dead ids++((b,.cells t0 cs')::wr))
     |none=>Ye
    |_=>Ye
  |_,_=>Ye
 |_,_=>Ye
def Wv{β:Type}(T:Yq->Yb TI)(t:Yq)(parts:Ya (Yk×V))(kk:K β):Yb β:=
 match T t with
 |some ti=>
  bif ti.agg then
   match Hj ti T parts with
   |some ps=>
    match MO ti.zero ps with
    |some cs=>kk (.agg cs) [] []
    |none=>Ye
   |none=>Ye
  else Ye
 |none=>Ye
def Ww(X:Ctx)(o:Oper)(ρ:Y0->V)(bl:Yk->Yb Blk)(nx:Yk)(kk:K β):Yb β:=
 match o.op with
 |.move x=>bif X.S&&zQ (ρ x)then JO bl (Ct [ρ x]) (λ_ Dl=>Dl (frzV bl (ρ x)) [] []) kk else kk (ρ x) [] []
 |.assign x=>bif X.D&&zP bl (ρ x)then JO bl (Ct [ρ x]) (λ_ Dl=>Dl (frzV bl (ρ x)) [] []) kk else kk (ρ x) [] []
 |.pick c a b=>
  match ρ c with
  |.c (.bool g)=>Yr g (kk (ρ a) [] []) (kk (ρ b) [] [])
  |_=>Ye
 |.alloc t=>
  match X.T t with
  |some ti=>Qa bl nx t ti.zero kk
  |none=>Ye
 |.box t x=>
  match(ρ x).cells with
  |some cs=>Qa bl nx t cs kk
  |none=>Ye
 |.build t parts=>bif X.D then JO bl (Ct (parts.toList.map λp=>ρ p.2)) (λ_ Dl=>Wv X.T t (parts.toList.map λp=>(p.1,frzV bl (ρ p.2))) Dl) kk else Wv X.T t (parts.toList.map λp=>(p.1,ρ p.2)) kk
 |.buildSlice t n parts=>bif zL X.O X.T t&&zM X.O X.T bl t (parts.toList.map λp=>(p.1,ρ p.2))then eS X.O X.T bl nx t n (parts.toList.map λp=>(p.1,ρ p.2)) kk else JO bl (Ct (parts.toList.map λp=>ρ p.2)) (λbl' Dl=>eZ X.T bl' nx t n (parts.toList.map λp=>(p.1,frzV bl (ρ p.2))) Dl) kk
 |.load t a=>
  match look X.L t with
  |some []=>fB X.T bl t (ρ a) kk
  |some ps=>f9 X.T bl t ps (ρ a) kk
  |none=>PT X.T bl t (ρ a) kk
 |.store t a x=>
  match ρ a with
  |.eptr _ _ _ _=>JO bl (Ct [ρ a,ρ x]) (λbl' Dl=>MP X.T bl' t (frzV bl (ρ a)) (frzV bl (ρ x)) Dl) kk
  |.c (.tptr b _ _ _ _)=>bif zI bl b then MP X.T bl t (ρ a) (ρ x) kk else JO bl (Ct [ρ a,ρ x]) (λbl' Dl=>MP X.T bl' t (frzV bl (ρ a)) (frzV bl (ρ x)) Dl) kk
  |_=>bif X.M&&zS bl (ρ x)then fA bl nx (ρ x) (λbl' f Dl=>MP X.T bl' t (f (ρ a)) (f (ρ x)) Dl) kk else bif X.D&&zR (ρ x)then JO bl (Ct [ρ a,ρ x]) (λbl' Dl=>MP X.T bl' t (frzV bl (ρ a)) (frzV bl (ρ x)) Dl) kk else MP X.T bl t (ρ a) (ρ x) kk
 |.nilCheck x=>
  match ρ x with
  |.c (.ptr b o)=>kk (.c (.ptr b o)) [] []
  |.eptr b ver i o=>kk (.eptr b ver i o) [] []
  |.lptr e x o=>kk (.lptr e x o) [] []
  |.c (.tptr b ver p i o)=>kk (.c (.tptr b ver p i o)) [] []
  |.hptr b o=>kk (.hptr b o) [] []
  |.c (.fn f BI)=>kk (.c (.fn f BI)) [] []
  |.c (.bfn f b)=>kk (.c (.bfn f b)) [] []
  |_=>Ye
 |.binOp op t x y _=>dZ X.T op t (ρ x) (ρ y) y kk
 |.unOp op _ x=>
  match op,ρ x with
  |.not,.c (.bool b)=>kk (.c (.bool (!b))) [] []
  |.neg,.c (.int k n)=>kk (.c (.int k (k.wrap (0-n)))) [] []
  |_,_=>Ye
 |.convert s t x=>
  match X.T s,X.T t,ρ x with
  |some _,Yd ti,.c (.int _ n)=>
   match ti.kind with
   |some k=>kk (.c (.int k (k.wrap n))) [] []
   |none=>Ye
  |some _,Yd ti,.c (.str s)=>bif ti.isStr then kk (.c (.str s)) [] []else Ye
  |some si,Yd ti,y=>eY X.T bl si ti y kk
  |_,_,_=>Ye
 |.makeFunc (.func f) first BI=>
  match first.toList with
  |[]=>
   match Qb (BI.toList.map ρ)with
   |some bs=>kk (.c (.fn f bs)) [] []
   |none=>Ye
  |[x]=>
   match ρ x,BI.toList with
   |.c (.ptr b 0),[]=>kk (.c (.bfn f b)) [] []
   |_,_=>Ye
  |_::_=>Ye
 |.makeSlice t n c=>f5 X.T bl nx t (ρ n) (ρ c) kk
 |.makeMap t Ye=>eG X.T bl nx t kk
 |.lookup t x i commaOk=>bif zK bl (ρ x)then eH X.T bl t (ρ x) (ρ i) commaOk kk else eJ X.T bl t (ρ x) (ρ i) commaOk kk
 |.insert t m i v=>eI X.T bl t (ρ m) (ρ i) (ρ v) kk
 |.mapUpdate t m i v=>JO bl (Ct [ρ m,ρ i,ρ v]) (λbl' Dl=>eK X.T bl' t (frzV bl (ρ m)) (frzV bl (ρ i)) (frzV bl (ρ v)) Dl) kk
 |.slice t x Ye hi Ye=>bif X.R&&Wq (ρ x)then eC X.T bl t (ρ x) (hi.map ρ) kk else Sr X.T bl t (ρ x) Ye (hi.map ρ) kk
 |.slice t x lo hi Ye=>bif X.S&&Wq (ρ x)then JO bl (Ct ((x::(lo.toList++hi.toList)).map ρ)) (λbl' Dl=>Sr X.T bl' t (frzV bl (ρ x)) (lo.map λy=>frzV bl (ρ y)) (hi.map λy=>frzV bl (ρ y)) Dl) kk else Sr X.T bl t (ρ x) (lo.map ρ) (hi.map ρ) kk
 |.fieldAddr t x f=>eA X.T t (ρ x) f kk
 |.field t x f=>
  match X.T t,ρ x with
  |some ti,.agg cs=>
   match ti.flds[f]? with
   |some (o,n,g)=>
    bif g||Ym n 1 then
     match sub cs o n with
     |some r=>kk (V.mk g r) [] []
     |none=>Ye
    else Ye
   |none=>Ye
  |_,_=>Ye
 |.indexAddr t x i=>eB X.T bl t (ρ x) (ρ i) kk
 |.index t x i=>
  match X.T t,ρ x,ival (ρ i)with
  |some ti,.c (.str s),Yd (_,i)=>bif ti.isStr then CV (Yf (0<=i)&&Yf (i<(s.length:Yi))) (kk (.c (.int .u8 ((s.getD i.toNat 0).toNat:Yi))) [] [])else Ye
  |some ti,.agg cs,Yd (_,i)=>eE X.T ti cs i kk
  |_,_,_=>Ye
 |.extract x i=>
  match ρ x with
  |.tup ts=>
   match ts[i]? with
   |some t=>kk (V.mk t.1 t.2) [] []
   |none=>Ye
  |_=>Ye
 |.call c=>
  match c.callee with
  |.builtin .len=>
   match c.args.toList.map ρ,c.argTypes.toList with
   |[x],[t]=>eD X.T bl t x kk
   |_,_=>Ye
  |.builtin .min=>
   match Ws Yc (c.args.toList.map ρ)with
   |some v=>kk v [] []
   |none=>Ye
  |.builtin .max=>
   match Ws Yo (c.args.toList.map ρ)with
   |some v=>kk v [] []
   |none=>Ye
  |.builtin .append=>
   match c.args.toList.map ρ,c.argTypes.toList with
   |[x,y],[t,t']=>bif Ym t t' then(bif Wr x||Wr y then eQ X.O X.T bl nx t x y kk else eP X.T bl nx t x y kk)else eT X.T bl nx t t' x y kk
   |_,_=>Ye
  |.builtin .clear=>
   match c.args.toList.map ρ,c.argTypes.toList with
   |[x],[t]=>eM X.T bl t x kk
   |_,_=>Ye
  |.builtin .cap=>
   match c.args.toList.map ρ,c.argTypes.toList with
   |[x],[t]=>eO X.T t x kk
   |_,_=>Ye
  |.builtin .copy=>
   match c.args.toList.map ρ,c.argTypes.toList with
   |[x,y],[t,t']=>bif Ym t t' then eL X.T bl t x y kk else Ye
   |_,_=>Ye
  |.builtin _=>Ye
  |callee=>
   match zO ρ callee with
   |some (f,pre,BI)=>S2 X bl nx f (pre++(c.args.toList.map ρ++BI)) kk
   |none=>Ye
 |_=>Ye
structure LogE where
 i:Yk
 dst:Yb Yk
 v:V
 tin:Ya Yk
 rd:Ya Yk
 wr:Ya (Yk×Blk)
structure St where
 tm:Ya (Yk×V)
 bl:Ya (Yk×Blk)
 nx:Yk
def Qc(tm:Ya (Yk×V)):Y0->V
 |.tmp t=>
  match look tm t with
  |some v=>v
  |none=>.junk
 |.const v=>V.ofValue v
 |.global _=>.junk
 |.func f=>.c (.fn f [])
def JP:Ya Y0->Ya Yk
 |[]=>[]
 |.tmp t::r=>t::JP r
 |_::r=>JP r
def Oe(ops:YX Oper)(o:Oper):Yb (Yk×Ys):=
 match o.guard with
 |none=>Ye
 |some (j,want)=>((ops[j]?).bind (·.dst)).map λt=>(t,want)
def putD(tm:Ya (Yk×V))(dst:Yb Yk)(v:V):Ya (Yk×V):=
 match dst with
 |some d=>put tm d v
 |none=>tm
def fC:Yk->Ya (Yk×Blk)->Yk
 |nx,[]=>nx
 |nx,(i,_)::r=>fC (bif YB nx i then i+1 else nx) r
def S3(n:Yk):Yb Yk->Ys
 |none=>Yo
 |some d=>Yz d n
def Lf(X:Ctx)(n:Yk)(all:YX Oper):Ya (Yk×Oper)->St->Ya LogE->(St->Ya LogE->Yb β)->Yb β
 |[],σ,log,k=>k σ log
 |(i,o)::B5,σ,log,k=>
  let tin:=JP o.op.operands.toList
  let go (σ:St) (tin:Ya Yk):Yb β:=
   Ww X o (Qc σ.tm) (look σ.bl) σ.nx λv rd wr=>
    Lf X n all B5 ⟨putD σ.tm o.dst v,puts σ.bl wr,fC σ.nx wr⟩ (⟨i,o.dst,v,tin,rd,wr⟩::log) k
  bif S3 n o.dst then
   match o.guard with
   |none=>go σ tin
   |some _=>
    match Oe all o with
    |none=>Ye
    |some (t,want)=>
     match look σ.tm t with
     |some (.tup [])=>Lf X n all B5 ⟨putD σ.tm o.dst (.tup []),σ.bl,σ.nx⟩ (⟨i,o.dst,.tup [],[t],[],[]⟩::log) k
     |some (.c (.bool g))=>
      let skip:Yb β:=Lf X n all B5 ⟨putD (put σ.tm t (.c (.bool (!want)))) o.dst (.tup []),σ.bl,σ.nx⟩ (⟨i,o.dst,.tup [],[t],[],[]⟩::log) k
      let take:Yb β:=go {σ with tm:=put σ.tm t (.c (.bool want))} (t::tin)
      match want with
      |true=>Yr g take skip
      |false=>Yr g skip take
     |_=>Ye
  else Ye
def JQ(ms:Ya Yk):Ya Edge->Yk
 |[]=>0
 |e::r=>(bif YH .any e then Nat.lor (Nat.shiftLeft 1 e.on) (ms.getD e.on 0)else 0) |> Nat.lor (JQ ms r)
def GQ:Ya Oper->Ya Yk->Ya Yk
 |[],acc=>acc
 |o::r,acc=>GQ r (acc++[JQ acc o.after.toList])
def Lg:Ya (Yk×Oper)->Ys
 |[]=>Yo
 |(i,o)::r=>o.after.toList.all (λe=>!YH .any e||Yz e.on i)&&Lg r
def meet(a b:Ya Yk):Ys:=
 match a with
 |[]=>Yc
 |x::r=>memB x b||meet r b
def wids:Ya (Yk×Blk)->Ya Yk
 |[]=>[]
 |(i,_)::r=>i::wids r
def Qd(x y:LogE):Ys:=
 (match x.dst with
  |some d=>memB d y.tin||(match y.dst with|some d'=>Ym d d'|none=>Yc)
  |none=>Yc)||
 (match y.dst with
  |some d=>memB d x.tin
  |none=>Yc)||
 meet (wids x.wr) (y.rd++wids y.wr)||meet (wids y.wr) x.rd
def Wx(m:Yk)(y:LogE):Ya LogE->Ys
 |[]=>Yo
 |x::r=>(!Qd x y||Nat.testBit m x.i)&&Wx m y r
def fine(ms:Ya Yk):Ya LogE->Ys
 |[]=>Yo
 |y::r=>Wx (ms.getD y.i 0) y r&&fine ms r
inductive AExit where
 |normal
 |exit (id:Yk)
 |ret
def LT(ids:Ya Yk):Ya Yk->Ys
 |[]=>Yo
 |b::r=>memB b ids&&LT ids r
def fD(ids:Ya Yk):Ya LogE->Ys
 |[]=>Yo
 |e::r=>LT ids e.rd&&fD ids r
def LU:Yb (Ya Yk)->Ya LogE->Ys
 |none,_=>Yo
 |some ids,log=>fD ids log
abbrev Kx(β:Type):=AExit->St->Yb β
structure Cut where
 run:{β:Type}->St->(AExit->St->Yb β)->Yb β
def Hl:Yk->Ya Oper->Ya (Yk×Oper)
 |_,[]=>[]
 |i,o::r=>(i,o)::Hl (i+1) r
def Wy(f:St->Kx β->Yb β):Yk->St->Kx β->Yb β
 |0,_,_=>Ye
 |i+1,σ,k=>f σ λe σ'=>
  match e with
  |.normal=>Wy f i σ' k
  |.exit id=>k (.exit id) σ'
  |.ret=>k .ret σ'
def exec(X:Ctx)(n:Yk)(Λ:Yk->Yb Cut)(p:Yk)(c:Code)(σ:St)(k:Kx β):Yb β:=
 match Λ p with
 |some cut=>cut.run σ k
 |none=>
  match c with
  |.skip=>k .normal σ
  |.region _ ops draw=>
   let l:=Hl 0 ops.toList
   Lf X n ops l σ [] λσ' log=>
    bif LU X.A log&&(!draw||(Lg l&&fine (GQ ops.toList []) log))then k .normal σ' else Ye
  |.seq a b=>
   exec X n Λ (2*p) a σ λe σ'=>
    match e with
    |.normal=>exec X n Λ (2*p+1) b σ' k
    |e=>k e σ'
  |.cond x a b=>
   match Qc σ.tm x with
   |.c (.bool g)=>Yr g (exec X n Λ (2*p) a σ k) (exec X n Λ (2*p+1) b σ k)
   |_=>Ye
  |.block id a=>
   exec X n Λ (2*p) a σ λe σ'=>
    match e with
    |.exit Gw=>bif Ym Gw id then k .normal σ' else k (.exit Gw) σ'
    |e=>k e σ'
  |.scope a=>exec X n Λ (2*p) a σ k
  |.label _=>k .normal σ
  |.exit id=>k (.exit id) σ
  |.ret=>k .ret σ
  |.loop a=>Wy (λσ' k'=>exec X n (λ_=>Ye) 1 a σ' k') X.N σ k
  |_=>Ye
end
end
end Go.Lift
namespace Go.Lift
open Go.RowKit
def Blk.live:Blk->Ys
 |.dead=>Yc
 |_=>Yo
def Own(pl:Yk->Yb Pl)(bl:Yk->Yb Blk)(g:Yk):Prop:=
 ∃i B p,bl i=Yd B/\B.live=Yo/\pl i=Yd p/\p.has g
structure OK0 (P:Yv) where
 f:Yk->Prop
 no:Yk->Prop
 ds:Ya Deferred
instance{P:Yv}:CoeFun (OK0 P) (λ_=>Yk->Prop):=⟨OK0.f⟩
def S4:Ya (String×YP×Ya Yi):=[("internal/strconv.uint64pow10",.u64,Lib.pow10Tab),("strings.asciiSpace",.u8,Lib.asciiSpaceTab)]
def S5:Ya String:=["strconv.ErrSyntax", "strconv.ErrRange"]
def ReadsAt(w:Yx)(b o:Yk)(vs:Ya Yp):Prop:=∀i v,vs[i]?=Yd v->w.cell? ⟨b,o+i,Ye⟩=Yd v
def Wz(g:Yk)(w:Yx):Prop:=
 ∃T oT R oR,ReadsAt w g 0 [.pointer (Yd ⟨T,oT,Ye⟩)]/\ReadsAt w T oT [.slice (Yd ⟨R,oR,Ye⟩) 7 7,.slice Ye 0 0,.int .i64 2]/\ReadsAt w R oR (Lib.whiteT.map λz:Yk=>Value.int .u16 (z:Yi))
structure Opened (P:Yv) (w:Yx):Prop where
 open_:w.ShapedOpen P
 tabs:∀x∈S4,(P.globalNamed x.1).isSome=Yo->Lib.TabIs P w x.1 x.2.1 x.2.2
 errs:∀n∈S5,(P.globalNamed n).isSome=Yo->∃t u,w.var? P n=Yd #[.iface t u]
 white:∀g,P.globalNamed "unicode.White_Space"=Yd g->Wz g w
def Glob0(P:Yv)(no:Yk->Prop)(pl:Yk->Yb Pl)(bl:Yk->Yb Blk)(w:Yx):Prop:=
 ∃w0:Yx,Opened P w0/\w0.heap.size<=w.heap.size/\(∀g,g<w0.heap.size->w.heap[g]?=w0.heap[g]?/\¬Own pl bl g)/\∀g,no g->w0.heap.size<=g
def GlobR(P:Yv)(own:Yb Yk)(w:Yx):Prop:=
 ∃w0:Yx,Opened P w0/\w0.heap.size<=w.heap.size/\∀g,g<w0.heap.size->w.heap[g]?=w0.heap[g]?/\own≠Yd g
theorem GlobR.glob{P:Yv}{pl:Yk->Yb Pl}{bl:Yk->Yb Blk}{w:Yx}{own:Yb Yk}(h:GlobR P own w)(ho:∀g,Own pl bl g->own=Yd g):Glob0 P (λ_=>False) pl bl w:=by obtain⟨w0,h1,h2,h3⟩:=h;exact⟨w0,h1,h2,λg hl=>⟨(h3 g hl).1,λq=>(h3 g hl).2 (ho g q)⟩,λ_ h=>h.elim⟩
theorem Glob0.gen{P:Yv}{no Amc:Yk->Prop}{pl Ac:Yk->Yb Pl}{bl bl':Yk->Yb Blk}{w w':Yx}(h:Glob0 P no pl bl w)(hs:w.heap.size<=w'.heap.size)(ho:∀g,g<w.heap.size->¬Own pl bl g->¬no g->w'.heap[g]?=w.heap[g]?/\¬Own Ac bl' g)(hn:∀g,Amc g->no g\/Own pl bl g\/w.heap.size<=g):Glob0 P Amc Ac bl' w':=by
 obtain⟨w0,h1,h2,h3,h4⟩:=h;refine⟨w0,h1,BH h2 hs,λg hl=>?_,λg hg=>?_⟩
 ·obtain⟨a,b⟩:=h3 g hl
  obtain⟨c,d⟩:=ho g (Ij hl h2) b λhn=>Yw (h4 g hn) (Nat.not_le.2 hl);exact⟨c.trans a,d⟩
 ·rcases hn g hg with q|q|q
  ·exact h4 g q
  ·exact Nat.le_of_not_lt λhl=>(h3 g hl).2 q
  ·exact BH h2 q
structure Glob {P:Yv} (ok0:OK0 P) (pl:Yk->Yb Pl) (bl:Yk->Yb Blk) (w:Yx):Prop where
 g0:Glob0 P ok0.no pl bl w
 no:∀g,ok0.no g->g<w.heap.size/\¬Own pl bl g
section
variable{P:Yv}{ok0:OK0 P}{pl Ac:Yk->Yb Pl}{bl bl':Yk->Yb Blk}{w w':Yx}
theorem Glob.out(h:Glob ok0 pl bl w)(hs:w.heap.size<=w'.heap.size)(ho:∀g,g<w.heap.size->¬Own pl bl g->w'.heap[g]?=w.heap[g]?/\¬Own Ac bl' g):Glob ok0 Ac bl' w':=
 ⟨h.g0.gen hs (λg h1 h2 _=>ho g h1 h2) λ_ h=>.inl h,λg hn=>by obtain⟨h1,h2⟩:=h.no g hn;exact⟨Ij h1 hs,(ho g h1 h2).2⟩⟩
theorem Glob.mono(h:Glob ok0 pl bl w)(ho:∀g,Own Ac bl' g->Own pl bl g):Glob ok0 Ac bl' w:=h.out (Aw _) λg _ h1=>⟨rfl,λq=>h1 (ho g q)⟩
theorem Glob.row{own:Yb Yk}(h:Glob ok0 pl bl w)(ho:∀g,own=Yd g->Own pl bl g):GlobR P own w:=by obtain⟨w0,h1,h2,h3,_⟩:=h.g0;exact⟨w0,h1,h2,λg hl=>⟨(h3 g hl).1,λq=>(h3 g hl).2 (ho g q)⟩⟩
end
def Ak{P:Program}(ok0:OK0 P)(base:Nat)(pl:Nat->Option Pl)(bl:Nat->Option Blk)(w:World):Env:={w,ok:=λg=>(ok0 g\/(base<=g/\¬ok0.no g))/\¬Own pl bl g,base,pl,bl}
structure RelB {P:Yv} (ok0:OK0 P) (base:Yk) (pl:Yk->Yb Pl) (bl:Yk->Yb Blk) (w:Yx):Prop where
 baseLe:base<=w.heap.size
 blks:∀i B,bl i=Yd B->∃p,pl i=Yd p/\BRep (Ak ok0 base pl bl w) B p
 sep:∀i j B C p q g,i≠j->bl i=Yd B->bl j=Yd C->B.live=Yo->C.live=Yo->pl i=Yd p->pl j=Yd q->p.has g->¬q.has g
 fresh:∀i,bl i=Ye->pl i=Ye
 glob:Glob ok0 pl bl w
theorem RelB.ds{P:Yv}{ok0:OK0 P}{base:Yk}{pl:Yk->Yb Pl}{bl:Yk->Yb Blk}{w:Yx}(h:RelB ok0 base pl bl w)(d:Ya Deferred):RelB (⟨ok0.f,ok0.no,d⟩:OK0 P) base pl bl w:=
 ⟨h.baseLe,h.blks,h.sep,h.fresh,h.glob.g0,h.glob.no⟩
structure Step (pl:Yk->Yb Pl) (bl:Yk->Yb Blk) (w:Yx) (Ac:Yk->Yb Pl) (bl':Yk->Yb Blk) (w':Yx):Prop where
 os:w'.os=w.os
 tape:w'.tape=w.tape
 output:w'.output=w.output
 size:w.heap.size<=w'.heap.size
 out:∀g,g<w.heap.size->¬Own pl bl g->w'.heap[g]?=w.heap[g]?/\¬Own Ac bl' g
 cells:∀b g,pl b=Yd (.cells g)->Ac b=Yd (.cells g)
 rows:∀b sv Ab,pl b=Yd (.row sv Ab)->∃As Bf,Ac b=Yd (.row As Bf)/\KeepR (bl b) (bl' b) sv Ab As Bf
theorem Step.refl(pl:Yk->Yb Pl)(bl:Yk->Yb Blk)(w:Yx):Step pl bl w pl bl w:=
 ⟨rfl,rfl,rfl,Aw _,λ_ _ h=>⟨rfl,h⟩,λ_ _ h=>h,λ_ sv Ab h=>⟨sv,Ab,h,KeepR.refl _ _ _⟩⟩
theorem Step.trans{pl pl1 pl2:Yk->Yb Pl}{bl bl1 bl2:Yk->Yb Blk}{w w1 w2:Yx}(h:Step pl bl w pl1 bl1 w1)(k:Step pl1 bl1 w1 pl2 bl2 w2):Step pl bl w pl2 bl2 w2:=by
 refine⟨k.os.trans h.os,k.tape.trans h.tape,k.output.trans h.output,BH h.size k.size,λg hg ho=>?_,λb g hb=>k.cells b g (h.cells b g hb),λb sv Ab hb=>?_⟩
 ·obtain⟨h1,h2⟩:=h.out g hg ho
  obtain⟨k1,k2⟩:=k.out g (Ij hg h.size) h2;exact⟨k1.trans h1,k2⟩
 ·obtain⟨sv1,MC,p1,r1⟩:=h.rows b sv Ab hb
  obtain⟨sv2,JD,p2,r2⟩:=k.rows b sv1 MC p1;exact⟨sv2,JD,p2,r1.trans r2⟩
structure StepM (m:Yk) (pl:Yk->Yb Pl) (bl:Yk->Yb Blk) (w:Yx) (Ac:Yk->Yb Pl) (bl':Yk->Yb Blk) (w':Yx):Prop where
 os:w'.os=w.os
 tape:w'.tape=w.tape
 output:w'.output=w.output
 size:w.heap.size<=w'.heap.size
 out:∀g,g<w.heap.size->¬Own pl bl g->w'.heap[g]?=w.heap[g]?/\¬Own Ac bl' g
 cells:∀b g,b<m->pl b=Yd (.cells g)->Ac b=Yd (.cells g)
 rows:∀b sv Ab,b<m->pl b=Yd (.row sv Ab)->∃As Bf,Ac b=Yd (.row As Bf)
theorem Step.toM{m:Yk}{pl Ac:Yk->Yb Pl}{bl bl':Yk->Yb Blk}{w w':Yx}(h:Step pl bl w Ac bl' w'):StepM m pl bl w Ac bl' w':=
 ⟨h.os,h.tape,h.output,h.size,h.out,λb g _=>h.cells b g,λb sv Ab _ hb=>by obtain⟨As,Bf,h1,_⟩:=h.rows b sv Ab hb;exact⟨As,Bf,h1⟩⟩
theorem StepM.refl(m:Yk)(pl:Yk->Yb Pl)(bl:Yk->Yb Blk)(w:Yx):StepM m pl bl w pl bl w:=(Step.refl pl bl w).toM
theorem StepM.trans{m:Yk}{pl pl1 pl2:Yk->Yb Pl}{bl bl1 bl2:Yk->Yb Blk}{w w1 w2:Yx}(h:StepM m pl bl w pl1 bl1 w1)(k:StepM m pl1 bl1 w1 pl2 bl2 w2):StepM m pl bl w pl2 bl2 w2:=by
 refine⟨k.os.trans h.os,k.tape.trans h.tape,k.output.trans h.output,BH h.size k.size,λg hg ho=>?_,λb g hm hb=>k.cells b g hm (h.cells b g hm hb),λb sv Ab hm hb=>?_⟩
 ·obtain⟨h1,h2⟩:=h.out g hg ho
  obtain⟨k1,k2⟩:=k.out g (Ij hg h.size) h2;exact⟨k1.trans h1,k2⟩
 ·obtain⟨As,Bf,h1⟩:=h.rows b sv Ab hm hb
  exact k.rows b As Bf hm h1
theorem Step.ext{P:Yv}{ok0:OK0 P}{base:Yk}{pl Ac:Yk->Yb Pl}{bl bl':Yk->Yb Blk}{w w':Yx}(h:Step pl bl w Ac bl' w'):Ext (Ak ok0 base pl bl w) (Ak ok0 base Ac bl' w'):=
 ⟨Aw _,λg hg Ae=>⟨⟨hg.1,(h.out g Ae hg.2).2⟩,(h.out g Ae hg.2).1⟩,h.cells,h.rows⟩
def upd{α:Type}(f:Yk->Yb α)(i:Yk)(x:α):Yk->Yb α:=λj=>if j=i then Yd x else f j
def updL{α:Type}(f:Yk->Yb α):Ya (Yk×α)->Yk->Yb α
 |[]=>f
 |(i,x)::r=>updL (upd f i x) r
theorem fE{α:Type}:∀(r l:Ya (Yk×α)),look (puts l r)=updL (look l) r
 |[],_=>rfl
 |(i,x)::r,l=>by rw[puts,fE r,updL];congr 1;funext j;rw[So,upd]
def OpOk(P:Yv)(o:Oper)(ρ:Y0->V)(bl:Yk->Yb Blk)(v:V)(wr:Ya (Yk×Blk)):Prop:=
 ∀(ok0:OK0 P)(base:Yk)(pl:Yk->Yb Pl)(w:Yx)(a:Act),RelB ok0 base pl bl w->
  (∀x∈o.op.operands,VRep (Ak ok0 base pl bl w) (ρ x) (a.eval x))->
  ∀(K:Act->Yx->Prop)(Q:Exit->Act->Yx->Prop),
   (∀val Ac w',RelB ok0 base Ac (updL bl wr) w'->Step pl bl w Ac (updL bl wr) w'->VRep (Ak ok0 base Ac (updL bl wr) w') v val->K (a.put o.dst val) w')->
   o.wp P a w K Q
section
variable{P:Yv}{o:Oper}{ρ:Y0->V}{bl:Yk->Yb Blk}{v:V}
theorem HD{a:Act}{w w':Yx}{val:Yp}(h:(Y1 a.eval o).run P w=.ok (.value val) w'){K:Act->Yx->Prop}{Q:Exit->Act->Yx->Prop}(hk:K (a.put o.dst val) w'):o.wp P a w K Q:=by unfold Yan;rw[h];exact hk
theorem MR{a:Act}{w w':Yx}(h:(Y1 a.eval o).run P w=.ok .skip w'){K:Act->Yx->Prop}{Q:Exit->Act->Yx->Prop}(hk:K (a.put o.dst undef) w'):o.wp P a w K Q:=by unfold Yan;rw[h];exact hk
theorem OpOk.of_pure(h:∀(ok0:OK0 P)(base:Yk)(pl:Yk->Yb Pl)(w:Yx)(a:Act),RelB ok0 base pl bl w->(∀x∈o.op.operands,VRep (Ak ok0 base pl bl w) (ρ x) (a.eval x))->∃val,(Y1 a.eval o).run P w=.ok (.value val) w/\VRep (Ak ok0 base pl bl w) v val):OpOk P o ρ bl v []:=by
 intro ok0 base pl w a hr hx K Q hk;obtain⟨val,h1,h2⟩:=h ok0 base pl w a hr hx;exact HD h1 (hk val pl w hr (Step.refl pl bl w) h2)
end
section
variable{P:Yv}{ok0:OK0 P}{base:Yk}{pl:Yk->Yb Pl}{bl:Yk->Yb Blk}{w:Yx}
theorem RelB.put(hr:RelB ok0 base pl bl w){i:Yk}{B:Blk}{p:Pl}{w':Yx}(hs:Step pl bl w (upd pl i p) (upd bl i B) w')(hB:BRep (Ak ok0 base (upd pl i p) (upd bl i B) w') B p)(hg:∀j C q g,j≠i->bl j=Yd C->C.live=Yo->pl j=Yd q->q.has g->w'.heap[g]?=w.heap[g]?/\¬p.has g):RelB ok0 base (upd pl i p) (upd bl i B) w':=by
 refine⟨BH hr.baseLe hs.size,λj C hC=>?_,λj k C D q r g bS hC hD hlC hlD hq AR Bh=>?_,λj hj=>?_,hr.glob.out hs.size hs.out⟩
 ·by_cases hj:j=i
  ·subst hj
   simp only[upd,CR,Af]at hC;subst hC;exact⟨p,by simp[upd],hB⟩
  ·simp only[upd,hj,Cb]at hC⊢
   obtain⟨q,hq,hBq⟩:=hr.blks j C hC;refine⟨q,hq,?_⟩;cases hl:C.live with
   |false=>cases C<;>first|exact trivial|simp[Blk.live]at hl
   |true=>exact BRep.mono hs.ext hBq λg Bh=>(hg j C q g hj hC hl hq Bh).1
 ·by_cases hj:j=i
  ·by_cases hk:k=i
   ·exact Yw (hj.trans hk.symm) bS
   ·subst hj
    simp only[upd,CR,Af,hk,Cb]at hC hD hq AR;subst hC hq;intro NF;exact(hg k D r g hk hD hlD AR NF).2 Bh
  ·by_cases hk:k=i
   ·subst hk
    simp only[upd,CR,Af,hj,Cb]at hC hD hq AR;subst hD AR;exact(hg j C q g hj hC hlC hq Bh).2
   ·simp only[upd,hj,hk,Cb]at hC hD hq AR
    exact hr.sep j k C D q r g bS hC hD hlC hlD hq AR Bh
 ·by_cases Ha:j=i
  ·subst Ha;simp[upd]at hj
  ·simp only[upd,Ha,Cb]at hj⊢
   exact hr.fresh j hj
theorem Own.lt(hr:RelB ok0 base pl bl w){g:Yk}(h:Own pl bl g):g<w.heap.size:=by
 obtain⟨i,B,p,hB,hl,hp,hg⟩:=h;obtain⟨q,hq,hR⟩:=hr.blks i B hB;rw[hp]at hq;injection hq with hq;subst hq;cases B with
 |dead=>simp[Blk.live]at hl
 |cells t cs=>
  cases p with
  |row _ _=>exact hR.elim
  |cells g'=>obtain⟨vs,h1,_⟩:=hR;have hg:g'=g:=hg;subst hg;exact(Fb.1 h1).1
 |map t k v vg l=>
  cases p with
  |row _ _=>exact hR.elim
  |cells g'=>obtain⟨es,Ch,h1,_⟩:=hR;have hg:g'=g:=hg;subst hg;exact(Fb.1 h1).1
 |fmap t l=>
  cases p with
  |row _ _=>exact hR.elim
  |cells g'=>obtain⟨es,Ch,h1,_⟩:=hR;have hg:g'=g:=hg;subst hg;exact(Fb.1 h1).1
 |crow t e n cs=>
  cases p with
  |cells _=>exact hR.elim
  |row sv Ab=>obtain⟨rfl,vs,_,h2⟩:=hR;exact(h2.lt g (Pl.has_row hg)).2
 |row t e ver l=>
  cases p with
  |cells _=>exact hR.elim
  |row sv Ab=>obtain⟨h0,xs,_,h2⟩:=hR;subst h0;exact(h2.lt g (Pl.has_row hg)).2
 |mat t et e ver Am hole l=>
  cases p with
  |cells _=>exact hR.elim
  |row sv Ab=>
   have hR:MatOk _ t et e hole l sv Ab:=hR;rcases hg with hg|⟨i,s,hs,hg⟩
   ·obtain⟨vs,h1,_⟩:=hR.outer
    exact(h1.lt g hg).2
   ·have Ae:i<l.length:=by rw[<-hR.len];exact(Do.1 hs).1
    obtain⟨xs,_,h2⟩:=hR.inner i s l[i] hs (C0 Ae);exact(h2.lt g hg).2
 |tree t e ver Am hole l=>
  cases p with
  |cells _=>exact hR.elim
  |row sv Ab=>have hR:TreeOk _ t e hole l sv Ab:=hR;obtain⟨hv,F,h1,h2,_⟩:=hR.rep;obtain⟨s,hs,hg⟩:=h2.of_has hg;exact(h1.lt s hs g hg).2
theorem Step.new(hr:RelB ok0 base pl bl w){i:Yk}(hi:bl i=Ye){B:Blk}{p:Pl}{w':Yx}(hg:w.grownBy w' Ye)(hp:∀g,p.has g->w.heap.size<=g):Step pl bl w (upd pl i p) (upd bl i B) w':=by
 have AB:=hr.fresh i hi;refine⟨hg.os,hg.tape,hg.output,hg.size,λg Ae ho=>⟨hg.block g Ae (by simp),?_⟩,λb g hb=>?_,λb sv Ab hb=>?_⟩
 ·rintro⟨j,C,q,hC,hl,hq,Bh⟩
  by_cases hj:j=i
  ·subst hj
   simp only[upd,CR,Af]at hC hq;subst hq;have:=hp g Bh;omega
  ·simp only[upd,hj,Cb]at hC hq
   exact ho ⟨j,C,q,hC,hl,hq,Bh⟩
 ·have C9:b≠i:=by rintro rfl;rw[AB]at hb;cases hb
  simp[upd,C9,hb]
 ·have C9:b≠i:=by rintro rfl;rw[AB]at hb;cases hb
  exact⟨sv,Ab,by simp[upd,C9,hb],KeepR.of_eq (λC hC=>by simpa [upd,C9]using hC) _ _⟩
theorem RelB.new(hr:RelB ok0 base pl bl w){i:Yk}(hi:bl i=Ye){B:Blk}{p:Pl}{w':Yx}(hg:w.grownBy w' Ye)(hp:∀g,p.has g->w.heap.size<=g)(hB:BRep (Ak ok0 base (upd pl i p) (upd bl i B) w') B p):RelB ok0 base (upd pl i p) (upd bl i B) w':=by
 refine hr.put (Step.new hr hi hg hp) hB λj C q g hj hC hl hq Bh=>?_;have Ae:g<w.heap.size:=Own.lt hr ⟨j,C,q,hC,hl,hq,Bh⟩;refine⟨hg.block g Ae (by simp),λC7=>?_⟩;have:=hp g C7;omega
theorem Step.grownP(_hr:RelB ok0 base pl bl w){i:Yk}{B B':Blk}(hi:bl i=Yd B)(bY:B.live=Yo){sv As:Yp}{Ab Bf:Ya (Yb Yp)}(AB:pl i=Yd (.row sv Ab)){w':Yx}{og:Yb Yk}(hg:w.grownBy w' og)(H3:∀g,og=Yd g->(Pl.row sv Ab).has g)(hv:∀g,(Pl.row As Bf).has g->(Pl.row sv Ab).has g\/w.heap.size<=g)(hk:KeepR (Yd B) (Yd B') sv Ab As Bf):Step pl bl w (upd pl i (.row As Bf)) (upd bl i B') w':=by
 have Ah:∀g,(Pl.row sv Ab).has g->Own pl bl g:=λg h=>⟨i,_,_,hi,bY,AB,h⟩;refine⟨hg.os,hg.tape,hg.output,hg.size,λg Ae ho=>⟨hg.block g Ae (λh=>ho (Ah g (H3 g h.symm))),?_⟩,λb g hb=>?_,λb sv0 VL hb=>?_⟩
 ·rintro⟨j,C,q,hC,hl,hq,Bh⟩
  by_cases hj:j=i
  ·subst hj
   simp only[upd,CR,Af]at hC hq;subst hq;rcases hv g Bh with hv|hv
   ·exact ho (Ah g hv)
   ·omega
  ·simp only[upd,hj,Cb]at hC hq
   exact ho ⟨j,C,q,hC,hl,hq,Bh⟩
 ·have C9:b≠i:=by rintro rfl;rw[AB]at hb;cases hb
  simp[upd,C9,hb]
 ·by_cases C9:b=i
  ·subst C9
   rw[AB]at hb;injection hb with hb;injection hb with hb Aj;subst hb Aj;refine⟨As,Bf,by simp[upd],?_⟩;rw[hi];simpa [upd]using hk
  ·exact⟨sv0,VL,by simp[upd,C9,hb],KeepR.of_eq (λC hC=>by simpa [upd,C9]using hC) _ _⟩
theorem RelB.grownP(hr:RelB ok0 base pl bl w){i:Yk}{B B':Blk}(hi:bl i=Yd B)(bY:B.live=Yo){sv As:Yp}{Ab Bf:Ya (Yb Yp)}(AB:pl i=Yd (.row sv Ab)){w':Yx}{og:Yb Yk}(hg:w.grownBy w' og)(H3:∀g,og=Yd g->(Pl.row sv Ab).has g)(hv:∀g,(Pl.row As Bf).has g->(Pl.row sv Ab).has g\/w.heap.size<=g)(hk:KeepR (Yd B) (Yd B') sv Ab As Bf)(hB:BRep (Ak ok0 base (upd pl i (.row As Bf)) (upd bl i B') w') B' (.row As Bf)):RelB ok0 base (upd pl i (.row As Bf)) (upd bl i B') w':=by
 refine hr.put (Step.grownP hr hi bY AB hg H3 hv hk) hB λj C q g hj hC hl hq Bh=>?_;have Ae:g<w.heap.size:=Own.lt hr ⟨j,C,q,hC,hl,hq,Bh⟩;have Az:¬(Pl.row sv Ab).has g:=λh=>hr.sep j i _ _ _ _ g hj hC hi hl bY hq AB Bh h;refine⟨hg.block g Ae (λh=>Az (H3 g h.symm)),λC7=>?_⟩;rcases hv g C7 with hv|hv
 ·exact Az hv
 ·omega
theorem KeepR.ofRow{t:Yq}{e:Ty}{ver ver':Yk}{l l':Ya e.den}{sv As:Yp}{Ab Bf:Ya (Yb Yp)}(AQ:ver<=ver'/\(ver=ver'->As=sv/\l'.length=l.length)):KeepR (Yd (.row t e ver l)) (Yd (.row t e ver' l')) sv Ab As Bf:=by
 constructor
 ·intro t1 e1 CM l1 h1
  simp only[Af]at h1;injection h1 with h2 h3 h4 h5;subst h2 h3 h4;simp only[Jj]at h5;subst h5;exact⟨ver,l,rfl,AQ.1,AQ.2⟩
 ·intro t1 et1 e1 CM H9 Vk l1 h1
  cases h1
 ·intro t1 e1 CM H9 Vk l1 h1
  cases h1
 ·intro t1 e1 n1 cs1 h1
  cases h1
theorem KeepR.ofTree{t:Yq}{e:OT}{ver ver' Am By:Yk}{hole Hc:Yb Path}{l l':Ya e.ty.den}{sv As:Yp}{Ab Bf:Ya (Yb Yp)}(AQ:ver<=ver'/\Am<=By/\(ver=ver'->As=sv/\KeepT (Am=By) t e hole Hc l l' sv Ab Bf)):KeepR (Yd (.tree t e ver Am hole l)) (Yd (.tree t e ver' By Hc l')) sv Ab As Bf:=by
 constructor
 ·intro t1 e1 CM l1 h1
  cases h1
 ·intro t1 et1 e1 CM H9 Vk l1 h1
  cases h1
 ·intro t1 e1 CM H9 Vk l1 h1
  simp only[Af]at h1;injection h1 with h2 h3 h4 h5 h6 h7;subst h2 h3 h4 h5 h6;simp only[Jj]at h7;subst h7;exact⟨ver,Am,hole,l,rfl,AQ.1,AQ.2.1,AQ.2.2⟩
 ·intro t1 e1 n1 cs1 h1
  cases h1
theorem KeepR.ofCrow{t:Yq}{e:Ty}{n:Yk}{cs cs':Ya C}{sv:Yp}{Ab Bf:Ya (Yb Yp)}:KeepR (Yd (.crow t e n cs)) (Yd (.crow t e n cs')) sv Ab sv Bf:=
 ⟨λ_ _ _ _ h=>(by cases h),λ_ _ _ _ _ _ _ h=>(by cases h),λ_ _ _ _ _ _ h=>(by cases h),λ_ _ _ _ h=>(by
  injection h with h;injection h with h1 h2 h3 h4;subst h1 h2 h3;exact⟨cs,rfl,rfl⟩)⟩
theorem KeepR.ofDead{B:Yb Blk}{sv As:Yp}{Ab Bf:Ya (Yb Yp)}:KeepR B (Yd .dead) sv Ab As Bf:=
 ⟨λ_ _ _ _ h=>(by cases h),λ_ _ _ _ _ _ _ h=>(by cases h),λ_ _ _ _ _ _ h=>(by cases h),λ_ _ _ _ h=>(by cases h)⟩
theorem Step.grown(_hr:RelB ok0 base pl bl w){i:Yk}{t:Yq}{e:Ty}{ver ver':Yk}{l l':Ya e.den}(hi:bl i=Yd (.row t e ver l)){sv As:Yp}(AB:pl i=Yd (.row sv [])){w':Yx}(hg:w.grownBy w' sv.ownBlock)(hv:As.ownBlock=sv.ownBlock\/∀g,As.ownBlock=Yd g->w.heap.size<=g)(AQ:ver<=ver'/\(ver=ver'->As=sv/\l'.length=l.length)):Step pl bl w (upd pl i (.row As [])) (upd bl i (.row t e ver' l')) w':=
 Step.grownP _hr hi rfl AB hg (λg h=>.inl h) (λg h=>by
  have h:=Pl.has_row h;rcases hv with hv|hv
  ·exact .inl (.inl (hv▸h))
  ·exact .inr (hv g h)) (KeepR.ofRow AQ)
theorem RelB.grown(hr:RelB ok0 base pl bl w){i:Yk}{t:Yq}{e:Ty}{ver ver':Yk}{l l':Ya e.den}(hi:bl i=Yd (.row t e ver l)){sv As:Yp}(AB:pl i=Yd (.row sv [])){w':Yx}(hg:w.grownBy w' sv.ownBlock)(hv:As.ownBlock=sv.ownBlock\/∀g,As.ownBlock=Yd g->w.heap.size<=g)(AQ:ver<=ver'/\(ver=ver'->As=sv/\l'.length=l.length))(hB:BRep (Ak ok0 base (upd pl i (.row As [])) (upd bl i (.row t e ver' l')) w') (.row t e ver' l') (.row As [])):RelB ok0 base (upd pl i (.row As [])) (upd bl i (.row t e ver' l')) w':=
 RelB.grownP hr hi rfl AB hg (λg h=>.inl h) (λg h=>by
  have h:=Pl.has_row h;rcases hv with hv|hv
  ·exact .inl (.inl (hv▸h))
  ·exact .inr (hv g h)) (KeepR.ofRow AQ) hB
theorem Step.wroteB(_hr:RelB ok0 base pl bl w){i g0:Yk}{B B':Blk}(hi:bl i=Yd B)(hl:B.live=Yo)(AB:pl i=Yd (.cells g0)){w':Yx}(hg:w.grownBy w' (Yd g0)):Step pl bl w (upd pl i (.cells g0)) (upd bl i B') w':=by
 have Ah:Own pl bl g0:=⟨i,_,_,hi,hl,AB,rfl⟩;refine⟨hg.os,hg.tape,hg.output,hg.size,λg Ae ho=>⟨hg.block g Ae (λh=>ho (by injection h with h;subst h;exact Ah)),?_⟩,λb g hb=>?_,λb sv0 VL hb=>?_⟩
 ·rintro⟨j,C,q,hC,hl,hq,Bh⟩
  by_cases hj:j=i
  ·subst hj
   simp only[upd,CR,Af]at hC hq;subst hq;have Bh:g0=g:=Bh;subst Bh;exact ho Ah
  ·simp only[upd,hj,Cb]at hC hq
   exact ho ⟨j,C,q,hC,hl,hq,Bh⟩
 ·by_cases C9:b=i
  ·subst C9;rw[AB]at hb;simpa [upd]using hb
  ·simp[upd,C9,hb]
 ·have C9:b≠i:=by rintro rfl;rw[AB]at hb;cases hb
  exact⟨sv0,VL,by simp[upd,C9,hb],KeepR.of_eq (λC hC=>by simpa [upd,C9]using hC) _ _⟩
theorem RelB.wroteB(hr:RelB ok0 base pl bl w){i g0:Yk}{B B':Blk}(hi:bl i=Yd B)(EN:B.live=Yo)(AB:pl i=Yd (.cells g0)){w':Yx}(hg:w.grownBy w' (Yd g0))(hB:BRep (Ak ok0 base (upd pl i (.cells g0)) (upd bl i B') w') B' (.cells g0)):RelB ok0 base (upd pl i (.cells g0)) (upd bl i B') w':=by
 refine hr.put (Step.wroteB hr hi EN AB hg) hB λj C q g hj hC hl hq Bh=>?_;have Ae:g<w.heap.size:=Own.lt hr ⟨j,C,q,hC,hl,hq,Bh⟩;have Az:g0≠g:=λh=>hr.sep j i _ _ _ _ g hj hC hi hl EN hq AB Bh h;exact⟨hg.block g Ae (λh=>Az (by injection h with h;exact h.symm)),λC7=>Az C7⟩
theorem Step.wrote(hr:RelB ok0 base pl bl w){i g0:Yk}{t:Yq}{cs cs':Ya C}(hi:bl i=Yd (.cells t cs))(AB:pl i=Yd (.cells g0)){w':Yx}(hg:w.grownBy w' (Yd g0)):Step pl bl w (upd pl i (.cells g0)) (upd bl i (.cells t cs')) w':=Step.wroteB hr hi rfl AB hg
theorem RelB.wrote(hr:RelB ok0 base pl bl w){i g0:Yk}{t:Yq}{cs cs':Ya C}(hi:bl i=Yd (.cells t cs))(AB:pl i=Yd (.cells g0)){w':Yx}(hg:w.grownBy w' (Yd g0))(hB:BRep (Ak ok0 base (upd pl i (.cells g0)) (upd bl i (.cells t cs')) w') (.cells t cs') (.cells g0)):RelB ok0 base (upd pl i (.cells g0)) (upd bl i (.cells t cs')) w':=RelB.wroteB hr hi rfl AB hg hB
def Cu(pl:Yk->Yb Pl)(bl:Yk->Yb Blk)(i g:Yk):Prop:=∃B p,bl i=Yd B/\B.live=Yo/\pl i=Yd p/\p.has g
theorem Step.two(_hr:RelB ok0 base pl bl w){i j:Yk}(Du:i≠j){Bi Bj:Blk}{pi pj:Pl}{w':Yx}{og:Yb Yk}(hg:w.grownBy w' og)(H3:∀g,og=Yd g->Cu pl bl i g\/Cu pl bl j g)(hi:∀g,Bi.live=Yo->pi.has g->Cu pl bl i g\/Cu pl bl j g\/w.heap.size<=g)(hj:∀g,Bj.live=Yo->pj.has g->Cu pl bl i g\/Cu pl bl j g\/w.heap.size<=g)(ADg:∀g,pl i=Yd (.cells g)->pi=.cells g)(UB:∀g,pl j=Yd (.cells g)->pj=.cells g)(Vu:∀sv Ab,pl i=Yd (.row sv Ab)->∃As Bf,pi=.row As Bf/\KeepR (bl i) (Yd Bi) sv Ab As Bf)(AEl:∀sv Ab,pl j=Yd (.row sv Ab)->∃As Bf,pj=.row As Bf/\KeepR (bl j) (Yd Bj) sv Ab As Bf):Step pl bl w (upd (upd pl i pi) j pj) (upd (upd bl i Bi) j Bj) w':=by
 have hOwn:∀k g,Cu pl bl k g->Own pl bl g:=λk g ⟨B,p,h1,h2,h3,h4⟩=>⟨k,B,p,h1,h2,h3,h4⟩;refine⟨hg.os,hg.tape,hg.output,hg.size,λg Ae ho=>⟨hg.block g Ae (λh=>?_),?_⟩,λb g hb=>?_,λb sv Ab hb=>?_⟩
 ·rcases H3 g h.symm with h|h
  ·exact ho (hOwn i g h)
  ·exact ho (hOwn j g h)
 ·rintro⟨k,C,q,hC,hl,hq,Bh⟩
  by_cases DO:k=j
  ·subst DO
   simp only[upd,CR,Af]at hC hq;subst hq hC;rcases hj g hl Bh with h|h|h
   ·exact ho (hOwn i g h)
   ·exact ho (hOwn k g h)
   ·omega
  ·by_cases EY:k=i
   ·subst EY
    simp only[upd,DO,Cb,CR,Af]at hC hq;subst hq hC;rcases hi g hl Bh with h|h|h
    ·exact ho (hOwn k g h)
    ·exact ho (hOwn j g h)
    ·omega
   ·simp only[upd,DO,EY,Cb]at hC hq
    exact ho ⟨k,C,q,hC,hl,hq,Bh⟩
 ·by_cases DO:b=j
  ·subst DO;simp[upd,UB g hb]
  ·by_cases EY:b=i
   ·subst EY;simp[upd,DO,ADg g hb]
   ·simp[upd,DO,EY,hb]
 ·by_cases DO:b=j
  ·subst DO
   obtain⟨As,Bf,h1,h2⟩:=AEl sv Ab hb;exact⟨As,Bf,by simp[upd,h1],by simpa [upd]using h2⟩
  ·by_cases EY:b=i
   ·subst EY
    obtain⟨As,Bf,h1,h2⟩:=Vu sv Ab hb;exact⟨As,Bf,by simp[upd,DO,h1],by simpa [upd,DO]using h2⟩
   ·exact⟨sv,Ab,by simp[upd,DO,EY,hb],KeepR.of_eq (λC hC=>by simpa [upd,DO,EY]using hC) _ _⟩
theorem RelB.two(hr:RelB ok0 base pl bl w){i j:Yk}(Du:i≠j){Bi Bj:Blk}{pi pj:Pl}{w':Yx}{og:Yb Yk}(hg:w.grownBy w' og)(H3:∀g,og=Yd g->Cu pl bl i g\/Cu pl bl j g)(hi:∀g,Bi.live=Yo->pi.has g->Cu pl bl i g\/Cu pl bl j g\/w.heap.size<=g)(hj:∀g,Bj.live=Yo->pj.has g->Cu pl bl i g\/Cu pl bl j g\/w.heap.size<=g)(hd:∀g,Bi.live=Yo->Bj.live=Yo->pi.has g->¬pj.has g)(hs:Step pl bl w (upd (upd pl i pi) j pj) (upd (upd bl i Bi) j Bj) w')(hBi:BRep (Ak ok0 base (upd (upd pl i pi) j pj) (upd (upd bl i Bi) j Bj) w') Bi pi)(hBj:BRep (Ak ok0 base (upd (upd pl i pi) j pj) (upd (upd bl i Bi) j Bj) w') Bj pj):RelB ok0 base (upd (upd pl i pi) j pj) (upd (upd bl i Bi) j Bj) w':=by
 have KN:∀k C q g,k≠i->k≠j->bl k=Yd C->C.live=Yo->pl k=Yd q->q.has g->w'.heap[g]?=w.heap[g]?/\(Bi.live=Yo->¬pi.has g)/\(Bj.live=Yo->¬pj.has g):=by
  intro k C q g EY DO hC hl hq Bh;have Ae:g<w.heap.size:=Own.lt hr ⟨k,C,q,hC,hl,hq,Bh⟩;have M1:∀m,k≠m->¬Cu pl bl m g:=λm hm ⟨B,p,h1,h2,h3,h4⟩=>hr.sep k m C B q p g hm hC h1 hl h2 hq h3 Bh h4;refine⟨hg.block g Ae (λh=>?_),λwW h=>?_,λADI h=>?_⟩
  ·rcases H3 g h.symm with h|h
   ·exact M1 i EY h
   ·exact M1 j DO h
  ·rcases hi g wW h with h|h|h
   ·exact M1 i EY h
   ·exact M1 j DO h
   ·omega
  ·rcases hj g ADI h with h|h|h
   ·exact M1 i EY h
   ·exact M1 j DO h
   ·omega
 have An:∀k,upd (upd bl i Bi) j Bj k=if k=j then Yd Bj else if k=i then Yd Bi else bl k:=λk=>rfl;have Bk:∀k,upd (upd pl i pi) j pj k=if k=j then Yd pj else if k=i then Yd pi else pl k:=λk=>rfl;refine⟨BH hr.baseLe hs.size,λk C hC=>?_,λk m C D q r g J5 hC hD hlC hlD hq AR Bh=>?_,λk hk=>?_,hr.glob.out hs.size hs.out⟩
 ·by_cases DO:k=j
  ·subst DO
   simp only[upd,CR,Af]at hC;subst hC;exact⟨pj,by simp[upd],hBj⟩
  ·by_cases EY:k=i
   ·subst EY
    simp only[upd,DO,Cb,CR,Af]at hC;subst hC;exact⟨pi,by simp[upd,DO],hBi⟩
   ·simp only[upd,DO,EY,Cb]at hC⊢
    obtain⟨q,hq,hBq⟩:=hr.blks k C hC;refine⟨q,hq,?_⟩;cases hl:C.live with
    |false=>cases C<;>first|exact trivial|simp[Blk.live]at hl
    |true=>exact BRep.mono hs.ext hBq λg Bh=>(KN k C q g EY DO hC hl hq Bh).1
 ·rw[An]at hC hD
  rw[Bk]at hq AR;by_cases DO:k=j
  ·subst DO
   have Po:m≠k:=λh=>J5 h.symm;simp only[CR,Po,Cb,Af]at hC hD hq AR;subst hC hq;by_cases R2:m=i
   ·subst R2
    simp only[CR,Af]at hD AR;subst hD AR;exact λh=>hd g hlD hlC h Bh
   ·simp only[R2,Cb]at hD AR
    exact λh=>(KN m D r g R2 Po hD hlD AR h).2.2 hlC Bh
  ·by_cases EY:k=i
   ·subst EY
    simp only[DO,Cb,CR,Af]at hC hq;subst hC hq;by_cases Pn:m=j
    ·subst Pn
     simp only[CR,Af]at hD AR;subst hD AR;exact hd g hlC hlD Bh
    ·have Po:m≠k:=λh=>J5 h.symm
     simp only[Pn,Po,Cb]at hD AR;exact λh=>(KN m D r g Po Pn hD hlD AR h).2.1 hlC Bh
   ·simp only[DO,EY,Cb]at hC hq
    by_cases Pn:m=j
    ·subst Pn
     simp only[CR,Af]at hD AR;subst hD AR;exact(KN k C q g EY DO hC hlC hq Bh).2.2 hlD
    ·by_cases R2:m=i
     ·subst R2
      simp only[Pn,Cb,CR,Af]at hD AR;subst hD AR;exact(KN k C q g EY DO hC hlC hq Bh).2.1 hlD
     ·simp only[Pn,R2,Cb]at hD AR
      exact hr.sep k m C D q r g J5 hC hD hlC hlD hq AR Bh
 ·rw[An]at hk
  rw[Bk];by_cases DO:k=j
  ·simp[DO]at hk
  ·by_cases EY:k=i
   ·simp[EY]at hk
    split at hk<;>cases hk
   ·simp only[DO,EY,Cb]at hk⊢
    exact hr.fresh k hk
end
end Go.Lift
namespace Go.Lift
open Go.RowKit
def Jm(P:Yv)(t:Yq):Ys:=
 match P.underlying t with
 |some (.struct _)|some (.array _ _)=>Yo
 |_=>Yc
def tyOf(P:Yv):Yk->Yq->Yb Ty
 |0,_=>Ye
 |n+1,t=>
  match P.underlying t with
  |some .bool=>Yd .bool
  |some (.int k)=>Yd (.int k)
  |some .string=>Yd .str
  |some (.interface ms)=>bif Yf (ms=P.methodsAt t)then Yd .err else Ye
  |some (.slice e)=>(tyOf P n e).map .slice
  |some (.struct fs)=>many (fs.toList.map λf=>tyOf P n f.type)
  |some (.array m e)=>many (Y8 m (tyOf P n e))
  |_=>Ye
 where
 many:Ya (Yb Ty)->Yb Ty
  |[]=>Yd .unit
  |[t]=>t
  |some t::r=>(many r).map (.prod t)
  |none::_=>Ye
def zeroC(v:Yp):C:=
 match C.ofValue v with
 |some c=>c
 |none=>.junk
def Lh(P:Yv)(t:Yq):Yb BK:=
 match P.underlying t with
 |some .bool=>Yd .b
 |some (.int _)=>Yd .i
 |some .string=>Yd .s
 |_=>Ye
def S6(P:Yv):Yk->Ya Field->Yb (Ya BK)
 |_,[]=>Yd []
 |i,f::fs=>
  bif f.name != "_"&&Ym f.offset i then
   match Lh P f.type,S6 P (i+1) fs with
   |some k,Yd ks=>Yd (k::ks)
   |_,_=>Ye
  else Ye
def zT(P:Yv)(t:Yq):Yb (Ya BK):=
 match P.underlying t,P.info? t with
 |some (.struct gs),Yd i=>
  match S6 P 0 gs.toList with
  |some js=>bif !P.stoodInHeld t&&Ym i.size js.length then Yd js else Ye
  |none=>Ye
 |_,_=>Ye
def Qe(P:Yv):Yk->Ya Field->Yb (Ya BK)
 |_,[]=>Yd []
 |i,f::fs=>
  bif f.name != "_"&&Ym f.offset i then
   match Lh P f.type with
   |some k=>
    match Qe P (i+1) fs with
    |some ks=>Yd (k::ks)
    |none=>Ye
   |none=>
    match zT P f.type with
    |some js=>
     match Qe P (i+js.length) fs with
     |some ks=>Yd (js++ks)
     |none=>Ye
    |none=>Ye
  else Ye
def S7(P:Yv)(t:Yq):Yb (Ya BK):=
 match P.underlying t with
 |some (.struct fs)=>bif P.stoodInHeld t||P.eqGuardType P.depth t then Ye else Qe P 0 fs.toList
 |some (.array n e)=>
  match Lh P e with
  |some k=>bif Ym (P.cellsOf e) 1&&!P.eqGuardType P.depth t then Yd (Y8 n k)else Ye
  |none=>Ye
 |_=>Ye
def W0(P:Yv):YC->Ya (Yk×Yk×Ys)
 |.struct fs=>fs.toList.map λf=>(f.offset,P.cellsOf f.type,Jm P f.type)
 |_=>[]
def W6:YC->Yb Yq
 |.slice e=>Yd e
 |.array _ e=>Yd e
 |_=>Ye
def lenD:YC->Yb Yk
 |.array n _=>Yd n
 |_=>Ye
def Qf:YC->Yb YP
 |.int k=>Yd k
 |_=>Ye
def Qg(P:Yv):YC->Ys
 |.struct fs=>fs.toList.all λf=>(P.info? f.type).isSome&&(P.underlying f.type).isSome
 |.slice e=>(P.info? e).isSome&&(P.underlying e).isSome
 |.array _ e=>(P.info? e).isSome&&(P.underlying e).isSome
 |_=>Yo
def mpD:YC->Yb (Yq×Yq)
 |.map k v=>Yd (k,v)
 |_=>Ye
def W7:YC->Ys
 |.string=>Yo
 |_=>Yc
def W8:YC->Ys
 |.bool=>Yo
 |_=>Yc
def fF:YC->Ys
 |.pointer _=>Yo
 |_=>Yc
def S8:Yp->Ys
 |.agg _=>Yo
 |_=>Yc
def tiOf(P:Yv)(t:Yq):Yb TI:=
 match P.info? t,P.underlying t with
 |some i,Yd d=>
  match i.zero with
  |some z=>
   bif z.cells.toList.all (·.oneCell')&&(Ym z.cells.toList.length i.size&&(Qg P d&&(S8 z==Jm P t)))then
    Yd {
     agg:=Jm P t
     size:=i.size
     bytes:=i.bytes
     zero:=z.cells.toList.map zeroC
     flds:=W0 P d
     elem:=W6 d
     len:=lenD d
     ty:=tyOf P 12 t
     kind:=Qf d
     isBool:=W8 d
     isStr:=W7 d
     eqs:=S7 P t
     mp:=mpD d
     ptr:=fF d}
   else Ye
  |none=>Ye
 |_,_=>Ye
def TOk(P:Yv)(T:Yq->Yb TI):Prop:=∀t ti,T t=Yd ti->tiOf P t=Yd ti
structure TFacts (P:Yv) (t:Yq) (ti:TI) (i:TypeInfo) (d:YC) (z:Yp):Prop where
 info:P.info? t=Yd i
 under:P.underlying t=Yd d
 zero:i.zero=Yd z
 agg:ti.agg=Jm P t
 size:ti.size=i.size
 bytes:ti.bytes=i.bytes
 zeroC:ti.zero=z.cells.toList.map zeroC
 one:z.cells.toList.all (·.oneCell')=Yo
 len:z.cells.toList.length=i.size
 known:Qg P d=Yo
 flds:ti.flds=W0 P d
 elem:ti.elem=W6 d
 alen:ti.len=lenD d
 kind:ti.kind=Qf d
 isBool:ti.isBool=W8 d
 isStr:ti.isStr=W7 d
 eqs:ti.eqs=S7 P t
 mp:ti.mp=mpD d
 ptr:ti.ptr=fF d
 ty:ti.ty=tyOf P 12 t
 zagg:S8 z=Jm P t
theorem TOk.facts{P:Yv}{T:Yq->Yb TI}(h:TOk P T){t:Yq}{ti:TI}(ht:T t=Yd ti):∃i d z,TFacts P t ti i d z:=by
 have h1:=h t ti ht;unfold tiOf at h1;split at h1
 ·rename_i i d hi hd
  split at h1
  ·rename_i z hz
   cases hb:(z.cells.toList.all (·.oneCell')&&(Ym z.cells.toList.length i.size&&(Qg P d&&(S8 z==Jm P t))))with
   |false=>rw[hb]at h1;cases h1
   |true=>simp only[hb,Ao,Af]at h1;subst h1;simp only[CO]at hb;exact⟨i,d,z,hi,hd,hz,rfl,rfl,rfl,rfl,hb.1,At hb.2.1,hb.2.2.1,rfl,rfl,rfl,rfl,rfl,rfl,rfl,rfl,rfl,rfl,by simpa using hb.2.2.2⟩
  ·cases h1
 ·cases h1
theorem C.ofValue_rep{E:Env}{v:Yp}{c:C}(h:C.ofValue v=Yd c):CRep E c v:=by
 unfold C.ofValue at h
 split at h<;>first
  |(simp only[Af]at h;subst h;rfl)
  |cases h
theorem Amr{E:Env}{v:Yp}(h:v.oneCell'=Yo):CRep E (zeroC v) v:=by
 unfold zeroC;cases hc:C.ofValue v with
 |none=>exact h
 |some c=>exact C.ofValue_rep hc
theorem MS{E:Env}:∀{vs:Ya Yp},vs.all (·.oneCell')=Yo->CReps E (vs.map zeroC) vs
 |[],_=>rfl
 |v::vs,h=>by simp only[List.all_cons,CO]at h;exact⟨v,vs,rfl,Amr h.1,MS h.2⟩
theorem C.ofValues_rep{E:Env}:∀{vs:Ya Yp}{cs:Ya C},C.ofValues vs=Yd cs->CReps E cs vs
 |[],cs,h=>by simp only[C.ofValues,Af]at h;subst h;rfl
 |v::vs,cs,h=>by
  simp only[C.ofValues]at h;split at h
  ·rename_i x xs hx Ad
   simp only[Af]at h;subst h;exact⟨v,vs,rfl,C.ofValue_rep hx,C.ofValues_rep Ad⟩
  ·cases h
theorem V.ofValue_rep{E:Env}(v:Yp):VRep E (V.ofValue v) v:=by
 unfold V.ofValue;split
 ·rename_i cs
  split
  ·rename_i l hl
   exact⟨cs.toList,C.ofValues_rep hl,by simp⟩
  ·exact trivial
 ·split
  ·rename_i x hx
   exact C.ofValue_rep hx
  ·exact trivial
section
variable{E:Env}
theorem CReps.append:∀{cs ds:Ya C}{vs us:Ya Yp},CReps E cs vs->CReps E ds us->CReps E (cs++ds) (vs++us)
 |[],_,_,_,h,k=>by simp only[CReps]at h;subst h;simpa using k
 |_::_,_,_,_,⟨v,Av,e,h,ht⟩,k=>⟨v,Av++_,by rw[e];rfl,h,CReps.append ht k⟩
theorem CReps.drop:∀{cs:Ya C}{vs:Ya Yp}(n:Yk),CReps E cs vs->CReps E (cs.drop n) (vs.drop n)
 |[],_,n,h=>by simp only[CReps]at h;subst h;simp[CReps]
 |_::_,_,0,h=>by simpa using h
 |_::_,_,n+1,⟨v,Av,e,h,ht⟩=>by subst e;simpa using CReps.drop n ht
theorem CReps.take:∀{cs:Ya C}{vs:Ya Yp}(n:Yk),CReps E cs vs->CReps E (cs.take n) (vs.take n)
 |[],_,n,h=>by simp only[CReps]at h;subst h;simp[CReps]
 |_::_,_,0,h=>by simp[CReps]
 |_::_,_,n+1,⟨v,Av,e,h,ht⟩=>by subst e;exact⟨v,Av.take n,by simp,h,CReps.take n ht⟩
theorem CReps.split:∀{cs ds:Ya C}{vs:Ya Yp},CReps E (cs++ds) vs->∃us ws,vs=us++ws/\CReps E cs us/\CReps E ds ws
 |[],_,vs,h=>⟨[],vs,rfl,rfl,h⟩
 |_::cs,_,_,⟨v,Av,e,h,ht⟩=>by obtain⟨us,ws,e',h1,h2⟩:=CReps.split (cs:=cs) ht;exact⟨v::us,ws,by rw[e,e'];rfl,⟨v,us,rfl,h,h1⟩,h2⟩
theorem CReps.oneCell:∀{cs:Ya C}{vs:Ya Yp},CReps E cs vs->∀v∈vs,v.oneCell'=Yo
 |[],_,h,v,hv=>by simp only[CReps]at h;subst h;simp at hv
 |_::_,_,⟨u,Av,e,h,ht⟩,v,hv=>by
  subst e;rcases Bg.1 hv with rfl|hv
  ·exact CRep.oneCell h
  ·exact CReps.oneCell ht v hv
theorem VRep.cells_of{x:V}{cs:Ya C}{v:Yp}(hx:x.cells=Yd cs)(h:VRep E x v):CReps E cs v.cells.toList:=by
 cases x with
 |c c=>simp only[V.cells,Af]at hx;subst hx;have h1:=CRep.oneCell h;refine⟨v,[],?_,h,rfl⟩;cases v<;>first|rfl|simp[Value.oneCell']at h1
 |agg ds=>simp only[V.cells,Af]at hx;subst hx;obtain⟨vs,h1,h2⟩:=h;simp only[CR]at h2;subst h2;simpa [Value.cells]using h1
 |junk=>simp[V.cells]at hx
 |tup _=>simp[V.cells]at hx
 |eptr _ _ _ _=>simp[V.cells]at hx
 |lptr _ _ _=>simp[V.cells]at hx
 |arr _ _ _ _=>simp[V.cells]at hx
 |hptr _ _=>simp[V.cells]at hx
 |mcell _ _ _=>simp[V.cells]at hx
 |mptr _ _ _ _ _=>simp[V.cells]at hx
theorem VRep.mk{agg:Ys}{cs:Ya C}{v:Yp}(h:SRep E agg cs v):VRep E (V.mk agg cs) v:=by
 unfold V.mk;cases agg with
 |true=>exact h
 |false=>
  simp only[BU];split
  ·rename_i x
   obtain⟨vs,h1,h2⟩:=h;simp only[G3,Cb]at h2;subst h2;obtain⟨u,us,e,h3,h4⟩:=h1;simp only[CK]at e;rw[e.1];exact h3
  ·exact trivial
theorem FW:∀{τ:Ty}{x:τ.den}{vs:Ya Yp},DRep E.w E.ok τ x vs->CReps E (cells τ x) vs
 |.bool,_,_,h=>⟨_,[],h,rfl,rfl⟩
 |.int _,_,_,h=>⟨_,[],h,rfl,rfl⟩
 |.str,_,_,h=>⟨_,[],h,rfl,rfl⟩
 |.err,_,_,h=>by simp only[DRep]at h;obtain⟨v,e,hv⟩:=h;exact⟨v,[],e,hv,rfl⟩
 |.unit,_,_,h=>h
 |.prod a b,_,_,h=>by simp only[DRep]at h;obtain⟨u,v,e,h1,h2⟩:=h;rw[e];exact(FW h1).append (FW h2)
 |.slice e,l,vs,h=>by have h':=h;simp only[DRep]at h';obtain⟨A,c,xs,e1,_⟩:=h';subst e1;exact⟨_,[],rfl,h,rfl⟩
theorem fG:∀(τ:Ty)(x:τ.den),(cells τ x).length=τ.size
 |.bool,_=>rfl
 |.int _,_=>rfl
 |.str,_=>rfl
 |.err,_=>rfl
 |.unit,_=>rfl
 |.prod a b,x=>by simp[cells,Ty.size,fG a,fG b]
 |.slice _,_=>rfl
theorem LV{cs:Ya C}{vs:Ya Yp}{o n:Yk}{r:Ya C}(h:CReps E cs vs)(hs:sub cs o n=Yd r):CReps E r ((vs.drop o).take n)/\((vs.drop o).take n).length=n/\o+n<=vs.length:=by
 unfold sub at hs;cases hb:YB (o+n) cs.length with
 |false=>simp[hb]at hs
 |true=>simp only[hb,Ao,Af]at hs;subst hs;have Bx:o+n<=cs.length:=IC hb;have hl:=h.length;exact⟨(h.drop o).take n,by simp;omega,by omega⟩
theorem Of:∀{cs:Ya C}{vs:Ya Yp}{o:Yk}{new:Ya C}{us:Ya Yp}{r:Ya C},CReps E cs vs->CReps E new us->over cs o new=Yd r->CReps E r (vs.take o++us++vs.drop (o+us.length))/\o+us.length<=vs.length
 |cs,vs,0,new,us,r,h,hn,ho=>by
  unfold over at ho;cases hb:YB new.length cs.length with
  |false=>simp[hb]at ho
  |true=>simp only[hb,Ao,Af]at ho;subst ho;have Bx:new.length<=cs.length:=IC hb;have h1:=h.length;have h2:=hn.length;refine⟨?_,by omega⟩;simp only[List.take_zero,DT,CQ];rw[h2];exact hn.append (h.drop _)
 |[],_,o+1,_,_,_,_,_,ho=>by simp[over]at ho
 |c::cs,vs,o+1,new,us,r,⟨v,Av,e,h,ht⟩,hn,ho=>by
  simp only[over]at ho;split at ho
  ·rename_i r' AR
   simp only[Af]at ho;subst ho e;obtain⟨h1,h2⟩:=Of ht hn AR;refine⟨⟨v,_,?_,h,h1⟩,by simp;omega⟩;have:o+1+us.length=(o+us.length)+1:=by omega
   rw[this];simp
  ·cases ho
end
end Go.Lift
namespace Go.Lift
open Go.RowKit
theorem andB{a b:Ys}(h:(a&&b)=Yo):a=Yo/\b=Yo:=by simpa using h
theorem Dc{β:Type}{c:Ys}{x:Yb β}{r:β}(h:CV c x=Yd r):c=Yo/\x=Yd r:=by
 cases c with
 |false=>cases h
 |true=>exact⟨rfl,h⟩
structure Rows (E:Env) (blp:Yk->Yb Blk) (okp:Yk->Prop) (ids:Ya Yk):Prop where
 ok:∀g,E.ok g->okp g
 row:∀b∈ids,∀t e ver l,blp b=Yd (.row t e ver l)->E.bl b=Yd (.row t e ver l)/\∀sv g,E.pl b=Yd (.row sv [])->sv.ownBlock=Yd g->okp g
 mat:∀b∈ids,∀t et e ver Am hole l,blp b=Yd (.mat t et e ver Am hole l)->E.bl b=Yd (.mat t et e ver Am hole l)/\∀sv Ab g,E.pl b=Yd (.row sv Ab)->(Pl.row sv Ab).has g->okp g
 tree:∀b∈ids,∀t e ver Am h l,blp b=Yd (.tree t e ver Am h l)->E.bl b=Yd (.tree t e ver Am h l)/\∀sv Ab g,E.pl b=Yd (.row sv Ab)->(Pl.row sv Ab).has g->okp g
theorem DList.take{w:Yx}{ok:Yk->Prop}{e:Ty}:∀{l:Ya e.den}{xs:Ya Yp}(n:Yk),DList (λx u=>DRep w ok e x u) l xs->DList (λx u=>DRep w ok e x u) (l.take n) (xs.take (n*e.size))
 |[],_,n,h=>by simp only[DList]at h;subst h;simp[DList]
 |_::_,_,0,h=>by simp[DList]
 |x::l,xs,n+1,⟨u,v,e1,hr,ht⟩=>by refine⟨u,v.take (n*e.size),?_,hr,DList.take n ht⟩;have hu:=hr.length;rw[e1,DJ,RV,GL (by omega)];congr 2;omega
theorem DList.drop{w:Yx}{ok:Yk->Prop}{e:Ty}:∀{l:Ya e.den}{xs:Ya Yp}(n:Yk),DList (λx u=>DRep w ok e x u) l xs->DList (λx u=>DRep w ok e x u) (l.drop n) (xs.drop (n*e.size))
 |[],_,n,h=>by simp only[DList]at h;subst h;simp[DList]
 |_::_,_,0,h=>by simpa using h
 |x::l,xs,n+1,⟨u,v,e1,hr,ht⟩=>by
  have hu:=hr.length;have h2:=DList.drop n ht
  have e2:xs.drop ((n+1)*e.size)=v.drop (n*e.size):=by rw[e1,DJ,RX,GM (l:=u) (by omega),DT];congr 1;omega
  rw[e2];simpa using h2
theorem W9{c:C}{cs:Ya C}{b:Yk}(h:b∈Cx cs):b∈Cx (c::cs):=by cases c<;>simp_all [Cx]
theorem Rows.tail{E:Env}{blp:Yk->Yb Blk}{okp:Yk->Prop}{c:C}{cs:Ya C}(h:Rows E blp okp (Cx (c::cs))):Rows E blp okp (Cx cs):=
 ⟨h.ok,λb hb=>h.row b (W9 hb),λb hb=>h.mat b (W9 hb),λb hb=>h.tree b (W9 hb)⟩
theorem Rows.sub{E:Env}{blp:Yk->Yb Blk}{okp:Yk->Prop}{a b:Ya Yk}(h:Rows E blp okp a)(hs:∀x∈b,x∈a):Rows E blp okp b:=⟨h.ok,λx hx=>h.row x (hs x hx),λx hx=>h.mat x (hs x hx),λx hx=>h.tree x (hs x hx)⟩
theorem S9:∀(cs ds:Ya C),Cx (cs++ds)=Cx cs++Cx ds
 |[],_=>rfl
 |c::cs,ds=>by cases c<;>simp[Cx,S9 cs ds]
def Eg(E:Env):Prop:=∀i B,E.bl i=Yd B->∃p,E.pl i=Yd p/\BRep E B p
theorem WA{E:Env}{blp:Yk->Yb Blk}(hb:Eg E){b ver:Yk}{e:Ty}{l:Ya e.den}(AM:∀t e ver l,blp b=Yd (.row t e ver l)->E.bl b=Yd (.row t e ver l))(h:G6 blp b ver e=Yd l):∃t sv xs,blp b=Yd (.row t e ver l)/\E.bl b=Yd (.row t e ver l)/\E.pl b=Yd (.row sv [])/\DList (λx u=>DRep E.w E.ok e x u) l xs/\E.w.ownsRow E.base t e.size sv l.length xs:=by
 unfold G6 at h;split at h
 ·rename_i t e' ver' l' UA
  have An:=AM _ _ _ _ UA;cases AQ:Ym ver ver' with
  |false=>rw[AQ]at h;cases h
  |true=>
   have:ver=ver':=At AQ;subst this;simp only[AQ,Ao]at h;split at h
   ·rename_i he
    subst he;simp only[Af]at h;subst h;obtain⟨p,CB,hB⟩:=hb b _ An;cases p with
    |cells _=>exact hB.elim
    |row sv Ab=>obtain⟨h0,xs,hd,ho⟩:=hB;subst h0;exact⟨t,sv,xs,UA,An,CB,hd,ho⟩
   ·cases h
 ·cases h
theorem WB{E:Env}{blp:Yk->Yb Blk}(hb:Eg E){b ver:Yk}{e:Ty}{l:Ya e.den}(AM:∀t e ver l,blp b=Yd (.row t e ver l)->E.bl b=Yd (.row t e ver l))(h:G6 blp b ver e=Yd l){v:Yp}(hv:CRep E (.row b ver) v):∃t sv xs,E.bl b=Yd (.row t e ver l)/\E.pl b=Yd (.row sv [])/\v=sv/\DList (λx u=>DRep E.w E.ok e x u) l xs/\E.w.ownsRow E.base t e.size sv l.length xs:=by
 obtain⟨t,sv,xs,_,An,hp,hd,ho⟩:=WA hb AM h;obtain⟨h1,sv2,JD,De,AO⟩:=hv;rw[hp]at De;injection De with De;injection De with De _;subst De;exact⟨t,sv,xs,An,hp,(AO t e ver l An).2 rfl,hd,ho⟩
theorem fH{w:Yx}{okI:Yk->Prop}{base:Yk}{t:Yq}{e:Ty}{l:Ya e.den}{sv v:Yp}{xs:Ya Yp}{i j:Yk}(Du:i<=j/\j<=l.length/\∃A A' n c,sv=.slice A n c/\v=.slice A' (j-i) (c-i)/\(i<j->A'=A.map (·.add (i*e.size)))/\(i=0->A'=A))(hd:DList (λx u=>DRep w okI e x u) l xs)(ho:w.ownsRow base t e.size sv l.length xs):∃A c ys,v=.slice A ((l.take j).drop i).length c/\((l.take j).drop i).length<=c/\c<=Yaj/\DList (λx u=>DRep w okI e x u) ((l.take j).drop i) ys/\∀k u,ys[k]?=Yd u->∃ad,A=Yd ad/\sv.ownBlock=Yd ad.block/\w.cell? (ad.add k)=Yd u:=by
 obtain⟨h1,h2,A,A',n,c,Au,hv,hA,_⟩:=Du;have AK:((l.take j).drop i).length=j-i:=by simp;omega
 have Ah:=ho
 have hc:l.length<=c/\c<=Yaj:=by
  rcases ho.2 with⟨e1,hn⟩|⟨g,cap,AI,e1,BM,hh,BO,C4,Bn,I4⟩
  ·rw[Au]at e1
   injection e1 with _ _ e3;subst e3;exact⟨by omega,by simp[Yaj]⟩
  ·rw[Au]at e1
   injection e1 with _ _ e3;subst e3;exact⟨BO,C4⟩
 refine⟨A',c-i,(xs.take (j*e.size)).drop (i*e.size),by rw[hv,AK],by rw[AK];omega,by omega,(hd.take j).drop i,λk u hk=>?_⟩;rw[KZ,LH]at hk;split at hk
 ·rename_i Ae
  have Du:i<j:=by
   rcases Nat.lt_or_ge i j with h|h
   ·exact h
   ·have:j*e.size<=i*e.size:=Fs _ h
    omega
  rcases ho.2 with⟨e1,hn⟩|⟨g,cap,AI,e1,BM,hh,BO,C4,Bn,I4⟩
  ·have:l=[]:=FT hn
   subst this;simp at h2;omega
  ·rw[Au]at e1
   injection e1 with e1 _ _;subst e1;refine⟨(⟨g,0,Ye⟩:Addr).add (i*e.size),hA Du,by rw[Au,ML];rfl,?_⟩;rw[MM];exact Ah.cells (g:=g) (by rw[Au];rfl) _ _ hk
 ·cases hk
theorem fI{w:Yx}{base:Yk}{okp:Yk->Prop}{t:Yq}{e:Ty}{l:Ya e.den}{sv:Yp}{xs:Ya Yp}{n:Yk}(hg:∀g,sv.ownBlock=Yd g->okp g)(hd:DList (λx u=>DRep w okp e x u) l xs)(ho:w.ownsRow base t n sv l.length xs):DRep w okp (.slice e) l [sv]:=by
 simp only[DRep];have Ah:=ho;rcases ho.2 with⟨rfl,hn⟩|⟨g,cap,AI,rfl,BM,hh,BO,C4,Bn,I4⟩
 ·have hl:l=[]:=FT hn
  subst hl;simp only[DList]at hd;subst hd;exact⟨Ye,0,[],rfl,by simp,by simp[Yaj],rfl,by simp⟩
 ·refine⟨Yd ⟨g,0,Ye⟩,cap,xs,rfl,BO,C4,hd,λj u hj=>⟨_,rfl,hg g rfl,Ah.cells (g:=g) rfl j u hj⟩⟩
theorem zU{E:Env}{okp:Yk->Prop}(BS:∀g,E.ok g->okp g){t:Yq}{e:Ty}{l:Ya e.den}{sv:Yp}{xs:Ya Yp}(hg:∀g,sv.ownBlock=Yd g->okp g)(hd:DList (λx u=>DRep E.w E.ok e x u) l xs)(ho:E.w.ownsRow E.base t e.size sv l.length xs):DRep E.w okp (.slice e) l [sv]:=by
 simp only[DRep];have BX:DList (λx u=>DRep E.w okp e x u) l xs:=hd.mono λx u hu=>hu.mono (λg h1 _=>⟨BS g h1,rfl⟩);have Ah:=ho;rcases ho.2 with⟨rfl,hn⟩|⟨g,cap,AI,rfl,BM,hh,BO,C4,Bn,I4⟩
 ·have hl:l=[]:=FT hn
  subst hl;simp only[DList]at BX;subst BX;exact⟨Ye,0,[],rfl,by simp,by simp[Yaj],rfl,by simp⟩
 ·refine⟨Yd ⟨g,0,Ye⟩,cap,xs,rfl,BO,C4,BX,λj u hj=>⟨_,rfl,hg g rfl,Ah.cells (g:=g) rfl j u hj⟩⟩
theorem Ams{blp:Yk->Yb Blk}{b ver:Yk}{e:Ty}{l:Ya e.den}(h:Sp blp b ver e=Yd l):∃t o Am,∃(l':Ya o.ty.den)(he:o.ty=e),blp b=Yd (.tree t o ver Am Ye l')/\l=he▸l':=by
 unfold Sp at h;split at h
 ·rename_i t o ver' Am l' An
  cases hv:Ym ver ver' with
  |false=>rw[hv]at h;cases h
  |true=>
   have:=At hv;subst this;rw[hv,Ao]at h;split at h
   ·rename_i he
    simp only[Af]at h;exact⟨t,o,Am,l',he,An,h.symm⟩
   ·cases h
 ·cases h
theorem WC{E:Env}(hb:Eg E){b ver:Yk}{t:Yq}{o:OT}{Am:Yk}{h:Yb Path}{l:Ya o.ty.den}(An:E.bl b=Yd (.tree t o ver Am h l)){v:Yp}(hv:CRep E (.trow b ver []) v):∃Ab,E.pl b=Yd (.row v Ab)/\TreeOk E t o h l v Ab:=by
 obtain⟨_,sv,Ab,Bk,AO⟩:=hv;obtain⟨p,hp,hB⟩:=hb b _ An;rw[Bk]at hp;injection hp with hp;subst hp;have hT:TreeOk E t o h l sv Ab:=hB;obtain⟨n,_,h2⟩:=(AO _ _ _ _ _ _ An).2 rfl (λq hq J8=>hT.top (by rw[hq,List.prefix_nil.1 J8]));have h3:sv=v:=by simpa [nix]using h2
 subst h3;exact⟨Ab,Bk,hT⟩
theorem zV{E:Env}{blp:Yk->Yb Blk}{okp:Yk->Prop}(BS:∀g,E.ok g->okp g)(hb:Eg E){b ver:Yk}{e:Ty}{l:Ya e.den}(hr:∀t e ver Am h l,blp b=Yd (.tree t e ver Am h l)->E.bl b=Yd (.tree t e ver Am h l)/\∀sv Ab g,E.pl b=Yd (.row sv Ab)->(Pl.row sv Ab).has g->okp g)(h:Sp blp b ver e=Yd l){v:Yp}(hv:CRep E (.trow b ver []) v):DRep E.w okp (.slice e) l [v]:=by
 obtain⟨t,o,Am,l',he,An,rfl⟩:=Ams h;subst he;obtain⟨DW,Ah⟩:=hr _ _ _ _ _ _ An;obtain⟨Ab,Bk,hT⟩:=WC hb DW hv;obtain⟨NI,F,h1,h2,_⟩:=hT.rep;exact Owns.data (o:=.r t o) BS (λs hs g hg=>Ah _ _ g Bk (Placed.has h2 hs hg)) h1
theorem LW{E:Env}{blp:Yk->Yb Blk}{okp:Yk->Prop}(hb:Eg E):∀{τ:Ty}{cs:Ya C}{vs:Ya Yp}{x:τ.den}{r:Ya C},Rows E blp okp (Cx cs)->CReps E cs vs->pack blp τ cs=Yd (x,r)->∃us ws,vs=us++ws/\DRep E.w okp τ x us/\CReps E r ws/\(∃ds,cs=ds++r)
 |.bool,cs,vs,x,r,hr,h,hp=>by
  cases cs with
  |nil=>simp[pack]at hp
  |cons c cs=>
   cases c<;>simp only[pack]at hp<;>try(cases hp;done)
   simp only[Af,Bv]at hp;obtain⟨Cv,De⟩:=hp;subst Cv De;obtain⟨v,Av,e,h1,h2⟩:=h;simp only[CRep]at h1;subst e h1;exact⟨[_],Av,rfl,rfl,h2,⟨[_],rfl⟩⟩
 |.int k,cs,vs,x,r,hr,h,hp=>by
  cases cs with
  |nil=>simp[pack]at hp
  |cons c cs=>
   cases c<;>simp only[pack]at hp<;>try(cases hp;done)
   rename_i k' n;split at hp
   ·rename_i hk
    subst hk;simp only[Af,Bv]at hp;obtain⟨Cv,De⟩:=hp;subst Cv De;obtain⟨v,Av,e,h1,h2⟩:=h;simp only[CRep]at h1;subst e h1;exact⟨[_],Av,rfl,rfl,h2,⟨[_],rfl⟩⟩
   ·cases hp
 |.err,cs,vs,x,r,hr,h,hp=>by
  cases cs with
  |nil=>simp[pack]at hp
  |cons c cs=>
   cases c<;>simp only[pack]at hp<;>try(cases hp;done)
   simp only[Af,Bv]at hp;obtain⟨Cv,De⟩:=hp;subst Cv De;obtain⟨v,Av,e,h1,h2⟩:=h;subst e;exact⟨[v],Av,rfl,⟨v,rfl,h1⟩,h2,⟨[_],rfl⟩⟩
 |.str,cs,vs,x,r,hr,h,hp=>by
  cases cs with
  |nil=>simp[pack]at hp
  |cons c cs=>
   cases c<;>simp only[pack]at hp<;>try(cases hp;done)
   simp only[Af,Bv]at hp;obtain⟨Cv,De⟩:=hp;subst Cv De;obtain⟨v,Av,e,h1,h2⟩:=h;simp only[CRep]at h1;subst e h1;exact⟨[_],Av,rfl,rfl,h2,⟨[_],rfl⟩⟩
 |.unit,cs,vs,x,r,hr,h,hp=>by simp only[pack,Af,Bv]at hp;obtain⟨_,De⟩:=hp;subst De;exact⟨[],vs,rfl,rfl,h,⟨[],rfl⟩⟩
 |.prod a b,cs,vs,x,r,hr,h,hp=>by
  simp only[pack]at hp;split at hp
  ·cases hp
  ·rename_i y r1 h1
   split at hp
   ·cases hp
   ·rename_i z r2 h2
    simp only[Af,Bv]at hp;obtain⟨Cv,De⟩:=hp;subst Cv De;obtain⟨us,ws,e1,d1,c1,ds1,CA⟩:=LW hb hr h h1;have LA:Rows E blp okp (Cx r1):=hr.sub λb DE=>by rw[CA,S9];exact Da _ DE
    obtain⟨us2,ws2,e2,d2,c2,ds2,BG⟩:=LW hb LA c1 h2;refine⟨us++us2,ws2,by rw[e1,e2,C1],?_,c2,⟨ds1++ds2,by rw[CA,BG,C1]⟩⟩;simp only[DRep];exact⟨us,us2,rfl,d1,d2⟩
 |.slice e,cs,vs,x,r,hr,h,hp=>by
  cases cs with
  |nil=>simp[pack]at hp
  |cons c cs=>
   obtain⟨v,Av,e1,h1,h2⟩:=h;subst e1;rcases MK (∃b ver p,c=.trow b ver p)with⟨b,ver,p,rfl⟩|Pq
   ·cases p with
    |cons _ _=>simp[pack]at hp
    |nil=>
     simp only[pack]at hp;split at hp
     ·cases hp
     ·rename_i l hl
      simp only[Af,Bv]at hp;obtain⟨Cv,De⟩:=hp;subst Cv De;exact⟨[v],Av,rfl,zV hr.ok hb (hr.tree b (by simp[Cx])) hl h1,h2,⟨[_],rfl⟩⟩
   cases c<;>first|exact Yw ⟨_,_,_,rfl⟩ Pq|skip
   all_goals simp only[pack]at hp
   all_goals try(cases hp;done)
   ·rename_i e' l
    split at hp
    ·rename_i he
     subst he;simp only[Af,Bv]at hp;obtain⟨Cv,De⟩:=hp;subst Cv De;exact⟨[v],Av,rfl,DRep.mono (τ:=.slice _) (λg hg _=>⟨hr.ok g hg,rfl⟩) h1,h2,⟨[_],rfl⟩⟩
    ·cases hp
   ·simp only[Af,Bv]at hp
    obtain⟨Cv,De⟩:=hp;subst Cv De;simp only[CRep]at h1;subst h1;refine⟨[_],Av,rfl,?_,h2,⟨[_],rfl⟩⟩;simp only[DRep];exact⟨Ye,0,[],rfl,by simp,by simp[Yaj],rfl,by simp⟩
   ·rename_i b ver
    split at hp
    ·cases hp
    ·rename_i l hl
     simp only[Af,Bv]at hp;obtain⟨Cv,De⟩:=hp;subst Cv De;have Co:b∈Cx (C.row b ver::cs):=by simp[Cx]
     obtain⟨t,sv,xs,An,Bk,rfl,hd,ho⟩:=WB hb (λt e ver l hB=>(hr.row b Co t e ver l hB).1) hl h1
     have ADe:∃t e ver l,blp b=Yd (.row t e ver l):=by
      unfold G6 at hl;split at hl
      ·rename_i h0;exact⟨_,_,_,_,h0⟩
      ·cases hl
     obtain⟨t',e',ver',l',hB⟩:=ADe;exact⟨[v],Av,rfl,zU hr.ok (λg hg=>(hr.row b Co t' e' ver' l' hB).2 v g Bk hg) hd ho,h2,⟨[_],rfl⟩⟩
   ·rename_i b ver i j
    split at hp
    ·cases hp
    ·rename_i l hl
     simp only[Af,Bv]at hp;obtain⟨Cv,De⟩:=hp;subst Cv De;have Co:b∈Cx (C.sub b ver i j::cs):=by simp[Cx]
     obtain⟨t,sv,xs,hB,An,Bk,hd,ho⟩:=WA hb (λt e ver l hB=>(hr.row b Co t e ver l hB).1) hl;obtain⟨_,sv2,JD,Ge,AO⟩:=h1;rw[Bk]at Ge;injection Ge with Ge;injection Ge with Ge _;subst Ge;obtain⟨A,c,ys,q1,q2,q3,q4,q5⟩:=fH ((AO _ _ _ _ An).2 rfl) hd ho;refine⟨[v],Av,rfl,?_,h2,⟨[_],rfl⟩⟩;simp only[DRep];refine⟨A,c,ys,by rw[q1],q2,q3,q4.mono λx u hu=>hu.mono (λg h1 _=>⟨hr.ok g h1,rfl⟩),λk u hk=>?_⟩;obtain⟨ad,r1,r2,r3⟩:=q5 k u hk;exact⟨ad,r1,(hr.row b Co _ _ _ _ hB).2 sv _ Bk r2,r3⟩
theorem MT{E:Env}{blp:Yk->Yb Blk}{okp:Yk->Prop}(hb:Eg E){τ:Ty}{cs:Ya C}{vs:Ya Yp}{x:τ.den}(hr:Rows E blp okp (Cx cs))(h:CReps E cs vs)(hp:Kp blp τ cs=Yd x):DRep E.w okp τ x vs:=by
 unfold Kp at hp;split at hp
 ·rename_i y hy
  simp only[Af]at hp;subst hp;obtain⟨us,ws,e,d,c,_⟩:=LW hb hr h hy;simp only[CReps]at c;subst c;simpa [e]using d
 ·cases hp
theorem WD{E:Env}{blp:Yk->Yb Blk}{okp:Yk->Prop}(hb:Eg E){e:Ty}:∀{n:Yk}{cs:Ya C}{vs:Ya Yp}{l:Ya e.den},Rows E blp okp (Cx cs)->CReps E cs vs->JK blp e n cs=Yd l->DList (λx u=>DRep E.w okp e x u) l vs/\l.length=n
 |0,[],vs,l,_,h,hp=>by simp only[JK,Af]at hp;subst hp;simp only[CReps]at h;exact⟨h,rfl⟩
 |0,_::_,_,_,_,_,hp=>by simp[JK]at hp
 |n+1,cs,vs,l,hr,h,hp=>by
  simp only[JK]at hp;split at hp
  ·rename_i x r hx
   split at hp
   ·rename_i l' F8
    simp only[Af]at hp;subst hp;obtain⟨us,ws,e1,d1,c1,ds,hc⟩:=LW hb hr h hx;have LA:Rows E blp okp (Cx r):=hr.sub λb DE=>by rw[hc,S9];exact Da _ DE
    obtain⟨h1,h2⟩:=WD hb LA c1 F8;exact⟨⟨us,ws,e1,d1,h1⟩,by simp[h2]⟩
   ·cases hp
  ·cases hp
theorem RelB.blksOk{P:Yv}{ok0:OK0 P}{base:Yk}{pl:Yk->Yb Pl}{bl:Yk->Yb Blk}{w:Yx}(h:RelB ok0 base pl bl w):Eg (Ak ok0 base pl bl w):=h.blks
theorem Rows.none(E:Env)(ids:Ya Yk):Rows E (λ_=>Ye) E.ok ids:=⟨λ_ h=>h,λ_ _ _ _ _ _ h=>(by cases h),λ_ _ _ _ _ _ _ _ _ h=>(by cases h),λ_ _ _ _ _ _ _ _ h=>(by cases h)⟩
section
variable{P:Yv}{o:Oper}{ρ:Y0->V}{bl:Yk->Yb Blk}{β:Type}{r:β}
def Sound(P:Yv)(o:Oper)(ρ:Y0->V)(bl:Yk->Yb Blk)(kk:K β)(r:β):Prop:=
 ∃v rd wr,kk v rd wr=Yd r/\∀bl2,(∀b∈rd,bl2 b=bl b)->OpOk P o ρ bl2 v wr
theorem Sound.pure{kk:K β}{v:V}{rd:Ya Yk}(hk:kk v rd []=Yd r)(h:∀bl2,(∀b∈rd,bl2 b=bl b)->∀(ok0:OK0 P)(base:Yk)(pl:Yk->Yb Pl)(w:Yx)(a:Act),RelB ok0 base pl bl2 w->(∀x∈o.op.operands,VRep (Ak ok0 base pl bl2 w) (ρ x) (a.eval x))->∃val,(Y1 a.eval o).run P w=.ok (.value val) w/\VRep (Ak ok0 base pl bl2 w) v val):Sound P o ρ bl kk r:=
 ⟨v,rd,[],hk,λbl2 hb=>OpOk.of_pure (h bl2 hb)⟩
theorem WE{kk:K β}{x:Y0}(ho:o.op=.move x\/o.op=.assign x)(hk:kk (ρ x) [] []=Yd r):Sound P o ρ bl kk r:=by
 refine Sound.pure hk λbl2 _ ok0 base pl w a hr hx=>⟨a.eval x,?_,hx x ?_⟩
 ·rcases ho with ho|ho<;>simp[Y1,ho]
 ·rcases ho with ho|ho<;>simp[ho,Yt]
theorem Amt{kk:K β}{c a b:Y0}(ho:o.op=.pick c a b){g:Ys}(hc:ρ c=.c (.bool g))(hk:Yr g (kk (ρ a) [] []) (kk (ρ b) [] [])=Yd r):Sound P o ρ bl kk r:=by
 have AE:∀(bl2:Yk->Yb Blk)(ok0:OK0 P)(base:Yk)(pl:Yk->Yb Pl)(w:Yx)(act:Act),(∀x∈o.op.operands,VRep (Ak ok0 base pl bl2 w) (ρ x) (act.eval x))->
   (Y1 act.eval o).run P w=.ok (.value (if g then act.eval a else act.eval b)) w:=by
  intro bl2 ok0 base pl w act hx;have h1:=hx c (by simp[ho,Yt]);rw[hc]at h1;have h2:act.eval c=.bool g:=h1;simp[Y1,ho,h2,asBool]
 cases g with
 |true=>exact Sound.pure hk λbl2 _ ok0 base pl w act hr hx=>⟨_,AE bl2 ok0 base pl w act hx,by simpa using hx a (by simp[ho,Yt])⟩
 |false=>exact Sound.pure hk λbl2 _ ok0 base pl w act hr hx=>⟨_,AE bl2 ok0 base pl w act hx,by simpa using hx b (by simp[ho,Yt])⟩
theorem zW{kk:K β}{nx:Yk}{t:Yq}{cs:Ya C}(hk:Qa bl nx t cs kk=Yd r)(AE:∀(bl2:Yk->Yb Blk)(ok0:OK0 P)(base:Yk)(pl:Yk->Yb Pl)(w:Yx)(a:Act),RelB ok0 base pl bl2 w->(∀x∈o.op.operands,VRep (Ak ok0 base pl bl2 w) (ρ x) (a.eval x))->∃vs:Ya Yp,(Y1 a.eval o).run P w=.ok (.value (.pointer (Yd ⟨w.heap.size,0,Ye⟩))) (w.alloc (.cells vs.toArray t))/\CReps (Ak ok0 base pl bl2 w) cs vs):Sound P o ρ bl kk r:=by
 unfold Qa at hk;split at hk
 ·rename_i hn
  refine⟨_,_,_,hk,λbl2 hb=>?_⟩;have Cz:bl2 nx=Ye:=(hb nx (by simp)).trans hn;intro ok0 base pl w a hr hx K Q hK;obtain⟨vs,h1,h2⟩:=AE bl2 ok0 base pl w a hr hx;have hg:w.grownBy (w.alloc (.cells vs.toArray t)) Ye:=World.grownBy_alloc w _ Ye;have hp:∀g,(Pl.cells w.heap.size).has g->w.heap.size<=g:=λg Fo=>LN Fo;have hs:Step pl bl2 w (upd pl nx (.cells w.heap.size)) (upd bl2 nx (.cells t cs)) (w.alloc (.cells vs.toArray t)):=Step.new hr Cz hg hp;refine HD h1 (hK _ (upd pl nx (.cells w.heap.size)) _ ?_ hs ?_)
  ·exact RelB.new hr Cz hg hp ⟨vs,heap_alloc_new w _,h2.mono hs.ext⟩
  ·exact⟨w.heap.size,by simp[Ak,upd],rfl⟩
 ·cases hk
theorem Amu{T:Yq->Yb TI}(hT:TOk P T){kk:K β}{nx:Yk}{t:Yq}(ho:o.op=.alloc t){ti:TI}(ht:T t=Yd ti)(hk:Qa bl nx t ti.zero kk=Yd r):Sound P o ρ bl kk r:=by
 obtain⟨i,d,z,f⟩:=hT.facts ht;refine zW hk λbl2 ok0 base pl w a hr hx=>⟨z.cells.toList,?_,?_⟩
 ·simp[Y1,ho,Instr.alloc,zeroValue,typeInfo,f.info,f.zero,newVar,newRow]
 ·rw[f.zeroC]
  exact MS f.one
theorem Amv{kk:K β}{nx:Yk}{t:Yq}{x:Y0}(ho:o.op=.box t x){cs:Ya C}(hc:(ρ x).cells=Yd cs)(hk:Qa bl nx t cs kk=Yd r):Sound P o ρ bl kk r:=by
 refine zW hk λbl2 ok0 base pl w a hr hx=>⟨(a.eval x).cells.toList,?_,?_⟩
 ·simp[Y1,ho,Instr.box,newVar,newRow]
 ·exact VRep.cells_of hc (hx x (by simp[ho,Yt]))
end
end Go.Lift
namespace Go.Lift
open Go.RowKit
theorem zX{α:Type}{a b:Yk}(x y:α):(bif Yz a b then x else y)=if a<b then x else y:=by
 cases h:Yz a b with
 |true=>rw[Y7 (by simpa using h)];rfl
 |false=>rw[Y4 (λAe=>by rw[show Yz a b=Yo by simpa using Ae]at h;cases h)];rfl
theorem LX:∀{o:OT}{x:o.ty.den}{k:Yk}{p:Path}{n:EF},BC o x k p=Yd n->Jk o x k p=Yd n
 |.d _,_,_,_,_,h=>by cases h
 |.p a b,x,k,p,n,h=>by
  simp only[BC]at h;simp only[Jk,zX];split at h
  ·rename_i hk;rw[Y7 hk];exact LX h
  ·rename_i hk;rw[Y4 hk];exact LX h
 |.r _ _,_,0,[],_,h=>h
 |.r _ e,l,0,(i,k)::p,n,h=>by
  simp only[BC]at h;simp only[Jk];split at h
  ·rename_i x hx
   rw[show(l:Ya e.ty.den).getD i e.ty.dflt=x by rw[Yn,hx];rfl];exact LX h
  ·cases h
 |.r _ _,_,_+1,_,_,h=>by cases h
theorem Qh:∀{o:OT}{x:o.ty.den}{k:Yk}{p:Path}{n:EF}{e':OT}{y:Ya e'.ty.den},BC o x k p=Yd n->setD o x k p e' y=Hi o x k p e' y
 |.d _,_,_,_,_,_,_,h=>by cases h
 |.p a b,x,k,p,n,_,_,h=>by
  simp only[BC]at h;simp only[setD,Hi,zX];split at h
  ·rename_i hk;rw[Y7 hk,Y7 hk,Qh h]
  ·rename_i hk;rw[Y4 hk,Y4 hk,Qh h]
 |.r _ _,_,0,[],_,_,_,h=>rfl
 |.r _ e,l,0,(i,k)::p,n,_,_,h=>by
  simp only[BC]at h;simp only[setD,Hi];split at h
  ·rename_i x hx
   rw[show(l:Ya e.ty.den).getD i e.ty.dflt=x by rw[Yn,hx];rfl,Qh h]
  ·cases h
 |.r _ _,_,_+1,_,_,_,_,h=>by cases h
theorem WF:∀{o:OT}{x:o.ty.den}{k:Yk}{p:Path}{n:EF}{i:Yk}{y:n.1.2.ty.den},BC o x k p=Yd n->n.2[i]?=Yd y->∀j,BC o x k (p++[(i,j)])=BC n.1.2 y j []
 |.d _,_,_,_,_,_,_,h,_,_=>by cases h
 |.p a b,x,k,p,n,i,y,h,hy,j=>by
  simp only[BC]at h⊢;split at h
  ·rename_i hk;rw[Y7 hk];exact WF h hy j
  ·rename_i hk;rw[Y4 hk];exact WF h hy j
 |.r _ _,_,0,[],_,i,y,h,hy,j=>by simp only[BC,Af]at h;subst h;simp only[DT,BC];rw[show(_:Ya _)[i]?=Yd y from hy]
 |.r _ e,l,0,(i',k)::p,n,i,y,h,hy,j=>by
  simp only[BC,EE]at h⊢;split at h
  ·rename_i x hx
   exact WF h hy j
  ·cases h
 |.r _ _,_,_+1,_,_,_,_,h,_,_=>by cases h
theorem SA:∀{o:OT}{x:o.ty.den}{k:Yk}{p:Path}{n:EF}{i:Yk}{y:n.1.2.ty.den},BC o x k p=Yd n->n.2[i]?=Yd y->∀j,nix o x k (p++[(i,j)])=nix o x k p+1+((n.2.take i).map (cnt n.1.2)).sum+nix n.1.2 y j []
 |.d _,_,_,_,_,_,_,h,_,_=>by cases h
 |.p a b,x,k,p,n,i,y,h,hy,j=>by
  simp only[BC]at h;simp only[nix];split at h
  ·rename_i hk;rw[Y7 hk,Y7 hk];exact SA h hy j
  ·rename_i hk;rw[Y4 hk,Y4 hk,SA h hy j];omega
 |.r _ _,_,0,[],_,i,y,h,hy,j=>by simp only[BC,Af]at h;subst h;simp only[DT,nix];rw[show(_:Ya _)[i]?=Yd y from hy]
 |.r _ e,l,0,(i',k)::p,n,i,y,h,hy,j=>by
  simp only[BC]at h;simp only[nix,EE];split at h
  ·rename_i x hx
   rw[SA h hy j];omega
  ·cases h
 |.r _ _,_,_+1,_,_,_,_,h,_,_=>by cases h
section
variable{E E':Env}{t:Yq}{e:OT}
theorem TreeOk.node{l:Ya e.ty.den}{sv:Yp}{Ab:Ya (Yb Yp)}(hT:TreeOk E t e Ye l sv Ab){p:Path}{n:EF}(hn:BC (.r t e) l 0 p=Yd n):∃s Fn G1 G2,sv::Ab.filterMap id=G1++(s::Fn++G2)/\G1.length=nix (.r t e) l 0 p/\(Yd sv::Ab)=(G1++(s::Fn++G2)).map Yd/\(Yd sv::Ab)[nix (.r t e) l 0 p]?=Yd (Yd s)/\Owns E.w E.ok E.base s (.r n.1.1 n.1.2) Ye n.2 [s] (s::Fn)/\Owns E.w E.ok E.base s (.r t e) (Yd (0,p)) l [sv] (G1++G2)/\(G1++(s::Fn++G2)).Pairwise (λs r=>∀g,s.ownBlock=Yd g->r.ownBlock≠Yd g):=by
 obtain⟨hv,F,h1,h2,h3⟩:=hT.rep;have h2:Yd sv::Ab=(sv::F).map Yd:=h2;obtain⟨s,G1,Fn,G2,e1,e2,e3,e4⟩:=Owns.split h1 hn;have hs:Ab=F.map Yd:=by simpa using h2
 refine⟨s,Fn,G1,G2,?_,e2,?_,?_,e3,e4,e1▸h3⟩
 ·rw[<-e1,hs];simp[List.filterMap_map]
 ·rw[<-e1];exact h2
 ·rw[h2,e1,LK,ES (by simp[e2])]
  simp[e2]
theorem fJ(hb:Eg E){b ver Am:Yk}{l:Ya e.ty.den}{p:Path}(An:E.bl b=Yd (.tree t e ver Am Ye l)){v:Yp}(hv:CRep E (.trow b (tv ver Am p) p) v):∃sv Ab n,E.pl b=Yd (.row sv Ab)/\TreeOk E t e Ye l sv Ab/\BC (.r t e) l 0 p=Yd n/\(Yd sv::Ab)[nix (.r t e) l 0 p]?=Yd (Yd v):=by
 obtain⟨_,sv,Ab,Bk,AO⟩:=hv;obtain⟨q,hq,hB⟩:=hb b _ An;rw[Bk]at hq;injection hq with hq;subst hq;obtain⟨n,h1,h2⟩:=(AO _ _ _ _ _ _ An).2 rfl (λ_ h=>by cases h);exact⟨sv,Ab,n,Bk,hB,h1,h2⟩
theorem Amw(hb:Eg E){b ver Am:Yk}{l:Ya e.ty.den}{p:Path}(An:E.bl b=Yd (.tree t e ver Am Ye l)){v:Yp}(hv:CRep E (.trow b (tv ver Am p) p) v){n:EF}(hn:Jk (.r t e) l 0 p=Yd n):∃xs,E.w.ownsRow E.base n.1.1 n.1.2.ty.size v n.2.length xs:=by
 obtain⟨sv,Ab,n',Bk,hT,Dj,I3⟩:=fJ hb An hv;have:=LX Dj;rw[hn]at this;injection this with this;subst this;obtain⟨s',Fn,G1,G2,_,_,_,h4,h5,_,_⟩:=hT.node Dj;rw[I3]at h4;injection h4 with h4;injection h4 with h4;subst h4;obtain⟨s',xs,F',e1,_,Ah,_⟩:=h5;have e1:=(Lb e1).1;subst e1;exact⟨xs,Ah⟩
theorem WG{bl:Yk->Yb Blk}{b ver:Yk}{p:Path}{a:(te:Yq×OT)×(Ya te.2.ty.den×(Yk×(Yk×EF)))}(h:PS bl b ver p=Yd a):bl b=Yd (.tree a.1.1 a.1.2 a.2.2.1 a.2.2.2.1 Ye a.2.1)/\ver=tv a.2.2.1 a.2.2.2.1 p/\Jk (.r a.1.1 a.1.2) a.2.1 0 p=Yd a.2.2.2.2:=by
 unfold PS at h;split at h
 ·rename_i t e ver' Am l An
  cases hv:Ym ver (tv ver' Am p)with
  |false=>rw[hv]at h;cases h
  |true=>
   rw[hv,Ao]at h;split at h
   ·rename_i n hn
    simp only[Af]at h;subst h;exact⟨An,At hv,hn⟩
   ·cases h
 ·cases h
theorem fK{b ver i:Yk}{p:Path}{hv:Yp}:∀{o:OT}{x:o.ty.den}{u F:Ya Yp}{k0:Yk},Owns E.w E.ok E.base hv o Ye x u F->(∀j m s,BC o x j []=Yd m->u[j]?=Yd s->F[nix o x j []]?=Yd s->CRep E (.trow b ver (p++[(i,k0+j)])) s)->CReps E (PR b ver p i k0 o x) u
 |.d _,_,_,_,_,h,_=>FW h.2.1
 |.p a c,x,u,F,k0,⟨u1,u2,F1,F2,e1,e2,h1,h2⟩,hc=>by
  have h1:Owns E.w E.ok E.base hv a Ye x.1 u1 F1:=h1;have h2:Owns E.w E.ok E.base hv c Ye x.2 u2 F2:=h2;have l1:=h1.length;rw[e1];refine CReps.append (fK h1 λj m s hn hu hF=>?_) (fK h2 λj m s hn hu hF=>?_)
  ·have hj:j<u1.length:=(Do.1 hu).1
   have Ha:j<a.ty.size:=by omega
   refine hc j m s (by simp only[BC,Y7 Ha];exact hn) (by rw[e1,G0 hj];exact hu) ?_;simp only[nix,Y7 Ha];rw[e2,G0 (Do.1 hF).1];exact hF
  ·have Ha:¬(a.ty.size+j<a.ty.size):=by omega
   have:=hc (a.ty.size+j) m s (by simp only[BC,Y4 Ha,MF];exact hn) (by rw[e1,ES (by omega),l1,MF];exact hu) (by
    simp only[nix,Y4 Ha,MF];rw[<-h1.cnt,e2,ES (by omega),MF];exact hF)
   rw[show k0+a.ty.size+j=k0+(a.ty.size+j) by omega];exact this
 |.r t e,l,u,F,k0,⟨sv,xs,F',e1,e2,h,hl⟩,hc=>by rw[e1];exact⟨sv,[],rfl,hc 0 ⟨(t,e),l⟩ sv rfl (by rw[e1];rfl) (by rw[e2];rfl),rfl⟩
theorem Owns.elem{w:Yx}{ok:Yk->Prop}{base:Yk}{hv s:Yp}{l:Ya e.ty.den}{Fn:Ya Yp}(h:Owns w ok base hv (.r t e) Ye l [s] (s::Fn)){i:Yk}(hi:i<l.length):∃y u pre post Fu Fp Fq,l[i]?=Yd y/\w.ownsRow base t e.ty.size s l.length (pre++(u++post))/\pre.length=i*e.ty.size/\Fn=Fp++(Fu++Fq)/\Fp.length=((l.take i).map (Go.Lift.cnt e)).sum/\Owns w ok base hv e Ye y u Fu/\∀(w':Yx)(ok':Yk->Prop)(base':Yk)(Cq:Yp) y' u' Fu',(∀x u f,(∀s∈f,s∈Fp\/s∈Fq)->Owns w ok base hv e Ye x u f->Owns w' ok' base' Cq e Ye x u f)->Owns w' ok' base' Cq e Ye y' u' Fu'->w'.ownsRow base' t e.ty.size s l.length (pre++(u'++post))->Owns w' ok' base' Cq (.r t e) Ye (l.set i y') [s] (s::(Fp++(Fu'++Fq))):=by
 obtain⟨sv,xs,F',e1,e2,h,hl⟩:=h;have e1:s=sv:=by simpa using e1
 subst e1;have e2:Fn=F':=by simpa using e2
 subst e2;obtain⟨y,u,p,q,Fu,Fp,Fq,g1,g2,g3,g4,g5,⟨_,g7,_⟩,g6⟩:=OL.focus (n:=e.ty.size) (λ_ _ _ _ h=>Owns.length h) hl (i:=i) hi;rw[g2]at h;refine⟨y,u,p,q,Fu,Fp,Fq,g1,h,g3,g4,Sk e g7,by simpa using g5,λw' ok' base' Cq y' u' Fu' k1 k2 k3=>?_⟩;exact⟨s,_,_,rfl,rfl,by rw[RZ];exact k3,g6 _ y' u' Fu' (λm x u f _ hf hx=>k1 x u f hf hx) k2⟩
theorem zY(hb:Eg E){b ver Am i o:Yk}{l:Ya e.ty.den}{p:Path}(An:E.bl b=Yd (.tree t e ver Am Ye l)){v:Yp}(hv:VRep E (.c (.tptr b (tv ver Am p) p i o)) v):∃sv Ab n s g m c,E.pl b=Yd (.row sv Ab)/\TreeOk E t e Ye l sv Ab/\BC (.r t e) l 0 p=Yd n/\(Yd sv::Ab)[nix (.r t e) l 0 p]?=Yd (Yd s)/\i<n.2.length/\s=.slice (Yd ⟨g,0,Ye⟩) m c/\v=.pointer (Yd ⟨g,i*n.1.2.ty.size+o,Ye⟩):=by
 obtain⟨sv,Ab,ad,Bk,hv,AO⟩:=hv;obtain⟨q,hq,hB⟩:=hb b _ An;rw[Bk]at hq;injection hq with hq;subst hq;obtain⟨n,s,h1,h2,h3,g,m,c,h4,rfl⟩:=(AO _ _ _ _ _ _ An).2 rfl (λ_ h=>by cases h);exact⟨sv,Ab,n,s,g,m,c,Bk,hB,h1,h2,h3,h4,hv⟩
theorem Amx(hb:Eg E){b ver Am i:Yk}{l:Ya e.ty.den}{p:Path}(An:E.bl b=Yd (.tree t e ver Am Ye l)){sv:Yp}{Ab:Ya (Yb Yp)}(Bk:E.pl b=Yd (.row sv Ab))(hT:TreeOk E t e Ye l sv Ab){n:EF}(hn:BC (.r t e) l 0 p=Yd n){s:Yp}(hs:(Yd sv::Ab)[nix (.r t e) l 0 p]?=Yd (Yd s))(hi:i<n.2.length):∃u pre post,E.w.ownsRow E.base n.1.1 n.1.2.ty.size s n.2.length (pre++(u++post))/\pre.length=i*n.1.2.ty.size/\CReps E (PR b (ver+Am) p i 0 n.1.2 (n.2.getD i n.1.2.ty.dflt)) u:=by
 obtain⟨s',Fn,G1,G2,_,h2,h3,h4,h5,_,_⟩:=hT.node hn;rw[hs]at h4;injection h4 with h4;injection h4 with h4;subst h4;obtain⟨y,u,pre,post,Fu,Fp,Fq,g1,g2,g3,g4,g5,g6,_⟩:=h5.elem hi;refine⟨u,pre,post,g2,g3,?_⟩;rw[show n.2.getD i n.1.2.ty.dflt=y by rw[Yn,g1];rfl];refine fK g6 λj m s1 hm hu hF=>?_;rw[CQ];refine⟨g6.oneCell s1 (CN hu),sv,Ab,Bk,λt1 e1 CM H9 Ep l1 AV=>?_⟩;rw[An]at AV;injection AV with AV;injection AV with q1 q2 q3 q4 q5 q6;subst q1 q2 q3 q4 q5;simp only[Jj]at q6;subst q6;have cJ:tv ver Am (p++[(i,j)])=ver+Am:=by cases p<;>rfl
 rw[cJ];refine⟨Aw _,λ_ _=>⟨m,by rw[WF hn g1];exact hm,?_⟩⟩;rw[SA hn g1,h3,FJ,<-h2,<-g5,ES (by omega)];rw[show G1.length+1+Fp.length+nix n.1.2 y j []-G1.length=(Fp.length+nix n.1.2 y j [])+1 by omega,EE,Ee,g4];have Ae:=(Do.1 hF).1;rw[C1,ES (by omega),MF,C1,G0 Ae,hF];rfl
def Same:(o:OT)->o.ty.den->o.ty.den->Prop
 |.d _,_,_=>True
 |.p a b,x,y=>Same a x.1 y.1/\Same b x.2 y.2
 |.r _ e,l,l'=>Yg l'=Yg l/\∀(i:Yk)(x x':e.ty.den),(l:Ya e.ty.den)[i]?=Yd x->(l':Ya e.ty.den)[i]?=Yd x'->Same e x x'
theorem Same.refl:∀(o:OT)(x:o.ty.den),Same o x x
 |.d _,_=>trivial
 |.p a b,x=>⟨Same.refl a x.1,Same.refl b x.2⟩
 |.r _ e,l=>⟨rfl,λi x x' h h'=>by rw[h]at h';injection h' with h';subst h';exact Same.refl e x⟩
theorem zZ{e:OT}(ih:∀x x',Same e x x'->cnt e x'=cnt e x){l l':Ya e.ty.den}(hl:l'.length=l.length)(h:∀(i:Yk)(x x':e.ty.den),l[i]?=Yd x->l'[i]?=Yd x'->Same e x x')(m:Yk):(l'.take m).map (cnt e)=(l.take m).map (cnt e):=by
 apply RR;intro i;simp only[FJ,LH];split
 ·cases hx:l[i]? with
  |none=>rw[PC]at hx;rw[PC.2 (by omega)]
  |some x=>have Ae:=(Do.1 hx).1;rw[C0 (by omega:i<l'.length)];simp only[Ft];rw[ih x _ (h i x _ hx (C0 (by omega)))]
 ·rfl
theorem Same.cnt:∀{o:OT}{x y:o.ty.den},Same o x y->Go.Lift.cnt o y=Go.Lift.cnt o x
 |.d _,_,_,_=>rfl
 |.p a b,x,y,h=>by simp only[Go.Lift.cnt];rw[h.1.cnt,h.2.cnt]
 |.r _ e,l,l',h=>by have:=zZ (λx x' h=>Same.cnt h) h.1 h.2 (Yg l);rw[Wa,GL (by rw[h.1];exact Aw _)]at this;simp only[Go.Lift.cnt];rw[this]
theorem Same.node:∀{o:OT}{x y:o.ty.den}{k:Yk}{p:Path}{n:EF},Same o x y->BC o x k p=Yd n->∃n',BC o y k p=Yd n'/\n'.1=n.1/\n'.2.length=n.2.length/\nix o y k p=nix o x k p
 |.d _,_,_,_,_,_,_,h=>by cases h
 |.p a b,x,y,k,p,n,hs,h=>by
  simp only[BC,nix]at h⊢;split at h
  ·rename_i hk;rw[Y7 hk,Y7 hk,Y7 hk];exact Same.node hs.1 h
  ·rename_i hk
   rw[Y4 hk,Y4 hk,Y4 hk,hs.1.cnt];obtain⟨n',h1,h2,h3,h4⟩:=Same.node hs.2 h;exact⟨n',h1,h2,h3,by rw[h4]⟩
 |.r _ _,_,_,0,[],_,hs,h=>by simp only[BC,Af]at h;subst h;exact⟨_,rfl,rfl,hs.1,rfl⟩
 |.r _ e,l,l',0,(i,k)::p,n,hs,h=>by
  simp only[BC,nix]at h⊢;split at h
  ·rename_i x hx
   have Ae:=(Do.1 hx).1;have hl:=hs.1;have DH:(l':Ya e.ty.den)[i]?=Yd ((l':Ya e.ty.den)[i]'(by rw[hl];exact Ae)):=C0 _;obtain⟨n',h1,h2,h3,h4⟩:=Same.node (hs.2 i x _ hx DH) h;refine⟨n',?_,h2,h3,?_⟩
   ·rw[DH];exact h1
   ·rw[DH]
    simp only;rw[h4,zZ (λx x' h=>Same.cnt h) hs.1 hs.2 i]
  ·cases h
 |.r _ _,_,_,_+1,_,_,_,h=>by cases h
theorem Same.set:∀{o:OT}{x:o.ty.den}{k:Yk}{p:Path}{n:EF}{y:Ya n.1.2.ty.den},BC o x k p=Yd n->Same (.r n.1.1 n.1.2) n.2 y->Same o x (Hi o x k p n.1.2 y)
 |.d _,_,_,_,_,_,h,_=>by cases h
 |.p a b,x,k,p,n,y,h,hs=>by
  simp only[BC,Hi]at h⊢;split at h
  ·rename_i hk;rw[Y7 hk];exact⟨Same.set h hs,Same.refl _ _⟩
  ·rename_i hk;rw[Y4 hk];exact⟨Same.refl _ _,Same.set h hs⟩
 |.r _ _,_,0,[],n,y,h,hs=>by simp only[BC,Af]at h;subst h;simp only[Hi];exact hs
 |.r _ e,l,0,(i,k)::p,n,y,h,hs=>by
  simp only[BC,Hi]at h⊢;split at h
  ·rename_i x hx
   refine⟨RZ,λj z z' hz H8=>?_⟩;by_cases hj:i=j
   ·subst hj
    rw[hx]at hz;injection hz with hz;subst hz;rw[List.getElem?_set_self (Do.1 hx).1]at H8;injection H8 with H8;subst H8;exact Same.set h hs
   ·rw[List.getElem?_set_ne hj,hz]at H8
    injection H8 with H8;subst H8;exact Same.refl e z
  ·cases h
 |.r _ _,_,_+1,_,_,_,h,_=>by cases h
theorem Same.leaf:∀{o:OT}{x:o.ty.den}{k:Yk}{new:Ya C}{y:o.ty.den},Lc o x k new=Yd y->Same o x y
 |.d _,_,_,_,_,_=>trivial
 |.p a b,x,k,new,y,h=>by
  simp only[Lc]at h;cases h1:YB (k+new.length) a.ty.size with
  |true=>
   rw[h1,Ao]at h;split at h
   ·rename_i z hz
    simp only[Af]at h;subst h;exact⟨Same.leaf hz,Same.refl _ _⟩
   ·cases h
  |false=>
   rw[h1,BU]at h;cases h2:YB a.ty.size k with
   |false=>rw[h2]at h;cases h
   |true=>
    rw[h2,Ao]at h;split at h
    ·rename_i z hz
     simp only[Af]at h;subst h;exact⟨Same.refl _ _,Same.leaf hz⟩
    ·cases h
 |.r _ _,_,_,_,_,h=>by cases h
theorem KeepT.same{c:Prop}{l l':Ya e.ty.den}(h:Same (.r t e) l l')(sv:Yp)(Ab:Ya (Yb Yp)):KeepT c t e Ye Ye l l' sv Ab Ab:=λp _ ho=>⟨ho,λn hn=>by obtain⟨n',h1,h2,h3,h4⟩:=h.node hn;exact⟨n',h1,h2,h3,λs hs=>by rw[h4];exact hs⟩⟩
theorem Owns.leaf(hb:Eg E){hv:Yp}:∀{o:OT}{x:o.ty.den}{u F us:Ya Yp}{k:Yk}{new:Ya C}{y:o.ty.den},Owns E.w E.ok E.base hv o Ye x u F->CReps E new us->Lc o x k new=Yd y->k+us.length<=u.length/\Owns E.w E.ok E.base hv o Ye y (u.take k++us++u.drop (k+us.length)) F
 |.d τ,x,u,F,us,k,new,y,h,hn,hs=>by
  obtain⟨h1,h2,h3⟩:=h;simp only[Lc]at hs;split at hs
  ·rename_i rc E3
   obtain⟨s1,s2⟩:=Of (FW h2) hn E3;exact⟨s2,rfl,MT hb (Rows.none _ _) s1 hs,h3⟩
  ·cases hs
 |.p a b,x,u,F,us,k,new,y,⟨u1,u2,F1,F2,e1,e2,h1,h2⟩,hn,hs=>by
  have h1:Owns E.w E.ok E.base hv a Ye x.1 u1 F1:=h1;have h2:Owns E.w E.ok E.base hv b Ye x.2 u2 F2:=h2;have l1:=h1.length;have ln:=hn.length;simp only[Lc]at hs;cases hc:YB (k+new.length) a.ty.size with
  |true=>
   rw[hc,Ao]at hs;have hc:=IC hc;split at hs
   ·rename_i z hz
    simp only[Af]at hs;subst hs;obtain⟨q1,q2⟩:=Owns.leaf hb h1 hn hz;refine⟨by rw[e1,Bd];omega,_,u2,F1,F2,?_,e2,q2,h2⟩;rw[e1,KY (by omega),RN (by omega),<-C1]
   ·cases hs
  |false=>
   rw[hc,BU]at hs;cases BG:YB a.ty.size k with
   |false=>rw[BG]at hs;cases hs
   |true=>
    rw[BG,Ao]at hs;have BG:=IC BG;split at hs
    ·rename_i z hz
     simp only[Af]at hs;subst hs;obtain⟨q1,q2⟩:=Owns.leaf hb h2 hn hz;refine⟨by rw[e1,Bd];omega,u1,_,F1,F2,?_,e2,h1,q2⟩;rw[e1,RV,GL (by omega),RX,GM (by omega),DT,l1];simp only[C1];rw[show k+us.length-a.ty.size=k-a.ty.size+us.length by omega]
    ·cases hs
 |.r _ _,_,_,_,_,_,_,_,_,_,hs=>by cases hs
theorem Aa0{R:Yp->Yp->Prop}{A B C:Ya Yp}{s:Yp}(hR:∀a b,R a b->R b a)(h:(A++(s::B++C)).Pairwise R):∀r,(r∈A\/r∈B\/r∈C)->R s r:=λr hr=>by
 rw[FU]at h;obtain⟨_,h2,h3⟩:=h;rw[EE,G4]at h2;rcases hr with hr|hr|hr
 ·exact hR _ _ (h3 r hr s (by simp))
 ·exact h2.1 r (by simp[hr])
 ·exact h2.1 r (by simp[hr])
theorem Aa1(a b:Yp)(h:∀g,a.ownBlock=Yd g->b.ownBlock≠Yd g):∀g,b.ownBlock=Yd g->a.ownBlock≠Yd g:=λg h1 h2=>h g h2 h1
theorem Og{sv:Yp}{Ab:Ya (Yb Yp)}{F:Ya Yp}(h:(Yd sv::Ab)=F.map Yd){s:Yp}(hs:s∈F){g:Yk}(hg:s.ownBlock=Yd g):(Pl.row sv Ab).has g:=by
 have:Yd s∈Yd sv::Ab:=by rw[h];exact RO hs
 rcases Bg.1 this with h1|h1
 ·injection h1 with h1;subst h1;exact .inl hg
 ·obtain⟨i,hi⟩:=PD.1 h1;exact .inr ⟨i,s,hi,hg⟩
theorem TreeOk.leaf(hb:Eg E){l:Ya e.ty.den}{sv:Yp}{Ab:Ya (Yb Yp)}(hT:TreeOk E t e Ye l sv Ab){p:Path}{n:EF}(hn:BC (.r t e) l 0 p=Yd n){s:Yp}(hs:(Yd sv::Ab)[nix (.r t e) l 0 p]?=Yd (Yd s)){i o:Yk}(hi:i<n.2.length){g m c:Yk}(Au:s=.slice (Yd ⟨g,0,Ye⟩) m c){new:Ya C}{us:Ya Yp}{y:n.1.2.ty.den}(I1:CReps E new us)(Pw:Lc n.1.2 (n.2.getD i n.1.2.ty.dflt) o new=Yd y):∃xs,E.w.ownsRow E.base n.1.1 n.1.2.ty.size s n.2.length xs/\i*n.1.2.ty.size+o+us.length<=xs.length/\∀E',Ext E E'->E'.base=E.base->(∀g',(Pl.row sv Ab).has g'->g'≠g->E'.w.heap[g']?=E.w.heap[g']?)->E'.w.ownsRow E.base n.1.1 n.1.2.ty.size s n.2.length (xs.take (i*n.1.2.ty.size+o)++us++xs.drop (i*n.1.2.ty.size+o+us.length))->TreeOk E' t e Ye (setD (.r t e) l 0 p n.1.2 (n.2.set i y)) sv Ab:=by
 obtain⟨s',Fn,G1,G2,_,h2,h3,h4,h5,h6,h7⟩:=hT.node hn;rw[hs]at h4;injection h4 with h4;injection h4 with h4;subst h4;obtain⟨y0,u,pre,post,Fu,Fp,Fq,g1,g2,g3,g4,g5,g6,g7⟩:=h5.elem hi;rw[show n.2.getD i n.1.2.ty.dflt=y0 by rw[Yn,g1];rfl]at Pw;obtain⟨q1,q2⟩:=Owns.leaf hb g6 I1 Pw;refine⟨_,g2,by simp only[Bd];omega,λE' hx L0 hh Ah=>?_⟩;have An:s.ownBlock=Yd g:=by rw[Au];rfl
 have KK:∀r,(r∈G1\/r∈Fn\/r∈G2)->∀g',r.ownBlock=Yd g'->E'.w.heap[g']?=E.w.heap[g']?:=λr hr g' BB=>hh g' (Og h3 (by rcases hr with h|h|h<;>simp[h]) BB) (λh=>Aa0 Aa1 h7 r hr g An (h▸BB));have BM:E'.base<=E.base:=by rw[L0];exact Aw _
 have xE:=Owns.mono BM hx.heap (λr hr g' BB=>KK r ((BV.1 hr).imp id .inr) g' BB) h6
 have hrow:(pre++(u++post)).take (i*n.1.2.ty.size+o)++us++(pre++(u++post)).drop (i*n.1.2.ty.size+o+us.length)=pre++((u.take o++us++u.drop (o+us.length))++post):=by
  have e1:(pre++(u++post)).take (i*n.1.2.ty.size+o)=pre++u.take o:=by rw[RV,GL (by omega),KY (by omega)];congr 2;omega
  have e2:(pre++(u++post)).drop (i*n.1.2.ty.size+o+us.length)=u.drop (o+us.length)++post:=by rw[RX,GM (by omega),DT,RN (by omega)];congr 2;omega
  rw[e1,e2];simp only[C1]
 rw[hrow]at Ah
 have Ci:=g7 E'.w E'.ok E'.base s y _ Fu (λx u f hf h=>Owns.mono BM hx.heap (λr hr g' BB=>KK r (.inr (.inl (by rw[g4];rcases hf r hr with h|h<;>simp[h]))) g' BB) h)
  (Owns.mono BM hx.heap (λr hr g' BB=>KK r (.inr (.inl (by rw[g4];simp[hr]))) g' BB) q2) (by rw[L0];exact Ah)
 rw[<-g4]at Ci;obtain⟨H1,H2,k1,k2,k3⟩:=Owns.join xE hn;have FQ:=k3 _ _ Ci;have k4:G1=H1/\G2=H2:=Wg k1 (by rw[h2,k2]);obtain⟨rfl,rfl⟩:=k4;rw[<-Qh hn]at FQ;obtain⟨sv0,xs0,F0,z1,z2,z3,z4⟩:=FQ;have z1:sv=sv0:=by simpa using z1
 subst z1;refine⟨⟨s,F0,?_,?_,?_⟩,by simp⟩
 ·exact⟨sv,xs0,F0,rfl,rfl,z3,z4⟩
 ·show Yd sv::Ab=(sv::F0).map Yd
  rw[<-z2];exact h3
 ·rw[<-z2];exact h7
theorem Same.write{l:Ya e.ty.den}{p:Path}{n:EF}(hn:BC (.r t e) l 0 p=Yd n){i o:Yk}{new:Ya C}{y:n.1.2.ty.den}(hi:i<n.2.length)(Pw:Lc n.1.2 (n.2.getD i n.1.2.ty.dflt) o new=Yd y):Same (.r t e) l (setD (.r t e) l 0 p n.1.2 (n.2.set i y)):=by
 rw[Qh hn];refine Same.set hn ⟨RZ,λj z z' hz H8=>?_⟩;by_cases hj:i=j
 ·subst hj
  rw[List.getElem?_set_self hi]at H8;injection H8 with H8;subst H8;have:=Same.leaf Pw;rw[show n.2.getD i n.1.2.ty.dflt=z by rw[Yn,hz];rfl]at this;exact this
 ·rw[List.getElem?_set_ne hj,hz]at H8
  injection H8 with H8;subst H8;exact Same.refl _ z
theorem Aa2:∀{p q:Path},Wp p q=Yo->p=q
 |[],[],_=>rfl
 |[],_::_,h=>by cases h
 |_::_,[],h=>by cases h
 |(i,k)::p,(j,m)::q,h=>by obtain⟨h1,h2⟩:=andB (show(Yf (i=j)&&(Ym k m&&Wp p q))=Yo from h);obtain⟨h2,h3⟩:=andB h2;rw[AC h1,At h2,Aa2 h3]
theorem fL{w:Yx}{ok:Yk->Prop}{base:Yk}{hv:Yp}{τ:Ty}:∀{l:Ya τ.den}{j:Yk}{xs:Ya Yp},DList (λx u=>DRep w ok τ x u) l xs->OL (λ_ x u f=>Owns w ok base hv (.d τ) Ye x u f) j l xs []
 |[],_,_,h=>⟨h,rfl⟩
 |_::_,_,_,⟨u,v,e,h1,h2⟩=>⟨u,v,[],[],e,rfl,⟨rfl,h1,rfl⟩,fL h2⟩
theorem fM{blp:Yk->Yb Blk}(hb:Eg E){v:V}{r:Yk}{m:EF}(h:Sq blp v=Yd (r,m))(AM:E.bl r=blp r){u:Yp}(hv:VRep E v u):∃Ab Fr B,E.bl r=Yd B/\B≠.dead/\(∀t e ver Am P l,B≠.tree t e ver Am (Yd P) l)/\E.pl r=Yd (.row u Ab)/\(∀NI,Owns E.w E.ok E.base NI (.r m.1.1 m.1.2) Ye m.2 [u] (u::Fr))/\Yd u::Ab=(u::Fr).map Yd/\(u::Fr).Pairwise (λs r=>∀g,s.ownBlock=Yd g->r.ownBlock≠Yd g):=by
 unfold Sq at h;split at h
 ·rename_i r' rv
  split at h
  ·rename_i t e ver l An
   cases hc:Ym rv ver with
   |false=>rw[hc]at h;cases h
   |true=>have:=At hc;subst this;simp only[hc,Ao,Af,Bv]at h;obtain⟨rfl,rfl⟩:=h;obtain⟨_,sv,Ab,Bk,AO⟩:=hv;rw[<-AM]at An;have hu:=(AO _ _ _ _ An).2 rfl;subst hu;obtain⟨q,hq,hB⟩:=hb _ _ An;rw[Bk]at hq;injection hq with hq;subst hq;obtain⟨h0,xs,h1,h2⟩:=hB;subst h0;exact⟨[],[],_,An,(by simp),(by simp),Bk,λNI=>⟨u,xs,[],rfl,rfl,h2,fL h1⟩,rfl,by simp⟩
  ·cases h
 ·rename_i r' rv
  split at h
  ·rename_i t e ver Am l An
   cases hc:Ym rv ver with
   |false=>rw[hc]at h;cases h
   |true=>have:=At hc;subst this;simp only[hc,Ao,Af,Bv]at h;obtain⟨rfl,rfl⟩:=h;rw[<-AM]at An;obtain⟨Ab,Bk,hT⟩:=WC hb An hv;obtain⟨El,F,k1,k2,k3⟩:=hT.rep;exact⟨Ab,F,_,An,(by simp),(by simp),Bk,λNI=>Owns.any k1,k2,k3⟩
  ·cases h
 ·cases h
theorem TreeOk.put{l:Ya e.ty.den}{sv:Yp}{Ab:Ya (Yb Yp)}{p:Path}{i o:Yk}(hT:TreeOk E t e (Yd (p++[(i,o)])) l sv Ab){n0:EF}(J7:BC (.r t e) l 0 p=Yd n0){s:Yp}(hs:(Yd sv::Ab)[nix (.r t e) l 0 p]?=Yd (Yd s))(hi:i<n0.2.length){g m0 c:Yk}(Au:s=.slice (Yd ⟨g,0,Ye⟩) m0 c)(H0:∀g,(Pl.row sv Ab).has g->¬E.ok g){n m:EF}(hn:Jk (.r t e) l 0 (p++[(i,o)])=Yd n)(Cc:m.1=n.1){u:Yp}{Fr:Ya Yp}(hu:∀NI,Owns E.w E.ok E.base NI (.r m.1.1 m.1.2) Ye m.2 [u] (u::Fr))(NE:(u::Fr).Pairwise (λs r=>∀g,s.ownBlock=Yd g->r.ownBlock≠Yd g))(hsep:∀s∈u::Fr,∀g,s.ownBlock=Yd g->¬(Pl.row sv Ab).has g):(∃old,E.w.cell? ⟨g,i*n0.1.2.ty.size+o,Ye⟩=Yd old)/\E.w.frozen? ⟨g,i*n0.1.2.ty.size+o,Ye⟩=Yc/\∃Bf,(∀g,(Pl.row sv Bf).has g->(Pl.row sv Ab).has g\/∃s∈u::Fr,s.ownBlock=Yd g)/\∀E':Env,E'.w=E.w.setCell ⟨g,i*n0.1.2.ty.size+o,Ye⟩ u->E'.base=E.base->(∀g,E.ok g->g<E.w.heap.size->E'.ok g)->TreeOk E' t e Ye (setD (.r t e) l 0 (p++[(i,o)]) m.1.2 m.2) sv Bf:=by
 obtain⟨hv,F,h1,h2,h3⟩:=hT.rep;obtain⟨nP,A,B,a1,a2,a3,a4⟩:=h2
 have x8:nP=n:=by have:=LX a1;rw[hn]at this;injection this with this;exact this.symm
 subst x8;have Co:∀r,r∈sv::F->∀g,r.ownBlock=Yd g->(Pl.row sv Ab).has g:=λr hr g hg=>Placed.has (t:=t) (e:=e) (l:=l) (hole:=Yd (p++[(i,o)])) ⟨nP,A,B,a1,a2,a3,a4⟩ hr hg;obtain⟨n1,s1,g1,c1,G1,Fn,b1,b2,b3,b4,b5,b6,b6',b7⟩:=Owns.header (ok':=E.ok) (λ_ h=>h) (λr hr g hg=>H0 g (Co r hr g hg)) h1;rw[J7]at b1;injection b1 with b1;subst b1
 have Ae:nix (.r t e) l 0 p<A.length:=by rw[a3,SA J7 (C0 hi)];omega
 have I3:s1=s:=by
  have k1:(sv::F)[nix (.r t e) l 0 p]?=Yd s1:=by rw[b2,<-b3,ES (Aw _),Sh];rfl
  rw[a2,G0 Ae]at k1;rw[a4,G0 (by simpa using Ae),FJ,k1]at hs;simpa using hs
 subst I3;rw[Au]at b4;injection b4 with b4 b4' b4'';injection b4 with b4;injection b4 with b4;subst b4;have An:s1.ownBlock=Yd g:=by rw[Au];rfl
 have Eu:u.oneCell'=Yo:=(hu u).oneCell u (by simp)
 have Az:∀s'∈G1++Fn,s'.ownBlock≠Yd g:=λs' B3=>by rw[b2]at h3;exact Aa0 (C:=[]) Aa1 (by simpa using h3) s' (by rcases BV.1 B3 with h|h<;>simp[h]) g An
 have hgF:∀s'∈u::Fr,s'.ownBlock≠Yd g:=λs' B3 hg=>hsep s' B3 g hg (Co s1 (by rw[b2];simp) g An);have AE1:¬E.ok g:=H0 g (Co s1 (by rw[b2];simp) g An);obtain⟨A',B',k1,k2,k3⟩:=Owns.join (b7 u Eu Az) a1;have k4:A=A'/\B=B':=Wg (a2▸k1) (by rw[a3,k2]);obtain⟨rfl,rfl⟩:=k4
 obtain⟨A2,hA2⟩:∃A2,A=sv::A2:=by
  cases A with
  |nil=>simp at Ae
  |cons a A=>rw[EE]at a2;injection a2 with a2 _;exact⟨A,by rw[a2]⟩
 subst hA2;have hF:F=A2++B:=by simpa using a2
 refine⟨⟨_,b6⟩,b6',(A2++(u::Fr++B)).map Yd,λg' h=>?_,λE' hw L0 BS=>?_⟩
 ·rcases h with h|⟨j,s',hj,h⟩
  ·exact .inl (.inl h)
  ·have hm:=CN hj
   obtain⟨s2,AP,Et⟩:=Fw.1 hm;injection Et with Et;subst Et;rcases BV.1 AP with h4|h4
   ·exact .inl (Co s2 (by rw[a2];simp[h4]) g' h)
   ·rcases BV.1 h4 with h4|h4
    ·exact .inr ⟨s2,h4,h⟩
    ·exact .inl (Co s2 (by rw[a2];simp[h4]) g' h)
 ·have hm:=Owns.mono (w':=E.w.setCell ⟨g,i*n0.1.2.ty.size+o,Ye⟩ u) (Aw E.base) (Keeps.set (ok':=E.ok) (λ_ h=>h) AE1) (λs' B3 g' BB=>Yab E.w _ g' u (λe=>hgF s' B3 (by simp only at e;rw[BB,e]))) (hu u)
  obtain⟨⟨m1,m2⟩,m3⟩:=m;obtain⟨⟨q1,q2⟩,q3⟩:=nP;simp only[Bv]at Cc;obtain⟨rfl,rfl⟩:=Cc;have FQ:=k3 _ _ hm;rw[<-Qh a1]at FQ;have FQ:=Owns.mono (w':=E'.w) (ok':=E'.ok) (base':=E'.base) (by rw[L0];exact Aw _) (λg' h Ae=>⟨BS g' h (by simpa [World.setCell]using Ae),by rw[hw]⟩) (λ_ _ _ _=>by rw[hw]) FQ;refine⟨⟨u,A2++(u::Fr++B),FQ,?_,?_⟩,by simp⟩
  ·show _=_
   simp
  ·rw[hF]at h3
   have h3:(sv::A2++B).Pairwise (λs r=>∀g,s.ownBlock=Yd g->r.ownBlock≠Yd g):=h3;rw[FU]at h3;obtain⟨p1,p2,p3⟩:=h3;have hAB:∀a∈sv::A2++B,∀b∈u::Fr,∀g,a.ownBlock=Yd g->b.ownBlock≠Yd g:=λa ha b hb g h1 h2=>hsep b hb g h2 (Co a (by rw[a2];exact ha) g h1);show(sv::A2++(u::Fr++B)).Pairwise _;rw[FU,FU];refine⟨p1,⟨NE,p2,λa ha b hb g h1 h2=>hAB b (Da _ hb) a ha g h2 h1⟩,λa ha b hb=>?_⟩;rcases BV.1 hb with hb|hb
   ·exact hAB a (CI _ ha) b hb
   ·exact p3 a ha b hb
end
end Go.Lift
