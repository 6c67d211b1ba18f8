/- Part0: LiftA0, LiftOw, LiftA, LiftB, LiftC, LiftD, LiftE, LiftOt, LiftF. -/
import Derived.Laws.AppendOwn
import Derived.Below
import Derived.Lib.Join
import Derived.Lib.LaidTab
import Derived.Lib.ItoaNum
import Derived.Lib.Space
import Derived.Lib.SpaceR
import Derived.Orders
import Derived.Laws.Rows
import Derived.Laws.CopyRow
import Derived.Laws.MakeOwn
import Derived.Laws.Build
import Derived.Laws.StructEq
import Derived.Laws.Small
import Derived.Deep.RegionLaw
set_option linter.unusedVariables false
set_option linter.unusedSectionVars false
set_option linter.unusedSimpArgs false
namespace Go.Lift
abbrev Ag:=@Option.some.injEq
abbrev Az:=@Nat.eq_of_beq_eq_true
abbrev At:=@decide_eq_true
abbrev AR:=@List.length_append
abbrev AT:=@Int.toNat_natCast
abbrev AN:=@decide_eq_false
abbrev AX:=@List.length_cons
abbrev Ar:=@cond_true
abbrev Bv:=@of_decide_eq_true
abbrev AQ:=@Nat.le_refl
abbrev Ax:=@congrArg
abbrev BY:=@List.mem_cons_of_mem
abbrev Bw:=@List.mem_cons
abbrev Ci:=@List.append_assoc
abbrev Cs:=@List.mem_append
abbrev Dg:=@List.mem_of_getElem?
abbrev BQ:=@Prod.mk.injEq
abbrev CW:=@List.mem_cons_self
abbrev DI:=@List.getElem?_cons_zero
abbrev Ef:=@List.getElem?_eq_getElem
abbrev CE:=@Bool.and_eq_true
abbrev D0:=@List.mem_append_left
abbrev Eg:=@List.getElem?_cons_succ
abbrev DJ:=@List.mem_append_right
abbrev EN:=@List.getElem?_eq_some_iff
abbrev Fk:=@Array.getD_eq_getD_getElem?
abbrev CX:=@List.length_nil
abbrev FD:=@Int.tmod_eq_emod_of_nonneg
abbrev CM:=@List.map_cons
abbrev Cd:=@cond_false
abbrev D1:=@List.cons.injEq
abbrev Gn:=@List.getElem?_append_right
abbrev DQ:=@List.not_mem_nil
abbrev DK:=@List.length_map
abbrev GJ:=@Int.tdiv_eq_ediv_of_nonneg
abbrev EO:=@List.mem_singleton
abbrev Eh:=@List.all_eq_true
abbrev D2:=@Nat.le_trans
abbrev Gp:=@List.length_singleton
abbrev H5:=@List.getElem?_append_left
abbrev IK:=@List.eq_nil_of_length_eq_zero
abbrev Fa:=@Option.map_some
abbrev Hb:=@List.take_of_length_le
abbrev Fz:=@List.cons_append
abbrev Ik:=@Array.getElem?_eq_some_iff
abbrev Fl:=@List.nil_append
abbrev GK:=@Array.toArray_toList
abbrev FT:=@List.getElem?_map
abbrev CF:=@if_false
abbrev Ei:=@Nat.zero_add
abbrev F3:=@List.append_nil
abbrev Hc:=@Array.length_toList
abbrev H6:=@List.pairwise_append
abbrev Ej:=@Nat.zero_le
abbrev HQ:=@Nat.le_of_ble_eq_true
abbrev H7:=@List.pairwise_cons
abbrev JY:=@List.drop_eq_getElem_cons
abbrev Hd:=@List.length_take
abbrev L7:=@List.take_append_of_le_length
abbrev Il:=@Bool.false_eq_true
abbrev D6:=@if_true
abbrev Im:=@decide_eq_true_eq
abbrev Gy:=@List.mem_map
abbrev IL:=@List.length_drop
abbrev Jw:=@List.flatMap_cons
abbrev Fb:=@and_true
abbrev IM:=@Nat.le_antisymm
abbrev L8:=@List.take_append_drop
abbrev MH:=@Nat.add_sub_cancel_left
abbrev L9:=@Nat.mul_le_mul_right
abbrev Qc:=@List.drop_append_of_le_length
abbrev In:=@Nat.succ_mul
abbrev MI:=@List.length_replicate
abbrev JZ:=@Bool.eq_iff_iff
abbrev KA:=@List.take_length
abbrev MJ:=@Bool.or_eq_false_iff
abbrev Qd:=@List.getD_eq_getElem?_getD
abbrev NU:=@List.drop_of_length_le
abbrev MK:=@List.length_pos_iff
abbrev KC:=@List.map_append
abbrev HR:=@Array.ext'
abbrev Qe:=@Array.getElem?_eq_getElem
abbrev Qf:=@List.getElem?_eq_none_iff
abbrev ML:=@List.getElem?_take
abbrev LA:=@Option.getD_some
abbrev Qg:=@List.pairwise_singleton
abbrev LC:=@Bool.or_eq_true
abbrev LD:=@List.nodup_cons
abbrev Jx:=@Nat.add_mul
abbrev KD:=@List.cons.inj
abbrev Qh:=@List.mem_iff_getElem?
abbrev NV:=@List.getElem?_drop
abbrev MM:=@List.length_set
abbrev KE:=@Nat.le_of_eq
abbrev Ss:=@List.getElem?_take_of_lt
abbrev MN:=@Nat.not_lt_zero
abbrev NW:=@Bool.not_eq_true'
abbrev IN:=@heq_eq_eq
abbrev Qi:=@List.mem_map_of_mem
abbrev Qj:=@List.flatMap_append
abbrev XI:=@Array.getElem?_setIfInBounds
abbrev Su:=@List.flatMap_singleton
abbrev Sv:=@Option.map_eq_some_iff
abbrev Sw:=@List.getElem?_eq_none
abbrev NX:=@Option.some.inj
abbrev Sx:=@Array.getElem?_modify
abbrev MO:=@Bool.not_true
abbrev XJ:=@Array.getElem?_append_left
abbrev XK:=@List.pairwise_iff_getElem
abbrev MP:=@Nat.add_comm
abbrev MQ:=@List.map_nil
abbrev MR:=@Prod.ext_iff
abbrev Sy:=@Int.toNat_of_nonneg
abbrev XL:=@decide_eq_false_iff_not
abbrev NY:=@List.sum_cons
abbrev NZ:=@Bool.false_or
abbrev MS:=@Int.le_refl
abbrev XM:=@List.drop_eq_nil_of_le
abbrev Sz:=@List.nodup_append
abbrev Oa:=@Nat.add_zero
abbrev XN:=@List.getElem?_toArray
abbrev S0:=@Array.toList_map
abbrev XO:=@List.getElem?_of_mem
abbrev KG:=@Prod.ext
abbrev XP:=@List.mem_of_mem_take
abbrev Qk:=@Nat.add_assoc
abbrev XQ:=@Nat.lt_of_lt_of_le
abbrev Ql:=@Nat.lt_or_ge
abbrev XR:=@Nat.eq_zero_or_pos
abbrev Qm:=@List.map_map
abbrev XS:=@of_decide_eq_false
abbrev jX:=@Option.isSome_iff_exists
abbrev S1:=@List.drop_drop
abbrev S2:=@List.mem_range
abbrev jY:=@Nat.le_mul_of_pos_right
abbrev XT:=@List.ext_getElem?
abbrev XU:=@not_true_eq_false
abbrev XV:=@List.size_toArray
abbrev XW:=@not_false_eq_true
abbrev XX:=@List.take_append
abbrev XY:=@List.drop_append
abbrev XZ:=@Array.mem_append
abbrev Ya:=@Option.bind_some
abbrev Ac2:=@Array.all_eq_true_iff_forall_mem
abbrev jZ:=@List.forall_mem_cons
abbrev Yb:=@List.append_inj
abbrev k7:=@List.range_eq_range'
abbrev Yc:=@List.take_left
abbrev k8:=@Int.tmod_lt_of_pos
abbrev Yd:=@List.all_cons
abbrev k9:=@Int.emod_eq_of_lt
abbrev kA:=@List.mem_toArray
abbrev kB:=@List.getElem_mem
abbrev Ac3:=@Int.tmod_eq_zero_of_dvd
abbrev Ac4:=@Int.emod_eq_zero_of_dvd
abbrev Ac5:=@Int.dvd_of_tmod_eq_zero
abbrev Ac6:=@List.getElem?_set_self
inductive Ty where
 |bool|int (k:IntKind)|str|unit|err
 |prod (a b:Ty)|slice (e:Ty)
 deriving DecidableEq
@[reducible] def Ty.den:Ty->Type
 |.bool=>Bool
 |.int _=>Int
 |.str=>List UInt8
 |.unit=>Unit
 |.err=>Bool
 |.prod a b=>a.den×b.den
 |.slice e=>List e.den
def Ty.dflt:(τ:Ty)->τ.den
 |.bool=>false
 |.int _=>(0:Int)
 |.str=>([]:List UInt8)
 |.unit=>()
 |.err=>true
 |.prod a b=>(a.dflt,b.dflt)
 |.slice e=>([]:List e.den)
def Ty.size:Ty->Nat
 |.bool|.int _|.str|.err|.slice _=>1
 |.unit=>0
 |.prod a b=>a.size+b.size
def DList{α:Type}(R:α->List Value->Prop):List α->List Value->Prop
 |[],xs=>xs=[]
 |x::l,xs=>∃u v,xs=u++v/\R x u/\DList R l v
def errRep:Bool->Value->Prop
 |true,v=>v=.nilIface
 |false,v=>∃t u,v=.iface t u
theorem errRep.one{b:Bool}{v:Value}(h:errRep b v):v.oneCell'=true:=by
 cases b with
 |true=>obtain rfl:v=.nilIface:=h;rfl
 |false=>obtain⟨t,u,rfl⟩:=h;rfl
def DRep(w:World)(ok:Nat->Prop):(τ:Ty)->τ.den->List Value->Prop
 |.bool,b,vs=>vs=[.bool b]
 |.int k,n,vs=>vs=[.int k n]
 |.str,s,vs=>vs=[.string ⟨s.toArray⟩]
 |.err,b,vs=>∃v,vs=[v]/\errRep b v
 |.unit,_,vs=>vs=[]
 |.prod a b,x,vs=>∃u v,vs=u++v/\DRep w ok a x.1 u/\DRep w ok b x.2 v
 |.slice e,l,vs=>∃A c xs,vs=[.slice A l.length c]/\l.length<=c/\c<=maxLen/\DList (λx u=>DRep w ok e x u) l xs/\
   ∀j v,xs[j]?=some v->∃ad,A=some ad/\ok ad.block/\w.cell? (ad.add j)=some v
theorem DList.mono{α:Type}{R R':α->List Value->Prop}(h:∀x u,R x u->R' x u):∀{l xs},DList R l xs->DList R' l xs
 |[],_,hx=>hx
 |_::_,_,⟨u,v,e,hr,ht⟩=>⟨u,v,e,h _ _ hr,DList.mono h ht⟩
theorem DList.append{α:Type}{R:α->List Value->Prop}:∀{l l' xs ys},DList R l xs->DList R l' ys->DList R (l++l') (xs++ys)
 |[],_,_,_,hx,hy=>by simp only[DList]at hx;subst hx;simpa using hy
 |_::_,_,_,_,⟨u,v,e,hr,ht⟩,hy=>⟨u,v++_,by rw[e,Ci],hr,DList.append ht hy⟩
theorem DRep.length{w:World}{ok:Nat->Prop}:∀{τ:Ty}{x:τ.den}{vs:List Value},DRep w ok τ x vs->vs.length=τ.size
 |.bool,_,_,h=>by simp only[DRep]at h;simp[h,Ty.size]
 |.int _,_,_,h=>by simp only[DRep]at h;simp[h,Ty.size]
 |.str,_,_,h=>by simp only[DRep]at h;simp[h,Ty.size]
 |.err,_,_,h=>by simp only[DRep]at h;obtain⟨v,rfl,_⟩:=h;rfl
 |.unit,_,_,h=>by simp only[DRep]at h;simp[h,Ty.size]
 |.prod a b,_,_,h=>by simp only[DRep]at h;obtain⟨u,v,rfl,h1,h2⟩:=h;simp[Ty.size,DRep.length h1,DRep.length h2]
 |.slice _,_,_,h=>by simp only[DRep]at h;obtain⟨A,c,xs,rfl,_⟩:=h;simp[Ty.size]
theorem DRep.oneCell{w:World}{ok:Nat->Prop}:∀{τ:Ty}{x:τ.den}{vs:List Value},DRep w ok τ x vs->∀v∈vs,v.oneCell'=true
 |.bool,_,_,h,v,hv=>by simp only[DRep]at h;subst h;simp at hv;subst hv;rfl
 |.int _,_,_,h,v,hv=>by simp only[DRep]at h;subst h;simp at hv;subst hv;rfl
 |.str,_,_,h,v,hv=>by simp only[DRep]at h;subst h;simp at hv;subst hv;rfl
 |.err,_,_,h,v,hv=>by simp only[DRep]at h;obtain⟨u,rfl,hu⟩:=h;simp at hv;subst hv;exact hu.one
 |.unit,_,_,h,v,hv=>by simp only[DRep]at h;subst h;simp at hv
 |.prod a b,_,_,h,v,hv=>by
  simp only[DRep]at h;obtain⟨x,y,rfl,h1,h2⟩:=h;rcases Cs.1 hv with hv|hv
  ·exact DRep.oneCell h1 v hv
  ·exact DRep.oneCell h2 v hv
 |.slice _,_,_,h,v,hv=>by simp only[DRep]at h;obtain⟨A,c,xs,rfl,_⟩:=h;simp at hv;subst hv;rfl
theorem DList.length{w:World}{ok:Nat->Prop}{e:Ty}:∀{l:List e.den}{xs:List Value},DList (λx u=>DRep w ok e x u) l xs->xs.length=l.length*e.size
 |[],_,h=>by simp only[DList]at h;simp[h]
 |_::l,_,⟨u,v,e1,hr,ht⟩=>by rw[e1,AR,DRep.length hr,DList.length ht,AX,In,MP]
theorem DList.oneCell{w:World}{ok:Nat->Prop}{e:Ty}:∀{l:List e.den}{xs:List Value},DList (λx u=>DRep w ok e x u) l xs->∀v∈xs,v.oneCell'=true
 |[],_,h,v,hv=>by simp only[DList]at h;subst h;simp at hv
 |_::l,_,⟨x,y,e1,hr,ht⟩,v,hv=>by
  subst e1;rcases Cs.1 hv with hv|hv
  ·exact DRep.oneCell hr v hv
  ·exact DList.oneCell ht v hv
theorem DList.get{w:World}{ok:Nat->Prop}{e:Ty}:∀{l:List e.den}{xs:List Value}{i:Nat}(d:e.den),DList (λx u=>DRep w ok e x u) l xs->i<l.length->∃u p q,xs=p++(u++q)/\p.length=i*e.size/\DRep w ok e (l.getD i d) u
 |[],_,i,_,_,h=>by simp at h
 |x::l,xs,0,d,⟨u,v,e1,hr,ht⟩,_=>⟨u,[],v,by simp[e1],by simp,by simpa using hr⟩
 |x::l,xs,i+1,d,⟨u,v,e1,hr,ht⟩,h=>by obtain⟨u',p,q,hv,hp,hd⟩:=DList.get (i:=i) d ht (by simpa using h);refine⟨u',u++p,q,by rw[e1,hv,Ci],?_,by simpa using hd⟩;rw[AR,DRep.length hr,hp,In,MP]
theorem DList.set{w:World}{ok:Nat->Prop}{e:Ty}:∀{l:List e.den}{xs:List Value}{i:Nat}(x':e.den)(u':List Value),DList (λx u=>DRep w ok e x u) l xs->i<l.length->DRep w ok e x' u'->∃p u q,xs=p++(u++q)/\p.length=i*e.size/\u.length=e.size/\DList (λx u=>DRep w ok e x u) (l.set i x') (p++(u'++q))
 |[],_,i,_,_,_,h,_=>by simp at h
 |x::l,xs,0,x',u',⟨u,v,e1,hr,ht⟩,_,h'=>⟨[],u,v,by simp[e1],by simp,DRep.length hr,⟨u',v,by simp,h',ht⟩⟩
 |x::l,xs,i+1,x',u',⟨u,v,e1,hr,ht⟩,h,h'=>by obtain⟨p,u0,q,hv,hp,hu,hd⟩:=DList.set (i:=i) x' u' ht (by simpa using h) h';refine⟨u++p,u0,q,by rw[e1,hv,Ci],?_,hu,⟨u,p++(u'++q),by rw[Ci],hr,by simpa using hd⟩⟩;rw[AR,DRep.length hr,hp,In,MP]
def Keeps(w:World)(ok:Nat->Prop)(w':World)(ok':Nat->Prop):Prop:=∀g,ok g->g<w.heap.size->ok' g/\w'.heap[g]?=w.heap[g]?
theorem Keeps.cell{w w':World}{ok ok':Nat->Prop}(h:Keeps w ok w' ok'){a:Addr}{v:Value}(ho:ok a.block)(hc:w.cell? a=some v):ok' a.block/\w'.cell? a=some v:=by obtain⟨h1,h2⟩:=h _ ho (World.block_lt_of_cell? w a hc);exact⟨h1,(World.cell?_of_block h2).trans hc⟩
theorem LE(a:Addr)(n:Nat):(a.add n).block=a.block:=by unfold Addr.add;split<;>rfl
theorem MT(a:Addr)(i j:Nat):(a.add i).add j=a.add (i+j):=by unfold Addr.add;by_cases hi:i=0<;>by_cases hj:j=0<;>simp[hi,hj,Qk]
theorem DRep.mono{w w':World}{ok ok':Nat->Prop}(hk:Keeps w ok w' ok'):∀{τ:Ty}{x:τ.den}{vs:List Value},DRep w ok τ x vs->DRep w' ok' τ x vs
 |.bool,_,_,h=>h
 |.int _,_,_,h=>h
 |.str,_,_,h=>h
 |.err,_,_,h=>h
 |.unit,_,_,h=>h
 |.prod a b,_,_,h=>by simp only[DRep]at h⊢;obtain⟨u,v,e,h1,h2⟩:=h;exact⟨u,v,e,DRep.mono hk h1,DRep.mono hk h2⟩
 |.slice e,_,_,h=>by
  simp only[DRep]at h⊢;obtain⟨A,c,xs,e1,hl,hc,hd,hx⟩:=h;refine⟨A,c,xs,e1,hl,hc,hd.mono λx u hu=>DRep.mono hk hu,λj v hj=>?_⟩;obtain⟨ad,ha,ho,DC⟩:=hx j v hj;have hb:ok (ad.add j).block:=by rw[LE];exact ho
  obtain⟨o',c'⟩:=hk.cell hb DC;rw[LE]at o';exact⟨ad,ha,o',c'⟩
def Ty.flat:Ty->Bool
 |.slice _|.err=>false
 |.prod a b=>a.flat&&b.flat
 |_=>true
theorem DRep.flat{w w':World}{ok ok':Nat->Prop}:∀{τ:Ty}{x:τ.den}{vs:List Value},τ.flat=true->DRep w ok τ x vs->DRep w' ok' τ x vs
 |.bool,_,_,_,h=>h
 |.int _,_,_,_,h=>h
 |.str,_,_,_,h=>h
 |.unit,_,_,_,h=>h
 |.prod a b,_,_,hf,h=>by simp only[Ty.flat,CE]at hf;simp only[DRep]at h⊢;obtain⟨u,v,e,h1,h2⟩:=h;exact⟨u,v,e,DRep.flat hf.1 h1,DRep.flat hf.2 h2⟩
 |.slice _,_,_,hf,_=>by simp[Ty.flat]at hf
 |.err,_,_,hf,_=>by simp[Ty.flat]at hf
end Go.Lift
namespace Go.Lift
inductive OT where
 |d (τ:Ty)
 |p (a b:OT)
 |r (t:TypeId) (e:OT)
 deriving DecidableEq
@[reducible] def OT.ty:OT->Ty
 |.d τ=>τ
 |.p a b=>.prod a.ty b.ty
 |.r _ e=>.slice e.ty
abbrev Path:=List (Nat×Nat)
abbrev EP:=(te:TypeId×OT)×List te.2.ty.den
def BL:(o:OT)->o.ty.den->Nat->Path->Option EP
 |.d _,_,_,_=>none
 |.p a b,x,k,p=>if k<a.ty.size then BL a x.1 k p else BL b x.2 (k-a.ty.size) p
 |.r t e,l,0,[]=>some ⟨(t,e),l⟩
 |.r _ e,l,0,(i,k)::p=>
  match(l:List e.ty.den)[i]? with
  |some x=>BL e x k p
  |none=>none
 |.r _ _,_,_+1,_=>none
def He:(o:OT)->o.ty.den->Nat->Path->(e':OT)->List e'.ty.den->o.ty.den
 |.d _,x,_,_,_,_=>x
 |.p a b,x,k,p,e',y=>if k<a.ty.size then(He a x.1 k p e' y,x.2)else(x.1,He b x.2 (k-a.ty.size) p e' y)
 |.r _ e,l,0,[],e',y=>if h:e'=e then(h▸y:List e.ty.den)else l
 |.r _ e,l,0,(i,k)::p,e',y=>
  match(l:List e.ty.den)[i]? with
  |some x=>(List.set l i (He e x k p e' y):List e.ty.den)
  |none=>l
 |.r _ _,l,_+1,_,_,_=>l
def cnt:(o:OT)->o.ty.den->Nat
 |.d _,_=>0
 |.p a b,x=>cnt a x.1+cnt b x.2
 |.r _ e,l=>1+((l:List e.ty.den).map (cnt e)).sum
def nix:(o:OT)->o.ty.den->Nat->Path->Nat
 |.d _,_,_,_=>0
 |.p a b,x,k,p=>if k<a.ty.size then nix a x.1 k p else cnt a x.1+nix b x.2 (k-a.ty.size) p
 |.r _ _,_,_,[]=>0
 |.r _ e,l,_,(i,k)::p=>
  match(l:List e.ty.den)[i]? with
  |some x=>1+(((l:List e.ty.den).take i).map (cnt e)).sum+nix e x k p
  |none=>0
def OL{α:Type}(R:Nat->α->List Value->List Value->Prop):Nat->List α->List Value->List Value->Prop
 |_,[],xs,F=>xs=[]/\F=[]
 |j,x::l,xs,F=>∃u v F1 F2,xs=u++v/\F=F1++F2/\R j x u F1/\OL R (j+1) l v F2
def hL(n:Nat):Option (Nat×Path)->Option (Nat×Path)
 |some (k,p)=>if k<n then some (k,p)else none
 |none=>none
def hR(n:Nat):Option (Nat×Path)->Option (Nat×Path)
 |some (k,p)=>if k<n then none else some (k-n,p)
 |none=>none
def hI(i k:Nat)(p:Path)(j:Nat):Option (Nat×Path):=if j=i then some (k,p)else none
def Owns(w:World)(ok:Nat->Prop)(base:Nat)(hv:Value):(o:OT)->Option (Nat×Path)->o.ty.den->List Value->List Value->Prop
 |.d τ,h,x,vs,F=>h=none/\DRep w ok τ x vs/\F=[]
 |.p a b,h,x,vs,F=>∃u v F1 F2,vs=u++v/\F=F1++F2/\Owns w ok base hv a (hL a.ty.size h) x.1 u F1/\Owns w ok base hv b (hR a.ty.size h) x.2 v F2
 |.r t e,none,l,vs,F=>∃sv xs F',vs=[sv]/\F=sv::F'/\w.ownsRow base t e.ty.size sv (l:List e.ty.den).length xs/\OL (λ_ x u f=>Owns w ok base hv e none x u f) 0 (l:List e.ty.den) xs F'
 |.r _ _,some (0,[]),_,vs,F=>vs=[hv]/\F=[]/\hv.oneCell'=true
 |.r t e,some (0,(i,k)::p),l,vs,F=>i<(l:List e.ty.den).length/\∃sv xs F',vs=[sv]/\F=sv::F'/\w.ownsRow base t e.ty.size sv (l:List e.ty.den).length xs/\
   OL (λj x u f=>Owns w ok base hv e (hI i k p j) x u f) 0 (l:List e.ty.den) xs F'
 |.r _ _,some (_+1,_),_,_,_=>False
section
variable{α:Type}{R R':Nat->α->List Value->List Value->Prop}
theorem OL.monoJ:∀{l:List α}{j:Nat}{xs F:List Value},(∀i x u f,j<=i->(∀s∈f,s∈F)->R i x u f->R' i x u f)->OL R j l xs F->OL R' j l xs F
 |[],_,_,_,_,hx=>hx
 |_::_,_,_,_,h,⟨u,v,F1,F2,e,ef,hr,ht⟩=>⟨u,v,F1,F2,e,ef,h _ _ _ _ (AQ _) (λs hs=>by rw[ef];exact D0 _ hs) hr,
   OL.monoJ (λi x u f hi hf=>h i x u f (D2 (Nat.le_succ _) hi) λs hs=>by rw[ef];exact DJ _ (hf s hs)) ht⟩
theorem OL.mono{l:List α}{j:Nat}{xs F:List Value}(h:∀i x u f,(∀s∈f,s∈F)->R i x u f->R' i x u f)(hx:OL R j l xs F):OL R' j l xs F:=hx.monoJ λi x u f _=>h i x u f
theorem OL.shift(hR:∀i i' x u f,R i x u f->R i' x u f):∀{l:List α}{j j':Nat}{xs F:List Value},OL R j l xs F->OL R j' l xs F
 |[],_,_,_,_,h=>h
 |_::_,_,_,_,_,⟨u,v,F1,F2,e,ef,hr,ht⟩=>⟨u,v,F1,F2,e,ef,hR _ _ _ _ _ hr,OL.shift hR ht⟩
theorem OL.append(hR:∀i i' x u f,R i x u f->R i' x u f):∀{l l':List α}{j:Nat}{xs ys F G:List Value},OL R j l xs F->OL R j l' ys G->OL R j (l++l') (xs++ys) (F++G)
 |[],_,_,_,_,_,_,hx,hy=>by obtain⟨rfl,rfl⟩:=hx;exact hy
 |_::_,_,_,_,_,_,_,⟨u,v,F1,F2,e,ef,hr,ht⟩,hy=>
  ⟨u,v++_,F1,F2++_,by rw[e,Ci],by rw[ef,Ci],hr,OL.append hR ht (hy.shift hR)⟩
theorem OL.length{n:Nat}(hn:∀i x u f,R i x u f->u.length=n):∀{l:List α}{j:Nat}{xs F:List Value},OL R j l xs F->xs.length=l.length*n
 |[],_,_,_,h=>by obtain⟨rfl,_⟩:=h;simp
 |_::_,_,_,_,⟨u,v,F1,F2,e,ef,hr,ht⟩=>by rw[e,AR,hn _ _ _ _ hr,OL.length hn ht,AX,In,MP]
theorem OL.all{Q:Value->Prop}(hn:∀i x u f,R i x u f->∀v∈u,Q v):∀{l:List α}{j:Nat}{xs F:List Value},OL R j l xs F->∀v∈xs,Q v
 |[],_,_,_,h,v,hv=>by obtain⟨rfl,_⟩:=h;simp at hv
 |_::_,_,_,_,⟨u,w,F1,F2,e,ef,hr,ht⟩,v,hv=>by rw[e]at hv;exact(Cs.1 hv).elim (hn _ _ _ _ hr v) (OL.all hn ht v)
theorem OL.own{Q:Value->Prop}(hn:∀i x u f,R i x u f->∀v∈f,Q v):∀{l:List α}{j:Nat}{xs F:List Value},OL R j l xs F->∀v∈F,Q v
 |[],_,_,_,h,v,hv=>by obtain⟨_,rfl⟩:=h;simp at hv
 |_::_,_,_,_,⟨u,w,F1,F2,e,ef,hr,ht⟩,v,hv=>by rw[ef]at hv;exact(Cs.1 hv).elim (hn _ _ _ _ hr v) (OL.own hn ht v)
theorem OL.focus{n:Nat}(hn:∀i x u f,R i x u f->u.length=n):∀{l:List α}{j i:Nat}{xs F:List Value},OL R j l xs F->i<l.length->∃x u p q Fu Fp Fq,l[i]?=some x/\xs=p++(u++q)/\p.length=i*n/\F=Fp++(Fu++Fq)/\R (j+i) x u Fu/\(∃pre,OL R j (l.take i) p Fp/\pre=Fp)/\∀(R':Nat->α->List Value->List Value->Prop) x' u' Fu',(∀m x u f,m≠j+i->(∀s∈f,s∈Fp\/s∈Fq)->R m x u f->R' m x u f)->R' (j+i) x' u' Fu'->OL R' j (l.set i x') (p++(u'++q)) (Fp++(Fu'++Fq))
 |[],_,_,_,_,_,h=>by simp at h
 |x::l,j,0,xs,F,⟨u,v,F1,F2,e,ef,hr,ht⟩,_=>
  ⟨x,u,[],v,F1,[],F2,rfl,e,by simp,ef,hr,⟨[],⟨rfl,rfl⟩,rfl⟩,λR' x' u' Fu' h1 h2=>⟨u',v,Fu',F2,rfl,rfl,h2,ht.monoJ λi x u f hi hf h=>h1 i x u f (by omega) (λs hs=>.inr (hf s hs)) h⟩⟩
 |x::l,j,i+1,xs,F,⟨u,v,F1,F2,e,ef,hr,ht⟩,h=>by
  obtain⟨y,u1,p,q,Fu,Fp,Fq,h1,h2,h3,h4,h5,⟨_,h7,_⟩,h6⟩:=OL.focus hn (i:=i) ht (by simpa using h);refine⟨y,u1,u++p,q,Fu,F1++Fp,Fq,by simpa using h1,by rw[e,h2,Ci],?_,by rw[ef,h4,Ci],by rw[show j+(i+1)=j+1+i by omega];exact h5,⟨_,⟨u,p,F1,Fp,rfl,rfl,hr,h7⟩,rfl⟩,λR' x' u' Fu' g1 g2=>?_⟩
  ·rw[AR,hn _ _ _ _ hr,h3,In,MP]
  ·rw[show j+(i+1)=j+1+i by omega]at g1 g2
   exact⟨u,p++(u'++q),F1,Fp++(Fu'++Fq),by rw[Ci],by rw[Ci],g1 _ _ _ _ (by omega) (λs hs=>.inl (D0 _ hs)) hr,h6 R' x' u' Fu' (λm x u f hm hf=>g1 m x u f hm λs hs=>(hf s hs).imp (DJ _) id) g2⟩
end
theorem Qn{w:World}{base:Nat}{t:TypeId}{size:Nat}{v:Value}{n:Nat}{xs:List Value}(h:w.ownsRow base t size v n xs):v.oneCell'=true:=by rcases h.2 with⟨h,_⟩|⟨g,cap,AP,h,_⟩<;>rw[h]<;>rfl
section
variable{w w':World}{ok ok':Nat->Prop}{base base':Nat}{hv Cw:Value}
theorem Owns.length:∀{o:OT}{h:Option (Nat×Path)}{x:o.ty.den}{vs F:List Value},Owns w ok base hv o h x vs F->vs.length=o.ty.size
 |.d _,_,_,_,_,⟨_,h,_⟩=>h.length
 |.p a b,_,_,_,_,⟨u,v,F1,F2,e,_,h1,h2⟩=>by rw[e,AR,Owns.length h1,Owns.length h2];rfl
 |.r _ _,none,_,_,_,⟨sv,xs,F',e,_⟩=>by rw[e];rfl
 |.r _ _,some (0,[]),_,_,_,⟨e,_⟩=>by rw[e];rfl
 |.r _ _,some (0,(_,_)::_),_,_,_,⟨_,sv,xs,F',e,_⟩=>by rw[e];rfl
theorem Owns.oneCell:∀{o:OT}{h:Option (Nat×Path)}{x:o.ty.den}{vs F:List Value},Owns w ok base hv o h x vs F->∀v∈vs,v.oneCell'=true
 |.d _,_,_,_,_,⟨_,h,_⟩=>h.oneCell
 |.p a b,_,_,_,_,⟨u,v,F1,F2,e,_,h1,h2⟩=>by intro s hs;rw[e]at hs;exact(Cs.1 hs).elim (Owns.oneCell h1 s) (Owns.oneCell h2 s)
 |.r _ _,none,_,_,_,⟨sv,xs,F',e,_,h,_⟩=>by intro s hs;rw[e,EO]at hs;rw[hs];exact Qn h
 |.r _ _,some (0,[]),_,_,_,⟨e,_,h⟩=>by intro s hs;rw[e,EO]at hs;rw[hs];exact h
 |.r _ _,some (0,(_,_)::_),_,_,_,⟨_,sv,xs,F',e,_,h,_⟩=>by intro s hs;rw[e,EO]at hs;rw[hs];exact Qn h
theorem Owns.lt:∀{o:OT}{h:Option (Nat×Path)}{x:o.ty.den}{vs F:List Value},Owns w ok base hv o h x vs F->∀s∈F,∀g,s.ownBlock=some g->base<=g/\g<w.heap.size
 |.d _,_,_,_,_,⟨_,_,e⟩=>by intro s hs;rw[e]at hs;simp at hs
 |.p a b,_,_,_,_,⟨u,v,F1,F2,_,e,h1,h2⟩=>by intro s hs;rw[e]at hs;exact(Cs.1 hs).elim (Owns.lt h1 s) (Owns.lt h2 s)
 |.r _ _,none,_,_,_,⟨sv,xs,F',_,e,h,hl⟩=>by
  intro s hs g hg;rw[e]at hs;rcases Bw.1 hs with rfl|hs
  ·exact h.lt g hg
  ·exact OL.own (Q:=λs=>∀g,s.ownBlock=some g->base<=g/\g<w.heap.size) (λ_ _ _ _ h=>Owns.lt h) hl s hs g hg
 |.r _ _,some (0,[]),_,_,_,⟨_,e,_⟩=>by intro s hs;rw[e]at hs;simp at hs
 |.r _ _,some (0,(_,_)::_),_,_,_,⟨_,sv,xs,F',_,e,h,hl⟩=>by
  intro s hs g hg;rw[e]at hs;rcases Bw.1 hs with rfl|hs
  ·exact h.lt g hg
  ·exact OL.own (Q:=λs=>∀g,s.ownBlock=some g->base<=g/\g<w.heap.size) (λ_ _ _ _ h=>Owns.lt h) hl s hs g hg
theorem Ob{t:TypeId}{size:Nat}{v:Value}{n:Nat}{xs:List Value}(hb:base'<=base)(hg:∀g,v.ownBlock=some g->w'.heap[g]?=w.heap[g]?)(h:w.ownsRow base t size v n xs):w'.ownsRow base' t size v n xs:=by
 refine⟨h.1,?_⟩;rcases h.2 with h3|⟨g,cap,AP,rfl,Aj,hh,r⟩
 ·exact .inl h3
 ·exact .inr ⟨g,cap,AP,rfl,D2 hb Aj,(hg g rfl).trans hh,r⟩
theorem Owns.mono(hb:base'<=base)(hk:Keeps w ok w' ok'):∀{o:OT}{h:Option (Nat×Path)}{x:o.ty.den}{vs F:List Value},(∀s∈F,∀g,s.ownBlock=some g->w'.heap[g]?=w.heap[g]?)->Owns w ok base hv o h x vs F->Owns w' ok' base' hv o h x vs F
 |.d _,_,_,_,_,_,⟨a,h,e⟩=>⟨a,h.mono hk,e⟩
 |.p a b,_,_,_,_,hf,⟨u,v,F1,F2,e,e2,h1,h2⟩=>⟨u,v,F1,F2,e,e2,Owns.mono hb hk (λs hs=>hf s (by rw[e2];exact D0 _ hs)) h1,Owns.mono hb hk (λs hs=>hf s (by rw[e2];exact DJ _ hs)) h2⟩
 |.r _ _,none,_,_,_,hf,⟨sv,xs,F',e,e2,h,hl⟩=>
  ⟨sv,xs,F',e,e2,Ob hb (hf sv (by rw[e2];exact CW ..)) h,hl.mono λ_ _ _ f Aaw h=>Owns.mono hb hk (λs hs=>hf s (by rw[e2];exact BY _ (Aaw s hs))) h⟩
 |.r _ _,some (0,[]),_,_,_,_,h=>h
 |.r _ _,some (0,(_,_)::_),_,_,_,hf,⟨hi,sv,xs,F',e,e2,h,hl⟩=>
  ⟨hi,sv,xs,F',e,e2,Ob hb (hf sv (by rw[e2];exact CW ..)) h,hl.mono λ_ _ _ f Aaw h=>Owns.mono hb hk (λs hs=>hf s (by rw[e2];exact BY _ (Aaw s hs))) h⟩
theorem Owns.ren(hb:base'<=base)(hd:∀(τ:Ty)(x:τ.den)(us:List Value),DRep w ok τ x us->DRep w ok' τ x us):∀{o:OT}{h:Option (Nat×Path)}{x:o.ty.den}{vs F:List Value},Owns w ok base hv o h x vs F->Owns w ok' base' hv o h x vs F
 |.d _,_,_,_,_,⟨a,h,e⟩=>⟨a,hd _ _ _ h,e⟩
 |.p a b,_,_,_,_,⟨u,v,F1,F2,e,e2,h1,h2⟩=>⟨u,v,F1,F2,e,e2,Owns.ren hb hd h1,Owns.ren hb hd h2⟩
 |.r _ _,none,_,_,_,⟨sv,xs,F',e,e2,h,hl⟩=>⟨sv,xs,F',e,e2,Ob hb (λ_ _=>rfl) h,hl.mono λ_ _ _ _ _ h=>Owns.ren hb hd h⟩
 |.r _ _,some (0,[]),_,_,_,h=>h
 |.r _ _,some (0,(_,_)::_),_,_,_,⟨hi,sv,xs,F',e,e2,h,hl⟩=>⟨hi,sv,xs,F',e,e2,Ob hb (λ_ _=>rfl) h,hl.mono λ_ _ _ _ _ h=>Owns.ren hb hd h⟩
def OT.flat:OT->Bool
 |.d τ=>τ.flat
 |.p a b=>a.flat&&b.flat
 |.r _ e=>e.flat
theorem Owns.renF{all:Prop}(hb:base'<=base)(hd:∀(τ:Ty)(x:τ.den)(us:List Value),(all\/τ.flat=true)->DRep w ok τ x us->DRep w ok' τ x us):∀{o:OT}{h:Option (Nat×Path)}{x:o.ty.den}{vs F:List Value},(all\/o.flat=true)->Owns w ok base hv o h x vs F->Owns w ok' base' hv o h x vs F
 |.d _,_,_,_,_,hf,⟨a,h,e⟩=>⟨a,hd _ _ _ hf h,e⟩
 |.p a b,_,_,_,_,hf,⟨u,v,F1,F2,e,e2,h1,h2⟩=>⟨u,v,F1,F2,e,e2,Owns.renF hb hd (hf.imp id λh=>by simp only[OT.flat,CE]at h;exact h.1) h1,Owns.renF hb hd (hf.imp id λh=>by simp only[OT.flat,CE]at h;exact h.2) h2⟩
 |.r _ _,none,_,_,_,hf,⟨sv,xs,F',e,e2,h,hl⟩=>⟨sv,xs,F',e,e2,Ob hb (λ_ _=>rfl) h,hl.mono λ_ _ _ _ _ h=>Owns.renF hb hd hf h⟩
 |.r _ _,some (0,[]),_,_,_,_,h=>h
 |.r _ _,some (0,(_,_)::_),_,_,_,hf,⟨hi,sv,xs,F',e,e2,h,hl⟩=>⟨hi,sv,xs,F',e,e2,Ob hb (λ_ _=>rfl) h,hl.mono λ_ _ _ _ _ h=>Owns.renF hb hd hf h⟩
theorem Owns.any:∀{o:OT}{x:o.ty.den}{vs F:List Value},Owns w ok base hv o none x vs F->Owns w ok base Cw o none x vs F
 |.d _,_,_,_,h=>h
 |.p _ _,_,_,_,⟨u,v,F1,F2,e,e2,h1,h2⟩=>⟨u,v,F1,F2,e,e2,Owns.any (show Owns w ok base hv _ none _ _ _ from h1),Owns.any (show Owns w ok base hv _ none _ _ _ from h2)⟩
 |.r _ _,_,_,_,⟨sv,xs,F',e,e2,h,hl⟩=>⟨sv,xs,F',e,e2,h,hl.mono λ_ _ _ _ _ h=>Owns.any h⟩
theorem Owns.cnt:∀{o:OT}{x:o.ty.den}{vs F:List Value},Owns w ok base hv o none x vs F->F.length=Go.Lift.cnt o x
 |.d _,_,_,_,⟨_,_,e⟩=>by rw[e];rfl
 |.p a b,_,_,_,⟨u,v,F1,F2,_,e,h1,h2⟩=>by rw[e,AR,Owns.cnt (show Owns w ok base hv a none _ _ _ from h1),Owns.cnt (show Owns w ok base hv b none _ _ _ from h2)];rfl
 |.r _ e0,l,_,_,⟨sv,xs,F',_,e,_,hl⟩=>by
  have key:∀{l:List e0.ty.den}{j:Nat}{xs F:List Value},OL (λ_ x u f=>Owns w ok base hv e0 none x u f) j l xs F->F.length=(l.map (Go.Lift.cnt e0)).sum:=by
   intro l
   induction l with
   |nil=>intro j xs F h;obtain⟨_,rfl⟩:=h;rfl
   |cons x l ih=>intro j xs F h;obtain⟨u,v,F1,F2,_,ef,hr,ht⟩:=h;rw[ef,AR,Owns.cnt hr,ih ht,CM,NY]
  rw[e,AX,key hl,MP];rfl
theorem set_getElem?_same{α:Type}{l:List α}{i:Nat}{x:α}(h:l[i]?=some x):l.set i x=l:=by obtain⟨h1,h2⟩:=EN.1 h;rw[<-h2,List.set_getElem_self]
theorem Od(i k:Nat)(p:Path):hI i k p i=some (k,p):=if_pos rfl
theorem Qo{i k j:Nat}{p:Path}(h:j≠i):hI i k p j=none:=if_neg h
theorem S3(e:OT){w:World}{ok:Nat->Prop}{base:Nat}{hv:Value}:∀{l:List e.ty.den}{j:Nat}{xs F:List Value},OL (λ_ x u f=>Owns w ok base hv e none x u f) j l xs F->F.length=(l.map (Go.Lift.cnt e)).sum
 |[],_,_,_,⟨_,h⟩=>by rw[h];rfl
 |x::l,_,_,_,⟨u,v,F1,F2,_,ef,hr,ht⟩=>by rw[ef,AR,Owns.cnt hr,S3 e ht,CM,NY]
theorem Owns.split:∀{o:OT}{x:o.ty.den}{k:Nat}{p:Path}{vs F:List Value}{n:EP},Owns w ok base hv o none x vs F->BL o x k p=some n->∃s G1 Fn G2,F=G1++(s::Fn++G2)/\G1.length=nix o x k p/\Owns w ok base s (.r n.1.1 n.1.2) none n.2 [s] (s::Fn)/\Owns w ok base s o (some (k,p)) x vs (G1++G2)
 |.d _,_,_,_,_,_,_,_,h=>by cases h
 |.p a b,x,k,p,vs,F,n,⟨u,v,F1,F2,e,e2,h1,h2⟩,h=>by
  simp only[BL]at h;have h1:Owns w ok base hv a none x.1 u F1:=h1;have h2:Owns w ok base hv b none x.2 v F2:=h2;split at h
  ·rename_i hk
   obtain⟨s,G1,Fn,G2,q1,q2,q3,q4⟩:=Owns.split h1 h;refine⟨s,G1,Fn,G2++F2,by rw[e2,q1];simp,by rw[q2];simp only[nix,if_pos hk],q3,u,v,G1++G2,F2,e,by simp,?_,?_⟩
   ·show Owns w ok base s a (hL a.ty.size (some (k,p))) x.1 u (G1++G2)
    simp only[hL,if_pos hk];exact q4
   ·show Owns w ok base s b (hR a.ty.size (some (k,p))) x.2 v F2
    simp only[hR,if_pos hk];exact h2.any
  ·rename_i hk
   obtain⟨s,G1,Fn,G2,q1,q2,q3,q4⟩:=Owns.split h2 h;refine⟨s,F1++G1,Fn,G2,by rw[e2,q1];simp,by rw[AR,q2,h1.cnt];simp only[nix,if_neg hk],q3,u,v,F1,G1++G2,e,by simp,?_,?_⟩
   ·show Owns w ok base s a (hL a.ty.size (some (k,p))) x.1 u F1
    simp only[hL,if_neg hk];exact h1.any
   ·show Owns w ok base s b (hR a.ty.size (some (k,p))) x.2 v (G1++G2)
    simp only[hR,if_neg hk];exact q4
 |.r t e,l,0,[],vs,F,n,⟨sv,xs,F',e1,e2,h1,h2⟩,h=>by simp only[BL,Ag]at h;subst h;exact⟨sv,[],F',[],by simp[e2],rfl,⟨sv,xs,F',rfl,rfl,h1,h2.mono λ_ _ _ _ _ h=>h.any⟩,e1,rfl,Qn h1⟩
 |.r t e,l,0,(i,k)::p,vs,F,n,⟨sv,xs,F',e1,e2,h1,h2⟩,h=>by
  simp only[BL]at h;split at h
  ·rename_i x hx
   have hi:i<(l:List e.ty.den).length:=(EN.1 hx).1;obtain⟨x',u,pp,q,Fu,Fp,Fq,a1,a2,a3,a4,a5,⟨_,a7,_⟩,a6⟩:=OL.focus (n:=e.ty.size) (λ_ _ _ _ h=>h.length) h2 hi;rw[hx]at a1;injection a1 with a1;subst a1;obtain⟨s,G1,Fn,G2,q1,q2,q3,q4⟩:=Owns.split a5 h;refine⟨s,sv::(Fp++G1),Fn,G2++Fq,by rw[e2,a4,q1];simp,?_,q3,hi,sv,xs,(Fp++G1)++(G2++Fq),e1,by simp,h1,?_⟩
   ·have DP:(l:List e.ty.den)[i]?=some x:=hx
    simp only[nix,DP,AX,AR,q2,S3 e a7];omega
   ·have:=a6 (λj x u f=>Owns w ok base s e (hI i k p j) x u f) x u (G1++G2) (λm x u f hm _ h=>by simp only[Ei]at hm;simp only[Qo hm];exact h.any) (by simp only[Ei,Od];exact q4)
    rw[set_getElem?_same hx,<-a2]at this;simpa using this
  ·cases h
 |.r _ _,_,_+1,_,_,_,_,_,h=>by cases h
theorem Owns.join:∀{o:OT}{x:o.ty.den}{k:Nat}{p:Path}{vs G:List Value}{n:EP},Owns w ok base hv o (some (k,p)) x vs G->BL o x k p=some n->∃G1 G2,G=G1++G2/\G1.length=nix o x k p/\∀(y:List n.1.2.ty.den)(Fn:List Value),Owns w ok base hv (.r n.1.1 n.1.2) none y [hv] Fn->Owns w ok base hv o none (He o x k p n.1.2 y) vs (G1++(Fn++G2))
 |.d _,_,_,_,_,_,_,_,h=>by cases h
 |.p a b,x,k,p,vs,F,n,⟨u,v,F1,F2,e,e2,h1,h2⟩,h=>by
  simp only[BL]at h;have h1:Owns w ok base hv a (hL a.ty.size (some (k,p))) x.1 u F1:=h1;have h2:Owns w ok base hv b (hR a.ty.size (some (k,p))) x.2 v F2:=h2;split at h
  ·rename_i hk
   simp only[hL,hR,if_pos hk]at h1 h2;obtain⟨G1,G2,q1,q2,q3⟩:=Owns.join h1 h;refine⟨G1,G2++F2,by rw[e2,q1];simp,by rw[q2];simp only[nix,if_pos hk],λy Fn hy=>?_⟩;simp only[He,if_pos hk];exact⟨u,v,G1++(Fn++G2),F2,e,by simp,q3 y Fn hy,h2⟩
  ·rename_i hk
   simp only[hL,hR,if_neg hk]at h1 h2;obtain⟨G1,G2,q1,q2,q3⟩:=Owns.join h2 h;refine⟨F1++G1,G2,by rw[e2,q1];simp,by rw[AR,q2,Owns.cnt h1];simp only[nix,if_neg hk],λy Fn hy=>?_⟩;simp only[He,if_neg hk];exact⟨u,v,F1,G1++(Fn++G2),e,by simp,h1,q3 y Fn hy⟩
 |.r t e,l,0,[],vs,F,n,⟨e1,e2,h1⟩,h=>by simp only[BL,Ag]at h;subst h;refine⟨[],[],e2,rfl,λy Fn hy=>?_⟩;simp only[He,dif_pos,Fl,F3];rw[e1];exact hy
 |.r t e,l,0,(i,k)::p,vs,F,n,⟨hi,sv,xs,F',e1,e2,h1,h2⟩,h=>by
  simp only[BL]at h;split at h
  ·rename_i x hx
   have DP:(l:List e.ty.den)[i]?=some x:=hx;obtain⟨x',u,pp,q,Fu,Fp,Fq,a1,a2,a3,a4,a5,⟨_,a7,_⟩,a6⟩:=OL.focus (n:=e.ty.size) (λ_ _ _ _ h=>h.length) h2 hi;rw[hx]at a1;injection a1 with a1;subst a1;simp only[Ei,Od]at a5;obtain⟨G1,G2,q1,q2,q3⟩:=Owns.join a5 h
   have Jm:OL (λ_ x u f=>Owns w ok base hv e none x u f) 0 ((l:List e.ty.den).take i) pp Fp:=by
    have:∀{l:List e.ty.den}{j:Nat}{xs F:List Value},j+l.length<=i->OL (λj x u f=>Owns w ok base hv e (hI i k p j) x u f) j l xs F->OL (λ_ x u f=>Owns w ok base hv e none x u f) j l xs F:=by
     intro l
     induction l with
     |nil=>intro j xs F _ h;exact h
     |cons y l ih=>intro j xs F hj h;obtain⟨u,v,F1,F2,b1,b2,b3,b4⟩:=h;simp only[AX]at hj;simp only[Qo (show j≠i by omega)]at b3;exact⟨u,v,F1,F2,b1,b2,b3,ih (by omega) b4⟩
    exact this (by rw[Hd];omega) a7
   refine⟨sv::(Fp++G1),G2++Fq,by rw[e2,a4,q1];simp,?_,λy Fn hy=>?_⟩
   ·simp only[nix,DP,AX,AR,q2,S3 e Jm]
    omega
   ·have:=a6 (λ_ x u f=>Owns w ok base hv e none x u f) (He e x k p n.1.2 y) u (G1++(Fn++G2)) (λm x u f hm _ h=>by simp only[Ei]at hm;simp only[Qo hm]at h;exact h) (q3 y Fn hy)
    rw[<-a2]at this;simp only[He,DP];refine⟨sv,xs,Fp++((G1++(Fn++G2))++Fq),e1,by simp,?_,this⟩;have:(List.set (l:List e.ty.den) i (He e x k p n.1.2 y)).length=(l:List e.ty.den).length:=MM;rw[this];exact h1
  ·cases h
 |.r _ _,_,_+1,_,_,_,_,_,h=>by cases h
theorem Owns.top:∀{o:OT}{x:o.ty.den}{k:Nat}{u F:List Value},Owns w ok base hv o (some (k,[])) x u F->u[k]?=some hv/\∀s,s.oneCell'=true->Owns w ok base s o (some (k,[])) x (u.set k s) F
 |.d _,_,_,_,_,⟨h,_⟩=>by cases h
 |.p a b,x,k,vs,F,⟨u,v,F1,F2,e,e2,h1,h2⟩=>by
  have h1:Owns w ok base hv a (hL a.ty.size (some (k,[]))) x.1 u F1:=h1;have h2:Owns w ok base hv b (hR a.ty.size (some (k,[]))) x.2 v F2:=h2;by_cases hk:k<a.ty.size
  ·simp only[hL,hR,if_pos hk]at h1 h2
   have hl:=h1.length;obtain⟨q1,q2⟩:=Owns.top h1;refine⟨by rw[e,H5 (by omega)];exact q1,λs hs=>⟨u.set k s,v,F1,F2,by rw[e,List.set_append_left _ _ (by omega)],e2,?_,?_⟩⟩
   ·show Owns w ok base s a (hL a.ty.size (some (k,[]))) x.1 _ F1
    simp only[hL,if_pos hk];exact q2 s hs
   ·show Owns w ok base s b (hR a.ty.size (some (k,[]))) x.2 v F2
    simp only[hR,if_pos hk];exact h2.any
  ·simp only[hL,hR,if_neg hk]at h1 h2
   have hl:=h1.length;obtain⟨q1,q2⟩:=Owns.top h2;refine⟨by rw[e,Gn (by omega),hl];exact q1,λs hs=>⟨u,v.set (k-a.ty.size) s,F1,F2,by rw[e,List.set_append_right _ _ (by omega),hl],e2,?_,?_⟩⟩
   ·show Owns w ok base s a (hL a.ty.size (some (k,[]))) x.1 _ F1
    simp only[hL,if_neg hk];exact h1.any
   ·show Owns w ok base s b (hR a.ty.size (some (k,[]))) x.2 _ F2
    simp only[hR,if_neg hk];exact q2 s hs
 |.r _ _,_,0,_,_,⟨e1,e2,h1⟩=>by rw[e1];exact⟨rfl,λs hs=>⟨rfl,e2,hs⟩⟩
 |.r _ _,_,_+1,_,_,h=>h.elim
theorem Apb{t:TypeId}{size n:Nat}{v:Value}{xs:List Value}(h:w.ownsRow base t size v n xs)(hn:0<n):∃g c,v=.slice (some ⟨g,0,none⟩) n c:=by
 rcases h.2 with⟨_,h0⟩|⟨g,cap,AP,h,_⟩
 ·omega
 ·exact⟨g,cap,h⟩
theorem Keeps.set(hb:∀g,ok g->ok' g){g j:Nat}{s:Value}(hg:¬ok g):Keeps w ok (w.setCell ⟨g,j,none⟩ s) ok':=λg' h _=>
 ⟨hb g' h,heap_setCell_other w ⟨g,j,none⟩ g' s (λe=>hg (by simpa [e]using h))⟩
theorem Apc{α:Type}{p u q:List α}{k:Nat}{s:α}(hk:k<u.length):(p++(u++q)).set (p.length+k) s=p++(u.set k s++q):=by rw[List.set_append_right _ _ (by omega),MH,List.set_append_left _ _ hk]
theorem Owns.header(hb:∀g,ok g->ok' g):∀{o:OT}{x:o.ty.den}{k0:Nat}{p:Path}{i k:Nat}{vs F:List Value},(∀s∈F,∀g,s.ownBlock=some g->¬ok g)->Owns w ok base hv o (some (k0,p++[(i,k)])) x vs F->∃n s g c G1 Fn,BL o x k0 p=some n/\F=G1++s::Fn/\G1.length=nix o x k0 p/\s=.slice (some ⟨g,0,none⟩) n.2.length c/\i<n.2.length/\w.cell? ⟨g,i*n.1.2.ty.size+k,none⟩=some hv/\w.frozen? ⟨g,i*n.1.2.ty.size+k,none⟩=false/\∀s2,s2.oneCell'=true->(∀s'∈G1++Fn,s'.ownBlock≠some g)->Owns (w.setCell ⟨g,i*n.1.2.ty.size+k,none⟩ s2) ok' base s2 o (some (k0,p++[(i,k)])) x vs F
 |.d _,_,_,_,_,_,_,_,_,⟨h,_⟩=>by cases h
 |.p a b,x,k0,p,i,k,vs,F,IA,⟨u,v,F1,F2,e,e2,h1,h2⟩=>by
  have h1:Owns w ok base hv a (hL a.ty.size (some (k0,p++[(i,k)]))) x.1 u F1:=h1;have h2:Owns w ok base hv b (hR a.ty.size (some (k0,p++[(i,k)]))) x.2 v F2:=h2;by_cases hk:k0<a.ty.size
  ·simp only[hL,hR,if_pos hk]at h1 h2
   obtain⟨n,s,g,c,G1,Fn,q1,q2,q3,q4,q5,q6,q6',q7⟩:=Owns.header hb (λs hs=>IA s (by rw[e2];exact D0 _ hs)) h1;refine⟨n,s,g,c,G1,Fn++F2,by simp only[BL,if_pos hk];exact q1,by rw[e2,q2];simp,by rw[q3];simp only[nix,if_pos hk],q4,q5,q6,q6',λs2 Bm hd=>⟨u,v,F1,F2,e,e2,?_,?_⟩⟩
   ·show Owns _ ok' base s2 a (hL a.ty.size (some (k0,p++[(i,k)]))) x.1 u F1
    simp only[hL,if_pos hk];exact q7 s2 Bm λs' h=>hd s' (by rcases Cs.1 h with h|h<;>simp[h])
   ·show Owns _ ok' base s2 b (hR a.ty.size (some (k0,p++[(i,k)]))) x.2 v F2
    simp only[hR,if_pos hk];have hg:¬ok g:=IA s (by rw[e2,q2];simp) g (by rw[q4];rfl);exact(h2.mono (AQ _) (Keeps.set hb hg) λs' Cc g' CJ=>heap_setCell_other w _ g' s2 (λe=>hd s' (by simp[Cc]) (by simp only at e;rw[CJ,e]))).any
  ·simp only[hL,hR,if_neg hk]at h1 h2
   obtain⟨n,s,g,c,G1,Fn,q1,q2,q3,q4,q5,q6,q6',q7⟩:=Owns.header hb (λs hs=>IA s (by rw[e2];exact DJ _ hs)) h2;refine⟨n,s,g,c,F1++G1,Fn,by simp only[BL,if_neg hk];exact q1,by rw[e2,q2];simp,by rw[AR,q3,Owns.cnt h1];simp only[nix,if_neg hk],q4,q5,q6,q6',λs2 Bm hd=>⟨u,v,F1,F2,e,e2,?_,?_⟩⟩
   ·show Owns _ ok' base s2 a (hL a.ty.size (some (k0,p++[(i,k)]))) x.1 u F1
    simp only[hL,if_neg hk];have hg:¬ok g:=IA s (by rw[e2,q2];simp) g (by rw[q4];rfl);exact(h1.mono (AQ _) (Keeps.set hb hg) λs' Cc g' CJ=>heap_setCell_other w _ g' s2 (λe=>hd s' (by simp[Cc]) (by simp only at e;rw[CJ,e]))).any
   ·show Owns _ ok' base s2 b (hR a.ty.size (some (k0,p++[(i,k)]))) x.2 v F2
    simp only[hR,if_neg hk];exact q7 s2 Bm λs' h=>hd s' (by rcases Cs.1 h with h|h<;>simp[h])
 |.r _ _,_,_+1,_,_,_,_,_,_,h=>h.elim
 |.r t e,l,0,[],i,k,vs,F,IA,⟨hi,sv,xs,F',e1,e2,h1,h2⟩=>by
  obtain⟨g,c,Aw⟩:=Apb h1 (by omega);obtain⟨x',u,pp,q,Fu,Fp,Fq,a1,a2,a3,a4,a5,_,a6⟩:=OL.focus (n:=e.ty.size) (λ_ _ _ _ h=>h.length) h2 hi;simp only[Ei,Od]at a5;obtain⟨b1,b2⟩:=Owns.top a5;have hk:k<u.length:=(EN.1 b1).1;have iX:=a5.length;subst Aw;have Fi:xs.length=(l:List e.ty.den).length*e.ty.size:=h1.1
  have Au:i*e.ty.size+k<(l:List e.ty.den).length*e.ty.size:=by have:(i+1)*e.ty.size<=(l:List e.ty.den).length*e.ty.size:=L9 _ hi;rw[In]at this;omega
  have DC:xs[i*e.ty.size+k]?=some hv:=by rw[a2,<-a3,Gn (by omega),MH,H5 hk];exact b1
  have Ps:w.frozen? ⟨g,i*e.ty.size+k,none⟩=false:=by
   rcases h1.2 with⟨h,_⟩|⟨g',cap,AP,h,_,hh,_⟩
   ·cases h
   ·injection h with h _ _
    injection h with h;injection h with h;subst h;exact frozen_of_row w g _ AP t hh
  refine⟨⟨(t,e),l⟩,_,g,c,[],F',rfl,e2,rfl,rfl,hi,by rw[h1.cellAt _ Au];exact DC,Ps,λs2 Bm hd=>?_⟩;have hg:¬ok g:=IA _ (by rw[e2];exact CW ..) g rfl;obtain⟨r1,r2⟩:=h1.stored (i*e.ty.size+k) s2;refine⟨hi,_,xs.set (i*e.ty.size+k) s2,F',e1,e2,r1,?_⟩
  have hm:∀{o:OT}{h:Option (Nat×Path)}{x:o.ty.den}{vs f:List Value},(∀s'∈f,s'∈F')->Owns w ok base hv o h x vs f->Owns (w.setCell ⟨g,i*e.ty.size+k,none⟩ s2) ok' base hv o h x vs f:=λhf h=>
   h.mono (AQ _) (Keeps.set hb hg) λs' Cc g' CJ=>heap_setCell_other w _ g' s2 (λe=>hd s' (by simp[hf s' Cc]) (by simp only at e;rw[CJ,e]))
  have h3:=h2.mono (R':=λj x u f=>Owns (w.setCell ⟨g,i*e.ty.size+k,none⟩ s2) ok' base hv e (hI i k [] j) x u f) (λ_ _ _ _ hf h=>hm hf h);obtain⟨x2,u2,pp2,q2,Fu2,Fp2,Fq2,c1,c2,c3,c4,c5,_,c6⟩:=OL.focus (n:=e.ty.size) (λ_ _ _ _ h=>h.length) h3 hi;simp only[Ei,Od]at c5
  have:=c6 (λj x u f=>Owns (w.setCell ⟨g,i*e.ty.size+k,none⟩ s2) ok' base s2 e (hI i k [] j) x u f) x2 (u2.set k s2) Fu2 (λm x u f hm _ h=>by simp only[Ei]at hm;simp only[Qo hm]at h⊢;exact h.any) (by simp only[Ei,Od];exact(Owns.top c5).2 s2 Bm)
  rw[set_getElem?_same c1,<-c4,<-Apc (by rw[c5.length];omega),c3,<-c2]at this;exact this
 |.r t e,l,0,(i0,k1)::p,i,k,vs,F,IA,⟨hi,sv,xs,F',e1,e2,h1,h2⟩=>by
  obtain⟨x',u,pp,q,Fu,Fp,Fq,a1,a2,a3,a4,a5,⟨_,a7,_⟩,a6⟩:=OL.focus (n:=e.ty.size) (λ_ _ _ _ h=>h.length) h2 hi;have DP:(l:List e.ty.den)[i0]?=some x':=a1;simp only[Ei,Od]at a5;obtain⟨n,s,g,c,G1,Fn,q1,q2,q3,q4,q5,q6,q6',q7⟩:=Owns.header hb (λs hs=>IA s (by rw[e2,a4];simp[hs])) a5;have hg:¬ok g:=IA s (by rw[e2,a4,q2];simp) g (by rw[q4];rfl)
  have Jm:OL (λ_ x u f=>Owns w ok base hv e none x u f) 0 ((l:List e.ty.den).take i0) pp Fp:=by
   have:∀{l:List e.ty.den}{j:Nat}{xs F:List Value},j+l.length<=i0->OL (λj x u f=>Owns w ok base hv e (hI i0 k1 (p++[(i,k)]) j) x u f) j l xs F->OL (λ_ x u f=>Owns w ok base hv e none x u f) j l xs F:=by
    intro l
    induction l with
    |nil=>intro j xs F _ h;exact h
    |cons y l ih=>intro j xs F hj h;obtain⟨u,v,F1,F2,b1,b2,b3,b4⟩:=h;simp only[AX]at hj;simp only[Qo (show j≠i0 by omega)]at b3;exact⟨u,v,F1,F2,b1,b2,b3,ih (by omega) b4⟩
   exact this (by rw[Hd];omega) a7
  refine⟨n,s,g,c,sv::(Fp++G1),Fn++Fq,by simp only[BL,DP];exact q1,by rw[e2,a4,q2];simp,?_,q4,q5,q6,q6',λs2 Bm hd=>?_⟩
  ·simp only[nix,DP,AX,AR,q3,S3 e Jm]
   omega
  ·have AnG:∀s' g',s'∈sv::(Fp++G1)++(Fn++Fq)->s'.ownBlock=some g'->(w.setCell ⟨g,i*n.1.2.ty.size+k,none⟩ s2).heap[g']?=w.heap[g']?:=λs' g' h CJ=>
    heap_setCell_other w _ g' s2 (λe=>hd s' h (by simp only at e;rw[CJ,e]))
   have Aw:=Ob (AQ base) (λg' CJ=>AnG sv g' (by simp) CJ) h1
   have h4:=a6 (λj x u f=>Owns (w.setCell ⟨g,i*n.1.2.ty.size+k,none⟩ s2) ok' base s2 e (hI i0 k1 (p++[(i,k)]) j) x u f) x' u Fu (λm x u f hm hf h=>by
    simp only[Ei]at hm;simp only[Qo hm]at h⊢;exact(h.mono (AQ _) (Keeps.set hb hg) λs' Cc g' CJ=>AnG s' g' (by rcases hf s' Cc with h|h<;>simp[h]) CJ).any) (by
    simp only[Ei,Od];exact q7 s2 Bm λs' h=>hd s' (by rcases Cs.1 h with h|h<;>simp[h]))
   rw[set_getElem?_same a1,<-a2,<-a4]at h4;exact⟨hi,sv,xs,F',e1,e2,Aw,h4⟩
end
theorem Ac7{α:Type}{f:α->Nat}:∀{l:List α}{i:Nat}{x:α},l[i]?=some x->((l.take i).map f).sum+f x<=(l.map f).sum
 |[],_,_,h=>by simp at h
 |y::l,0,x,h=>by simp at h;subst h;simp
 |y::l,i+1,x,h=>by have:=Ac7 (f:=f) (l:=l) (i:=i) (x:=x) (by simpa using h);simp only[List.take_succ_cons,CM,NY];omega
theorem kC{α:Type}{f:α->Nat}:∀{l:List α}{i j:Nat}{x:α},l[i]?=some x->i<j->((l.take i).map f).sum+f x<=((l.take j).map f).sum
 |[],_,_,_,h,_=>by simp at h
 |y::l,0,j+1,x,h,_=>by simp at h;subst h;simp
 |y::l,i+1,j+1,x,h,hl=>by have:=kC (f:=f) (l:=l) (i:=i) (j:=j) (x:=x) (by simpa using h) (by omega);simp only[List.take_succ_cons,CM,NY];omega
theorem Ac8(t:TypeId)(e:OT)(l:List e.ty.den):1<=cnt (.r t e) l:=by simp only[cnt];omega
theorem Oe:∀{o:OT}{x:o.ty.den}{k:Nat}{p:Path}{n:EP},BL o x k p=some n->nix o x k p+cnt (.r n.1.1 n.1.2) n.2<=cnt o x
 |.d _,_,_,_,_,h=>by cases h
 |.p a b,x,k,p,n,h=>by
  simp only[BL]at h;split at h
  ·rename_i hk
   have:=Oe h;simp only[nix,if_pos hk,cnt];simp only[cnt]at this;omega
  ·rename_i hk
   have:=Oe h;simp only[nix,if_neg hk,cnt];simp only[cnt]at this;omega
 |.r t e,l,0,[],n,h=>by simp only[BL,Ag]at h;subst h;simp only[nix];omega
 |.r t e,l,0,(i,k)::p,n,h=>by
  simp only[BL]at h;split at h
  ·rename_i x hx
   have DP:(l:List e.ty.den)[i]?=some x:=hx;have h1:=Oe h;have h2:=Ac7 (f:=cnt e) DP;simp only[nix,DP];show 1+_+_+_<=1+((l:List e.ty.den).map (cnt e)).sum;omega
  ·cases h
 |.r _ _,_,_+1,_,_,h=>by cases h
theorem Ye:∀{o:OT}{x:o.ty.den}{k k':Nat}{P p:Path}{n m:EP},BL o x k P=some n->BL o x k' p=some m->¬(k'=k/\P<+:p)->nix o x k' p<nix o x k P\/nix o x k P+cnt (.r n.1.1 n.1.2) n.2<=nix o x k' p
 |.d _,_,_,_,_,_,_,_,h,_,_=>by cases h
 |.p a b,x,k,k',P,p,n,m,h,h',AW=>by
  simp only[BL]at h h';split at h
  ·rename_i hk
   split at h'
   ·rename_i Fg
    have:=Ye h h' AW;simp only[nix,if_pos hk,if_pos Fg];exact this
   ·rename_i Fg
    have h1:=Oe h;simp only[nix,if_pos hk,if_neg Fg];simp only[cnt]at h1⊢;omega
  ·rename_i hk
   split at h'
   ·rename_i Fg
    have h1:=Oe h';simp only[nix,if_neg hk,if_pos Fg];have:=Ac8 m.1.1 m.1.2 m.2;omega
   ·rename_i Fg
    have:=Ye h h' (λq=>AW ⟨by omega,q.2⟩);simp only[nix,if_neg hk,if_neg Fg];omega
 |.r t e,l,0,0,[],p,n,m,h,h',AW=>absurd ⟨rfl,List.nil_prefix⟩ AW
 |.r t e,l,0,0,(i,k)::P,[],n,m,h,h',AW=>by
  simp only[BL]at h;split at h
  ·rename_i x hx
   have DP:(l:List e.ty.den)[i]?=some x:=hx;simp only[nix,DP];omega
  ·cases h
 |.r t e,l,0,0,(i,k)::P,(i',k')::p,n,m,h,h',AW=>by
  simp only[BL]at h h';split at h
  ·rename_i x hx
   split at h'
   ·rename_i x' DP
    have hx:(l:List e.ty.den)[i]?=some x:=hx;have DP:(l:List e.ty.den)[i']?=some x':=DP;have c1:=Oe h;have c2:=Oe h';have p2:=Ac8 m.1.1 m.1.2 m.2;simp only[nix,hx,DP];rcases Nat.lt_trichotomy i' i with Au|DY|Au
    ·have:=kC (f:=cnt e) DP Au
     omega
    ·subst DY
     rw[hx]at DP;injection DP with DP;subst DP;have:=Ye h h' (λq=>AW ⟨rfl,by rw[q.1];exact List.cons_prefix_cons.2 ⟨rfl,q.2⟩⟩);omega
    ·have:=kC (f:=cnt e) hx Au
     omega
   ·cases h'
  ·cases h
 |.r _ _,_,_+1,_,_,_,_,_,h,_,_=>by cases h
 |.r _ _,_,0,_+1,_,_,_,_,_,h',_=>by cases h'
section
variable{w:World}{ok ok':Nat->Prop}{base:Nat}{hv:Value}
theorem Owns.data(hb:∀g,ok g->ok' g):∀{o:OT}{x:o.ty.den}{vs F:List Value},(∀s∈F,∀g,s.ownBlock=some g->ok' g)->Owns w ok base hv o none x vs F->DRep w ok' o.ty x vs
 |.d _,_,_,_,_,⟨_,h,_⟩=>h.mono λg hg _=>⟨hb g hg,rfl⟩
 |.p _ _,_,_,_,hf,⟨u,v,F1,F2,e,e2,h1,h2⟩=>⟨u,v,e,Owns.data hb (λs hs=>hf s (by rw[e2];exact D0 _ hs)) (show Owns w ok base hv _ none _ _ _ from h1),Owns.data hb (λs hs=>hf s (by rw[e2];exact DJ _ hs)) (show Owns w ok base hv _ none _ _ _ from h2)⟩
 |.r _ e0,l,_,_,hf,⟨sv,xs,F',e,e2,h,hl⟩=>by
  have hd:DList (λx u=>DRep w ok' e0.ty x u) l xs:=by
   have:∀{l:List e0.ty.den}{j:Nat}{xs F:List Value},(∀s∈F,∀g,s.ownBlock=some g->ok' g)->OL (λ_ x u f=>Owns w ok base hv e0 none x u f) j l xs F->DList (λx u=>DRep w ok' e0.ty x u) l xs:=by
    intro l
    induction l with
    |nil=>intro j xs F _ h;exact h.1
    |cons y l ih=>intro j xs F hF h;obtain⟨u,v,F1,F2,b1,b2,b3,b4⟩:=h;exact⟨u,v,b1,Owns.data hb (λs hs=>hF s (by rw[b2];exact D0 _ hs)) b3,ih (λs hs=>hF s (by rw[b2];exact DJ _ hs)) b4⟩
   exact this (λs hs=>hf s (by rw[e2];exact BY _ hs)) hl
  have Fi:=h.1;rcases h.2 with⟨h1,h2⟩|⟨g,cap,AP,h1,Ww,hh,hn,hm,hs,ht⟩
  ·refine⟨none,0,xs,by rw[e,h1,h2],by rw[h2];exact AQ _,Ej _,hd,λj v hj=>?_⟩
   have:xs=[]:=IK (by rw[Fi,h2,Nat.zero_mul]);rw[this]at hj;simp at hj
  ·refine⟨some ⟨g,0,none⟩,cap,xs,by rw[e,h1],hn,hm,hd,λj v hj=>⟨⟨g,0,none⟩,rfl,hf sv (by rw[e2];exact CW ..) g (by rw[h1];rfl),?_⟩⟩
   exact h.cells (g:=g) (by rw[h1];rfl) j v hj
end
end Go.Lift
namespace Go.Lift
inductive C where
 |bool (b:Bool)
 |int (k:IntKind) (n:Int)
 |str (s:List UInt8)
 |err (b:Bool)
 |list (e:Ty) (l:List e.den)
 |nils
 |nilc
 |lsome (e:Ty) (l:List e.den)
 |nilp
 |ptr (b o:Nat)
 |row (b ver:Nat)
 |fn (f:FuncId) (BN:List Nat)
 |nilfn
 |mapv (b:Nat)
 |mat (b ver:Nat)
 |mrow (b Ah i:Nat)
 |sub (b ver i j:Nat)
 |bself (b:Nat)
 |trow (b ver:Nat) (p:Path)
 |bfn (f:FuncId) (b:Nat)
 |tptr (b ver:Nat) (p:Path) (i o:Nat)
 |junk
inductive V where
 |junk
 |c (x:C)
 |agg (cs:List C)
 |tup (ts:List (Bool×List C))
 |eptr (b ver i o:Nat)
 |lptr (e:Ty) (x:e.den) (o:Nat)
 |mcell (b ver i:Nat)
 |mptr (b Ah i j o:Nat)
 |arr (b o:Nat) (e:Ty) (n:Nat)
inductive Blk where
 |cells (t:TypeId) (cs:List C)
 |row (t:TypeId) (e:Ty) (ver:Nat) (l:List e.den)
 |map (t:TypeId) (k v:Ty) (vg:Bool) (l:List (k.den×v.den))
 |mat (t et:TypeId) (e:Ty) (ver Ah:Nat) (hole:Option Nat) (l:List (List e.den))
 |tree (t:TypeId) (e:OT) (ver Ah:Nat) (hole:Option Path) (l:List e.ty.den)
 |fmap (t:TypeId) (l:List (List UInt8×(FuncId×Nat)))
 |dead
inductive Pl where
 |cells (g:Nat)
 |row (sv:Value) (Ac:List (Option Value))
def Pl.has:Pl->Nat->Prop
 |.cells g',g=>g'=g
 |.row sv Ac,g=>sv.ownBlock=some g\/∃(i:Nat)(s:Value),Ac[i]?=some (some s)/\s.ownBlock=some g
theorem Pl.has_row{sv:Value}{g:Nat}(h:(Pl.row sv []).has g):sv.ownBlock=some g:=by
 rcases h with h|⟨i,s,h,_⟩
 ·exact h
 ·simp at h
structure Env where
 w:World
 ok:Nat->Prop
 base:Nat
 pl:Nat->Option Pl
 bl:Nat->Option Blk
def tv(ver Ah:Nat):Path->Nat
 |[]=>ver
 |_::_=>ver+Ah
theorem Yf{a b a' b':Nat}(ha:a<=a')(hb:b<=b')(p:Path):tv a b p<=tv a' b' p:=by cases p<;>simp only[tv]<;>omega
theorem Ac9{a b a' b':Nat}(ha:a<=a')(hb:b<=b'){p:Path}(h:tv a b p=tv a' b' p):a=a'/\(p=[]\/b=b'):=by
 cases p with
 |nil=>exact⟨h,.inl rfl⟩
 |cons _ _=>simp only[tv]at h;exact⟨by omega,.inr (by omega)⟩
def S4(h:Option Path)(p:Path):Prop:=∀q,h=some q->¬q<+:p
def CRep(E:Env):C->Value->Prop
 |.bool b,v=>v=.bool b
 |.int k n,v=>v=.int k n
 |.str s,v=>v=.string ⟨s.toArray⟩
 |.err b,v=>errRep b v
 |.list e l,v=>DRep E.w E.ok (.slice e) l [v]
 |.nils,v=>v=.slice none 0 0
 |.nilc,v=>∃c,v=.slice none 0 c
 |.lsome e l,v=>DRep E.w E.ok (.slice e) l [v]/\∀n c,v≠.slice none n c
 |.nilp,v=>v=.pointer none
 |.ptr b o,v=>∃g,E.pl b=some (.cells g)/\v=.pointer (some ⟨g,o,none⟩)
 |.row b ver,v=>v.oneCell'=true/\∃sv Ac,E.pl b=some (.row sv Ac)/\∀t e ver' l,E.bl b=some (.row t e ver' l)->ver<=ver'/\(ver=ver'->v=sv)
 |.fn f BN,v=>∃gs:List Nat,BN.map E.pl=gs.map (λg=>some (.cells g))/\v=.func (.func f) #[] (gs.map λg=>.pointer (some ⟨g,0,none⟩)).toArray
 |.nilfn,v=>v=.nilFunc
 |.mapv b,v=>∃g,E.pl b=some (.cells g)/\v=.map (some g)
 |.mat b ver,v=>v.oneCell'=true/\∃sv Ac,E.pl b=some (.row sv Ac)/\∀t et e ver' Ah hole l,E.bl b=some (.mat t et e ver' Ah hole l)->ver<=ver'/\(ver=ver'->v=sv)
 |.mrow b Ah i,v=>v.oneCell'=true/\∃sv Ac,E.pl b=some (.row sv Ac)/\∀t et e ver B9 hole l,E.bl b=some (.mat t et e ver B9 hole l)->Ah<=B9/\(Ah=B9->i<l.length/\Ac[i]?=some (some v))
 |.sub b ver i j,v=>v.oneCell'=true/\∃sv Ac,E.pl b=some (.row sv Ac)/\∀t e ver' l,E.bl b=some (.row t e ver' l)->ver<=ver'/\(ver=ver'->i<=j/\j<=l.length/\
   ∃A A' n c,sv=.slice A n c/\v=.slice A' (j-i) (c-i)/\(i<j->A'=A.map (·.add (i*e.size)))/\(i=0->A'=A))
 |.bself b,v=>v=.pointer none\/∃g,E.pl b=some (.cells g)/\v=.pointer (some ⟨g,0,none⟩)
 |.trow b ver p,v=>v.oneCell'=true/\∃sv Ac,E.pl b=some (.row sv Ac)/\∀t e ver' B9 h l,E.bl b=some (.tree t e ver' B9 h l)->ver<=tv ver' B9 p/\(ver=tv ver' B9 p->S4 h p->
   ∃n,BL (.r t e) l 0 p=some n/\(some sv::Ac)[nix (.r t e) l 0 p]?=some (some v))
 |.bfn f b,v=>∃g,E.pl b=some (.cells g)/\v=.func (.func f) #[.pointer (some ⟨g,0,none⟩)] #[]
 |.tptr b ver p i o,v=>∃sv Ac ad,E.pl b=some (.row sv Ac)/\v=.pointer (some ad)/\∀t e ver' B9 h l,E.bl b=some (.tree t e ver' B9 h l)->ver<=tv ver' B9 p/\(ver=tv ver' B9 p->S4 h p->
   ∃n s,BL (.r t e) l 0 p=some n/\(some sv::Ac)[nix (.r t e) l 0 p]?=some (some s)/\i<n.2.length/\∃g m c,s=.slice (some ⟨g,0,none⟩) m c/\ad=⟨g,i*n.1.2.ty.size+o,none⟩)
 |.junk,v=>v.oneCell'=true
def CReps(E:Env):List C->List Value->Prop
 |[],vs=>vs=[]
 |c::cs,vs=>∃v Av,vs=v::Av/\CRep E c v/\CReps E cs Av
def SRep(E:Env)(agg:Bool)(cs:List C)(v:Value):Prop:=
 ∃vs,CReps E cs vs/\if agg then v=.agg vs.toArray else vs=[v]
def TReps(E:Env):List (Bool×List C)->List Value->Prop
 |[],vs=>vs=[]
 |t::ts,vs=>∃v Av,vs=v::Av/\SRep E t.1 t.2 v/\TReps E ts Av
def VRep(E:Env):V->Value->Prop
 |.junk,_=>True
 |.c x,v=>CRep E x v
 |.agg cs,v=>SRep E true cs v
 |.tup ts,v=>∃vs,v=.tuple vs.toArray/\TReps E ts vs
 |.eptr b ver i o,v=>∃sv Ac ad,E.pl b=some (.row sv Ac)/\v=.pointer (some ad)/\∀t e ver' l,E.bl b=some (.row t e ver' l)->ver<=ver'/\
   (ver=ver'->i<l.length/\∃g n c,sv=.slice (some ⟨g,0,none⟩) n c/\ad=⟨g,i*e.size+o,none⟩)
 |.mcell b ver i,v=>∃sv Ac ad,E.pl b=some (.row sv Ac)/\v=.pointer (some ad)/\∀t et e ver' Ah hole l,E.bl b=some (.mat t et e ver' Ah hole l)->ver<=ver'/\
   (ver=ver'->i<l.length/\∃g n c,sv=.slice (some ⟨g,0,none⟩) n c/\ad=⟨g,i,none⟩)
 |.mptr b Ah i j o,v=>∃sv Ac ad,E.pl b=some (.row sv Ac)/\v=.pointer (some ad)/\∀t et e ver B9 hole l,E.bl b=some (.mat t et e ver B9 hole l)->Ah<=B9/\
   (Ah=B9->∃s x,l[i]?=some x/\Ac[i]?=some (some s)/\j<x.length/\∃g n c,s=.slice (some ⟨g,0,none⟩) n c/\ad=⟨g,j*e.size+o,none⟩)
 |.arr b o _ n,v=>∃g,E.pl b=some (.cells g)/\v=.slice (some ⟨g,o,none⟩) n n
 |.lptr e x o,v=>∃xs ad,DRep E.w E.ok e x xs/\v=.pointer (some ad)/\∀j u,(xs.drop o)[j]?=some u->E.ok ad.block/\E.w.cell? (ad.add j)=some u
def keyW:Ty->Bool
 |.prod _ _=>true
 |_=>false
def KRep(w:World)(ok:Nat->Prop)(k:Ty)(x:k.den)(u:Value):Prop:=
 ∃us,DRep w ok k x us/\if keyW k then u=.agg us.toArray else us=[u]
def MRep(w:World)(ok:Nat->Prop)(k v:Ty)(vg:Bool):List (k.den×v.den)->List MapEntry->Prop
 |[],es=>es=[]
 |x::l,es=>∃e r,es=e::r/\KRep w ok k x.1 e.key/\(∃us,DRep w ok v x.2 us/\if vg then e.val=.agg us.toArray else us=[e.val])/\MRep w ok k v vg l r
theorem MRep.mono{w w':World}{ok ok':Nat->Prop}{k v:Ty}{vg:Bool}(hk:∀x us,DRep w ok k x us->DRep w' ok' k x us)(hv:∀x us,DRep w ok v x us->DRep w' ok' v x us):∀{l:List (k.den×v.den)}{es:List MapEntry},MRep w ok k v vg l es->MRep w' ok' k v vg l es
 |[],_,h=>h
 |_::_,_,⟨e,r,h0,⟨ks,h1,h5⟩,⟨us,h2,h3⟩,h4⟩=>⟨e,r,h0,⟨ks,hk _ _ h1,h5⟩,⟨us,hv _ _ h2,h3⟩,MRep.mono hk hv h4⟩
def FRep(E:Env):List (List UInt8×(FuncId×Nat))->List MapEntry->Prop
 |[],es=>es=[]
 |x::l,es=>∃e r g,es=e::r/\e.key=.string ⟨x.1.toArray⟩/\E.pl x.2.2=some (.cells g)/\e.val=.func (.func x.2.1) #[.pointer (some ⟨g,0,none⟩)] #[]/\FRep E l r
structure MatOk (E:Env) (t et:TypeId) (e:Ty) (hole:Option Nat) (l:List (List e.den)) (sv:Value) (Ac:List (Option Value)):Prop where
 outer:∃vs:List Value,E.w.ownsRow E.base t 1 sv l.length vs/\∀(i:Nat)(s:Value),Ac[i]?=some (some s)->vs[i]?=some s
 len:Ac.length=l.length
 hole:∀i:Nat,Ac[i]?=some none->hole=some i
 inner:∀(i:Nat)(s:Value)(x:List e.den),Ac[i]?=some (some s)->l[i]?=some x->∃xs,DList (λx u=>DRep E.w E.ok e x u) x xs/\E.w.ownsRow E.base et e.size s x.length xs
 sep0:∀(i:Nat)(s:Value)(g:Nat),Ac[i]?=some (some s)->sv.ownBlock=some g->s.ownBlock≠some g
 sep:∀(i j:Nat)(s r:Value)(g:Nat),i≠j->Ac[i]?=some (some s)->Ac[j]?=some (some r)->s.ownBlock=some g->r.ownBlock≠some g
def Placed(t:TypeId)(e:OT)(l:List e.ty.den):Option Path->List Value->List (Option Value)->Prop
 |none,F,Ac=>Ac=F.map some
 |some P,F,Ac=>∃n G1 G2,BL (.r t e) l 0 P=some n/\F=G1++G2/\G1.length=nix (.r t e) l 0 P/\Ac=G1.map some++(List.replicate (cnt (.r n.1.1 n.1.2) n.2) none++G2.map some)
structure TreeOk (E:Env) (t:TypeId) (e:OT) (hole:Option Path) (l:List e.ty.den) (sv:Value) (Ac:List (Option Value)):Prop where
 rep:∃hv F,Owns E.w E.ok E.base hv (.r t e) (hole.map λp=>(0,p)) l [sv] (sv::F)/\Placed t e l hole (sv::F) (some sv::Ac)/\(sv::F).Pairwise (λs r=>∀g,s.ownBlock=some g->r.ownBlock≠some g)
 top:hole≠some []
def BRep(E:Env):Blk->Pl->Prop
 |.cells t cs,.cells g=>∃vs:List Value,E.w.heap[g]?=some (.cells vs.toArray t (0,0))/\CReps E cs vs
 |.row t e _ l,.row sv Ac=>Ac=[]/\∃xs,DList (λx u=>DRep E.w E.ok e x u) l xs/\E.w.ownsRow E.base t e.size sv l.length xs
 |.mat t et e _ _ hole l,.row sv Ac=>MatOk E t et e hole l sv Ac
 |.tree t e _ _ hole l,.row sv Ac=>TreeOk E t e hole l sv Ac
 |.map _ k v vg l,.cells g=>∃(es:Array MapEntry)(CU:Nat),E.w.heap[g]?=some (.map es CU)/\MRep E.w E.ok k v vg l es.toList
 |.fmap _ l,.cells g=>∃(es:Array MapEntry)(CU:Nat),E.w.heap[g]?=some (.map es CU)/\FRep E l es.toList
 |.dead,_=>True
 |_,_=>False
def KeepT(c:Prop)(t:TypeId)(e:OT)(h h':Option Path)(l l':List e.ty.den)(sv:Value)(Ac B6:List (Option Value)):Prop:=
 ∀p,(p=[]\/c)->S4 h' p->S4 h p/\∀n,BL (.r t e) l 0 p=some n->∃n',BL (.r t e) l' 0 p=some n'/\n'.1=n.1/\n'.2.length=n.2.length/\
  ∀s,(some sv::Ac)[nix (.r t e) l 0 p]?=some (some s)->(some sv::B6)[nix (.r t e) l' 0 p]?=some (some s)
theorem KeepT.refl(c:Prop)(t:TypeId)(e:OT)(h:Option Path)(l:List e.ty.den)(sv:Value)(Ac:List (Option Value)):KeepT c t e h h l l sv Ac Ac:=λ_ _ ho=>⟨ho,λn hn=>⟨n,hn,rfl,rfl,λ_ hs=>hs⟩⟩
theorem KeepT.trans{c c1 c2:Prop}(hc:c->c1/\c2){t:TypeId}{e:OT}{h h1 h2:Option Path}{l l1 l2:List e.ty.den}{sv:Value}{Ac MA K4:List (Option Value)}(a:KeepT c1 t e h h1 l l1 sv Ac MA)(b:KeepT c2 t e h1 h2 l1 l2 sv MA K4):KeepT c t e h h2 l l2 sv Ac K4:=λp hp ho=>by obtain⟨b1,b2⟩:=b p (hp.imp id λh=>(hc h).2) ho;obtain⟨a1,a2⟩:=a p (hp.imp id λh=>(hc h).1) b1;refine⟨a1,λn hn=>?_⟩;obtain⟨n1,c1,c2,c3,c4⟩:=a2 n hn;obtain⟨n2,d1,d2,d3,d4⟩:=b2 n1 c1;exact⟨n2,d1,d2.trans c2,d3.trans c3,λs hs=>d4 s (c4 s hs)⟩
structure KeepR (B B':Option Blk) (sv:Value) (Ac:List (Option Value)) (Bd:Value) (B6:List (Option Value)):Prop where
 row:∀t e ver' l',B'=some (.row t e ver' l')->∃ver l,B=some (.row t e ver l)/\ver<=ver'/\(ver=ver'->Bd=sv/\l'.length=l.length)
 mat:∀t et e ver' B9 GY l',B'=some (.mat t et e ver' B9 GY l')->∃ver Ah hole l,B=some (.mat t et e ver Ah hole l)/\ver<=ver'/\Ah<=B9/\
  (ver=ver'->Bd=sv/\l'.length=l.length)/\(Ah=B9->B6=Ac/\l'.map List.length=l.map List.length)
 tree:∀t e ver' B9 h' l',B'=some (.tree t e ver' B9 h' l')->∃ver Ah h l,B=some (.tree t e ver Ah h l)/\ver<=ver'/\Ah<=B9/\(ver=ver'->Bd=sv/\KeepT (Ah=B9) t e h h' l l' sv Ac B6)
theorem KeepR.refl(B:Option Blk)(sv:Value)(Ac:List (Option Value)):KeepR B B sv Ac sv Ac:=
 ⟨λ_ _ ver' l' hb=>⟨ver',l',hb,AQ _,λ_=>⟨rfl,rfl⟩⟩,λ_ _ _ ver' B9 GY l' hb=>⟨ver',B9,GY,l',hb,AQ _,AQ _,λ_=>⟨rfl,rfl⟩,λ_=>⟨rfl,rfl⟩⟩,λ_ _ ver' B9 h' l' hb=>⟨ver',B9,h',l',hb,AQ _,AQ _,λ_=>⟨rfl,KeepT.refl _ _ _ _ _ _ _⟩⟩⟩
theorem KeepR.of_eq{B B':Option Blk}(h:∀C,B'=some C->B=some C)(sv:Value)(Ac:List (Option Value)):KeepR B B' sv Ac sv Ac:=
 ⟨λ_ _ ver' l' hb=>⟨ver',l',h _ hb,AQ _,λ_=>⟨rfl,rfl⟩⟩,λ_ _ _ ver' B9 GY l' hb=>⟨ver',B9,GY,l',h _ hb,AQ _,AQ _,λ_=>⟨rfl,rfl⟩,λ_=>⟨rfl,rfl⟩⟩,λ_ _ ver' B9 h' l' hb=>⟨ver',B9,h',l',h _ hb,AQ _,AQ _,λ_=>⟨rfl,KeepT.refl _ _ _ _ _ _ _⟩⟩⟩
theorem KeepR.of_live{B B':Option Blk}(h:∀C,B'=some C->C≠.dead->B=some C)(sv:Value)(Ac:List (Option Value)):KeepR B B' sv Ac sv Ac:=
 ⟨λ_ _ ver' l' hb=>⟨ver',l',h _ hb (by simp),AQ _,λ_=>⟨rfl,rfl⟩⟩,λ_ _ _ ver' B9 GY l' hb=>⟨ver',B9,GY,l',h _ hb (by simp),AQ _,AQ _,λ_=>⟨rfl,rfl⟩,λ_=>⟨rfl,rfl⟩⟩,λ_ _ ver' B9 h' l' hb=>⟨ver',B9,h',l',h _ hb (by simp),AQ _,AQ _,λ_=>⟨rfl,KeepT.refl _ _ _ _ _ _ _⟩⟩⟩
theorem KeepR.trans{B B1 B2:Option Blk}{sv sv1 sv2:Value}{Ac MA K4:List (Option Value)}(h:KeepR B B1 sv Ac sv1 MA)(k:KeepR B1 B2 sv1 MA sv2 K4):KeepR B B2 sv Ac sv2 K4:=by
 constructor
 ·intro t e IJ l2 Aj
  obtain⟨Dc,l1,BH,le1,eq1⟩:=k.row t e IJ l2 Aj;obtain⟨Dk,l0,EH,le0,eq0⟩:=h.row t e Dc l1 BH;refine⟨Dk,l0,EH,D2 le0 le1,λhe=>?_⟩;have e01:Dk=Dc:=IM le0 (he▸le1);have e12:Dc=IJ:=e01▸he;exact⟨(eq1 e12).1.trans (eq0 e01).1,(eq1 e12).2.trans (eq0 e01).2⟩
 ·intro t et e IJ RZ AGW l2 Aj
  obtain⟨Dc,Hz,WR,l1,BH,le1,ile1,eq1,ieq1⟩:=k.mat t et e IJ RZ AGW l2 Aj;obtain⟨Dk,FQ,My,l0,EH,le0,ile0,eq0,ieq0⟩:=h.mat t et e Dc Hz WR l1 BH;refine⟨Dk,FQ,My,l0,EH,D2 le0 le1,D2 ile0 ile1,λhe=>?_,λhe=>?_⟩
  ·have e01:Dk=Dc:=IM le0 (he▸le1)
   have e12:Dc=IJ:=e01▸he;exact⟨(eq1 e12).1.trans (eq0 e01).1,(eq1 e12).2.trans (eq0 e01).2⟩
  ·have e01:FQ=Hz:=IM ile0 (he▸ile1)
   have e12:Hz=RZ:=e01▸he;exact⟨(ieq1 e12).1.trans (ieq0 e01).1,(ieq1 e12).2.trans (ieq0 e01).2⟩
 ·intro t e IJ RZ h2 l2 Aj
  obtain⟨Dc,Hz,h1,l1,BH,le1,ile1,eq1⟩:=k.tree t e IJ RZ h2 l2 Aj;obtain⟨Dk,FQ,h0,l0,EH,le0,ile0,eq0⟩:=h.tree t e Dc Hz h1 l1 BH;refine⟨Dk,FQ,h0,l0,EH,D2 le0 le1,D2 ile0 ile1,λhe=>?_⟩;have e01:Dk=Dc:=IM le0 (he▸le1);have e12:Dc=IJ:=e01▸he;obtain⟨a1,a2⟩:=eq0 e01;obtain⟨b1,b2⟩:=eq1 e12;rw[a1]at b2;exact⟨b1.trans a1,a2.trans (λhc=>⟨by omega,by omega⟩) b2⟩
structure Ext (E E':Env):Prop where
 base:E'.base<=E.base
 heap:Keeps E.w E.ok E'.w E'.ok
 cells:∀b g,E.pl b=some (.cells g)->E'.pl b=some (.cells g)
 rows:∀b sv Ac,E.pl b=some (.row sv Ac)->∃Bd B6,E'.pl b=some (.row Bd B6)/\KeepR (E.bl b) (E'.bl b) sv Ac Bd B6
theorem Ext.refl(E:Env):Ext E E:=⟨AQ _,λ_ h _=>⟨h,rfl⟩,λ_ _ h=>h,λ_ sv Ac h=>⟨sv,Ac,h,KeepR.refl _ _ _⟩⟩
section
variable{E E':Env}
theorem Apd{α:Type}{l l':List (List α)}(h:l'.map List.length=l.map List.length){i:Nat}{x:List α}(hx:l[i]?=some x):∃x',l'[i]?=some x'/\x'.length=x.length:=by
 have h1:(l'.map List.length)[i]?=some x.length:=by rw[h,FT,hx];rfl
 rw[FT]at h1;cases hy:l'[i]? with
 |none=>rw[hy]at h1;cases h1
 |some y=>rw[hy]at h1;injection h1 with h1;exact⟨y,rfl,h1⟩
theorem CRep.mono(hx:Ext E E'):∀{c:C}{v:Value},CRep E c v->CRep E' c v
 |.bool _,_,h=>h
 |.int _ _,_,h=>h
 |.str _,_,h=>h
 |.err _,_,h=>h
 |.list e l,_,h=>DRep.mono (τ:=.slice e) hx.heap h
 |.nils,_,h=>h
 |.nilc,_,h=>h
 |.lsome e l,_,h=>⟨DRep.mono (τ:=.slice e) hx.heap h.1,h.2⟩
 |.nilp,_,h=>h
 |.nilfn,_,h=>h
 |.junk,_,h=>h
 |.ptr _ _,_,⟨g,h,hv⟩=>⟨g,hx.cells _ _ h,hv⟩
 |.mapv _,_,⟨g,h,hv⟩=>⟨g,hx.cells _ _ h,hv⟩
 |.bfn _ _,_,⟨g,h,hv⟩=>⟨g,hx.cells _ _ h,hv⟩
 |.tptr b ver p i o,_,⟨sv,Ac,ad,h,he,hv⟩=>by obtain⟨Bd,B6,h',hr⟩:=hx.rows _ _ _ h;refine⟨Bd,B6,ad,h',he,λt e ver' B9 WF l' hb=>?_⟩;obtain⟨Dk,FQ,hh,l,EH,BS,ile,DY⟩:=hr.tree t e ver' B9 WF l' hb;obtain⟨h1,h2⟩:=hv t e Dk FQ hh l EH;refine⟨D2 h1 (Yf BS ile p),λhe ho=>?_⟩;have BW:=IM (Yf BS ile p) (he▸h1);obtain⟨this,hc⟩:=Ac9 BS ile BW;obtain⟨q1,q2⟩:=DY this;obtain⟨r1,r2⟩:=q2 p hc ho;obtain⟨n,s,h3,h4,h5,h6⟩:=h2 (he.trans BW.symm) r1;obtain⟨n',s1,s2,s3,s4⟩:=r2 n h3;rw[q1];exact⟨n',s,s1,s4 _ h4,by rw[s3];exact h5,by rw[s2];exact h6⟩
 |.bself _,_,.inl h=>.inl h
 |.bself _,_,.inr ⟨g,h,hv⟩=>.inr ⟨g,hx.cells _ _ h,hv⟩
 |.row b ver,_,⟨Mn,sv,Ac,h,hv⟩=>by obtain⟨Bd,B6,h',hr⟩:=hx.rows _ _ _ h;refine⟨Mn,Bd,B6,h',λt e ver' l' hb=>?_⟩;obtain⟨Dk,l,EH,BS,DY⟩:=hr.row t e ver' l' hb;obtain⟨h1,h2⟩:=hv t e Dk l EH;refine⟨D2 h1 BS,λhe=>?_⟩;have:Dk=ver':=IM BS (he▸h1);rw[(DY this).1];exact h2 (he.trans this.symm)
 |.mat b ver,_,⟨Mn,sv,Ac,h,hv⟩=>by obtain⟨Bd,B6,h',hr⟩:=hx.rows _ _ _ h;refine⟨Mn,Bd,B6,h',λt et e ver' B9 GY l' hb=>?_⟩;obtain⟨Dk,FQ,My,l,EH,BS,_,DY,_⟩:=hr.mat t et e ver' B9 GY l' hb;obtain⟨h1,h2⟩:=hv t et e Dk FQ My l EH;refine⟨D2 h1 BS,λhe=>?_⟩;have:Dk=ver':=IM BS (he▸h1);rw[(DY this).1];exact h2 (he.trans this.symm)
 |.mrow b Ah i,_,⟨Mn,sv,Ac,h,hv⟩=>by
  obtain⟨Bd,B6,h',hr⟩:=hx.rows _ _ _ h;refine⟨Mn,Bd,B6,h',λt et e ver' B9 GY l' hb=>?_⟩;obtain⟨Dk,FQ,My,l,EH,_,BS,_,DY⟩:=hr.mat t et e ver' B9 GY l' hb;obtain⟨h1,h2⟩:=hv t et e Dk FQ My l EH;refine⟨D2 h1 BS,λhe=>?_⟩;have hi:FQ=B9:=IM BS (he▸h1);obtain⟨q1,q2⟩:=DY hi;have q3:l'.length=l.length:=by simpa using Ax List.length q2
  rw[q1,q3];exact h2 (he.trans hi.symm)
 |.sub b ver i j,_,⟨Mn,sv,Ac,h,hv⟩=>by obtain⟨Bd,B6,h',hr⟩:=hx.rows _ _ _ h;refine⟨Mn,Bd,B6,h',λt e ver' l' hb=>?_⟩;obtain⟨Dk,l,EH,BS,DY⟩:=hr.row t e ver' l' hb;obtain⟨h1,h2⟩:=hv t e Dk l EH;refine⟨D2 h1 BS,λhe=>?_⟩;have:Dk=ver':=IM BS (he▸h1);rw[(DY this).1,(DY this).2];exact h2 (he.trans this.symm)
 |.trow b ver p,_,⟨Mn,sv,Ac,h,hv⟩=>by obtain⟨Bd,B6,h',hr⟩:=hx.rows _ _ _ h;refine⟨Mn,Bd,B6,h',λt e ver' B9 WF l' hb=>?_⟩;obtain⟨Dk,FQ,hh,l,EH,BS,ile,DY⟩:=hr.tree t e ver' B9 WF l' hb;obtain⟨h1,h2⟩:=hv t e Dk FQ hh l EH;refine⟨D2 h1 (Yf BS ile p),λhe ho=>?_⟩;have BW:=IM (Yf BS ile p) (he▸h1);obtain⟨this,hc⟩:=Ac9 BS ile BW;obtain⟨q1,q2⟩:=DY this;obtain⟨r1,r2⟩:=q2 p hc ho;obtain⟨n,h3,h4⟩:=h2 (he.trans BW.symm) r1;obtain⟨n',s1,_,_,s4⟩:=r2 n h3;rw[q1];exact⟨n',s1,s4 _ h4⟩
 |.fn f BN,_,⟨gs,h,hv⟩=>by
  refine⟨gs,?_,hv⟩;clear hv
  induction BN generalizing gs with
  |nil=>cases gs<;>simp_all
  |cons b bs ih=>
   cases gs with
   |nil=>simp at h
   |cons g gs=>simp only[CM,D1]at h⊢;exact⟨hx.cells _ _ h.1,ih gs h.2⟩
theorem CReps.mono(hx:Ext E E'):∀{cs:List C}{vs:List Value},CReps E cs vs->CReps E' cs vs
 |[],_,h=>h
 |_::_,_,⟨v,Av,e,h,ht⟩=>⟨v,Av,e,CRep.mono hx h,CReps.mono hx ht⟩
theorem SRep.mono(hx:Ext E E'){agg:Bool}{cs:List C}{v:Value}(h:SRep E agg cs v):SRep E' agg cs v:=by obtain⟨vs,h1,h2⟩:=h;exact⟨vs,h1.mono hx,h2⟩
theorem TReps.mono(hx:Ext E E'):∀{ts:List (Bool×List C)}{vs:List Value},TReps E ts vs->TReps E' ts vs
 |[],_,h=>h
 |_::_,_,⟨v,Av,e,h,ht⟩=>⟨v,Av,e,h.mono hx,TReps.mono hx ht⟩
theorem VRep.mono(hx:Ext E E'):∀{x:V}{v:Value},VRep E x v->VRep E' x v
 |.junk,_,_=>trivial
 |.c _,_,h=>CRep.mono hx h
 |.agg _,_,h=>SRep.mono hx h
 |.tup _,_,⟨vs,e,h⟩=>⟨vs,e,h.mono hx⟩
 |.mcell b ver i,_,⟨sv,Ac,ad,h,he,hv⟩=>by obtain⟨Bd,B6,h',hr⟩:=hx.rows _ _ _ h;refine⟨Bd,B6,ad,h',he,λt et e ver' B9 GY l' hb=>?_⟩;obtain⟨Dk,FQ,My,l,EH,BS,_,DY,_⟩:=hr.mat t et e ver' B9 GY l' hb;obtain⟨h1,h2⟩:=hv t et e Dk FQ My l EH;refine⟨D2 h1 BS,λhe=>?_⟩;have:Dk=ver':=IM BS (he▸h1);obtain⟨q1,q2⟩:=DY this;rw[q1,q2];exact h2 (he.trans this.symm)
 |.mptr b Ah i j o,_,⟨sv,Ac,ad,h,he,hv⟩=>by obtain⟨Bd,B6,h',hr⟩:=hx.rows _ _ _ h;refine⟨Bd,B6,ad,h',he,λt et e ver' B9 GY l' hb=>?_⟩;obtain⟨Dk,FQ,My,l,EH,_,BS,_,DY⟩:=hr.mat t et e ver' B9 GY l' hb;obtain⟨h1,h2⟩:=hv t et e Dk FQ My l EH;refine⟨D2 h1 BS,λhe=>?_⟩;have hi:FQ=B9:=IM BS (he▸h1);obtain⟨q1,q2⟩:=DY hi;obtain⟨s,x,h3,h4,h5,h6⟩:=h2 (he.trans hi.symm);obtain⟨x',h7,h8⟩:=Apd q2 h3;rw[q1];exact⟨s,x',h7,h4,by rw[h8];exact h5,h6⟩
 |.eptr b ver i o,_,⟨sv,Ac,ad,h,he,hv⟩=>by obtain⟨Bd,B6,h',hr⟩:=hx.rows _ _ _ h;refine⟨Bd,B6,ad,h',he,λt e ver' l' hb=>?_⟩;obtain⟨Dk,l,EH,BS,DY⟩:=hr.row t e ver' l' hb;obtain⟨h1,h2⟩:=hv t e Dk l EH;refine⟨D2 h1 BS,λhe=>?_⟩;have:Dk=ver':=IM BS (he▸h1);obtain⟨q1,q2⟩:=DY this;rw[q1,q2];exact h2 (he.trans this.symm)
 |.arr _ _ _ _,_,⟨g,h,e⟩=>⟨g,hx.cells _ _ h,e⟩
 |.lptr e x o,_,⟨xs,ad,h,hv,hc⟩=>by
  refine⟨xs,ad,h.mono hx.heap,hv,λj u hj=>?_⟩;obtain⟨h1,h2⟩:=hc j u hj;have hb:E.ok (ad.add j).block:=by rw[LE];exact h1
  obtain⟨o',c'⟩:=hx.heap.cell hb h2;rw[LE]at o';exact⟨o',c'⟩
theorem kD{w w':World}{b b':Nat}{t:TypeId}{size:Nat}{v:Value}{n:Nat}{xs:List Value}(hb:b'<=b)(hg:∀g,v.ownBlock=some g->w'.heap[g]?=w.heap[g]?)(h:w.ownsRow b t size v n xs):w'.ownsRow b' t size v n xs:=by
 refine⟨h.1,?_⟩;rcases h.2 with h3|⟨g,cap,AP,rfl,Aj,hh,r⟩
 ·exact .inl h3
 ·exact .inr ⟨g,cap,AP,rfl,D2 hb Aj,(hg g rfl).trans hh,r⟩
theorem Placed.mem{t:TypeId}{e:OT}{l:List e.ty.den}{hole:Option Path}{F:List Value}{Ac:List (Option Value)}(h:Placed t e l hole F Ac){s:Value}:s∈F↔some s∈Ac:=by
 cases hole with
 |none=>have h:Ac=F.map some:=h;rw[h];simp
 |some P=>obtain⟨n,G1,G2,_,e1,_,e3⟩:=h;rw[e1,e3];simp[List.mem_replicate]
theorem Placed.has{t:TypeId}{e:OT}{l:List e.ty.den}{hole:Option Path}{F:List Value}{sv:Value}{Ac:List (Option Value)}(h:Placed t e l hole F (some sv::Ac)){s:Value}(hs:s∈F){g:Nat}(hg:s.ownBlock=some g):(Pl.row sv Ac).has g:=by
 rcases Bw.1 (h.mem.1 hs)with h1|h1
 ·injection h1 with h1
  exact .inl (h1▸hg)
 ·obtain⟨i,hi⟩:=Qh.1 h1
  exact .inr ⟨i,s,hi,hg⟩
theorem Placed.of_has{t:TypeId}{e:OT}{l:List e.ty.den}{hole:Option Path}{F:List Value}{sv:Value}{Ac:List (Option Value)}(h:Placed t e l hole F (some sv::Ac)){g:Nat}(hg:(Pl.row sv Ac).has g):∃s∈F,s.ownBlock=some g:=by
 rcases hg with hg|⟨i,s,hs,hg⟩
 ·exact⟨sv,h.mem.2 (CW ..),hg⟩
 ·exact⟨s,h.mem.2 (BY _ (Dg hs)),hg⟩
theorem FRep.mono(hx:Ext E E'):∀{l:List (List UInt8×(FuncId×Nat))}{es:List MapEntry},FRep E l es->FRep E' l es
 |[],_,h=>h
 |_::_,_,⟨e,r,g,h1,h2,h3,h4,h5⟩=>⟨e,r,g,h1,h2,hx.cells _ _ h3,h4,FRep.mono hx h5⟩
theorem BRep.mono(hx:Ext E E'){B:Blk}{p:Pl}(h:BRep E B p)(hg:∀g,p.has g->E'.w.heap[g]?=E.w.heap[g]?):BRep E' B p:=by
 cases B with
 |dead=>exact trivial
 |cells t cs=>
  cases p with
  |row _ _=>exact h.elim
  |cells g=>obtain⟨vs,h1,h2⟩:=h;exact⟨vs,(hg g rfl).trans h1,h2.mono hx⟩
 |map t k v vg l=>
  cases p with
  |row _ _=>exact h.elim
  |cells g=>obtain⟨es,CU,h1,h2⟩:=h;exact⟨es,CU,(hg g rfl).trans h1,h2.mono (λ_ _ h=>h.mono hx.heap) (λ_ _ h=>h.mono hx.heap)⟩
 |fmap t l=>
  cases p with
  |row _ _=>exact h.elim
  |cells g=>obtain⟨es,CU,h1,h2⟩:=h;exact⟨es,CU,(hg g rfl).trans h1,h2.mono hx⟩
 |row t e ver l=>
  cases p with
  |cells _=>exact h.elim
  |row sv Ac=>obtain⟨h0,xs,h1,h2⟩:=h;exact⟨h0,xs,h1.mono λx u hu=>hu.mono hx.heap,kD hx.base (λg FN=>hg g (.inl FN)) h2⟩
 |mat t et e ver Ah hole l=>
  cases p with
  |cells _=>exact h.elim
  |row sv Ac=>have h:MatOk E t et e hole l sv Ac:=h;obtain⟨vs,h1,h2⟩:=h.outer;refine⟨⟨vs,kD hx.base (λg FN=>hg g (.inl FN)) h1,h2⟩,h.len,h.hole,λi s x hs hl=>?_,h.sep0,h.sep⟩;obtain⟨xs,h3,h4⟩:=h.inner i s x hs hl;exact⟨xs,h3.mono λx u hu=>hu.mono hx.heap,kD hx.base (λg FN=>hg g (.inr ⟨i,s,hs,FN⟩)) h4⟩
 |tree t e ver Ah hole l=>
  cases p with
  |cells _=>exact h.elim
  |row sv Ac=>have h:TreeOk E t e hole l sv Ac:=h;obtain⟨hv,F,h1,h2,h3⟩:=h.rep;exact⟨⟨hv,F,h1.mono hx.base hx.heap λs hs g FN=>hg g (Placed.has h2 hs FN),h2,h3⟩,h.top⟩
end
theorem CReps.length{E:Env}:∀{cs:List C}{vs:List Value},CReps E cs vs->vs.length=cs.length
 |[],_,h=>by simp only[CReps]at h;simp[h]
 |_::_,_,⟨_,_,e,_,ht⟩=>by rw[e,AX,AX,CReps.length ht]
theorem CRep.oneCell{E:Env}{c:C}{v:Value}(h:CRep E c v):v.oneCell'=true:=by
 cases c with
 |list e l=>exact DRep.oneCell h v (by simp)
 |lsome e l=>exact DRep.oneCell h.1 v (by simp)
 |nilc=>obtain⟨c,rfl⟩:=h;rfl
 |ptr b o=>obtain⟨g,_,rfl⟩:=h;rfl
 |bself b=>rcases h with rfl|⟨g,_,rfl⟩<;>rfl
 |fn f BN=>obtain⟨gs,_,rfl⟩:=h;rfl
 |mapv b=>obtain⟨g,_,rfl⟩:=h;rfl
 |bfn f b=>obtain⟨g,_,rfl⟩:=h;rfl
 |tptr b ver p i o=>obtain⟨_,_,ad,_,rfl,_⟩:=h;rfl
 |row b ver=>exact h.1
 |mat b ver=>exact h.1
 |mrow b Ah i=>exact h.1
 |sub b ver i j=>exact h.1
 |trow b ver p=>exact h.1
 |junk=>exact h
 |bool _=>simp only[CRep]at h;subst h;rfl
 |int _ _=>simp only[CRep]at h;subst h;rfl
 |str _=>simp only[CRep]at h;subst h;rfl
 |err _=>exact errRep.one h
 |nils=>simp only[CRep]at h;subst h;rfl
 |nilp=>simp only[CRep]at h;subst h;rfl
 |nilfn=>simp only[CRep]at h;subst h;rfl
end Go.Lift
namespace Go.Lift
noncomputable section
noncomputable def look{α:Type}(l:List (Nat×α))(i:Nat):Option α:=List.rec (motive:=λ_=>Option α) none (λp _ ih=>Bool.rec (motive:=λ_=>Option α) ih (some p.2) (Nat.beq i p.1)) l
theorem Fc{α:Type}(i:Nat):look ([]:List (Nat×α)) i=none:=rfl
theorem EQ{α:Type}(j:Nat)(x:α)(r:List (Nat×α))(i:Nat):look ((j,x)::r) i=bif Nat.beq i j then some x else look r i:=by show(Bool.rec (motive:=λ_=>Option α) (look r i) (some x) (Nat.beq i j):Option α)=_;cases Nat.beq i j<;>rfl
noncomputable def put{α:Type}(l:List (Nat×α))(i:Nat)(x:α):List (Nat×α):=List.rec (motive:=λ_=>List (Nat×α)) [(i,x)] (λp r ih=>Bool.rec (motive:=λ_=>List (Nat×α)) ((i,x)::p::r) (Bool.rec (motive:=λ_=>List (Nat×α)) (p::ih) ((i,x)::r) (Nat.beq i p.1)) (Nat.ble p.1 i)) l
theorem Aca{α:Type}(i:Nat)(x:α):put ([]:List (Nat×α)) i x=[(i,x)]:=rfl
theorem Acb{α:Type}(j:Nat)(y:α)(r:List (Nat×α))(i:Nat)(x:α):put ((j,y)::r) i x=bif Nat.blt i j then(i,x)::(j,y)::r else bif Nat.beq i j then(i,x)::r else(j,y)::put r i x:=by
 have e:Nat.blt i j=!Nat.ble j i:=by
  by_cases h:i<j
  ·have h1:Nat.blt i j=true:=by rw[Nat.blt_eq];exact h
   have h2:Nat.ble j i=false:=by
    cases h2:Nat.ble j i with
    |false=>rfl
    |true=>exact absurd (HQ h2) (Nat.not_le.2 h)
   rw[h1,h2];rfl
  ·have h1:Nat.blt i j=false:=by
    cases h1:Nat.blt i j with
    |false=>rfl
    |true=>rw[Nat.blt_eq]at h1;exact absurd h1 h
   have h2:Nat.ble j i=true:=Nat.ble_eq_true_of_le (Nat.not_lt.1 h);rw[h1,h2];rfl
 rw[e];show(Bool.rec (motive:=λ_=>List (Nat×α)) ((i,x)::(j,y)::r) (Bool.rec (motive:=λ_=>List (Nat×α)) ((j,y)::put r i x) ((i,x)::r) (Nat.beq i j)) (Nat.ble j i):List (Nat×α))=_;cases Nat.ble j i<;>cases Nat.beq i j<;>rfl
def puts{α:Type}:List (Nat×α)->List (Nat×α)->List (Nat×α)
 |l,[]=>l
 |l,(i,x)::r=>puts (put l i x) r
theorem Io{i j:Nat}(h:¬i=j):Nat.beq i j=false:=by
 cases hb:Nat.beq i j with
 |false=>rfl
 |true=>exact absurd (Az hb) h
theorem Of(i:Nat):Nat.beq i i=true:=Nat.beq_refl i
theorem Yg{α:Type}(l:List (Nat×α))(i:Nat)(x:α)(j:Nat):look (put l i x) j=if j=i then some x else look l j:=by
 induction l with
 |nil=>
  simp only[Aca,Acb,Fc,EQ];by_cases h:j=i
  ·subst h;simp
  ·simp[h,Io h]
 |cons p r ih=>
  obtain⟨k,y⟩:=p;simp only[Aca,Acb];cases h1:Nat.blt i k
  ·cases h2:Nat.beq i k
   ·simp only[Cd,Fc,EQ,ih]
    by_cases h:j=i
    ·subst h;simp[h2]
    ·simp[h]
   ·have:i=k:=Az h2
    subst this;simp only[Cd,Ar,Fc,EQ];by_cases h:j=i
    ·subst h;simp
    ·simp[h,Io h]
  ·simp only[Ar,Fc,EQ]
   by_cases h:j=i
   ·subst h;simp
   ·simp[h,Io h]
inductive BK where
 |b|i|s
structure TI where
 agg:Bool
 size:Nat
 bytes:Nat
 zero:List C
 flds:List (Nat×Nat×Bool)
 elem:Option TypeId
 len:Option Nat
 ty:Option Ty
 kind:Option IntKind
 isBool:Bool
 isStr:Bool
 eqs:Option (List BK)
 mp:Option (TypeId×TypeId)
 ptr:Bool
inductive CT where
 |data (τ:Ty)
 |ptr (b o:Nat)
 |rowh (b:Nat)
 |fn (f:FuncId) (BN:List Nat)
 |maph (b:Nat)
 |math (b:Nat)
 |bself (b:Nat)
 |bfnh (f:FuncId) (b:Nat)
 |trowh (b:Nat)
 |tptrh (b:Nat) (ks:List Nat) (o:Nat)
 |nilc
 |nils
 |lsome (e:Ty)
 |junk
inductive BT where
 |cells (t:TypeId) (l:List CT)
 |row (t:TypeId) (e:Ty)
 |map (t:TypeId) (k v:Ty) (vg:Bool)
 |mat (t et:TypeId) (e:Ty)
 |tree (t:TypeId) (e:OT)
 |fmap (t:TypeId) (l:List (List UInt8×(FuncId×Nat)))
@[reducible] def WayT:List Nat->Type
 |[]=>Nat
 |_::r=>Nat×WayT r
@[reducible] def CT.dens:List CT->Type
 |[]=>Unit
 |.tptrh _ ks _::r=>WayT ks×CT.dens r
 |.data τ::r=>τ.den×CT.dens r
 |.lsome e::r=>List e.den×CT.dens r
 |.ptr _ _::r|.rowh _::r|.fn _ _::r|.maph _::r|.math _::r|.bself _::r|.bfnh _ _::r|.trowh _::r|.nilc::r|.nils::r|.junk::r=>CT.dens r
@[reducible] def ST.dens:List (Bool×List CT)->Type
 |[]=>Unit
 |t::r=>CT.dens t.2×ST.dens r
@[reducible] def BT.dens:List BT->Type
 |[]=>Unit
 |.cells _ l::r=>CT.dens l×BT.dens r
 |.row _ e::r=>List e.den×BT.dens r
 |.map _ k v _::r=>List (k.den×v.den)×BT.dens r
 |.mat _ _ e::r=>List (List e.den)×BT.dens r
 |.tree _ e::r=>List e.ty.den×BT.dens r
 |.fmap _ _::r=>BT.dens r
structure Spec where
 params:List (Bool×List CT)
 ins:List BT
 res:List (Bool×List CT)
 outs:List BT
 run:{β:Type}->ST.dens params×BT.dens ins->(ST.dens res×BT.dens outs->Option β)->Option β
structure RowF where
 t:TypeId
 e:Ty
 cut:Bool
 dom:List e.den->Bool
 run:List e.den->List e.den
 fn:Option FuncId:=none
def RowF.extra(F:RowF):List Value:=match F.fn with|none=>[]|some g=>[.func (.func g) #[] #[]]
structure BldF where
 t:TypeId
 te:TypeId
 op:Nat
structure AbsF where
 run:{β:Type}->(Nat->Option Blk)->Nat->List V->(V->List Nat->List (Nat×Blk)->Option β)->Option β
inductive Fun where
 |spec (S:Spec)
 |rows (F:RowF)
 |bld (F:BldF)
 |abs (A:AbsF)
structure Ctx where
 T:TypeId->Option TI
 Γ:FuncId->Option Fun
 M:Bool
 R:Bool
 D:Bool
 S:Bool
 O:List (TypeId×OT)
 A:Option (List Nat)
 N:Nat
 L:List (TypeId×List Nat)
def memB(x:Nat):List Nat->Bool
 |[]=>false
 |y::r=>Nat.beq x y||memB x r
def Jy:List Nat->Bool
 |[]=>true
 |x::r=>!memB x r&&Jy r
def cells:(τ:Ty)->τ.den->List C
 |.bool,b=>[.bool b]
 |.int k,n=>[.int k n]
 |.str,s=>[.str s]
 |.err,b=>[.err b]
 |.unit,_=>[]
 |.prod a b,x=>cells a x.1++cells b x.2
 |.slice e,l=>[.list e l]
def Ip(bl:Nat->Option Blk)(b ver:Nat)(e:Ty):Option (List e.den):=
 match bl b with
 |some (.row _ e' ver' l)=>bif Nat.beq ver ver' then(if h:e'=e then some (h▸l)else none)else none
 |_=>none
def IP:(o:OT)->o.ty.den->Nat->Path->Option EP
 |.d _,_,_,_=>none
 |.p a b,x,k,p=>bif Nat.blt k a.ty.size then IP a x.1 k p else IP b x.2 (k-a.ty.size) p
 |.r t e,l,0,[]=>some ⟨(t,e),l⟩
 |.r _ e,l,0,(i,k)::p=>IP e ((l:List e.ty.den).getD i e.ty.dflt) k p
 |.r _ _,_,_+1,_=>none
def setD:(o:OT)->o.ty.den->Nat->Path->(e':OT)->List e'.ty.den->o.ty.den
 |.d _,x,_,_,_,_=>x
 |.p a b,x,k,p,e',y=>bif Nat.blt k a.ty.size then(setD a x.1 k p e' y,x.2)else(x.1,setD b x.2 (k-a.ty.size) p e' y)
 |.r _ e,l,0,[],e',y=>if h:e'=e then(h▸y:List e.ty.den)else l
 |.r _ e,l,0,(i,k)::p,e',y=>(List.set l i (setD e ((l:List e.ty.den).getD i e.ty.dflt) k p e' y):List e.ty.den)
 |.r _ _,l,_+1,_,_,_=>l
def Qp(b ver:Nat)(p:Path)(i:Nat):Nat->(o:OT)->o.ty.den->List C
 |_,.d τ,x=>cells τ x
 |k,.p a c,x=>Qp b ver p i k a x.1++Qp b ver p i (k+a.ty.size) c x.2
 |k,.r _ _,_=>[.trow b ver (p++[(i,k)])]
def Qq(bl:Nat->Option Blk)(b ver:Nat)(p:Path):Option ((te:TypeId×OT)×(List te.2.ty.den×(Nat×(Nat×EP)))):=
 match bl b with
 |some (.tree t e ver' Ah none l)=>
  bif Nat.beq ver (tv ver' Ah p)then
   match IP (.r t e) l 0 p with
   |some n=>some ⟨(t,e),l,ver',Ah,n⟩
   |none=>none
  else none
 |_=>none
def S5(bl:Nat->Option Blk)(b ver:Nat)(e:Ty):Option (List e.den):=
 match bl b with
 |some (.tree _ o ver' _ none l)=>bif Nat.beq ver ver' then(if h:o.ty=e then some (h▸l)else none)else none
 |_=>none
def pack(bl:Nat->Option Blk):(τ:Ty)->List C->Option (τ.den×List C)
 |.bool,.bool b::r=>some (b,r)
 |.int k,.int k' n::r=>if k=k' then some (n,r)else none
 |.str,.str s::r=>some (s,r)
 |.err,.err b::r=>some (b,r)
 |.unit,r=>some ((),r)
 |.prod a b,r=>
  match pack bl a r with
  |none=>none
  |some (x,r1)=>
   match pack bl b r1 with
   |none=>none
   |some (y,r2)=>some ((x,y),r2)
 |.slice e,.nils::r=>some (([]:List e.den),r)
 |.slice e,.list e' l::r=>if h:e'=e then some ((h▸l:List e.den),r)else none
 |.slice e,.row b ver::r=>
  match Ip bl b ver e with
  |none=>none
  |some l=>some (l,r)
 |.slice e,.sub b ver i j::r=>
  match Ip bl b ver e with
  |none=>none
  |some l=>some ((l.take j).drop i,r)
 |.slice e,.trow b ver []::r=>
  match S5 bl b ver e with
  |none=>none
  |some l=>some (l,r)
 |_,_=>none
def KH(bl:Nat->Option Blk)(τ:Ty)(cs:List C):Option τ.den:=
 match pack bl τ cs with
 |some (x,[])=>some x
 |_=>none
def CA:List C->List Nat
 |[]=>[]
 |.row b _::r=>b::CA r
 |.sub b _ _ _::r=>b::CA r
 |.mat b _::r=>b::CA r
 |.trow b _ _::r=>b::CA r
 |_::r=>CA r
def V.cells:V->Option (List C)
 |.c x=>some [x]
 |.agg cs=>some cs
 |_=>none
def V.mk(agg:Bool)(cs:List C):V:=
 bif agg then .agg cs else
  match cs with
  |[x]=>.c x
  |_=>.junk
def C.ofValue:Value->Option C
 |.bool b=>some (.bool b)
 |.int k n=>some (.int k n)
 |.string s=>some (.str s.data.toList)
 |.slice none 0 0=>some .nils
 |.pointer none=>some .nilp
 |.nilFunc=>some .nilfn
 |.nilIface=>some (.err true)
 |_=>none
def C.ofValues:List Value->Option (List C)
 |[]=>some []
 |v::r=>
  match C.ofValue v,C.ofValues r with
  |some x,some xs=>some (x::xs)
  |_,_=>none
def V.ofValue:Value->V
 |.agg cs=>
  match C.ofValues cs.toList with
  |some l=>.agg l
  |none=>.junk
 |v=>
  match C.ofValue v with
  |some x=>.c x
  |none=>.junk
def over:List C->Nat->List C->Option (List C)
 |cs,0,new=>bif Nat.ble new.length cs.length then some (new++cs.drop new.length)else none
 |[],_+1,_=>none
 |c::cs,o+1,new=>
  match over cs o new with
  |some r=>some (c::r)
  |none=>none
def sub(cs:List C)(o n:Nat):Option (List C):=
 bif Nat.ble (o+n) cs.length then some ((cs.drop o).take n)else none
def ival:V->Option (IntKind×Int)
 |.c (.int k n)=>some (k,n)
 |_=>none
section
variable{β:Type}
abbrev K(β:Type):=V->List Nat->List (Nat×Blk)->Option β
def D8(c:Bool)(x:Option β):Option β:=cond c x none
def Jz(op:BinOp)(k:IntKind)(a b:Int):Int:=
 match op with
 |.and=>k.wrap ((BitVec.ofInt k.bits a&&&BitVec.ofInt k.bits b).toNat:Int)
 |.or=>k.wrap ((BitVec.ofInt k.bits a|||BitVec.ofInt k.bits b).toNat:Int)
 |.xor=>k.wrap ((BitVec.ofInt k.bits a ^^^ BitVec.ofInt k.bits b).toNat:Int)
 |_=>k.wrap ((BitVec.ofInt k.bits a&&&~~~BitVec.ofInt k.bits b).toNat:Int)
def Yh(op:BinOp)(k:IntKind)(a b:Int):Int:=
 match op with
 |.shl=>k.wrap (a*2^(min b.toNat k.bits))
 |_=>a.fdiv (2^(min b.toNat k.bits))
def kE:BinOp->Bool
 |.shl|.shr=>true
 |_=>false
def Acc(op:BinOp)(k:IntKind)(a b:Int)(kk:K β):Option β:=
 match op with
 |.add=>kk (.c (.int k (k.wrap (a+b)))) [] []
 |.sub=>kk (.c (.int k (k.wrap (a-b)))) [] []
 |.mul=>kk (.c (.int k (k.wrap (a*b)))) [] []
 |.quo=>D8 (!decide (b=0)) (kk (.c (.int k (k.wrap (a.tdiv b)))) [] [])
 |.rem=>D8 (!decide (b=0)) (kk (.c (.int k (a.tmod b))) [] [])
 |.eql=>kk (.c (.bool (decide (a=b)))) [] []
 |.neq=>kk (.c (.bool (!decide (a=b)))) [] []
 |.lss=>kk (.c (.bool (decide (a<b)))) [] []
 |.leq=>kk (.c (.bool (decide (a<=b)))) [] []
 |.gtr=>kk (.c (.bool (decide (b<a)))) [] []
 |.geq=>kk (.c (.bool (decide (b<=a)))) [] []
 |.and=>kk (.c (.int k (Jz .and k a b))) [] []
 |.or=>kk (.c (.int k (Jz .or k a b))) [] []
 |.xor=>kk (.c (.int k (Jz .xor k a b))) [] []
 |.andNot=>kk (.c (.int k (Jz .andNot k a b))) [] []
 |_=>none
def Acd(op:BinOp)(a b:List UInt8)(kk:K β):Option β:=
 match op with
 |.add=>D8 (decide (a.length+b.length<=9223372036854775807)) (kk (.c (.str (a++b))) [] [])
 |.eql=>kk (.c (.bool (decide (a=b)))) [] []
 |.neq=>kk (.c (.bool (!decide (a=b)))) [] []
 |.lss=>kk (.c (.bool (Op.bytesLess a b))) [] []
 |.leq=>kk (.c (.bool (Op.bytesLess a b||decide (a=b)))) [] []
 |.gtr=>kk (.c (.bool (!(Op.bytesLess a b||decide (a=b))))) [] []
 |.geq=>kk (.c (.bool (!Op.bytesLess a b))) [] []
 |_=>none
def Cx:List BK->List C->List C->Option Bool
 |[],[],[]=>some true
 |.b::k,.bool a::r,.bool b::s=>
  match Cx k r s with
  |some q=>some ((a==b)&&q)
  |none=>none
 |.i::k,.int ka a::r,.int kb b::s=>
  if ka=kb then
   match Cx k r s with
   |some q=>some (decide (a=b)&&q)
   |none=>none
  else none
 |.s::k,.str a::r,.str b::s=>
  match Cx k r s with
  |some q=>some (decide (a=b)&&q)
  |none=>none
 |_,_,_=>none
def Yi(T:TypeId->Option TI)(op:BinOp)(t:TypeId)(b:Bool)(kk:K β):Option β:=
 match T t with
 |some ti=>
  match ti.elem,ti.len,op with
  |some _,none,.eql=>kk (.c (.bool b)) [] []
  |some _,none,.neq=>kk (.c (.bool (!b))) [] []
  |_,_,_=>none
 |none=>none
def kF(T:TypeId->Option TI)(op:BinOp)(t:TypeId)(x y:V)(kk:K β):Option β:=
 match x,y with
 |.c (.int k a),.c (.int k' b)=>
  bif kE op then D8 (decide (0<=b)) (kk (.c (.int k (Yh op k a b))) [] [])else
  if k=k' then Acc op k a b kk else none
 |.c (.str a),.c (.str b)=>Acd op a b kk
 |.c (.bool a),.c (.bool b)=>
  match T t with
  |some ti=>
   bif ti.isBool then
    match op with
    |.eql=>kk (.c (.bool (a==b))) [] []
    |.neq=>kk (.c (.bool (!(a==b)))) [] []
    |_=>none
   else none
  |none=>none
 |.agg a,.agg b=>
  match T t with
  |some ti=>
   match ti.eqs with
   |some ks=>
    match op,Cx ks a b with
    |.eql,some r=>kk (.c (.bool r)) [] []
    |.neq,some r=>kk (.c (.bool (!r))) [] []
    |_,_=>none
   |none=>none
  |none=>none
 |.c .nilc,.c .nils=>Yi T op t true kk
 |.c (.lsome _ _),.c .nils=>Yi T op t false kk
 |_,_=>none
def kG(T:TypeId->Option TI)(op:BinOp)(t:TypeId)(b:Bool)(kk:K β):Option β:=
 match T t with
 |some ti=>
  match ti.ty,ti.agg,op with
  |some .err,false,.eql=>kk (.c (.bool b)) [] []
  |some .err,false,.neq=>kk (.c (.bool (!b))) [] []
  |_,_,_=>none
 |none=>none
def Yj(T:TypeId->Option TI)(op:BinOp)(t:TypeId)(b:Bool)(kk:K β):Option β:=
 match T t with
 |some ti=>
  match ti.ptr,op with
  |true,.eql=>kk (.c (.bool b)) [] []
  |true,.neq=>kk (.c (.bool (!b))) [] []
  |_,_=>none
 |none=>none
def kH(T:TypeId->Option TI)(op:BinOp)(t:TypeId)(x y:V)(yo:Operand)(kk:K β):Option β:=
 match x,yo with
 |.c (.err b),.const .nilIface=>kG T op t b kk
 |.c .nilp,.const (.pointer none)=>Yj T op t true kk
 |.c (.tptr _ _ _ _ _),.const (.pointer none)=>Yj T op t false kk
 |_,_=>kF T op t x y kk
def MU(cells:List C):List (Nat×List C)->Option (List C)
 |[]=>some cells
 |(o,new)::r=>
  match over cells o new with
  |some cs=>MU cs r
  |none=>none
def Hf(ti:TI)(T:TypeId->Option TI):List (Nat×V)->Option (List (Nat×List C))
 |[]=>some []
 |(i,v)::r=>
  match v.cells,Hf ti T r with
  |some cs,some rest=>
   match ti.len,ti.elem with
   |some _,some e=>
    match T e with
    |some te=>bif Nat.beq cs.length te.size then some ((i*te.size,cs)::rest)else none
    |none=>none
   |_,_=>
    match ti.flds[i]? with
    |some (o,n,_)=>bif Nat.beq cs.length n then some ((o,cs)::rest)else none
    |none=>none
  |_,_=>none
def repC(n:Nat)(cs:List C):List C:=
 match n with
 |0=>[]
 |n+1=>cs++repC n cs
def J0(bl:Nat->Option Blk)(e:Ty):Nat->List C->Option (List e.den)
 |0,[]=>some []
 |0,_::_=>none
 |n+1,cs=>
  match pack bl e cs with
  |some (x,r)=>
   match J0 bl e n r with
   |some l=>some (x::l)
   |none=>none
  |none=>none
def S6(T:TypeId->Option TI)(bl:Nat->Option Blk)(t:TypeId)(p:V)(kk:K β):Option β:=
 match T t with
 |none=>none
 |some ti=>
  bif ti.agg||Nat.beq ti.size 1 then
  match p with
  |.c (.ptr b o)=>
   match bl b with
   |some (.cells _ cs)=>
    match sub cs o ti.size with
    |some r=>kk (V.mk ti.agg r) [b] []
    |none=>none
   |_=>none
  |.eptr b ver i o=>
   match bl b with
   |some (.row _ e ver' l)=>
    bif Nat.beq ver ver' then
     match sub (cells e (l.getD i e.dflt)) o ti.size with
     |some r=>kk (V.mk ti.agg r) [b] []
     |none=>none
    else none
   |_=>none
  |.lptr e x o=>
   match sub (cells e x) o ti.size with
   |some r=>kk (V.mk ti.agg r) [] []
   |none=>none
  |.c (.tptr b ver p i o)=>
   match Qq bl b ver p with
   |some a=>
    match sub (Qp b (a.2.2.1+a.2.2.2.1) p i 0 a.2.2.2.2.1.2 (a.2.2.2.2.2.getD i a.2.2.2.2.1.2.ty.dflt)) o ti.size with
    |some r=>kk (V.mk ti.agg r) [b] []
    |none=>none
   |none=>none
  |_=>none
  else none
def KI:(o:OT)->o.ty.den->Nat->List C->Option o.ty.den
 |.d τ,x,k,new=>
  match over (cells τ x) k new with
  |some r=>KH (λ_=>none) τ r
  |none=>none
 |.p a b,x,k,new=>
  bif Nat.ble (k+new.length) a.ty.size then
   match KI a x.1 k new with
   |some y=>some (y,x.2)
   |none=>none
  else bif Nat.ble a.ty.size k then
   match KI b x.2 (k-a.ty.size) new with
   |some y=>some (x.1,y)
   |none=>none
  else none
 |.r _ _,_,_,_=>none
def S7(bl:Nat->Option Blk):V->Option (Nat×EP)
 |.c (.row r rv)=>
  match bl r with
  |some (.row t e ver l)=>bif Nat.beq rv ver then some (r,⟨(t,.d e),l⟩)else none
  |_=>none
 |.c (.trow r rv [])=>
  match bl r with
  |some (.tree t e ver _ none l)=>bif Nat.beq rv ver then some (r,⟨(t,e),l⟩)else none
  |_=>none
 |_=>none
def Yk:Path->Path->Bool
 |[],[]=>true
 |(i,k)::p,(j,m)::q=>decide (i=j)&&(Nat.beq k m&&Yk p q)
 |_,_=>false
def Og(T:TypeId->Option TI)(bl:Nat->Option Blk)(t:TypeId)(p v:V)(kk:K β):Option β:=
 match T t,v.cells with
 |some ti,some new=>
  bif Nat.beq new.length ti.size then
   match p with
   |.c (.ptr b o)=>
    match bl b with
    |some (.cells t0 cs)=>
     match over cs o new with
     |some r=>kk .junk [b] [(b,.cells t0 r)]
     |none=>none
    |_=>none
   |.eptr b ver i o=>
    match bl b with
    |some (.row t0 e ver' l)=>
     bif Nat.beq ver ver' then
      match over (cells e (l.getD i e.dflt)) o new with
      |some r=>
       match KH (λ_=>none) e r with
       |some x=>kk .junk [b] [(b,.row t0 e ver' (l.set i x))]
       |none=>none
      |none=>none
     else none
    |_=>none
   |.c (.tptr b ver p i o)=>
    match bl b with
    |some (.tree t0 e ver' Ah none l)=>
     bif Nat.beq ver (tv ver' Ah p)then
      match IP (.r t0 e) l 0 p with
      |some n=>
       match KI n.1.2 (n.2.getD i n.1.2.ty.dflt) o new with
       |some x=>kk .junk [b] [(b,.tree t0 e ver' Ah none (setD (.r t0 e) l 0 p n.1.2 (n.2.set i x)))]
       |none=>none
      |none=>none
     else none
    |some (.tree t0 e ver' Ah (some P) l)=>
     bif Nat.beq ver (tv ver' Ah p)then
      match IP (.r t0 e) l 0 P,S7 bl v with
      |some n,some (r,m)=>
       if m.1=n.1 then D8 (Yk P (p++[(i,o)])) (kk .junk [b,r] [(r,.dead),(b,.tree t0 e ver' (Ah+1) none (setD (.r t0 e) l 0 P m.1.2 m.2))])else none
      |_,_=>none
     else none
    |_=>none
   |_=>none
  else none
 |_,_=>none
def Ace(bl:Nat->Option Blk)(b:Nat):Bool:=
 match bl b with
 |some (.tree _ _ _ _ (some _) _)=>true
 |_=>false
def kI(T:TypeId->Option TI)(t:TypeId)(p:V)(f:Nat)(kk:K β):Option β:=
 match T t with
 |none=>none
 |some ti=>
  match ti.flds[f]? with
  |none=>none
  |some (off,n,_)=>
   bif Nat.beq n 0 then none else
   match p with
   |.c (.ptr b o)=>kk (.c (.ptr b (o+off))) [] []
   |.eptr b ver i o=>kk (.eptr b ver i (o+off)) [] []
   |.lptr e x o=>kk (.lptr e x (o+off)) [] []
   |.c (.tptr b ver p i o)=>kk (.c (.tptr b ver p i (o+off))) [] []
   |_=>none
def Qr(i:Int)(kk:Nat->Option β):Nat->Nat->Option β
 |_,0=>none
 |j,m+1=>cond (decide (i=(j:Int))) (kk j) (Qr i kk (j+1) m)
def Acf(bl:Nat->Option Blk)(n:Nat)(b ver:Nat)(p:Path)(i:Int)(kk:K β):Option β:=
 match p,bl b with
 |[],some (.tree _ e ver' _ (some (_::_)) l)=>
  bif Nat.beq ver ver'&&(Nat.beq e.ty.size n&&Nat.blt 0 n)then D8 (decide (0<=i)&&decide (i<(l.length:Int))) (kk (.c (.tptr b ver [] i.toNat 0)) [b] [])else none
 |_,_=>none
def kJ(T:TypeId->Option TI)(bl:Nat->Option Blk)(t:TypeId)(x ix:V)(kk:K β):Option β:=
 match ival ix with
 |none=>none
 |some (_,i)=>
  match T t with
  |none=>none
  |some ti=>
   match ti.elem,ti.len with
   |some et,none=>
    match T et with
    |none=>none
    |some te=>
     match x with
     |.c (.list e l)=>
      bif Nat.beq e.size te.size&&Nat.blt 0 te.size then D8 (decide (0<=i)&&decide (i<(l.length:Int))) (kk (.lptr e (l.getD i.toNat e.dflt) 0) [] [])else none
     |.c (.row b ver)=>
      match bl b with
      |some (.row _ e ver' l)=>
       bif Nat.beq ver ver'&&(Nat.beq e.size te.size&&Nat.blt 0 te.size)then D8 (decide (0<=i)&&decide (i<(l.length:Int))) (kk (.eptr b ver i.toNat 0) [b] [])else none
      |_=>none
     |.c (.sub b ver lo hi)=>
      match bl b with
      |some (.row _ e ver' _)=>
       bif Nat.beq ver ver'&&(Nat.beq e.size te.size&&Nat.blt 0 te.size)then D8 (decide (0<=i)&&decide (i<((hi-lo:Nat):Int))) (kk (.eptr b ver (lo+i.toNat) 0) [b] [])else none
      |_=>none
     |.c (.trow b ver p)=>
      match Qq bl b ver p with
      |some a=>bif Nat.beq a.2.2.2.2.1.2.ty.size te.size&&Nat.blt 0 te.size then D8 (decide (0<=i)&&decide (i<(a.2.2.2.2.2.length:Int))) (kk (.c (.tptr b ver p i.toNat 0)) [b] [])else none
      |none=>Acf bl te.size b ver p i kk
     |_=>none
   |some et,some n=>
    match x with
    |.c (.ptr b o)=>
     match T et with
     |some te=>Qr i (λj=>kk (.c (.ptr b (o+j*te.size))) [] []) 0 n
     |none=>none
    |.eptr b ver q o=>
     match T et with
     |some te=>Qr i (λj=>kk (.eptr b ver q (o+j*te.size)) [] []) 0 n
     |none=>none
    |_=>none
   |_,_=>none
def Iq(v:Option V)(d:Int):Option Int:=
 match v with
 |none=>some d
 |some v=>
  match ival v with
  |some (_,n)=>some n
  |none=>none
def S8(T:TypeId->Option TI)(bl:Nat->Option Blk)(t:TypeId)(x:V)(lo hi:Option V)(kk:K β):Option β:=
 match T t with
 |none=>none
 |some ti=>
  match x with
  |.c (.str s)=>
   bif ti.isStr then
    match Iq lo 0,Iq hi (s.length:Int)with
    |some a,some b=>D8 (decide (0<=a)&&(decide (a<=b)&&decide (b<=(s.length:Int)))) (kk (.c (.str ((s.take b.toNat).drop a.toNat))) [] [])
    |_,_=>none
   else none
  |.c (.list e l)=>
   match ti.elem,ti.len with
   |some et,none=>
    match T et with
    |none=>none
    |some te=>
     bif Nat.beq e.size te.size&&Nat.blt 0 te.size then
      match Iq lo 0,Iq hi (l.length:Int)with
      |some a,some b=>D8 (decide (0<=a)&&(decide (a<=b)&&decide (b<=(l.length:Int)))) (kk (.c (.list e ((l.take b.toNat).drop a.toNat))) [] [])
      |_,_=>none
     else none
   |_,_=>none
  |.c (.row bb ver)=>
   match ti.elem,ti.len with
   |some et,none=>
    match T et with
    |none=>none
    |some te=>
     match bl bb with
     |some (.row _ e ver' l)=>
      bif Nat.beq ver ver'&&(Nat.beq e.size te.size&&Nat.blt 0 te.size)then
       match Iq lo 0,Iq hi (l.length:Int)with
       |some a,some b=>D8 (decide (0<=a)&&(decide (a<=b)&&decide (b<=(l.length:Int)))) (kk (.c (.sub bb ver a.toNat b.toNat)) [bb] [])
       |_,_=>none
      else none
     |_=>none
   |_,_=>none
  |.c (.sub bb ver i j)=>
   match ti.elem,ti.len with
   |some et,none=>
    match T et with
    |none=>none
    |some te=>
     match bl bb with
     |some (.row _ e ver' _)=>
      bif Nat.beq ver ver'&&(Nat.beq e.size te.size&&Nat.blt 0 te.size)then
       match Iq lo 0,Iq hi ((j-i:Nat):Int)with
       |some a,some b=>D8 (decide (0<=a)&&(decide (a<=b)&&decide (b<=((j-i:Nat):Int)))) (kk (.c (.sub bb ver (i+a.toNat) (i+b.toNat))) [bb] [])
       |_,_=>none
      else none
     |_=>none
   |_,_=>none
  |.c (.ptr b o)=>
   match ti.elem,ti.len,lo,hi with
   |some et,some n,none,none=>
    match T et with
    |none=>none
    |some te=>
     match te.ty with
     |some e=>bif Nat.beq e.size te.size&&Nat.blt 0 n then kk (.arr b o e n) [] []else none
     |none=>none
   |_,_,_,_=>none
  |.c .nils=>
   match ti.elem,ti.len with
   |some et,none=>
    match T et with
    |none=>none
    |some _=>
     match Iq lo 0,Iq hi 0 with
     |some a,some b=>D8 (decide (0<=a)&&(decide (a<=b)&&decide (b<=(0:Int)))) (kk (.c .nils) [] [])
     |_,_=>none
   |_,_=>none
  |_=>none
def kK(T:TypeId->Option TI)(bl:Nat->Option Blk)(t:TypeId)(x:V)(hi:Option V)(kk:K β):Option β:=
 match T t with
 |none=>none
 |some ti=>
  match ti.elem,ti.len with
  |some et,none=>
   match T et with
   |none=>none
   |some te=>
    match x with
    |.c (.row b ver)=>
     match bl b with
     |some (.row t0 e ver' l)=>
      bif Nat.beq ver ver'&&(Nat.beq e.size te.size&&Nat.blt 0 te.size)then
       match Iq hi (l.length:Int)with
       |some m=>D8 (decide (0<=m)&&decide (m<=(l.length:Int))) (kk (.c (.row b (ver+1))) [b] [(b,.row t0 e (ver+1) (l.take m.toNat))])
       |none=>none
      else none
     |_=>none
    |_=>none
  |_,_=>none
def Yl:V->Bool
 |.c (.row _ _)=>true
 |_=>false
def J1(ti:TI):Bool:=
 match ti.elem,ti.len with
 |some _,none=>true
 |_,_=>false
def kL(T:TypeId->Option TI)(bl:Nat->Option Blk)(t:TypeId)(x:V)(kk:K β):Option β:=
 match T t with
 |none=>none
 |some ti=>
  match x with
  |.c (.str s)=>bif ti.isStr then kk (.c (.int .i64 (s.length:Int))) [] []else none
  |.c (.list _ l)=>bif J1 ti then kk (.c (.int .i64 (l.length:Int))) [] []else none
  |.c .nils=>bif J1 ti then kk (.c (.int .i64 0)) [] []else none
  |.c (.row b ver)=>
   match bl b with
   |some (.row _ _ ver' l)=>bif Nat.beq ver ver'&&J1 ti then kk (.c (.int .i64 (l.length:Int))) [b] []else none
   |_=>none
  |.c (.sub b ver i j)=>
   match bl b with
   |some (.row _ _ ver' _)=>bif Nat.beq ver ver'&&J1 ti then kk (.c (.int .i64 ((j-i:Nat):Int))) [b] []else none
   |_=>none
  |.c (.trow b ver p)=>
   match Qq bl b ver p with
   |some a=>bif J1 ti then kk (.c (.int .i64 (a.2.2.2.2.2.length:Int))) [b] []else none
   |none=>none
  |.c (.mapv b)=>
   match bl b,ti.mp with
   |some (.map _ _ _ _ l),some _=>kk (.c (.int .i64 (l.length:Int))) [b] []
   |_,_=>none
  |_=>none
def FE(tk:TI):Ty->Bool
 |.bool=>tk.isBool
 |.int k=>decide (tk.kind=some k)
 |.str=>tk.isStr
 |.prod (.int _) (.int _)=>
  match tk.eqs,tk.len with
  |some [.i,.i],some 2=>true
  |_,_=>false
 |_=>false
def IQ:(k:Ty)->k.den->k.den->Bool
 |.bool,a,b=>a==b
 |.int _,a,b=>decide (a=b)
 |.str,a,b=>decide (a=b)
 |.prod (.int _) (.int _),a,b=>decide (a.1=b.1)&&decide (a.2=b.2)
 |_,_,_=>false
def IR:(k:Ty)->V->Option k.den
 |.bool,.c (.bool b)=>some b
 |.int k,.c (.int k' n)=>if k=k' then some n else none
 |.str,.c (.str s)=>some s
 |.prod (.int k) (.int k2),.agg [.int j n,.int j2 n2]=>if k=j/\k2=j2 then some (n,n2)else none
 |_,_=>none
def mGet(k:Ty){δ:Type}:List (k.den×δ)->k.den->δ->δ
 |[],_,d=>d
 |y::r,x,d=>bif IQ k y.1 x then y.2 else mGet k r x d
def mHas(k:Ty){δ:Type}:List (k.den×δ)->k.den->Bool
 |[],_=>false
 |y::r,x=>bif IQ k y.1 x then true else mHas k r x
def mPut(k:Ty){δ:Type}:List (k.den×δ)->k.den->δ->List (k.den×δ)
 |[],x,v=>[(x,v)]
 |y::r,x,v=>bif IQ k y.1 x then(x,v)::r else y::mPut k r x v
def kM(T:TypeId->Option TI)(ti:TI)(cs:List C)(i:Int)(kk:K β):Option β:=
 match ti.elem,ti.len with
 |some et,some n=>
  match T et with
  |some te=>
   match te.ty with
   |some e=>
    match J0 (λ_=>none) e n cs with
    |some l=>bif Nat.beq e.size te.size&&(te.agg||Nat.beq te.size 1)then D8 (decide (0<=i)&&decide (i<(l.length:Int))) (kk (V.mk te.agg (cells e (l.getD i.toNat e.dflt))) [] [])else none
    |none=>none
   |none=>none
  |none=>none
 |_,_=>none
def kN(T:TypeId->Option TI)(bl:Nat->Option Blk)(nx:Nat)(t:TypeId)(kk:K β):Option β:=
 match T t with
 |none=>none
 |some ti=>
  match ti.mp with
  |none=>none
  |some (kt,vt)=>
   match T kt,T vt with
   |some tk,some tv=>
    match tk.ty,tv.ty,bl nx with
    |some .str,none,none=>kk (.c (.mapv nx)) [nx] [(nx,.fmap t [])]
    |some k,some v,none=>bif FE tk k then kk (.c (.mapv nx)) [nx] [(nx,.map t k v tv.agg [])]else none
    |_,_,_=>none
   |_,_=>none
def fHas:List (List UInt8×(FuncId×Nat))->List UInt8->Bool
 |[],_=>false
 |x::r,s=>decide (x.1=s)||fHas r s
def Oh(kk:FuncId×Nat->Option β):List (List UInt8×(FuncId×Nat))->List UInt8->Option β
 |[],_=>none
 |x::r,s=>cond (decide (x.1=s)) (kk x.2) (Oh kk r s)
def fKey(T:TypeId->Option TI)(t:TypeId):Bool:=
 match T t with
 |some ti=>
  match ti.mp with
  |some (kt,_)=>
   match T kt with
   |some tk=>FE tk .str
   |none=>false
  |none=>false
 |none=>false
def kO(T:TypeId->Option TI)(bl:Nat->Option Blk)(t:TypeId)(x ix:V)(commaOk:Bool)(kk:K β):Option β:=
 bif fKey T t then
 match x,ix,commaOk with
 |.c (.mapv b),.c (.str s),false=>
  match bl b with
  |some (.fmap _ l)=>Oh (λy=>kk (.c (.bfn y.1 y.2)) [b] []) l s
  |_=>none
 |_,_,_=>none
 else none
def kP(T:TypeId->Option TI)(bl:Nat->Option Blk)(t:TypeId)(x ix y:V)(kk:K β):Option β:=
 bif fKey T t then
 match x,ix,y with
 |.c (.mapv b),.c (.str s),.c (.bfn f rb)=>
  match bl b with
  |some (.fmap t l)=>D8 (!fHas l s) (kk .junk [b] [(b,.fmap t (l++[(s,(f,rb))]))])
  |_=>none
 |_,_,_=>none
 else none
def Acg(bl:Nat->Option Blk):V->Bool
 |.c (.mapv b)=>
  match bl b with
  |some (.fmap _ _)=>true
  |_=>false
 |_=>false
def kQ(T:TypeId->Option TI)(bl:Nat->Option Blk)(t:TypeId)(x ix:V)(commaOk:Bool)(kk:K β):Option β:=
 match T t with
 |none=>none
 |some ti=>
  match ti.mp with
  |none=>none
  |some (kt,vt)=>
   match T kt,T vt with
   |some tk,some tv=>
    match x with
    |.c (.mapv b)=>
     match bl b with
     |some (.map _ k v vg l)=>
      bif FE tk k&&(vg||Nat.beq v.size 1)&&(vg==tv.agg)then
       match IR k ix,KH (λ_=>none) v tv.zero with
       |some key,some z=>
        kk (bif commaOk then .tup [(vg,cells v (mGet k l key z)),(false,[.bool (mHas k l key)])]else V.mk vg (cells v (mGet k l key z))) [b] []
       |_,_=>none
      else none
     |_=>none
    |_=>none
   |_,_=>none
def S9:V->Option Bool
 |.c _=>some false
 |.agg _=>some true
 |_=>none
def kR(T:TypeId->Option TI)(bl:Nat->Option Blk)(t:TypeId)(x ix y:V)(kk:K β):Option β:=
 match T t with
 |none=>none
 |some ti=>
  match ti.mp with
  |none=>none
  |some (kt,_)=>
   match T kt with
   |none=>none
   |some tk=>
    match x,y.cells with
    |.c (.mapv b),some cs=>
     match bl b with
     |some (.map t' k v vg l)=>
      bif FE tk k&&decide (S9 y=some vg)then
       match IR k ix,KH (λ_=>none) v cs with
       |some key,some z=>kk .junk [b] [(b,.map t' k v vg (mPut k l key z))]
       |_,_=>none
      else none
     |_=>none
    |_,_=>none
def Bl:Nat:=140737488355328
def Qs(bl:Nat->Option Blk)(e:Ty):V->Option (List e.den×List Nat)
 |.c .nils=>some ([],[])
 |.c (.list e' l)=>if h:e'=e then some (h▸l,[])else none
 |.c (.lsome e' l)=>if h:e'=e then some (h▸l,[])else none
 |.c (.row b ver)=>(Ip bl b ver e).map λl=>(l,[b])
 |.c (.sub b ver i j)=>(Ip bl b ver e).map λl=>((l.take j).drop i,[b])
 |_=>none
def kS(T:TypeId->Option TI)(bl:Nat->Option Blk)(t:TypeId)(x y:V)(kk:K β):Option β:=
 match T t with
 |none=>none
 |some ti=>
  match ti.elem,ti.len with
  |some et,none=>
   match T et with
   |none=>none
   |some te=>
    match te.ty with
    |none=>none
    |some e=>
     bif Nat.beq e.size te.size&&Nat.blt 0 te.size then
     match Qs bl e y with
     |none=>none
     |some (new,rd)=>
      match x with
      |.c (.sub b ver i j)=>
       match bl b with
       |some (.row t0 e0 ver' l)=>
        bif Nat.beq ver ver' then
         if h:e0=e then
          kk (.c (.int .i64 ((Nat.min new.length (j-i):Nat):Int))) (b::rd) [(b,.row t0 e ver' ((h▸l:List e.den).take i++(new.take (j-i)++(h▸l:List e.den).drop (i+Nat.min new.length (j-i)))))]
         else none
        else none
       |_=>none
      |.c (.row b ver)=>
       match bl b with
       |some (.row t0 e0 ver' l)=>
        bif Nat.beq ver ver' then
         if h:e0=e then
          kk (.c (.int .i64 ((Nat.min new.length l.length:Nat):Int))) (b::rd) [(b,.row t0 e ver' (new.take l.length++(h▸l:List e.den).drop (Nat.min new.length l.length)))]
         else none
        else none
       |_=>none
      |_=>none
     else none
  |_,_=>none
def kT(T:TypeId->Option TI)(bl:Nat->Option Blk)(t:TypeId)(x:V)(kk:K β):Option β:=
 match T t with
 |none=>none
 |some ti=>
  match ti.elem,ti.len with
  |some et,none=>
   match T et with
   |none=>none
   |some te=>
    match te.ty with
    |none=>none
    |some e=>
     bif Nat.beq e.size te.size&&Nat.blt 0 te.size then
     match KH (λ_=>none) e te.zero with
     |none=>none
     |some z=>
      match x with
      |.c (.sub b ver i j)=>
       match bl b with
       |some (.row t0 e0 ver' l)=>
        bif Nat.beq ver ver' then
         if h:e0=e then kk (.tup []) [b] [(b,.row t0 e ver' ((h▸l:List e.den).take i++(List.replicate (j-i) z++(h▸l:List e.den).drop j)))]
         else none
        else none
       |_=>none
      |_=>none
     else none
  |_,_=>none
def kU(T:TypeId->Option TI)(t:TypeId)(x:V)(kk:K β):Option β:=
 match T t with
 |none=>none
 |some ti=>
  match ti.elem,ti.len,x with
  |some _,none,.c .nils=>kk (.c (.int .i64 0)) [] []
  |_,_,_=>none
def kV(T:TypeId->Option TI)(bl:Nat->Option Blk)(nx:Nat)(t:TypeId)(x y:V)(kk:K β):Option β:=
 match T t with
 |none=>none
 |some ti=>
  match ti.elem,ti.len with
  |some et,none=>
   match T et with
   |none=>none
   |some te=>
    match te.ty with
    |none=>none
    |some e=>
     bif Nat.beq e.size te.size&&(Nat.blt 0 te.size&&Nat.blt 0 te.bytes)then
     match Qs bl e y with
     |none=>none
     |some (new,rd)=>
      match x with
      |.c .nils=>
       match bl nx with
       |none=>D8 (decide (new.length*te.bytes<=Bl)) (kk (.c (.row nx 0)) (nx::rd) [(nx,.row et e 0 new)])
       |some _=>none
      |.c (.row b ver)=>
       match bl b with
       |some (.row t0 e0 ver' l)=>
        bif Nat.beq ver ver'&&Nat.beq t0 et then
         if h:e0=e then D8 (decide (((l.length+new.length)*te.bytes)<=Bl)) (kk (.c (.row b (ver+1))) (b::rd) [(b,.row t0 e (ver+1) ((h▸l)++new))])
         else none
        else none
       |_=>none
      |_=>none
     else none
  |_,_=>none
def srcT(bl:Nat->Option Blk)(t:TypeId)(e:OT)(y:V):Option (List e.ty.den×(List Nat×List Nat)):=
 match e with
 |.d τ=>
  match Qs bl τ y with
  |some z=>some (z.1,z.2,[])
  |none=>none
 |e=>
  match S7 bl y with
  |some (r,m)=>if h:m.1=(t,e)then some ((show m.1.2=e from Ax (·.2) h)▸m.2,[r],[r])else none
  |none=>none
def dead:List Nat->List (Nat×Blk)
 |[]=>[]
 |i::r=>(i,.dead)::dead r
def Ym:V->Bool
 |.c (.trow _ _ _)=>true
 |_=>false
def kW(X:List (TypeId×OT))(T:TypeId->Option TI)(bl:Nat->Option Blk)(nx:Nat)(t:TypeId)(x y:V)(kk:K β):Option β:=
 match T t with
 |none=>none
 |some ti=>
  match ti.elem,ti.len with
  |some et,none=>
   match T et with
   |none=>none
   |some te=>
    match x with
    |.c .nils=>
     match look X et with
     |none=>none
     |some e=>
      bif Nat.beq e.ty.size te.size&&(Nat.blt 0 te.size&&Nat.blt 0 te.bytes)then
       match srcT bl et e y,bl nx with
       |some (new,rd,dd),none=>D8 (decide (new.length*te.bytes<=Bl)) (kk (.c (.trow nx 0 [])) (nx::rd) (dead dd++[(nx,.tree et e 0 0 none new)]))
       |_,_=>none
      else none
    |.c (.trow b ver [])=>
     match bl b with
     |some (.tree t0 e ver' Ah none l)=>
      bif Nat.beq ver ver'&&(Nat.beq t0 et&&(Nat.beq e.ty.size te.size&&(Nat.blt 0 te.size&&Nat.blt 0 te.bytes)))then
       match srcT bl t0 e y with
       |some (new,rd,dd)=>D8 (!memB b rd&&decide (((l.length+new.length)*te.bytes)<=Bl)) (kk (.c (.trow b (ver'+1) [])) (b::rd) (dead dd++[(b,.tree t0 e (ver'+1) Ah none (l++new))]))
       |none=>none
      else none
     |_=>none
    |.c (.trow b ver (i::q))=>
     match Qq bl b ver (i::q)with
     |none=>none
     |some a=>
      bif Nat.beq a.2.2.2.2.1.1 et&&(Nat.beq a.2.2.2.2.1.2.ty.size te.size&&(Nat.blt 0 te.size&&Nat.blt 0 te.bytes))then
       match srcT bl a.2.2.2.2.1.1 a.2.2.2.2.1.2 y,bl nx with
       |some (new,rd,dd),none=>
        D8 (!memB b rd&&decide (((a.2.2.2.2.2.length+new.length)*te.bytes)<=Bl)) (kk (.c (.trow nx 0 [])) (nx::b::rd) (dead dd++[(b,.tree a.1.1 a.1.2 a.2.2.1 a.2.2.2.1 (some (i::q)) a.2.1),(nx,.tree a.2.2.2.2.1.1 a.2.2.2.2.1.2 0 0 none (a.2.2.2.2.2++new))]))
       |_,_=>none
      else none
    |_=>none
  |_,_=>none
def Ach(X:List (TypeId×OT))(T:TypeId->Option TI)(t:TypeId):Bool:=
 match T t with
 |some ti=>
  match ti.elem,ti.len with
  |some et,none=>
   match look X et with
   |some _=>true
   |none=>false
  |_,_=>false
 |none=>false
def LF(bl:Nat->Option Blk):(o:OT)->List C->Option (o.ty.den×(List C×List Nat))
 |.d τ,cs=>
  match pack (λ_=>none) τ cs with
  |some (x,r)=>some (x,r,[])
  |none=>none
 |.p a b,cs=>
  match LF bl a cs with
  |none=>none
  |some (x,r1,i1)=>
   match LF bl b r1 with
   |none=>none
   |some (y,r2,i2)=>some ((x,y),r2,i1++i2)
 |.r t e,c::r=>
  match c with
  |.nils=>some (([]:List e.ty.den),r,[])
  |c=>
   match S7 bl (.c c)with
   |some (b,m)=>if h:m.1=(t,e)then some ((show m.1.2=e from Ax (·.2) h)▸m.2,r,[b])else none
   |none=>none
 |.r _ _,[]=>none
def Aci(X:List (TypeId×OT))(T:TypeId->Option TI)(bl:Nat->Option Blk)(t:TypeId):List (Nat×V)->Bool
 |[(_,v)]=>
  match T t,v.cells with
  |some ti,some cs=>
   match ti.elem with
   |some et=>
    match look X et with
    |some e=>(LF bl e cs).isSome
    |none=>false
   |none=>false
  |_,_=>false
 |_=>false
def kX(X:List (TypeId×OT))(T:TypeId->Option TI)(bl:Nat->Option Blk)(nx:Nat)(t:TypeId)(n:Nat)(parts:List (Nat×V))(kk:K β):Option β:=
 match parts with
 |[(0,v)]=>
  match T t,v.cells with
  |some ti,some cs=>
   match ti.elem,ti.len with
   |some et,none=>
    match T et,look X et,bl nx with
    |some te,some e,none=>
     match LF bl e cs with
     |some (x,[],ids)=>bif Nat.beq n 1&&(Nat.beq cs.length te.size&&(Nat.beq e.ty.size te.size&&(Nat.blt 0 te.size&&(Nat.ble te.size 16777216&&Jy ids))))then kk (.c (.trow nx 0 [])) (nx::ids) (dead ids++[(nx,.tree et e 0 0 none [x])])else none
     |_=>none
    |_,_,_=>none
   |_,_=>none
  |_,_=>none
 |_=>none
def kY(T:TypeId->Option TI)(bl:Nat->Option Blk)(nx:Nat)(t u:TypeId)(x y:V)(kk:K β):Option β:=
 match T t,T u,ival y with
 |some ti,some tu,some (_,m)=>
  match x with
  |.c .nils=>
   match ti.elem,ti.len,tu.kind with
   |some et,none,some _=>
    match T et with
    |none=>none
    |some te=>
     match te.ty with
     |none=>none
     |some e=>
      match KH (λ_=>none) e te.zero,bl nx with
      |some z,none=>
       bif Nat.beq e.size te.size&&(Nat.blt 0 te.size&&Nat.blt 0 te.bytes)then
        D8 (decide (0<=m)&&decide (m.toNat*te.bytes<=Bl)) (kk (.c (.row nx 0)) [nx] [(nx,.row et e 0 (List.replicate m.toNat z))])
       else none
      |_,_=>none
   |_,_,_=>none
  |_=>none
 |_,_,_=>none
def SA(isMax:Bool)(k:IntKind):Int->List V->Option V
 |a,[]=>some (.c (.int k a))
 |a,.c (.int k' b)::r=>if k=k' then SA isMax k (bif isMax then(if b>a then b else a)else(if b<a then b else a)) r else none
 |_,_::_=>none
def Yn(isMax:Bool):List V->Option V
 |.c (.int k a)::r=>SA isMax k a r
 |_=>none
def J2:List CT->List C->List (Nat×Nat)
 |.data τ::l,cs=>J2 l (cs.drop τ.size)
 |.ptr b _::l,.ptr b' _::cs=>(b,b')::J2 l cs
 |.rowh b::l,.row b' _::cs=>(b,b')::J2 l cs
 |.fn _ BN::l,.fn _ HG::cs=>BN.zip HG++J2 l cs
 |.maph b::l,.mapv b'::cs=>(b,b')::J2 l cs
 |.bfnh _ b::l,.bfn _ b'::cs=>(b,b')::J2 l cs
 |.math b::l,.mat b' _::cs=>(b,b')::J2 l cs
 |.trowh b::l,.trow b' _ _::cs=>(b,b')::J2 l cs
 |.tptrh b _ _::l,.tptr b' _ _ _ _::cs=>(b,b')::J2 l cs
 |_::l,_::cs=>J2 l cs
 |_,_=>[]
def SB:List (Bool×List CT)->List V->List (Nat×Nat)
 |t::ts,v::vs=>
  match v.cells with
  |some cs=>J2 t.2 cs++SB ts vs
  |none=>SB ts vs
 |_,_=>[]
def SC(ps:List (Nat×Nat)):Nat->Nat->Option (List Nat)
 |_,0=>some []
 |j,n+1=>
  match look ps j,SC ps (j+1) n with
  |some b,some r=>some (b::r)
  |_,_=>none
def wayP:(ks:List Nat)->WayT ks->Path
 |[],_=>[]
 |k::r,x=>(x.1,k)::wayP r x.2
def wayI:(ks:List Nat)->WayT ks->Nat
 |[],x=>x
 |_::r,x=>wayI r x.2
def Oi(i:Nat):(ks:List Nat)->Path->Option (WayT ks)
 |[],[]=>some i
 |k::r,(j,m)::p=>
  bif Nat.beq k m then
   match Oi i r p with
   |some x=>some (j,x)
   |none=>none
  else none
 |_,_=>none
def Bx(bl:Nat->Option Blk)(ids:List Nat):(l:List CT)->List C->Option (CT.dens l)
 |[],[]=>some ()
 |.data τ::l,cs=>
  match pack bl τ cs with
  |none=>none
  |some (x,r)=>
   match Bx bl ids l r with
   |none=>none
   |some y=>some (x,y)
 |.ptr b o::l,.ptr b' o'::cs=>
  match ids[b]? with
  |some i=>bif Nat.beq i b'&&Nat.beq o o' then Bx bl ids l cs else none
  |none=>none
 |.rowh b::l,.row b' ver::cs=>
  match ids[b]? with
  |some i=>
   bif Nat.beq i b' then
    match bl b' with
    |some (.row _ _ ver' _)=>bif Nat.beq ver ver' then Bx bl ids l cs else none
    |_=>none
   else none
  |none=>none
 |.rowh b::l,.nils::cs=>
  match ids[b]? with
  |some i=>
   match bl i with
   |none=>Bx bl ids l cs
   |some _=>none
  |none=>none
 |.fn f BN::l,.fn f' HG::cs=>bif Nat.beq f f'&&decide (BN.map (ids[·]?)=HG.map some)then Bx bl ids l cs else none
 |.maph b::l,.mapv b'::cs=>
  match ids[b]? with
  |some i=>bif Nat.beq i b' then Bx bl ids l cs else none
  |none=>none
 |.math b::l,.mat b' ver::cs=>
  match ids[b]? with
  |some i=>
   bif Nat.beq i b' then
    match bl b' with
    |some (.mat _ _ _ ver' _ none _)=>bif Nat.beq ver ver' then Bx bl ids l cs else none
    |_=>none
   else none
  |none=>none
 |.math b::l,.nils::cs=>
  match ids[b]? with
  |some i=>
   match bl i with
   |none=>Bx bl ids l cs
   |some _=>none
  |none=>none
 |.trowh b::l,.trow b' ver []::cs=>
  match ids[b]? with
  |some i=>
   bif Nat.beq i b' then
    match bl b' with
    |some (.tree _ _ ver' _ none _)=>bif Nat.beq ver ver' then Bx bl ids l cs else none
    |_=>none
   else none
  |none=>none
 |.tptrh b ks o::l,.tptr b' ver p i o'::cs=>
  match ids[b]? with
  |some j=>
   bif Nat.beq j b'&&Nat.beq o o' then
    match bl b' with
    |some (.tree _ _ ver' B9 none _)=>
     bif Nat.beq ver (tv ver' B9 p)then
      match Oi i ks p with
      |some x=>
       match Bx bl ids l cs with
       |some y=>some (x,y)
       |none=>none
      |none=>none
     else none
    |_=>none
   else none
  |none=>none
 |.trowh b::l,.nils::cs=>
  match ids[b]? with
  |some i=>
   match bl i with
   |none=>Bx bl ids l cs
   |some _=>none
  |none=>none
 |.bself b::l,.bself b'::cs=>
  match ids[b]? with
  |some i=>bif Nat.beq i b' then Bx bl ids l cs else none
  |none=>none
 |.bself _::l,.nilp::cs=>Bx bl ids l cs
 |.bfnh f b::l,.bfn f' b'::cs=>
  match ids[b]? with
  |some i=>bif Nat.beq f f'&&Nat.beq i b' then Bx bl ids l cs else none
  |none=>none
 |.junk::l,_::cs=>Bx bl ids l cs
 |.nils::l,.nils::cs=>Bx bl ids l cs
 |_,_=>none
def Hg(bl:Nat->Option Blk)(ids:List Nat):(l:List (Bool×List CT))->List V->Option (ST.dens l)
 |[],[]=>some ()
 |t::l,v::vs=>
  match v,t.1 with
  |.c x,false=>
   match Bx bl ids t.2 [x]with
   |none=>none
   |some y=>
    match Hg bl ids l vs with
    |none=>none
    |some z=>some (y,z)
  |.agg cs,true=>
   match Bx bl ids t.2 cs with
   |none=>none
   |some y=>
    match Hg bl ids l vs with
    |none=>none
    |some z=>some (y,z)
  |_,_=>none
 |_,_=>none
def Gz(bl:Nat->Option Blk)(ids:List Nat):(l:List BT)->List Nat->Option (BT.dens l)
 |[],[]=>some ()
 |.cells t l::r,i::is=>
  match bl i with
  |some (.cells t' cs)=>
   bif Nat.beq t t' then
    match Bx bl ids l cs with
    |none=>none
    |some y=>
     match Gz bl ids r is with
     |none=>none
     |some z=>some (y,z)
   else none
  |_=>none
 |_,_=>none
def mkC(ids:List Nat):(l:List CT)->CT.dens l->List C
 |[],_=>[]
 |.data τ::l,x=>cells τ x.1++mkC ids l x.2
 |.ptr b o::l,x=>.ptr (ids.getD b 0) o::mkC ids l x
 |.rowh b::l,x=>.row (ids.getD b 0) 0::mkC ids l x
 |.fn f BN::l,x=>.fn f (BN.map λb=>ids.getD b 0)::mkC ids l x
 |.maph b::l,x=>.mapv (ids.getD b 0)::mkC ids l x
 |.math b::l,x=>.mat (ids.getD b 0) 0::mkC ids l x
 |.bself b::l,x=>.bself (ids.getD b 0)::mkC ids l x
 |.bfnh f b::l,x=>.bfn f (ids.getD b 0)::mkC ids l x
 |.trowh b::l,x=>.trow (ids.getD b 0) 0 []::mkC ids l x
 |.tptrh b ks o::l,x=>.tptr (ids.getD b 0) 0 (wayP ks x.1) (wayI ks x.1) o::mkC ids l x.2
 |.nilc::l,x=>.nilc::mkC ids l x
 |.nils::l,x=>.nils::mkC ids l x
 |.lsome e::l,x=>.lsome e x.1::mkC ids l x.2
 |.junk::l,x=>.junk::mkC ids l x
def mkS(ids:List Nat):(l:List (Bool×List CT))->ST.dens l->List (Bool×List C)
 |[],_=>[]
 |t::l,x=>(t.1,mkC ids t.2 x.1)::mkS ids l x.2
def fIds(ids:List Nat):List (List UInt8×(FuncId×Nat))->List (List UInt8×(FuncId×Nat))
 |[]=>[]
 |x::r=>(x.1,(x.2.1,ids.getD x.2.2 0))::fIds ids r
def mkB(ids:List Nat):(l:List BT)->BT.dens l->List Blk
 |[],_=>[]
 |.cells t l::r,x=>.cells t (mkC ids l x.1)::mkB ids r x.2
 |.row t e::r,x=>.row t e 0 x.1::mkB ids r x.2
 |.map t k v vg::r,x=>.map t k v vg x.1::mkB ids r x.2
 |.mat t et e::r,x=>.mat t et e 0 0 none x.1::mkB ids r x.2
 |.tree t e::r,x=>.tree t e 0 0 none x.1::mkB ids r x.2
 |.fmap t l::r,x=>.fmap t (fIds ids l)::mkB ids r x
def resV:List (Bool×List C)->V
 |[t]=>V.mk t.1 t.2
 |ts=>.tup ts
def CT.flat:List CT->Bool
 |[]=>true
 |.data τ::r=>τ.flat&&CT.flat r
 |.lsome _::_=>false
 |_::r=>CT.flat r
def ST.flat:List (Bool×List CT)->Bool
 |[]=>true
 |t::r=>CT.flat t.2&&ST.flat r
def BT.flat:List BT->Bool
 |[]=>true
 |.cells _ l::r=>CT.flat l&&BT.flat r
 |.row _ e::r=>e.flat&&BT.flat r
 |.map _ k v _::r=>k.flat&&(v.flat&&BT.flat r)
 |.mat _ _ e::r=>e.flat&&BT.flat r
 |.tree _ e::r=>e.flat&&BT.flat r
 |.fmap _ _::r=>BT.flat r
def CG:List V->List Nat
 |[]=>[]
 |v::vs=>
  match v.cells with
  |some cs=>CA cs++CG vs
  |none=>CG vs
def AY:Nat->Nat->List Nat
 |_,0=>[]
 |i,n+1=>i::AY (i+1) n
def Qt(bl:Nat->Option Blk):List Nat->Bool
 |[]=>true
 |i::r=>
  match bl i with
  |none=>Qt bl r
  |some _=>false
def J3(bl:Nat->Option Blk):List Nat->List Nat
 |[]=>[]
 |i::r=>
  match bl i with
  |some (.cells _ cs)=>CA cs++J3 bl r
  |_=>J3 bl r
def CT.bnd(m:Nat):List CT->Bool
 |[]=>true
 |.ptr b _::r|.rowh b::r|.maph b::r|.math b::r|.bself b::r|.bfnh _ b::r|.trowh b::r|.tptrh b _ _::r=>Nat.blt b m&&CT.bnd m r
 |.fn _ BN::r=>BN.all (λb=>Nat.blt b m)&&CT.bnd m r
 |.data _::r|.nilc::r|.nils::r|.lsome _::r|.junk::r=>CT.bnd m r
def ST.bnd(m:Nat):List (Bool×List CT)->Bool
 |[]=>true
 |t::r=>CT.bnd m t.2&&ST.bnd m r
def BT.bnd(m:Nat):List BT->Bool
 |[]=>true
 |.cells _ l::r=>CT.bnd m l&&BT.bnd m r
 |.row _ _::r=>BT.bnd m r
 |.map _ _ _ _::r=>BT.bnd m r
 |.mat _ _ _::r=>BT.bnd m r
 |.tree _ _::r=>BT.bnd m r
 |.fmap _ l::r=>l.all (λe=>Nat.blt e.2.2 m)&&BT.bnd m r
def Qu(S:Spec)(bl:Nat->Option Blk)(rds:List Nat):List (Nat×Blk):=
 bif ST.flat S.res&&BT.flat S.outs then []else
  rds.filterMap λb=>
   match bl b with
   |some (.row _ _ _ _)=>some (b,.dead)
   |some (.tree _ _ _ _ _ _)=>some (b,.dead)
   |_=>none
def kZ(S:Spec)(bl:Nat->Option Blk)(ids new:List Nat):Bool:=
 Jy ids&&((Qt bl new&&(Nat.ble S.ins.length S.outs.length&&(ST.bnd S.outs.length S.res&&BT.bnd S.outs.length S.outs))))
def lB(F:RowF)(args:List V):Option (Nat×Nat):=
 match args,F.fn with
 |[.c (.row b ver)],none=>some (b,ver)
 |[.c (.row b ver),.c (.fn g [])],some g'=>bif Nat.beq g g' then some (b,ver)else none
 |_,_=>none
def lC(F:RowF)(bl:Nat->Option Blk)(args:List V)(kk:K β):Option β:=
 match lB F args with
 |some (b,ver)=>
  match bl b with
  |some (.row t e ver' l)=>
   bif Nat.beq ver ver'&&Nat.beq t F.t then
    if h:e=F.e then
     D8 (F.dom (h▸l))
      (bif F.cut then kk (.c (.row b (ver+1))) [b] [(b,.row t F.e (ver+1) (F.run (h▸l)))]else kk (.tup []) [b] [(b,.row t F.e ver (F.run (h▸l)))])
    else none
   else none
  |_=>none
 |none=>none
def H8(l:List Int):List UInt8:=l.map λn=>UInt8.ofNat n.toNat
def CQ(s:List UInt8):List Int:=s.map λb=>(b.toNat:Int)
def KJ(l:List Int):Bool:=l.all λn=>decide (0<=n)&&decide (n<=255)
def SD:C->Nat->Bool
 |.nilp,_=>true
 |.bself b,i=>Nat.beq b i
 |_,_=>false
def SE(F:BldF)(bl:Nat->Option Blk)(i:Nat):Option (Option (Nat×Nat)×List Int):=
 match bl i with
 |some (.cells t [p,q])=>
  bif Nat.beq t F.t&&SD p i then
   match q with
   |.nils=>some (none,[])
   |.row j ver=>
    match bl j with
    |some (.row te (.int .u8) ver' l)=>bif Nat.beq te F.te&&Nat.beq ver ver' then some (some (j,ver),l)else none
    |_=>none
   |_=>none
  else none
 |_=>none
def Acj(bl:Nat->Option Blk)(i:Nat):Bool:=
 match bl i with
 |none=>true
 |some _=>false
def wrote(s:List UInt8):V:=.tup [(false,[.int .i64 (s.length:Int)]),(false,[.err true])]
def lD(F:BldF)(bl:Nat->Option Blk)(nx:Nat)(args:List V)(kk:K β):Option β:=
 match F.op,args with
 |0,[.c (.ptr i 0),.c (.str s)]=>
  match SE F bl i with
  |some (none,_)=>
   D8 (Acj bl nx) (D8 (decide (s.length<=140737488355328)) (kk (wrote s) [i,nx] [(nx,.row F.te (.int .u8) 0 (CQ s)),(i,.cells F.t [.bself i,.row nx 0])]))
  |some (some (j,ver),l)=>
   D8 (decide (l.length+s.length<=140737488355328)) (kk (wrote s) [i,j] [(j,.row F.te (.int .u8) (ver+1) (l++CQ s)),(i,.cells F.t [.bself i,.row j (ver+1)])])
  |none=>none
 |1,[.c (.ptr i 0)]=>
  match SE F bl i with
  |some (none,_)=>kk (.c (.str [])) [i] []
  |some (some (j,_),l)=>D8 (KJ l) (kk (.c (.str (H8 l))) [i,j] [(j,.dead)])
  |none=>none
 |2,[.c (.ptr i 0)]=>
  match SE F bl i with
  |some (none,_)=>kk (.c (.int .i64 0)) [i] []
  |some (some (j,_),l)=>kk (.c (.int .i64 (l.length:Int))) [i,j] []
  |none=>none
 |3,[.c .nils,.c (.str _)]=>kk (.c (.str [])) [] []
 |3,[.c (.row j ver),.c (.str sep)]=>
  match bl j with
  |some (.row t .str ver' l)=>
   bif Nat.beq t F.t&&Nat.beq ver ver' then
    D8 (decide (l.length<=140737488355328)&&decide ((Lib.join l sep).length<=140737488355328)) (kk (.c (.str (Lib.join l sep))) [j] [])
   else none
  |_=>none
 |_,_=>none
def KK(bl:Nat->Option Blk):Nat->Option Blk:=λi=>
 match bl i with
 |some (.mat _ _ _ _ _ _ _)=>none
 |B=>B
def Qv(bl:Nat->Option Blk):V->V
 |.arr b o e n=>
  match bl b with
  |some (.cells _ cs)=>
   match sub cs o (n*e.size)with
   |some ds=>
    match J0 (λ_=>none) e n ds with
    |some l=>bif Nat.ble n 4096&&Nat.blt 0 e.size then .c (.list e l)else .junk
    |none=>.junk
   |none=>.junk
  |_=>.junk
 |v=>v
def LH:List V->List Nat
 |[]=>[]
 |.arr b _ _ _::r=>b::LH r
 |_::r=>LH r
def SF(S:Spec)(ids:List Nat):List Nat->Bool
 |[]=>true
 |b::r=>(ST.flat S.res&&BT.flat S.outs)&&(!memB b ids&&SF S ids r)
def MV:List CT->List C->List C
 |.junk::l,_::cs=>.junk::MV l cs
 |.data τ::l,cs=>cs.take τ.size++MV l (cs.drop τ.size)
 |_::l,c::cs=>c::MV l cs
 |_,cs=>cs
def Ape:List CT->V->V
 |l,.agg cs=>.agg (MV l cs)
 |_,v=>v
def SG:List (Bool×List CT)->List V->List V
 |t::ts,v::vs=>Ape t.2 v::SG ts vs
 |_,vs=>vs
def Qw(S:Spec)(bl:Nat->Option Blk)(args:List V):List V:=SG S.params (args.map (Qv bl))
def SH(X:Ctx)(bl:Nat->Option Blk)(nx:Nat)(f:FuncId)(args:List V)(kk:K β):Option β:=
 match X.Γ f with
 |none=>none
 |some (.rows F)=>lC F bl args kk
 |some (.bld F)=>lD F bl nx args kk
 |some (.abs A)=>A.run bl nx args kk
 |some (.spec S)=>
  match SC (SB S.params (Qw S bl args)) 0 S.ins.length with
  |none=>none
  |some ids=>
   match Hg (KK bl) ids S.params (Qw S bl args),Gz (KK bl) ids S.ins ids with
   |some x,some y=>
    bif kZ S bl ids (AY nx (S.outs.length-S.ins.length))&&SF S ids (LH args)then
     S.run (x,y) λz=>
      kk (resV (mkS (ids++AY nx (S.outs.length-S.ins.length)) S.res z.1)) (ids++((CG (Qw S bl args)++J3 bl ids)++(AY nx (S.outs.length-S.ins.length)++LH args)))
       (Qu S bl (CG (Qw S bl args)++J3 bl ids)++(ids++AY nx (S.outs.length-S.ins.length)).zip (mkB (ids++AY nx (S.outs.length-S.ins.length)) S.outs z.2))
    else none
   |_,_=>none
def frzC(bl:Nat->Option Blk):C->C
 |.row b ver=>
  match bl b with
  |some (.row _ e ver' l)=>bif Nat.beq ver ver' then .list e l else .row b ver
  |_=>.row b ver
 |.sub b ver i j=>
  match bl b with
  |some (.row _ e ver' l)=>bif Nat.beq ver ver' then .list e ((l.take j).drop i)else .sub b ver i j
  |_=>.sub b ver i j
 |.trow b ver []=>
  match bl b with
  |some (.tree _ e ver' _ none l)=>bif Nat.beq ver ver' then .list e.ty l else .trow b ver []
  |_=>.trow b ver []
 |c=>c
def frzV(bl:Nat->Option Blk):V->V
 |.c x=>.c (frzC bl x)
 |.agg cs=>.agg (cs.map (frzC bl))
 |v=>v
def Dl(bl:Nat->Option Blk):List Nat->List (Nat×Blk)
 |[]=>[]
 |b::r=>
  match bl b with
  |some (.row _ _ _ _)=>(b,.dead)::Dl bl r
  |some (.tree _ _ _ _ _ _)=>(b,.dead)::Dl bl r
  |_=>Dl bl r
def Qx(bl:Nat->Option Blk):List (Nat×Blk)->Nat->Option Blk
 |[],i=>bl i
 |(j,x)::r,i=>Qx (λk=>bif Nat.beq k j then some x else bl k) r i
def J4(bl:Nat->Option Blk)(rds:List Nat)(run:(Nat->Option Blk)->K β->Option β)(kk:K β):Option β:=
 run (Qx bl (Dl bl rds)) λv rd wr=>kk v (rds++rd) (Dl bl rds++wr)
def lE(T:TypeId->Option TI)(bl:Nat->Option Blk)(si ti:TI)(y:V)(kk:K β):Option β:=
 match si.elem,si.len with
 |some et,none=>
  match T et with
  |none=>none
  |some te=>
   match te.kind with
   |some .u8=>
    bif ti.isStr then
     match Qs bl (.int .u8) y with
     |some (l,rd)=>kk (.c (.str (H8 l))) rd []
     |none=>none
    else none
   |_=>none
 |_,_=>none
def Ack(ρ:Operand->V):Callee->Option (FuncId×(List V×List V))
 |.value x=>
  match ρ x with
  |.c (.fn f BN)=>some (f,[],BN.map λb=>.c (.ptr b 0))
  |.c (.bfn f b)=>some (f,[.c (.ptr b 0)],[])
  |_=>none
 |_=>none
def Qy(bl:Nat->Option Blk)(nx:Nat)(t:TypeId)(cs:List C)(kk:K β):Option β:=
 match bl nx with
 |none=>kk (.c (.ptr nx 0)) [nx] [(nx,.cells t cs)]
 |some _=>none
def lF(T:TypeId->Option TI)(bl:Nat->Option Blk)(nx:Nat)(t:TypeId)(n:Nat)(parts:List (Nat×V))(kk:K β):Option β:=
 match T t with
 |none=>none
 |some ti=>
  match ti.elem,ti.len with
  |some et,none=>
   match T et with
   |none=>none
   |some te=>
    match te.ty with
    |none=>none
    |some e=>
     bif Nat.beq e.size te.size&&(Nat.ble (n*te.size) 16777216&&Nat.blt 0 te.size)then
      match Hf {te with elem:=some et,len:=some n} T parts with
      |none=>none
      |some ps=>
       match MU (repC n te.zero) ps with
       |none=>none
       |some cs=>
        match J0 (λ_=>none) e n cs,bl nx with
        |some l,none=>kk (.c (.row nx 0)) [nx] [(nx,.row et e 0 l)]
        |_,_=>none
     else none
  |_,_=>none
def lG(T:TypeId->Option TI)(bl:Nat->Option Blk)(nx:Nat)(t:TypeId)(n c:V)(kk:K β):Option β:=
 match T t,ival n,ival c with
 |some ti,some (_,i),some (_,j)=>
  match ti.elem,ti.len with
  |some et,none=>
   match T et with
   |none=>none
   |some te=>
    match te.ty with
    |none=>none
    |some e=>
     match KH (λ_=>none) e te.zero,bl nx with
     |some z,none=>
      bif Nat.beq e.size te.size&&Nat.blt 0 te.size then
       D8 (decide (0<=i)&&(decide (i=j)&&(decide (i.toNat*te.bytes<=Bl)&&decide (i<=9223372036854775807)))) (kk (.c (.row nx 0)) [nx] [(nx,.row et e 0 (List.replicate i.toNat z))])
      else none
     |_,_=>none
  |_,_=>none
 |_,_,_=>none
def Qz:List V->Option (List Nat)
 |[]=>some []
 |.c (.ptr b 0)::r=>
  match Qz r with
  |some l=>some (b::l)
  |none=>none
 |_::_=>none
def Acl(bl:Nat->Option Blk):V->Bool
 |.c (.row b _)=>
  match bl b with
  |some (.row _ e _ _)=>e.flat
  |_=>true
 |_=>true
def Acm:V->Bool
 |.c (.sub _ _ _ _)=>true
 |_=>false
def Acn:V->Bool
 |.agg _=>true
 |_=>false
def KL(bl:Nat->Option Blk):Nat->List Nat->List C->List C
 |_,_,[]=>[]
 |i,ps,c::cs=>(bif memB i ps then frzC bl c else c)::KL bl (i+1) ps cs
def F4:Nat->List Nat->List C->List Nat
 |_,_,[]=>[]
 |i,ps,c::cs=>bif memB i ps then CA [c]++F4 (i+1) ps cs else F4 (i+1) ps cs
def lH(T:TypeId->Option TI)(bl:Nat->Option Blk)(t:TypeId)(ps:List Nat)(p:V)(kk:K β):Option β:=
 match p with
 |.c (.ptr b o)=>
  match bl b with
  |some (.cells t0 cs)=>
   S6 T (Qx (Qx bl (Dl bl (F4 0 ps cs))) [(b,.cells t0 (KL bl 0 ps cs))]) t (.c (.ptr b o)) λv rd wr=>
    kk v (F4 0 ps cs++(b::rd)) (Dl bl (F4 0 ps cs)++((b,.cells t0 (KL bl 0 ps cs))::wr))
  |_=>none
 |_=>S6 T bl t p kk
def Yo{β:Type}(T:TypeId->Option TI)(t:TypeId)(parts:List (Nat×V))(kk:K β):Option β:=
 match T t with
 |some ti=>
  bif ti.agg then
   match Hf ti T parts with
   |some ps=>
    match MU ti.zero ps with
    |some cs=>kk (.agg cs) [] []
    |none=>none
   |none=>none
  else none
 |none=>none
def Yp(X:Ctx)(o:Oper)(ρ:Operand->V)(bl:Nat->Option Blk)(nx:Nat)(kk:K β):Option β:=
 match o.op with
 |.move x=>bif X.S&&Acm (ρ x)then J4 bl (CG [ρ x]) (λ_ Ea=>Ea (frzV bl (ρ x)) [] []) kk else kk (ρ x) [] []
 |.assign x=>bif X.D&&Acl bl (ρ x)then J4 bl (CG [ρ x]) (λ_ Ea=>Ea (frzV bl (ρ x)) [] []) kk else kk (ρ x) [] []
 |.pick c a b=>
  match ρ c with
  |.c (.bool g)=>cond g (kk (ρ a) [] []) (kk (ρ b) [] [])
  |_=>none
 |.alloc t=>
  match X.T t with
  |some ti=>Qy bl nx t ti.zero kk
  |none=>none
 |.box t x=>
  match(ρ x).cells with
  |some cs=>Qy bl nx t cs kk
  |none=>none
 |.build t parts=>bif X.D then J4 bl (CG (parts.toList.map λp=>ρ p.2)) (λ_ Ea=>Yo X.T t (parts.toList.map λp=>(p.1,frzV bl (ρ p.2))) Ea) kk else Yo X.T t (parts.toList.map λp=>(p.1,ρ p.2)) kk
 |.buildSlice t n parts=>bif Ach X.O X.T t&&Aci X.O X.T bl t (parts.toList.map λp=>(p.1,ρ p.2))then kX X.O X.T bl nx t n (parts.toList.map λp=>(p.1,ρ p.2)) kk else J4 bl (CG (parts.toList.map λp=>ρ p.2)) (λbl' Ea=>lF X.T bl' nx t n (parts.toList.map λp=>(p.1,frzV bl (ρ p.2))) Ea) kk
 |.load t a=>
  match look X.L t with
  |some ps=>lH X.T bl t ps (ρ a) kk
  |none=>S6 X.T bl t (ρ a) kk
 |.store t a x=>
  match ρ a with
  |.eptr _ _ _ _=>J4 bl (CG [ρ a,ρ x]) (λbl' Ea=>Og X.T bl' t (frzV bl (ρ a)) (frzV bl (ρ x)) Ea) kk
  |.c (.tptr b _ _ _ _)=>bif Ace bl b then Og X.T bl t (ρ a) (ρ x) kk else J4 bl (CG [ρ a,ρ x]) (λbl' Ea=>Og X.T bl' t (frzV bl (ρ a)) (frzV bl (ρ x)) Ea) kk
  |_=>bif X.D&&Acn (ρ x)then J4 bl (CG [ρ a,ρ x]) (λbl' Ea=>Og X.T bl' t (frzV bl (ρ a)) (frzV bl (ρ x)) Ea) kk else Og X.T bl t (ρ a) (ρ x) kk
 |.nilCheck x=>
  match ρ x with
  |.c (.ptr b o)=>kk (.c (.ptr b o)) [] []
  |.eptr b ver i o=>kk (.eptr b ver i o) [] []
  |.lptr e x o=>kk (.lptr e x o) [] []
  |.c (.tptr b ver p i o)=>kk (.c (.tptr b ver p i o)) [] []
  |.c (.fn f BN)=>kk (.c (.fn f BN)) [] []
  |.c (.bfn f b)=>kk (.c (.bfn f b)) [] []
  |_=>none
 |.binOp op t x y _=>kH X.T op t (ρ x) (ρ y) y kk
 |.unOp op _ x=>
  match op,ρ x with
  |.not,.c (.bool b)=>kk (.c (.bool (!b))) [] []
  |.neg,.c (.int k n)=>kk (.c (.int k (k.wrap (0-n)))) [] []
  |_,_=>none
 |.convert s t x=>
  match X.T s,X.T t,ρ x with
  |some _,some ti,.c (.int _ n)=>
   match ti.kind with
   |some k=>kk (.c (.int k (k.wrap n))) [] []
   |none=>none
  |some _,some ti,.c (.str s)=>bif ti.isStr then kk (.c (.str s)) [] []else none
  |some si,some ti,y=>lE X.T bl si ti y kk
  |_,_,_=>none
 |.makeFunc (.func f) first BN=>
  match first.toList with
  |[]=>
   match Qz (BN.toList.map ρ)with
   |some bs=>kk (.c (.fn f bs)) [] []
   |none=>none
  |[x]=>
   match ρ x,BN.toList with
   |.c (.ptr b 0),[]=>kk (.c (.bfn f b)) [] []
   |_,_=>none
  |_::_=>none
 |.makeSlice t n c=>lG X.T bl nx t (ρ n) (ρ c) kk
 |.makeMap t none=>kN X.T bl nx t kk
 |.lookup t x i commaOk=>bif Acg bl (ρ x)then kO X.T bl t (ρ x) (ρ i) commaOk kk else kQ X.T bl t (ρ x) (ρ i) commaOk kk
 |.insert t m i v=>kP X.T bl t (ρ m) (ρ i) (ρ v) kk
 |.mapUpdate t m i v=>J4 bl (CG [ρ m,ρ i,ρ v]) (λbl' Ea=>kR X.T bl' t (frzV bl (ρ m)) (frzV bl (ρ i)) (frzV bl (ρ v)) Ea) kk
 |.slice t x none hi none=>bif X.R&&Yl (ρ x)then kK X.T bl t (ρ x) (hi.map ρ) kk else S8 X.T bl t (ρ x) none (hi.map ρ) kk
 |.slice t x lo hi none=>bif X.S&&Yl (ρ x)then J4 bl (CG ((x::(lo.toList++hi.toList)).map ρ)) (λbl' Ea=>S8 X.T bl' t (frzV bl (ρ x)) (lo.map λy=>frzV bl (ρ y)) (hi.map λy=>frzV bl (ρ y)) Ea) kk else S8 X.T bl t (ρ x) (lo.map ρ) (hi.map ρ) kk
 |.fieldAddr t x f=>kI X.T t (ρ x) f kk
 |.field t x f=>
  match X.T t,ρ x with
  |some ti,.agg cs=>
   match ti.flds[f]? with
   |some (o,n,g)=>
    bif g||Nat.beq n 1 then
     match sub cs o n with
     |some r=>kk (V.mk g r) [] []
     |none=>none
    else none
   |none=>none
  |_,_=>none
 |.indexAddr t x i=>kJ X.T bl t (ρ x) (ρ i) kk
 |.index t x i=>
  match X.T t,ρ x,ival (ρ i)with
  |some ti,.c (.str s),some (_,i)=>bif ti.isStr then D8 (decide (0<=i)&&decide (i<(s.length:Int))) (kk (.c (.int .u8 ((s.getD i.toNat 0).toNat:Int))) [] [])else none
  |some ti,.agg cs,some (_,i)=>kM X.T ti cs i kk
  |_,_,_=>none
 |.extract x i=>
  match ρ x with
  |.tup ts=>
   match ts[i]? with
   |some t=>kk (V.mk t.1 t.2) [] []
   |none=>none
  |_=>none
 |.call c=>
  match c.callee with
  |.builtin .len=>
   match c.args.toList.map ρ,c.argTypes.toList with
   |[x],[t]=>kL X.T bl t x kk
   |_,_=>none
  |.builtin .min=>
   match Yn false (c.args.toList.map ρ)with
   |some v=>kk v [] []
   |none=>none
  |.builtin .max=>
   match Yn true (c.args.toList.map ρ)with
   |some v=>kk v [] []
   |none=>none
  |.builtin .append=>
   match c.args.toList.map ρ,c.argTypes.toList with
   |[x,y],[t,t']=>bif Nat.beq t t' then(bif Ym x||Ym y then kW X.O X.T bl nx t x y kk else kV X.T bl nx t x y kk)else kY X.T bl nx t t' x y kk
   |_,_=>none
  |.builtin .clear=>
   match c.args.toList.map ρ,c.argTypes.toList with
   |[x],[t]=>kT X.T bl t x kk
   |_,_=>none
  |.builtin .cap=>
   match c.args.toList.map ρ,c.argTypes.toList with
   |[x],[t]=>kU X.T t x kk
   |_,_=>none
  |.builtin .copy=>
   match c.args.toList.map ρ,c.argTypes.toList with
   |[x,y],[t,t']=>bif Nat.beq t t' then kS X.T bl t x y kk else none
   |_,_=>none
  |.builtin _=>none
  |callee=>
   match Ack ρ callee with
   |some (f,pre,BN)=>SH X bl nx f (pre++(c.args.toList.map ρ++BN)) kk
   |none=>none
 |_=>none
structure LogE where
 i:Nat
 dst:Option Nat
 v:V
 tin:List Nat
 rd:List Nat
 wr:List (Nat×Blk)
structure St where
 tm:List (Nat×V)
 bl:List (Nat×Blk)
 nx:Nat
def SI(tm:List (Nat×V)):Operand->V
 |.tmp t=>
  match look tm t with
  |some v=>v
  |none=>.junk
 |.const v=>V.ofValue v
 |.global _=>.junk
 |.func f=>.c (.fn f [])
def J5:List Operand->List Nat
 |[]=>[]
 |.tmp t::r=>t::J5 r
 |_::r=>J5 r
def Oj(ops:Array Oper)(o:Oper):Option (Nat×Bool):=
 match o.guard with
 |none=>none
 |some (j,want)=>((ops[j]?).bind (·.dst)).map λt=>(t,want)
def putD(tm:List (Nat×V))(dst:Option Nat)(v:V):List (Nat×V):=
 match dst with
 |some d=>put tm d v
 |none=>tm
def lI:Nat->List (Nat×Blk)->Nat
 |nx,[]=>nx
 |nx,(i,_)::r=>lI (bif Nat.ble nx i then i+1 else nx) r
def SJ(n:Nat):Option Nat->Bool
 |none=>true
 |some d=>Nat.blt d n
def KM(X:Ctx)(n:Nat)(all:Array Oper):List (Nat×Oper)->St->List LogE->(St->List LogE->Option β)->Option β
 |[],σ,log,k=>k σ log
 |(i,o)::rest,σ,log,k=>
  let tin:=J5 o.op.operands.toList
  let go (σ:St) (tin:List Nat):Option β:=
   Yp X o (SI σ.tm) (look σ.bl) σ.nx λv rd wr=>
    KM X n all rest ⟨putD σ.tm o.dst v,puts σ.bl wr,lI σ.nx wr⟩ (⟨i,o.dst,v,tin,rd,wr⟩::log) k
  bif SJ n o.dst then
   match o.guard with
   |none=>go σ tin
   |some _=>
    match Oj all o with
    |none=>none
    |some (t,want)=>
     match look σ.tm t with
     |some (.tup [])=>KM X n all rest ⟨putD σ.tm o.dst (.tup []),σ.bl,σ.nx⟩ (⟨i,o.dst,.tup [],[t],[],[]⟩::log) k
     |some (.c (.bool g))=>
      let skip:Option β:=KM X n all rest ⟨putD (put σ.tm t (.c (.bool (!want)))) o.dst (.tup []),σ.bl,σ.nx⟩ (⟨i,o.dst,.tup [],[t],[],[]⟩::log) k
      let take:Option β:=go {σ with tm:=put σ.tm t (.c (.bool want))} (t::tin)
      match want with
      |true=>cond g take skip
      |false=>cond g skip take
     |_=>none
  else none
def J6(ms:List Nat):List Edge->Nat
 |[]=>0
 |e::r=>(bif Region.binds .any e then Nat.lor (Nat.shiftLeft 1 e.on) (ms.getD e.on 0)else 0) |> Nat.lor (J6 ms r)
def GL:List Oper->List Nat->List Nat
 |[],acc=>acc
 |o::r,acc=>GL r (acc++[J6 acc o.after.toList])
def KN:List (Nat×Oper)->Bool
 |[]=>true
 |(i,o)::r=>o.after.toList.all (λe=>!Region.binds .any e||Nat.blt e.on i)&&KN r
def meet(a b:List Nat):Bool:=
 match a with
 |[]=>false
 |x::r=>memB x b||meet r b
def wids:List (Nat×Blk)->List Nat
 |[]=>[]
 |(i,_)::r=>i::wids r
def Q0(x y:LogE):Bool:=
 (match x.dst with
  |some d=>memB d y.tin||(match y.dst with|some d'=>Nat.beq d d'|none=>false)
  |none=>false)||
 (match y.dst with
  |some d=>memB d x.tin
  |none=>false)||
 meet (wids x.wr) (y.rd++wids y.wr)||meet (wids y.wr) x.rd
def Yq(m:Nat)(y:LogE):List LogE->Bool
 |[]=>true
 |x::r=>(!Q0 x y||Nat.testBit m x.i)&&Yq m y r
def fine(ms:List Nat):List LogE->Bool
 |[]=>true
 |y::r=>Yq (ms.getD y.i 0) y r&&fine ms r
inductive AExit where
 |normal
 |exit (id:Nat)
 |ret
def LI(ids:List Nat):List Nat->Bool
 |[]=>true
 |b::r=>memB b ids&&LI ids r
def lJ(ids:List Nat):List LogE->Bool
 |[]=>true
 |e::r=>LI ids e.rd&&lJ ids r
def LJ:Option (List Nat)->List LogE->Bool
 |none,_=>true
 |some ids,log=>lJ ids log
abbrev Kx(β:Type):=AExit->St->Option β
structure Cut where
 run:{β:Type}->St->(AExit->St->Option β)->Option β
def Hh:Nat->List Oper->List (Nat×Oper)
 |_,[]=>[]
 |i,o::r=>(i,o)::Hh (i+1) r
def Yr(f:St->Kx β->Option β):Nat->St->Kx β->Option β
 |0,_,_=>none
 |i+1,σ,k=>f σ λe σ'=>
  match e with
  |.normal=>Yr f i σ' k
  |.exit id=>k (.exit id) σ'
  |.ret=>k .ret σ'
def exec(X:Ctx)(n:Nat)(Λ:Nat->Option Cut)(p:Nat)(c:Code)(σ:St)(k:Kx β):Option β:=
 match Λ p with
 |some cut=>cut.run σ k
 |none=>
  match c with
  |.skip=>k .normal σ
  |.region _ ops draw=>
   let l:=Hh 0 ops.toList
   KM X n ops l σ [] λσ' log=>
    bif LJ X.A log&&(!draw||(KN l&&fine (GL ops.toList []) log))then k .normal σ' else none
  |.seq a b=>
   exec X n Λ (2*p) a σ λe σ'=>
    match e with
    |.normal=>exec X n Λ (2*p+1) b σ' k
    |e=>k e σ'
  |.cond x a b=>
   match SI σ.tm x with
   |.c (.bool g)=>cond g (exec X n Λ (2*p) a σ k) (exec X n Λ (2*p+1) b σ k)
   |_=>none
  |.block id a=>
   exec X n Λ (2*p) a σ λe σ'=>
    match e with
    |.exit RY=>bif Nat.beq RY id then k .normal σ' else k (.exit RY) σ'
    |e=>k e σ'
  |.exit id=>k (.exit id) σ
  |.ret=>k .ret σ
  |.loop a=>Yr (λσ' k'=>exec X n (λ_=>none) 1 a σ' k') X.N σ k
  |_=>none
end
end
end Go.Lift
namespace Go.Lift
open Go.RowKit
def Blk.live:Blk->Bool
 |.dead=>false
 |_=>true
def Own(pl:Nat->Option Pl)(bl:Nat->Option Blk)(g:Nat):Prop:=
 ∃i B p,bl i=some B/\B.live=true/\pl i=some p/\p.has g
structure OK0 (P:Program) where
 f:Nat->Prop
 no:Nat->Prop
instance{P:Program}:CoeFun (OK0 P) (λ_=>Nat->Prop):=⟨OK0.f⟩
def SK:List (String×IntKind×List Int):=[("internal/strconv.uint64pow10",.u64,Lib.pow10Tab),("strings.asciiSpace",.u8,Lib.asciiSpaceTab)]
def SM:List String:=["strconv.ErrSyntax", "strconv.ErrRange"]
def ReadsAt(w:World)(b o:Nat)(vs:List Value):Prop:=∀i v,vs[i]?=some v->w.cell? ⟨b,o+i,none⟩=some v
def Ys(g:Nat)(w:World):Prop:=
 ∃T oT R oR,ReadsAt w g 0 [.pointer (some ⟨T,oT,none⟩)]/\ReadsAt w T oT [.slice (some ⟨R,oR,none⟩) 7 7,.slice none 0 0,.int .i64 2]/\ReadsAt w R oR (Lib.whiteT.map λz:Nat=>Value.int .u16 (z:Int))
structure Opened (P:Program) (w:World):Prop where
 open_:w.ShapedOpen P
 tabs:∀x∈SK,(P.globalNamed x.1).isSome=true->Lib.TabIs P w x.1 x.2.1 x.2.2
 errs:∀n∈SM,(P.globalNamed n).isSome=true->∃t u,w.var? P n=some #[.iface t u]
 white:∀g,P.globalNamed "unicode.White_Space"=some g->Ys g w
def Glob0(P:Program)(no:Nat->Prop)(pl:Nat->Option Pl)(bl:Nat->Option Blk)(w:World):Prop:=
 ∃w0:World,Opened P w0/\w0.heap.size<=w.heap.size/\(∀g,g<w0.heap.size->w.heap[g]?=w0.heap[g]?/\¬Own pl bl g)/\∀g,no g->w0.heap.size<=g
def GlobR(P:Program)(own:Option Nat)(w:World):Prop:=
 ∃w0:World,Opened P w0/\w0.heap.size<=w.heap.size/\∀g,g<w0.heap.size->w.heap[g]?=w0.heap[g]?/\own≠some g
theorem GlobR.glob{P:Program}{pl:Nat->Option Pl}{bl:Nat->Option Blk}{w:World}{own:Option Nat}(h:GlobR P own w)(ho:∀g,Own pl bl g->own=some g):Glob0 P (λ_=>False) pl bl w:=by obtain⟨w0,h1,h2,h3⟩:=h;exact⟨w0,h1,h2,λg hl=>⟨(h3 g hl).1,λq=>(h3 g hl).2 (ho g q)⟩,λ_ h=>h.elim⟩
theorem Glob0.gen{P:Program}{no AoV:Nat->Prop}{pl Ak:Nat->Option Pl}{bl bl':Nat->Option Blk}{w w':World}(h:Glob0 P no pl bl w)(hs:w.heap.size<=w'.heap.size)(ho:∀g,g<w.heap.size->¬Own pl bl g->¬no g->w'.heap[g]?=w.heap[g]?/\¬Own Ak bl' g)(hn:∀g,AoV g->no g\/Own pl bl g\/w.heap.size<=g):Glob0 P AoV Ak bl' w':=by
 obtain⟨w0,h1,h2,h3,h4⟩:=h;refine⟨w0,h1,D2 h2 hs,λg hl=>?_,λg hg=>?_⟩
 ·obtain⟨a,b⟩:=h3 g hl
  obtain⟨c,d⟩:=ho g (XQ hl h2) b λhn=>absurd (h4 g hn) (Nat.not_le.2 hl);exact⟨c.trans a,d⟩
 ·rcases hn g hg with q|q|q
  ·exact h4 g q
  ·exact Nat.le_of_not_lt λhl=>(h3 g hl).2 q
  ·exact D2 h2 q
structure Glob {P:Program} (ok0:OK0 P) (pl:Nat->Option Pl) (bl:Nat->Option Blk) (w:World):Prop where
 g0:Glob0 P ok0.no pl bl w
 no:∀g,ok0.no g->g<w.heap.size/\¬Own pl bl g
section
variable{P:Program}{ok0:OK0 P}{pl Ak:Nat->Option Pl}{bl bl':Nat->Option Blk}{w w':World}
theorem Glob.out(h:Glob ok0 pl bl w)(hs:w.heap.size<=w'.heap.size)(ho:∀g,g<w.heap.size->¬Own pl bl g->w'.heap[g]?=w.heap[g]?/\¬Own Ak bl' g):Glob ok0 Ak bl' w':=
 ⟨h.g0.gen hs (λg h1 h2 _=>ho g h1 h2) λ_ h=>.inl h,λg hn=>by obtain⟨h1,h2⟩:=h.no g hn;exact⟨XQ h1 hs,(ho g h1 h2).2⟩⟩
theorem Glob.mono(h:Glob ok0 pl bl w)(ho:∀g,Own Ak bl' g->Own pl bl g):Glob ok0 Ak bl' w:=h.out (AQ _) λg _ h1=>⟨rfl,λq=>h1 (ho g q)⟩
theorem Glob.row{own:Option Nat}(h:Glob ok0 pl bl w)(ho:∀g,own=some g->Own pl bl g):GlobR P own w:=by obtain⟨w0,h1,h2,h3,_⟩:=h.g0;exact⟨w0,h1,h2,λg hl=>⟨(h3 g hl).1,λq=>(h3 g hl).2 (ho g q)⟩⟩
end
def Ap{P:Program}(ok0:OK0 P)(base:Nat)(pl:Nat->Option Pl)(bl:Nat->Option Blk)(w:World):Env:={w,ok:=λg=>(ok0 g\/(base<=g/\¬ok0.no g))/\¬Own pl bl g,base,pl,bl}
structure RelB {P:Program} (ok0:OK0 P) (base:Nat) (pl:Nat->Option Pl) (bl:Nat->Option Blk) (w:World):Prop where
 baseLe:base<=w.heap.size
 blks:∀i B,bl i=some B->∃p,pl i=some p/\BRep (Ap ok0 base pl bl w) B p
 sep:∀i j B C p q g,i≠j->bl i=some B->bl j=some C->B.live=true->C.live=true->pl i=some p->pl j=some q->p.has g->¬q.has g
 fresh:∀i,bl i=none->pl i=none
 glob:Glob ok0 pl bl w
structure Step (pl:Nat->Option Pl) (bl:Nat->Option Blk) (w:World) (Ak:Nat->Option Pl) (bl':Nat->Option Blk) (w':World):Prop where
 os:w'.os=w.os
 tape:w'.tape=w.tape
 output:w'.output=w.output
 size:w.heap.size<=w'.heap.size
 out:∀g,g<w.heap.size->¬Own pl bl g->w'.heap[g]?=w.heap[g]?/\¬Own Ak bl' g
 cells:∀b g,pl b=some (.cells g)->Ak b=some (.cells g)
 rows:∀b sv Ac,pl b=some (.row sv Ac)->∃Bd B6,Ak b=some (.row Bd B6)/\KeepR (bl b) (bl' b) sv Ac Bd B6
theorem Step.refl(pl:Nat->Option Pl)(bl:Nat->Option Blk)(w:World):Step pl bl w pl bl w:=
 ⟨rfl,rfl,rfl,AQ _,λ_ _ h=>⟨rfl,h⟩,λ_ _ h=>h,λ_ sv Ac h=>⟨sv,Ac,h,KeepR.refl _ _ _⟩⟩
theorem Step.trans{pl pl1 pl2:Nat->Option Pl}{bl bl1 Aa:Nat->Option Blk}{w w1 w2:World}(h:Step pl bl w pl1 bl1 w1)(k:Step pl1 bl1 w1 pl2 Aa w2):Step pl bl w pl2 Aa w2:=by
 refine⟨k.os.trans h.os,k.tape.trans h.tape,k.output.trans h.output,D2 h.size k.size,λg hg ho=>?_,λb g hb=>k.cells b g (h.cells b g hb),λb sv Ac hb=>?_⟩
 ·obtain⟨h1,h2⟩:=h.out g hg ho
  obtain⟨k1,k2⟩:=k.out g (XQ hg h.size) h2;exact⟨k1.trans h1,k2⟩
 ·obtain⟨sv1,MA,p1,r1⟩:=h.rows b sv Ac hb
  obtain⟨sv2,K4,p2,r2⟩:=k.rows b sv1 MA p1;exact⟨sv2,K4,p2,r1.trans r2⟩
structure StepM (m:Nat) (pl:Nat->Option Pl) (bl:Nat->Option Blk) (w:World) (Ak:Nat->Option Pl) (bl':Nat->Option Blk) (w':World):Prop where
 os:w'.os=w.os
 tape:w'.tape=w.tape
 output:w'.output=w.output
 size:w.heap.size<=w'.heap.size
 out:∀g,g<w.heap.size->¬Own pl bl g->w'.heap[g]?=w.heap[g]?/\¬Own Ak bl' g
 cells:∀b g,b<m->pl b=some (.cells g)->Ak b=some (.cells g)
 rows:∀b sv Ac,b<m->pl b=some (.row sv Ac)->∃Bd B6,Ak b=some (.row Bd B6)
theorem Step.toM{m:Nat}{pl Ak:Nat->Option Pl}{bl bl':Nat->Option Blk}{w w':World}(h:Step pl bl w Ak bl' w'):StepM m pl bl w Ak bl' w':=
 ⟨h.os,h.tape,h.output,h.size,h.out,λb g _=>h.cells b g,λb sv Ac _ hb=>by obtain⟨Bd,B6,h1,_⟩:=h.rows b sv Ac hb;exact⟨Bd,B6,h1⟩⟩
theorem StepM.refl(m:Nat)(pl:Nat->Option Pl)(bl:Nat->Option Blk)(w:World):StepM m pl bl w pl bl w:=(Step.refl pl bl w).toM
theorem StepM.trans{m:Nat}{pl pl1 pl2:Nat->Option Pl}{bl bl1 Aa:Nat->Option Blk}{w w1 w2:World}(h:StepM m pl bl w pl1 bl1 w1)(k:StepM m pl1 bl1 w1 pl2 Aa w2):StepM m pl bl w pl2 Aa w2:=by
 refine⟨k.os.trans h.os,k.tape.trans h.tape,k.output.trans h.output,D2 h.size k.size,λg hg ho=>?_,λb g hm hb=>k.cells b g hm (h.cells b g hm hb),λb sv Ac hm hb=>?_⟩
 ·obtain⟨h1,h2⟩:=h.out g hg ho
  obtain⟨k1,k2⟩:=k.out g (XQ hg h.size) h2;exact⟨k1.trans h1,k2⟩
 ·obtain⟨Bd,B6,h1⟩:=h.rows b sv Ac hm hb
  exact k.rows b Bd B6 hm h1
theorem Step.ext{P:Program}{ok0:OK0 P}{base:Nat}{pl Ak:Nat->Option Pl}{bl bl':Nat->Option Blk}{w w':World}(h:Step pl bl w Ak bl' w'):Ext (Ap ok0 base pl bl w) (Ap ok0 base Ak bl' w'):=
 ⟨AQ _,λg hg Au=>⟨⟨hg.1,(h.out g Au hg.2).2⟩,(h.out g Au hg.2).1⟩,h.cells,h.rows⟩
def upd{α:Type}(f:Nat->Option α)(i:Nat)(x:α):Nat->Option α:=λj=>if j=i then some x else f j
def updL{α:Type}(f:Nat->Option α):List (Nat×α)->Nat->Option α
 |[]=>f
 |(i,x)::r=>updL (upd f i x) r
theorem lK{α:Type}:∀(r l:List (Nat×α)),look (puts l r)=updL (look l) r
 |[],_=>rfl
 |(i,x)::r,l=>by rw[puts,lK r,updL];congr 1;funext j;rw[Yg,upd]
def OpOk(P:Program)(o:Oper)(ρ:Operand->V)(bl:Nat->Option Blk)(v:V)(wr:List (Nat×Blk)):Prop:=
 ∀(ok0:OK0 P)(base:Nat)(pl:Nat->Option Pl)(w:World)(a:Act),RelB ok0 base pl bl w->
  (∀x∈o.op.operands,VRep (Ap ok0 base pl bl w) (ρ x) (a.eval x))->
  ∀(K:Act->World->Prop)(Q:Exit->Act->World->Prop),
   (∀val Ak w',RelB ok0 base Ak (updL bl wr) w'->Step pl bl w Ak (updL bl wr) w'->VRep (Ap ok0 base Ak (updL bl wr) w') v val->K (a.put o.dst val) w')->
   o.wp P a w K Q
section
variable{P:Program}{o:Oper}{ρ:Operand->V}{bl:Nat->Option Blk}{v:V}
theorem H9{a:Act}{w w':World}{val:Value}(h:(execOp a.eval o).run P w=.ok (.value val) w'){K:Act->World->Prop}{Q:Exit->Act->World->Prop}(hk:K (a.put o.dst val) w'):o.wp P a w K Q:=by unfold Oper.wp;rw[h];exact hk
theorem Ol{a:Act}{w w':World}(h:(execOp a.eval o).run P w=.ok .skip w'){K:Act->World->Prop}{Q:Exit->Act->World->Prop}(hk:K (a.put o.dst undef) w'):o.wp P a w K Q:=by unfold Oper.wp;rw[h];exact hk
theorem OpOk.of_pure(h:∀(ok0:OK0 P)(base:Nat)(pl:Nat->Option Pl)(w:World)(a:Act),RelB ok0 base pl bl w->(∀x∈o.op.operands,VRep (Ap ok0 base pl bl w) (ρ x) (a.eval x))->∃val,(execOp a.eval o).run P w=.ok (.value val) w/\VRep (Ap ok0 base pl bl w) v val):OpOk P o ρ bl v []:=by
 intro ok0 base pl w a hr hx K Q hk;obtain⟨val,h1,h2⟩:=h ok0 base pl w a hr hx;exact H9 h1 (hk val pl w hr (Step.refl pl bl w) h2)
end
section
variable{P:Program}{ok0:OK0 P}{base:Nat}{pl:Nat->Option Pl}{bl:Nat->Option Blk}{w:World}
theorem RelB.put(hr:RelB ok0 base pl bl w){i:Nat}{B:Blk}{p:Pl}{w':World}(hs:Step pl bl w (upd pl i p) (upd bl i B) w')(hB:BRep (Ap ok0 base (upd pl i p) (upd bl i B) w') B p)(hg:∀j C q g,j≠i->bl j=some C->C.live=true->pl j=some q->q.has g->w'.heap[g]?=w.heap[g]?/\¬p.has g):RelB ok0 base (upd pl i p) (upd bl i B) w':=by
 refine⟨D2 hr.baseLe hs.size,λj C hC=>?_,λj k C D q r g Ant hC hD hlC hlD hq BD B8=>?_,λj hj=>?_,hr.glob.out hs.size hs.out⟩
 ·by_cases hj:j=i
  ·subst hj
   simp only[upd,D6,Ag]at hC;subst hC;exact⟨p,by simp[upd],hB⟩
  ·simp only[upd,hj,CF]at hC⊢
   obtain⟨q,hq,hBq⟩:=hr.blks j C hC;refine⟨q,hq,?_⟩;cases hl:C.live with
   |false=>cases C<;>first|exact trivial|simp[Blk.live]at hl
   |true=>exact BRep.mono hs.ext hBq λg B8=>(hg j C q g hj hC hl hq B8).1
 ·by_cases hj:j=i
  ·by_cases hk:k=i
   ·exact absurd (hj.trans hk.symm) Ant
   ·subst hj
    simp only[upd,D6,Ag,hk,CF]at hC hD hq BD;subst hC hq;intro RQ;exact(hg k D r g hk hD hlD BD RQ).2 B8
  ·by_cases hk:k=i
   ·subst hk
    simp only[upd,D6,Ag,hj,CF]at hC hD hq BD;subst hD BD;exact(hg j C q g hj hC hlC hq B8).2
   ·simp only[upd,hj,hk,CF]at hC hD hq BD
    exact hr.sep j k C D q r g Ant hC hD hlC hlD hq BD B8
 ·by_cases GU:j=i
  ·subst GU;simp[upd]at hj
  ·simp only[upd,GU,CF]at hj⊢
   exact hr.fresh j hj
theorem Own.lt(hr:RelB ok0 base pl bl w){g:Nat}(h:Own pl bl g):g<w.heap.size:=by
 obtain⟨i,B,p,hB,hl,hp,hg⟩:=h;obtain⟨q,hq,hR⟩:=hr.blks i B hB;rw[hp]at hq;injection hq with hq;subst hq;cases B with
 |dead=>simp[Blk.live]at hl
 |cells t cs=>
  cases p with
  |row _ _=>exact hR.elim
  |cells g'=>obtain⟨vs,h1,_⟩:=hR;have hg:g'=g:=hg;subst hg;exact(Ik.1 h1).1
 |map t k v vg l=>
  cases p with
  |row _ _=>exact hR.elim
  |cells g'=>obtain⟨es,CU,h1,_⟩:=hR;have hg:g'=g:=hg;subst hg;exact(Ik.1 h1).1
 |fmap t l=>
  cases p with
  |row _ _=>exact hR.elim
  |cells g'=>obtain⟨es,CU,h1,_⟩:=hR;have hg:g'=g:=hg;subst hg;exact(Ik.1 h1).1
 |row t e ver l=>
  cases p with
  |cells _=>exact hR.elim
  |row sv Ac=>obtain⟨h0,xs,_,h2⟩:=hR;subst h0;exact(h2.lt g (Pl.has_row hg)).2
 |mat t et e ver Ah hole l=>
  cases p with
  |cells _=>exact hR.elim
  |row sv Ac=>
   have hR:MatOk _ t et e hole l sv Ac:=hR;rcases hg with hg|⟨i,s,hs,hg⟩
   ·obtain⟨vs,h1,_⟩:=hR.outer
    exact(h1.lt g hg).2
   ·have Au:i<l.length:=by rw[<-hR.len];exact(EN.1 hs).1
    obtain⟨xs,_,h2⟩:=hR.inner i s l[i] hs (Ef Au);exact(h2.lt g hg).2
 |tree t e ver Ah hole l=>
  cases p with
  |cells _=>exact hR.elim
  |row sv Ac=>have hR:TreeOk _ t e hole l sv Ac:=hR;obtain⟨hv,F,h1,h2,_⟩:=hR.rep;obtain⟨s,hs,hg⟩:=h2.of_has hg;exact(h1.lt s hs g hg).2
theorem Step.new(hr:RelB ok0 base pl bl w){i:Nat}(hi:bl i=none){B:Blk}{p:Pl}{w':World}(hg:w.grownBy w' none)(hp:∀g,p.has g->w.heap.size<=g):Step pl bl w (upd pl i p) (upd bl i B) w':=by
 have AC:=hr.fresh i hi;refine⟨hg.os,hg.tape,hg.output,hg.size,λg Au ho=>⟨hg.block g Au (by simp),?_⟩,λb g hb=>?_,λb sv Ac hb=>?_⟩
 ·rintro⟨j,C,q,hC,hl,hq,B8⟩
  by_cases hj:j=i
  ·subst hj
   simp only[upd,D6,Ag]at hC hq;subst hq;have:=hp g B8;omega
  ·simp only[upd,hj,CF]at hC hq
   exact ho ⟨j,C,q,hC,hl,hq,B8⟩
 ·have CP:b≠i:=by rintro rfl;rw[AC]at hb;cases hb
  simp[upd,CP,hb]
 ·have CP:b≠i:=by rintro rfl;rw[AC]at hb;cases hb
  exact⟨sv,Ac,by simp[upd,CP,hb],KeepR.of_eq (λC hC=>by simpa [upd,CP]using hC) _ _⟩
theorem RelB.new(hr:RelB ok0 base pl bl w){i:Nat}(hi:bl i=none){B:Blk}{p:Pl}{w':World}(hg:w.grownBy w' none)(hp:∀g,p.has g->w.heap.size<=g)(hB:BRep (Ap ok0 base (upd pl i p) (upd bl i B) w') B p):RelB ok0 base (upd pl i p) (upd bl i B) w':=by
 refine hr.put (Step.new hr hi hg hp) hB λj C q g hj hC hl hq B8=>?_;have Au:g<w.heap.size:=Own.lt hr ⟨j,C,q,hC,hl,hq,B8⟩;refine⟨hg.block g Au (by simp),λDj=>?_⟩;have:=hp g Dj;omega
theorem Step.grownP(_hr:RelB ok0 base pl bl w){i:Nat}{B B':Blk}(hi:bl i=some B)(iK:B.live=true){sv Bd:Value}{Ac B6:List (Option Value)}(AC:pl i=some (.row sv Ac)){w':World}{og:Option Nat}(hg:w.grownBy w' og)(IB:∀g,og=some g->(Pl.row sv Ac).has g)(hv:∀g,(Pl.row Bd B6).has g->(Pl.row sv Ac).has g\/w.heap.size<=g)(hk:KeepR (some B) (some B') sv Ac Bd B6):Step pl bl w (upd pl i (.row Bd B6)) (upd bl i B') w':=by
 have Ao:∀g,(Pl.row sv Ac).has g->Own pl bl g:=λg h=>⟨i,_,_,hi,iK,AC,h⟩;refine⟨hg.os,hg.tape,hg.output,hg.size,λg Au ho=>⟨hg.block g Au (λh=>ho (Ao g (IB g h.symm))),?_⟩,λb g hb=>?_,λb sv0 X6 hb=>?_⟩
 ·rintro⟨j,C,q,hC,hl,hq,B8⟩
  by_cases hj:j=i
  ·subst hj
   simp only[upd,D6,Ag]at hC hq;subst hq;rcases hv g B8 with hv|hv
   ·exact ho (Ao g hv)
   ·omega
  ·simp only[upd,hj,CF]at hC hq
   exact ho ⟨j,C,q,hC,hl,hq,B8⟩
 ·have CP:b≠i:=by rintro rfl;rw[AC]at hb;cases hb
  simp[upd,CP,hb]
 ·by_cases CP:b=i
  ·subst CP
   rw[AC]at hb;injection hb with hb;injection hb with hb Aj;subst hb Aj;refine⟨Bd,B6,by simp[upd],?_⟩;rw[hi];simpa [upd]using hk
  ·exact⟨sv0,X6,by simp[upd,CP,hb],KeepR.of_eq (λC hC=>by simpa [upd,CP]using hC) _ _⟩
theorem RelB.grownP(hr:RelB ok0 base pl bl w){i:Nat}{B B':Blk}(hi:bl i=some B)(iK:B.live=true){sv Bd:Value}{Ac B6:List (Option Value)}(AC:pl i=some (.row sv Ac)){w':World}{og:Option Nat}(hg:w.grownBy w' og)(IB:∀g,og=some g->(Pl.row sv Ac).has g)(hv:∀g,(Pl.row Bd B6).has g->(Pl.row sv Ac).has g\/w.heap.size<=g)(hk:KeepR (some B) (some B') sv Ac Bd B6)(hB:BRep (Ap ok0 base (upd pl i (.row Bd B6)) (upd bl i B') w') B' (.row Bd B6)):RelB ok0 base (upd pl i (.row Bd B6)) (upd bl i B') w':=by
 refine hr.put (Step.grownP hr hi iK AC hg IB hv hk) hB λj C q g hj hC hl hq B8=>?_;have Au:g<w.heap.size:=Own.lt hr ⟨j,C,q,hC,hl,hq,B8⟩;have AW:¬(Pl.row sv Ac).has g:=λh=>hr.sep j i _ _ _ _ g hj hC hi hl iK hq AC B8 h;refine⟨hg.block g Au (λh=>AW (IB g h.symm)),λDj=>?_⟩;rcases hv g Dj with hv|hv
 ·exact AW hv
 ·omega
theorem KeepR.ofRow{t:TypeId}{e:Ty}{ver ver':Nat}{l l':List e.den}{sv Bd:Value}{Ac B6:List (Option Value)}(Bg:ver<=ver'/\(ver=ver'->Bd=sv/\l'.length=l.length)):KeepR (some (.row t e ver l)) (some (.row t e ver' l')) sv Ac Bd B6:=by
 constructor
 ·intro t1 e1 Dc l1 h1
  simp only[Ag]at h1;injection h1 with h2 h3 h4 h5;subst h2 h3 h4;simp only[IN]at h5;subst h5;exact⟨ver,l,rfl,Bg.1,Bg.2⟩
 ·intro t1 et1 e1 Dc Hz WR l1 h1
  cases h1
 ·intro t1 e1 Dc Hz WR l1 h1
  cases h1
theorem KeepR.ofTree{t:TypeId}{e:OT}{ver ver' Ah B9:Nat}{hole GY:Option Path}{l l':List e.ty.den}{sv Bd:Value}{Ac B6:List (Option Value)}(Bg:ver<=ver'/\Ah<=B9/\(ver=ver'->Bd=sv/\KeepT (Ah=B9) t e hole GY l l' sv Ac B6)):KeepR (some (.tree t e ver Ah hole l)) (some (.tree t e ver' B9 GY l')) sv Ac Bd B6:=by
 constructor
 ·intro t1 e1 Dc l1 h1
  cases h1
 ·intro t1 et1 e1 Dc Hz WR l1 h1
  cases h1
 ·intro t1 e1 Dc Hz WR l1 h1
  simp only[Ag]at h1;injection h1 with h2 h3 h4 h5 h6 h7;subst h2 h3 h4 h5 h6;simp only[IN]at h7;subst h7;exact⟨ver,Ah,hole,l,rfl,Bg.1,Bg.2.1,Bg.2.2⟩
theorem KeepR.ofDead{B:Option Blk}{sv Bd:Value}{Ac B6:List (Option Value)}:KeepR B (some .dead) sv Ac Bd B6:=
 ⟨λ_ _ _ _ h=>(by cases h),λ_ _ _ _ _ _ _ h=>(by cases h),λ_ _ _ _ _ _ h=>(by cases h)⟩
theorem Step.grown(_hr:RelB ok0 base pl bl w){i:Nat}{t:TypeId}{e:Ty}{ver ver':Nat}{l l':List e.den}(hi:bl i=some (.row t e ver l)){sv Bd:Value}(AC:pl i=some (.row sv [])){w':World}(hg:w.grownBy w' sv.ownBlock)(hv:Bd.ownBlock=sv.ownBlock\/∀g,Bd.ownBlock=some g->w.heap.size<=g)(Bg:ver<=ver'/\(ver=ver'->Bd=sv/\l'.length=l.length)):Step pl bl w (upd pl i (.row Bd [])) (upd bl i (.row t e ver' l')) w':=
 Step.grownP _hr hi rfl AC hg (λg h=>.inl h) (λg h=>by
  have h:=Pl.has_row h;rcases hv with hv|hv
  ·exact .inl (.inl (hv▸h))
  ·exact .inr (hv g h)) (KeepR.ofRow Bg)
theorem RelB.grown(hr:RelB ok0 base pl bl w){i:Nat}{t:TypeId}{e:Ty}{ver ver':Nat}{l l':List e.den}(hi:bl i=some (.row t e ver l)){sv Bd:Value}(AC:pl i=some (.row sv [])){w':World}(hg:w.grownBy w' sv.ownBlock)(hv:Bd.ownBlock=sv.ownBlock\/∀g,Bd.ownBlock=some g->w.heap.size<=g)(Bg:ver<=ver'/\(ver=ver'->Bd=sv/\l'.length=l.length))(hB:BRep (Ap ok0 base (upd pl i (.row Bd [])) (upd bl i (.row t e ver' l')) w') (.row t e ver' l') (.row Bd [])):RelB ok0 base (upd pl i (.row Bd [])) (upd bl i (.row t e ver' l')) w':=
 RelB.grownP hr hi rfl AC hg (λg h=>.inl h) (λg h=>by
  have h:=Pl.has_row h;rcases hv with hv|hv
  ·exact .inl (.inl (hv▸h))
  ·exact .inr (hv g h)) (KeepR.ofRow Bg) hB
theorem Step.wroteB(_hr:RelB ok0 base pl bl w){i g0:Nat}{B B':Blk}(hi:bl i=some B)(hl:B.live=true)(AC:pl i=some (.cells g0)){w':World}(hg:w.grownBy w' (some g0)):Step pl bl w (upd pl i (.cells g0)) (upd bl i B') w':=by
 have Ao:Own pl bl g0:=⟨i,_,_,hi,hl,AC,rfl⟩;refine⟨hg.os,hg.tape,hg.output,hg.size,λg Au ho=>⟨hg.block g Au (λh=>ho (by injection h with h;subst h;exact Ao)),?_⟩,λb g hb=>?_,λb sv0 X6 hb=>?_⟩
 ·rintro⟨j,C,q,hC,hl,hq,B8⟩
  by_cases hj:j=i
  ·subst hj
   simp only[upd,D6,Ag]at hC hq;subst hq;have B8:g0=g:=B8;subst B8;exact ho Ao
  ·simp only[upd,hj,CF]at hC hq
   exact ho ⟨j,C,q,hC,hl,hq,B8⟩
 ·by_cases CP:b=i
  ·subst CP;rw[AC]at hb;simpa [upd]using hb
  ·simp[upd,CP,hb]
 ·have CP:b≠i:=by rintro rfl;rw[AC]at hb;cases hb
  exact⟨sv0,X6,by simp[upd,CP,hb],KeepR.of_eq (λC hC=>by simpa [upd,CP]using hC) _ _⟩
theorem RelB.wroteB(hr:RelB ok0 base pl bl w){i g0:Nat}{B B':Blk}(hi:bl i=some B)(GG:B.live=true)(AC:pl i=some (.cells g0)){w':World}(hg:w.grownBy w' (some g0))(hB:BRep (Ap ok0 base (upd pl i (.cells g0)) (upd bl i B') w') B' (.cells g0)):RelB ok0 base (upd pl i (.cells g0)) (upd bl i B') w':=by
 refine hr.put (Step.wroteB hr hi GG AC hg) hB λj C q g hj hC hl hq B8=>?_;have Au:g<w.heap.size:=Own.lt hr ⟨j,C,q,hC,hl,hq,B8⟩;have AW:g0≠g:=λh=>hr.sep j i _ _ _ _ g hj hC hi hl GG hq AC B8 h;exact⟨hg.block g Au (λh=>AW (by injection h with h;exact h.symm)),λDj=>AW Dj⟩
theorem Step.wrote(hr:RelB ok0 base pl bl w){i g0:Nat}{t:TypeId}{cs cs':List C}(hi:bl i=some (.cells t cs))(AC:pl i=some (.cells g0)){w':World}(hg:w.grownBy w' (some g0)):Step pl bl w (upd pl i (.cells g0)) (upd bl i (.cells t cs')) w':=Step.wroteB hr hi rfl AC hg
theorem RelB.wrote(hr:RelB ok0 base pl bl w){i g0:Nat}{t:TypeId}{cs cs':List C}(hi:bl i=some (.cells t cs))(AC:pl i=some (.cells g0)){w':World}(hg:w.grownBy w' (some g0))(hB:BRep (Ap ok0 base (upd pl i (.cells g0)) (upd bl i (.cells t cs')) w') (.cells t cs') (.cells g0)):RelB ok0 base (upd pl i (.cells g0)) (upd bl i (.cells t cs')) w':=RelB.wroteB hr hi rfl AC hg hB
def C6(pl:Nat->Option Pl)(bl:Nat->Option Blk)(i g:Nat):Prop:=∃B p,bl i=some B/\B.live=true/\pl i=some p/\p.has g
theorem Step.two(_hr:RelB ok0 base pl bl w){i j:Nat}(Dw:i≠j){Bi Bj:Blk}{pi pj:Pl}{w':World}{og:Option Nat}(hg:w.grownBy w' og)(IB:∀g,og=some g->C6 pl bl i g\/C6 pl bl j g)(hi:∀g,Bi.live=true->pi.has g->C6 pl bl i g\/C6 pl bl j g\/w.heap.size<=g)(hj:∀g,Bj.live=true->pj.has g->C6 pl bl i g\/C6 pl bl j g\/w.heap.size<=g)(AG4:∀g,pl i=some (.cells g)->pi=.cells g)(W0:∀g,pl j=some (.cells g)->pj=.cells g)(AHh:∀sv Ac,pl i=some (.row sv Ac)->∃Bd B6,pi=.row Bd B6/\KeepR (bl i) (some Bi) sv Ac Bd B6)(AHi:∀sv Ac,pl j=some (.row sv Ac)->∃Bd B6,pj=.row Bd B6/\KeepR (bl j) (some Bj) sv Ac Bd B6):Step pl bl w (upd (upd pl i pi) j pj) (upd (upd bl i Bi) j Bj) w':=by
 have hOwn:∀k g,C6 pl bl k g->Own pl bl g:=λk g ⟨B,p,h1,h2,h3,h4⟩=>⟨k,B,p,h1,h2,h3,h4⟩;refine⟨hg.os,hg.tape,hg.output,hg.size,λg Au ho=>⟨hg.block g Au (λh=>?_),?_⟩,λb g hb=>?_,λb sv Ac hb=>?_⟩
 ·rcases IB g h.symm with h|h
  ·exact ho (hOwn i g h)
  ·exact ho (hOwn j g h)
 ·rintro⟨k,C,q,hC,hl,hq,B8⟩
  by_cases DN:k=j
  ·subst DN
   simp only[upd,D6,Ag]at hC hq;subst hq hC;rcases hj g hl B8 with h|h|h
   ·exact ho (hOwn i g h)
   ·exact ho (hOwn k g h)
   ·omega
  ·by_cases Fh:k=i
   ·subst Fh
    simp only[upd,DN,CF,D6,Ag]at hC hq;subst hq hC;rcases hi g hl B8 with h|h|h
    ·exact ho (hOwn k g h)
    ·exact ho (hOwn j g h)
    ·omega
   ·simp only[upd,DN,Fh,CF]at hC hq
    exact ho ⟨k,C,q,hC,hl,hq,B8⟩
 ·by_cases DN:b=j
  ·subst DN;simp[upd,W0 g hb]
  ·by_cases Fh:b=i
   ·subst Fh;simp[upd,DN,AG4 g hb]
   ·simp[upd,DN,Fh,hb]
 ·by_cases DN:b=j
  ·subst DN
   obtain⟨Bd,B6,h1,h2⟩:=AHi sv Ac hb;exact⟨Bd,B6,by simp[upd,h1],by simpa [upd]using h2⟩
  ·by_cases Fh:b=i
   ·subst Fh
    obtain⟨Bd,B6,h1,h2⟩:=AHh sv Ac hb;exact⟨Bd,B6,by simp[upd,DN,h1],by simpa [upd,DN]using h2⟩
   ·exact⟨sv,Ac,by simp[upd,DN,Fh,hb],KeepR.of_eq (λC hC=>by simpa [upd,DN,Fh]using hC) _ _⟩
theorem RelB.two(hr:RelB ok0 base pl bl w){i j:Nat}(Dw:i≠j){Bi Bj:Blk}{pi pj:Pl}{w':World}{og:Option Nat}(hg:w.grownBy w' og)(IB:∀g,og=some g->C6 pl bl i g\/C6 pl bl j g)(hi:∀g,Bi.live=true->pi.has g->C6 pl bl i g\/C6 pl bl j g\/w.heap.size<=g)(hj:∀g,Bj.live=true->pj.has g->C6 pl bl i g\/C6 pl bl j g\/w.heap.size<=g)(hd:∀g,Bi.live=true->Bj.live=true->pi.has g->¬pj.has g)(hs:Step pl bl w (upd (upd pl i pi) j pj) (upd (upd bl i Bi) j Bj) w')(hBi:BRep (Ap ok0 base (upd (upd pl i pi) j pj) (upd (upd bl i Bi) j Bj) w') Bi pi)(hBj:BRep (Ap ok0 base (upd (upd pl i pi) j pj) (upd (upd bl i Bi) j Bj) w') Bj pj):RelB ok0 base (upd (upd pl i pi) j pj) (upd (upd bl i Bi) j Bj) w':=by
 have Mz:∀k C q g,k≠i->k≠j->bl k=some C->C.live=true->pl k=some q->q.has g->w'.heap[g]?=w.heap[g]?/\(Bi.live=true->¬pi.has g)/\(Bj.live=true->¬pj.has g):=by
  intro k C q g Fh DN hC hl hq B8;have Au:g<w.heap.size:=Own.lt hr ⟨k,C,q,hC,hl,hq,B8⟩;have Mx:∀m,k≠m->¬C6 pl bl m g:=λm hm ⟨B,p,h1,h2,h3,h4⟩=>hr.sep k m C B q p g hm hC h1 hl h2 hq h3 B8 h4;refine⟨hg.block g Au (λh=>?_),λAaI h=>?_,λAGF h=>?_⟩
  ·rcases IB g h.symm with h|h
   ·exact Mx i Fh h
   ·exact Mx j DN h
  ·rcases hi g AaI h with h|h|h
   ·exact Mx i Fh h
   ·exact Mx j DN h
   ·omega
  ·rcases hj g AGF h with h|h|h
   ·exact Mx i Fh h
   ·exact Mx j DN h
   ·omega
 have An:∀k,upd (upd bl i Bi) j Bj k=if k=j then some Bj else if k=i then some Bi else bl k:=λk=>rfl;have Ba:∀k,upd (upd pl i pi) j pj k=if k=j then some pj else if k=i then some pi else pl k:=λk=>rfl;refine⟨D2 hr.baseLe hs.size,λk C hC=>?_,λk m C D q r g Jj hC hD hlC hlD hq BD B8=>?_,λk hk=>?_,hr.glob.out hs.size hs.out⟩
 ·by_cases DN:k=j
  ·subst DN
   simp only[upd,D6,Ag]at hC;subst hC;exact⟨pj,by simp[upd],hBj⟩
  ·by_cases Fh:k=i
   ·subst Fh
    simp only[upd,DN,CF,D6,Ag]at hC;subst hC;exact⟨pi,by simp[upd,DN],hBi⟩
   ·simp only[upd,DN,Fh,CF]at hC⊢
    obtain⟨q,hq,hBq⟩:=hr.blks k C hC;refine⟨q,hq,?_⟩;cases hl:C.live with
    |false=>cases C<;>first|exact trivial|simp[Blk.live]at hl
    |true=>exact BRep.mono hs.ext hBq λg B8=>(Mz k C q g Fh DN hC hl hq B8).1
 ·rw[An]at hC hD
  rw[Ba]at hq BD;by_cases DN:k=j
  ·subst DN
   have P7:m≠k:=λh=>Jj h.symm;simp only[D6,P7,CF,Ag]at hC hD hq BD;subst hC hq;by_cases RM:m=i
   ·subst RM
    simp only[D6,Ag]at hD BD;subst hD BD;exact λh=>hd g hlD hlC h B8
   ·simp only[RM,CF]at hD BD
    exact λh=>(Mz m D r g RM P7 hD hlD BD h).2.2 hlC B8
  ·by_cases Fh:k=i
   ·subst Fh
    simp only[DN,CF,D6,Ag]at hC hq;subst hC hq;by_cases P6:m=j
    ·subst P6
     simp only[D6,Ag]at hD BD;subst hD BD;exact hd g hlC hlD B8
    ·have P7:m≠k:=λh=>Jj h.symm
     simp only[P6,P7,CF]at hD BD;exact λh=>(Mz m D r g P7 P6 hD hlD BD h).2.1 hlC B8
   ·simp only[DN,Fh,CF]at hC hq
    by_cases P6:m=j
    ·subst P6
     simp only[D6,Ag]at hD BD;subst hD BD;exact(Mz k C q g Fh DN hC hlC hq B8).2.2 hlD
    ·by_cases RM:m=i
     ·subst RM
      simp only[P6,CF,D6,Ag]at hD BD;subst hD BD;exact(Mz k C q g Fh DN hC hlC hq B8).2.1 hlD
     ·simp only[P6,RM,CF]at hD BD
      exact hr.sep k m C D q r g Jj hC hD hlC hlD hq BD B8
 ·rw[An]at hk
  rw[Ba];by_cases DN:k=j
  ·simp[DN]at hk
  ·by_cases Fh:k=i
   ·simp[Fh]at hk
    split at hk<;>cases hk
   ·simp only[DN,Fh,CF]at hk⊢
    exact hr.fresh k hk
end
end Go.Lift
namespace Go.Lift
open Go.RowKit
def IS(P:Program)(t:TypeId):Bool:=
 match P.underlying t with
 |some (.struct _)|some (.array _ _)=>true
 |_=>false
def tyOf(P:Program):Nat->TypeId->Option Ty
 |0,_=>none
 |n+1,t=>
  match P.underlying t with
  |some .bool=>some .bool
  |some (.int k)=>some (.int k)
  |some .string=>some .str
  |some (.interface ms)=>bif decide (ms=P.methodsAt t)then some .err else none
  |some (.slice e)=>(tyOf P n e).map .slice
  |some (.struct fs)=>many (fs.toList.map λf=>tyOf P n f.type)
  |some (.array m e)=>many (List.replicate m (tyOf P n e))
  |_=>none
 where
 many:List (Option Ty)->Option Ty
  |[]=>some .unit
  |[t]=>t
  |some t::r=>(many r).map (.prod t)
  |none::_=>none
def zeroC(v:Value):C:=
 match C.ofValue v with
 |some c=>c
 |none=>.junk
def KO(P:Program)(t:TypeId):Option BK:=
 match P.underlying t with
 |some .bool=>some .b
 |some (.int _)=>some .i
 |some .string=>some .s
 |_=>none
def SN(P:Program):Nat->List Field->Option (List BK)
 |_,[]=>some []
 |i,f::fs=>
  bif f.name != "_"&&Nat.beq f.offset i then
   match KO P f.type,SN P (i+1) fs with
   |some k,some ks=>some (k::ks)
   |_,_=>none
  else none
def Aco(P:Program)(t:TypeId):Option (List BK):=
 match P.underlying t,P.info? t with
 |some (.struct gs),some i=>
  match SN P 0 gs.toList with
  |some js=>bif !P.stoodInHeld t&&Nat.beq i.size js.length then some js else none
  |none=>none
 |_,_=>none
def Q1(P:Program):Nat->List Field->Option (List BK)
 |_,[]=>some []
 |i,f::fs=>
  bif f.name != "_"&&Nat.beq f.offset i then
   match KO P f.type with
   |some k=>
    match Q1 P (i+1) fs with
    |some ks=>some (k::ks)
    |none=>none
   |none=>
    match Aco P f.type with
    |some js=>
     match Q1 P (i+js.length) fs with
     |some ks=>some (js++ks)
     |none=>none
    |none=>none
  else none
def SO(P:Program)(t:TypeId):Option (List BK):=
 match P.underlying t with
 |some (.struct fs)=>bif P.stoodInHeld t||P.eqGuardType P.depth t then none else Q1 P 0 fs.toList
 |some (.array n e)=>
  match KO P e with
  |some k=>bif Nat.beq (P.cellsOf e) 1&&!P.eqGuardType P.depth t then some (List.replicate n k)else none
  |none=>none
 |_=>none
def Yt(P:Program):TypeDesc->List (Nat×Nat×Bool)
 |.struct fs=>fs.toList.map λf=>(f.offset,P.cellsOf f.type,IS P f.type)
 |_=>[]
def Yu:TypeDesc->Option TypeId
 |.slice e=>some e
 |.array _ e=>some e
 |_=>none
def lenD:TypeDesc->Option Nat
 |.array n _=>some n
 |_=>none
def Q2:TypeDesc->Option IntKind
 |.int k=>some k
 |_=>none
def Q3(P:Program):TypeDesc->Bool
 |.struct fs=>fs.toList.all λf=>(P.info? f.type).isSome&&(P.underlying f.type).isSome
 |.slice e=>(P.info? e).isSome&&(P.underlying e).isSome
 |.array _ e=>(P.info? e).isSome&&(P.underlying e).isSome
 |_=>true
def mpD:TypeDesc->Option (TypeId×TypeId)
 |.map k v=>some (k,v)
 |_=>none
def Yv:TypeDesc->Bool
 |.string=>true
 |_=>false
def Yw:TypeDesc->Bool
 |.bool=>true
 |_=>false
def lL:TypeDesc->Bool
 |.pointer _=>true
 |_=>false
def SP:Value->Bool
 |.agg _=>true
 |_=>false
def tiOf(P:Program)(t:TypeId):Option TI:=
 match P.info? t,P.underlying t with
 |some i,some d=>
  match i.zero with
  |some z=>
   bif z.cells.toList.all (·.oneCell')&&(Nat.beq z.cells.toList.length i.size&&(Q3 P d&&(SP z==IS P t)))then
    some {
     agg:=IS P t
     size:=i.size
     bytes:=i.bytes
     zero:=z.cells.toList.map zeroC
     flds:=Yt P d
     elem:=Yu d
     len:=lenD d
     ty:=tyOf P 12 t
     kind:=Q2 d
     isBool:=Yw d
     isStr:=Yv d
     eqs:=SO P t
     mp:=mpD d
     ptr:=lL d}
   else none
  |none=>none
 |_,_=>none
def TOk(P:Program)(T:TypeId->Option TI):Prop:=∀t ti,T t=some ti->tiOf P t=some ti
structure TFacts (P:Program) (t:TypeId) (ti:TI) (i:TypeInfo) (d:TypeDesc) (z:Value):Prop where
 info:P.info? t=some i
 under:P.underlying t=some d
 zero:i.zero=some z
 agg:ti.agg=IS P t
 size:ti.size=i.size
 bytes:ti.bytes=i.bytes
 zeroC:ti.zero=z.cells.toList.map zeroC
 one:z.cells.toList.all (·.oneCell')=true
 len:z.cells.toList.length=i.size
 known:Q3 P d=true
 flds:ti.flds=Yt P d
 elem:ti.elem=Yu d
 alen:ti.len=lenD d
 kind:ti.kind=Q2 d
 isBool:ti.isBool=Yw d
 isStr:ti.isStr=Yv d
 eqs:ti.eqs=SO P t
 mp:ti.mp=mpD d
 ptr:ti.ptr=lL d
 ty:ti.ty=tyOf P 12 t
 zagg:SP z=IS P t
theorem TOk.facts{P:Program}{T:TypeId->Option TI}(h:TOk P T){t:TypeId}{ti:TI}(ht:T t=some ti):∃i d z,TFacts P t ti i d z:=by
 have h1:=h t ti ht;unfold tiOf at h1;split at h1
 ·rename_i i d hi hd
  split at h1
  ·rename_i z hz
   cases hb:(z.cells.toList.all (·.oneCell')&&(Nat.beq z.cells.toList.length i.size&&(Q3 P d&&(SP z==IS P t))))with
   |false=>rw[hb]at h1;cases h1
   |true=>simp only[hb,Ar,Ag]at h1;subst h1;simp only[CE]at hb;exact⟨i,d,z,hi,hd,hz,rfl,rfl,rfl,rfl,hb.1,Az hb.2.1,hb.2.2.1,rfl,rfl,rfl,rfl,rfl,rfl,rfl,rfl,rfl,rfl,by simpa using hb.2.2.2⟩
  ·cases h1
 ·cases h1
theorem C.ofValue_rep{E:Env}{v:Value}{c:C}(h:C.ofValue v=some c):CRep E c v:=by
 unfold C.ofValue at h
 split at h<;>first
  |(simp only[Ag]at h;subst h;rfl)
  |cases h
theorem Apf{E:Env}{v:Value}(h:v.oneCell'=true):CRep E (zeroC v) v:=by
 unfold zeroC;cases hc:C.ofValue v with
 |none=>exact h
 |some c=>exact C.ofValue_rep hc
theorem MW{E:Env}:∀{vs:List Value},vs.all (·.oneCell')=true->CReps E (vs.map zeroC) vs
 |[],_=>rfl
 |v::vs,h=>by simp only[Yd,CE]at h;exact⟨v,vs,rfl,Apf h.1,MW h.2⟩
theorem C.ofValues_rep{E:Env}:∀{vs:List Value}{cs:List C},C.ofValues vs=some cs->CReps E cs vs
 |[],cs,h=>by simp only[C.ofValues,Ag]at h;subst h;rfl
 |v::vs,cs,h=>by
  simp only[C.ofValues]at h;split at h
  ·rename_i x xs hx Af
   simp only[Ag]at h;subst h;exact⟨v,vs,rfl,C.ofValue_rep hx,C.ofValues_rep Af⟩
  ·cases h
theorem V.ofValue_rep{E:Env}(v:Value):VRep E (V.ofValue v) v:=by
 unfold V.ofValue;split
 ·rename_i cs
  split
  ·rename_i l hl
   exact⟨cs.toList,C.ofValues_rep hl,by simp⟩
  ·exact trivial
 ·split
  ·rename_i x hx
   exact C.ofValue_rep hx
  ·exact trivial
section
variable{E:Env}
theorem CReps.append:∀{cs ds:List C}{vs us:List Value},CReps E cs vs->CReps E ds us->CReps E (cs++ds) (vs++us)
 |[],_,_,_,h,k=>by simp only[CReps]at h;subst h;simpa using k
 |_::_,_,_,_,⟨v,Av,e,h,ht⟩,k=>⟨v,Av++_,by rw[e];rfl,h,CReps.append ht k⟩
theorem CReps.drop:∀{cs:List C}{vs:List Value}(n:Nat),CReps E cs vs->CReps E (cs.drop n) (vs.drop n)
 |[],_,n,h=>by simp only[CReps]at h;subst h;simp[CReps]
 |_::_,_,0,h=>by simpa using h
 |_::_,_,n+1,⟨v,Av,e,h,ht⟩=>by subst e;simpa using CReps.drop n ht
theorem CReps.take:∀{cs:List C}{vs:List Value}(n:Nat),CReps E cs vs->CReps E (cs.take n) (vs.take n)
 |[],_,n,h=>by simp only[CReps]at h;subst h;simp[CReps]
 |_::_,_,0,h=>by simp[CReps]
 |_::_,_,n+1,⟨v,Av,e,h,ht⟩=>by subst e;exact⟨v,Av.take n,by simp,h,CReps.take n ht⟩
theorem CReps.split:∀{cs ds:List C}{vs:List Value},CReps E (cs++ds) vs->∃us ws,vs=us++ws/\CReps E cs us/\CReps E ds ws
 |[],_,vs,h=>⟨[],vs,rfl,rfl,h⟩
 |_::cs,_,_,⟨v,Av,e,h,ht⟩=>by obtain⟨us,ws,e',h1,h2⟩:=CReps.split (cs:=cs) ht;exact⟨v::us,ws,by rw[e,e'];rfl,⟨v,us,rfl,h,h1⟩,h2⟩
theorem CReps.oneCell:∀{cs:List C}{vs:List Value},CReps E cs vs->∀v∈vs,v.oneCell'=true
 |[],_,h,v,hv=>by simp only[CReps]at h;subst h;simp at hv
 |_::_,_,⟨u,Av,e,h,ht⟩,v,hv=>by
  subst e;rcases Bw.1 hv with rfl|hv
  ·exact CRep.oneCell h
  ·exact CReps.oneCell ht v hv
theorem VRep.cells_of{x:V}{cs:List C}{v:Value}(hx:x.cells=some cs)(h:VRep E x v):CReps E cs v.cells.toList:=by
 cases x with
 |c c=>simp only[V.cells,Ag]at hx;subst hx;have h1:=CRep.oneCell h;refine⟨v,[],?_,h,rfl⟩;cases v<;>first|rfl|simp[Value.oneCell']at h1
 |agg ds=>simp only[V.cells,Ag]at hx;subst hx;obtain⟨vs,h1,h2⟩:=h;simp only[D6]at h2;subst h2;simpa [Value.cells]using h1
 |junk=>simp[V.cells]at hx
 |tup _=>simp[V.cells]at hx
 |eptr _ _ _ _=>simp[V.cells]at hx
 |lptr _ _ _=>simp[V.cells]at hx
 |arr _ _ _ _=>simp[V.cells]at hx
 |mcell _ _ _=>simp[V.cells]at hx
 |mptr _ _ _ _ _=>simp[V.cells]at hx
theorem VRep.mk{agg:Bool}{cs:List C}{v:Value}(h:SRep E agg cs v):VRep E (V.mk agg cs) v:=by
 unfold V.mk;cases agg with
 |true=>exact h
 |false=>
  simp only[Cd];split
  ·rename_i x
   obtain⟨vs,h1,h2⟩:=h;simp only[Il,CF]at h2;subst h2;obtain⟨u,us,e,h3,h4⟩:=h1;simp only[D1]at e;rw[e.1];exact h3
  ·exact trivial
theorem HS:∀{τ:Ty}{x:τ.den}{vs:List Value},DRep E.w E.ok τ x vs->CReps E (cells τ x) vs
 |.bool,_,_,h=>⟨_,[],h,rfl,rfl⟩
 |.int _,_,_,h=>⟨_,[],h,rfl,rfl⟩
 |.str,_,_,h=>⟨_,[],h,rfl,rfl⟩
 |.err,_,_,h=>by simp only[DRep]at h;obtain⟨v,e,hv⟩:=h;exact⟨v,[],e,hv,rfl⟩
 |.unit,_,_,h=>h
 |.prod a b,_,_,h=>by simp only[DRep]at h;obtain⟨u,v,e,h1,h2⟩:=h;rw[e];exact(HS h1).append (HS h2)
 |.slice e,l,vs,h=>by have h':=h;simp only[DRep]at h';obtain⟨A,c,xs,e1,_⟩:=h';subst e1;exact⟨_,[],rfl,h,rfl⟩
theorem lM:∀(τ:Ty)(x:τ.den),(cells τ x).length=τ.size
 |.bool,_=>rfl
 |.int _,_=>rfl
 |.str,_=>rfl
 |.err,_=>rfl
 |.unit,_=>rfl
 |.prod a b,x=>by simp[cells,Ty.size,lM a,lM b]
 |.slice _,_=>rfl
theorem Om{cs:List C}{vs:List Value}{o n:Nat}{r:List C}(h:CReps E cs vs)(hs:sub cs o n=some r):CReps E r ((vs.drop o).take n)/\((vs.drop o).take n).length=n/\o+n<=vs.length:=by
 unfold sub at hs;cases hb:Nat.ble (o+n) cs.length with
 |false=>simp[hb]at hs
 |true=>simp only[hb,Ar,Ag]at hs;subst hs;have BS:o+n<=cs.length:=HQ hb;have hl:=h.length;exact⟨(h.drop o).take n,by simp;omega,by omega⟩
theorem SQ:∀{cs:List C}{vs:List Value}{o:Nat}{new:List C}{us:List Value}{r:List C},CReps E cs vs->CReps E new us->over cs o new=some r->CReps E r (vs.take o++us++vs.drop (o+us.length))/\o+us.length<=vs.length
 |cs,vs,0,new,us,r,h,hn,ho=>by
  unfold over at ho;cases hb:Nat.ble new.length cs.length with
  |false=>simp[hb]at ho
  |true=>simp only[hb,Ar,Ag]at ho;subst ho;have BS:new.length<=cs.length:=HQ hb;have h1:=h.length;have h2:=hn.length;refine⟨?_,by omega⟩;simp only[List.take_zero,Fl,Ei];rw[h2];exact hn.append (h.drop _)
 |[],_,o+1,_,_,_,_,_,ho=>by simp[over]at ho
 |c::cs,vs,o+1,new,us,r,⟨v,Av,e,h,ht⟩,hn,ho=>by
  simp only[over]at ho;split at ho
  ·rename_i r' BD
   simp only[Ag]at ho;subst ho e;obtain⟨h1,h2⟩:=SQ ht hn BD;refine⟨⟨v,_,?_,h,h1⟩,by simp;omega⟩;have:o+1+us.length=(o+us.length)+1:=by omega
   rw[this];simp
  ·cases ho
end
end Go.Lift
namespace Go.Lift
open Go.RowKit
theorem andB{a b:Bool}(h:(a&&b)=true):a=true/\b=true:=by simpa using h
theorem DL{β:Type}{c:Bool}{x:Option β}{r:β}(h:D8 c x=some r):c=true/\x=some r:=by
 cases c with
 |false=>cases h
 |true=>exact⟨rfl,h⟩
structure Rows (E:Env) (blp:Nat->Option Blk) (okp:Nat->Prop) (ids:List Nat):Prop where
 ok:∀g,E.ok g->okp g
 row:∀b∈ids,∀t e ver l,blp b=some (.row t e ver l)->E.bl b=some (.row t e ver l)/\∀sv g,E.pl b=some (.row sv [])->sv.ownBlock=some g->okp g
 mat:∀b∈ids,∀t et e ver Ah hole l,blp b=some (.mat t et e ver Ah hole l)->E.bl b=some (.mat t et e ver Ah hole l)/\∀sv Ac g,E.pl b=some (.row sv Ac)->(Pl.row sv Ac).has g->okp g
 tree:∀b∈ids,∀t e ver Ah h l,blp b=some (.tree t e ver Ah h l)->E.bl b=some (.tree t e ver Ah h l)/\∀sv Ac g,E.pl b=some (.row sv Ac)->(Pl.row sv Ac).has g->okp g
theorem DList.take{w:World}{ok:Nat->Prop}{e:Ty}:∀{l:List e.den}{xs:List Value}(n:Nat),DList (λx u=>DRep w ok e x u) l xs->DList (λx u=>DRep w ok e x u) (l.take n) (xs.take (n*e.size))
 |[],_,n,h=>by simp only[DList]at h;subst h;simp[DList]
 |_::_,_,0,h=>by simp[DList]
 |x::l,xs,n+1,⟨u,v,e1,hr,ht⟩=>by refine⟨u,v.take (n*e.size),?_,hr,DList.take n ht⟩;have hu:=hr.length;rw[e1,In,XX,Hb (by omega)];congr 2;omega
theorem DList.drop{w:World}{ok:Nat->Prop}{e:Ty}:∀{l:List e.den}{xs:List Value}(n:Nat),DList (λx u=>DRep w ok e x u) l xs->DList (λx u=>DRep w ok e x u) (l.drop n) (xs.drop (n*e.size))
 |[],_,n,h=>by simp only[DList]at h;subst h;simp[DList]
 |_::_,_,0,h=>by simpa using h
 |x::l,xs,n+1,⟨u,v,e1,hr,ht⟩=>by
  have hu:=hr.length;have h2:=DList.drop n ht
  have e2:xs.drop ((n+1)*e.size)=v.drop (n*e.size):=by rw[e1,In,XY,NU (l:=u) (by omega),Fl];congr 1;omega
  rw[e2];simpa using h2
theorem Yx{c:C}{cs:List C}{b:Nat}(h:b∈CA cs):b∈CA (c::cs):=by cases c<;>simp_all [CA]
theorem Rows.tail{E:Env}{blp:Nat->Option Blk}{okp:Nat->Prop}{c:C}{cs:List C}(h:Rows E blp okp (CA (c::cs))):Rows E blp okp (CA cs):=
 ⟨h.ok,λb hb=>h.row b (Yx hb),λb hb=>h.mat b (Yx hb),λb hb=>h.tree b (Yx hb)⟩
theorem Rows.sub{E:Env}{blp:Nat->Option Blk}{okp:Nat->Prop}{a b:List Nat}(h:Rows E blp okp a)(hs:∀x∈b,x∈a):Rows E blp okp b:=⟨h.ok,λx hx=>h.row x (hs x hx),λx hx=>h.mat x (hs x hx),λx hx=>h.tree x (hs x hx)⟩
theorem SR:∀(cs ds:List C),CA (cs++ds)=CA cs++CA ds
 |[],_=>rfl
 |c::cs,ds=>by cases c<;>simp[CA,SR cs ds]
def Ek(E:Env):Prop:=∀i B,E.bl i=some B->∃p,E.pl i=some p/\BRep E B p
theorem Yy{E:Env}{blp:Nat->Option Blk}(hb:Ek E){b ver:Nat}{e:Ty}{l:List e.den}(Bf:∀t e ver l,blp b=some (.row t e ver l)->E.bl b=some (.row t e ver l))(h:Ip blp b ver e=some l):∃t sv xs,blp b=some (.row t e ver l)/\E.bl b=some (.row t e ver l)/\E.pl b=some (.row sv [])/\DList (λx u=>DRep E.w E.ok e x u) l xs/\E.w.ownsRow E.base t e.size sv l.length xs:=by
 unfold Ip at h;split at h
 ·rename_i t e' ver' l' Wx
  have An:=Bf _ _ _ _ Wx;cases Bg:Nat.beq ver ver' with
  |false=>rw[Bg]at h;cases h
  |true=>
   have:ver=ver':=Az Bg;subst this;simp only[Bg,Ar]at h;split at h
   ·rename_i he
    subst he;simp only[Ag]at h;subst h;obtain⟨p,Di,hB⟩:=hb b _ An;cases p with
    |cells _=>exact hB.elim
    |row sv Ac=>obtain⟨h0,xs,hd,ho⟩:=hB;subst h0;exact⟨t,sv,xs,Wx,An,Di,hd,ho⟩
   ·cases h
 ·cases h
theorem lN{E:Env}{blp:Nat->Option Blk}(hb:Ek E){b ver:Nat}{e:Ty}{l:List e.den}(Bf:∀t e ver l,blp b=some (.row t e ver l)->E.bl b=some (.row t e ver l))(h:Ip blp b ver e=some l){v:Value}(hv:CRep E (.row b ver) v):∃t sv xs,E.bl b=some (.row t e ver l)/\E.pl b=some (.row sv [])/\v=sv/\DList (λx u=>DRep E.w E.ok e x u) l xs/\E.w.ownsRow E.base t e.size sv l.length xs:=by
 obtain⟨t,sv,xs,_,An,hp,hd,ho⟩:=Yy hb Bf h;obtain⟨h1,sv2,K4,CD,Bt⟩:=hv;rw[hp]at CD;injection CD with CD;injection CD with CD _;subst CD;exact⟨t,sv,xs,An,hp,(Bt t e ver l An).2 rfl,hd,ho⟩
theorem lO{w:World}{okI:Nat->Prop}{base:Nat}{t:TypeId}{e:Ty}{l:List e.den}{sv v:Value}{xs:List Value}{i j:Nat}(Dw:i<=j/\j<=l.length/\∃A A' n c,sv=.slice A n c/\v=.slice A' (j-i) (c-i)/\(i<j->A'=A.map (·.add (i*e.size)))/\(i=0->A'=A))(hd:DList (λx u=>DRep w okI e x u) l xs)(ho:w.ownsRow base t e.size sv l.length xs):∃A c ys,v=.slice A ((l.take j).drop i).length c/\((l.take j).drop i).length<=c/\c<=maxLen/\DList (λx u=>DRep w okI e x u) ((l.take j).drop i) ys/\∀k u,ys[k]?=some u->∃ad,A=some ad/\sv.ownBlock=some ad.block/\w.cell? (ad.add k)=some u:=by
 obtain⟨h1,h2,A,A',n,c,Aw,hv,hA,_⟩:=Dw;have Bp:((l.take j).drop i).length=j-i:=by simp;omega
 have Ao:=ho
 have hc:l.length<=c/\c<=maxLen:=by
  rcases ho.2 with⟨e1,hn⟩|⟨g,cap,AP,e1,Cm,hh,Ft,Fs,Df,IF⟩
  ·rw[Aw]at e1
   injection e1 with _ _ e3;subst e3;exact⟨by omega,by simp[maxLen]⟩
  ·rw[Aw]at e1
   injection e1 with _ _ e3;subst e3;exact⟨Ft,Fs⟩
 refine⟨A',c-i,(xs.take (j*e.size)).drop (i*e.size),by rw[hv,Bp],by rw[Bp];omega,by omega,(hd.take j).drop i,λk u hk=>?_⟩;rw[NV,ML]at hk;split at hk
 ·rename_i Au
  have Dw:i<j:=by
   rcases Ql i j with h|h
   ·exact h
   ·have:j*e.size<=i*e.size:=L9 _ h
    omega
  rcases ho.2 with⟨e1,hn⟩|⟨g,cap,AP,e1,Cm,hh,Ft,Fs,Df,IF⟩
  ·have:l=[]:=IK hn
   subst this;simp at h2;omega
  ·rw[Aw]at e1
   injection e1 with e1 _ _;subst e1;refine⟨(⟨g,0,none⟩:Addr).add (i*e.size),hA Dw,by rw[Aw,LE];rfl,?_⟩;rw[MT];exact Ao.cells (g:=g) (by rw[Aw];rfl) _ _ hk
 ·cases hk
theorem Acp{E:Env}{okp:Nat->Prop}(D3:∀g,E.ok g->okp g){t:TypeId}{e:Ty}{l:List e.den}{sv:Value}{xs:List Value}(hg:∀g,sv.ownBlock=some g->okp g)(hd:DList (λx u=>DRep E.w E.ok e x u) l xs)(ho:E.w.ownsRow E.base t e.size sv l.length xs):DRep E.w okp (.slice e) l [sv]:=by
 simp only[DRep];have Cv:DList (λx u=>DRep E.w okp e x u) l xs:=hd.mono λx u hu=>hu.mono (λg h1 _=>⟨D3 g h1,rfl⟩);have Ao:=ho;rcases ho.2 with⟨rfl,hn⟩|⟨g,cap,AP,rfl,Cm,hh,Ft,Fs,Df,IF⟩
 ·have hl:l=[]:=IK hn
  subst hl;simp only[DList]at Cv;subst Cv;exact⟨none,0,[],rfl,by simp,by simp[maxLen],rfl,by simp⟩
 ·refine⟨some ⟨g,0,none⟩,cap,xs,rfl,Ft,Fs,Cv,λj u hj=>⟨_,rfl,hg g rfl,Ao.cells (g:=g) rfl j u hj⟩⟩
theorem Apg{blp:Nat->Option Blk}{b ver:Nat}{e:Ty}{l:List e.den}(h:S5 blp b ver e=some l):∃t o Ah,∃(l':List o.ty.den)(he:o.ty=e),blp b=some (.tree t o ver Ah none l')/\l=he▸l':=by
 unfold S5 at h;split at h
 ·rename_i t o ver' Ah l' An
  cases hv:Nat.beq ver ver' with
  |false=>rw[hv]at h;cases h
  |true=>
   have:=Az hv;subst this;rw[hv,Ar]at h;split at h
   ·rename_i he
    simp only[Ag]at h;exact⟨t,o,Ah,l',he,An,h.symm⟩
   ·cases h
 ·cases h
theorem Yz{E:Env}(hb:Ek E){b ver:Nat}{t:TypeId}{o:OT}{Ah:Nat}{h:Option Path}{l:List o.ty.den}(An:E.bl b=some (.tree t o ver Ah h l)){v:Value}(hv:CRep E (.trow b ver []) v):∃Ac,E.pl b=some (.row v Ac)/\TreeOk E t o h l v Ac:=by
 obtain⟨_,sv,Ac,Ba,Bt⟩:=hv;obtain⟨p,hp,hB⟩:=hb b _ An;rw[Ba]at hp;injection hp with hp;subst hp;have hT:TreeOk E t o h l sv Ac:=hB;obtain⟨n,_,h2⟩:=(Bt _ _ _ _ _ _ An).2 rfl (λq hq Jm=>hT.top (by rw[hq,List.prefix_nil.1 Jm]));have h3:sv=v:=by simpa [nix]using h2
 subst h3;exact⟨Ac,Ba,hT⟩
theorem Acq{E:Env}{blp:Nat->Option Blk}{okp:Nat->Prop}(D3:∀g,E.ok g->okp g)(hb:Ek E){b ver:Nat}{e:Ty}{l:List e.den}(hr:∀t e ver Ah h l,blp b=some (.tree t e ver Ah h l)->E.bl b=some (.tree t e ver Ah h l)/\∀sv Ac g,E.pl b=some (.row sv Ac)->(Pl.row sv Ac).has g->okp g)(h:S5 blp b ver e=some l){v:Value}(hv:CRep E (.trow b ver []) v):DRep E.w okp (.slice e) l [v]:=by
 obtain⟨t,o,Ah,l',he,An,rfl⟩:=Apg h;subst he;obtain⟨DX,Ao⟩:=hr _ _ _ _ _ _ An;obtain⟨Ac,Ba,hT⟩:=Yz hb DX hv;obtain⟨NL,F,h1,h2,_⟩:=hT.rep;exact Owns.data (o:=.r t o) D3 (λs hs g hg=>Ao _ _ g Ba (Placed.has h2 hs hg)) h1
theorem On{E:Env}{blp:Nat->Option Blk}{okp:Nat->Prop}(hb:Ek E):∀{τ:Ty}{cs:List C}{vs:List Value}{x:τ.den}{r:List C},Rows E blp okp (CA cs)->CReps E cs vs->pack blp τ cs=some (x,r)->∃us ws,vs=us++ws/\DRep E.w okp τ x us/\CReps E r ws/\(∃ds,cs=ds++r)
 |.bool,cs,vs,x,r,hr,h,hp=>by
  cases cs with
  |nil=>simp[pack]at hp
  |cons c cs=>
   cases c<;>simp only[pack]at hp<;>try(cases hp;done)
   simp only[Ag,BQ]at hp;obtain⟨EJ,CD⟩:=hp;subst EJ CD;obtain⟨v,Av,e,h1,h2⟩:=h;simp only[CRep]at h1;subst e h1;exact⟨[_],Av,rfl,rfl,h2,⟨[_],rfl⟩⟩
 |.int k,cs,vs,x,r,hr,h,hp=>by
  cases cs with
  |nil=>simp[pack]at hp
  |cons c cs=>
   cases c<;>simp only[pack]at hp<;>try(cases hp;done)
   rename_i k' n;split at hp
   ·rename_i hk
    subst hk;simp only[Ag,BQ]at hp;obtain⟨EJ,CD⟩:=hp;subst EJ CD;obtain⟨v,Av,e,h1,h2⟩:=h;simp only[CRep]at h1;subst e h1;exact⟨[_],Av,rfl,rfl,h2,⟨[_],rfl⟩⟩
   ·cases hp
 |.err,cs,vs,x,r,hr,h,hp=>by
  cases cs with
  |nil=>simp[pack]at hp
  |cons c cs=>
   cases c<;>simp only[pack]at hp<;>try(cases hp;done)
   simp only[Ag,BQ]at hp;obtain⟨EJ,CD⟩:=hp;subst EJ CD;obtain⟨v,Av,e,h1,h2⟩:=h;subst e;exact⟨[v],Av,rfl,⟨v,rfl,h1⟩,h2,⟨[_],rfl⟩⟩
 |.str,cs,vs,x,r,hr,h,hp=>by
  cases cs with
  |nil=>simp[pack]at hp
  |cons c cs=>
   cases c<;>simp only[pack]at hp<;>try(cases hp;done)
   simp only[Ag,BQ]at hp;obtain⟨EJ,CD⟩:=hp;subst EJ CD;obtain⟨v,Av,e,h1,h2⟩:=h;simp only[CRep]at h1;subst e h1;exact⟨[_],Av,rfl,rfl,h2,⟨[_],rfl⟩⟩
 |.unit,cs,vs,x,r,hr,h,hp=>by simp only[pack,Ag,BQ]at hp;obtain⟨_,CD⟩:=hp;subst CD;exact⟨[],vs,rfl,rfl,h,⟨[],rfl⟩⟩
 |.prod a b,cs,vs,x,r,hr,h,hp=>by
  simp only[pack]at hp;split at hp
  ·cases hp
  ·rename_i y r1 h1
   split at hp
   ·cases hp
   ·rename_i z r2 h2
    simp only[Ag,BQ]at hp;obtain⟨EJ,CD⟩:=hp;subst EJ CD;obtain⟨us,ws,e1,d1,c1,ds1,Dp⟩:=On hb hr h h1;have M1:Rows E blp okp (CA r1):=hr.sub λb DB=>by rw[Dp,SR];exact DJ _ DB
    obtain⟨us2,ws2,e2,d2,c2,ds2,Cz⟩:=On hb M1 c1 h2;refine⟨us++us2,ws2,by rw[e1,e2,Ci],?_,c2,⟨ds1++ds2,by rw[Dp,Cz,Ci]⟩⟩;simp only[DRep];exact⟨us,us2,rfl,d1,d2⟩
 |.slice e,cs,vs,x,r,hr,h,hp=>by
  cases cs with
  |nil=>simp[pack]at hp
  |cons c cs=>
   obtain⟨v,Av,e1,h1,h2⟩:=h;subst e1;rcases Classical.em (∃b ver p,c=.trow b ver p)with⟨b,ver,p,rfl⟩|P9
   ·cases p with
    |cons _ _=>simp[pack]at hp
    |nil=>
     simp only[pack]at hp;split at hp
     ·cases hp
     ·rename_i l hl
      simp only[Ag,BQ]at hp;obtain⟨EJ,CD⟩:=hp;subst EJ CD;exact⟨[v],Av,rfl,Acq hr.ok hb (hr.tree b (by simp[CA])) hl h1,h2,⟨[_],rfl⟩⟩
   cases c<;>first|exact absurd ⟨_,_,_,rfl⟩ P9|skip
   all_goals simp only[pack]at hp
   all_goals try(cases hp;done)
   ·rename_i e' l
    split at hp
    ·rename_i he
     subst he;simp only[Ag,BQ]at hp;obtain⟨EJ,CD⟩:=hp;subst EJ CD;exact⟨[v],Av,rfl,DRep.mono (τ:=.slice _) (λg hg _=>⟨hr.ok g hg,rfl⟩) h1,h2,⟨[_],rfl⟩⟩
    ·cases hp
   ·simp only[Ag,BQ]at hp
    obtain⟨EJ,CD⟩:=hp;subst EJ CD;simp only[CRep]at h1;subst h1;refine⟨[_],Av,rfl,?_,h2,⟨[_],rfl⟩⟩;simp only[DRep];exact⟨none,0,[],rfl,by simp,by simp[maxLen],rfl,by simp⟩
   ·rename_i b ver
    split at hp
    ·cases hp
    ·rename_i l hl
     simp only[Ag,BQ]at hp;obtain⟨EJ,CD⟩:=hp;subst EJ CD;have Ds:b∈CA (C.row b ver::cs):=by simp[CA]
     obtain⟨t,sv,xs,An,Ba,rfl,hd,ho⟩:=lN hb (λt e ver l hB=>(hr.row b Ds t e ver l hB).1) hl h1
     have AG0:∃t e ver l,blp b=some (.row t e ver l):=by
      unfold Ip at hl;split at hl
      ·rename_i h0;exact⟨_,_,_,_,h0⟩
      ·cases hl
     obtain⟨t',e',ver',l',hB⟩:=AG0;exact⟨[v],Av,rfl,Acp hr.ok (λg hg=>(hr.row b Ds t' e' ver' l' hB).2 v g Ba hg) hd ho,h2,⟨[_],rfl⟩⟩
   ·rename_i b ver i j
    split at hp
    ·cases hp
    ·rename_i l hl
     simp only[Ag,BQ]at hp;obtain⟨EJ,CD⟩:=hp;subst EJ CD;have Ds:b∈CA (C.sub b ver i j::cs):=by simp[CA]
     obtain⟨t,sv,xs,hB,An,Ba,hd,ho⟩:=Yy hb (λt e ver l hB=>(hr.row b Ds t e ver l hB).1) hl;obtain⟨_,sv2,K4,Gd,Bt⟩:=h1;rw[Ba]at Gd;injection Gd with Gd;injection Gd with Gd _;subst Gd;obtain⟨A,c,ys,q1,q2,q3,q4,q5⟩:=lO ((Bt _ _ _ _ An).2 rfl) hd ho;refine⟨[v],Av,rfl,?_,h2,⟨[_],rfl⟩⟩;simp only[DRep];refine⟨A,c,ys,by rw[q1],q2,q3,q4.mono λx u hu=>hu.mono (λg h1 _=>⟨hr.ok g h1,rfl⟩),λk u hk=>?_⟩;obtain⟨ad,r1,r2,r3⟩:=q5 k u hk;exact⟨ad,r1,(hr.row b Ds _ _ _ _ hB).2 sv _ Ba r2,r3⟩
theorem Oo{E:Env}{blp:Nat->Option Blk}{okp:Nat->Prop}(hb:Ek E){τ:Ty}{cs:List C}{vs:List Value}{x:τ.den}(hr:Rows E blp okp (CA cs))(h:CReps E cs vs)(hp:KH blp τ cs=some x):DRep E.w okp τ x vs:=by
 unfold KH at hp;split at hp
 ·rename_i y hy
  simp only[Ag]at hp;subst hp;obtain⟨us,ws,e,d,c,_⟩:=On hb hr h hy;simp only[CReps]at c;subst c;simpa [e]using d
 ·cases hp
theorem Y0{E:Env}{blp:Nat->Option Blk}{okp:Nat->Prop}(hb:Ek E){e:Ty}:∀{n:Nat}{cs:List C}{vs:List Value}{l:List e.den},Rows E blp okp (CA cs)->CReps E cs vs->J0 blp e n cs=some l->DList (λx u=>DRep E.w okp e x u) l vs/\l.length=n
 |0,[],vs,l,_,h,hp=>by simp only[J0,Ag]at hp;subst hp;simp only[CReps]at h;exact⟨h,rfl⟩
 |0,_::_,_,_,_,_,hp=>by simp[J0]at hp
 |n+1,cs,vs,l,hr,h,hp=>by
  simp only[J0]at hp;split at hp
  ·rename_i x r hx
   split at hp
   ·rename_i l' Gt
    simp only[Ag]at hp;subst hp;obtain⟨us,ws,e1,d1,c1,ds,hc⟩:=On hb hr h hx;have M1:Rows E blp okp (CA r):=hr.sub λb DB=>by rw[hc,SR];exact DJ _ DB
    obtain⟨h1,h2⟩:=Y0 hb M1 c1 Gt;exact⟨⟨us,ws,e1,d1,h1⟩,by simp[h2]⟩
   ·cases hp
  ·cases hp
theorem RelB.blksOk{P:Program}{ok0:OK0 P}{base:Nat}{pl:Nat->Option Pl}{bl:Nat->Option Blk}{w:World}(h:RelB ok0 base pl bl w):Ek (Ap ok0 base pl bl w):=h.blks
theorem Rows.none(E:Env)(ids:List Nat):Rows E (λ_=>none) E.ok ids:=⟨λ_ h=>h,λ_ _ _ _ _ _ h=>(by cases h),λ_ _ _ _ _ _ _ _ _ h=>(by cases h),λ_ _ _ _ _ _ _ _ h=>(by cases h)⟩
section
variable{P:Program}{o:Oper}{ρ:Operand->V}{bl:Nat->Option Blk}{β:Type}{r:β}
def Sound(P:Program)(o:Oper)(ρ:Operand->V)(bl:Nat->Option Blk)(kk:K β)(r:β):Prop:=
 ∃v rd wr,kk v rd wr=some r/\∀Aa,(∀b∈rd,Aa b=bl b)->OpOk P o ρ Aa v wr
theorem Sound.pure{kk:K β}{v:V}{rd:List Nat}(hk:kk v rd []=some r)(h:∀Aa,(∀b∈rd,Aa b=bl b)->∀(ok0:OK0 P)(base:Nat)(pl:Nat->Option Pl)(w:World)(a:Act),RelB ok0 base pl Aa w->(∀x∈o.op.operands,VRep (Ap ok0 base pl Aa w) (ρ x) (a.eval x))->∃val,(execOp a.eval o).run P w=.ok (.value val) w/\VRep (Ap ok0 base pl Aa w) v val):Sound P o ρ bl kk r:=
 ⟨v,rd,[],hk,λAa hb=>OpOk.of_pure (h Aa hb)⟩
theorem Y1{kk:K β}{x:Operand}(ho:o.op=.move x\/o.op=.assign x)(hk:kk (ρ x) [] []=some r):Sound P o ρ bl kk r:=by
 refine Sound.pure hk λAa _ ok0 base pl w a hr hx=>⟨a.eval x,?_,hx x ?_⟩
 ·rcases ho with ho|ho<;>simp[execOp,ho]
 ·rcases ho with ho|ho<;>simp[ho,Op.operands]
theorem Aph{kk:K β}{c a b:Operand}(ho:o.op=.pick c a b){g:Bool}(hc:ρ c=.c (.bool g))(hk:cond g (kk (ρ a) [] []) (kk (ρ b) [] [])=some r):Sound P o ρ bl kk r:=by
 have AM:∀(Aa:Nat->Option Blk)(ok0:OK0 P)(base:Nat)(pl:Nat->Option Pl)(w:World)(act:Act),(∀x∈o.op.operands,VRep (Ap ok0 base pl Aa w) (ρ x) (act.eval x))->
   (execOp act.eval o).run P w=.ok (.value (if g then act.eval a else act.eval b)) w:=by
  intro Aa ok0 base pl w act hx;have h1:=hx c (by simp[ho,Op.operands]);rw[hc]at h1;have h2:act.eval c=.bool g:=h1;simp[execOp,ho,h2,asBool]
 cases g with
 |true=>exact Sound.pure hk λAa _ ok0 base pl w act hr hx=>⟨_,AM Aa ok0 base pl w act hx,by simpa using hx a (by simp[ho,Op.operands])⟩
 |false=>exact Sound.pure hk λAa _ ok0 base pl w act hr hx=>⟨_,AM Aa ok0 base pl w act hx,by simpa using hx b (by simp[ho,Op.operands])⟩
theorem Acr{kk:K β}{nx:Nat}{t:TypeId}{cs:List C}(hk:Qy bl nx t cs kk=some r)(AM:∀(Aa:Nat->Option Blk)(ok0:OK0 P)(base:Nat)(pl:Nat->Option Pl)(w:World)(a:Act),RelB ok0 base pl Aa w->(∀x∈o.op.operands,VRep (Ap ok0 base pl Aa w) (ρ x) (a.eval x))->∃vs:List Value,(execOp a.eval o).run P w=.ok (.value (.pointer (some ⟨w.heap.size,0,none⟩))) (w.alloc (.cells vs.toArray t))/\CReps (Ap ok0 base pl Aa w) cs vs):Sound P o ρ bl kk r:=by
 unfold Qy at hk;split at hk
 ·rename_i hn
  refine⟨_,_,_,hk,λAa hb=>?_⟩;have Dh:Aa nx=none:=(hb nx (by simp)).trans hn;intro ok0 base pl w a hr hx K Q hK;obtain⟨vs,h1,h2⟩:=AM Aa ok0 base pl w a hr hx;have hg:w.grownBy (w.alloc (.cells vs.toArray t)) none:=World.grownBy_alloc w _ none;have hp:∀g,(Pl.cells w.heap.size).has g->w.heap.size<=g:=λg FN=>KE FN;have hs:Step pl Aa w (upd pl nx (.cells w.heap.size)) (upd Aa nx (.cells t cs)) (w.alloc (.cells vs.toArray t)):=Step.new hr Dh hg hp;refine H9 h1 (hK _ (upd pl nx (.cells w.heap.size)) _ ?_ hs ?_)
  ·exact RelB.new hr Dh hg hp ⟨vs,heap_alloc_new w _,h2.mono hs.ext⟩
  ·exact⟨w.heap.size,by simp[Ap,upd],rfl⟩
 ·cases hk
theorem Api{T:TypeId->Option TI}(hT:TOk P T){kk:K β}{nx:Nat}{t:TypeId}(ho:o.op=.alloc t){ti:TI}(ht:T t=some ti)(hk:Qy bl nx t ti.zero kk=some r):Sound P o ρ bl kk r:=by
 obtain⟨i,d,z,f⟩:=hT.facts ht;refine Acr hk λAa ok0 base pl w a hr hx=>⟨z.cells.toList,?_,?_⟩
 ·simp[execOp,ho,Instr.alloc,zeroValue,typeInfo,f.info,f.zero,newVar,newRow]
 ·rw[f.zeroC]
  exact MW f.one
theorem Apj{kk:K β}{nx:Nat}{t:TypeId}{x:Operand}(ho:o.op=.box t x){cs:List C}(hc:(ρ x).cells=some cs)(hk:Qy bl nx t cs kk=some r):Sound P o ρ bl kk r:=by
 refine Acr hk λAa ok0 base pl w a hr hx=>⟨(a.eval x).cells.toList,?_,?_⟩
 ·simp[execOp,ho,Instr.box,newVar,newRow]
 ·exact VRep.cells_of hc (hx x (by simp[ho,Op.operands]))
end
end Go.Lift
namespace Go.Lift
open Go.RowKit
theorem Acs{α:Type}{a b:Nat}(x y:α):(bif Nat.blt a b then x else y)=if a<b then x else y:=by
 cases h:Nat.blt a b with
 |true=>rw[if_pos (by simpa using h)];rfl
 |false=>rw[if_neg (λAu=>by rw[show Nat.blt a b=true by simpa using Au]at h;cases h)];rfl
theorem LK:∀{o:OT}{x:o.ty.den}{k:Nat}{p:Path}{n:EP},BL o x k p=some n->IP o x k p=some n
 |.d _,_,_,_,_,h=>by cases h
 |.p a b,x,k,p,n,h=>by
  simp only[BL]at h;simp only[IP,Acs];split at h
  ·rename_i hk;rw[if_pos hk];exact LK h
  ·rename_i hk;rw[if_neg hk];exact LK h
 |.r _ _,_,0,[],_,h=>h
 |.r _ e,l,0,(i,k)::p,n,h=>by
  simp only[BL]at h;simp only[IP];split at h
  ·rename_i x hx
   rw[show(l:List e.ty.den).getD i e.ty.dflt=x by rw[List.getD,hx];rfl];exact LK h
  ·cases h
 |.r _ _,_,_+1,_,_,h=>by cases h
theorem Q4:∀{o:OT}{x:o.ty.den}{k:Nat}{p:Path}{n:EP}{e':OT}{y:List e'.ty.den},BL o x k p=some n->setD o x k p e' y=He o x k p e' y
 |.d _,_,_,_,_,_,_,h=>by cases h
 |.p a b,x,k,p,n,_,_,h=>by
  simp only[BL]at h;simp only[setD,He,Acs];split at h
  ·rename_i hk;rw[if_pos hk,if_pos hk,Q4 h]
  ·rename_i hk;rw[if_neg hk,if_neg hk,Q4 h]
 |.r _ _,_,0,[],_,_,_,h=>rfl
 |.r _ e,l,0,(i,k)::p,n,_,_,h=>by
  simp only[BL]at h;simp only[setD,He];split at h
  ·rename_i x hx
   rw[show(l:List e.ty.den).getD i e.ty.dflt=x by rw[List.getD,hx];rfl,Q4 h]
  ·cases h
 |.r _ _,_,_+1,_,_,_,_,h=>by cases h
theorem Y2:∀{o:OT}{x:o.ty.den}{k:Nat}{p:Path}{n:EP}{i:Nat}{y:n.1.2.ty.den},BL o x k p=some n->n.2[i]?=some y->∀j,BL o x k (p++[(i,j)])=BL n.1.2 y j []
 |.d _,_,_,_,_,_,_,h,_,_=>by cases h
 |.p a b,x,k,p,n,i,y,h,hy,j=>by
  simp only[BL]at h⊢;split at h
  ·rename_i hk;rw[if_pos hk];exact Y2 h hy j
  ·rename_i hk;rw[if_neg hk];exact Y2 h hy j
 |.r _ _,_,0,[],_,i,y,h,hy,j=>by simp only[BL,Ag]at h;subst h;simp only[Fl,BL];rw[show(_:List _)[i]?=some y from hy]
 |.r _ e,l,0,(i',k)::p,n,i,y,h,hy,j=>by
  simp only[BL,Fz]at h⊢;split at h
  ·rename_i x hx
   exact Y2 h hy j
  ·cases h
 |.r _ _,_,_+1,_,_,_,_,h,_,_=>by cases h
theorem SS:∀{o:OT}{x:o.ty.den}{k:Nat}{p:Path}{n:EP}{i:Nat}{y:n.1.2.ty.den},BL o x k p=some n->n.2[i]?=some y->∀j,nix o x k (p++[(i,j)])=nix o x k p+1+((n.2.take i).map (cnt n.1.2)).sum+nix n.1.2 y j []
 |.d _,_,_,_,_,_,_,h,_,_=>by cases h
 |.p a b,x,k,p,n,i,y,h,hy,j=>by
  simp only[BL]at h;simp only[nix];split at h
  ·rename_i hk;rw[if_pos hk,if_pos hk];exact SS h hy j
  ·rename_i hk;rw[if_neg hk,if_neg hk,SS h hy j];omega
 |.r _ _,_,0,[],_,i,y,h,hy,j=>by simp only[BL,Ag]at h;subst h;simp only[Fl,nix];rw[show(_:List _)[i]?=some y from hy]
 |.r _ e,l,0,(i',k)::p,n,i,y,h,hy,j=>by
  simp only[BL]at h;simp only[nix,Fz];split at h
  ·rename_i x hx
   rw[SS h hy j];omega
  ·cases h
 |.r _ _,_,_+1,_,_,_,_,h,_,_=>by cases h
section
variable{E E':Env}{t:TypeId}{e:OT}
theorem TreeOk.node{l:List e.ty.den}{sv:Value}{Ac:List (Option Value)}(hT:TreeOk E t e none l sv Ac){p:Path}{n:EP}(hn:BL (.r t e) l 0 p=some n):∃s Fn G1 G2,sv::Ac.filterMap id=G1++(s::Fn++G2)/\G1.length=nix (.r t e) l 0 p/\(some sv::Ac)=(G1++(s::Fn++G2)).map some/\(some sv::Ac)[nix (.r t e) l 0 p]?=some (some s)/\Owns E.w E.ok E.base s (.r n.1.1 n.1.2) none n.2 [s] (s::Fn)/\Owns E.w E.ok E.base s (.r t e) (some (0,p)) l [sv] (G1++G2)/\(G1++(s::Fn++G2)).Pairwise (λs r=>∀g,s.ownBlock=some g->r.ownBlock≠some g):=by
 obtain⟨hv,F,h1,h2,h3⟩:=hT.rep;have h2:some sv::Ac=(sv::F).map some:=h2;obtain⟨s,G1,Fn,G2,e1,e2,e3,e4⟩:=Owns.split h1 hn;have hs:Ac=F.map some:=by simpa using h2
 refine⟨s,Fn,G1,G2,?_,e2,?_,?_,e3,e4,e1▸h3⟩
 ·rw[<-e1,hs];simp[List.filterMap_map]
 ·rw[<-e1];exact h2
 ·rw[h2,e1,KC,Gn (by simp[e2])]
  simp[e2]
theorem lP(hb:Ek E){b ver Ah:Nat}{l:List e.ty.den}{p:Path}(An:E.bl b=some (.tree t e ver Ah none l)){v:Value}(hv:CRep E (.trow b (tv ver Ah p) p) v):∃sv Ac n,E.pl b=some (.row sv Ac)/\TreeOk E t e none l sv Ac/\BL (.r t e) l 0 p=some n/\(some sv::Ac)[nix (.r t e) l 0 p]?=some (some v):=by
 obtain⟨_,sv,Ac,Ba,Bt⟩:=hv;obtain⟨q,hq,hB⟩:=hb b _ An;rw[Ba]at hq;injection hq with hq;subst hq;obtain⟨n,h1,h2⟩:=(Bt _ _ _ _ _ _ An).2 rfl (λ_ h=>by cases h);exact⟨sv,Ac,n,Ba,hB,h1,h2⟩
theorem Apk(hb:Ek E){b ver Ah:Nat}{l:List e.ty.den}{p:Path}(An:E.bl b=some (.tree t e ver Ah none l)){v:Value}(hv:CRep E (.trow b (tv ver Ah p) p) v){n:EP}(hn:IP (.r t e) l 0 p=some n):∃xs,E.w.ownsRow E.base n.1.1 n.1.2.ty.size v n.2.length xs:=by
 obtain⟨sv,Ac,n',Ba,hT,Ex,JU⟩:=lP hb An hv;have:=LK Ex;rw[hn]at this;injection this with this;subst this;obtain⟨s',Fn,G1,G2,_,_,_,h4,h5,_,_⟩:=hT.node Ex;rw[JU]at h4;injection h4 with h4;injection h4 with h4;subst h4;obtain⟨s',xs,F',e1,_,Ao,_⟩:=h5;have e1:=(KD e1).1;subst e1;exact⟨xs,Ao⟩
theorem Y3{bl:Nat->Option Blk}{b ver:Nat}{p:Path}{a:(te:TypeId×OT)×(List te.2.ty.den×(Nat×(Nat×EP)))}(h:Qq bl b ver p=some a):bl b=some (.tree a.1.1 a.1.2 a.2.2.1 a.2.2.2.1 none a.2.1)/\ver=tv a.2.2.1 a.2.2.2.1 p/\IP (.r a.1.1 a.1.2) a.2.1 0 p=some a.2.2.2.2:=by
 unfold Qq at h;split at h
 ·rename_i t e ver' Ah l An
  cases hv:Nat.beq ver (tv ver' Ah p)with
  |false=>rw[hv]at h;cases h
  |true=>
   rw[hv,Ar]at h;split at h
   ·rename_i n hn
    simp only[Ag]at h;subst h;exact⟨An,Az hv,hn⟩
   ·cases h
 ·cases h
theorem lQ{b ver i:Nat}{p:Path}{hv:Value}:∀{o:OT}{x:o.ty.den}{u F:List Value}{k0:Nat},Owns E.w E.ok E.base hv o none x u F->(∀j m s,BL o x j []=some m->u[j]?=some s->F[nix o x j []]?=some s->CRep E (.trow b ver (p++[(i,k0+j)])) s)->CReps E (Qp b ver p i k0 o x) u
 |.d _,_,_,_,_,h,_=>HS h.2.1
 |.p a c,x,u,F,k0,⟨u1,u2,F1,F2,e1,e2,h1,h2⟩,hc=>by
  have h1:Owns E.w E.ok E.base hv a none x.1 u1 F1:=h1;have h2:Owns E.w E.ok E.base hv c none x.2 u2 F2:=h2;have l1:=h1.length;rw[e1];refine CReps.append (lQ h1 λj m s hn hu hF=>?_) (lQ h2 λj m s hn hu hF=>?_)
  ·have hj:j<u1.length:=(EN.1 hu).1
   have GU:j<a.ty.size:=by omega
   refine hc j m s (by simp only[BL,if_pos GU];exact hn) (by rw[e1,H5 hj];exact hu) ?_;simp only[nix,if_pos GU];rw[e2,H5 (EN.1 hF).1];exact hF
  ·have GU:¬(a.ty.size+j<a.ty.size):=by omega
   have:=hc (a.ty.size+j) m s (by simp only[BL,if_neg GU,MH];exact hn) (by rw[e1,Gn (by omega),l1,MH];exact hu) (by
    simp only[nix,if_neg GU,MH];rw[<-h1.cnt,e2,Gn (by omega),MH];exact hF)
   rw[show k0+a.ty.size+j=k0+(a.ty.size+j) by omega];exact this
 |.r t e,l,u,F,k0,⟨sv,xs,F',e1,e2,h,hl⟩,hc=>by rw[e1];exact⟨sv,[],rfl,hc 0 ⟨(t,e),l⟩ sv rfl (by rw[e1];rfl) (by rw[e2];rfl),rfl⟩
theorem Owns.elem{w:World}{ok:Nat->Prop}{base:Nat}{hv s:Value}{l:List e.ty.den}{Fn:List Value}(h:Owns w ok base hv (.r t e) none l [s] (s::Fn)){i:Nat}(hi:i<l.length):∃y u pre post Fu Fp Fq,l[i]?=some y/\w.ownsRow base t e.ty.size s l.length (pre++(u++post))/\pre.length=i*e.ty.size/\Fn=Fp++(Fu++Fq)/\Fp.length=((l.take i).map (Go.Lift.cnt e)).sum/\Owns w ok base hv e none y u Fu/\∀(w':World)(ok':Nat->Prop)(base':Nat)(Cw:Value) y' u' Fu',(∀x u f,(∀s∈f,s∈Fp\/s∈Fq)->Owns w ok base hv e none x u f->Owns w' ok' base' Cw e none x u f)->Owns w' ok' base' Cw e none y' u' Fu'->w'.ownsRow base' t e.ty.size s l.length (pre++(u'++post))->Owns w' ok' base' Cw (.r t e) none (l.set i y') [s] (s::(Fp++(Fu'++Fq))):=by
 obtain⟨sv,xs,F',e1,e2,h,hl⟩:=h;have e1:s=sv:=by simpa using e1
 subst e1;have e2:Fn=F':=by simpa using e2
 subst e2;obtain⟨y,u,p,q,Fu,Fp,Fq,g1,g2,g3,g4,g5,⟨_,g7,_⟩,g6⟩:=OL.focus (n:=e.ty.size) (λ_ _ _ _ h=>Owns.length h) hl (i:=i) hi;rw[g2]at h;refine⟨y,u,p,q,Fu,Fp,Fq,g1,h,g3,g4,S3 e g7,by simpa using g5,λw' ok' base' Cw y' u' Fu' k1 k2 k3=>?_⟩;exact⟨s,_,_,rfl,rfl,by rw[MM];exact k3,g6 _ y' u' Fu' (λm x u f _ hf hx=>k1 x u f hf hx) k2⟩
theorem Acu(hb:Ek E){b ver Ah i o:Nat}{l:List e.ty.den}{p:Path}(An:E.bl b=some (.tree t e ver Ah none l)){v:Value}(hv:VRep E (.c (.tptr b (tv ver Ah p) p i o)) v):∃sv Ac n s g m c,E.pl b=some (.row sv Ac)/\TreeOk E t e none l sv Ac/\BL (.r t e) l 0 p=some n/\(some sv::Ac)[nix (.r t e) l 0 p]?=some (some s)/\i<n.2.length/\s=.slice (some ⟨g,0,none⟩) m c/\v=.pointer (some ⟨g,i*n.1.2.ty.size+o,none⟩):=by
 obtain⟨sv,Ac,ad,Ba,hv,Bt⟩:=hv;obtain⟨q,hq,hB⟩:=hb b _ An;rw[Ba]at hq;injection hq with hq;subst hq;obtain⟨n,s,h1,h2,h3,g,m,c,h4,rfl⟩:=(Bt _ _ _ _ _ _ An).2 rfl (λ_ h=>by cases h);exact⟨sv,Ac,n,s,g,m,c,Ba,hB,h1,h2,h3,h4,hv⟩
theorem Apl(hb:Ek E){b ver Ah i:Nat}{l:List e.ty.den}{p:Path}(An:E.bl b=some (.tree t e ver Ah none l)){sv:Value}{Ac:List (Option Value)}(Ba:E.pl b=some (.row sv Ac))(hT:TreeOk E t e none l sv Ac){n:EP}(hn:BL (.r t e) l 0 p=some n){s:Value}(hs:(some sv::Ac)[nix (.r t e) l 0 p]?=some (some s))(hi:i<n.2.length):∃u pre post,E.w.ownsRow E.base n.1.1 n.1.2.ty.size s n.2.length (pre++(u++post))/\pre.length=i*n.1.2.ty.size/\CReps E (Qp b (ver+Ah) p i 0 n.1.2 (n.2.getD i n.1.2.ty.dflt)) u:=by
 obtain⟨s',Fn,G1,G2,_,h2,h3,h4,h5,_,_⟩:=hT.node hn;rw[hs]at h4;injection h4 with h4;injection h4 with h4;subst h4;obtain⟨y,u,pre,post,Fu,Fp,Fq,g1,g2,g3,g4,g5,g6,_⟩:=h5.elem hi;refine⟨u,pre,post,g2,g3,?_⟩;rw[show n.2.getD i n.1.2.ty.dflt=y by rw[List.getD,g1];rfl];refine lQ g6 λj m s1 hm hu hF=>?_;rw[Ei];refine⟨g6.oneCell s1 (Dg hu),sv,Ac,Ba,λt1 e1 Dc Hz Ig l1 BH=>?_⟩;rw[An]at BH;injection BH with BH;injection BH with q1 q2 q3 q4 q5 q6;subst q1 q2 q3 q4 q5;simp only[IN]at q6;subst q6;have iW:tv ver Ah (p++[(i,j)])=ver+Ah:=by cases p<;>rfl
 rw[iW];refine⟨AQ _,λ_ _=>⟨m,by rw[Y2 hn g1];exact hm,?_⟩⟩;rw[SS hn g1,h3,FT,<-h2,<-g5,Gn (by omega)];rw[show G1.length+1+Fp.length+nix n.1.2 y j []-G1.length=(Fp.length+nix n.1.2 y j [])+1 by omega,Fz,Eg,g4];have Au:=(EN.1 hF).1;rw[Ci,Gn (by omega),MH,Ci,H5 Au,hF];rfl
def Same:(o:OT)->o.ty.den->o.ty.den->Prop
 |.d _,_,_=>True
 |.p a b,x,y=>Same a x.1 y.1/\Same b x.2 y.2
 |.r _ e,l,l'=>List.length l'=List.length l/\∀(i:Nat)(x x':e.ty.den),(l:List e.ty.den)[i]?=some x->(l':List e.ty.den)[i]?=some x'->Same e x x'
theorem Same.refl:∀(o:OT)(x:o.ty.den),Same o x x
 |.d _,_=>trivial
 |.p a b,x=>⟨Same.refl a x.1,Same.refl b x.2⟩
 |.r _ e,l=>⟨rfl,λi x x' h h'=>by rw[h]at h';injection h' with h';subst h';exact Same.refl e x⟩
theorem Acv{e:OT}(ih:∀x x',Same e x x'->cnt e x'=cnt e x){l l':List e.ty.den}(hl:l'.length=l.length)(h:∀(i:Nat)(x x':e.ty.den),l[i]?=some x->l'[i]?=some x'->Same e x x')(m:Nat):(l'.take m).map (cnt e)=(l.take m).map (cnt e):=by
 apply XT;intro i;simp only[FT,ML];split
 ·cases hx:l[i]? with
  |none=>rw[Qf]at hx;rw[Qf.2 (by omega)]
  |some x=>have Au:=(EN.1 hx).1;rw[Ef (by omega:i<l'.length)];simp only[Fa];rw[ih x _ (h i x _ hx (Ef (by omega)))]
 ·rfl
theorem Same.cnt:∀{o:OT}{x y:o.ty.den},Same o x y->Go.Lift.cnt o y=Go.Lift.cnt o x
 |.d _,_,_,_=>rfl
 |.p a b,x,y,h=>by simp only[Go.Lift.cnt];rw[h.1.cnt,h.2.cnt]
 |.r _ e,l,l',h=>by have:=Acv (λx x' h=>Same.cnt h) h.1 h.2 (List.length l);rw[KA,Hb (by rw[h.1];exact AQ _)]at this;simp only[Go.Lift.cnt];rw[this]
theorem Same.node:∀{o:OT}{x y:o.ty.den}{k:Nat}{p:Path}{n:EP},Same o x y->BL o x k p=some n->∃n',BL o y k p=some n'/\n'.1=n.1/\n'.2.length=n.2.length/\nix o y k p=nix o x k p
 |.d _,_,_,_,_,_,_,h=>by cases h
 |.p a b,x,y,k,p,n,hs,h=>by
  simp only[BL,nix]at h⊢;split at h
  ·rename_i hk;rw[if_pos hk,if_pos hk,if_pos hk];exact Same.node hs.1 h
  ·rename_i hk
   rw[if_neg hk,if_neg hk,if_neg hk,hs.1.cnt];obtain⟨n',h1,h2,h3,h4⟩:=Same.node hs.2 h;exact⟨n',h1,h2,h3,by rw[h4]⟩
 |.r _ _,_,_,0,[],_,hs,h=>by simp only[BL,Ag]at h;subst h;exact⟨_,rfl,rfl,hs.1,rfl⟩
 |.r _ e,l,l',0,(i,k)::p,n,hs,h=>by
  simp only[BL,nix]at h⊢;split at h
  ·rename_i x hx
   have Au:=(EN.1 hx).1;have hl:=hs.1;have DP:(l':List e.ty.den)[i]?=some ((l':List e.ty.den)[i]'(by rw[hl];exact Au)):=Ef _;obtain⟨n',h1,h2,h3,h4⟩:=Same.node (hs.2 i x _ hx DP) h;refine⟨n',?_,h2,h3,?_⟩
   ·rw[DP];exact h1
   ·rw[DP]
    simp only;rw[h4,Acv (λx x' h=>Same.cnt h) hs.1 hs.2 i]
  ·cases h
 |.r _ _,_,_,_+1,_,_,_,h=>by cases h
theorem Same.set:∀{o:OT}{x:o.ty.den}{k:Nat}{p:Path}{n:EP}{y:List n.1.2.ty.den},BL o x k p=some n->Same (.r n.1.1 n.1.2) n.2 y->Same o x (He o x k p n.1.2 y)
 |.d _,_,_,_,_,_,h,_=>by cases h
 |.p a b,x,k,p,n,y,h,hs=>by
  simp only[BL,He]at h⊢;split at h
  ·rename_i hk;rw[if_pos hk];exact⟨Same.set h hs,Same.refl _ _⟩
  ·rename_i hk;rw[if_neg hk];exact⟨Same.refl _ _,Same.set h hs⟩
 |.r _ _,_,0,[],n,y,h,hs=>by simp only[BL,Ag]at h;subst h;simp only[He];exact hs
 |.r _ e,l,0,(i,k)::p,n,y,h,hs=>by
  simp only[BL,He]at h⊢;split at h
  ·rename_i x hx
   refine⟨MM,λj z z' hz GZ=>?_⟩;by_cases hj:i=j
   ·subst hj
    rw[hx]at hz;injection hz with hz;subst hz;rw[Ac6 (EN.1 hx).1]at GZ;injection GZ with GZ;subst GZ;exact Same.set h hs
   ·rw[List.getElem?_set_ne hj,hz]at GZ
    injection GZ with GZ;subst GZ;exact Same.refl e z
  ·cases h
 |.r _ _,_,_+1,_,_,_,h,_=>by cases h
theorem Same.leaf:∀{o:OT}{x:o.ty.den}{k:Nat}{new:List C}{y:o.ty.den},KI o x k new=some y->Same o x y
 |.d _,_,_,_,_,_=>trivial
 |.p a b,x,k,new,y,h=>by
  simp only[KI]at h;cases h1:Nat.ble (k+new.length) a.ty.size with
  |true=>
   rw[h1,Ar]at h;split at h
   ·rename_i z hz
    simp only[Ag]at h;subst h;exact⟨Same.leaf hz,Same.refl _ _⟩
   ·cases h
  |false=>
   rw[h1,Cd]at h;cases h2:Nat.ble a.ty.size k with
   |false=>rw[h2]at h;cases h
   |true=>
    rw[h2,Ar]at h;split at h
    ·rename_i z hz
     simp only[Ag]at h;subst h;exact⟨Same.refl _ _,Same.leaf hz⟩
    ·cases h
 |.r _ _,_,_,_,_,h=>by cases h
theorem KeepT.same{c:Prop}{l l':List e.ty.den}(h:Same (.r t e) l l')(sv:Value)(Ac:List (Option Value)):KeepT c t e none none l l' sv Ac Ac:=λp _ ho=>⟨ho,λn hn=>by obtain⟨n',h1,h2,h3,h4⟩:=h.node hn;exact⟨n',h1,h2,h3,λs hs=>by rw[h4];exact hs⟩⟩
theorem Owns.leaf(hb:Ek E){hv:Value}:∀{o:OT}{x:o.ty.den}{u F us:List Value}{k:Nat}{new:List C}{y:o.ty.den},Owns E.w E.ok E.base hv o none x u F->CReps E new us->KI o x k new=some y->k+us.length<=u.length/\Owns E.w E.ok E.base hv o none y (u.take k++us++u.drop (k+us.length)) F
 |.d τ,x,u,F,us,k,new,y,h,hn,hs=>by
  obtain⟨h1,h2,h3⟩:=h;simp only[KI]at hs;split at hs
  ·rename_i rc IC
   obtain⟨s1,s2⟩:=SQ (HS h2) hn IC;exact⟨s2,rfl,Oo hb (Rows.none _ _) s1 hs,h3⟩
  ·cases hs
 |.p a b,x,u,F,us,k,new,y,⟨u1,u2,F1,F2,e1,e2,h1,h2⟩,hn,hs=>by
  have h1:Owns E.w E.ok E.base hv a none x.1 u1 F1:=h1;have h2:Owns E.w E.ok E.base hv b none x.2 u2 F2:=h2;have l1:=h1.length;have ln:=hn.length;simp only[KI]at hs;cases hc:Nat.ble (k+new.length) a.ty.size with
  |true=>
   rw[hc,Ar]at hs;have hc:=HQ hc;split at hs
   ·rename_i z hz
    simp only[Ag]at hs;subst hs;obtain⟨q1,q2⟩:=Owns.leaf hb h1 hn hz;refine⟨by rw[e1,AR];omega,_,u2,F1,F2,?_,e2,q2,h2⟩;rw[e1,L7 (by omega),Qc (by omega),<-Ci]
   ·cases hs
  |false=>
   rw[hc,Cd]at hs;cases Cz:Nat.ble a.ty.size k with
   |false=>rw[Cz]at hs;cases hs
   |true=>
    rw[Cz,Ar]at hs;have Cz:=HQ Cz;split at hs
    ·rename_i z hz
     simp only[Ag]at hs;subst hs;obtain⟨q1,q2⟩:=Owns.leaf hb h2 hn hz;refine⟨by rw[e1,AR];omega,u1,_,F1,F2,?_,e2,h1,q2⟩;rw[e1,XX,Hb (by omega),XY,NU (by omega),Fl,l1];simp only[Ci];rw[show k+us.length-a.ty.size=k-a.ty.size+us.length by omega]
    ·cases hs
 |.r _ _,_,_,_,_,_,_,_,_,_,hs=>by cases hs
theorem Acw{R:Value->Value->Prop}{A B C:List Value}{s:Value}(hR:∀a b,R a b->R b a)(h:(A++(s::B++C)).Pairwise R):∀r,(r∈A\/r∈B\/r∈C)->R s r:=λr hr=>by
 rw[H6]at h;obtain⟨_,h2,h3⟩:=h;rw[Fz,H7]at h2;rcases hr with hr|hr|hr
 ·exact hR _ _ (h3 r hr s (by simp))
 ·exact h2.1 r (by simp[hr])
 ·exact h2.1 r (by simp[hr])
theorem Acx(a b:Value)(h:∀g,a.ownBlock=some g->b.ownBlock≠some g):∀g,b.ownBlock=some g->a.ownBlock≠some g:=λg h1 h2=>h g h2 h1
theorem Oq{sv:Value}{Ac:List (Option Value)}{F:List Value}(h:(some sv::Ac)=F.map some){s:Value}(hs:s∈F){g:Nat}(hg:s.ownBlock=some g):(Pl.row sv Ac).has g:=by
 have:some s∈some sv::Ac:=by rw[h];exact Qi hs
 rcases Bw.1 this with h1|h1
 ·injection h1 with h1;subst h1;exact .inl hg
 ·obtain⟨i,hi⟩:=Qh.1 h1;exact .inr ⟨i,s,hi,hg⟩
theorem TreeOk.leaf(hb:Ek E){l:List e.ty.den}{sv:Value}{Ac:List (Option Value)}(hT:TreeOk E t e none l sv Ac){p:Path}{n:EP}(hn:BL (.r t e) l 0 p=some n){s:Value}(hs:(some sv::Ac)[nix (.r t e) l 0 p]?=some (some s)){i o:Nat}(hi:i<n.2.length){g m c:Nat}(Aw:s=.slice (some ⟨g,0,none⟩) m c){new:List C}{us:List Value}{y:n.1.2.ty.den}(I9:CReps E new us)(Lw:KI n.1.2 (n.2.getD i n.1.2.ty.dflt) o new=some y):∃xs,E.w.ownsRow E.base n.1.1 n.1.2.ty.size s n.2.length xs/\i*n.1.2.ty.size+o+us.length<=xs.length/\∀E',Ext E E'->E'.base=E.base->(∀g',(Pl.row sv Ac).has g'->g'≠g->E'.w.heap[g']?=E.w.heap[g']?)->E'.w.ownsRow E.base n.1.1 n.1.2.ty.size s n.2.length (xs.take (i*n.1.2.ty.size+o)++us++xs.drop (i*n.1.2.ty.size+o+us.length))->TreeOk E' t e none (setD (.r t e) l 0 p n.1.2 (n.2.set i y)) sv Ac:=by
 obtain⟨s',Fn,G1,G2,_,h2,h3,h4,h5,h6,h7⟩:=hT.node hn;rw[hs]at h4;injection h4 with h4;injection h4 with h4;subst h4;obtain⟨y0,u,pre,post,Fu,Fp,Fq,g1,g2,g3,g4,g5,g6,g7⟩:=h5.elem hi;rw[show n.2.getD i n.1.2.ty.dflt=y0 by rw[List.getD,g1];rfl]at Lw;obtain⟨q1,q2⟩:=Owns.leaf hb g6 I9 Lw;refine⟨_,g2,by simp only[AR];omega,λE' hx Ll hh Ao=>?_⟩;have An:s.ownBlock=some g:=by rw[Aw];rfl
 have RL:∀r,(r∈G1\/r∈Fn\/r∈G2)->∀g',r.ownBlock=some g'->E'.w.heap[g']?=E.w.heap[g']?:=λr hr g' CJ=>hh g' (Oq h3 (by rcases hr with h|h|h<;>simp[h]) CJ) (λh=>Acw Acx h7 r hr g An (h▸CJ));have Cm:E'.base<=E.base:=by rw[Ll];exact AQ _
 have AaU:=Owns.mono Cm hx.heap (λr hr g' CJ=>RL r ((Cs.1 hr).imp id .inr) g' CJ) h6
 have FP:(pre++(u++post)).take (i*n.1.2.ty.size+o)++us++(pre++(u++post)).drop (i*n.1.2.ty.size+o+us.length)=pre++((u.take o++us++u.drop (o+us.length))++post):=by
  have e1:(pre++(u++post)).take (i*n.1.2.ty.size+o)=pre++u.take o:=by rw[XX,Hb (by omega),L7 (by omega)];congr 2;omega
  have e2:(pre++(u++post)).drop (i*n.1.2.ty.size+o+us.length)=u.drop (o+us.length)++post:=by rw[XY,NU (by omega),Fl,Qc (by omega)];congr 2;omega
  rw[e1,e2];simp only[Ci]
 rw[FP]at Ao
 have CV:=g7 E'.w E'.ok E'.base s y _ Fu (λx u f hf h=>Owns.mono Cm hx.heap (λr hr g' CJ=>RL r (.inr (.inl (by rw[g4];rcases hf r hr with h|h<;>simp[h]))) g' CJ) h)
  (Owns.mono Cm hx.heap (λr hr g' CJ=>RL r (.inr (.inl (by rw[g4];simp[hr]))) g' CJ) q2) (by rw[Ll];exact Ao)
 rw[<-g4]at CV;obtain⟨H1,H2,k1,k2,k3⟩:=Owns.join AaU hn;have Hw:=k3 _ _ CV;have k4:G1=H1/\G2=H2:=Yb k1 (by rw[h2,k2]);obtain⟨rfl,rfl⟩:=k4;rw[<-Q4 hn]at Hw;obtain⟨sv0,xs0,F0,z1,z2,z3,z4⟩:=Hw;have z1:sv=sv0:=by simpa using z1
 subst z1;refine⟨⟨s,F0,?_,?_,?_⟩,by simp⟩
 ·exact⟨sv,xs0,F0,rfl,rfl,z3,z4⟩
 ·show some sv::Ac=(sv::F0).map some
  rw[<-z2];exact h3
 ·rw[<-z2];exact h7
theorem Same.write{l:List e.ty.den}{p:Path}{n:EP}(hn:BL (.r t e) l 0 p=some n){i o:Nat}{new:List C}{y:n.1.2.ty.den}(hi:i<n.2.length)(Lw:KI n.1.2 (n.2.getD i n.1.2.ty.dflt) o new=some y):Same (.r t e) l (setD (.r t e) l 0 p n.1.2 (n.2.set i y)):=by
 rw[Q4 hn];refine Same.set hn ⟨MM,λj z z' hz GZ=>?_⟩;by_cases hj:i=j
 ·subst hj
  rw[Ac6 hi]at GZ;injection GZ with GZ;subst GZ;have:=Same.leaf Lw;rw[show n.2.getD i n.1.2.ty.dflt=z by rw[List.getD,hz];rfl]at this;exact this
 ·rw[List.getElem?_set_ne hj,hz]at GZ
  injection GZ with GZ;subst GZ;exact Same.refl _ z
theorem Acy:∀{p q:Path},Yk p q=true->p=q
 |[],[],_=>rfl
 |[],_::_,h=>by cases h
 |_::_,[],h=>by cases h
 |(i,k)::p,(j,m)::q,h=>by obtain⟨h1,h2⟩:=andB (show(decide (i=j)&&(Nat.beq k m&&Yk p q))=true from h);obtain⟨h2,h3⟩:=andB h2;rw[Bv h1,Az h2,Acy h3]
theorem lR{w:World}{ok:Nat->Prop}{base:Nat}{hv:Value}{τ:Ty}:∀{l:List τ.den}{j:Nat}{xs:List Value},DList (λx u=>DRep w ok τ x u) l xs->OL (λ_ x u f=>Owns w ok base hv (.d τ) none x u f) j l xs []
 |[],_,_,h=>⟨h,rfl⟩
 |_::_,_,_,⟨u,v,e,h1,h2⟩=>⟨u,v,[],[],e,rfl,⟨rfl,h1,rfl⟩,lR h2⟩
theorem lS{blp:Nat->Option Blk}(hb:Ek E){v:V}{r:Nat}{m:EP}(h:S7 blp v=some (r,m))(Bf:E.bl r=blp r){u:Value}(hv:VRep E v u):∃Ac Fr B,E.bl r=some B/\B≠.dead/\(∀t e ver Ah P l,B≠.tree t e ver Ah (some P) l)/\E.pl r=some (.row u Ac)/\(∀NL,Owns E.w E.ok E.base NL (.r m.1.1 m.1.2) none m.2 [u] (u::Fr))/\some u::Ac=(u::Fr).map some/\(u::Fr).Pairwise (λs r=>∀g,s.ownBlock=some g->r.ownBlock≠some g):=by
 unfold S7 at h;split at h
 ·rename_i r' rv
  split at h
  ·rename_i t e ver l An
   cases hc:Nat.beq rv ver with
   |false=>rw[hc]at h;cases h
   |true=>have:=Az hc;subst this;simp only[hc,Ar,Ag,BQ]at h;obtain⟨rfl,rfl⟩:=h;obtain⟨_,sv,Ac,Ba,Bt⟩:=hv;rw[<-Bf]at An;have hu:=(Bt _ _ _ _ An).2 rfl;subst hu;obtain⟨q,hq,hB⟩:=hb _ _ An;rw[Ba]at hq;injection hq with hq;subst hq;obtain⟨h0,xs,h1,h2⟩:=hB;subst h0;exact⟨[],[],_,An,(by simp),(by simp),Ba,λNL=>⟨u,xs,[],rfl,rfl,h2,lR h1⟩,rfl,by simp⟩
  ·cases h
 ·rename_i r' rv
  split at h
  ·rename_i t e ver Ah l An
   cases hc:Nat.beq rv ver with
   |false=>rw[hc]at h;cases h
   |true=>have:=Az hc;subst this;simp only[hc,Ar,Ag,BQ]at h;obtain⟨rfl,rfl⟩:=h;rw[<-Bf]at An;obtain⟨Ac,Ba,hT⟩:=Yz hb An hv;obtain⟨Fw,F,k1,k2,k3⟩:=hT.rep;exact⟨Ac,F,_,An,(by simp),(by simp),Ba,λNL=>Owns.any k1,k2,k3⟩
  ·cases h
 ·cases h
theorem TreeOk.put{l:List e.ty.den}{sv:Value}{Ac:List (Option Value)}{p:Path}{i o:Nat}(hT:TreeOk E t e (some (p++[(i,o)])) l sv Ac){n0:EP}(Jl:BL (.r t e) l 0 p=some n0){s:Value}(hs:(some sv::Ac)[nix (.r t e) l 0 p]?=some (some s))(hi:i<n0.2.length){g m0 c:Nat}(Aw:s=.slice (some ⟨g,0,none⟩) m0 c)(IA:∀g,(Pl.row sv Ac).has g->¬E.ok g){n m:EP}(hn:IP (.r t e) l 0 (p++[(i,o)])=some n)(Cu:m.1=n.1){u:Value}{Fr:List Value}(hu:∀NL,Owns E.w E.ok E.base NL (.r m.1.1 m.1.2) none m.2 [u] (u::Fr))(IE:(u::Fr).Pairwise (λs r=>∀g,s.ownBlock=some g->r.ownBlock≠some g))(hsep:∀s∈u::Fr,∀g,s.ownBlock=some g->¬(Pl.row sv Ac).has g):(∃old,E.w.cell? ⟨g,i*n0.1.2.ty.size+o,none⟩=some old)/\E.w.frozen? ⟨g,i*n0.1.2.ty.size+o,none⟩=false/\∃B6,(∀g,(Pl.row sv B6).has g->(Pl.row sv Ac).has g\/∃s∈u::Fr,s.ownBlock=some g)/\∀E':Env,E'.w=E.w.setCell ⟨g,i*n0.1.2.ty.size+o,none⟩ u->E'.base=E.base->(∀g,E.ok g->g<E.w.heap.size->E'.ok g)->TreeOk E' t e none (setD (.r t e) l 0 (p++[(i,o)]) m.1.2 m.2) sv B6:=by
 obtain⟨hv,F,h1,h2,h3⟩:=hT.rep;obtain⟨nP,A,B,a1,a2,a3,a4⟩:=h2
 have AGT:nP=n:=by have:=LK a1;rw[hn]at this;injection this with this;exact this.symm
 subst AGT;have Ds:∀r,r∈sv::F->∀g,r.ownBlock=some g->(Pl.row sv Ac).has g:=λr hr g hg=>Placed.has (t:=t) (e:=e) (l:=l) (hole:=some (p++[(i,o)])) ⟨nP,A,B,a1,a2,a3,a4⟩ hr hg;obtain⟨n1,s1,g1,c1,G1,Fn,b1,b2,b3,b4,b5,b6,b6',b7⟩:=Owns.header (ok':=E.ok) (λ_ h=>h) (λr hr g hg=>IA g (Ds r hr g hg)) h1;rw[Jl]at b1;injection b1 with b1;subst b1
 have Au:nix (.r t e) l 0 p<A.length:=by rw[a3,SS Jl (Ef hi)];omega
 have JU:s1=s:=by
  have k1:(sv::F)[nix (.r t e) l 0 p]?=some s1:=by rw[b2,<-b3,Gn (AQ _),Nat.sub_self];rfl
  rw[a2,H5 Au]at k1;rw[a4,H5 (by simpa using Au),FT,k1]at hs;simpa using hs
 subst JU;rw[Aw]at b4;injection b4 with b4 b4' b4'';injection b4 with b4;injection b4 with b4;subst b4;have An:s1.ownBlock=some g:=by rw[Aw];rfl
 have RT:u.oneCell'=true:=(hu u).oneCell u (by simp)
 have AW:∀s'∈G1++Fn,s'.ownBlock≠some g:=λs' Cc=>by rw[b2]at h3;exact Acw (C:=[]) Acx (by simpa using h3) s' (by rcases Cs.1 Cc with h|h<;>simp[h]) g An
 have hgF:∀s'∈u::Fr,s'.ownBlock≠some g:=λs' Cc hg=>hsep s' Cc g hg (Ds s1 (by rw[b2];simp) g An);have AGU:¬E.ok g:=IA g (Ds s1 (by rw[b2];simp) g An);obtain⟨A',B',k1,k2,k3⟩:=Owns.join (b7 u RT AW) a1;have k4:A=A'/\B=B':=Yb (a2▸k1) (by rw[a3,k2]);obtain⟨rfl,rfl⟩:=k4
 obtain⟨A2,hA2⟩:∃A2,A=sv::A2:=by
  cases A with
  |nil=>simp at Au
  |cons a A=>rw[Fz]at a2;injection a2 with a2 _;exact⟨A,by rw[a2]⟩
 subst hA2;have hF:F=A2++B:=by simpa using a2
 refine⟨⟨_,b6⟩,b6',(A2++(u::Fr++B)).map some,λg' h=>?_,λE' hw Ll D3=>?_⟩
 ·rcases h with h|⟨j,s',hj,h⟩
  ·exact .inl (.inl h)
  ·have hm:=Dg hj
   obtain⟨s2,Bm,Ey⟩:=Gy.1 hm;injection Ey with Ey;subst Ey;rcases Cs.1 Bm with h4|h4
   ·exact .inl (Ds s2 (by rw[a2];simp[h4]) g' h)
   ·rcases Cs.1 h4 with h4|h4
    ·exact .inr ⟨s2,h4,h⟩
    ·exact .inl (Ds s2 (by rw[a2];simp[h4]) g' h)
 ·have hm:=Owns.mono (w':=E.w.setCell ⟨g,i*n0.1.2.ty.size+o,none⟩ u) (AQ E.base) (Keeps.set (ok':=E.ok) (λ_ h=>h) AGU) (λs' Cc g' CJ=>heap_setCell_other E.w _ g' u (λe=>hgF s' Cc (by simp only at e;rw[CJ,e]))) (hu u)
  obtain⟨⟨m1,m2⟩,m3⟩:=m;obtain⟨⟨q1,q2⟩,q3⟩:=nP;simp only[BQ]at Cu;obtain⟨rfl,rfl⟩:=Cu;have Hw:=k3 _ _ hm;rw[<-Q4 a1]at Hw;have Hw:=Owns.mono (w':=E'.w) (ok':=E'.ok) (base':=E'.base) (by rw[Ll];exact AQ _) (λg' h Au=>⟨D3 g' h (by simpa [World.setCell]using Au),by rw[hw]⟩) (λ_ _ _ _=>by rw[hw]) Hw;refine⟨⟨u,A2++(u::Fr++B),Hw,?_,?_⟩,by simp⟩
  ·show _=_
   simp
  ·rw[hF]at h3
   have h3:(sv::A2++B).Pairwise (λs r=>∀g,s.ownBlock=some g->r.ownBlock≠some g):=h3;rw[H6]at h3;obtain⟨p1,p2,p3⟩:=h3;have hAB:∀a∈sv::A2++B,∀b∈u::Fr,∀g,a.ownBlock=some g->b.ownBlock≠some g:=λa ha b hb g h1 h2=>hsep b hb g h2 (Ds a (by rw[a2];exact ha) g h1);show(sv::A2++(u::Fr++B)).Pairwise _;rw[H6,H6];refine⟨p1,⟨IE,p2,λa ha b hb g h1 h2=>hAB b (DJ _ hb) a ha g h2 h1⟩,λa ha b hb=>?_⟩;rcases Cs.1 hb with hb|hb
   ·exact hAB a (D0 _ ha) b hb
   ·exact p3 a ha b hb
end
end Go.Lift
namespace Go.Lift
open Go.RowKit
theorem Y4{P:Program}{t:TypeId}{ti:TI}{i:TypeInfo}{d:TypeDesc}{z:Value}(f:TFacts P t ti i d z)(w:World):(isAgg t).run P w=.ok ti.agg w:=by rw[f.agg];unfold isAgg IS;rw[Sem.run_bind,run_underlying f.under w,f.under];cases d<;>simp
theorem run_sizeOf{P:Program}{t:TypeId}{ti:TI}{i:TypeInfo}{d:TypeDesc}{z:Value}(f:TFacts P t ti i d z)(w:World):(sizeOf t).run P w=.ok ti.size w:=by rw[f.size];simp[sizeOf,typeInfo,f.info]
theorem SU{P:Program}{t:TypeId}{ti:TI}{i:TypeInfo}{d:TypeDesc}{z:Value}(f:TFacts P t ti i d z){w:World}{ad:Addr}{us:List Value}(hl:us.length=ti.size)(h1:ti.agg=true\/ti.size=1)(hc:∀j u,us[j]?=some u->w.cell? (ad.add j)=some u){E:Env}{cs:List C}(hr:CReps E cs us):∃val,(loadVar t ad).run P w=.ok val w/\VRep E (V.mk ti.agg cs) val:=by
 unfold loadVar;cases ha:ti.agg with
 |true=>refine⟨.agg us.toArray,?_,us,hr,by simp⟩;have AaL:=run_loadCells_list (P:=P) w ad us hc;simp[Y4 f,ha,run_sizeOf f,<-hl,AaL]
 |false=>
  have hs:us.length=1:=by
   rcases h1 with h1|h1
   ·rw[ha]at h1;cases h1
   ·omega
  match us,hs with
  |[u],_=>
   refine⟨u,?_,VRep.mk ⟨[u],hr,by simp⟩⟩;have h0:=hc 0 u rfl;have Aam:ad.add 0=ad:=by simp[Addr.add]
   rw[Aam]at h0;simp[Y4 f,ha,h0]
theorem Y5{w:World}{g o:Nat}{vs:List Value}{t:TypeId}{fr:Nat×Nat}(hg:w.heap[g]?=some (.cells vs.toArray t fr)){n j:Nat}{u:Value}(h:((vs.drop o).take n)[j]?=some u):w.cell? ((⟨g,o,none⟩:Addr).add j)=some u:=by
 rw[Addr.add_lit,cell_of_row w g (o+j) _ t fr hg];rw[ML]at h;split at h
 ·simpa using h
 ·cases h
theorem Apm{P:Program}{t:TypeId}{ti:TI}{i:TypeInfo}{d:TypeDesc}{z:Value}(f:TFacts P t ti i d z)(C7:ti.agg=true\/ti.size=1){E:Env}{base:Nat}{t0:TypeId}{e:Ty}{l:List e.den}{sv:Value}{xs:List Value}(hd:DList (λx u=>DRep E.w E.ok e x u) l xs)(Ao:E.w.ownsRow base t0 e.size sv l.length xs){ix off g n c:Nat}(hi:ix<l.length)(Aw:sv=.slice (some ⟨g,0,none⟩) n c){rc:List C}(Bf:sub (cells e (l.getD ix e.dflt)) off ti.size=some rc):∃val,(loadVar t ⟨g,ix*e.size+off,none⟩).run P E.w=.ok val E.w/\VRep E (V.mk ti.agg rc) val:=by
 obtain⟨u,p1,q1,Xi,EJ,N7⟩:=DList.get e.dflt hd hi;have Df:=HS (E:=E) N7;obtain⟨s1,s2,s3⟩:=Om Df Bf
 have DC:∀j v,((u.drop off).take ti.size)[j]?=some v->E.w.cell? ((⟨g,ix*e.size+off,none⟩:Addr).add j)=some v:=by
  intro j v hj;rw[ML]at hj;split at hj
  ·have h2:xs[ix*e.size+off+j]?=some v:=by rw[NV]at hj;have Au:off+j<u.length:=(EN.1 hj).1;rw[Xi,Gn (by omega),H5 (by omega)];rw[<-hj];congr 1;omega
   have h3:=Ao.cells (g:=g) (by rw[Aw];rfl) _ _ h2;rw[Addr.add_lit]at h3⊢;rw[Ei]at h3;exact h3
  ·cases hj
 exact SU f s2 C7 DC s1
theorem Apn{P:Program}{t:TypeId}{ti:TI}{i:TypeInfo}{d:TypeDesc}{z:Value}(f:TFacts P t ti i d z)(C7:ti.agg=true\/ti.size=1){E:Env}(hb:Ek E){t0:TypeId}{e:OT}{b ver Ah ix off:Nat}{l:List e.ty.den}{p:Path}(An:E.bl b=some (.tree t0 e ver Ah none l)){v:Value}(hv:VRep E (.c (.tptr b (tv ver Ah p) p ix off)) v){n:EP}(hn:IP (.r t0 e) l 0 p=some n){rc:List C}(Bf:sub (Qp b (ver+Ah) p ix 0 n.1.2 (n.2.getD ix n.1.2.ty.dflt)) off ti.size=some rc):∃ad val,v=.pointer (some ad)/\(loadVar t ad).run P E.w=.ok val E.w/\VRep E (V.mk ti.agg rc) val:=by
 obtain⟨sv,Ac,n',s,g,m,c,Ba,hT,Ex,hs,hi,Aw,rfl⟩:=Acu hb An hv;have:=LK Ex;rw[hn]at this;injection this with this;subst this;obtain⟨u,pre,post,Ao,EJ,Df⟩:=Apl hb An Ba hT Ex hs hi;obtain⟨s1,s2,s3⟩:=Om Df Bf
 have DC:∀j v,((u.drop off).take ti.size)[j]?=some v->E.w.cell? ((⟨g,ix*n.1.2.ty.size+off,none⟩:Addr).add j)=some v:=by
  intro j v hj;rw[ML]at hj;split at hj
  ·have h2:(pre++(u++post))[ix*n.1.2.ty.size+off+j]?=some v:=by rw[NV]at hj;have Au:off+j<u.length:=(EN.1 hj).1;rw[Gn (by omega),H5 (by omega)];rw[<-hj];congr 1;omega
   have h3:=Ao.cells (g:=g) (by rw[Aw];rfl) _ _ h2;rw[Addr.add_lit]at h3⊢;rw[Ei]at h3;exact h3
  ·cases hj
 obtain⟨val,v1,v2⟩:=SU f s2 C7 DC s1;exact⟨_,val,rfl,v1,v2⟩
section
variable{P:Program}{o:Oper}{ρ:Operand->V}{bl:Nat->Option Blk}{β:Type}{r:β}
theorem lT{T:TypeId->Option TI}(hT:TOk P T){kk:K β}{t:TypeId}{x:Operand}(ho:o.op=.load t x)(hk:S6 T bl t (ρ x) kk=some r):Sound P o ρ bl kk r:=by
 unfold S6 at hk;split at hk
 ·cases hk
 rename_i ti ht;obtain⟨i,d,z,f⟩:=hT.facts ht;cases h1:(ti.agg||Nat.beq ti.size 1)with
 |false=>rw[h1]at hk;cases hk
 |true=>
  have C7:ti.agg=true\/ti.size=1:=by
   rcases(LC _ _).mp h1 with h|h
   ·exact .inl h
   ·exact .inr (Az h)
  simp only[h1,Ar]at hk
  have AM:∀(a:Act)(w:World)(ad:Addr)(val:Value),a.eval x=.pointer (some ad)->(loadVar t ad).run P w=.ok val w->(execOp a.eval o).run P w=.ok (.value val) w:=by intro a w ad val ha hv;simp[execOp,ho,ha,Instr.loadAt,Instr.sureAddr,hv]
  split at hk
  ·
   rename_i b off hx;split at hk
   ·rename_i t0 cs hb
    split at hk
    ·rename_i rc Bf
     refine Sound.pure hk λAa Aj ok0 base pl w a hr Af=>?_;have AH:Aa b=some (.cells t0 cs):=(Aj b (by simp)).trans hb;have hv:=Af x (by simp[ho,Op.operands]);rw[hx]at hv;obtain⟨g,hg,B7⟩:=hv;obtain⟨p,hp,hB⟩:=hr.blks b _ AH;have:p=.cells g:=by have h2:pl b=some (.cells g):=hg;rw[hp]at h2;injection h2
     subst this;obtain⟨vs,hh,Df⟩:=hB;obtain⟨s1,s2,s3⟩:=Om Df Bf;obtain⟨val,Fw,GI⟩:=SU f s2 C7 (λj u hj=>Y5 hh hj) s1;exact⟨val,AM a w _ val B7 Fw,GI⟩
    ·cases hk
   ·cases hk
  ·
   rename_i b ver ix off hx;split at hk
   ·rename_i t0 e ver' l hb
    cases Bg:Nat.beq ver ver' with
    |false=>rw[Bg]at hk;cases hk
    |true=>
     have:=Az Bg;subst this;simp only[Bg,Ar]at hk;split at hk
     ·rename_i rc Bf
      refine Sound.pure hk λAa Aj ok0 base pl w a hr Af=>?_;have AH:Aa b=some (.row t0 e ver l):=(Aj b (by simp)).trans hb;have hv:=Af x (by simp[ho,Op.operands]);rw[hx]at hv;obtain⟨sv,Ac,ad,hg,B7,Bt⟩:=hv;obtain⟨hi,g,n,c,Aw,rfl⟩:=(Bt t0 e ver l AH).2 rfl;obtain⟨p,hp,hB⟩:=hr.blks b _ AH;have:p=.row sv Ac:=by have h2:pl b=some (.row sv Ac):=hg;rw[hp]at h2;injection h2
      subst this;obtain⟨_,xs,hd,Ao⟩:=hB;obtain⟨val,Fw,GI⟩:=Apm f C7 hd Ao hi Aw Bf;exact⟨val,AM a w _ val B7 Fw,GI⟩
     ·cases hk
   ·cases hk
  ·
   rename_i e x0 off hx;split at hk
   ·rename_i rc Bf
    refine Sound.pure hk λAa Aj ok0 base pl w a hr Af=>?_;have hv:=Af x (by simp[ho,Op.operands]);rw[hx]at hv;obtain⟨xs,ad,hd,B7,hc⟩:=hv;have Df:=HS (E:=Ap ok0 base pl Aa w) hd;obtain⟨s1,s2,s3⟩:=Om Df Bf
    obtain⟨val,Fw,GI⟩:=SU f s2 C7 (λj u hj=>(hc j u (by
     rw[ML]at hj;split at hj
     ·exact hj
     ·cases hj)).2) s1
    exact⟨val,AM a w _ val B7 Fw,GI⟩
   ·cases hk
  ·
   rename_i b ver p ix off hx;split at hk
   ·rename_i q hq
    split at hk
    ·rename_i rc Bf
     obtain⟨hb,Bg,hn⟩:=Y3 hq;subst Bg;refine Sound.pure hk λAa Aj ok0 base pl w a hr Af=>?_;have AH:=(Aj b (by simp)).trans hb;have hv:=Af x (by simp[ho,Op.operands]);rw[hx]at hv;obtain⟨ad,val,B7,Fw,GI⟩:=Apn f C7 (E:=Ap ok0 base pl Aa w) hr.blksOk AH hv hn Bf;exact⟨val,AM a w _ val B7 Fw,GI⟩
    ·cases hk
   ·cases hk
  ·cases hk
theorem lU(w:World)(g:Nat)(cs:Array Value):w.grownBy (w.setRow g cs) (some g):=
 ⟨rfl,rfl,rfl,by simp,λk _ hk=>setRow_other w g k _ (λe=>hk (by rw[e]))⟩
theorem Acz{P:Program}{t:TypeId}{ti:TI}{i:TypeInfo}{d:TypeDesc}{z:Value}(f:TFacts P t ti i d z){w:World}{g off:Nat}{v:Value}{vs:List Value}{t0:TypeId}(hh:w.heap[g]?=some (.cells vs.toArray t0 (0,0)))(hl:v.cells.toList.length=ti.size)(BS:off+v.cells.toList.length<=vs.length)(h1:∀u∈v.cells.toList,u.oneCell'=true):(storeVar t ⟨g,off,none⟩ v).run P w=.ok () (w.setRow g (vs.take off++v.cells.toList++vs.drop (off+v.cells.toList.length)).toArray):=by
 have BU:=run_storeCells_at P g off t0 v.cells.toList 0 vs.toArray w hh (by simpa using BS) h1;have Gt:v.cells.size=ti.size:=by simpa using hl
 simp only[storeVar,Sem.run_bind,run_sizeOf f,Result.andThen_ok,Gt,ne_eq,XU,CF];simpa using BU
theorem AcA{P:Program}{t:TypeId}{ti:TI}{i:TypeInfo}{d:TypeDesc}{z:Value}(f:TFacts P t ti i d z){w:World}{base:Nat}{t0:TypeId}{size:Nat}{sv:Value}{m:Nat}{xs:List Value}(Ao:w.ownsRow base t0 size sv m xs){g o n c:Nat}(Aw:sv=.slice (some ⟨g,0,none⟩) n c){v:Value}(h1:∀u∈v.cells.toList,u.oneCell'=true)(hl:v.cells.toList.length=ti.size)(BS:o+v.cells.toList.length<=xs.length):∃w',(storeVar t ⟨g,o,none⟩ v).run P w=.ok () w'/\w.grownBy w' (some g)/\w'.ownsRow base t0 size sv m (xs.take o++v.cells.toList++xs.drop (o+v.cells.toList.length)):=by
 obtain⟨Fi,DE⟩:=Ao;rcases DE with⟨h0,_⟩|⟨g',cap,AP,JV,Cm,hh,Ft,Fs,W4,IF⟩
 ·rw[Aw]at h0;cases h0
 have hh:w.heap[g']?=some (.cells AP t0 (0,0)):=hh
 have FN:g'=g:=by rw[Aw]at JV;injection JV with e1 e2 e3;injection e1 with e1;injection e1 with e1;exact e1.symm
 subst FN
 have Bt:AP.toList=xs++AP.toList.drop (m*size):=by rw[<-IF,L8]
 have AaH:o+v.cells.toList.length<=AP.toList.length:=by rw[Bt];simp only[AR];omega
 have BU:=Acz f (v:=v) (vs:=AP.toList) (off:=o) (t0:=t0) (g:=g') (w:=w) (by simpa using hh) hl AaH h1
 have I9:AP.toList.take o++v.cells.toList++AP.toList.drop (o+v.cells.toList.length)=xs.take o++v.cells.toList++xs.drop (o+v.cells.toList.length)++AP.toList.drop (m*size):=by
  have e1:AP.toList.take o=xs.take o:=by rw[Bt,L7 (by omega)]
  have e2:AP.toList.drop (o+v.cells.toList.length)=xs.drop (o+v.cells.toList.length)++AP.toList.drop (m*size):=by
   conv=>lhs;rw[Bt]
   rw[Qc BS]
  rw[e1,e2];simp only[Ci]
 have Ls:(xs.take o++v.cells.toList++xs.drop (o+v.cells.toList.length)).length=xs.length:=by simp only[AR,Hd,IL];omega
 refine⟨_,BU,lU w g' _,by rw[Ls];exact Fi,.inr ⟨g',cap,_,JV,Cm,setRow_heap w g' _ _ t0 _ hh,Ft,Fs,?_,?_⟩⟩
 ·have Aat:AP.size=cap*size:=W4
  have:(AP.toList.take o++v.cells.toList++AP.toList.drop (o+v.cells.toList.length)).length=AP.toList.length:=by simp only[AR,Hd,IL];omega
  rw[XV,this,Hc];exact Aat
 ·simp only[I9]
  rw[L7 (by rw[Ls,Fi];exact AQ _),Hb (by rw[Ls,Fi];exact AQ _)]
theorem Apo{P:Program}{t:TypeId}{ti:TI}{i:TypeInfo}{d:TypeDesc}{z:Value}(f:TFacts P t ti i d z){E:Env}(AFZ:Ek E){base:Nat}{t0:TypeId}{e:Ty}{l:List e.den}{sv:Value}{xs:List Value}(hd:DList (λx u=>DRep E.w E.ok e x u) l xs)(Ao:E.w.ownsRow base t0 e.size sv l.length xs){ix off g n c:Nat}(hi:ix<l.length)(Aw:sv=.slice (some ⟨g,0,none⟩) n c){new rc:List C}{v:Value}(hy:CReps E new v.cells.toList)(NB:new.length=ti.size)(IC:over (cells e (l.getD ix e.dflt)) off new=some rc){x':e.den}(AaY:KH (λ_=>none) e rc=some x'):∃w' D5,(storeVar t ⟨g,ix*e.size+off,none⟩ v).run P E.w=.ok () w'/\E.w.grownBy w' (some g)/\DList (λx u=>DRep E.w E.ok e x u) (l.set ix x') D5/\w'.ownsRow base t0 e.size sv l.length D5:=by
 obtain⟨u,p1,q1,Xi,EJ,N7⟩:=DList.get e.dflt hd hi;have Df:=HS (E:=E) N7;obtain⟨s1,s2⟩:=SQ Df hy IC;have AnB:=hy.length;have iX:=N7.length;have DP:=Oo AFZ (Rows.none _ _) s1 AaY;have AK6:=DP.length;obtain⟨p2,u2,q2,AnZ,CD,AK2,Ct⟩:=DList.set x' _ hd hi DP
 have iP:p1=p2/\u=u2/\q1=q2:=by rw[Xi]at AnZ;have h3:=Yb AnZ (by omega);have h4:=Yb h3.2 (by omega);exact⟨h3.1,h4.1,h4.2⟩
 obtain⟨rfl,rfl,rfl⟩:=iP
 have AGI:ix*e.size+off+v.cells.toList.length<=xs.length:=by rw[Xi];simp only[AR];omega
 obtain⟨w',h1,h2,h3⟩:=AcA f Ao (o:=ix*e.size+off) Aw hy.oneCell (by omega) AGI;refine⟨w',_,h1,h2,Ct,?_⟩
 have:p1++(u.take off++v.cells.toList++u.drop (off+v.cells.toList.length)++q1)=xs.take (ix*e.size+off)++v.cells.toList++xs.drop (ix*e.size+off+v.cells.toList.length):=by
  rw[Xi]
  have e1:(p1++(u++q1)).take (ix*e.size+off)=p1++u.take off:=by rw[XX,Hb (by omega),L7 (by omega)];congr 2;omega
  have e2:(p1++(u++q1)).drop (ix*e.size+off+v.cells.toList.length)=u.drop (off+v.cells.toList.length)++q1:=by rw[XY,NU (by omega),Fl,Qc (by omega)];congr 2;omega
  rw[e1,e2];simp only[Ci]
 rw[this];exact h3
theorem SV{T:TypeId->Option TI}(hT:TOk P T){kk:K β}{t:TypeId}{x y:Operand}(ho:o.op=.store t x y)(hk:Og T bl t (ρ x) (ρ y) kk=some r):Sound P o ρ bl kk r:=by
 unfold Og at hk;split at hk
 ·rename_i ti new ht I9
  obtain⟨i,d,z,f⟩:=hT.facts ht;cases Bp:Nat.beq new.length ti.size with
  |false=>rw[Bp]at hk;cases hk
  |true=>
   have NB:=Az Bp;simp only[Bp,Ar]at hk
   have AM:∀(a:Act)(w w':World)(ad:Addr),a.eval x=.pointer (some ad)->(storeVar t ad (a.eval y)).run P w=.ok () w'->(execOp a.eval o).run P w=.ok .skip w':=by intro a w w' ad ha hv;simp[execOp,ho,ha,Instr.storeAt,Instr.sureAddr,hv]
   split at hk
   ·rename_i b off hx
    split at hk
    ·rename_i t0 cs hb
     split at hk
     ·rename_i rc IC
      refine⟨_,_,_,hk,λAa Aj=>?_⟩;have AH:Aa b=some (.cells t0 cs):=(Aj b (by simp)).trans hb;intro ok0 base pl w a hr Af K Q hK;have hv:=Af x (by simp[ho,Op.operands]);rw[hx]at hv;obtain⟨g,hg,B7⟩:=hv;obtain⟨p,hp,hB⟩:=hr.blks b _ AH;have:p=.cells g:=by have h2:pl b=some (.cells g):=hg;rw[hp]at h2;injection h2
      subst this;obtain⟨vs,hh,Df⟩:=hB;have hy:=VRep.cells_of I9 (Af y (by simp[ho,Op.operands]));obtain⟨s1,s2⟩:=SQ Df hy IC;have AnB:=hy.length;have BU:=Acz f (v:=a.eval y) hh (by omega) s2 hy.oneCell;have Hx:=lU w g (vs.take off++(a.eval y).cells.toList++vs.drop (off+(a.eval y).cells.toList.length)).toArray;have hs:=Step.wrote (cs':=rc) hr AH hp Hx;refine Ol (AM a w _ _ B7 BU) (hK undef (upd pl b (.cells g)) _ ?_ hs trivial);exact RelB.wrote hr AH hp Hx ⟨_,setRow_heap w g _ _ t0 _ hh,s1.mono hs.ext⟩
     ·cases hk
    ·cases hk
   ·rename_i b ver ix off hx
    split at hk
    ·rename_i t0 e ver' l hb
     cases Bg:Nat.beq ver ver' with
     |false=>rw[Bg]at hk;cases hk
     |true=>
      have:=Az Bg;subst this;simp only[Bg,Ar]at hk;split at hk
      ·rename_i rc IC
       split at hk
       ·rename_i x' AaY
        refine⟨_,_,_,hk,λAa Aj=>?_⟩;have AH:Aa b=some (.row t0 e ver l):=(Aj b (by simp)).trans hb;intro ok0 base pl w a hr Af K Q hK;have hv:=Af x (by simp[ho,Op.operands]);rw[hx]at hv;obtain⟨sv,Ac,ad,hg,B7,Bt⟩:=hv;obtain⟨hi,g,n,c,Aw,rfl⟩:=(Bt t0 e ver l AH).2 rfl;obtain⟨p,hp,hB⟩:=hr.blks b _ AH;have:p=.row sv Ac:=by have h2:pl b=some (.row sv Ac):=hg;rw[hp]at h2;injection h2
        subst this;obtain⟨h0,xs,hd,Ao⟩:=hB;subst h0;have hy:=VRep.cells_of I9 (Af y (by simp[ho,Op.operands]));obtain⟨w',D5,BU,Hx,Ct,DE⟩:=Apo f (E:=Ap ok0 base pl Aa w) hr.blksOk hd Ao hi Aw hy NB IC AaY;have An:sv.ownBlock=some g:=by rw[Aw];rfl
        have Ank:w.grownBy w' sv.ownBlock:=by rw[An];exact Hx
        have hs:=Step.grown (l':=l.set ix x') hr AH hp Ank (.inl rfl) ⟨AQ _,λ_=>⟨rfl,by simp⟩⟩;have GE:=hs.ext (ok0:=ok0) (base:=base);refine Ol (AM a w _ _ B7 BU) (hK undef (upd pl b (.row sv [])) _ ?_ hs trivial);exact RelB.grown hr AH hp Ank (.inl rfl) ⟨AQ _,λ_=>⟨rfl,by simp⟩⟩ ⟨rfl,D5,Ct.mono λx u hu=>hu.mono GE.heap,by rw[MM];exact DE⟩
       ·cases hk
      ·cases hk
    ·cases hk
   ·
    rename_i b ver p ix off hx;split at hk
    ·rename_i t0 e ver' Ah l hb
     cases Bg:Nat.beq ver (tv ver' Ah p)with
     |false=>rw[Bg]at hk;cases hk
     |true=>
      have:=Az Bg;subst this;simp only[Bg,Ar]at hk;split at hk
      ·rename_i n hn
       split at hk
       ·rename_i x' Lw
        refine⟨_,_,_,hk,λAa Aj=>?_⟩;have AH:Aa b=some (.tree t0 e ver' Ah none l):=(Aj b (by simp)).trans hb;intro ok0 base pl w a hr Af K Q hK;have hv:=Af x (by simp[ho,Op.operands]);rw[hx]at hv;obtain⟨sv,Ac,n',s,g,m,c,Ba,hT,Ex,hs,hi,Aw,B7⟩:=Acu (E:=Ap ok0 base pl Aa w) hr.blksOk AH hv;have:=LK Ex;rw[hn]at this;injection this with this;subst this;have hp:pl b=some (.row sv Ac):=Ba;have hy:=VRep.cells_of I9 (Af y (by simp[ho,Op.operands]));have AnB:=hy.length;obtain⟨xs,Ao,BS,Hw⟩:=hT.leaf hr.blksOk Ex hs hi Aw hy Lw;have AHl:=Same.write Ex hi Lw;obtain⟨w',BU,Hx,DE⟩:=AcA f Ao (o:=ix*n.1.2.ty.size+off) Aw hy.oneCell (by omega) BS;have An:s.ownBlock=some g:=by rw[Aw];rfl
        have IB:∀g',some g=some g'->(Pl.row sv Ac).has g':=λg' h=>by
         injection h with h;subst h;rcases Bw.1 (Dg hs)with h1|h1
         ·injection h1 with h1;exact .inl (h1▸An)
         ·obtain⟨j,hj⟩:=Qh.1 h1;exact .inr ⟨j,s,hj,An⟩
        have P0:KeepR (some (.tree t0 e ver' Ah none l)) (some (.tree t0 e ver' Ah none (setD (.r t0 e) l 0 p n.1.2 (n.2.set ix x')))) sv Ac sv Ac:=
         KeepR.ofTree ⟨AQ _,AQ _,λ_=>⟨rfl,KeepT.same AHl sv Ac⟩⟩
        have AnS:=Step.grownP hr AH rfl hp Hx IB (λg h=>.inl h) P0;have GE:=AnS.ext (ok0:=ok0) (base:=base);refine Ol (AM a w _ _ B7 BU) (hK undef (upd pl b (.row sv Ac)) _ ?_ AnS trivial);exact RelB.grownP hr AH rfl hp Hx IB (λg h=>.inl h) P0 (Hw _ GE rfl (λg' h AW=>Hx.block g' (Own.lt hr ⟨b,_,_,AH,rfl,hp,h⟩) (λh2=>AW (by injection h2))) DE)
       ·cases hk
      ·cases hk
    ·
     rename_i t0 e ver' Ah PP l hb;cases Bg:Nat.beq ver (tv ver' Ah p)with
     |false=>rw[Bg]at hk;cases hk
     |true=>
      have:=Az Bg;subst this;simp only[Bg,Ar]at hk;split at hk
      ·rename_i n rr m hn AHj
       split at hk
       ·rename_i Cu
        obtain⟨AH5,hk⟩:=DL hk;have:=Acy AH5;subst this;refine⟨_,_,_,hk,λAa Aj=>?_⟩;have AH:Aa b=some (.tree t0 e ver' Ah (some (p++[(ix,off)])) l):=(Aj b (by simp)).trans hb;intro ok0 base pl w a hr Af K Q hK;have hv:=Af x (by simp[ho,Op.operands]);rw[hx]at hv;obtain⟨sv,Ac,ad,hg,B7,Bt⟩:=hv
        obtain⟨n0,s,Jl,hs,hi,g,m0,c,Aw,rfl⟩:=(Bt _ _ _ _ _ _ AH).2 rfl (λq hq Jm=>by injection hq with hq;subst hq;have:=Jm.length_le;simp only[AR,Gp]at this;omega)
        obtain⟨q,hp,hB⟩:=hr.blks b _ AH;have:q=.row sv Ac:=by have h2:pl b=some (.row sv Ac):=hg;rw[hp]at h2;injection h2
        subst this;have AnV:=Af y (by simp[ho,Op.operands]);obtain⟨svr,Fr,Br,N5,iJ,AGS,RP,hu,AnJ,IE⟩:=lS (E:=Ap ok0 base pl Aa w) hr.blksOk AHj (Aj rr (by simp)) AnV;have N5:Aa rr=some Br:=N5;have RP:pl rr=some (.row (a.eval y) svr):=RP;have HJ:Br.live=true:=by cases Br<;>first|rfl|exact absurd rfl iJ
        have Ab2:rr≠b:=by rintro rfl;rw[AH]at N5;injection N5 with N5;exact AGS _ _ _ _ _ _ N5.symm
        have AnI:∀g',(Pl.row sv Ac).has g'->C6 pl Aa b g':=λg' h=>⟨_,_,AH,rfl,hp,h⟩;have AH2:∀s'∈a.eval y::Fr,∀g',s'.ownBlock=some g'->C6 pl Aa rr g':=λs' Cc g' h=>⟨_,_,N5,HJ,RP,Oq AnJ Cc h⟩;have hsep:∀s'∈a.eval y::Fr,∀g',s'.ownBlock=some g'->¬(Pl.row sv Ac).has g':=λs' Cc g' h h2=>hr.sep rr b _ _ _ _ g' Ab2 N5 AH HJ rfl RP hp (Oq AnJ Cc h) h2;have IA:∀g',(Pl.row sv Ac).has g'->¬(Ap ok0 base pl Aa w).ok g':=λg' h h2=>h2.2 ⟨b,_,_,AH,rfl,hp,h⟩;obtain⟨⟨old,DC⟩,Ps,B6,AGs,Hw⟩:=TreeOk.put (E:=Ap ok0 base pl Aa w) hB Jl hs hi Aw IA hn Cu hu IE hsep;have RT:(a.eval y).oneCell'=true:=(hu (a.eval y)).oneCell _ (by simp)
        have Aau:(a.eval y).cells=#[a.eval y]:=by obtain⟨_,_,_,z1,_,z3,_⟩:=hu (a.eval y);have z1:=(KD z1).1;rw[z1];rcases z3.2 with⟨h,_⟩|⟨g,cap,AP,h,_⟩<;>rw[h]<;>rfl
        have BU:(storeVar t ⟨g,ix*n0.1.2.ty.size+off,none⟩ (a.eval y)).run P w=.ok () (w.setCell ⟨g,ix*n0.1.2.ty.size+off,none⟩ (a.eval y)):=by
         have HI:new.length=1:=by have:=(VRep.cells_of I9 AnV).length;rw[Aau]at this;simpa using this.symm
         have DC:w.cell? ⟨g,ix*n0.1.2.ty.size+off,none⟩=some old:=DC;have Ps:w.frozen? ⟨g,ix*n0.1.2.ty.size+off,none⟩=false:=Ps;have CK:(a.eval y).cells.size=ti.size:=by rw[Aau];simp;omega
         simp only[storeVar,Sem.run_bind,run_sizeOf f,Result.andThen_ok,CK,ne_eq,XU,CF];rw[Aau];have Aam:(⟨g,ix*n0.1.2.ty.size+off,none⟩:Addr).add 0=⟨g,ix*n0.1.2.ty.size+off,none⟩:=by simp[Addr.add]
         simp only[storeCells,Sem.run_bind,Aam,run_store P w _ _ _ RT,DC,Ps,Il,CF,Result.andThen_ok];rfl
        have An:s.ownBlock=some g:=by rw[Aw];rfl
        have AGu:(Pl.row sv Ac).has g:=by
         rcases Bw.1 (Dg hs)with h1|h1
         ·injection h1 with h1;exact .inl (h1▸An)
         ·obtain⟨j,hj⟩:=Qh.1 h1;exact .inr ⟨j,s,hj,An⟩
        have Hx:w.grownBy (w.setCell ⟨g,ix*n0.1.2.ty.size+off,none⟩ (a.eval y)) (some g):=
         ⟨rfl,rfl,rfl,by simp[World.setCell],λk _ hk=>heap_setCell_other w _ k _ (λe=>hk (by rw[e]))⟩
        have Hw:=λ(E':Env)(h1:E'.w=w.setCell ⟨g,ix*n0.1.2.ty.size+off,none⟩ (a.eval y))=>Hw E' h1;generalize w.setCell ⟨g,ix*n0.1.2.ty.size+off,none⟩ (a.eval y)=w' at*
        have AnD:∀g',(Pl.row sv B6).has g'->C6 pl Aa rr g'\/C6 pl Aa b g'\/w.heap.size<=g':=λg' h=>by
         rcases AGs g' h with h|⟨s',Cc,h⟩
         ·exact .inr (.inl (AnI g' h))
         ·exact .inl (AH2 s' Cc g' h)
        have IB:∀g',some g=some g'->C6 pl Aa rr g'\/C6 pl Aa b g':=λg' h=>by injection h with h;subst h;exact .inr (AnI _ AGu)
        have EM:Step pl Aa w (upd (upd pl rr (.row (a.eval y) [])) b (.row sv B6)) (upd (upd Aa rr .dead) b (.tree t0 e ver' (Ah+1) none (setD (.r t0 e) l 0 (p++[(ix,off)]) m.1.2 m.2))) w':=by
         refine Step.two hr Ab2 Hx IB (λg' h=>by cases h) (λg' _ h=>AnD g' h) (λg' h=>by rw[RP]at h;cases h) (λg' h=>by rw[hp]at h;cases h) (λsv0 X6 h=>?_) (λsv0 X6 h=>?_)
         ·rw[RP]at h
          injection h with h;injection h with h h2;subst h h2;exact⟨_,_,rfl,KeepR.ofDead⟩
         ·rw[hp]at h
          injection h with h;injection h with h h2;subst h h2;refine⟨_,_,rfl,?_⟩;rw[AH];refine KeepR.ofTree ⟨AQ _,by omega,λ_=>⟨rfl,λq hq ho=>?_⟩⟩;rcases hq with rfl|hq
          ·refine⟨λQ hQ Jm=>?_,λn2 Dh=>?_⟩
           ·injection hQ with hQ
            subst hQ;have:=List.prefix_nil.1 Jm;simp at this
           ·simp only[BL,Ag]at Dh
            subst Dh;refine⟨⟨(t0,e),setD (.r t0 e) l 0 (p++[(ix,off)]) m.1.2 m.2⟩,rfl,rfl,?_,λs hs=>hs⟩;cases p<;>simp[setD]
          ·omega
        have GE:=EM.ext (ok0:=ok0) (base:=base);refine Ol (AM a w _ _ B7 BU) (hK undef (upd (upd pl rr (.row (a.eval y) [])) b (.row sv B6)) _ ?_ EM trivial);refine RelB.two hr Ab2 Hx IB (λg' h=>by cases h) (λg' _ h=>AnD g' h) (λg' h=>by cases h) EM trivial (Hw _ rfl rfl λg' h Au=>(GE.heap g' h Au).1)
       ·cases hk
      ·cases hk
    ·cases hk
   ·cases hk
 ·cases hk
end
end Go.Lift
