/- Part0: LiftA0, LiftOw, LiftA, LiftB, LiftC, LiftD, LiftE, LiftOt. -/
import Derived.Laws.AppendOwn
import Derived.Below
import Derived.Lib.Join
import Derived.Lib.LaidTab
import Derived.Lib.ItoaNum
import Derived.Lib.Space
import Derived.Lib.SpaceR
import Derived.Orders
import Derived.Laws.Rows
import Derived.Laws.CopyRow
import Derived.Laws.MakeOwn
import Derived.Laws.Build
import Derived.Laws.StructEq
import Derived.Laws.Small
import Derived.Deep.RegionLaw
set_option linter.unusedVariables false
set_option linter.unusedSectionVars false
set_option linter.unusedSimpArgs false
namespace Go.Lift
abbrev Ac:=@Option.some.injEq
abbrev Ag:=@Nat.eq_of_beq_eq_true
abbrev Av:=@List.length_append
abbrev Aw:=@List.length_cons
abbrev Aq:=@decide_eq_true
abbrev Af:=@cond_true
abbrev Az:=@of_decide_eq_true
abbrev Ao:=@Nat.le_refl
abbrev AE:=@Int.toNat_natCast
abbrev AB:=@decide_eq_false
abbrev Aj:=@congrArg
abbrev AU:=@List.mem_cons_of_mem
abbrev AH:=@List.mem_cons
abbrev Bx:=@List.getElem?_eq_getElem
abbrev AW:=@List.append_assoc
abbrev BI:=@List.getElem?_eq_some_iff
abbrev AN:=@Prod.mk.injEq
abbrev BJ:=@List.getElem?_cons_zero
abbrev B6:=@List.mem_of_getElem?
abbrev Ba:=@List.mem_append
abbrev Bu:=@List.mem_cons_self
abbrev BG:=@List.mem_append_left
abbrev BV:=@List.getElem?_cons_succ
abbrev BM:=@List.mem_append_right
abbrev Bv:=@Bool.and_eq_true
abbrev Co:=@Array.getD_eq_getD_getElem?
abbrev Bw:=@List.length_nil
abbrev Cu:=@List.getElem?_append_right
abbrev AT:=@cond_false
abbrev BB:=@List.cons.injEq
abbrev Bp:=@List.map_cons
abbrev Db:=@List.getElem?_append_left
abbrev Cd:=@List.not_mem_nil
abbrev Dk:=@Int.tmod_eq_emod_of_nonneg
abbrev D5:=@List.eq_nil_of_length_eq_zero
abbrev BH:=@Nat.le_trans
abbrev Cv:=@List.mem_singleton
abbrev Cf:=@List.length_map
abbrev CO:=@List.length_singleton
abbrev CP:=@Array.toArray_toList
abbrev Cl:=@Option.map_some
abbrev C0:=@List.getElem?_map
abbrev Cw:=@List.cons_append
abbrev DM:=@Array.getElem?_eq_some_iff
abbrev DN:=@Int.tdiv_eq_ediv_of_nonneg
abbrev CQ:=@Array.length_toList
abbrev BW:=@Nat.zero_add
abbrev Cp:=@List.nil_append
abbrev Bk:=@if_false
abbrev Dz:=@List.take_of_length_le
abbrev C1:=@List.all_eq_true
abbrev BZ:=@Nat.zero_le
abbrev CA:=@List.append_nil
abbrev D6:=@Nat.le_of_ble_eq_true
abbrev D7:=@List.pairwise_append
abbrev EY:=@List.drop_eq_getElem_cons
abbrev B7:=@if_true
abbrev D8:=@List.pairwise_cons
abbrev DO:=@Bool.false_eq_true
abbrev CJ:=@List.mem_map
abbrev E5:=@List.flatMap_cons
abbrev H3:=@List.take_append_of_le_length
abbrev Cm:=@and_true
abbrev Ei:=@Nat.le_antisymm
abbrev E6:=@List.length_take
abbrev EZ:=@decide_eq_true_eq
abbrev GL:=@Nat.add_sub_cancel_left
abbrev FZ:=@Nat.mul_le_mul_right
abbrev Ga:=@List.getElem?_set_ne
abbrev Dc:=@Array.ext'
abbrev GM:=@List.getElem?_set_self
abbrev Fa:=@List.length_drop
abbrev DP:=@Nat.succ_mul
abbrev DQ:=@Nat.le_of_eq
abbrev GN:=@List.length_replicate
abbrev Fb:=@Bool.eq_iff_iff
abbrev ID:=@List.getD_eq_getElem?_getD
abbrev Dl:=@heq_eq_eq
abbrev F3:=@Option.some.inj
abbrev IE:=@Array.getElem?_eq_getElem
abbrev IF:=@List.getElem?_eq_none_iff
abbrev H4:=@List.take_append_drop
abbrev Kj:=@List.drop_append_of_le_length
abbrev GP:=@List.getElem?_take
abbrev Gb:=@Option.getD_some
abbrev H5:=@Bool.or_eq_false_iff
abbrev IG:=@List.pairwise_singleton
abbrev Gc:=@List.map_append
abbrev H6:=@List.length_pos_iff
abbrev IH:=@List.drop_of_length_le
abbrev E7:=@Nat.add_mul
abbrev F4:=@List.cons.inj
abbrev II:=@List.mem_iff_getElem?
abbrev H7:=@List.getElem?_drop
abbrev GQ:=@List.length_set
abbrev GR:=@Bool.or_eq_true
abbrev Kk:=@List.getElem?_take_of_lt
abbrev GS:=@List.nodup_cons
abbrev IJ:=@Int.toNat_of_nonneg
abbrev H8:=@List.take_length
abbrev N2:=@Array.getElem?_setIfInBounds
abbrev Kl:=@Option.map_eq_some_iff
abbrev Km:=@List.getElem?_eq_none
abbrev H9:=@Nat.not_lt_zero
abbrev Kn:=@Array.getElem?_modify
abbrev GT:=@Bool.not_true
abbrev N3:=@Array.getElem?_append_left
abbrev IK:=@Bool.not_eq_true'
abbrev Ko:=@List.forall_mem_cons
abbrev Gd:=@Int.le_refl
abbrev GU:=@Nat.add_comm
abbrev IL:=@Array.toList_map
abbrev GV:=@List.map_nil
abbrev GW:=@Prod.ext_iff
abbrev Kp:=@List.mem_map_of_mem
abbrev HA:=@Nat.add_assoc
abbrev HB:=@List.sum_cons
abbrev HC:=@Bool.false_or
abbrev N4:=@List.drop_eq_nil_of_le
abbrev Kq:=@List.ext_getElem?
abbrev HD:=@Nat.lt_or_ge
abbrev HE:=@Nat.add_zero
abbrev N5:=@List.getElem?_toArray
abbrev Kr:=@List.take_append
abbrev Ks:=@List.drop_append
abbrev N6:=@List.getElem?_of_mem
abbrev F5:=@Prod.ext
abbrev Sb:=@List.pairwise_iff_getElem
abbrev N7:=@Nat.lt_of_lt_of_le
abbrev N8:=@Nat.eq_zero_or_pos
abbrev N9:=@of_decide_eq_false
abbrev Sc:=@Option.isSome_iff_exists
abbrev Kt:=@List.mem_range
abbrev Sd:=@Nat.le_mul_of_pos_right
abbrev Se:=@decide_eq_false_iff_not
abbrev NA:=@not_true_eq_false
abbrev NB:=@List.size_toArray
abbrev NC:=@not_false_eq_true
abbrev Sf:=@List.flatMap_singleton
abbrev ND:=@List.mem_toArray
abbrev NE:=@Array.mem_append
abbrev NF:=@Option.bind_some
abbrev YQ:=@Array.all_eq_true_iff_forall_mem
abbrev NG:=@List.append_inj
abbrev Sg:=@List.range_eq_range'
abbrev Ku:=@List.map_map
abbrev Sh:=@List.mem_of_mem_take
abbrev Si:=@List.flatMap_append
abbrev NH:=@List.take_left
abbrev NI:=@List.drop_drop
abbrev Kv:=@Nat.mul_one
abbrev Sj:=@Int.tmod_lt_of_pos
abbrev NJ:=@List.all_cons
abbrev Sk:=@Int.emod_eq_of_lt
abbrev Sm:=@List.nodup_append
abbrev Sn:=@List.getElem_mem
abbrev YR:=@Int.tmod_eq_zero_of_dvd
abbrev YS:=@Int.emod_eq_zero_of_dvd
abbrev YT:=@Int.dvd_of_tmod_eq_zero
inductive Ty where
 |bool|int (k:IntKind)|str|unit|err
 |prod (a b:Ty)|slice (e:Ty)
 deriving DecidableEq
@[reducible] def Ty.den:Ty->Type
 |.bool=>Bool
 |.int _=>Int
 |.str=>List UInt8
 |.unit=>Unit
 |.err=>Bool
 |.prod a b=>a.den×b.den
 |.slice e=>List e.den
def Ty.dflt:(τ:Ty)->τ.den
 |.bool=>false
 |.int _=>(0:Int)
 |.str=>([]:List UInt8)
 |.unit=>()
 |.err=>true
 |.prod a b=>(a.dflt,b.dflt)
 |.slice e=>([]:List e.den)
def Ty.size:Ty->Nat
 |.bool|.int _|.str|.err|.slice _=>1
 |.unit=>0
 |.prod a b=>a.size+b.size
def DList{α:Type}(R:α->List Value->Prop):List α->List Value->Prop
 |[],xs=>xs=[]
 |x::l,xs=>∃u v,xs=u++v/\R x u/\DList R l v
def errRep:Bool->Value->Prop
 |true,v=>v=.nilIface
 |false,v=>∃t u,v=.iface t u
theorem errRep.one{b:Bool}{v:Value}(h:errRep b v):v.oneCell'=true:=by
 cases b with
 |true=>obtain rfl:v=.nilIface:=h;rfl
 |false=>obtain⟨t,u,rfl⟩:=h;rfl
def DRep(w:World)(ok:Nat->Prop):(τ:Ty)->τ.den->List Value->Prop
 |.bool,b,vs=>vs=[.bool b]
 |.int k,n,vs=>vs=[.int k n]
 |.str,s,vs=>vs=[.string ⟨s.toArray⟩]
 |.err,b,vs=>∃v,vs=[v]/\errRep b v
 |.unit,_,vs=>vs=[]
 |.prod a b,x,vs=>∃u v,vs=u++v/\DRep w ok a x.1 u/\DRep w ok b x.2 v
 |.slice e,l,vs=>∃A c xs,vs=[.slice A l.length c]/\l.length<=c/\c<=maxLen/\DList (λx u=>DRep w ok e x u) l xs/\
   ∀j v,xs[j]?=some v->∃ad,A=some ad/\ok ad.block/\w.cell? (ad.add j)=some v
theorem DList.mono{α:Type}{R R':α->List Value->Prop}(h:∀x u,R x u->R' x u):∀{l xs},DList R l xs->DList R' l xs
 |[],_,hx=>hx
 |_::_,_,⟨u,v,e,hr,ht⟩=>⟨u,v,e,h _ _ hr,DList.mono h ht⟩
theorem DList.append{α:Type}{R:α->List Value->Prop}:∀{l l' xs ys},DList R l xs->DList R l' ys->DList R (l++l') (xs++ys)
 |[],_,_,_,hx,hy=>by simp only[DList]at hx;subst hx;simpa using hy
 |_::_,_,_,_,⟨u,v,e,hr,ht⟩,hy=>⟨u,v++_,by rw[e,AW],hr,DList.append ht hy⟩
theorem DRep.length{w:World}{ok:Nat->Prop}:∀{τ:Ty}{x:τ.den}{vs:List Value},DRep w ok τ x vs->vs.length=τ.size
 |.bool,_,_,h=>by simp only[DRep]at h;simp[h,Ty.size]
 |.int _,_,_,h=>by simp only[DRep]at h;simp[h,Ty.size]
 |.str,_,_,h=>by simp only[DRep]at h;simp[h,Ty.size]
 |.err,_,_,h=>by simp only[DRep]at h;obtain⟨v,rfl,_⟩:=h;rfl
 |.unit,_,_,h=>by simp only[DRep]at h;simp[h,Ty.size]
 |.prod a b,_,_,h=>by simp only[DRep]at h;obtain⟨u,v,rfl,h1,h2⟩:=h;simp[Ty.size,DRep.length h1,DRep.length h2]
 |.slice _,_,_,h=>by simp only[DRep]at h;obtain⟨A,c,xs,rfl,_⟩:=h;simp[Ty.size]
theorem DRep.oneCell{w:World}{ok:Nat->Prop}:∀{τ:Ty}{x:τ.den}{vs:List Value},DRep w ok τ x vs->∀v∈vs,v.oneCell'=true
 |.bool,_,_,h,v,hv=>by simp only[DRep]at h;subst h;simp at hv;subst hv;rfl
 |.int _,_,_,h,v,hv=>by simp only[DRep]at h;subst h;simp at hv;subst hv;rfl
 |.str,_,_,h,v,hv=>by simp only[DRep]at h;subst h;simp at hv;subst hv;rfl
 |.err,_,_,h,v,hv=>by simp only[DRep]at h;obtain⟨u,rfl,hu⟩:=h;simp at hv;subst hv;exact hu.one
 |.unit,_,_,h,v,hv=>by simp only[DRep]at h;subst h;simp at hv
 |.prod a b,_,_,h,v,hv=>by
  simp only[DRep]at h;obtain⟨x,y,rfl,h1,h2⟩:=h;rcases Ba.1 hv with hv|hv
  ·exact DRep.oneCell h1 v hv
  ·exact DRep.oneCell h2 v hv
 |.slice _,_,_,h,v,hv=>by simp only[DRep]at h;obtain⟨A,c,xs,rfl,_⟩:=h;simp at hv;subst hv;rfl
theorem DList.length{w:World}{ok:Nat->Prop}{e:Ty}:∀{l:List e.den}{xs:List Value},DList (λx u=>DRep w ok e x u) l xs->xs.length=l.length*e.size
 |[],_,h=>by simp only[DList]at h;simp[h]
 |_::l,_,⟨u,v,e1,hr,ht⟩=>by rw[e1,Av,DRep.length hr,DList.length ht,Aw,DP,GU]
theorem DList.oneCell{w:World}{ok:Nat->Prop}{e:Ty}:∀{l:List e.den}{xs:List Value},DList (λx u=>DRep w ok e x u) l xs->∀v∈xs,v.oneCell'=true
 |[],_,h,v,hv=>by simp only[DList]at h;subst h;simp at hv
 |_::l,_,⟨x,y,e1,hr,ht⟩,v,hv=>by
  subst e1;rcases Ba.1 hv with hv|hv
  ·exact DRep.oneCell hr v hv
  ·exact DList.oneCell ht v hv
theorem DList.get{w:World}{ok:Nat->Prop}{e:Ty}:∀{l:List e.den}{xs:List Value}{i:Nat}(d:e.den),DList (λx u=>DRep w ok e x u) l xs->i<l.length->∃u p q,xs=p++(u++q)/\p.length=i*e.size/\DRep w ok e (l.getD i d) u
 |[],_,i,_,_,h=>by simp at h
 |x::l,xs,0,d,⟨u,v,e1,hr,ht⟩,_=>⟨u,[],v,by simp[e1],by simp,by simpa using hr⟩
 |x::l,xs,i+1,d,⟨u,v,e1,hr,ht⟩,h=>by obtain⟨u',p,q,hv,hp,hd⟩:=DList.get (i:=i) d ht (by simpa using h);refine⟨u',u++p,q,by rw[e1,hv,AW],?_,by simpa using hd⟩;rw[Av,DRep.length hr,hp,DP,GU]
theorem DList.set{w:World}{ok:Nat->Prop}{e:Ty}:∀{l:List e.den}{xs:List Value}{i:Nat}(x':e.den)(u':List Value),DList (λx u=>DRep w ok e x u) l xs->i<l.length->DRep w ok e x' u'->∃p u q,xs=p++(u++q)/\p.length=i*e.size/\u.length=e.size/\DList (λx u=>DRep w ok e x u) (l.set i x') (p++(u'++q))
 |[],_,i,_,_,_,h,_=>by simp at h
 |x::l,xs,0,x',u',⟨u,v,e1,hr,ht⟩,_,h'=>⟨[],u,v,by simp[e1],by simp,DRep.length hr,⟨u',v,by simp,h',ht⟩⟩
 |x::l,xs,i+1,x',u',⟨u,v,e1,hr,ht⟩,h,h'=>by obtain⟨p,u0,q,hv,hp,hu,hd⟩:=DList.set (i:=i) x' u' ht (by simpa using h) h';refine⟨u++p,u0,q,by rw[e1,hv,AW],?_,hu,⟨u,p++(u'++q),by rw[AW],hr,by simpa using hd⟩⟩;rw[Av,DRep.length hr,hp,DP,GU]
def Keeps(w:World)(ok:Nat->Prop)(w':World)(ok':Nat->Prop):Prop:=∀g,ok g->g<w.heap.size->ok' g/\w'.heap[g]?=w.heap[g]?
theorem Keeps.cell{w w':World}{ok ok':Nat->Prop}(h:Keeps w ok w' ok'){a:Addr}{v:Value}(ho:ok a.block)(hc:w.cell? a=some v):ok' a.block/\w'.cell? a=some v:=by obtain⟨h1,h2⟩:=h _ ho (World.block_lt_of_cell? w a hc);exact⟨h1,(World.cell?_of_block h2).trans hc⟩
theorem Ge(a:Addr)(n:Nat):(a.add n).block=a.block:=by unfold Addr.add;split<;>rfl
theorem GX(a:Addr)(i j:Nat):(a.add i).add j=a.add (i+j):=by unfold Addr.add;by_cases hi:i=0<;>by_cases hj:j=0<;>simp[hi,hj,HA]
theorem DRep.mono{w w':World}{ok ok':Nat->Prop}(hk:Keeps w ok w' ok'):∀{τ:Ty}{x:τ.den}{vs:List Value},DRep w ok τ x vs->DRep w' ok' τ x vs
 |.bool,_,_,h=>h
 |.int _,_,_,h=>h
 |.str,_,_,h=>h
 |.err,_,_,h=>h
 |.unit,_,_,h=>h
 |.prod a b,_,_,h=>by simp only[DRep]at h⊢;obtain⟨u,v,e,h1,h2⟩:=h;exact⟨u,v,e,DRep.mono hk h1,DRep.mono hk h2⟩
 |.slice e,_,_,h=>by
  simp only[DRep]at h⊢;obtain⟨A,c,xs,e1,hl,hc,hd,hx⟩:=h;refine⟨A,c,xs,e1,hl,hc,hd.mono λx u hu=>DRep.mono hk hu,λj v hj=>?_⟩;obtain⟨ad,ha,ho,hcell⟩:=hx j v hj;have hb:ok (ad.add j).block:=by rw[Ge];exact ho
  obtain⟨o',c'⟩:=hk.cell hb hcell;rw[Ge]at o';exact⟨ad,ha,o',c'⟩
def Ty.flat:Ty->Bool
 |.slice _|.err=>false
 |.prod a b=>a.flat&&b.flat
 |_=>true
theorem DRep.flat{w w':World}{ok ok':Nat->Prop}:∀{τ:Ty}{x:τ.den}{vs:List Value},τ.flat=true->DRep w ok τ x vs->DRep w' ok' τ x vs
 |.bool,_,_,_,h=>h
 |.int _,_,_,_,h=>h
 |.str,_,_,_,h=>h
 |.unit,_,_,_,h=>h
 |.prod a b,_,_,hf,h=>by simp only[Ty.flat,Bv]at hf;simp only[DRep]at h⊢;obtain⟨u,v,e,h1,h2⟩:=h;exact⟨u,v,e,DRep.flat hf.1 h1,DRep.flat hf.2 h2⟩
 |.slice _,_,_,hf,_=>by simp[Ty.flat]at hf
 |.err,_,_,hf,_=>by simp[Ty.flat]at hf
end Go.Lift
namespace Go.Lift
inductive OT where
 |d (τ:Ty)
 |p (a b:OT)
 |r (t:TypeId) (e:OT)
 deriving DecidableEq
@[reducible] def OT.ty:OT->Ty
 |.d τ=>τ
 |.p a b=>.prod a.ty b.ty
 |.r _ e=>.slice e.ty
abbrev Path:=List (Nat×Nat)
abbrev Cg:=(te:TypeId×OT)×List te.2.ty.den
def AM:(o:OT)->o.ty.den->Nat->Path->Option Cg
 |.d _,_,_,_=>none
 |.p a b,x,k,p=>if k<a.ty.size then AM a x.1 k p else AM b x.2 (k-a.ty.size) p
 |.r t e,l,0,[]=>some ⟨(t,e),l⟩
 |.r _ e,l,0,(i,k)::p=>
  match(l:List e.ty.den)[i]? with
  |some x=>AM e x k p
  |none=>none
 |.r _ _,_,_+1,_=>none
def Dm:(o:OT)->o.ty.den->Nat->Path->(e':OT)->List e'.ty.den->o.ty.den
 |.d _,x,_,_,_,_=>x
 |.p a b,x,k,p,e',y=>if k<a.ty.size then(Dm a x.1 k p e' y,x.2)else(x.1,Dm b x.2 (k-a.ty.size) p e' y)
 |.r _ e,l,0,[],e',y=>if h:e'=e then(h▸y:List e.ty.den)else l
 |.r _ e,l,0,(i,k)::p,e',y=>
  match(l:List e.ty.den)[i]? with
  |some x=>(List.set l i (Dm e x k p e' y):List e.ty.den)
  |none=>l
 |.r _ _,l,_+1,_,_,_=>l
def cnt:(o:OT)->o.ty.den->Nat
 |.d _,_=>0
 |.p a b,x=>cnt a x.1+cnt b x.2
 |.r _ e,l=>1+((l:List e.ty.den).map (cnt e)).sum
def nix:(o:OT)->o.ty.den->Nat->Path->Nat
 |.d _,_,_,_=>0
 |.p a b,x,k,p=>if k<a.ty.size then nix a x.1 k p else cnt a x.1+nix b x.2 (k-a.ty.size) p
 |.r _ _,_,_,[]=>0
 |.r _ e,l,_,(i,k)::p=>
  match(l:List e.ty.den)[i]? with
  |some x=>1+(((l:List e.ty.den).take i).map (cnt e)).sum+nix e x k p
  |none=>0
def OL{α:Type}(R:Nat->α->List Value->List Value->Prop):Nat->List α->List Value->List Value->Prop
 |_,[],xs,F=>xs=[]/\F=[]
 |j,x::l,xs,F=>∃u v F1 F2,xs=u++v/\F=F1++F2/\R j x u F1/\OL R (j+1) l v F2
def hL(n:Nat):Option (Nat×Path)->Option (Nat×Path)
 |some (k,p)=>if k<n then some (k,p)else none
 |none=>none
def hR(n:Nat):Option (Nat×Path)->Option (Nat×Path)
 |some (k,p)=>if k<n then none else some (k-n,p)
 |none=>none
def hI(i k:Nat)(p:Path)(j:Nat):Option (Nat×Path):=if j=i then some (k,p)else none
def Owns(w:World)(ok:Nat->Prop)(base:Nat)(hv:Value):(o:OT)->Option (Nat×Path)->o.ty.den->List Value->List Value->Prop
 |.d τ,h,x,vs,F=>h=none/\DRep w ok τ x vs/\F=[]
 |.p a b,h,x,vs,F=>∃u v F1 F2,vs=u++v/\F=F1++F2/\Owns w ok base hv a (hL a.ty.size h) x.1 u F1/\Owns w ok base hv b (hR a.ty.size h) x.2 v F2
 |.r t e,none,l,vs,F=>∃sv xs F',vs=[sv]/\F=sv::F'/\w.ownsRow base t e.ty.size sv (l:List e.ty.den).length xs/\OL (λ_ x u f=>Owns w ok base hv e none x u f) 0 (l:List e.ty.den) xs F'
 |.r _ _,some (0,[]),_,vs,F=>vs=[hv]/\F=[]/\hv.oneCell'=true
 |.r t e,some (0,(i,k)::p),l,vs,F=>i<(l:List e.ty.den).length/\∃sv xs F',vs=[sv]/\F=sv::F'/\w.ownsRow base t e.ty.size sv (l:List e.ty.den).length xs/\
   OL (λj x u f=>Owns w ok base hv e (hI i k p j) x u f) 0 (l:List e.ty.den) xs F'
 |.r _ _,some (_+1,_),_,_,_=>False
section
variable{α:Type}{R R':Nat->α->List Value->List Value->Prop}
theorem OL.monoJ:∀{l:List α}{j:Nat}{xs F:List Value},(∀i x u f,j<=i->(∀s∈f,s∈F)->R i x u f->R' i x u f)->OL R j l xs F->OL R' j l xs F
 |[],_,_,_,_,hx=>hx
 |_::_,_,_,_,h,⟨u,v,F1,F2,e,ef,hr,ht⟩=>⟨u,v,F1,F2,e,ef,h _ _ _ _ (Ao _) (λs hs=>by rw[ef];exact BG _ hs) hr,
   OL.monoJ (λi x u f hi hf=>h i x u f (BH (Nat.le_succ _) hi) λs hs=>by rw[ef];exact BM _ (hf s hs)) ht⟩
theorem OL.mono{l:List α}{j:Nat}{xs F:List Value}(h:∀i x u f,(∀s∈f,s∈F)->R i x u f->R' i x u f)(hx:OL R j l xs F):OL R' j l xs F:=hx.monoJ λi x u f _=>h i x u f
theorem OL.shift(hR:∀i i' x u f,R i x u f->R i' x u f):∀{l:List α}{j j':Nat}{xs F:List Value},OL R j l xs F->OL R j' l xs F
 |[],_,_,_,_,h=>h
 |_::_,_,_,_,_,⟨u,v,F1,F2,e,ef,hr,ht⟩=>⟨u,v,F1,F2,e,ef,hR _ _ _ _ _ hr,OL.shift hR ht⟩
theorem OL.append(hR:∀i i' x u f,R i x u f->R i' x u f):∀{l l':List α}{j:Nat}{xs ys F G:List Value},OL R j l xs F->OL R j l' ys G->OL R j (l++l') (xs++ys) (F++G)
 |[],_,_,_,_,_,_,hx,hy=>by obtain⟨rfl,rfl⟩:=hx;exact hy
 |_::_,_,_,_,_,_,_,⟨u,v,F1,F2,e,ef,hr,ht⟩,hy=>
  ⟨u,v++_,F1,F2++_,by rw[e,AW],by rw[ef,AW],hr,OL.append hR ht (hy.shift hR)⟩
theorem OL.length{n:Nat}(hn:∀i x u f,R i x u f->u.length=n):∀{l:List α}{j:Nat}{xs F:List Value},OL R j l xs F->xs.length=l.length*n
 |[],_,_,_,h=>by obtain⟨rfl,_⟩:=h;simp
 |_::_,_,_,_,⟨u,v,F1,F2,e,ef,hr,ht⟩=>by rw[e,Av,hn _ _ _ _ hr,OL.length hn ht,Aw,DP,GU]
theorem OL.all{Q:Value->Prop}(hn:∀i x u f,R i x u f->∀v∈u,Q v):∀{l:List α}{j:Nat}{xs F:List Value},OL R j l xs F->∀v∈xs,Q v
 |[],_,_,_,h,v,hv=>by obtain⟨rfl,_⟩:=h;simp at hv
 |_::_,_,_,_,⟨u,w,F1,F2,e,ef,hr,ht⟩,v,hv=>by rw[e]at hv;exact(Ba.1 hv).elim (hn _ _ _ _ hr v) (OL.all hn ht v)
theorem OL.own{Q:Value->Prop}(hn:∀i x u f,R i x u f->∀v∈f,Q v):∀{l:List α}{j:Nat}{xs F:List Value},OL R j l xs F->∀v∈F,Q v
 |[],_,_,_,h,v,hv=>by obtain⟨_,rfl⟩:=h;simp at hv
 |_::_,_,_,_,⟨u,w,F1,F2,e,ef,hr,ht⟩,v,hv=>by rw[ef]at hv;exact(Ba.1 hv).elim (hn _ _ _ _ hr v) (OL.own hn ht v)
theorem OL.focus{n:Nat}(hn:∀i x u f,R i x u f->u.length=n):∀{l:List α}{j i:Nat}{xs F:List Value},OL R j l xs F->i<l.length->∃x u p q Fu Fp Fq,l[i]?=some x/\xs=p++(u++q)/\p.length=i*n/\F=Fp++(Fu++Fq)/\R (j+i) x u Fu/\(∃pre,OL R j (l.take i) p Fp/\pre=Fp)/\∀(R':Nat->α->List Value->List Value->Prop) x' u' Fu',(∀m x u f,m≠j+i->(∀s∈f,s∈Fp\/s∈Fq)->R m x u f->R' m x u f)->R' (j+i) x' u' Fu'->OL R' j (l.set i x') (p++(u'++q)) (Fp++(Fu'++Fq))
 |[],_,_,_,_,_,h=>by simp at h
 |x::l,j,0,xs,F,⟨u,v,F1,F2,e,ef,hr,ht⟩,_=>
  ⟨x,u,[],v,F1,[],F2,rfl,e,by simp,ef,hr,⟨[],⟨rfl,rfl⟩,rfl⟩,λR' x' u' Fu' h1 h2=>⟨u',v,Fu',F2,rfl,rfl,h2,ht.monoJ λi x u f hi hf h=>h1 i x u f (by omega) (λs hs=>.inr (hf s hs)) h⟩⟩
 |x::l,j,i+1,xs,F,⟨u,v,F1,F2,e,ef,hr,ht⟩,h=>by
  obtain⟨y,u1,p,q,Fu,Fp,Fq,h1,h2,h3,h4,h5,⟨_,h7,_⟩,h6⟩:=OL.focus hn (i:=i) ht (by simpa using h);refine⟨y,u1,u++p,q,Fu,F1++Fp,Fq,by simpa using h1,by rw[e,h2,AW],?_,by rw[ef,h4,AW],by rw[show j+(i+1)=j+1+i by omega];exact h5,⟨_,⟨u,p,F1,Fp,rfl,rfl,hr,h7⟩,rfl⟩,λR' x' u' Fu' g1 g2=>?_⟩
  ·rw[Av,hn _ _ _ _ hr,h3,DP,GU]
  ·rw[show j+(i+1)=j+1+i by omega]at g1 g2
   exact⟨u,p++(u'++q),F1,Fp++(Fu'++Fq),by rw[AW],by rw[AW],g1 _ _ _ _ (by omega) (λs hs=>.inl (BG _ hs)) hr,h6 R' x' u' Fu' (λm x u f hm hf=>g1 m x u f hm λs hs=>(hf s hs).imp (BM _) id) g2⟩
end
theorem IM{w:World}{base:Nat}{t:TypeId}{size:Nat}{v:Value}{n:Nat}{xs:List Value}(h:w.ownsRow base t size v n xs):v.oneCell'=true:=by rcases h.2 with⟨h,_⟩|⟨g,cap,cur,h,_⟩<;>rw[h]<;>rfl
section
variable{w w':World}{ok ok':Nat->Prop}{base base':Nat}{hv hv':Value}
theorem Owns.length:∀{o:OT}{h:Option (Nat×Path)}{x:o.ty.den}{vs F:List Value},Owns w ok base hv o h x vs F->vs.length=o.ty.size
 |.d _,_,_,_,_,⟨_,h,_⟩=>h.length
 |.p a b,_,_,_,_,⟨u,v,F1,F2,e,_,h1,h2⟩=>by rw[e,Av,Owns.length h1,Owns.length h2];rfl
 |.r _ _,none,_,_,_,⟨sv,xs,F',e,_⟩=>by rw[e];rfl
 |.r _ _,some (0,[]),_,_,_,⟨e,_⟩=>by rw[e];rfl
 |.r _ _,some (0,(_,_)::_),_,_,_,⟨_,sv,xs,F',e,_⟩=>by rw[e];rfl
theorem Owns.oneCell:∀{o:OT}{h:Option (Nat×Path)}{x:o.ty.den}{vs F:List Value},Owns w ok base hv o h x vs F->∀v∈vs,v.oneCell'=true
 |.d _,_,_,_,_,⟨_,h,_⟩=>h.oneCell
 |.p a b,_,_,_,_,⟨u,v,F1,F2,e,_,h1,h2⟩=>by intro s hs;rw[e]at hs;exact(Ba.1 hs).elim (Owns.oneCell h1 s) (Owns.oneCell h2 s)
 |.r _ _,none,_,_,_,⟨sv,xs,F',e,_,h,_⟩=>by intro s hs;rw[e,Cv]at hs;rw[hs];exact IM h
 |.r _ _,some (0,[]),_,_,_,⟨e,_,h⟩=>by intro s hs;rw[e,Cv]at hs;rw[hs];exact h
 |.r _ _,some (0,(_,_)::_),_,_,_,⟨_,sv,xs,F',e,_,h,_⟩=>by intro s hs;rw[e,Cv]at hs;rw[hs];exact IM h
theorem Owns.lt:∀{o:OT}{h:Option (Nat×Path)}{x:o.ty.den}{vs F:List Value},Owns w ok base hv o h x vs F->∀s∈F,∀g,s.ownBlock=some g->base<=g/\g<w.heap.size
 |.d _,_,_,_,_,⟨_,_,e⟩=>by intro s hs;rw[e]at hs;simp at hs
 |.p a b,_,_,_,_,⟨u,v,F1,F2,_,e,h1,h2⟩=>by intro s hs;rw[e]at hs;exact(Ba.1 hs).elim (Owns.lt h1 s) (Owns.lt h2 s)
 |.r _ _,none,_,_,_,⟨sv,xs,F',_,e,h,hl⟩=>by
  intro s hs g hg;rw[e]at hs;rcases AH.1 hs with rfl|hs
  ·exact h.lt g hg
  ·exact OL.own (Q:=λs=>∀g,s.ownBlock=some g->base<=g/\g<w.heap.size) (λ_ _ _ _ h=>Owns.lt h) hl s hs g hg
 |.r _ _,some (0,[]),_,_,_,⟨_,e,_⟩=>by intro s hs;rw[e]at hs;simp at hs
 |.r _ _,some (0,(_,_)::_),_,_,_,⟨_,sv,xs,F',_,e,h,hl⟩=>by
  intro s hs g hg;rw[e]at hs;rcases AH.1 hs with rfl|hs
  ·exact h.lt g hg
  ·exact OL.own (Q:=λs=>∀g,s.ownBlock=some g->base<=g/\g<w.heap.size) (λ_ _ _ _ h=>Owns.lt h) hl s hs g hg
theorem HG{t:TypeId}{size:Nat}{v:Value}{n:Nat}{xs:List Value}(hb:base'<=base)(hg:∀g,v.ownBlock=some g->w'.heap[g]?=w.heap[g]?)(h:w.ownsRow base t size v n xs):w'.ownsRow base' t size v n xs:=by
 refine⟨h.1,?_⟩;rcases h.2 with h3|⟨g,cap,cur,rfl,hb2,hh,r⟩
 ·exact .inl h3
 ·exact .inr ⟨g,cap,cur,rfl,BH hb hb2,(hg g rfl).trans hh,r⟩
theorem Owns.mono(hb:base'<=base)(hk:Keeps w ok w' ok'):∀{o:OT}{h:Option (Nat×Path)}{x:o.ty.den}{vs F:List Value},(∀s∈F,∀g,s.ownBlock=some g->w'.heap[g]?=w.heap[g]?)->Owns w ok base hv o h x vs F->Owns w' ok' base' hv o h x vs F
 |.d _,_,_,_,_,_,⟨a,h,e⟩=>⟨a,h.mono hk,e⟩
 |.p a b,_,_,_,_,hf,⟨u,v,F1,F2,e,e2,h1,h2⟩=>⟨u,v,F1,F2,e,e2,Owns.mono hb hk (λs hs=>hf s (by rw[e2];exact BG _ hs)) h1,Owns.mono hb hk (λs hs=>hf s (by rw[e2];exact BM _ hs)) h2⟩
 |.r _ _,none,_,_,_,hf,⟨sv,xs,F',e,e2,h,hl⟩=>
  ⟨sv,xs,F',e,e2,HG hb (hf sv (by rw[e2];exact Bu ..)) h,hl.mono λ_ _ _ f hff h=>Owns.mono hb hk (λs hs=>hf s (by rw[e2];exact AU _ (hff s hs))) h⟩
 |.r _ _,some (0,[]),_,_,_,_,h=>h
 |.r _ _,some (0,(_,_)::_),_,_,_,hf,⟨hi,sv,xs,F',e,e2,h,hl⟩=>
  ⟨hi,sv,xs,F',e,e2,HG hb (hf sv (by rw[e2];exact Bu ..)) h,hl.mono λ_ _ _ f hff h=>Owns.mono hb hk (λs hs=>hf s (by rw[e2];exact AU _ (hff s hs))) h⟩
theorem Owns.ren(hb:base'<=base)(hd:∀(τ:Ty)(x:τ.den)(us:List Value),DRep w ok τ x us->DRep w ok' τ x us):∀{o:OT}{h:Option (Nat×Path)}{x:o.ty.den}{vs F:List Value},Owns w ok base hv o h x vs F->Owns w ok' base' hv o h x vs F
 |.d _,_,_,_,_,⟨a,h,e⟩=>⟨a,hd _ _ _ h,e⟩
 |.p a b,_,_,_,_,⟨u,v,F1,F2,e,e2,h1,h2⟩=>⟨u,v,F1,F2,e,e2,Owns.ren hb hd h1,Owns.ren hb hd h2⟩
 |.r _ _,none,_,_,_,⟨sv,xs,F',e,e2,h,hl⟩=>⟨sv,xs,F',e,e2,HG hb (λ_ _=>rfl) h,hl.mono λ_ _ _ _ _ h=>Owns.ren hb hd h⟩
 |.r _ _,some (0,[]),_,_,_,h=>h
 |.r _ _,some (0,(_,_)::_),_,_,_,⟨hi,sv,xs,F',e,e2,h,hl⟩=>⟨hi,sv,xs,F',e,e2,HG hb (λ_ _=>rfl) h,hl.mono λ_ _ _ _ _ h=>Owns.ren hb hd h⟩
def OT.flat:OT->Bool
 |.d τ=>τ.flat
 |.p a b=>a.flat&&b.flat
 |.r _ e=>e.flat
theorem Owns.renF{all:Prop}(hb:base'<=base)(hd:∀(τ:Ty)(x:τ.den)(us:List Value),(all\/τ.flat=true)->DRep w ok τ x us->DRep w ok' τ x us):∀{o:OT}{h:Option (Nat×Path)}{x:o.ty.den}{vs F:List Value},(all\/o.flat=true)->Owns w ok base hv o h x vs F->Owns w ok' base' hv o h x vs F
 |.d _,_,_,_,_,hf,⟨a,h,e⟩=>⟨a,hd _ _ _ hf h,e⟩
 |.p a b,_,_,_,_,hf,⟨u,v,F1,F2,e,e2,h1,h2⟩=>⟨u,v,F1,F2,e,e2,Owns.renF hb hd (hf.imp id λh=>by simp only[OT.flat,Bv]at h;exact h.1) h1,Owns.renF hb hd (hf.imp id λh=>by simp only[OT.flat,Bv]at h;exact h.2) h2⟩
 |.r _ _,none,_,_,_,hf,⟨sv,xs,F',e,e2,h,hl⟩=>⟨sv,xs,F',e,e2,HG hb (λ_ _=>rfl) h,hl.mono λ_ _ _ _ _ h=>Owns.renF hb hd hf h⟩
 |.r _ _,some (0,[]),_,_,_,_,h=>h
 |.r _ _,some (0,(_,_)::_),_,_,_,hf,⟨hi,sv,xs,F',e,e2,h,hl⟩=>⟨hi,sv,xs,F',e,e2,HG hb (λ_ _=>rfl) h,hl.mono λ_ _ _ _ _ h=>Owns.renF hb hd hf h⟩
theorem Owns.any:∀{o:OT}{x:o.ty.den}{vs F:List Value},Owns w ok base hv o none x vs F->Owns w ok base hv' o none x vs F
 |.d _,_,_,_,h=>h
 |.p _ _,_,_,_,⟨u,v,F1,F2,e,e2,h1,h2⟩=>⟨u,v,F1,F2,e,e2,Owns.any (show Owns w ok base hv _ none _ _ _ from h1),Owns.any (show Owns w ok base hv _ none _ _ _ from h2)⟩
 |.r _ _,_,_,_,⟨sv,xs,F',e,e2,h,hl⟩=>⟨sv,xs,F',e,e2,h,hl.mono λ_ _ _ _ _ h=>Owns.any h⟩
theorem Owns.cnt:∀{o:OT}{x:o.ty.den}{vs F:List Value},Owns w ok base hv o none x vs F->F.length=Go.Lift.cnt o x
 |.d _,_,_,_,⟨_,_,e⟩=>by rw[e];rfl
 |.p a b,_,_,_,⟨u,v,F1,F2,_,e,h1,h2⟩=>by rw[e,Av,Owns.cnt (show Owns w ok base hv a none _ _ _ from h1),Owns.cnt (show Owns w ok base hv b none _ _ _ from h2)];rfl
 |.r _ e0,l,_,_,⟨sv,xs,F',_,e,_,hl⟩=>by
  have key:∀{l:List e0.ty.den}{j:Nat}{xs F:List Value},OL (λ_ x u f=>Owns w ok base hv e0 none x u f) j l xs F->F.length=(l.map (Go.Lift.cnt e0)).sum:=by
   intro l
   induction l with
   |nil=>intro j xs F h;obtain⟨_,rfl⟩:=h;rfl
   |cons x l ih=>intro j xs F h;obtain⟨u,v,F1,F2,_,ef,hr,ht⟩:=h;rw[ef,Av,Owns.cnt hr,ih ht,Bp,HB]
  rw[e,Aw,key hl,GU];rfl
theorem set_getElem?_same{α:Type}{l:List α}{i:Nat}{x:α}(h:l[i]?=some x):l.set i x=l:=by obtain⟨h1,h2⟩:=BI.1 h;rw[<-h2,List.set_getElem_self]
theorem HH(i k:Nat)(p:Path):hI i k p i=some (k,p):=if_pos rfl
theorem IN{i k j:Nat}{p:Path}(h:j≠i):hI i k p j=none:=if_neg h
theorem Kw(e:OT){w:World}{ok:Nat->Prop}{base:Nat}{hv:Value}:∀{l:List e.ty.den}{j:Nat}{xs F:List Value},OL (λ_ x u f=>Owns w ok base hv e none x u f) j l xs F->F.length=(l.map (Go.Lift.cnt e)).sum
 |[],_,_,_,⟨_,h⟩=>by rw[h];rfl
 |x::l,_,_,_,⟨u,v,F1,F2,_,ef,hr,ht⟩=>by rw[ef,Av,Owns.cnt hr,Kw e ht,Bp,HB]
theorem Owns.split:∀{o:OT}{x:o.ty.den}{k:Nat}{p:Path}{vs F:List Value}{n:Cg},Owns w ok base hv o none x vs F->AM o x k p=some n->∃s G1 Fn G2,F=G1++(s::Fn++G2)/\G1.length=nix o x k p/\Owns w ok base s (.r n.1.1 n.1.2) none n.2 [s] (s::Fn)/\Owns w ok base s o (some (k,p)) x vs (G1++G2)
 |.d _,_,_,_,_,_,_,_,h=>by cases h
 |.p a b,x,k,p,vs,F,n,⟨u,v,F1,F2,e,e2,h1,h2⟩,h=>by
  simp only[AM]at h;have h1:Owns w ok base hv a none x.1 u F1:=h1;have h2:Owns w ok base hv b none x.2 v F2:=h2;split at h
  ·rename_i hk
   obtain⟨s,G1,Fn,G2,q1,q2,q3,q4⟩:=Owns.split h1 h;refine⟨s,G1,Fn,G2++F2,by rw[e2,q1];simp,by rw[q2];simp only[nix,if_pos hk],q3,u,v,G1++G2,F2,e,by simp,?_,?_⟩
   ·show Owns w ok base s a (hL a.ty.size (some (k,p))) x.1 u (G1++G2)
    simp only[hL,if_pos hk];exact q4
   ·show Owns w ok base s b (hR a.ty.size (some (k,p))) x.2 v F2
    simp only[hR,if_pos hk];exact h2.any
  ·rename_i hk
   obtain⟨s,G1,Fn,G2,q1,q2,q3,q4⟩:=Owns.split h2 h;refine⟨s,F1++G1,Fn,G2,by rw[e2,q1];simp,by rw[Av,q2,h1.cnt];simp only[nix,if_neg hk],q3,u,v,F1,G1++G2,e,by simp,?_,?_⟩
   ·show Owns w ok base s a (hL a.ty.size (some (k,p))) x.1 u F1
    simp only[hL,if_neg hk];exact h1.any
   ·show Owns w ok base s b (hR a.ty.size (some (k,p))) x.2 v (G1++G2)
    simp only[hR,if_neg hk];exact q4
 |.r t e,l,0,[],vs,F,n,⟨sv,xs,F',e1,e2,h1,h2⟩,h=>by simp only[AM,Ac]at h;subst h;exact⟨sv,[],F',[],by simp[e2],rfl,⟨sv,xs,F',rfl,rfl,h1,h2.mono λ_ _ _ _ _ h=>h.any⟩,e1,rfl,IM h1⟩
 |.r t e,l,0,(i,k)::p,vs,F,n,⟨sv,xs,F',e1,e2,h1,h2⟩,h=>by
  simp only[AM]at h;split at h
  ·rename_i x hx
   have hi:i<(l:List e.ty.den).length:=(BI.1 hx).1;obtain⟨x',u,pp,q,Fu,Fp,Fq,a1,a2,a3,a4,a5,⟨_,a7,_⟩,a6⟩:=OL.focus (n:=e.ty.size) (λ_ _ _ _ h=>h.length) h2 hi;rw[hx]at a1;injection a1 with a1;subst a1;obtain⟨s,G1,Fn,G2,q1,q2,q3,q4⟩:=Owns.split a5 h;refine⟨s,sv::(Fp++G1),Fn,G2++Fq,by rw[e2,a4,q1];simp,?_,q3,hi,sv,xs,(Fp++G1)++(G2++Fq),e1,by simp,h1,?_⟩
   ·have hx':(l:List e.ty.den)[i]?=some x:=hx
    simp only[nix,hx',Aw,Av,q2,Kw e a7];omega
   ·have:=a6 (λj x u f=>Owns w ok base s e (hI i k p j) x u f) x u (G1++G2) (λm x u f hm _ h=>by simp only[BW]at hm;simp only[IN hm];exact h.any) (by simp only[BW,HH];exact q4)
    rw[set_getElem?_same hx,<-a2]at this;simpa using this
  ·cases h
 |.r _ _,_,_+1,_,_,_,_,_,h=>by cases h
theorem Owns.join:∀{o:OT}{x:o.ty.den}{k:Nat}{p:Path}{vs G:List Value}{n:Cg},Owns w ok base hv o (some (k,p)) x vs G->AM o x k p=some n->∃G1 G2,G=G1++G2/\G1.length=nix o x k p/\∀(y:List n.1.2.ty.den)(Fn:List Value),Owns w ok base hv (.r n.1.1 n.1.2) none y [hv] Fn->Owns w ok base hv o none (Dm o x k p n.1.2 y) vs (G1++(Fn++G2))
 |.d _,_,_,_,_,_,_,_,h=>by cases h
 |.p a b,x,k,p,vs,F,n,⟨u,v,F1,F2,e,e2,h1,h2⟩,h=>by
  simp only[AM]at h;have h1:Owns w ok base hv a (hL a.ty.size (some (k,p))) x.1 u F1:=h1;have h2:Owns w ok base hv b (hR a.ty.size (some (k,p))) x.2 v F2:=h2;split at h
  ·rename_i hk
   simp only[hL,hR,if_pos hk]at h1 h2;obtain⟨G1,G2,q1,q2,q3⟩:=Owns.join h1 h;refine⟨G1,G2++F2,by rw[e2,q1];simp,by rw[q2];simp only[nix,if_pos hk],λy Fn hy=>?_⟩;simp only[Dm,if_pos hk];exact⟨u,v,G1++(Fn++G2),F2,e,by simp,q3 y Fn hy,h2⟩
  ·rename_i hk
   simp only[hL,hR,if_neg hk]at h1 h2;obtain⟨G1,G2,q1,q2,q3⟩:=Owns.join h2 h;refine⟨F1++G1,G2,by rw[e2,q1];simp,by rw[Av,q2,Owns.cnt h1];simp only[nix,if_neg hk],λy Fn hy=>?_⟩;simp only[Dm,if_neg hk];exact⟨u,v,F1,G1++(Fn++G2),e,by simp,h1,q3 y Fn hy⟩
 |.r t e,l,0,[],vs,F,n,⟨e1,e2,h1⟩,h=>by simp only[AM,Ac]at h;subst h;refine⟨[],[],e2,rfl,λy Fn hy=>?_⟩;simp only[Dm,dif_pos,Cp,CA];rw[e1];exact hy
 |.r t e,l,0,(i,k)::p,vs,F,n,⟨hi,sv,xs,F',e1,e2,h1,h2⟩,h=>by
  simp only[AM]at h;split at h
  ·rename_i x hx
   have hx':(l:List e.ty.den)[i]?=some x:=hx;obtain⟨x',u,pp,q,Fu,Fp,Fq,a1,a2,a3,a4,a5,⟨_,a7,_⟩,a6⟩:=OL.focus (n:=e.ty.size) (λ_ _ _ _ h=>h.length) h2 hi;rw[hx]at a1;injection a1 with a1;subst a1;simp only[BW,HH]at a5;obtain⟨G1,G2,q1,q2,q3⟩:=Owns.join a5 h
   have hpre:OL (λ_ x u f=>Owns w ok base hv e none x u f) 0 ((l:List e.ty.den).take i) pp Fp:=by
    have:∀{l:List e.ty.den}{j:Nat}{xs F:List Value},j+l.length<=i->OL (λj x u f=>Owns w ok base hv e (hI i k p j) x u f) j l xs F->OL (λ_ x u f=>Owns w ok base hv e none x u f) j l xs F:=by
     intro l
     induction l with
     |nil=>intro j xs F _ h;exact h
     |cons y l ih=>intro j xs F hj h;obtain⟨u,v,F1,F2,b1,b2,b3,b4⟩:=h;simp only[Aw]at hj;simp only[IN (show j≠i by omega)]at b3;exact⟨u,v,F1,F2,b1,b2,b3,ih (by omega) b4⟩
    exact this (by rw[E6];omega) a7
   refine⟨sv::(Fp++G1),G2++Fq,by rw[e2,a4,q1];simp,?_,λy Fn hy=>?_⟩
   ·simp only[nix,hx',Aw,Av,q2,Kw e hpre]
    omega
   ·have:=a6 (λ_ x u f=>Owns w ok base hv e none x u f) (Dm e x k p n.1.2 y) u (G1++(Fn++G2)) (λm x u f hm _ h=>by simp only[BW]at hm;simp only[IN hm]at h;exact h) (q3 y Fn hy)
    rw[<-a2]at this;simp only[Dm,hx'];refine⟨sv,xs,Fp++((G1++(Fn++G2))++Fq),e1,by simp,?_,this⟩;have:(List.set (l:List e.ty.den) i (Dm e x k p n.1.2 y)).length=(l:List e.ty.den).length:=GQ;rw[this];exact h1
  ·cases h
 |.r _ _,_,_+1,_,_,_,_,_,h=>by cases h
theorem Owns.top:∀{o:OT}{x:o.ty.den}{k:Nat}{u F:List Value},Owns w ok base hv o (some (k,[])) x u F->u[k]?=some hv/\∀s,s.oneCell'=true->Owns w ok base s o (some (k,[])) x (u.set k s) F
 |.d _,_,_,_,_,⟨h,_⟩=>by cases h
 |.p a b,x,k,vs,F,⟨u,v,F1,F2,e,e2,h1,h2⟩=>by
  have h1:Owns w ok base hv a (hL a.ty.size (some (k,[]))) x.1 u F1:=h1;have h2:Owns w ok base hv b (hR a.ty.size (some (k,[]))) x.2 v F2:=h2;by_cases hk:k<a.ty.size
  ·simp only[hL,hR,if_pos hk]at h1 h2
   have hl:=h1.length;obtain⟨q1,q2⟩:=Owns.top h1;refine⟨by rw[e,Db (by omega)];exact q1,λs hs=>⟨u.set k s,v,F1,F2,by rw[e,List.set_append_left _ _ (by omega)],e2,?_,?_⟩⟩
   ·show Owns w ok base s a (hL a.ty.size (some (k,[]))) x.1 _ F1
    simp only[hL,if_pos hk];exact q2 s hs
   ·show Owns w ok base s b (hR a.ty.size (some (k,[]))) x.2 v F2
    simp only[hR,if_pos hk];exact h2.any
  ·simp only[hL,hR,if_neg hk]at h1 h2
   have hl:=h1.length;obtain⟨q1,q2⟩:=Owns.top h2;refine⟨by rw[e,Cu (by omega),hl];exact q1,λs hs=>⟨u,v.set (k-a.ty.size) s,F1,F2,by rw[e,List.set_append_right _ _ (by omega),hl],e2,?_,?_⟩⟩
   ·show Owns w ok base s a (hL a.ty.size (some (k,[]))) x.1 _ F1
    simp only[hL,if_neg hk];exact h1.any
   ·show Owns w ok base s b (hR a.ty.size (some (k,[]))) x.2 _ F2
    simp only[hR,if_neg hk];exact q2 s hs
 |.r _ _,_,0,_,_,⟨e1,e2,h1⟩=>by rw[e1];exact⟨rfl,λs hs=>⟨rfl,e2,hs⟩⟩
 |.r _ _,_,_+1,_,_,h=>h.elim
theorem uD{t:TypeId}{size n:Nat}{v:Value}{xs:List Value}(h:w.ownsRow base t size v n xs)(hn:0<n):∃g c,v=.slice (some ⟨g,0,none⟩) n c:=by
 rcases h.2 with⟨_,h0⟩|⟨g,cap,cur,h,_⟩
 ·omega
 ·exact⟨g,cap,h⟩
theorem Keeps.set(hb:∀g,ok g->ok' g){g j:Nat}{s:Value}(hg:¬ok g):Keeps w ok (w.setCell ⟨g,j,none⟩ s) ok':=λg' h _=>
 ⟨hb g' h,heap_setCell_other w ⟨g,j,none⟩ g' s (λe=>hg (by simpa [e]using h))⟩
theorem uE{α:Type}{p u q:List α}{k:Nat}{s:α}(hk:k<u.length):(p++(u++q)).set (p.length+k) s=p++(u.set k s++q):=by rw[List.set_append_right _ _ (by omega),GL,List.set_append_left _ _ hk]
theorem Owns.header(hb:∀g,ok g->ok' g):∀{o:OT}{x:o.ty.den}{k0:Nat}{p:Path}{i k:Nat}{vs F:List Value},(∀s∈F,∀g,s.ownBlock=some g->¬ok g)->Owns w ok base hv o (some (k0,p++[(i,k)])) x vs F->∃n s g c G1 Fn,AM o x k0 p=some n/\F=G1++s::Fn/\G1.length=nix o x k0 p/\s=.slice (some ⟨g,0,none⟩) n.2.length c/\i<n.2.length/\w.cell? ⟨g,i*n.1.2.ty.size+k,none⟩=some hv/\w.frozen? ⟨g,i*n.1.2.ty.size+k,none⟩=false/\∀s2,s2.oneCell'=true->(∀s'∈G1++Fn,s'.ownBlock≠some g)->Owns (w.setCell ⟨g,i*n.1.2.ty.size+k,none⟩ s2) ok' base s2 o (some (k0,p++[(i,k)])) x vs F
 |.d _,_,_,_,_,_,_,_,_,⟨h,_⟩=>by cases h
 |.p a b,x,k0,p,i,k,vs,F,hno,⟨u,v,F1,F2,e,e2,h1,h2⟩=>by
  have h1:Owns w ok base hv a (hL a.ty.size (some (k0,p++[(i,k)]))) x.1 u F1:=h1;have h2:Owns w ok base hv b (hR a.ty.size (some (k0,p++[(i,k)]))) x.2 v F2:=h2;by_cases hk:k0<a.ty.size
  ·simp only[hL,hR,if_pos hk]at h1 h2
   obtain⟨n,s,g,c,G1,Fn,q1,q2,q3,q4,q5,q6,q6',q7⟩:=Owns.header hb (λs hs=>hno s (by rw[e2];exact BG _ hs)) h1;refine⟨n,s,g,c,G1,Fn++F2,by simp only[AM,if_pos hk];exact q1,by rw[e2,q2];simp,by rw[q3];simp only[nix,if_pos hk],q4,q5,q6,q6',λs2 hs2 hd=>⟨u,v,F1,F2,e,e2,?_,?_⟩⟩
   ·show Owns _ ok' base s2 a (hL a.ty.size (some (k0,p++[(i,k)]))) x.1 u F1
    simp only[hL,if_pos hk];exact q7 s2 hs2 λs' h=>hd s' (by rcases Ba.1 h with h|h<;>simp[h])
   ·show Owns _ ok' base s2 b (hR a.ty.size (some (k0,p++[(i,k)]))) x.2 v F2
    simp only[hR,if_pos hk];have hg:¬ok g:=hno s (by rw[e2,q2];simp) g (by rw[q4];rfl);exact(h2.mono (Ao _) (Keeps.set hb hg) λs' hs' g' hg'=>heap_setCell_other w _ g' s2 (λe=>hd s' (by simp[hs']) (by simp only at e;rw[hg',e]))).any
  ·simp only[hL,hR,if_neg hk]at h1 h2
   obtain⟨n,s,g,c,G1,Fn,q1,q2,q3,q4,q5,q6,q6',q7⟩:=Owns.header hb (λs hs=>hno s (by rw[e2];exact BM _ hs)) h2;refine⟨n,s,g,c,F1++G1,Fn,by simp only[AM,if_neg hk];exact q1,by rw[e2,q2];simp,by rw[Av,q3,Owns.cnt h1];simp only[nix,if_neg hk],q4,q5,q6,q6',λs2 hs2 hd=>⟨u,v,F1,F2,e,e2,?_,?_⟩⟩
   ·show Owns _ ok' base s2 a (hL a.ty.size (some (k0,p++[(i,k)]))) x.1 u F1
    simp only[hL,if_neg hk];have hg:¬ok g:=hno s (by rw[e2,q2];simp) g (by rw[q4];rfl);exact(h1.mono (Ao _) (Keeps.set hb hg) λs' hs' g' hg'=>heap_setCell_other w _ g' s2 (λe=>hd s' (by simp[hs']) (by simp only at e;rw[hg',e]))).any
   ·show Owns _ ok' base s2 b (hR a.ty.size (some (k0,p++[(i,k)]))) x.2 v F2
    simp only[hR,if_neg hk];exact q7 s2 hs2 λs' h=>hd s' (by rcases Ba.1 h with h|h<;>simp[h])
 |.r _ _,_,_+1,_,_,_,_,_,_,h=>h.elim
 |.r t e,l,0,[],i,k,vs,F,hno,⟨hi,sv,xs,F',e1,e2,h1,h2⟩=>by
  obtain⟨g,c,hsv⟩:=uD h1 (by omega);obtain⟨x',u,pp,q,Fu,Fp,Fq,a1,a2,a3,a4,a5,_,a6⟩:=OL.focus (n:=e.ty.size) (λ_ _ _ _ h=>h.length) h2 hi;simp only[BW,HH]at a5;obtain⟨b1,b2⟩:=Owns.top a5;have hk:k<u.length:=(BI.1 b1).1;have hul:=a5.length;subst hsv;have hxl:xs.length=(l:List e.ty.den).length*e.ty.size:=h1.1
  have hlt:i*e.ty.size+k<(l:List e.ty.den).length*e.ty.size:=by have:(i+1)*e.ty.size<=(l:List e.ty.den).length*e.ty.size:=FZ _ hi;rw[DP]at this;omega
  have hcell:xs[i*e.ty.size+k]?=some hv:=by rw[a2,<-a3,Cu (by omega),GL,Db hk];exact b1
  have hfr:w.frozen? ⟨g,i*e.ty.size+k,none⟩=false:=by
   rcases h1.2 with⟨h,_⟩|⟨g',cap,cur,h,_,hh,_⟩
   ·cases h
   ·injection h with h _ _
    injection h with h;injection h with h;subst h;exact frozen_of_row w g _ cur t hh
  refine⟨⟨(t,e),l⟩,_,g,c,[],F',rfl,e2,rfl,rfl,hi,by rw[h1.cellAt _ hlt];exact hcell,hfr,λs2 hs2 hd=>?_⟩;have hg:¬ok g:=hno _ (by rw[e2];exact Bu ..) g rfl;obtain⟨r1,r2⟩:=h1.stored (i*e.ty.size+k) s2;refine⟨hi,_,xs.set (i*e.ty.size+k) s2,F',e1,e2,r1,?_⟩
  have hm:∀{o:OT}{h:Option (Nat×Path)}{x:o.ty.den}{vs f:List Value},(∀s'∈f,s'∈F')->Owns w ok base hv o h x vs f->Owns (w.setCell ⟨g,i*e.ty.size+k,none⟩ s2) ok' base hv o h x vs f:=λhf h=>
   h.mono (Ao _) (Keeps.set hb hg) λs' hs' g' hg'=>heap_setCell_other w _ g' s2 (λe=>hd s' (by simp[hf s' hs']) (by simp only at e;rw[hg',e]))
  have h3:=h2.mono (R':=λj x u f=>Owns (w.setCell ⟨g,i*e.ty.size+k,none⟩ s2) ok' base hv e (hI i k [] j) x u f) (λ_ _ _ _ hf h=>hm hf h);obtain⟨x2,u2,pp2,q2,Fu2,Fp2,Fq2,c1,c2,c3,c4,c5,_,c6⟩:=OL.focus (n:=e.ty.size) (λ_ _ _ _ h=>h.length) h3 hi;simp only[BW,HH]at c5
  have:=c6 (λj x u f=>Owns (w.setCell ⟨g,i*e.ty.size+k,none⟩ s2) ok' base s2 e (hI i k [] j) x u f) x2 (u2.set k s2) Fu2 (λm x u f hm _ h=>by simp only[BW]at hm;simp only[IN hm]at h⊢;exact h.any) (by simp only[BW,HH];exact(Owns.top c5).2 s2 hs2)
  rw[set_getElem?_same c1,<-c4,<-uE (by rw[c5.length];omega),c3,<-c2]at this;exact this
 |.r t e,l,0,(i0,k1)::p,i,k,vs,F,hno,⟨hi,sv,xs,F',e1,e2,h1,h2⟩=>by
  obtain⟨x',u,pp,q,Fu,Fp,Fq,a1,a2,a3,a4,a5,⟨_,a7,_⟩,a6⟩:=OL.focus (n:=e.ty.size) (λ_ _ _ _ h=>h.length) h2 hi;have hx':(l:List e.ty.den)[i0]?=some x':=a1;simp only[BW,HH]at a5;obtain⟨n,s,g,c,G1,Fn,q1,q2,q3,q4,q5,q6,q6',q7⟩:=Owns.header hb (λs hs=>hno s (by rw[e2,a4];simp[hs])) a5;have hg:¬ok g:=hno s (by rw[e2,a4,q2];simp) g (by rw[q4];rfl)
  have hpre:OL (λ_ x u f=>Owns w ok base hv e none x u f) 0 ((l:List e.ty.den).take i0) pp Fp:=by
   have:∀{l:List e.ty.den}{j:Nat}{xs F:List Value},j+l.length<=i0->OL (λj x u f=>Owns w ok base hv e (hI i0 k1 (p++[(i,k)]) j) x u f) j l xs F->OL (λ_ x u f=>Owns w ok base hv e none x u f) j l xs F:=by
    intro l
    induction l with
    |nil=>intro j xs F _ h;exact h
    |cons y l ih=>intro j xs F hj h;obtain⟨u,v,F1,F2,b1,b2,b3,b4⟩:=h;simp only[Aw]at hj;simp only[IN (show j≠i0 by omega)]at b3;exact⟨u,v,F1,F2,b1,b2,b3,ih (by omega) b4⟩
   exact this (by rw[E6];omega) a7
  refine⟨n,s,g,c,sv::(Fp++G1),Fn++Fq,by simp only[AM,hx'];exact q1,by rw[e2,a4,q2];simp,?_,q4,q5,q6,q6',λs2 hs2 hd=>?_⟩
  ·simp only[nix,hx',Aw,Av,q3,Kw e hpre]
   omega
  ·have hother:∀s' g',s'∈sv::(Fp++G1)++(Fn++Fq)->s'.ownBlock=some g'->(w.setCell ⟨g,i*n.1.2.ty.size+k,none⟩ s2).heap[g']?=w.heap[g']?:=λs' g' h hg'=>
    heap_setCell_other w _ g' s2 (λe=>hd s' h (by simp only at e;rw[hg',e]))
   have hsv:=HG (Ao base) (λg' hg'=>hother sv g' (by simp) hg') h1
   have h4:=a6 (λj x u f=>Owns (w.setCell ⟨g,i*n.1.2.ty.size+k,none⟩ s2) ok' base s2 e (hI i0 k1 (p++[(i,k)]) j) x u f) x' u Fu (λm x u f hm hf h=>by
    simp only[BW]at hm;simp only[IN hm]at h⊢;exact(h.mono (Ao _) (Keeps.set hb hg) λs' hs' g' hg'=>hother s' g' (by rcases hf s' hs' with h|h<;>simp[h]) hg').any) (by
    simp only[BW,HH];exact q7 s2 hs2 λs' h=>hd s' (by rcases Ba.1 h with h|h<;>simp[h]))
   rw[set_getElem?_same a1,<-a2,<-a4]at h4;exact⟨hi,sv,xs,F',e1,e2,hsv,h4⟩
end
theorem YU{α:Type}{f:α->Nat}:∀{l:List α}{i:Nat}{x:α},l[i]?=some x->((l.take i).map f).sum+f x<=(l.map f).sum
 |[],_,_,h=>by simp at h
 |y::l,0,x,h=>by simp at h;subst h;simp
 |y::l,i+1,x,h=>by have:=YU (f:=f) (l:=l) (i:=i) (x:=x) (by simpa using h);simp only[List.take_succ_cons,Bp,HB];omega
theorem So{α:Type}{f:α->Nat}:∀{l:List α}{i j:Nat}{x:α},l[i]?=some x->i<j->((l.take i).map f).sum+f x<=((l.take j).map f).sum
 |[],_,_,_,h,_=>by simp at h
 |y::l,0,j+1,x,h,_=>by simp at h;subst h;simp
 |y::l,i+1,j+1,x,h,hl=>by have:=So (f:=f) (l:=l) (i:=i) (j:=j) (x:=x) (by simpa using h) (by omega);simp only[List.take_succ_cons,Bp,HB];omega
theorem YV(t:TypeId)(e:OT)(l:List e.ty.den):1<=cnt (.r t e) l:=by simp only[cnt];omega
theorem HI:∀{o:OT}{x:o.ty.den}{k:Nat}{p:Path}{n:Cg},AM o x k p=some n->nix o x k p+cnt (.r n.1.1 n.1.2) n.2<=cnt o x
 |.d _,_,_,_,_,h=>by cases h
 |.p a b,x,k,p,n,h=>by
  simp only[AM]at h;split at h
  ·rename_i hk
   have:=HI h;simp only[nix,if_pos hk,cnt];simp only[cnt]at this;omega
  ·rename_i hk
   have:=HI h;simp only[nix,if_neg hk,cnt];simp only[cnt]at this;omega
 |.r t e,l,0,[],n,h=>by simp only[AM,Ac]at h;subst h;simp only[nix];omega
 |.r t e,l,0,(i,k)::p,n,h=>by
  simp only[AM]at h;split at h
  ·rename_i x hx
   have hx':(l:List e.ty.den)[i]?=some x:=hx;have h1:=HI h;have h2:=YU (f:=cnt e) hx';simp only[nix,hx'];show 1+_+_+_<=1+((l:List e.ty.den).map (cnt e)).sum;omega
  ·cases h
 |.r _ _,_,_+1,_,_,h=>by cases h
theorem NK:∀{o:OT}{x:o.ty.den}{k k':Nat}{P p:Path}{n m:Cg},AM o x k P=some n->AM o x k' p=some m->¬(k'=k/\P<+:p)->nix o x k' p<nix o x k P\/nix o x k P+cnt (.r n.1.1 n.1.2) n.2<=nix o x k' p
 |.d _,_,_,_,_,_,_,_,h,_,_=>by cases h
 |.p a b,x,k,k',P,p,n,m,h,h',hne=>by
  simp only[AM]at h h';split at h
  ·rename_i hk
   split at h'
   ·rename_i hk'
    have:=NK h h' hne;simp only[nix,if_pos hk,if_pos hk'];exact this
   ·rename_i hk'
    have h1:=HI h;simp only[nix,if_pos hk,if_neg hk'];simp only[cnt]at h1⊢;omega
  ·rename_i hk
   split at h'
   ·rename_i hk'
    have h1:=HI h';simp only[nix,if_neg hk,if_pos hk'];have:=YV m.1.1 m.1.2 m.2;omega
   ·rename_i hk'
    have:=NK h h' (λq=>hne ⟨by omega,q.2⟩);simp only[nix,if_neg hk,if_neg hk'];omega
 |.r t e,l,0,0,[],p,n,m,h,h',hne=>absurd ⟨rfl,List.nil_prefix⟩ hne
 |.r t e,l,0,0,(i,k)::P,[],n,m,h,h',hne=>by
  simp only[AM]at h;split at h
  ·rename_i x hx
   have hx':(l:List e.ty.den)[i]?=some x:=hx;simp only[nix,hx'];omega
  ·cases h
 |.r t e,l,0,0,(i,k)::P,(i',k')::p,n,m,h,h',hne=>by
  simp only[AM]at h h';split at h
  ·rename_i x hx
   split at h'
   ·rename_i x' hx'
    have hx:(l:List e.ty.den)[i]?=some x:=hx;have hx':(l:List e.ty.den)[i']?=some x':=hx';have c1:=HI h;have c2:=HI h';have p2:=YV m.1.1 m.1.2 m.2;simp only[nix,hx,hx'];rcases Nat.lt_trichotomy i' i with hlt|heq|hlt
    ·have:=So (f:=cnt e) hx' hlt
     omega
    ·subst heq
     rw[hx]at hx';injection hx' with hx';subst hx';have:=NK h h' (λq=>hne ⟨rfl,by rw[q.1];exact List.cons_prefix_cons.2 ⟨rfl,q.2⟩⟩);omega
    ·have:=So (f:=cnt e) hx hlt
     omega
   ·cases h'
  ·cases h
 |.r _ _,_,_+1,_,_,_,_,_,h,_,_=>by cases h
 |.r _ _,_,0,_+1,_,_,_,_,_,h',_=>by cases h'
section
variable{w:World}{ok ok':Nat->Prop}{base:Nat}{hv:Value}
theorem Owns.data(hb:∀g,ok g->ok' g):∀{o:OT}{x:o.ty.den}{vs F:List Value},(∀s∈F,∀g,s.ownBlock=some g->ok' g)->Owns w ok base hv o none x vs F->DRep w ok' o.ty x vs
 |.d _,_,_,_,_,⟨_,h,_⟩=>h.mono λg hg _=>⟨hb g hg,rfl⟩
 |.p _ _,_,_,_,hf,⟨u,v,F1,F2,e,e2,h1,h2⟩=>⟨u,v,e,Owns.data hb (λs hs=>hf s (by rw[e2];exact BG _ hs)) (show Owns w ok base hv _ none _ _ _ from h1),Owns.data hb (λs hs=>hf s (by rw[e2];exact BM _ hs)) (show Owns w ok base hv _ none _ _ _ from h2)⟩
 |.r _ e0,l,_,_,hf,⟨sv,xs,F',e,e2,h,hl⟩=>by
  have hd:DList (λx u=>DRep w ok' e0.ty x u) l xs:=by
   have:∀{l:List e0.ty.den}{j:Nat}{xs F:List Value},(∀s∈F,∀g,s.ownBlock=some g->ok' g)->OL (λ_ x u f=>Owns w ok base hv e0 none x u f) j l xs F->DList (λx u=>DRep w ok' e0.ty x u) l xs:=by
    intro l
    induction l with
    |nil=>intro j xs F _ h;exact h.1
    |cons y l ih=>intro j xs F hF h;obtain⟨u,v,F1,F2,b1,b2,b3,b4⟩:=h;exact⟨u,v,b1,Owns.data hb (λs hs=>hF s (by rw[b2];exact BG _ hs)) b3,ih (λs hs=>hF s (by rw[b2];exact BM _ hs)) b4⟩
   exact this (λs hs=>hf s (by rw[e2];exact AU _ hs)) hl
  have hxl:=h.1;rcases h.2 with⟨h1,h2⟩|⟨g,cap,cur,h1,hbg,hh,hn,hm,hs,ht⟩
  ·refine⟨none,0,xs,by rw[e,h1,h2],by rw[h2];exact Ao _,BZ _,hd,λj v hj=>?_⟩
   have:xs=[]:=D5 (by rw[hxl,h2,Nat.zero_mul]);rw[this]at hj;simp at hj
  ·refine⟨some ⟨g,0,none⟩,cap,xs,by rw[e,h1],hn,hm,hd,λj v hj=>⟨⟨g,0,none⟩,rfl,hf sv (by rw[e2];exact Bu ..) g (by rw[h1];rfl),?_⟩⟩
   exact h.cells (g:=g) (by rw[h1];rfl) j v hj
end
end Go.Lift
namespace Go.Lift
inductive C where
 |bool (b:Bool)
 |int (k:IntKind) (n:Int)
 |str (s:List UInt8)
 |err (b:Bool)
 |list (e:Ty) (l:List e.den)
 |nils
 |nilc
 |lsome (e:Ty) (l:List e.den)
 |nilp
 |ptr (b o:Nat)
 |row (b ver:Nat)
 |fn (f:FuncId) (caps:List Nat)
 |nilfn
 |mapv (b:Nat)
 |mat (b ver:Nat)
 |mrow (b iver i:Nat)
 |sub (b ver i j:Nat)
 |bself (b:Nat)
 |trow (b ver:Nat) (p:Path)
 |bfn (f:FuncId) (b:Nat)
 |tptr (b ver:Nat) (p:Path) (i o:Nat)
 |junk
inductive V where
 |junk
 |c (x:C)
 |agg (cs:List C)
 |tup (ts:List (Bool×List C))
 |eptr (b ver i o:Nat)
 |lptr (e:Ty) (x:e.den) (o:Nat)
 |mcell (b ver i:Nat)
 |mptr (b iver i j o:Nat)
 |arr (b o:Nat) (e:Ty) (n:Nat)
inductive Blk where
 |cells (t:TypeId) (cs:List C)
 |row (t:TypeId) (e:Ty) (ver:Nat) (l:List e.den)
 |map (t:TypeId) (k v:Ty) (vg:Bool) (l:List (k.den×v.den))
 |mat (t et:TypeId) (e:Ty) (ver iver:Nat) (hole:Option Nat) (l:List (List e.den))
 |tree (t:TypeId) (e:OT) (ver iver:Nat) (hole:Option Path) (l:List e.ty.den)
 |fmap (t:TypeId) (l:List (List UInt8×(FuncId×Nat)))
 |dead
inductive Pl where
 |cells (g:Nat)
 |row (sv:Value) (svs:List (Option Value))
def Pl.has:Pl->Nat->Prop
 |.cells g',g=>g'=g
 |.row sv svs,g=>sv.ownBlock=some g\/∃(i:Nat)(s:Value),svs[i]?=some (some s)/\s.ownBlock=some g
theorem Pl.has_row{sv:Value}{g:Nat}(h:(Pl.row sv []).has g):sv.ownBlock=some g:=by
 rcases h with h|⟨i,s,h,_⟩
 ·exact h
 ·simp at h
structure Env where
 w:World
 ok:Nat->Prop
 base:Nat
 pl:Nat->Option Pl
 bl:Nat->Option Blk
def tv(ver iver:Nat):Path->Nat
 |[]=>ver
 |_::_=>ver+iver
theorem NL{a b a' b':Nat}(ha:a<=a')(hb:b<=b')(p:Path):tv a b p<=tv a' b' p:=by cases p<;>simp only[tv]<;>omega
theorem YW{a b a' b':Nat}(ha:a<=a')(hb:b<=b'){p:Path}(h:tv a b p=tv a' b' p):a=a'/\(p=[]\/b=b'):=by
 cases p with
 |nil=>exact⟨h,.inl rfl⟩
 |cons _ _=>simp only[tv]at h;exact⟨by omega,.inr (by omega)⟩
def Ky(h:Option Path)(p:Path):Prop:=∀q,h=some q->¬q<+:p
def CRep(E:Env):C->Value->Prop
 |.bool b,v=>v=.bool b
 |.int k n,v=>v=.int k n
 |.str s,v=>v=.string ⟨s.toArray⟩
 |.err b,v=>errRep b v
 |.list e l,v=>DRep E.w E.ok (.slice e) l [v]
 |.nils,v=>v=.slice none 0 0
 |.nilc,v=>∃c,v=.slice none 0 c
 |.lsome e l,v=>DRep E.w E.ok (.slice e) l [v]/\∀n c,v≠.slice none n c
 |.nilp,v=>v=.pointer none
 |.ptr b o,v=>∃g,E.pl b=some (.cells g)/\v=.pointer (some ⟨g,o,none⟩)
 |.row b ver,v=>v.oneCell'=true/\∃sv svs,E.pl b=some (.row sv svs)/\∀t e ver' l,E.bl b=some (.row t e ver' l)->ver<=ver'/\(ver=ver'->v=sv)
 |.fn f caps,v=>∃gs:List Nat,caps.map E.pl=gs.map (λg=>some (.cells g))/\v=.func (.func f) #[] (gs.map λg=>.pointer (some ⟨g,0,none⟩)).toArray
 |.nilfn,v=>v=.nilFunc
 |.mapv b,v=>∃g,E.pl b=some (.cells g)/\v=.map (some g)
 |.mat b ver,v=>v.oneCell'=true/\∃sv svs,E.pl b=some (.row sv svs)/\∀t et e ver' iver hole l,E.bl b=some (.mat t et e ver' iver hole l)->ver<=ver'/\(ver=ver'->v=sv)
 |.mrow b iver i,v=>v.oneCell'=true/\∃sv svs,E.pl b=some (.row sv svs)/\∀t et e ver iver' hole l,E.bl b=some (.mat t et e ver iver' hole l)->iver<=iver'/\(iver=iver'->i<l.length/\svs[i]?=some (some v))
 |.sub b ver i j,v=>v.oneCell'=true/\∃sv svs,E.pl b=some (.row sv svs)/\∀t e ver' l,E.bl b=some (.row t e ver' l)->ver<=ver'/\(ver=ver'->i<=j/\j<=l.length/\
   ∃A A' n c,sv=.slice A n c/\v=.slice A' (j-i) (c-i)/\(i<j->A'=A.map (·.add (i*e.size)))/\(i=0->A'=A))
 |.bself b,v=>v=.pointer none\/∃g,E.pl b=some (.cells g)/\v=.pointer (some ⟨g,0,none⟩)
 |.trow b ver p,v=>v.oneCell'=true/\∃sv svs,E.pl b=some (.row sv svs)/\∀t e ver' iver' h l,E.bl b=some (.tree t e ver' iver' h l)->ver<=tv ver' iver' p/\(ver=tv ver' iver' p->Ky h p->
   ∃n,AM (.r t e) l 0 p=some n/\(some sv::svs)[nix (.r t e) l 0 p]?=some (some v))
 |.bfn f b,v=>∃g,E.pl b=some (.cells g)/\v=.func (.func f) #[.pointer (some ⟨g,0,none⟩)] #[]
 |.tptr b ver p i o,v=>∃sv svs ad,E.pl b=some (.row sv svs)/\v=.pointer (some ad)/\∀t e ver' iver' h l,E.bl b=some (.tree t e ver' iver' h l)->ver<=tv ver' iver' p/\(ver=tv ver' iver' p->Ky h p->
   ∃n s,AM (.r t e) l 0 p=some n/\(some sv::svs)[nix (.r t e) l 0 p]?=some (some s)/\i<n.2.length/\∃g m c,s=.slice (some ⟨g,0,none⟩) m c/\ad=⟨g,i*n.1.2.ty.size+o,none⟩)
 |.junk,v=>v.oneCell'=true
def CReps(E:Env):List C->List Value->Prop
 |[],vs=>vs=[]
 |c::cs,vs=>∃v vs',vs=v::vs'/\CRep E c v/\CReps E cs vs'
def SRep(E:Env)(agg:Bool)(cs:List C)(v:Value):Prop:=
 ∃vs,CReps E cs vs/\if agg then v=.agg vs.toArray else vs=[v]
def TReps(E:Env):List (Bool×List C)->List Value->Prop
 |[],vs=>vs=[]
 |t::ts,vs=>∃v vs',vs=v::vs'/\SRep E t.1 t.2 v/\TReps E ts vs'
def VRep(E:Env):V->Value->Prop
 |.junk,_=>True
 |.c x,v=>CRep E x v
 |.agg cs,v=>SRep E true cs v
 |.tup ts,v=>∃vs,v=.tuple vs.toArray/\TReps E ts vs
 |.eptr b ver i o,v=>∃sv svs ad,E.pl b=some (.row sv svs)/\v=.pointer (some ad)/\∀t e ver' l,E.bl b=some (.row t e ver' l)->ver<=ver'/\
   (ver=ver'->i<l.length/\∃g n c,sv=.slice (some ⟨g,0,none⟩) n c/\ad=⟨g,i*e.size+o,none⟩)
 |.mcell b ver i,v=>∃sv svs ad,E.pl b=some (.row sv svs)/\v=.pointer (some ad)/\∀t et e ver' iver hole l,E.bl b=some (.mat t et e ver' iver hole l)->ver<=ver'/\
   (ver=ver'->i<l.length/\∃g n c,sv=.slice (some ⟨g,0,none⟩) n c/\ad=⟨g,i,none⟩)
 |.mptr b iver i j o,v=>∃sv svs ad,E.pl b=some (.row sv svs)/\v=.pointer (some ad)/\∀t et e ver iver' hole l,E.bl b=some (.mat t et e ver iver' hole l)->iver<=iver'/\
   (iver=iver'->∃s x,l[i]?=some x/\svs[i]?=some (some s)/\j<x.length/\∃g n c,s=.slice (some ⟨g,0,none⟩) n c/\ad=⟨g,j*e.size+o,none⟩)
 |.arr b o _ n,v=>∃g,E.pl b=some (.cells g)/\v=.slice (some ⟨g,o,none⟩) n n
 |.lptr e x o,v=>∃xs ad,DRep E.w E.ok e x xs/\v=.pointer (some ad)/\∀j u,(xs.drop o)[j]?=some u->E.ok ad.block/\E.w.cell? (ad.add j)=some u
def keyW:Ty->Bool
 |.prod _ _=>true
 |_=>false
def KRep(w:World)(ok:Nat->Prop)(k:Ty)(x:k.den)(u:Value):Prop:=
 ∃us,DRep w ok k x us/\if keyW k then u=.agg us.toArray else us=[u]
def MRep(w:World)(ok:Nat->Prop)(k v:Ty)(vg:Bool):List (k.den×v.den)->List MapEntry->Prop
 |[],es=>es=[]
 |x::l,es=>∃e r,es=e::r/\KRep w ok k x.1 e.key/\(∃us,DRep w ok v x.2 us/\if vg then e.val=.agg us.toArray else us=[e.val])/\MRep w ok k v vg l r
theorem MRep.mono{w w':World}{ok ok':Nat->Prop}{k v:Ty}{vg:Bool}(hk:∀x us,DRep w ok k x us->DRep w' ok' k x us)(hv:∀x us,DRep w ok v x us->DRep w' ok' v x us):∀{l:List (k.den×v.den)}{es:List MapEntry},MRep w ok k v vg l es->MRep w' ok' k v vg l es
 |[],_,h=>h
 |_::_,_,⟨e,r,h0,⟨ks,h1,h5⟩,⟨us,h2,h3⟩,h4⟩=>⟨e,r,h0,⟨ks,hk _ _ h1,h5⟩,⟨us,hv _ _ h2,h3⟩,MRep.mono hk hv h4⟩
def FRep(E:Env):List (List UInt8×(FuncId×Nat))->List MapEntry->Prop
 |[],es=>es=[]
 |x::l,es=>∃e r g,es=e::r/\e.key=.string ⟨x.1.toArray⟩/\E.pl x.2.2=some (.cells g)/\e.val=.func (.func x.2.1) #[.pointer (some ⟨g,0,none⟩)] #[]/\FRep E l r
structure MatOk (E:Env) (t et:TypeId) (e:Ty) (hole:Option Nat) (l:List (List e.den)) (sv:Value) (svs:List (Option Value)):Prop where
 outer:∃vs:List Value,E.w.ownsRow E.base t 1 sv l.length vs/\∀(i:Nat)(s:Value),svs[i]?=some (some s)->vs[i]?=some s
 len:svs.length=l.length
 hole:∀i:Nat,svs[i]?=some none->hole=some i
 inner:∀(i:Nat)(s:Value)(x:List e.den),svs[i]?=some (some s)->l[i]?=some x->∃xs,DList (λx u=>DRep E.w E.ok e x u) x xs/\E.w.ownsRow E.base et e.size s x.length xs
 sep0:∀(i:Nat)(s:Value)(g:Nat),svs[i]?=some (some s)->sv.ownBlock=some g->s.ownBlock≠some g
 sep:∀(i j:Nat)(s r:Value)(g:Nat),i≠j->svs[i]?=some (some s)->svs[j]?=some (some r)->s.ownBlock=some g->r.ownBlock≠some g
def Placed(t:TypeId)(e:OT)(l:List e.ty.den):Option Path->List Value->List (Option Value)->Prop
 |none,F,svs=>svs=F.map some
 |some P,F,svs=>∃n G1 G2,AM (.r t e) l 0 P=some n/\F=G1++G2/\G1.length=nix (.r t e) l 0 P/\svs=G1.map some++(List.replicate (cnt (.r n.1.1 n.1.2) n.2) none++G2.map some)
structure TreeOk (E:Env) (t:TypeId) (e:OT) (hole:Option Path) (l:List e.ty.den) (sv:Value) (svs:List (Option Value)):Prop where
 rep:∃hv F,Owns E.w E.ok E.base hv (.r t e) (hole.map λp=>(0,p)) l [sv] (sv::F)/\Placed t e l hole (sv::F) (some sv::svs)/\(sv::F).Pairwise (λs r=>∀g,s.ownBlock=some g->r.ownBlock≠some g)
 top:hole≠some []
def BRep(E:Env):Blk->Pl->Prop
 |.cells t cs,.cells g=>∃vs:List Value,E.w.heap[g]?=some (.cells vs.toArray t (0,0))/\CReps E cs vs
 |.row t e _ l,.row sv svs=>svs=[]/\∃xs,DList (λx u=>DRep E.w E.ok e x u) l xs/\E.w.ownsRow E.base t e.size sv l.length xs
 |.mat t et e _ _ hole l,.row sv svs=>MatOk E t et e hole l sv svs
 |.tree t e _ _ hole l,.row sv svs=>TreeOk E t e hole l sv svs
 |.map _ k v vg l,.cells g=>∃(es:Array MapEntry)(clock:Nat),E.w.heap[g]?=some (.map es clock)/\MRep E.w E.ok k v vg l es.toList
 |.fmap _ l,.cells g=>∃(es:Array MapEntry)(clock:Nat),E.w.heap[g]?=some (.map es clock)/\FRep E l es.toList
 |.dead,_=>True
 |_,_=>False
def KeepT(c:Prop)(t:TypeId)(e:OT)(h h':Option Path)(l l':List e.ty.den)(sv:Value)(svs svs':List (Option Value)):Prop:=
 ∀p,(p=[]\/c)->Ky h' p->Ky h p/\∀n,AM (.r t e) l 0 p=some n->∃n',AM (.r t e) l' 0 p=some n'/\n'.1=n.1/\n'.2.length=n.2.length/\
  ∀s,(some sv::svs)[nix (.r t e) l 0 p]?=some (some s)->(some sv::svs')[nix (.r t e) l' 0 p]?=some (some s)
theorem KeepT.refl(c:Prop)(t:TypeId)(e:OT)(h:Option Path)(l:List e.ty.den)(sv:Value)(svs:List (Option Value)):KeepT c t e h h l l sv svs svs:=λ_ _ ho=>⟨ho,λn hn=>⟨n,hn,rfl,rfl,λ_ hs=>hs⟩⟩
theorem KeepT.trans{c c1 c2:Prop}(hc:c->c1/\c2){t:TypeId}{e:OT}{h h1 h2:Option Path}{l l1 l2:List e.ty.den}{sv:Value}{svs svs1 svs2:List (Option Value)}(a:KeepT c1 t e h h1 l l1 sv svs svs1)(b:KeepT c2 t e h1 h2 l1 l2 sv svs1 svs2):KeepT c t e h h2 l l2 sv svs svs2:=λp hp ho=>by obtain⟨b1,b2⟩:=b p (hp.imp id λh=>(hc h).2) ho;obtain⟨a1,a2⟩:=a p (hp.imp id λh=>(hc h).1) b1;refine⟨a1,λn hn=>?_⟩;obtain⟨n1,c1,c2,c3,c4⟩:=a2 n hn;obtain⟨n2,d1,d2,d3,d4⟩:=b2 n1 c1;exact⟨n2,d1,d2.trans c2,d3.trans c3,λs hs=>d4 s (c4 s hs)⟩
structure KeepR (B B':Option Blk) (sv:Value) (svs:List (Option Value)) (sv':Value) (svs':List (Option Value)):Prop where
 row:∀t e ver' l',B'=some (.row t e ver' l')->∃ver l,B=some (.row t e ver l)/\ver<=ver'/\(ver=ver'->sv'=sv/\l'.length=l.length)
 mat:∀t et e ver' iver' hole' l',B'=some (.mat t et e ver' iver' hole' l')->∃ver iver hole l,B=some (.mat t et e ver iver hole l)/\ver<=ver'/\iver<=iver'/\
  (ver=ver'->sv'=sv/\l'.length=l.length)/\(iver=iver'->svs'=svs/\l'.map List.length=l.map List.length)
 tree:∀t e ver' iver' h' l',B'=some (.tree t e ver' iver' h' l')->∃ver iver h l,B=some (.tree t e ver iver h l)/\ver<=ver'/\iver<=iver'/\(ver=ver'->sv'=sv/\KeepT (iver=iver') t e h h' l l' sv svs svs')
theorem KeepR.refl(B:Option Blk)(sv:Value)(svs:List (Option Value)):KeepR B B sv svs sv svs:=
 ⟨λ_ _ ver' l' hb=>⟨ver',l',hb,Ao _,λ_=>⟨rfl,rfl⟩⟩,λ_ _ _ ver' iver' hole' l' hb=>⟨ver',iver',hole',l',hb,Ao _,Ao _,λ_=>⟨rfl,rfl⟩,λ_=>⟨rfl,rfl⟩⟩,λ_ _ ver' iver' h' l' hb=>⟨ver',iver',h',l',hb,Ao _,Ao _,λ_=>⟨rfl,KeepT.refl _ _ _ _ _ _ _⟩⟩⟩
theorem KeepR.of_eq{B B':Option Blk}(h:∀C,B'=some C->B=some C)(sv:Value)(svs:List (Option Value)):KeepR B B' sv svs sv svs:=
 ⟨λ_ _ ver' l' hb=>⟨ver',l',h _ hb,Ao _,λ_=>⟨rfl,rfl⟩⟩,λ_ _ _ ver' iver' hole' l' hb=>⟨ver',iver',hole',l',h _ hb,Ao _,Ao _,λ_=>⟨rfl,rfl⟩,λ_=>⟨rfl,rfl⟩⟩,λ_ _ ver' iver' h' l' hb=>⟨ver',iver',h',l',h _ hb,Ao _,Ao _,λ_=>⟨rfl,KeepT.refl _ _ _ _ _ _ _⟩⟩⟩
theorem KeepR.of_live{B B':Option Blk}(h:∀C,B'=some C->C≠.dead->B=some C)(sv:Value)(svs:List (Option Value)):KeepR B B' sv svs sv svs:=
 ⟨λ_ _ ver' l' hb=>⟨ver',l',h _ hb (by simp),Ao _,λ_=>⟨rfl,rfl⟩⟩,λ_ _ _ ver' iver' hole' l' hb=>⟨ver',iver',hole',l',h _ hb (by simp),Ao _,Ao _,λ_=>⟨rfl,rfl⟩,λ_=>⟨rfl,rfl⟩⟩,λ_ _ ver' iver' h' l' hb=>⟨ver',iver',h',l',h _ hb (by simp),Ao _,Ao _,λ_=>⟨rfl,KeepT.refl _ _ _ _ _ _ _⟩⟩⟩
theorem KeepR.trans{B B1 B2:Option Blk}{sv sv1 sv2:Value}{svs svs1 svs2:List (Option Value)}(h:KeepR B B1 sv svs sv1 svs1)(k:KeepR B1 B2 sv1 svs1 sv2 svs2):KeepR B B2 sv svs sv2 svs2:=by
 constructor
 ·intro t e ver2 l2 hb2
  obtain⟨ver1,l1,hb1,le1,eq1⟩:=k.row t e ver2 l2 hb2;obtain⟨ver0,l0,hb0,le0,eq0⟩:=h.row t e ver1 l1 hb1;refine⟨ver0,l0,hb0,BH le0 le1,λhe=>?_⟩;have e01:ver0=ver1:=Ei le0 (he▸le1);have e12:ver1=ver2:=e01▸he;exact⟨(eq1 e12).1.trans (eq0 e01).1,(eq1 e12).2.trans (eq0 e01).2⟩
 ·intro t et e ver2 iver2 hole2 l2 hb2
  obtain⟨ver1,iver1,hole1,l1,hb1,le1,ile1,eq1,ieq1⟩:=k.mat t et e ver2 iver2 hole2 l2 hb2;obtain⟨ver0,iver0,hole0,l0,hb0,le0,ile0,eq0,ieq0⟩:=h.mat t et e ver1 iver1 hole1 l1 hb1;refine⟨ver0,iver0,hole0,l0,hb0,BH le0 le1,BH ile0 ile1,λhe=>?_,λhe=>?_⟩
  ·have e01:ver0=ver1:=Ei le0 (he▸le1)
   have e12:ver1=ver2:=e01▸he;exact⟨(eq1 e12).1.trans (eq0 e01).1,(eq1 e12).2.trans (eq0 e01).2⟩
  ·have e01:iver0=iver1:=Ei ile0 (he▸ile1)
   have e12:iver1=iver2:=e01▸he;exact⟨(ieq1 e12).1.trans (ieq0 e01).1,(ieq1 e12).2.trans (ieq0 e01).2⟩
 ·intro t e ver2 iver2 h2 l2 hb2
  obtain⟨ver1,iver1,h1,l1,hb1,le1,ile1,eq1⟩:=k.tree t e ver2 iver2 h2 l2 hb2;obtain⟨ver0,iver0,h0,l0,hb0,le0,ile0,eq0⟩:=h.tree t e ver1 iver1 h1 l1 hb1;refine⟨ver0,iver0,h0,l0,hb0,BH le0 le1,BH ile0 ile1,λhe=>?_⟩;have e01:ver0=ver1:=Ei le0 (he▸le1);have e12:ver1=ver2:=e01▸he;obtain⟨a1,a2⟩:=eq0 e01;obtain⟨b1,b2⟩:=eq1 e12;rw[a1]at b2;exact⟨b1.trans a1,a2.trans (λhc=>⟨by omega,by omega⟩) b2⟩
structure Ext (E E':Env):Prop where
 base:E'.base<=E.base
 heap:Keeps E.w E.ok E'.w E'.ok
 cells:∀b g,E.pl b=some (.cells g)->E'.pl b=some (.cells g)
 rows:∀b sv svs,E.pl b=some (.row sv svs)->∃sv' svs',E'.pl b=some (.row sv' svs')/\KeepR (E.bl b) (E'.bl b) sv svs sv' svs'
theorem Ext.refl(E:Env):Ext E E:=⟨Ao _,λ_ h _=>⟨h,rfl⟩,λ_ _ h=>h,λ_ sv svs h=>⟨sv,svs,h,KeepR.refl _ _ _⟩⟩
section
variable{E E':Env}
theorem uF{α:Type}{l l':List (List α)}(h:l'.map List.length=l.map List.length){i:Nat}{x:List α}(hx:l[i]?=some x):∃x',l'[i]?=some x'/\x'.length=x.length:=by
 have h1:(l'.map List.length)[i]?=some x.length:=by rw[h,C0,hx];rfl
 rw[C0]at h1;cases hy:l'[i]? with
 |none=>rw[hy]at h1;cases h1
 |some y=>rw[hy]at h1;injection h1 with h1;exact⟨y,rfl,h1⟩
theorem CRep.mono(hx:Ext E E'):∀{c:C}{v:Value},CRep E c v->CRep E' c v
 |.bool _,_,h=>h
 |.int _ _,_,h=>h
 |.str _,_,h=>h
 |.err _,_,h=>h
 |.list e l,_,h=>DRep.mono (τ:=.slice e) hx.heap h
 |.nils,_,h=>h
 |.nilc,_,h=>h
 |.lsome e l,_,h=>⟨DRep.mono (τ:=.slice e) hx.heap h.1,h.2⟩
 |.nilp,_,h=>h
 |.nilfn,_,h=>h
 |.junk,_,h=>h
 |.ptr _ _,_,⟨g,h,hv⟩=>⟨g,hx.cells _ _ h,hv⟩
 |.mapv _,_,⟨g,h,hv⟩=>⟨g,hx.cells _ _ h,hv⟩
 |.bfn _ _,_,⟨g,h,hv⟩=>⟨g,hx.cells _ _ h,hv⟩
 |.tptr b ver p i o,_,⟨sv,svs,ad,h,he,hv⟩=>by obtain⟨sv',svs',h',hr⟩:=hx.rows _ _ _ h;refine⟨sv',svs',ad,h',he,λt e ver' iver' hh' l' hb=>?_⟩;obtain⟨ver0,iver0,hh,l,hb0,hle,ile,heq⟩:=hr.tree t e ver' iver' hh' l' hb;obtain⟨h1,h2⟩:=hv t e ver0 iver0 hh l hb0;refine⟨BH h1 (NL hle ile p),λhe ho=>?_⟩;have hte:=Ei (NL hle ile p) (he▸h1);obtain⟨this,hc⟩:=YW hle ile hte;obtain⟨q1,q2⟩:=heq this;obtain⟨r1,r2⟩:=q2 p hc ho;obtain⟨n,s,h3,h4,h5,h6⟩:=h2 (he.trans hte.symm) r1;obtain⟨n',s1,s2,s3,s4⟩:=r2 n h3;rw[q1];exact⟨n',s,s1,s4 _ h4,by rw[s3];exact h5,by rw[s2];exact h6⟩
 |.bself _,_,.inl h=>.inl h
 |.bself _,_,.inr ⟨g,h,hv⟩=>.inr ⟨g,hx.cells _ _ h,hv⟩
 |.row b ver,_,⟨h1c,sv,svs,h,hv⟩=>by obtain⟨sv',svs',h',hr⟩:=hx.rows _ _ _ h;refine⟨h1c,sv',svs',h',λt e ver' l' hb=>?_⟩;obtain⟨ver0,l,hb0,hle,heq⟩:=hr.row t e ver' l' hb;obtain⟨h1,h2⟩:=hv t e ver0 l hb0;refine⟨BH h1 hle,λhe=>?_⟩;have:ver0=ver':=Ei hle (he▸h1);rw[(heq this).1];exact h2 (he.trans this.symm)
 |.mat b ver,_,⟨h1c,sv,svs,h,hv⟩=>by obtain⟨sv',svs',h',hr⟩:=hx.rows _ _ _ h;refine⟨h1c,sv',svs',h',λt et e ver' iver' hole' l' hb=>?_⟩;obtain⟨ver0,iver0,hole0,l,hb0,hle,_,heq,_⟩:=hr.mat t et e ver' iver' hole' l' hb;obtain⟨h1,h2⟩:=hv t et e ver0 iver0 hole0 l hb0;refine⟨BH h1 hle,λhe=>?_⟩;have:ver0=ver':=Ei hle (he▸h1);rw[(heq this).1];exact h2 (he.trans this.symm)
 |.mrow b iver i,_,⟨h1c,sv,svs,h,hv⟩=>by
  obtain⟨sv',svs',h',hr⟩:=hx.rows _ _ _ h;refine⟨h1c,sv',svs',h',λt et e ver' iver' hole' l' hb=>?_⟩;obtain⟨ver0,iver0,hole0,l,hb0,_,hle,_,heq⟩:=hr.mat t et e ver' iver' hole' l' hb;obtain⟨h1,h2⟩:=hv t et e ver0 iver0 hole0 l hb0;refine⟨BH h1 hle,λhe=>?_⟩;have hi:iver0=iver':=Ei hle (he▸h1);obtain⟨q1,q2⟩:=heq hi;have q3:l'.length=l.length:=by simpa using Aj List.length q2
  rw[q1,q3];exact h2 (he.trans hi.symm)
 |.sub b ver i j,_,⟨h1c,sv,svs,h,hv⟩=>by obtain⟨sv',svs',h',hr⟩:=hx.rows _ _ _ h;refine⟨h1c,sv',svs',h',λt e ver' l' hb=>?_⟩;obtain⟨ver0,l,hb0,hle,heq⟩:=hr.row t e ver' l' hb;obtain⟨h1,h2⟩:=hv t e ver0 l hb0;refine⟨BH h1 hle,λhe=>?_⟩;have:ver0=ver':=Ei hle (he▸h1);rw[(heq this).1,(heq this).2];exact h2 (he.trans this.symm)
 |.trow b ver p,_,⟨h1c,sv,svs,h,hv⟩=>by obtain⟨sv',svs',h',hr⟩:=hx.rows _ _ _ h;refine⟨h1c,sv',svs',h',λt e ver' iver' hh' l' hb=>?_⟩;obtain⟨ver0,iver0,hh,l,hb0,hle,ile,heq⟩:=hr.tree t e ver' iver' hh' l' hb;obtain⟨h1,h2⟩:=hv t e ver0 iver0 hh l hb0;refine⟨BH h1 (NL hle ile p),λhe ho=>?_⟩;have hte:=Ei (NL hle ile p) (he▸h1);obtain⟨this,hc⟩:=YW hle ile hte;obtain⟨q1,q2⟩:=heq this;obtain⟨r1,r2⟩:=q2 p hc ho;obtain⟨n,h3,h4⟩:=h2 (he.trans hte.symm) r1;obtain⟨n',s1,_,_,s4⟩:=r2 n h3;rw[q1];exact⟨n',s1,s4 _ h4⟩
 |.fn f caps,_,⟨gs,h,hv⟩=>by
  refine⟨gs,?_,hv⟩;clear hv
  induction caps generalizing gs with
  |nil=>cases gs<;>simp_all
  |cons b bs ih=>
   cases gs with
   |nil=>simp at h
   |cons g gs=>simp only[Bp,BB]at h⊢;exact⟨hx.cells _ _ h.1,ih gs h.2⟩
theorem CReps.mono(hx:Ext E E'):∀{cs:List C}{vs:List Value},CReps E cs vs->CReps E' cs vs
 |[],_,h=>h
 |_::_,_,⟨v,vs',e,h,ht⟩=>⟨v,vs',e,CRep.mono hx h,CReps.mono hx ht⟩
theorem SRep.mono(hx:Ext E E'){agg:Bool}{cs:List C}{v:Value}(h:SRep E agg cs v):SRep E' agg cs v:=by obtain⟨vs,h1,h2⟩:=h;exact⟨vs,h1.mono hx,h2⟩
theorem TReps.mono(hx:Ext E E'):∀{ts:List (Bool×List C)}{vs:List Value},TReps E ts vs->TReps E' ts vs
 |[],_,h=>h
 |_::_,_,⟨v,vs',e,h,ht⟩=>⟨v,vs',e,h.mono hx,TReps.mono hx ht⟩
theorem VRep.mono(hx:Ext E E'):∀{x:V}{v:Value},VRep E x v->VRep E' x v
 |.junk,_,_=>trivial
 |.c _,_,h=>CRep.mono hx h
 |.agg _,_,h=>SRep.mono hx h
 |.tup _,_,⟨vs,e,h⟩=>⟨vs,e,h.mono hx⟩
 |.mcell b ver i,_,⟨sv,svs,ad,h,he,hv⟩=>by obtain⟨sv',svs',h',hr⟩:=hx.rows _ _ _ h;refine⟨sv',svs',ad,h',he,λt et e ver' iver' hole' l' hb=>?_⟩;obtain⟨ver0,iver0,hole0,l,hb0,hle,_,heq,_⟩:=hr.mat t et e ver' iver' hole' l' hb;obtain⟨h1,h2⟩:=hv t et e ver0 iver0 hole0 l hb0;refine⟨BH h1 hle,λhe=>?_⟩;have:ver0=ver':=Ei hle (he▸h1);obtain⟨q1,q2⟩:=heq this;rw[q1,q2];exact h2 (he.trans this.symm)
 |.mptr b iver i j o,_,⟨sv,svs,ad,h,he,hv⟩=>by obtain⟨sv',svs',h',hr⟩:=hx.rows _ _ _ h;refine⟨sv',svs',ad,h',he,λt et e ver' iver' hole' l' hb=>?_⟩;obtain⟨ver0,iver0,hole0,l,hb0,_,hle,_,heq⟩:=hr.mat t et e ver' iver' hole' l' hb;obtain⟨h1,h2⟩:=hv t et e ver0 iver0 hole0 l hb0;refine⟨BH h1 hle,λhe=>?_⟩;have hi:iver0=iver':=Ei hle (he▸h1);obtain⟨q1,q2⟩:=heq hi;obtain⟨s,x,h3,h4,h5,h6⟩:=h2 (he.trans hi.symm);obtain⟨x',h7,h8⟩:=uF q2 h3;rw[q1];exact⟨s,x',h7,h4,by rw[h8];exact h5,h6⟩
 |.eptr b ver i o,_,⟨sv,svs,ad,h,he,hv⟩=>by obtain⟨sv',svs',h',hr⟩:=hx.rows _ _ _ h;refine⟨sv',svs',ad,h',he,λt e ver' l' hb=>?_⟩;obtain⟨ver0,l,hb0,hle,heq⟩:=hr.row t e ver' l' hb;obtain⟨h1,h2⟩:=hv t e ver0 l hb0;refine⟨BH h1 hle,λhe=>?_⟩;have:ver0=ver':=Ei hle (he▸h1);obtain⟨q1,q2⟩:=heq this;rw[q1,q2];exact h2 (he.trans this.symm)
 |.arr _ _ _ _,_,⟨g,h,e⟩=>⟨g,hx.cells _ _ h,e⟩
 |.lptr e x o,_,⟨xs,ad,h,hv,hc⟩=>by
  refine⟨xs,ad,h.mono hx.heap,hv,λj u hj=>?_⟩;obtain⟨h1,h2⟩:=hc j u hj;have hb:E.ok (ad.add j).block:=by rw[Ge];exact h1
  obtain⟨o',c'⟩:=hx.heap.cell hb h2;rw[Ge]at o';exact⟨o',c'⟩
theorem E8{w w':World}{b b':Nat}{t:TypeId}{size:Nat}{v:Value}{n:Nat}{xs:List Value}(hb:b'<=b)(hg:∀g,v.ownBlock=some g->w'.heap[g]?=w.heap[g]?)(h:w.ownsRow b t size v n xs):w'.ownsRow b' t size v n xs:=by
 refine⟨h.1,?_⟩;rcases h.2 with h3|⟨g,cap,cur,rfl,hb2,hh,r⟩
 ·exact .inl h3
 ·exact .inr ⟨g,cap,cur,rfl,BH hb hb2,(hg g rfl).trans hh,r⟩
theorem Placed.mem{t:TypeId}{e:OT}{l:List e.ty.den}{hole:Option Path}{F:List Value}{svs:List (Option Value)}(h:Placed t e l hole F svs){s:Value}:s∈F↔some s∈svs:=by
 cases hole with
 |none=>have h:svs=F.map some:=h;rw[h];simp
 |some P=>obtain⟨n,G1,G2,_,e1,_,e3⟩:=h;rw[e1,e3];simp[List.mem_replicate]
theorem Placed.has{t:TypeId}{e:OT}{l:List e.ty.den}{hole:Option Path}{F:List Value}{sv:Value}{svs:List (Option Value)}(h:Placed t e l hole F (some sv::svs)){s:Value}(hs:s∈F){g:Nat}(hg:s.ownBlock=some g):(Pl.row sv svs).has g:=by
 rcases AH.1 (h.mem.1 hs)with h1|h1
 ·injection h1 with h1
  exact .inl (h1▸hg)
 ·obtain⟨i,hi⟩:=II.1 h1
  exact .inr ⟨i,s,hi,hg⟩
theorem Placed.of_has{t:TypeId}{e:OT}{l:List e.ty.den}{hole:Option Path}{F:List Value}{sv:Value}{svs:List (Option Value)}(h:Placed t e l hole F (some sv::svs)){g:Nat}(hg:(Pl.row sv svs).has g):∃s∈F,s.ownBlock=some g:=by
 rcases hg with hg|⟨i,s,hs,hg⟩
 ·exact⟨sv,h.mem.2 (Bu ..),hg⟩
 ·exact⟨s,h.mem.2 (AU _ (B6 hs)),hg⟩
theorem FRep.mono(hx:Ext E E'):∀{l:List (List UInt8×(FuncId×Nat))}{es:List MapEntry},FRep E l es->FRep E' l es
 |[],_,h=>h
 |_::_,_,⟨e,r,g,h1,h2,h3,h4,h5⟩=>⟨e,r,g,h1,h2,hx.cells _ _ h3,h4,FRep.mono hx h5⟩
theorem BRep.mono(hx:Ext E E'){B:Blk}{p:Pl}(h:BRep E B p)(hg:∀g,p.has g->E'.w.heap[g]?=E.w.heap[g]?):BRep E' B p:=by
 cases B with
 |dead=>exact trivial
 |cells t cs=>
  cases p with
  |row _ _=>exact h.elim
  |cells g=>obtain⟨vs,h1,h2⟩:=h;exact⟨vs,(hg g rfl).trans h1,h2.mono hx⟩
 |map t k v vg l=>
  cases p with
  |row _ _=>exact h.elim
  |cells g=>obtain⟨es,clock,h1,h2⟩:=h;exact⟨es,clock,(hg g rfl).trans h1,h2.mono (λ_ _ h=>h.mono hx.heap) (λ_ _ h=>h.mono hx.heap)⟩
 |fmap t l=>
  cases p with
  |row _ _=>exact h.elim
  |cells g=>obtain⟨es,clock,h1,h2⟩:=h;exact⟨es,clock,(hg g rfl).trans h1,h2.mono hx⟩
 |row t e ver l=>
  cases p with
  |cells _=>exact h.elim
  |row sv svs=>obtain⟨h0,xs,h1,h2⟩:=h;exact⟨h0,xs,h1.mono λx u hu=>hu.mono hx.heap,E8 hx.base (λg hgg=>hg g (.inl hgg)) h2⟩
 |mat t et e ver iver hole l=>
  cases p with
  |cells _=>exact h.elim
  |row sv svs=>have h:MatOk E t et e hole l sv svs:=h;obtain⟨vs,h1,h2⟩:=h.outer;refine⟨⟨vs,E8 hx.base (λg hgg=>hg g (.inl hgg)) h1,h2⟩,h.len,h.hole,λi s x hs hl=>?_,h.sep0,h.sep⟩;obtain⟨xs,h3,h4⟩:=h.inner i s x hs hl;exact⟨xs,h3.mono λx u hu=>hu.mono hx.heap,E8 hx.base (λg hgg=>hg g (.inr ⟨i,s,hs,hgg⟩)) h4⟩
 |tree t e ver iver hole l=>
  cases p with
  |cells _=>exact h.elim
  |row sv svs=>have h:TreeOk E t e hole l sv svs:=h;obtain⟨hv,F,h1,h2,h3⟩:=h.rep;exact⟨⟨hv,F,h1.mono hx.base hx.heap λs hs g hgg=>hg g (Placed.has h2 hs hgg),h2,h3⟩,h.top⟩
end
theorem CReps.length{E:Env}:∀{cs:List C}{vs:List Value},CReps E cs vs->vs.length=cs.length
 |[],_,h=>by simp only[CReps]at h;simp[h]
 |_::_,_,⟨_,_,e,_,ht⟩=>by rw[e,Aw,Aw,CReps.length ht]
theorem CRep.oneCell{E:Env}{c:C}{v:Value}(h:CRep E c v):v.oneCell'=true:=by
 cases c with
 |list e l=>exact DRep.oneCell h v (by simp)
 |lsome e l=>exact DRep.oneCell h.1 v (by simp)
 |nilc=>obtain⟨c,rfl⟩:=h;rfl
 |ptr b o=>obtain⟨g,_,rfl⟩:=h;rfl
 |bself b=>rcases h with rfl|⟨g,_,rfl⟩<;>rfl
 |fn f caps=>obtain⟨gs,_,rfl⟩:=h;rfl
 |mapv b=>obtain⟨g,_,rfl⟩:=h;rfl
 |bfn f b=>obtain⟨g,_,rfl⟩:=h;rfl
 |tptr b ver p i o=>obtain⟨_,_,ad,_,rfl,_⟩:=h;rfl
 |row b ver=>exact h.1
 |mat b ver=>exact h.1
 |mrow b iver i=>exact h.1
 |sub b ver i j=>exact h.1
 |trow b ver p=>exact h.1
 |junk=>exact h
 |bool _=>simp only[CRep]at h;subst h;rfl
 |int _ _=>simp only[CRep]at h;subst h;rfl
 |str _=>simp only[CRep]at h;subst h;rfl
 |err _=>exact errRep.one h
 |nils=>simp only[CRep]at h;subst h;rfl
 |nilp=>simp only[CRep]at h;subst h;rfl
 |nilfn=>simp only[CRep]at h;subst h;rfl
end Go.Lift
namespace Go.Lift
noncomputable section
noncomputable def look{α:Type}(l:List (Nat×α))(i:Nat):Option α:=List.rec (motive:=λ_=>Option α) none (λp _ ih=>Bool.rec (motive:=λ_=>Option α) ih (some p.2) (Nat.beq i p.1)) l
theorem Cn{α:Type}(i:Nat):look ([]:List (Nat×α)) i=none:=rfl
theorem Ch{α:Type}(j:Nat)(x:α)(r:List (Nat×α))(i:Nat):look ((j,x)::r) i=bif Nat.beq i j then some x else look r i:=by show(Bool.rec (motive:=λ_=>Option α) (look r i) (some x) (Nat.beq i j):Option α)=_;cases Nat.beq i j<;>rfl
noncomputable def put{α:Type}(l:List (Nat×α))(i:Nat)(x:α):List (Nat×α):=List.rec (motive:=λ_=>List (Nat×α)) [(i,x)] (λp r ih=>Bool.rec (motive:=λ_=>List (Nat×α)) ((i,x)::p::r) (Bool.rec (motive:=λ_=>List (Nat×α)) (p::ih) ((i,x)::r) (Nat.beq i p.1)) (Nat.ble p.1 i)) l
theorem YX{α:Type}(i:Nat)(x:α):put ([]:List (Nat×α)) i x=[(i,x)]:=rfl
theorem YY{α:Type}(j:Nat)(y:α)(r:List (Nat×α))(i:Nat)(x:α):put ((j,y)::r) i x=bif Nat.blt i j then(i,x)::(j,y)::r else bif Nat.beq i j then(i,x)::r else(j,y)::put r i x:=by
 have e:Nat.blt i j=!Nat.ble j i:=by
  by_cases h:i<j
  ·have h1:Nat.blt i j=true:=by rw[Nat.blt_eq];exact h
   have h2:Nat.ble j i=false:=by
    cases h2:Nat.ble j i with
    |false=>rfl
    |true=>exact absurd (D6 h2) (Nat.not_le.2 h)
   rw[h1,h2];rfl
  ·have h1:Nat.blt i j=false:=by
    cases h1:Nat.blt i j with
    |false=>rfl
    |true=>rw[Nat.blt_eq]at h1;exact absurd h1 h
   have h2:Nat.ble j i=true:=Nat.ble_eq_true_of_le (Nat.not_lt.1 h);rw[h1,h2];rfl
 rw[e];show(Bool.rec (motive:=λ_=>List (Nat×α)) ((i,x)::(j,y)::r) (Bool.rec (motive:=λ_=>List (Nat×α)) ((j,y)::put r i x) ((i,x)::r) (Nat.beq i j)) (Nat.ble j i):List (Nat×α))=_;cases Nat.ble j i<;>cases Nat.beq i j<;>rfl
def puts{α:Type}:List (Nat×α)->List (Nat×α)->List (Nat×α)
 |l,[]=>l
 |l,(i,x)::r=>puts (put l i x) r
theorem DR{i j:Nat}(h:¬i=j):Nat.beq i j=false:=by
 cases hb:Nat.beq i j with
 |false=>rfl
 |true=>exact absurd (Ag hb) h
theorem GY(i:Nat):Nat.beq i i=true:=Nat.beq_refl i
theorem NM{α:Type}(l:List (Nat×α))(i:Nat)(x:α)(j:Nat):look (put l i x) j=if j=i then some x else look l j:=by
 induction l with
 |nil=>
  simp only[YX,YY,Cn,Ch];by_cases h:j=i
  ·subst h;simp
  ·simp[h,DR h]
 |cons p r ih=>
  obtain⟨k,y⟩:=p;simp only[YX,YY];cases h1:Nat.blt i k
  ·cases h2:Nat.beq i k
   ·simp only[AT,Cn,Ch,ih]
    by_cases h:j=i
    ·subst h;simp[h2]
    ·simp[h]
   ·have:i=k:=Ag h2
    subst this;simp only[AT,Af,Cn,Ch];by_cases h:j=i
    ·subst h;simp
    ·simp[h,DR h]
  ·simp only[Af,Cn,Ch]
   by_cases h:j=i
   ·subst h;simp
   ·simp[h,DR h]
inductive BK where
 |b|i|s
structure TI where
 agg:Bool
 size:Nat
 bytes:Nat
 zero:List C
 flds:List (Nat×Nat×Bool)
 elem:Option TypeId
 len:Option Nat
 ty:Option Ty
 kind:Option IntKind
 isBool:Bool
 isStr:Bool
 eqs:Option (List BK)
 mp:Option (TypeId×TypeId)
 ptr:Bool
inductive CT where
 |data (τ:Ty)
 |ptr (b o:Nat)
 |rowh (b:Nat)
 |fn (f:FuncId) (caps:List Nat)
 |maph (b:Nat)
 |math (b:Nat)
 |bself (b:Nat)
 |bfnh (f:FuncId) (b:Nat)
 |trowh (b:Nat)
 |tptrh (b:Nat) (ks:List Nat) (o:Nat)
 |nilc
 |nils
 |lsome (e:Ty)
 |junk
inductive BT where
 |cells (t:TypeId) (l:List CT)
 |row (t:TypeId) (e:Ty)
 |map (t:TypeId) (k v:Ty) (vg:Bool)
 |mat (t et:TypeId) (e:Ty)
 |tree (t:TypeId) (e:OT)
 |fmap (t:TypeId) (l:List (List UInt8×(FuncId×Nat)))
@[reducible] def WayT:List Nat->Type
 |[]=>Nat
 |_::r=>Nat×WayT r
@[reducible] def CT.dens:List CT->Type
 |[]=>Unit
 |.tptrh _ ks _::r=>WayT ks×CT.dens r
 |.data τ::r=>τ.den×CT.dens r
 |.lsome e::r=>List e.den×CT.dens r
 |.ptr _ _::r|.rowh _::r|.fn _ _::r|.maph _::r|.math _::r|.bself _::r|.bfnh _ _::r|.trowh _::r|.nilc::r|.nils::r|.junk::r=>CT.dens r
@[reducible] def ST.dens:List (Bool×List CT)->Type
 |[]=>Unit
 |t::r=>CT.dens t.2×ST.dens r
@[reducible] def BT.dens:List BT->Type
 |[]=>Unit
 |.cells _ l::r=>CT.dens l×BT.dens r
 |.row _ e::r=>List e.den×BT.dens r
 |.map _ k v _::r=>List (k.den×v.den)×BT.dens r
 |.mat _ _ e::r=>List (List e.den)×BT.dens r
 |.tree _ e::r=>List e.ty.den×BT.dens r
 |.fmap _ _::r=>BT.dens r
structure Spec where
 params:List (Bool×List CT)
 ins:List BT
 res:List (Bool×List CT)
 outs:List BT
 run:{β:Type}->ST.dens params×BT.dens ins->(ST.dens res×BT.dens outs->Option β)->Option β
structure RowF where
 t:TypeId
 e:Ty
 cut:Bool
 dom:List e.den->Bool
 run:List e.den->List e.den
 fn:Option FuncId:=none
def RowF.extra(F:RowF):List Value:=match F.fn with|none=>[]|some g=>[.func (.func g) #[] #[]]
structure BldF where
 t:TypeId
 te:TypeId
 op:Nat
structure AbsF where
 run:{β:Type}->(Nat->Option Blk)->Nat->List V->(V->List Nat->List (Nat×Blk)->Option β)->Option β
inductive Fun where
 |spec (S:Spec)
 |rows (F:RowF)
 |bld (F:BldF)
 |abs (A:AbsF)
structure Ctx where
 T:TypeId->Option TI
 Γ:FuncId->Option Fun
 M:Bool
 R:Bool
 D:Bool
 S:Bool
 O:List (TypeId×OT)
 A:Option (List Nat)
 N:Nat
 L:List (TypeId×List Nat)
def memB(x:Nat):List Nat->Bool
 |[]=>false
 |y::r=>Nat.beq x y||memB x r
def E9:List Nat->Bool
 |[]=>true
 |x::r=>!memB x r&&E9 r
def cells:(τ:Ty)->τ.den->List C
 |.bool,b=>[.bool b]
 |.int k,n=>[.int k n]
 |.str,s=>[.str s]
 |.err,b=>[.err b]
 |.unit,_=>[]
 |.prod a b,x=>cells a x.1++cells b x.2
 |.slice e,l=>[.list e l]
def DS(bl:Nat->Option Blk)(b ver:Nat)(e:Ty):Option (List e.den):=
 match bl b with
 |some (.row _ e' ver' l)=>bif Nat.beq ver ver' then(if h:e'=e then some (h▸l)else none)else none
 |_=>none
def YZ(bl:Nat->Option Blk)(b ver:Nat)(e:Ty):Option (List (List e.den)):=
 match bl b with
 |some (.mat _ _ e' ver' _ none l)=>bif Nat.beq ver ver' then(if h:e'=e then some (h▸l)else none)else none
 |_=>none
def NN(bl:Nat->Option Blk)(b ver:Nat):(e:Ty)->Option (List e.den)
 |.slice e=>YZ bl b ver e
 |_=>none
def Ej:(o:OT)->o.ty.den->Nat->Path->Option Cg
 |.d _,_,_,_=>none
 |.p a b,x,k,p=>bif Nat.blt k a.ty.size then Ej a x.1 k p else Ej b x.2 (k-a.ty.size) p
 |.r t e,l,0,[]=>some ⟨(t,e),l⟩
 |.r _ e,l,0,(i,k)::p=>Ej e ((l:List e.ty.den).getD i e.ty.dflt) k p
 |.r _ _,_,_+1,_=>none
def setD:(o:OT)->o.ty.den->Nat->Path->(e':OT)->List e'.ty.den->o.ty.den
 |.d _,x,_,_,_,_=>x
 |.p a b,x,k,p,e',y=>bif Nat.blt k a.ty.size then(setD a x.1 k p e' y,x.2)else(x.1,setD b x.2 (k-a.ty.size) p e' y)
 |.r _ e,l,0,[],e',y=>if h:e'=e then(h▸y:List e.ty.den)else l
 |.r _ e,l,0,(i,k)::p,e',y=>(List.set l i (setD e ((l:List e.ty.den).getD i e.ty.dflt) k p e' y):List e.ty.den)
 |.r _ _,l,_+1,_,_,_=>l
def IP(b ver:Nat)(p:Path)(i:Nat):Nat->(o:OT)->o.ty.den->List C
 |_,.d τ,x=>cells τ x
 |k,.p a c,x=>IP b ver p i k a x.1++IP b ver p i (k+a.ty.size) c x.2
 |k,.r _ _,_=>[.trow b ver (p++[(i,k)])]
def IQ(bl:Nat->Option Blk)(b ver:Nat)(p:Path):Option ((te:TypeId×OT)×(List te.2.ty.den×(Nat×(Nat×Cg)))):=
 match bl b with
 |some (.tree t e ver' iver none l)=>
  bif Nat.beq ver (tv ver' iver p)then
   match Ej (.r t e) l 0 p with
   |some n=>some ⟨(t,e),l,ver',iver,n⟩
   |none=>none
  else none
 |_=>none
def Kz(bl:Nat->Option Blk)(b ver:Nat)(e:Ty):Option (List e.den):=
 match bl b with
 |some (.tree _ o ver' _ none l)=>bif Nat.beq ver ver' then(if h:o.ty=e then some (h▸l)else none)else none
 |_=>none
def pack(bl:Nat->Option Blk):(τ:Ty)->List C->Option (τ.den×List C)
 |.bool,.bool b::r=>some (b,r)
 |.int k,.int k' n::r=>if k=k' then some (n,r)else none
 |.str,.str s::r=>some (s,r)
 |.err,.err b::r=>some (b,r)
 |.unit,r=>some ((),r)
 |.prod a b,r=>
  match pack bl a r with
  |none=>none
  |some (x,r1)=>
   match pack bl b r1 with
   |none=>none
   |some (y,r2)=>some ((x,y),r2)
 |.slice e,.nils::r=>some (([]:List e.den),r)
 |.slice e,.list e' l::r=>if h:e'=e then some ((h▸l:List e.den),r)else none
 |.slice e,.row b ver::r=>
  match DS bl b ver e with
  |none=>none
  |some l=>some (l,r)
 |.slice e,.sub b ver i j::r=>
  match DS bl b ver e with
  |none=>none
  |some l=>some ((l.take j).drop i,r)
 |.slice e,.mat b ver::r=>
  match NN bl b ver e with
  |none=>none
  |some l=>some (l,r)
 |.slice e,.trow b ver []::r=>
  match Kz bl b ver e with
  |none=>none
  |some l=>some (l,r)
 |_,_=>none
def Fc(bl:Nat->Option Blk)(τ:Ty)(cs:List C):Option τ.den:=
 match pack bl τ cs with
 |some (x,[])=>some x
 |_=>none
def Bg:List C->List Nat
 |[]=>[]
 |.row b _::r=>b::Bg r
 |.sub b _ _ _::r=>b::Bg r
 |.mat b _::r=>b::Bg r
 |.trow b _ _::r=>b::Bg r
 |_::r=>Bg r
def V.cells:V->Option (List C)
 |.c x=>some [x]
 |.agg cs=>some cs
 |_=>none
def V.mk(agg:Bool)(cs:List C):V:=
 bif agg then .agg cs else
  match cs with
  |[x]=>.c x
  |_=>.junk
def C.ofValue:Value->Option C
 |.bool b=>some (.bool b)
 |.int k n=>some (.int k n)
 |.string s=>some (.str s.data.toList)
 |.slice none 0 0=>some .nils
 |.pointer none=>some .nilp
 |.nilFunc=>some .nilfn
 |.nilIface=>some (.err true)
 |_=>none
def C.ofValues:List Value->Option (List C)
 |[]=>some []
 |v::r=>
  match C.ofValue v,C.ofValues r with
  |some x,some xs=>some (x::xs)
  |_,_=>none
def V.ofValue:Value->V
 |.agg cs=>
  match C.ofValues cs.toList with
  |some l=>.agg l
  |none=>.junk
 |v=>
  match C.ofValue v with
  |some x=>.c x
  |none=>.junk
def over:List C->Nat->List C->Option (List C)
 |cs,0,new=>bif Nat.ble new.length cs.length then some (new++cs.drop new.length)else none
 |[],_+1,_=>none
 |c::cs,o+1,new=>
  match over cs o new with
  |some r=>some (c::r)
  |none=>none
def sub(cs:List C)(o n:Nat):Option (List C):=
 bif Nat.ble (o+n) cs.length then some ((cs.drop o).take n)else none
def ival:V->Option (IntKind×Int)
 |.c (.int k n)=>some (k,n)
 |_=>none
section
variable{β:Type}
abbrev K(β:Type):=V->List Nat->List (Nat×Blk)->Option β
def By(c:Bool)(x:Option β):Option β:=cond c x none
def EA(op:BinOp)(k:IntKind)(a b:Int):Int:=
 match op with
 |.and=>k.wrap ((BitVec.ofInt k.bits a&&&BitVec.ofInt k.bits b).toNat:Int)
 |.or=>k.wrap ((BitVec.ofInt k.bits a|||BitVec.ofInt k.bits b).toNat:Int)
 |.xor=>k.wrap ((BitVec.ofInt k.bits a ^^^ BitVec.ofInt k.bits b).toNat:Int)
 |_=>k.wrap ((BitVec.ofInt k.bits a&&&~~~BitVec.ofInt k.bits b).toNat:Int)
def NO(op:BinOp)(k:IntKind)(a b:Int):Int:=
 match op with
 |.shl=>k.wrap (a*2^(min b.toNat k.bits))
 |_=>a.fdiv (2^(min b.toNat k.bits))
def Sp:BinOp->Bool
 |.shl|.shr=>true
 |_=>false
def Za(op:BinOp)(k:IntKind)(a b:Int)(kk:K β):Option β:=
 match op with
 |.add=>kk (.c (.int k (k.wrap (a+b)))) [] []
 |.sub=>kk (.c (.int k (k.wrap (a-b)))) [] []
 |.mul=>kk (.c (.int k (k.wrap (a*b)))) [] []
 |.quo=>By (!decide (b=0)) (kk (.c (.int k (k.wrap (a.tdiv b)))) [] [])
 |.rem=>By (!decide (b=0)) (kk (.c (.int k (a.tmod b))) [] [])
 |.eql=>kk (.c (.bool (decide (a=b)))) [] []
 |.neq=>kk (.c (.bool (!decide (a=b)))) [] []
 |.lss=>kk (.c (.bool (decide (a<b)))) [] []
 |.leq=>kk (.c (.bool (decide (a<=b)))) [] []
 |.gtr=>kk (.c (.bool (decide (b<a)))) [] []
 |.geq=>kk (.c (.bool (decide (b<=a)))) [] []
 |.and=>kk (.c (.int k (EA .and k a b))) [] []
 |.or=>kk (.c (.int k (EA .or k a b))) [] []
 |.xor=>kk (.c (.int k (EA .xor k a b))) [] []
 |.andNot=>kk (.c (.int k (EA .andNot k a b))) [] []
 |_=>none
def Zb(op:BinOp)(a b:List UInt8)(kk:K β):Option β:=
 match op with
 |.add=>By (decide (a.length+b.length<=9223372036854775807)) (kk (.c (.str (a++b))) [] [])
 |.eql=>kk (.c (.bool (decide (a=b)))) [] []
 |.neq=>kk (.c (.bool (!decide (a=b)))) [] []
 |.lss=>kk (.c (.bool (Op.bytesLess a b))) [] []
 |.leq=>kk (.c (.bool (Op.bytesLess a b||decide (a=b)))) [] []
 |.gtr=>kk (.c (.bool (!(Op.bytesLess a b||decide (a=b))))) [] []
 |.geq=>kk (.c (.bool (!Op.bytesLess a b))) [] []
 |_=>none
def Bb:List BK->List C->List C->Option Bool
 |[],[],[]=>some true
 |.b::k,.bool a::r,.bool b::s=>
  match Bb k r s with
  |some q=>some ((a==b)&&q)
  |none=>none
 |.i::k,.int ka a::r,.int kb b::s=>
  if ka=kb then
   match Bb k r s with
   |some q=>some (decide (a=b)&&q)
   |none=>none
  else none
 |.s::k,.str a::r,.str b::s=>
  match Bb k r s with
  |some q=>some (decide (a=b)&&q)
  |none=>none
 |_,_,_=>none
def NP(T:TypeId->Option TI)(op:BinOp)(t:TypeId)(b:Bool)(kk:K β):Option β:=
 match T t with
 |some ti=>
  match ti.elem,ti.len,op with
  |some _,none,.eql=>kk (.c (.bool b)) [] []
  |some _,none,.neq=>kk (.c (.bool (!b))) [] []
  |_,_,_=>none
 |none=>none
def Sq(T:TypeId->Option TI)(op:BinOp)(t:TypeId)(x y:V)(kk:K β):Option β:=
 match x,y with
 |.c (.int k a),.c (.int k' b)=>
  bif Sp op then By (decide (0<=b)) (kk (.c (.int k (NO op k a b))) [] [])else
  if k=k' then Za op k a b kk else none
 |.c (.str a),.c (.str b)=>Zb op a b kk
 |.c (.bool a),.c (.bool b)=>
  match T t with
  |some ti=>
   bif ti.isBool then
    match op with
    |.eql=>kk (.c (.bool (a==b))) [] []
    |.neq=>kk (.c (.bool (!(a==b)))) [] []
    |_=>none
   else none
  |none=>none
 |.agg a,.agg b=>
  match T t with
  |some ti=>
   match ti.eqs with
   |some ks=>
    match op,Bb ks a b with
    |.eql,some r=>kk (.c (.bool r)) [] []
    |.neq,some r=>kk (.c (.bool (!r))) [] []
    |_,_=>none
   |none=>none
  |none=>none
 |.c .nilc,.c .nils=>NP T op t true kk
 |.c (.lsome _ _),.c .nils=>NP T op t false kk
 |_,_=>none
def Sr(T:TypeId->Option TI)(op:BinOp)(t:TypeId)(b:Bool)(kk:K β):Option β:=
 match T t with
 |some ti=>
  match ti.ty,ti.agg,op with
  |some .err,false,.eql=>kk (.c (.bool b)) [] []
  |some .err,false,.neq=>kk (.c (.bool (!b))) [] []
  |_,_,_=>none
 |none=>none
def NQ(T:TypeId->Option TI)(op:BinOp)(t:TypeId)(b:Bool)(kk:K β):Option β:=
 match T t with
 |some ti=>
  match ti.ptr,op with
  |true,.eql=>kk (.c (.bool b)) [] []
  |true,.neq=>kk (.c (.bool (!b))) [] []
  |_,_=>none
 |none=>none
def Ss(T:TypeId->Option TI)(op:BinOp)(t:TypeId)(x y:V)(yo:Operand)(kk:K β):Option β:=
 match x,yo with
 |.c (.err b),.const .nilIface=>Sr T op t b kk
 |.c .nilp,.const (.pointer none)=>NQ T op t true kk
 |.c (.tptr _ _ _ _ _),.const (.pointer none)=>NQ T op t false kk
 |_,_=>Sq T op t x y kk
def GZ(cells:List C):List (Nat×List C)->Option (List C)
 |[]=>some cells
 |(o,new)::r=>
  match over cells o new with
  |some cs=>GZ cs r
  |none=>none
def Dn(ti:TI)(T:TypeId->Option TI):List (Nat×V)->Option (List (Nat×List C))
 |[]=>some []
 |(i,v)::r=>
  match v.cells,Dn ti T r with
  |some cs,some rest=>
   match ti.len,ti.elem with
   |some _,some e=>
    match T e with
    |some te=>bif Nat.beq cs.length te.size then some ((i*te.size,cs)::rest)else none
    |none=>none
   |_,_=>
    match ti.flds[i]? with
    |some (o,n,_)=>bif Nat.beq cs.length n then some ((o,cs)::rest)else none
    |none=>none
  |_,_=>none
def repC(n:Nat)(cs:List C):List C:=
 match n with
 |0=>[]
 |n+1=>cs++repC n cs
def EB(bl:Nat->Option Blk)(e:Ty):Nat->List C->Option (List e.den)
 |0,[]=>some []
 |0,_::_=>none
 |n+1,cs=>
  match pack bl e cs with
  |some (x,r)=>
   match EB bl e n r with
   |some l=>some (x::l)
   |none=>none
  |none=>none
def K0(T:TypeId->Option TI)(bl:Nat->Option Blk)(t:TypeId)(p:V)(kk:K β):Option β:=
 match T t with
 |none=>none
 |some ti=>
  bif ti.agg||Nat.beq ti.size 1 then
  match p with
  |.c (.ptr b o)=>
   match bl b with
   |some (.cells _ cs)=>
    match sub cs o ti.size with
    |some r=>kk (V.mk ti.agg r) [b] []
    |none=>none
   |_=>none
  |.eptr b ver i o=>
   match bl b with
   |some (.row _ e ver' l)=>
    bif Nat.beq ver ver' then
     match sub (cells e (l.getD i e.dflt)) o ti.size with
     |some r=>kk (V.mk ti.agg r) [b] []
     |none=>none
    else none
   |_=>none
  |.lptr e x o=>
   match sub (cells e x) o ti.size with
   |some r=>kk (V.mk ti.agg r) [] []
   |none=>none
  |.mcell b ver i=>
   match bl b with
   |some (.mat _ _ _ ver' iver none _)=>bif Nat.beq ver ver'&&!ti.agg then kk (.c (.mrow b iver i)) [b] []else none
   |_=>none
  |.mptr b iver i j o=>
   match bl b with
   |some (.mat _ _ e _ iver' _ l)=>
    bif Nat.beq iver iver' then
     match sub (cells e ((l.getD i []).getD j e.dflt)) o ti.size with
     |some r=>kk (V.mk ti.agg r) [b] []
     |none=>none
    else none
   |_=>none
  |.c (.tptr b ver p i o)=>
   match IQ bl b ver p with
   |some a=>
    match sub (IP b (a.2.2.1+a.2.2.2.1) p i 0 a.2.2.2.2.1.2 (a.2.2.2.2.2.getD i a.2.2.2.2.1.2.ty.dflt)) o ti.size with
    |some r=>kk (V.mk ti.agg r) [b] []
    |none=>none
   |none=>none
  |_=>none
  else none
def F6:(o:OT)->o.ty.den->Nat->List C->Option o.ty.den
 |.d τ,x,k,new=>
  match over (cells τ x) k new with
  |some r=>Fc (λ_=>none) τ r
  |none=>none
 |.p a b,x,k,new=>
  bif Nat.ble (k+new.length) a.ty.size then
   match F6 a x.1 k new with
   |some y=>some (y,x.2)
   |none=>none
  else bif Nat.ble a.ty.size k then
   match F6 b x.2 (k-a.ty.size) new with
   |some y=>some (x.1,y)
   |none=>none
  else none
 |.r _ _,_,_,_=>none
def K3(bl:Nat->Option Blk):V->Option (Nat×Cg)
 |.c (.row r rv)=>
  match bl r with
  |some (.row t e ver l)=>bif Nat.beq rv ver then some (r,⟨(t,.d e),l⟩)else none
  |_=>none
 |.c (.trow r rv [])=>
  match bl r with
  |some (.tree t e ver _ none l)=>bif Nat.beq rv ver then some (r,⟨(t,e),l⟩)else none
  |_=>none
 |_=>none
def NR:Path->Path->Bool
 |[],[]=>true
 |(i,k)::p,(j,m)::q=>decide (i=j)&&(Nat.beq k m&&NR p q)
 |_,_=>false
def HJ(T:TypeId->Option TI)(bl:Nat->Option Blk)(t:TypeId)(p v:V)(kk:K β):Option β:=
 match T t,v.cells with
 |some ti,some new=>
  bif Nat.beq new.length ti.size then
   match p with
   |.c (.ptr b o)=>
    match bl b with
    |some (.cells t0 cs)=>
     match over cs o new with
     |some r=>kk .junk [b] [(b,.cells t0 r)]
     |none=>none
    |_=>none
   |.eptr b ver i o=>
    match bl b with
    |some (.row t0 e ver' l)=>
     bif Nat.beq ver ver' then
      match over (cells e (l.getD i e.dflt)) o new with
      |some r=>
       match Fc (λ_=>none) e r with
       |some x=>kk .junk [b] [(b,.row t0 e ver' (l.set i x))]
       |none=>none
      |none=>none
     else none
    |_=>none
   |.mptr b iver i j o=>
    match bl b with
    |some (.mat t0 et0 e ver iver' hole l)=>
     bif Nat.beq iver iver' then
      match over (cells e ((l.getD i []).getD j e.dflt)) o new with
      |some r=>
       match Fc (λ_=>none) e r with
       |some x=>kk .junk [b] [(b,.mat t0 et0 e ver iver' hole (l.set i ((l.getD i []).set j x)))]
       |none=>none
      |none=>none
     else none
    |_=>none
   |.mcell b ver i=>
    match v with
    |.c (.row r rv)=>
     match bl b,bl r with
     |some (.mat t0 et0 e ver' iver hole l),some (.row et1 e1 rv' x)=>
      bif Nat.beq ver ver'&&(Nat.beq rv rv'&&Nat.beq et0 et1)then
       if h:e1=e then
        By (match hole with|none=>true|some i'=>decide (i=i')) (kk .junk [b,r] [(r,.dead),(b,.mat t0 et0 e ver' (iver+1) none (l.set i (h▸x)))])
       else none
      else none
     |_,_=>none
    |_=>none
   |.c (.tptr b ver p i o)=>
    match bl b with
    |some (.tree t0 e ver' iver none l)=>
     bif Nat.beq ver (tv ver' iver p)then
      match Ej (.r t0 e) l 0 p with
      |some n=>
       match F6 n.1.2 (n.2.getD i n.1.2.ty.dflt) o new with
       |some x=>kk .junk [b] [(b,.tree t0 e ver' iver none (setD (.r t0 e) l 0 p n.1.2 (n.2.set i x)))]
       |none=>none
      |none=>none
     else none
    |some (.tree t0 e ver' iver (some P) l)=>
     bif Nat.beq ver (tv ver' iver p)then
      match Ej (.r t0 e) l 0 P,K3 bl v with
      |some n,some (r,m)=>
       if m.1=n.1 then By (NR P (p++[(i,o)])) (kk .junk [b,r] [(r,.dead),(b,.tree t0 e ver' (iver+1) none (setD (.r t0 e) l 0 P m.1.2 m.2))])else none
      |_,_=>none
     else none
    |_=>none
   |_=>none
  else none
 |_,_=>none
def Zc(bl:Nat->Option Blk)(b:Nat):Bool:=
 match bl b with
 |some (.tree _ _ _ _ (some _) _)=>true
 |_=>false
def Su(T:TypeId->Option TI)(t:TypeId)(p:V)(f:Nat)(kk:K β):Option β:=
 match T t with
 |none=>none
 |some ti=>
  match ti.flds[f]? with
  |none=>none
  |some (off,n,_)=>
   bif Nat.beq n 0 then none else
   match p with
   |.c (.ptr b o)=>kk (.c (.ptr b (o+off))) [] []
   |.eptr b ver i o=>kk (.eptr b ver i (o+off)) [] []
   |.lptr e x o=>kk (.lptr e x (o+off)) [] []
   |.mptr b iver i j o=>kk (.mptr b iver i j (o+off)) [] []
   |.c (.tptr b ver p i o)=>kk (.c (.tptr b ver p i (o+off))) [] []
   |_=>none
def IR(i:Int)(kk:Nat->Option β):Nat->Nat->Option β
 |_,0=>none
 |j,m+1=>cond (decide (i=(j:Int))) (kk j) (IR i kk (j+1) m)
def Zd(bl:Nat->Option Blk)(n:Nat)(b ver:Nat)(p:Path)(i:Int)(kk:K β):Option β:=
 match p,bl b with
 |[],some (.tree _ e ver' _ (some (_::_)) l)=>
  bif Nat.beq ver ver'&&(Nat.beq e.ty.size n&&Nat.blt 0 n)then By (decide (0<=i)&&decide (i<(l.length:Int))) (kk (.c (.tptr b ver [] i.toNat 0)) [b] [])else none
 |_,_=>none
def Sv(T:TypeId->Option TI)(bl:Nat->Option Blk)(t:TypeId)(x ix:V)(kk:K β):Option β:=
 match ival ix with
 |none=>none
 |some (_,i)=>
  match T t with
  |none=>none
  |some ti=>
   match ti.elem,ti.len with
   |some et,none=>
    match T et with
    |none=>none
    |some te=>
     match x with
     |.c (.list e l)=>
      bif Nat.beq e.size te.size&&Nat.blt 0 te.size then By (decide (0<=i)&&decide (i<(l.length:Int))) (kk (.lptr e (l.getD i.toNat e.dflt) 0) [] [])else none
     |.c (.row b ver)=>
      match bl b with
      |some (.row _ e ver' l)=>
       bif Nat.beq ver ver'&&(Nat.beq e.size te.size&&Nat.blt 0 te.size)then By (decide (0<=i)&&decide (i<(l.length:Int))) (kk (.eptr b ver i.toNat 0) [b] [])else none
      |_=>none
     |.c (.sub b ver lo hi)=>
      match bl b with
      |some (.row _ e ver' _)=>
       bif Nat.beq ver ver'&&(Nat.beq e.size te.size&&Nat.blt 0 te.size)then By (decide (0<=i)&&decide (i<((hi-lo:Nat):Int))) (kk (.eptr b ver (lo+i.toNat) 0) [b] [])else none
      |_=>none
     |.c (.mat b ver)=>
      match bl b with
      |some (.mat _ _ _ ver' _ _ l)=>
       bif Nat.beq ver ver'&&Nat.beq 1 te.size then By (decide (0<=i)&&decide (i<(l.length:Int))) (kk (.mcell b ver i.toNat) [b] [])else none
      |_=>none
     |.c (.mrow b iver r)=>
      match bl b with
      |some (.mat _ _ e _ iver' _ l)=>
       bif Nat.beq iver iver'&&(Nat.beq e.size te.size&&Nat.blt 0 te.size)then By (decide (0<=i)&&decide (i<((l.getD r []).length:Int))) (kk (.mptr b iver r i.toNat 0) [b] [])else none
      |_=>none
     |.c (.trow b ver p)=>
      match IQ bl b ver p with
      |some a=>bif Nat.beq a.2.2.2.2.1.2.ty.size te.size&&Nat.blt 0 te.size then By (decide (0<=i)&&decide (i<(a.2.2.2.2.2.length:Int))) (kk (.c (.tptr b ver p i.toNat 0)) [b] [])else none
      |none=>Zd bl te.size b ver p i kk
     |_=>none
   |some et,some n=>
    match x with
    |.c (.ptr b o)=>
     match T et with
     |some te=>IR i (λj=>kk (.c (.ptr b (o+j*te.size))) [] []) 0 n
     |none=>none
    |.eptr b ver q o=>
     match T et with
     |some te=>IR i (λj=>kk (.eptr b ver q (o+j*te.size)) [] []) 0 n
     |none=>none
    |_=>none
   |_,_=>none
def DT(v:Option V)(d:Int):Option Int:=
 match v with
 |none=>some d
 |some v=>
  match ival v with
  |some (_,n)=>some n
  |none=>none
def K4(T:TypeId->Option TI)(bl:Nat->Option Blk)(t:TypeId)(x:V)(lo hi:Option V)(kk:K β):Option β:=
 match T t with
 |none=>none
 |some ti=>
  match x with
  |.c (.str s)=>
   bif ti.isStr then
    match DT lo 0,DT hi (s.length:Int)with
    |some a,some b=>By (decide (0<=a)&&(decide (a<=b)&&decide (b<=(s.length:Int)))) (kk (.c (.str ((s.take b.toNat).drop a.toNat))) [] [])
    |_,_=>none
   else none
  |.c (.list e l)=>
   match ti.elem,ti.len with
   |some et,none=>
    match T et with
    |none=>none
    |some te=>
     bif Nat.beq e.size te.size&&Nat.blt 0 te.size then
      match DT lo 0,DT hi (l.length:Int)with
      |some a,some b=>By (decide (0<=a)&&(decide (a<=b)&&decide (b<=(l.length:Int)))) (kk (.c (.list e ((l.take b.toNat).drop a.toNat))) [] [])
      |_,_=>none
     else none
   |_,_=>none
  |.c (.row bb ver)=>
   match ti.elem,ti.len with
   |some et,none=>
    match T et with
    |none=>none
    |some te=>
     match bl bb with
     |some (.row _ e ver' l)=>
      bif Nat.beq ver ver'&&(Nat.beq e.size te.size&&Nat.blt 0 te.size)then
       match DT lo 0,DT hi (l.length:Int)with
       |some a,some b=>By (decide (0<=a)&&(decide (a<=b)&&decide (b<=(l.length:Int)))) (kk (.c (.sub bb ver a.toNat b.toNat)) [bb] [])
       |_,_=>none
      else none
     |_=>none
   |_,_=>none
  |.c (.sub bb ver i j)=>
   match ti.elem,ti.len with
   |some et,none=>
    match T et with
    |none=>none
    |some te=>
     match bl bb with
     |some (.row _ e ver' _)=>
      bif Nat.beq ver ver'&&(Nat.beq e.size te.size&&Nat.blt 0 te.size)then
       match DT lo 0,DT hi ((j-i:Nat):Int)with
       |some a,some b=>By (decide (0<=a)&&(decide (a<=b)&&decide (b<=((j-i:Nat):Int)))) (kk (.c (.sub bb ver (i+a.toNat) (i+b.toNat))) [bb] [])
       |_,_=>none
      else none
     |_=>none
   |_,_=>none
  |.c (.ptr b o)=>
   match ti.elem,ti.len,lo,hi with
   |some et,some n,none,none=>
    match T et with
    |none=>none
    |some te=>
     match te.ty with
     |some e=>bif Nat.beq e.size te.size&&Nat.blt 0 n then kk (.arr b o e n) [] []else none
     |none=>none
   |_,_,_,_=>none
  |.c .nils=>
   match ti.elem,ti.len with
   |some et,none=>
    match T et with
    |none=>none
    |some _=>
     match DT lo 0,DT hi 0 with
     |some a,some b=>By (decide (0<=a)&&(decide (a<=b)&&decide (b<=(0:Int)))) (kk (.c .nils) [] [])
     |_,_=>none
   |_,_=>none
  |_=>none
def Sw(T:TypeId->Option TI)(bl:Nat->Option Blk)(t:TypeId)(x:V)(hi:Option V)(kk:K β):Option β:=
 match T t with
 |none=>none
 |some ti=>
  match ti.elem,ti.len with
  |some et,none=>
   match T et with
   |none=>none
   |some te=>
    match x with
    |.c (.row b ver)=>
     match bl b with
     |some (.row t0 e ver' l)=>
      bif Nat.beq ver ver'&&(Nat.beq e.size te.size&&Nat.blt 0 te.size)then
       match DT hi (l.length:Int)with
       |some m=>By (decide (0<=m)&&decide (m<=(l.length:Int))) (kk (.c (.row b (ver+1))) [b] [(b,.row t0 e (ver+1) (l.take m.toNat))])
       |none=>none
      else none
     |_=>none
    |_=>none
  |_,_=>none
def NS:V->Bool
 |.c (.row _ _)=>true
 |_=>false
def D0(ti:TI):Bool:=
 match ti.elem,ti.len with
 |some _,none=>true
 |_,_=>false
def Sx(T:TypeId->Option TI)(bl:Nat->Option Blk)(t:TypeId)(x:V)(kk:K β):Option β:=
 match T t with
 |none=>none
 |some ti=>
  match x with
  |.c (.str s)=>bif ti.isStr then kk (.c (.int .i64 (s.length:Int))) [] []else none
  |.c (.list _ l)=>bif D0 ti then kk (.c (.int .i64 (l.length:Int))) [] []else none
  |.c .nils=>bif D0 ti then kk (.c (.int .i64 0)) [] []else none
  |.c (.row b ver)=>
   match bl b with
   |some (.row _ _ ver' l)=>bif Nat.beq ver ver'&&D0 ti then kk (.c (.int .i64 (l.length:Int))) [b] []else none
   |_=>none
  |.c (.sub b ver i j)=>
   match bl b with
   |some (.row _ _ ver' _)=>bif Nat.beq ver ver'&&D0 ti then kk (.c (.int .i64 ((j-i:Nat):Int))) [b] []else none
   |_=>none
  |.c (.mat b ver)=>
   match bl b with
   |some (.mat _ _ _ ver' _ _ l)=>bif Nat.beq ver ver'&&D0 ti then kk (.c (.int .i64 (l.length:Int))) [b] []else none
   |_=>none
  |.c (.mrow b iver r)=>
   match bl b with
   |some (.mat _ _ _ _ iver' _ l)=>bif Nat.beq iver iver'&&D0 ti then kk (.c (.int .i64 ((l.getD r []).length:Int))) [b] []else none
   |_=>none
  |.c (.trow b ver p)=>
   match IQ bl b ver p with
   |some a=>bif D0 ti then kk (.c (.int .i64 (a.2.2.2.2.2.length:Int))) [b] []else none
   |none=>none
  |.c (.mapv b)=>
   match bl b,ti.mp with
   |some (.map _ _ _ _ l),some _=>kk (.c (.int .i64 (l.length:Int))) [b] []
   |_,_=>none
  |_=>none
def C2(tk:TI):Ty->Bool
 |.bool=>tk.isBool
 |.int k=>decide (tk.kind=some k)
 |.str=>tk.isStr
 |.prod (.int _) (.int _)=>
  match tk.eqs,tk.len with
  |some [.i,.i],some 2=>true
  |_,_=>false
 |_=>false
def Ek:(k:Ty)->k.den->k.den->Bool
 |.bool,a,b=>a==b
 |.int _,a,b=>decide (a=b)
 |.str,a,b=>decide (a=b)
 |.prod (.int _) (.int _),a,b=>decide (a.1=b.1)&&decide (a.2=b.2)
 |_,_,_=>false
def El:(k:Ty)->V->Option k.den
 |.bool,.c (.bool b)=>some b
 |.int k,.c (.int k' n)=>if k=k' then some n else none
 |.str,.c (.str s)=>some s
 |.prod (.int k) (.int k2),.agg [.int j n,.int j2 n2]=>if k=j/\k2=j2 then some (n,n2)else none
 |_,_=>none
def mGet(k:Ty){δ:Type}:List (k.den×δ)->k.den->δ->δ
 |[],_,d=>d
 |y::r,x,d=>bif Ek k y.1 x then y.2 else mGet k r x d
def mHas(k:Ty){δ:Type}:List (k.den×δ)->k.den->Bool
 |[],_=>false
 |y::r,x=>bif Ek k y.1 x then true else mHas k r x
def mPut(k:Ty){δ:Type}:List (k.den×δ)->k.den->δ->List (k.den×δ)
 |[],x,v=>[(x,v)]
 |y::r,x,v=>bif Ek k y.1 x then(x,v)::r else y::mPut k r x v
def Sy(T:TypeId->Option TI)(ti:TI)(cs:List C)(i:Int)(kk:K β):Option β:=
 match ti.elem,ti.len with
 |some et,some n=>
  match T et with
  |some te=>
   match te.ty with
   |some e=>
    match EB (λ_=>none) e n cs with
    |some l=>bif Nat.beq e.size te.size&&(te.agg||Nat.beq te.size 1)then By (decide (0<=i)&&decide (i<(l.length:Int))) (kk (V.mk te.agg (cells e (l.getD i.toNat e.dflt))) [] [])else none
    |none=>none
   |none=>none
  |none=>none
 |_,_=>none
def Sz(T:TypeId->Option TI)(bl:Nat->Option Blk)(nx:Nat)(t:TypeId)(kk:K β):Option β:=
 match T t with
 |none=>none
 |some ti=>
  match ti.mp with
  |none=>none
  |some (kt,vt)=>
   match T kt,T vt with
   |some tk,some tv=>
    match tk.ty,tv.ty,bl nx with
    |some .str,none,none=>kk (.c (.mapv nx)) [nx] [(nx,.fmap t [])]
    |some k,some v,none=>bif C2 tk k then kk (.c (.mapv nx)) [nx] [(nx,.map t k v tv.agg [])]else none
    |_,_,_=>none
   |_,_=>none
def fHas:List (List UInt8×(FuncId×Nat))->List UInt8->Bool
 |[],_=>false
 |x::r,s=>decide (x.1=s)||fHas r s
def HK(kk:FuncId×Nat->Option β):List (List UInt8×(FuncId×Nat))->List UInt8->Option β
 |[],_=>none
 |x::r,s=>cond (decide (x.1=s)) (kk x.2) (HK kk r s)
def fKey(T:TypeId->Option TI)(t:TypeId):Bool:=
 match T t with
 |some ti=>
  match ti.mp with
  |some (kt,_)=>
   match T kt with
   |some tk=>C2 tk .str
   |none=>false
  |none=>false
 |none=>false
def S0(T:TypeId->Option TI)(bl:Nat->Option Blk)(t:TypeId)(x ix:V)(commaOk:Bool)(kk:K β):Option β:=
 bif fKey T t then
 match x,ix,commaOk with
 |.c (.mapv b),.c (.str s),false=>
  match bl b with
  |some (.fmap _ l)=>HK (λy=>kk (.c (.bfn y.1 y.2)) [b] []) l s
  |_=>none
 |_,_,_=>none
 else none
def S1(T:TypeId->Option TI)(bl:Nat->Option Blk)(t:TypeId)(x ix y:V)(kk:K β):Option β:=
 bif fKey T t then
 match x,ix,y with
 |.c (.mapv b),.c (.str s),.c (.bfn f rb)=>
  match bl b with
  |some (.fmap t l)=>By (!fHas l s) (kk .junk [b] [(b,.fmap t (l++[(s,(f,rb))]))])
  |_=>none
 |_,_,_=>none
 else none
def Ze(bl:Nat->Option Blk):V->Bool
 |.c (.mapv b)=>
  match bl b with
  |some (.fmap _ _)=>true
  |_=>false
 |_=>false
def S2(T:TypeId->Option TI)(bl:Nat->Option Blk)(t:TypeId)(x ix:V)(commaOk:Bool)(kk:K β):Option β:=
 match T t with
 |none=>none
 |some ti=>
  match ti.mp with
  |none=>none
  |some (kt,vt)=>
   match T kt,T vt with
   |some tk,some tv=>
    match x with
    |.c (.mapv b)=>
     match bl b with
     |some (.map _ k v vg l)=>
      bif C2 tk k&&(vg||Nat.beq v.size 1)&&(vg==tv.agg)then
       match El k ix,Fc (λ_=>none) v tv.zero with
       |some key,some z=>
        kk (bif commaOk then .tup [(vg,cells v (mGet k l key z)),(false,[.bool (mHas k l key)])]else V.mk vg (cells v (mGet k l key z))) [b] []
       |_,_=>none
      else none
     |_=>none
    |_=>none
   |_,_=>none
def K5:V->Option Bool
 |.c _=>some false
 |.agg _=>some true
 |_=>none
def S3(T:TypeId->Option TI)(bl:Nat->Option Blk)(t:TypeId)(x ix y:V)(kk:K β):Option β:=
 match T t with
 |none=>none
 |some ti=>
  match ti.mp with
  |none=>none
  |some (kt,_)=>
   match T kt with
   |none=>none
   |some tk=>
    match x,y.cells with
    |.c (.mapv b),some cs=>
     match bl b with
     |some (.map t' k v vg l)=>
      bif C2 tk k&&decide (K5 y=some vg)then
       match El k ix,Fc (λ_=>none) v cs with
       |some key,some z=>kk .junk [b] [(b,.map t' k v vg (mPut k l key z))]
       |_,_=>none
      else none
     |_=>none
    |_,_=>none
def AG:Nat:=140737488355328
def IS(bl:Nat->Option Blk)(e:Ty):V->Option (List e.den×List Nat)
 |.c .nils=>some ([],[])
 |.c (.list e' l)=>if h:e'=e then some (h▸l,[])else none
 |.c (.lsome e' l)=>if h:e'=e then some (h▸l,[])else none
 |.c (.row b ver)=>(DS bl b ver e).map λl=>(l,[b])
 |.c (.sub b ver i j)=>(DS bl b ver e).map λl=>((l.take j).drop i,[b])
 |_=>none
def S4(T:TypeId->Option TI)(bl:Nat->Option Blk)(t:TypeId)(x y:V)(kk:K β):Option β:=
 match T t with
 |none=>none
 |some ti=>
  match ti.elem,ti.len with
  |some et,none=>
   match T et with
   |none=>none
   |some te=>
    match te.ty with
    |none=>none
    |some e=>
     bif Nat.beq e.size te.size&&Nat.blt 0 te.size then
     match IS bl e y with
     |none=>none
     |some (new,rd)=>
      match x with
      |.c (.sub b ver i j)=>
       match bl b with
       |some (.row t0 e0 ver' l)=>
        bif Nat.beq ver ver' then
         if h:e0=e then
          kk (.c (.int .i64 ((Nat.min new.length (j-i):Nat):Int))) (b::rd) [(b,.row t0 e ver' ((h▸l:List e.den).take i++(new.take (j-i)++(h▸l:List e.den).drop (i+Nat.min new.length (j-i)))))]
         else none
        else none
       |_=>none
      |.c (.row b ver)=>
       match bl b with
       |some (.row t0 e0 ver' l)=>
        bif Nat.beq ver ver' then
         if h:e0=e then
          kk (.c (.int .i64 ((Nat.min new.length l.length:Nat):Int))) (b::rd) [(b,.row t0 e ver' (new.take l.length++(h▸l:List e.den).drop (Nat.min new.length l.length)))]
         else none
        else none
       |_=>none
      |_=>none
     else none
  |_,_=>none
def S5(T:TypeId->Option TI)(bl:Nat->Option Blk)(t:TypeId)(x:V)(kk:K β):Option β:=
 match T t with
 |none=>none
 |some ti=>
  match ti.elem,ti.len with
  |some et,none=>
   match T et with
   |none=>none
   |some te=>
    match te.ty with
    |none=>none
    |some e=>
     bif Nat.beq e.size te.size&&Nat.blt 0 te.size then
     match Fc (λ_=>none) e te.zero with
     |none=>none
     |some z=>
      match x with
      |.c (.sub b ver i j)=>
       match bl b with
       |some (.row t0 e0 ver' l)=>
        bif Nat.beq ver ver' then
         if h:e0=e then kk (.tup []) [b] [(b,.row t0 e ver' ((h▸l:List e.den).take i++(List.replicate (j-i) z++(h▸l:List e.den).drop j)))]
         else none
        else none
       |_=>none
      |_=>none
     else none
  |_,_=>none
def S6(T:TypeId->Option TI)(t:TypeId)(x:V)(kk:K β):Option β:=
 match T t with
 |none=>none
 |some ti=>
  match ti.elem,ti.len,x with
  |some _,none,.c .nils=>kk (.c (.int .i64 0)) [] []
  |_,_,_=>none
def S7(T:TypeId->Option TI)(bl:Nat->Option Blk)(nx:Nat)(t:TypeId)(x y:V)(kk:K β):Option β:=
 match T t with
 |none=>none
 |some ti=>
  match ti.elem,ti.len with
  |some et,none=>
   match T et with
   |none=>none
   |some te=>
    match te.ty with
    |none=>none
    |some e=>
     bif Nat.beq e.size te.size&&(Nat.blt 0 te.size&&Nat.blt 0 te.bytes)then
     match IS bl e y with
     |none=>none
     |some (new,rd)=>
      match x with
      |.c .nils=>
       match bl nx with
       |none=>By (decide (new.length*te.bytes<=AG)) (kk (.c (.row nx 0)) (nx::rd) [(nx,.row et e 0 new)])
       |some _=>none
      |.c (.row b ver)=>
       match bl b with
       |some (.row t0 e0 ver' l)=>
        bif Nat.beq ver ver'&&Nat.beq t0 et then
         if h:e0=e then By (decide (((l.length+new.length)*te.bytes)<=AG)) (kk (.c (.row b (ver+1))) (b::rd) [(b,.row t0 e (ver+1) ((h▸l)++new))])
         else none
        else none
       |_=>none
      |.c (.mrow b iver i)=>
       match bl b,bl nx with
       |some (.mat t0 et0 e0 ver iver' none l),none=>
        bif Nat.beq iver iver'&&Nat.beq et0 et then
         if h:e0=e then By (decide ((((l.getD i []).length+new.length)*te.bytes)<=AG)) (kk (.c (.row nx 0)) (nx::b::rd) [(b,.mat t0 et0 e0 ver (iver'+1) (some i) l),(nx,.row et e 0 ((h▸l.getD i [])++new))])
         else none
        else none
       |_,_=>none
      |_=>none
     else none
  |_,_=>none
def srcT(bl:Nat->Option Blk)(t:TypeId)(e:OT)(y:V):Option (List e.ty.den×(List Nat×List Nat)):=
 match e with
 |.d τ=>
  match IS bl τ y with
  |some z=>some (z.1,z.2,[])
  |none=>none
 |e=>
  match K3 bl y with
  |some (r,m)=>if h:m.1=(t,e)then some ((show m.1.2=e from Aj (·.2) h)▸m.2,[r],[r])else none
  |none=>none
def dead:List Nat->List (Nat×Blk)
 |[]=>[]
 |i::r=>(i,.dead)::dead r
def NT:V->Bool
 |.c (.trow _ _ _)=>true
 |_=>false
def S8(X:List (TypeId×OT))(T:TypeId->Option TI)(bl:Nat->Option Blk)(nx:Nat)(t:TypeId)(x y:V)(kk:K β):Option β:=
 match T t with
 |none=>none
 |some ti=>
  match ti.elem,ti.len with
  |some et,none=>
   match T et with
   |none=>none
   |some te=>
    match x with
    |.c .nils=>
     match look X et with
     |none=>none
     |some e=>
      bif Nat.beq e.ty.size te.size&&(Nat.blt 0 te.size&&Nat.blt 0 te.bytes)then
       match srcT bl et e y,bl nx with
       |some (new,rd,dd),none=>By (decide (new.length*te.bytes<=AG)) (kk (.c (.trow nx 0 [])) (nx::rd) (dead dd++[(nx,.tree et e 0 0 none new)]))
       |_,_=>none
      else none
    |.c (.trow b ver [])=>
     match bl b with
     |some (.tree t0 e ver' iver none l)=>
      bif Nat.beq ver ver'&&(Nat.beq t0 et&&(Nat.beq e.ty.size te.size&&(Nat.blt 0 te.size&&Nat.blt 0 te.bytes)))then
       match srcT bl t0 e y with
       |some (new,rd,dd)=>By (!memB b rd&&decide (((l.length+new.length)*te.bytes)<=AG)) (kk (.c (.trow b (ver'+1) [])) (b::rd) (dead dd++[(b,.tree t0 e (ver'+1) iver none (l++new))]))
       |none=>none
      else none
     |_=>none
    |.c (.trow b ver (i::q))=>
     match IQ bl b ver (i::q)with
     |none=>none
     |some a=>
      bif Nat.beq a.2.2.2.2.1.1 et&&(Nat.beq a.2.2.2.2.1.2.ty.size te.size&&(Nat.blt 0 te.size&&Nat.blt 0 te.bytes))then
       match srcT bl a.2.2.2.2.1.1 a.2.2.2.2.1.2 y,bl nx with
       |some (new,rd,dd),none=>
        By (!memB b rd&&decide (((a.2.2.2.2.2.length+new.length)*te.bytes)<=AG)) (kk (.c (.trow nx 0 [])) (nx::b::rd) (dead dd++[(b,.tree a.1.1 a.1.2 a.2.2.1 a.2.2.2.1 (some (i::q)) a.2.1),(nx,.tree a.2.2.2.2.1.1 a.2.2.2.2.1.2 0 0 none (a.2.2.2.2.2++new))]))
       |_,_=>none
      else none
    |_=>none
  |_,_=>none
def Zf(X:List (TypeId×OT))(T:TypeId->Option TI)(t:TypeId):Bool:=
 match T t with
 |some ti=>
  match ti.elem,ti.len with
  |some et,none=>
   match look X et with
   |some _=>true
   |none=>false
  |_,_=>false
 |none=>false
def Gf(bl:Nat->Option Blk):(o:OT)->List C->Option (o.ty.den×(List C×List Nat))
 |.d τ,cs=>
  match pack (λ_=>none) τ cs with
  |some (x,r)=>some (x,r,[])
  |none=>none
 |.p a b,cs=>
  match Gf bl a cs with
  |none=>none
  |some (x,r1,i1)=>
   match Gf bl b r1 with
   |none=>none
   |some (y,r2,i2)=>some ((x,y),r2,i1++i2)
 |.r t e,c::r=>
  match c with
  |.nils=>some (([]:List e.ty.den),r,[])
  |c=>
   match K3 bl (.c c)with
   |some (b,m)=>if h:m.1=(t,e)then some ((show m.1.2=e from Aj (·.2) h)▸m.2,r,[b])else none
   |none=>none
 |.r _ _,[]=>none
def Zg(X:List (TypeId×OT))(T:TypeId->Option TI)(bl:Nat->Option Blk)(t:TypeId):List (Nat×V)->Bool
 |[(_,v)]=>
  match T t,v.cells with
  |some ti,some cs=>
   match ti.elem with
   |some et=>
    match look X et with
    |some e=>(Gf bl e cs).isSome
    |none=>false
   |none=>false
  |_,_=>false
 |_=>false
def S9(X:List (TypeId×OT))(T:TypeId->Option TI)(bl:Nat->Option Blk)(nx:Nat)(t:TypeId)(n:Nat)(parts:List (Nat×V))(kk:K β):Option β:=
 match parts with
 |[(0,v)]=>
  match T t,v.cells with
  |some ti,some cs=>
   match ti.elem,ti.len with
   |some et,none=>
    match T et,look X et,bl nx with
    |some te,some e,none=>
     match Gf bl e cs with
     |some (x,[],ids)=>bif Nat.beq n 1&&(Nat.beq cs.length te.size&&(Nat.beq e.ty.size te.size&&(Nat.blt 0 te.size&&(Nat.ble te.size 16777216&&E9 ids))))then kk (.c (.trow nx 0 [])) (nx::ids) (dead ids++[(nx,.tree et e 0 0 none [x])])else none
     |_=>none
    |_,_,_=>none
   |_,_=>none
  |_,_=>none
 |_=>none
def SA(T:TypeId->Option TI)(bl:Nat->Option Blk)(nx:Nat)(t u:TypeId)(x y:V)(kk:K β):Option β:=
 match T t,T u,ival y with
 |some ti,some tu,some (_,m)=>
  match x with
  |.c .nils=>
   match ti.elem,ti.len,tu.kind with
   |some et,none,some _=>
    match T et with
    |none=>none
    |some te=>
     match te.ty with
     |none=>none
     |some e=>
      match Fc (λ_=>none) e te.zero,bl nx with
      |some z,none=>
       bif Nat.beq e.size te.size&&(Nat.blt 0 te.size&&Nat.blt 0 te.bytes)then
        By (decide (0<=m)&&decide (m.toNat*te.bytes<=AG)) (kk (.c (.row nx 0)) [nx] [(nx,.row et e 0 (List.replicate m.toNat z))])
       else none
      |_,_=>none
   |_,_,_=>none
  |_=>none
 |_,_,_=>none
def IT(T:TypeId->Option TI)(t:TypeId):Bool:=
 match T t with
 |none=>false
 |some ti=>
  match ti.elem,ti.len with
  |some et,none=>
   match T et with
   |none=>false
   |some te=>
    match te.ty with
    |some (.slice _)=>true
    |_=>false
  |_,_=>false
def SB(T:TypeId->Option TI)(bl:Nat->Option Blk)(nx:Nat)(t:TypeId)(x y:V)(kk:K β):Option β:=
 match T t with
 |none=>none
 |some ti=>
  match ti.elem,ti.len with
  |some et,none=>
   match T et with
   |none=>none
   |some te=>
    bif Nat.beq 1 te.size&&Nat.blt 0 te.bytes then
    match y with
    |.c (.mat b2 ver2)=>
     match bl b2 with
     |some (.mat t2 et2 e ver2' _ none new)=>
      bif Nat.beq ver2 ver2'&&Nat.beq t2 et then
       match x with
       |.c .nils=>
        match bl nx with
        |none=>By (decide (new.length*te.bytes<=AG)) (kk (.c (.mat nx 0)) [nx,b2] [(b2,.dead),(nx,.mat et et2 e 0 0 none new)])
        |some _=>none
       |.c (.mat b ver)=>
        match bl b with
        |some (.mat t0 et0 e0 ver' iver none l)=>
         bif Nat.beq ver ver'&&(Nat.beq t0 et&&(Nat.beq et0 et2&&!Nat.beq b b2))then
          if h:e0=e then By (decide (((l.length+new.length)*te.bytes)<=AG)) (kk (.c (.mat b (ver+1))) [b,b2] [(b2,.dead),(b,.mat et et2 e (ver+1) (iver+1) none ((h▸l)++new))])
          else none
         else none
        |_=>none
       |_=>none
      else none
     |_=>none
    |_=>none
    else none
  |_,_=>none
def SC(T:TypeId->Option TI)(bl:Nat->Option Blk)(nx:Nat)(t:TypeId)(n:Nat)(parts:List (Nat×V))(kk:K β):Option β:=
 match parts with
 |[(0,.c (.row r rv))]=>
  match T t with
  |none=>none
  |some ti=>
   match ti.elem,ti.len with
   |some et,none=>
    match T et with
    |none=>none
    |some te=>
     match te.elem,te.len,bl r,bl nx with
     |some eet,none,some (.row et1 e rv' x),none=>
      bif Nat.beq n 1&&(Nat.beq te.size 1&&(Nat.beq rv rv'&&Nat.beq et1 eet))then kk (.c (.mat nx 0)) [r,nx] [(r,.dead),(nx,.mat et eet e 0 0 none [x])]else none
     |_,_,_,_=>none
   |_,_=>none
 |_=>none
def SD(T:TypeId->Option TI)(bl:Nat->Option Blk)(nx:Nat)(t:TypeId)(n c:V)(kk:K β):Option β:=
 match T t,ival n,ival c with
 |some ti,some (_,i),some (_,j)=>
  match ti.elem,ti.len with
  |some et,none=>
   match T et with
   |none=>none
   |some te=>
    match te.ty,te.elem,te.len,bl nx,te.zero with
    |some (.slice e),some eet,none,none,[.nils]=>
     bif Nat.beq te.size 1 then
      By (decide (0<=i)&&(decide (i=j)&&(decide (i.toNat*te.bytes<=AG)&&decide (i<=9223372036854775807)))) (kk (.c (.mat nx 0)) [nx] [(nx,.mat et eet e 0 0 none (List.replicate i.toNat []))])
     else none
    |_,_,_,_,_=>none
  |_,_=>none
 |_,_,_=>none
def K6(isMax:Bool)(k:IntKind):Int->List V->Option V
 |a,[]=>some (.c (.int k a))
 |a,.c (.int k' b)::r=>if k=k' then K6 isMax k (bif isMax then(if b>a then b else a)else(if b<a then b else a)) r else none
 |_,_::_=>none
def NU(isMax:Bool):List V->Option V
 |.c (.int k a)::r=>K6 isMax k a r
 |_=>none
def EC:List CT->List C->List (Nat×Nat)
 |.data τ::l,cs=>EC l (cs.drop τ.size)
 |.ptr b _::l,.ptr b' _::cs=>(b,b')::EC l cs
 |.rowh b::l,.row b' _::cs=>(b,b')::EC l cs
 |.fn _ caps::l,.fn _ caps'::cs=>caps.zip caps'++EC l cs
 |.maph b::l,.mapv b'::cs=>(b,b')::EC l cs
 |.bfnh _ b::l,.bfn _ b'::cs=>(b,b')::EC l cs
 |.math b::l,.mat b' _::cs=>(b,b')::EC l cs
 |.trowh b::l,.trow b' _ _::cs=>(b,b')::EC l cs
 |.tptrh b _ _::l,.tptr b' _ _ _ _::cs=>(b,b')::EC l cs
 |_::l,_::cs=>EC l cs
 |_,_=>[]
def K7:List (Bool×List CT)->List V->List (Nat×Nat)
 |t::ts,v::vs=>
  match v.cells with
  |some cs=>EC t.2 cs++K7 ts vs
  |none=>K7 ts vs
 |_,_=>[]
def K8(ps:List (Nat×Nat)):Nat->Nat->Option (List Nat)
 |_,0=>some []
 |j,n+1=>
  match look ps j,K8 ps (j+1) n with
  |some b,some r=>some (b::r)
  |_,_=>none
def wayP:(ks:List Nat)->WayT ks->Path
 |[],_=>[]
 |k::r,x=>(x.1,k)::wayP r x.2
def wayI:(ks:List Nat)->WayT ks->Nat
 |[],x=>x
 |_::r,x=>wayI r x.2
def HL(i:Nat):(ks:List Nat)->Path->Option (WayT ks)
 |[],[]=>some i
 |k::r,(j,m)::p=>
  bif Nat.beq k m then
   match HL i r p with
   |some x=>some (j,x)
   |none=>none
  else none
 |_,_=>none
def AI(bl:Nat->Option Blk)(ids:List Nat):(l:List CT)->List C->Option (CT.dens l)
 |[],[]=>some ()
 |.data τ::l,cs=>
  match pack bl τ cs with
  |none=>none
  |some (x,r)=>
   match AI bl ids l r with
   |none=>none
   |some y=>some (x,y)
 |.ptr b o::l,.ptr b' o'::cs=>
  match ids[b]? with
  |some i=>bif Nat.beq i b'&&Nat.beq o o' then AI bl ids l cs else none
  |none=>none
 |.rowh b::l,.row b' ver::cs=>
  match ids[b]? with
  |some i=>
   bif Nat.beq i b' then
    match bl b' with
    |some (.row _ _ ver' _)=>bif Nat.beq ver ver' then AI bl ids l cs else none
    |_=>none
   else none
  |none=>none
 |.rowh b::l,.nils::cs=>
  match ids[b]? with
  |some i=>
   match bl i with
   |none=>AI bl ids l cs
   |some _=>none
  |none=>none
 |.fn f caps::l,.fn f' caps'::cs=>bif Nat.beq f f'&&decide (caps.map (ids[·]?)=caps'.map some)then AI bl ids l cs else none
 |.maph b::l,.mapv b'::cs=>
  match ids[b]? with
  |some i=>bif Nat.beq i b' then AI bl ids l cs else none
  |none=>none
 |.math b::l,.mat b' ver::cs=>
  match ids[b]? with
  |some i=>
   bif Nat.beq i b' then
    match bl b' with
    |some (.mat _ _ _ ver' _ none _)=>bif Nat.beq ver ver' then AI bl ids l cs else none
    |_=>none
   else none
  |none=>none
 |.math b::l,.nils::cs=>
  match ids[b]? with
  |some i=>
   match bl i with
   |none=>AI bl ids l cs
   |some _=>none
  |none=>none
 |.trowh b::l,.trow b' ver []::cs=>
  match ids[b]? with
  |some i=>
   bif Nat.beq i b' then
    match bl b' with
    |some (.tree _ _ ver' _ none _)=>bif Nat.beq ver ver' then AI bl ids l cs else none
    |_=>none
   else none
  |none=>none
 |.tptrh b ks o::l,.tptr b' ver p i o'::cs=>
  match ids[b]? with
  |some j=>
   bif Nat.beq j b'&&Nat.beq o o' then
    match bl b' with
    |some (.tree _ _ ver' iver' none _)=>
     bif Nat.beq ver (tv ver' iver' p)then
      match HL i ks p with
      |some x=>
       match AI bl ids l cs with
       |some y=>some (x,y)
       |none=>none
      |none=>none
     else none
    |_=>none
   else none
  |none=>none
 |.trowh b::l,.nils::cs=>
  match ids[b]? with
  |some i=>
   match bl i with
   |none=>AI bl ids l cs
   |some _=>none
  |none=>none
 |.bself b::l,.bself b'::cs=>
  match ids[b]? with
  |some i=>bif Nat.beq i b' then AI bl ids l cs else none
  |none=>none
 |.bself _::l,.nilp::cs=>AI bl ids l cs
 |.bfnh f b::l,.bfn f' b'::cs=>
  match ids[b]? with
  |some i=>bif Nat.beq f f'&&Nat.beq i b' then AI bl ids l cs else none
  |none=>none
 |.junk::l,_::cs=>AI bl ids l cs
 |.nils::l,.nils::cs=>AI bl ids l cs
 |_,_=>none
def Do(bl:Nat->Option Blk)(ids:List Nat):(l:List (Bool×List CT))->List V->Option (ST.dens l)
 |[],[]=>some ()
 |t::l,v::vs=>
  match v,t.1 with
  |.c x,false=>
   match AI bl ids t.2 [x]with
   |none=>none
   |some y=>
    match Do bl ids l vs with
    |none=>none
    |some z=>some (y,z)
  |.agg cs,true=>
   match AI bl ids t.2 cs with
   |none=>none
   |some y=>
    match Do bl ids l vs with
    |none=>none
    |some z=>some (y,z)
  |_,_=>none
 |_,_=>none
def CR(bl:Nat->Option Blk)(ids:List Nat):(l:List BT)->List Nat->Option (BT.dens l)
 |[],[]=>some ()
 |.cells t l::r,i::is=>
  match bl i with
  |some (.cells t' cs)=>
   bif Nat.beq t t' then
    match AI bl ids l cs with
    |none=>none
    |some y=>
     match CR bl ids r is with
     |none=>none
     |some z=>some (y,z)
   else none
  |_=>none
 |_,_=>none
def mkC(ids:List Nat):(l:List CT)->CT.dens l->List C
 |[],_=>[]
 |.data τ::l,x=>cells τ x.1++mkC ids l x.2
 |.ptr b o::l,x=>.ptr (ids.getD b 0) o::mkC ids l x
 |.rowh b::l,x=>.row (ids.getD b 0) 0::mkC ids l x
 |.fn f caps::l,x=>.fn f (caps.map λb=>ids.getD b 0)::mkC ids l x
 |.maph b::l,x=>.mapv (ids.getD b 0)::mkC ids l x
 |.math b::l,x=>.mat (ids.getD b 0) 0::mkC ids l x
 |.bself b::l,x=>.bself (ids.getD b 0)::mkC ids l x
 |.bfnh f b::l,x=>.bfn f (ids.getD b 0)::mkC ids l x
 |.trowh b::l,x=>.trow (ids.getD b 0) 0 []::mkC ids l x
 |.tptrh b ks o::l,x=>.tptr (ids.getD b 0) 0 (wayP ks x.1) (wayI ks x.1) o::mkC ids l x.2
 |.nilc::l,x=>.nilc::mkC ids l x
 |.nils::l,x=>.nils::mkC ids l x
 |.lsome e::l,x=>.lsome e x.1::mkC ids l x.2
 |.junk::l,x=>.junk::mkC ids l x
def mkS(ids:List Nat):(l:List (Bool×List CT))->ST.dens l->List (Bool×List C)
 |[],_=>[]
 |t::l,x=>(t.1,mkC ids t.2 x.1)::mkS ids l x.2
def fIds(ids:List Nat):List (List UInt8×(FuncId×Nat))->List (List UInt8×(FuncId×Nat))
 |[]=>[]
 |x::r=>(x.1,(x.2.1,ids.getD x.2.2 0))::fIds ids r
def mkB(ids:List Nat):(l:List BT)->BT.dens l->List Blk
 |[],_=>[]
 |.cells t l::r,x=>.cells t (mkC ids l x.1)::mkB ids r x.2
 |.row t e::r,x=>.row t e 0 x.1::mkB ids r x.2
 |.map t k v vg::r,x=>.map t k v vg x.1::mkB ids r x.2
 |.mat t et e::r,x=>.mat t et e 0 0 none x.1::mkB ids r x.2
 |.tree t e::r,x=>.tree t e 0 0 none x.1::mkB ids r x.2
 |.fmap t l::r,x=>.fmap t (fIds ids l)::mkB ids r x
def resV:List (Bool×List C)->V
 |[t]=>V.mk t.1 t.2
 |ts=>.tup ts
def CT.flat:List CT->Bool
 |[]=>true
 |.data τ::r=>τ.flat&&CT.flat r
 |.lsome _::_=>false
 |_::r=>CT.flat r
def ST.flat:List (Bool×List CT)->Bool
 |[]=>true
 |t::r=>CT.flat t.2&&ST.flat r
def BT.flat:List BT->Bool
 |[]=>true
 |.cells _ l::r=>CT.flat l&&BT.flat r
 |.row _ e::r=>e.flat&&BT.flat r
 |.map _ k v _::r=>k.flat&&(v.flat&&BT.flat r)
 |.mat _ _ e::r=>e.flat&&BT.flat r
 |.tree _ e::r=>e.flat&&BT.flat r
 |.fmap _ _::r=>BT.flat r
def Bl:List V->List Nat
 |[]=>[]
 |v::vs=>
  match v.cells with
  |some cs=>Bg cs++Bl vs
  |none=>Bl vs
def Ax:Nat->Nat->List Nat
 |_,0=>[]
 |i,n+1=>i::Ax (i+1) n
def IU(bl:Nat->Option Blk):List Nat->Bool
 |[]=>true
 |i::r=>
  match bl i with
  |none=>IU bl r
  |some _=>false
def ED(bl:Nat->Option Blk):List Nat->List Nat
 |[]=>[]
 |i::r=>
  match bl i with
  |some (.cells _ cs)=>Bg cs++ED bl r
  |_=>ED bl r
def CT.bnd(m:Nat):List CT->Bool
 |[]=>true
 |.ptr b _::r|.rowh b::r|.maph b::r|.math b::r|.bself b::r|.bfnh _ b::r|.trowh b::r|.tptrh b _ _::r=>Nat.blt b m&&CT.bnd m r
 |.fn _ caps::r=>caps.all (λb=>Nat.blt b m)&&CT.bnd m r
 |.data _::r|.nilc::r|.nils::r|.lsome _::r|.junk::r=>CT.bnd m r
def ST.bnd(m:Nat):List (Bool×List CT)->Bool
 |[]=>true
 |t::r=>CT.bnd m t.2&&ST.bnd m r
def BT.bnd(m:Nat):List BT->Bool
 |[]=>true
 |.cells _ l::r=>CT.bnd m l&&BT.bnd m r
 |.row _ _::r=>BT.bnd m r
 |.map _ _ _ _::r=>BT.bnd m r
 |.mat _ _ _::r=>BT.bnd m r
 |.tree _ _::r=>BT.bnd m r
 |.fmap _ l::r=>l.all (λe=>Nat.blt e.2.2 m)&&BT.bnd m r
def IV(S:Spec)(bl:Nat->Option Blk)(rds:List Nat):List (Nat×Blk):=
 bif ST.flat S.res&&BT.flat S.outs then []else
  rds.filterMap λb=>
   match bl b with
   |some (.row _ _ _ _)=>some (b,.dead)
   |some (.tree _ _ _ _ _ _)=>some (b,.dead)
   |_=>none
def SE(S:Spec)(bl:Nat->Option Blk)(ids new:List Nat):Bool:=
 E9 ids&&((IU bl new&&(Nat.ble S.ins.length S.outs.length&&(ST.bnd S.outs.length S.res&&BT.bnd S.outs.length S.outs))))
def SF(F:RowF)(args:List V):Option (Nat×Nat):=
 match args,F.fn with
 |[.c (.row b ver)],none=>some (b,ver)
 |[.c (.row b ver),.c (.fn g [])],some g'=>bif Nat.beq g g' then some (b,ver)else none
 |_,_=>none
def SG(F:RowF)(bl:Nat->Option Blk)(args:List V)(kk:K β):Option β:=
 match SF F args with
 |some (b,ver)=>
  match bl b with
  |some (.row t e ver' l)=>
   bif Nat.beq ver ver'&&Nat.beq t F.t then
    if h:e=F.e then
     By (F.dom (h▸l))
      (bif F.cut then kk (.c (.row b (ver+1))) [b] [(b,.row t F.e (ver+1) (F.run (h▸l)))]else kk (.tup []) [b] [(b,.row t F.e ver (F.run (h▸l)))])
    else none
   else none
  |_=>none
 |none=>none
def D1(l:List Int):List UInt8:=l.map λn=>UInt8.ofNat n.toNat
def Bt(s:List UInt8):List Int:=s.map λb=>(b.toNat:Int)
def F7(l:List Int):Bool:=l.all λn=>decide (0<=n)&&decide (n<=255)
def K9:C->Nat->Bool
 |.nilp,_=>true
 |.bself b,i=>Nat.beq b i
 |_,_=>false
def KA(F:BldF)(bl:Nat->Option Blk)(i:Nat):Option (Option (Nat×Nat)×List Int):=
 match bl i with
 |some (.cells t [p,q])=>
  bif Nat.beq t F.t&&K9 p i then
   match q with
   |.nils=>some (none,[])
   |.row j ver=>
    match bl j with
    |some (.row te (.int .u8) ver' l)=>bif Nat.beq te F.te&&Nat.beq ver ver' then some (some (j,ver),l)else none
    |_=>none
   |_=>none
  else none
 |_=>none
def Zh(bl:Nat->Option Blk)(i:Nat):Bool:=
 match bl i with
 |none=>true
 |some _=>false
def wrote(s:List UInt8):V:=.tup [(false,[.int .i64 (s.length:Int)]),(false,[.err true])]
def SH(F:BldF)(bl:Nat->Option Blk)(nx:Nat)(args:List V)(kk:K β):Option β:=
 match F.op,args with
 |0,[.c (.ptr i 0),.c (.str s)]=>
  match KA F bl i with
  |some (none,_)=>
   By (Zh bl nx) (By (decide (s.length<=140737488355328)) (kk (wrote s) [i,nx] [(nx,.row F.te (.int .u8) 0 (Bt s)),(i,.cells F.t [.bself i,.row nx 0])]))
  |some (some (j,ver),l)=>
   By (decide (l.length+s.length<=140737488355328)) (kk (wrote s) [i,j] [(j,.row F.te (.int .u8) (ver+1) (l++Bt s)),(i,.cells F.t [.bself i,.row j (ver+1)])])
  |none=>none
 |1,[.c (.ptr i 0)]=>
  match KA F bl i with
  |some (none,_)=>kk (.c (.str [])) [i] []
  |some (some (j,_),l)=>By (F7 l) (kk (.c (.str (D1 l))) [i,j] [(j,.dead)])
  |none=>none
 |2,[.c (.ptr i 0)]=>
  match KA F bl i with
  |some (none,_)=>kk (.c (.int .i64 0)) [i] []
  |some (some (j,_),l)=>kk (.c (.int .i64 (l.length:Int))) [i,j] []
  |none=>none
 |3,[.c .nils,.c (.str _)]=>kk (.c (.str [])) [] []
 |3,[.c (.row j ver),.c (.str sep)]=>
  match bl j with
  |some (.row t .str ver' l)=>
   bif Nat.beq t F.t&&Nat.beq ver ver' then
    By (decide (l.length<=140737488355328)&&decide ((Lib.join l sep).length<=140737488355328)) (kk (.c (.str (Lib.join l sep))) [j] [])
   else none
  |_=>none
 |_,_=>none
def F8(bl:Nat->Option Blk):Nat->Option Blk:=λi=>
 match bl i with
 |some (.mat _ _ _ _ _ _ _)=>none
 |B=>B
def IW(bl:Nat->Option Blk):V->V
 |.arr b o e n=>
  match bl b with
  |some (.cells _ cs)=>
   match sub cs o (n*e.size)with
   |some ds=>
    match EB (λ_=>none) e n ds with
    |some l=>bif Nat.ble n 4096&&Nat.blt 0 e.size then .c (.list e l)else .junk
    |none=>.junk
   |none=>.junk
  |_=>.junk
 |v=>v
def Gg:List V->List Nat
 |[]=>[]
 |.arr b _ _ _::r=>b::Gg r
 |_::r=>Gg r
def KC(S:Spec)(ids:List Nat):List Nat->Bool
 |[]=>true
 |b::r=>(ST.flat S.res&&BT.flat S.outs)&&(!memB b ids&&KC S ids r)
def Ha:List CT->List C->List C
 |.junk::l,_::cs=>.junk::Ha l cs
 |.data τ::l,cs=>cs.take τ.size++Ha l (cs.drop τ.size)
 |_::l,c::cs=>c::Ha l cs
 |_,cs=>cs
def uG:List CT->V->V
 |l,.agg cs=>.agg (Ha l cs)
 |_,v=>v
def KD:List (Bool×List CT)->List V->List V
 |t::ts,v::vs=>uG t.2 v::KD ts vs
 |_,vs=>vs
def IX(S:Spec)(bl:Nat->Option Blk)(args:List V):List V:=KD S.params (args.map (IW bl))
def KE(X:Ctx)(bl:Nat->Option Blk)(nx:Nat)(f:FuncId)(args:List V)(kk:K β):Option β:=
 match X.Γ f with
 |none=>none
 |some (.rows F)=>SG F bl args kk
 |some (.bld F)=>SH F bl nx args kk
 |some (.abs A)=>A.run bl nx args kk
 |some (.spec S)=>
  match K8 (K7 S.params (IX S bl args)) 0 S.ins.length with
  |none=>none
  |some ids=>
   match Do (F8 bl) ids S.params (IX S bl args),CR (F8 bl) ids S.ins ids with
   |some x,some y=>
    bif SE S bl ids (Ax nx (S.outs.length-S.ins.length))&&KC S ids (Gg args)then
     S.run (x,y) λz=>
      kk (resV (mkS (ids++Ax nx (S.outs.length-S.ins.length)) S.res z.1)) (ids++((Bl (IX S bl args)++ED bl ids)++(Ax nx (S.outs.length-S.ins.length)++Gg args)))
       (IV S bl (Bl (IX S bl args)++ED bl ids)++(ids++Ax nx (S.outs.length-S.ins.length)).zip (mkB (ids++Ax nx (S.outs.length-S.ins.length)) S.outs z.2))
    else none
   |_,_=>none
def frzC(bl:Nat->Option Blk):C->C
 |.row b ver=>
  match bl b with
  |some (.row _ e ver' l)=>bif Nat.beq ver ver' then .list e l else .row b ver
  |_=>.row b ver
 |.sub b ver i j=>
  match bl b with
  |some (.row _ e ver' l)=>bif Nat.beq ver ver' then .list e ((l.take j).drop i)else .sub b ver i j
  |_=>.sub b ver i j
 |.trow b ver []=>
  match bl b with
  |some (.tree _ e ver' _ none l)=>bif Nat.beq ver ver' then .list e.ty l else .trow b ver []
  |_=>.trow b ver []
 |c=>c
def frzV(bl:Nat->Option Blk):V->V
 |.c x=>.c (frzC bl x)
 |.agg cs=>.agg (cs.map (frzC bl))
 |v=>v
def B9(bl:Nat->Option Blk):List Nat->List (Nat×Blk)
 |[]=>[]
 |b::r=>
  match bl b with
  |some (.row _ _ _ _)=>(b,.dead)::B9 bl r
  |some (.tree _ _ _ _ _ _)=>(b,.dead)::B9 bl r
  |_=>B9 bl r
def IY(bl:Nat->Option Blk):List (Nat×Blk)->Nat->Option Blk
 |[],i=>bl i
 |(j,x)::r,i=>IY (λk=>bif Nat.beq k j then some x else bl k) r i
def EE(bl:Nat->Option Blk)(rds:List Nat)(run:(Nat->Option Blk)->K β->Option β)(kk:K β):Option β:=
 run (IY bl (B9 bl rds)) λv rd wr=>kk v (rds++rd) (B9 bl rds++wr)
def SI(T:TypeId->Option TI)(bl:Nat->Option Blk)(si ti:TI)(y:V)(kk:K β):Option β:=
 match si.elem,si.len with
 |some et,none=>
  match T et with
  |none=>none
  |some te=>
   match te.kind with
   |some .u8=>
    bif ti.isStr then
     match IS bl (.int .u8) y with
     |some (l,rd)=>kk (.c (.str (D1 l))) rd []
     |none=>none
    else none
   |_=>none
 |_,_=>none
def Zi(ρ:Operand->V):Callee->Option (FuncId×(List V×List V))
 |.value x=>
  match ρ x with
  |.c (.fn f caps)=>some (f,[],caps.map λb=>.c (.ptr b 0))
  |.c (.bfn f b)=>some (f,[.c (.ptr b 0)],[])
  |_=>none
 |_=>none
def IZ(bl:Nat->Option Blk)(nx:Nat)(t:TypeId)(cs:List C)(kk:K β):Option β:=
 match bl nx with
 |none=>kk (.c (.ptr nx 0)) [nx] [(nx,.cells t cs)]
 |some _=>none
def SJ(T:TypeId->Option TI)(bl:Nat->Option Blk)(nx:Nat)(t:TypeId)(n:Nat)(parts:List (Nat×V))(kk:K β):Option β:=
 match T t with
 |none=>none
 |some ti=>
  match ti.elem,ti.len with
  |some et,none=>
   match T et with
   |none=>none
   |some te=>
    match te.ty with
    |none=>none
    |some e=>
     bif Nat.beq e.size te.size&&(Nat.ble (n*te.size) 16777216&&Nat.blt 0 te.size)then
      match Dn {te with elem:=some et,len:=some n} T parts with
      |none=>none
      |some ps=>
       match GZ (repC n te.zero) ps with
       |none=>none
       |some cs=>
        match EB (λ_=>none) e n cs,bl nx with
        |some l,none=>kk (.c (.row nx 0)) [nx] [(nx,.row et e 0 l)]
        |_,_=>none
     else none
  |_,_=>none
def SK(T:TypeId->Option TI)(bl:Nat->Option Blk)(nx:Nat)(t:TypeId)(n c:V)(kk:K β):Option β:=
 match T t,ival n,ival c with
 |some ti,some (_,i),some (_,j)=>
  match ti.elem,ti.len with
  |some et,none=>
   match T et with
   |none=>none
   |some te=>
    match te.ty with
    |none=>none
    |some e=>
     match Fc (λ_=>none) e te.zero,bl nx with
     |some z,none=>
      bif Nat.beq e.size te.size&&Nat.blt 0 te.size then
       By (decide (0<=i)&&(decide (i=j)&&(decide (i.toNat*te.bytes<=AG)&&decide (i<=9223372036854775807)))) (kk (.c (.row nx 0)) [nx] [(nx,.row et e 0 (List.replicate i.toNat z))])
      else none
     |_,_=>none
  |_,_=>none
 |_,_,_=>none
def Ja:List V->Option (List Nat)
 |[]=>some []
 |.c (.ptr b 0)::r=>
  match Ja r with
  |some l=>some (b::l)
  |none=>none
 |_::_=>none
def Zj(bl:Nat->Option Blk):V->Bool
 |.c (.row b _)=>
  match bl b with
  |some (.row _ e _ _)=>e.flat
  |_=>true
 |_=>true
def Zk:V->Bool
 |.c (.sub _ _ _ _)=>true
 |_=>false
def Zl:V->Bool
 |.agg _=>true
 |_=>false
def F9(bl:Nat->Option Blk):Nat->List Nat->List C->List C
 |_,_,[]=>[]
 |i,ps,c::cs=>(bif memB i ps then frzC bl c else c)::F9 bl (i+1) ps cs
def Cx:Nat->List Nat->List C->List Nat
 |_,_,[]=>[]
 |i,ps,c::cs=>bif memB i ps then Bg [c]++Cx (i+1) ps cs else Cx (i+1) ps cs
def SM(T:TypeId->Option TI)(bl:Nat->Option Blk)(t:TypeId)(ps:List Nat)(p:V)(kk:K β):Option β:=
 match p with
 |.c (.ptr b o)=>
  match bl b with
  |some (.cells t0 cs)=>
   K0 T (IY (IY bl (B9 bl (Cx 0 ps cs))) [(b,.cells t0 (F9 bl 0 ps cs))]) t (.c (.ptr b o)) λv rd wr=>
    kk v (Cx 0 ps cs++(b::rd)) (B9 bl (Cx 0 ps cs)++((b,.cells t0 (F9 bl 0 ps cs))::wr))
  |_=>none
 |_=>K0 T bl t p kk
def NV{β:Type}(T:TypeId->Option TI)(t:TypeId)(parts:List (Nat×V))(kk:K β):Option β:=
 match T t with
 |some ti=>
  bif ti.agg then
   match Dn ti T parts with
   |some ps=>
    match GZ ti.zero ps with
    |some cs=>kk (.agg cs) [] []
    |none=>none
   |none=>none
  else none
 |none=>none
def NW(X:Ctx)(o:Oper)(ρ:Operand->V)(bl:Nat->Option Blk)(nx:Nat)(kk:K β):Option β:=
 match o.op with
 |.move x=>bif X.S&&Zk (ρ x)then EE bl (Bl [ρ x]) (λ_ kk'=>kk' (frzV bl (ρ x)) [] []) kk else kk (ρ x) [] []
 |.assign x=>bif X.D&&Zj bl (ρ x)then EE bl (Bl [ρ x]) (λ_ kk'=>kk' (frzV bl (ρ x)) [] []) kk else kk (ρ x) [] []
 |.pick c a b=>
  match ρ c with
  |.c (.bool g)=>cond g (kk (ρ a) [] []) (kk (ρ b) [] [])
  |_=>none
 |.alloc t=>
  match X.T t with
  |some ti=>IZ bl nx t ti.zero kk
  |none=>none
 |.box t x=>
  match(ρ x).cells with
  |some cs=>IZ bl nx t cs kk
  |none=>none
 |.build t parts=>bif X.D then EE bl (Bl (parts.toList.map λp=>ρ p.2)) (λ_ kk'=>NV X.T t (parts.toList.map λp=>(p.1,frzV bl (ρ p.2))) kk') kk else NV X.T t (parts.toList.map λp=>(p.1,ρ p.2)) kk
 |.buildSlice t n parts=>bif Zf X.O X.T t&&Zg X.O X.T bl t (parts.toList.map λp=>(p.1,ρ p.2))then S9 X.O X.T bl nx t n (parts.toList.map λp=>(p.1,ρ p.2)) kk else bif X.M&&IT X.T t then SC X.T bl nx t n (parts.toList.map λp=>(p.1,ρ p.2)) kk else EE bl (Bl (parts.toList.map λp=>ρ p.2)) (λbl' kk'=>SJ X.T bl' nx t n (parts.toList.map λp=>(p.1,frzV bl (ρ p.2))) kk') kk
 |.load t a=>
  match look X.L t with
  |some ps=>SM X.T bl t ps (ρ a) kk
  |none=>K0 X.T bl t (ρ a) kk
 |.store t a x=>
  match ρ a with
  |.eptr _ _ _ _=>EE bl (Bl [ρ a,ρ x]) (λbl' kk'=>HJ X.T bl' t (frzV bl (ρ a)) (frzV bl (ρ x)) kk') kk
  |.c (.tptr b _ _ _ _)=>bif Zc bl b then HJ X.T bl t (ρ a) (ρ x) kk else EE bl (Bl [ρ a,ρ x]) (λbl' kk'=>HJ X.T bl' t (frzV bl (ρ a)) (frzV bl (ρ x)) kk') kk
  |_=>bif X.D&&Zl (ρ x)then EE bl (Bl [ρ a,ρ x]) (λbl' kk'=>HJ X.T bl' t (frzV bl (ρ a)) (frzV bl (ρ x)) kk') kk else HJ X.T bl t (ρ a) (ρ x) kk
 |.nilCheck x=>
  match ρ x with
  |.c (.ptr b o)=>kk (.c (.ptr b o)) [] []
  |.eptr b ver i o=>kk (.eptr b ver i o) [] []
  |.lptr e x o=>kk (.lptr e x o) [] []
  |.mcell b ver i=>kk (.mcell b ver i) [] []
  |.mptr b iver i j o=>kk (.mptr b iver i j o) [] []
  |.c (.tptr b ver p i o)=>kk (.c (.tptr b ver p i o)) [] []
  |.c (.fn f caps)=>kk (.c (.fn f caps)) [] []
  |.c (.bfn f b)=>kk (.c (.bfn f b)) [] []
  |_=>none
 |.binOp op t x y _=>Ss X.T op t (ρ x) (ρ y) y kk
 |.unOp op _ x=>
  match op,ρ x with
  |.not,.c (.bool b)=>kk (.c (.bool (!b))) [] []
  |.neg,.c (.int k n)=>kk (.c (.int k (k.wrap (0-n)))) [] []
  |_,_=>none
 |.convert s t x=>
  match X.T s,X.T t,ρ x with
  |some _,some ti,.c (.int _ n)=>
   match ti.kind with
   |some k=>kk (.c (.int k (k.wrap n))) [] []
   |none=>none
  |some _,some ti,.c (.str s)=>bif ti.isStr then kk (.c (.str s)) [] []else none
  |some si,some ti,y=>SI X.T bl si ti y kk
  |_,_,_=>none
 |.makeFunc (.func f) first caps=>
  match first.toList with
  |[]=>
   match Ja (caps.toList.map ρ)with
   |some bs=>kk (.c (.fn f bs)) [] []
   |none=>none
  |[x]=>
   match ρ x,caps.toList with
   |.c (.ptr b 0),[]=>kk (.c (.bfn f b)) [] []
   |_,_=>none
  |_::_=>none
 |.makeSlice t n c=>bif X.M&&IT X.T t then SD X.T bl nx t (ρ n) (ρ c) kk else SK X.T bl nx t (ρ n) (ρ c) kk
 |.makeMap t none=>Sz X.T bl nx t kk
 |.lookup t x i commaOk=>bif Ze bl (ρ x)then S0 X.T bl t (ρ x) (ρ i) commaOk kk else S2 X.T bl t (ρ x) (ρ i) commaOk kk
 |.insert t m i v=>S1 X.T bl t (ρ m) (ρ i) (ρ v) kk
 |.mapUpdate t m i v=>EE bl (Bl [ρ m,ρ i,ρ v]) (λbl' kk'=>S3 X.T bl' t (frzV bl (ρ m)) (frzV bl (ρ i)) (frzV bl (ρ v)) kk') kk
 |.slice t x none hi none=>bif X.R&&NS (ρ x)then Sw X.T bl t (ρ x) (hi.map ρ) kk else K4 X.T bl t (ρ x) none (hi.map ρ) kk
 |.slice t x lo hi none=>bif X.S&&NS (ρ x)then EE bl (Bl ((x::(lo.toList++hi.toList)).map ρ)) (λbl' kk'=>K4 X.T bl' t (frzV bl (ρ x)) (lo.map λy=>frzV bl (ρ y)) (hi.map λy=>frzV bl (ρ y)) kk') kk else K4 X.T bl t (ρ x) (lo.map ρ) (hi.map ρ) kk
 |.fieldAddr t x f=>Su X.T t (ρ x) f kk
 |.field t x f=>
  match X.T t,ρ x with
  |some ti,.agg cs=>
   match ti.flds[f]? with
   |some (o,n,g)=>
    bif g||Nat.beq n 1 then
     match sub cs o n with
     |some r=>kk (V.mk g r) [] []
     |none=>none
    else none
   |none=>none
  |_,_=>none
 |.indexAddr t x i=>Sv X.T bl t (ρ x) (ρ i) kk
 |.index t x i=>
  match X.T t,ρ x,ival (ρ i)with
  |some ti,.c (.str s),some (_,i)=>bif ti.isStr then By (decide (0<=i)&&decide (i<(s.length:Int))) (kk (.c (.int .u8 ((s.getD i.toNat 0).toNat:Int))) [] [])else none
  |some ti,.agg cs,some (_,i)=>Sy X.T ti cs i kk
  |_,_,_=>none
 |.extract x i=>
  match ρ x with
  |.tup ts=>
   match ts[i]? with
   |some t=>kk (V.mk t.1 t.2) [] []
   |none=>none
  |_=>none
 |.call c=>
  match c.callee with
  |.builtin .len=>
   match c.args.toList.map ρ,c.argTypes.toList with
   |[x],[t]=>Sx X.T bl t x kk
   |_,_=>none
  |.builtin .min=>
   match NU false (c.args.toList.map ρ)with
   |some v=>kk v [] []
   |none=>none
  |.builtin .max=>
   match NU true (c.args.toList.map ρ)with
   |some v=>kk v [] []
   |none=>none
  |.builtin .append=>
   match c.args.toList.map ρ,c.argTypes.toList with
   |[x,y],[t,t']=>bif Nat.beq t t' then(bif NT x||NT y then S8 X.O X.T bl nx t x y kk else bif X.M&&IT X.T t then SB X.T bl nx t x y kk else S7 X.T bl nx t x y kk)else SA X.T bl nx t t' x y kk
   |_,_=>none
  |.builtin .clear=>
   match c.args.toList.map ρ,c.argTypes.toList with
   |[x],[t]=>S5 X.T bl t x kk
   |_,_=>none
  |.builtin .cap=>
   match c.args.toList.map ρ,c.argTypes.toList with
   |[x],[t]=>S6 X.T t x kk
   |_,_=>none
  |.builtin .copy=>
   match c.args.toList.map ρ,c.argTypes.toList with
   |[x,y],[t,t']=>bif Nat.beq t t' then S4 X.T bl t x y kk else none
   |_,_=>none
  |.builtin _=>none
  |callee=>
   match Zi ρ callee with
   |some (f,pre,caps)=>KE X bl nx f (pre++(c.args.toList.map ρ++caps)) kk
   |none=>none
 |_=>none
structure LogE where
 i:Nat
 dst:Option Nat
 v:V
 tin:List Nat
 rd:List Nat
 wr:List (Nat×Blk)
structure St where
 tm:List (Nat×V)
 bl:List (Nat×Blk)
 nx:Nat
def KG(tm:List (Nat×V)):Operand->V
 |.tmp t=>
  match look tm t with
  |some v=>v
  |none=>.junk
 |.const v=>V.ofValue v
 |.global _=>.junk
 |.func f=>.c (.fn f [])
def EF:List Operand->List Nat
 |[]=>[]
 |.tmp t::r=>t::EF r
 |_::r=>EF r
def HM(ops:Array Oper)(o:Oper):Option (Nat×Bool):=
 match o.guard with
 |none=>none
 |some (j,want)=>((ops[j]?).bind (·.dst)).map λt=>(t,want)
def putD(tm:List (Nat×V))(dst:Option Nat)(v:V):List (Nat×V):=
 match dst with
 |some d=>put tm d v
 |none=>tm
def SN:Nat->List (Nat×Blk)->Nat
 |nx,[]=>nx
 |nx,(i,_)::r=>SN (bif Nat.ble nx i then i+1 else nx) r
def KH(n:Nat):Option Nat->Bool
 |none=>true
 |some d=>Nat.blt d n
def FA(X:Ctx)(n:Nat)(all:Array Oper):List (Nat×Oper)->St->List LogE->(St->List LogE->Option β)->Option β
 |[],σ,log,k=>k σ log
 |(i,o)::rest,σ,log,k=>
  let tin:=EF o.op.operands.toList
  let go (σ:St) (tin:List Nat):Option β:=
   NW X o (KG σ.tm) (look σ.bl) σ.nx λv rd wr=>
    FA X n all rest ⟨putD σ.tm o.dst v,puts σ.bl wr,SN σ.nx wr⟩ (⟨i,o.dst,v,tin,rd,wr⟩::log) k
  bif KH n o.dst then
   match o.guard with
   |none=>go σ tin
   |some _=>
    match HM all o with
    |none=>none
    |some (t,want)=>
     match look σ.tm t with
     |some (.tup [])=>FA X n all rest ⟨putD σ.tm o.dst (.tup []),σ.bl,σ.nx⟩ (⟨i,o.dst,.tup [],[t],[],[]⟩::log) k
     |some (.c (.bool g))=>
      let skip:Option β:=FA X n all rest ⟨putD (put σ.tm t (.c (.bool (!want)))) o.dst (.tup []),σ.bl,σ.nx⟩ (⟨i,o.dst,.tup [],[t],[],[]⟩::log) k
      let take:Option β:=go {σ with tm:=put σ.tm t (.c (.bool want))} (t::tin)
      match want with
      |true=>cond g take skip
      |false=>cond g skip take
     |_=>none
  else none
def EG(ms:List Nat):List Edge->Nat
 |[]=>0
 |e::r=>(bif Region.binds .any e then Nat.lor (Nat.shiftLeft 1 e.on) (ms.getD e.on 0)else 0) |> Nat.lor (EG ms r)
def Dd:List Oper->List Nat->List Nat
 |[],acc=>acc
 |o::r,acc=>Dd r (acc++[EG acc o.after.toList])
def FB:List (Nat×Oper)->Bool
 |[]=>true
 |(i,o)::r=>o.after.toList.all (λe=>!Region.binds .any e||Nat.blt e.on i)&&FB r
def meet(a b:List Nat):Bool:=
 match a with
 |[]=>false
 |x::r=>memB x b||meet r b
def wids:List (Nat×Blk)->List Nat
 |[]=>[]
 |(i,_)::r=>i::wids r
def Jb(x y:LogE):Bool:=
 (match x.dst with
  |some d=>memB d y.tin||(match y.dst with|some d'=>Nat.beq d d'|none=>false)
  |none=>false)||
 (match y.dst with
  |some d=>memB d x.tin
  |none=>false)||
 meet (wids x.wr) (y.rd++wids y.wr)||meet (wids y.wr) x.rd
def NX(m:Nat)(y:LogE):List LogE->Bool
 |[]=>true
 |x::r=>(!Jb x y||Nat.testBit m x.i)&&NX m y r
def fine(ms:List Nat):List LogE->Bool
 |[]=>true
 |y::r=>NX (ms.getD y.i 0) y r&&fine ms r
inductive AExit where
 |normal
 |exit (id:Nat)
 |ret
def Gh(ids:List Nat):List Nat->Bool
 |[]=>true
 |b::r=>memB b ids&&Gh ids r
def SO(ids:List Nat):List LogE->Bool
 |[]=>true
 |e::r=>Gh ids e.rd&&SO ids r
def Gi:Option (List Nat)->List LogE->Bool
 |none,_=>true
 |some ids,log=>SO ids log
abbrev Kx(β:Type):=AExit->St->Option β
structure Cut where
 run:{β:Type}->St->(AExit->St->Option β)->Option β
def Dp:Nat->List Oper->List (Nat×Oper)
 |_,[]=>[]
 |i,o::r=>(i,o)::Dp (i+1) r
def NY(f:St->Kx β->Option β):Nat->St->Kx β->Option β
 |0,_,_=>none
 |i+1,σ,k=>f σ λe σ'=>
  match e with
  |.normal=>NY f i σ' k
  |.exit id=>k (.exit id) σ'
  |.ret=>k .ret σ'
def exec(X:Ctx)(n:Nat)(Λ:Nat->Option Cut)(p:Nat)(c:Code)(σ:St)(k:Kx β):Option β:=
 match Λ p with
 |some cut=>cut.run σ k
 |none=>
  match c with
  |.skip=>k .normal σ
  |.region _ ops draw=>
   let l:=Dp 0 ops.toList
   FA X n ops l σ [] λσ' log=>
    bif Gi X.A log&&(!draw||(FB l&&fine (Dd ops.toList []) log))then k .normal σ' else none
  |.seq a b=>
   exec X n Λ (2*p) a σ λe σ'=>
    match e with
    |.normal=>exec X n Λ (2*p+1) b σ' k
    |e=>k e σ'
  |.cond x a b=>
   match KG σ.tm x with
   |.c (.bool g)=>cond g (exec X n Λ (2*p) a σ k) (exec X n Λ (2*p+1) b σ k)
   |_=>none
  |.block id a=>
   exec X n Λ (2*p) a σ λe σ'=>
    match e with
    |.exit id'=>bif Nat.beq id' id then k .normal σ' else k (.exit id') σ'
    |e=>k e σ'
  |.exit id=>k (.exit id) σ
  |.ret=>k .ret σ
  |.loop a=>NY (λσ' k'=>exec X n (λ_=>none) 1 a σ' k') X.N σ k
  |_=>none
end
end
end Go.Lift
namespace Go.Lift
open Go.RowKit
def Blk.live:Blk->Bool
 |.dead=>false
 |_=>true
def Own(pl:Nat->Option Pl)(bl:Nat->Option Blk)(g:Nat):Prop:=
 ∃i B p,bl i=some B/\B.live=true/\pl i=some p/\p.has g
structure OK0 (P:Program) where
 f:Nat->Prop
 no:Nat->Prop
instance{P:Program}:CoeFun (OK0 P) (λ_=>Nat->Prop):=⟨OK0.f⟩
def KI:List (String×IntKind×List Int):=[("internal/strconv.uint64pow10",.u64,Lib.pow10Tab),("strings.asciiSpace",.u8,Lib.asciiSpaceTab)]
def KJ:List String:=["strconv.ErrSyntax", "strconv.ErrRange"]
def ReadsAt(w:World)(b o:Nat)(vs:List Value):Prop:=∀i v,vs[i]?=some v->w.cell? ⟨b,o+i,none⟩=some v
def NZ(g:Nat)(w:World):Prop:=
 ∃T oT R oR,ReadsAt w g 0 [.pointer (some ⟨T,oT,none⟩)]/\ReadsAt w T oT [.slice (some ⟨R,oR,none⟩) 7 7,.slice none 0 0,.int .i64 2]/\ReadsAt w R oR (Lib.whiteT.map λz:Nat=>Value.int .u16 (z:Int))
structure Opened (P:Program) (w:World):Prop where
 open_:w.ShapedOpen P
 tabs:∀x∈KI,(P.globalNamed x.1).isSome=true->Lib.TabIs P w x.1 x.2.1 x.2.2
 errs:∀n∈KJ,(P.globalNamed n).isSome=true->∃t u,w.var? P n=some #[.iface t u]
 white:∀g,P.globalNamed "unicode.White_Space"=some g->NZ g w
def Glob0(P:Program)(no:Nat->Prop)(pl:Nat->Option Pl)(bl:Nat->Option Blk)(w:World):Prop:=
 ∃w0:World,Opened P w0/\w0.heap.size<=w.heap.size/\(∀g,g<w0.heap.size->w.heap[g]?=w0.heap[g]?/\¬Own pl bl g)/\∀g,no g->w0.heap.size<=g
def GlobR(P:Program)(own:Option Nat)(w:World):Prop:=
 ∃w0:World,Opened P w0/\w0.heap.size<=w.heap.size/\∀g,g<w0.heap.size->w.heap[g]?=w0.heap[g]?/\own≠some g
theorem GlobR.glob{P:Program}{pl:Nat->Option Pl}{bl:Nat->Option Blk}{w:World}{own:Option Nat}(h:GlobR P own w)(ho:∀g,Own pl bl g->own=some g):Glob0 P (λ_=>False) pl bl w:=by obtain⟨w0,h1,h2,h3⟩:=h;exact⟨w0,h1,h2,λg hl=>⟨(h3 g hl).1,λq=>(h3 g hl).2 (ho g q)⟩,λ_ h=>h.elim⟩
theorem Glob0.gen{P:Program}{no no':Nat->Prop}{pl pl':Nat->Option Pl}{bl bl':Nat->Option Blk}{w w':World}(h:Glob0 P no pl bl w)(hs:w.heap.size<=w'.heap.size)(ho:∀g,g<w.heap.size->¬Own pl bl g->¬no g->w'.heap[g]?=w.heap[g]?/\¬Own pl' bl' g)(hn:∀g,no' g->no g\/Own pl bl g\/w.heap.size<=g):Glob0 P no' pl' bl' w':=by
 obtain⟨w0,h1,h2,h3,h4⟩:=h;refine⟨w0,h1,BH h2 hs,λg hl=>?_,λg hg=>?_⟩
 ·obtain⟨a,b⟩:=h3 g hl
  obtain⟨c,d⟩:=ho g (N7 hl h2) b λhn=>absurd (h4 g hn) (Nat.not_le.2 hl);exact⟨c.trans a,d⟩
 ·rcases hn g hg with q|q|q
  ·exact h4 g q
  ·exact Nat.le_of_not_lt λhl=>(h3 g hl).2 q
  ·exact BH h2 q
structure Glob {P:Program} (ok0:OK0 P) (pl:Nat->Option Pl) (bl:Nat->Option Blk) (w:World):Prop where
 g0:Glob0 P ok0.no pl bl w
 no:∀g,ok0.no g->g<w.heap.size/\¬Own pl bl g
section
variable{P:Program}{ok0:OK0 P}{pl pl':Nat->Option Pl}{bl bl':Nat->Option Blk}{w w':World}
theorem Glob.out(h:Glob ok0 pl bl w)(hs:w.heap.size<=w'.heap.size)(ho:∀g,g<w.heap.size->¬Own pl bl g->w'.heap[g]?=w.heap[g]?/\¬Own pl' bl' g):Glob ok0 pl' bl' w':=
 ⟨h.g0.gen hs (λg h1 h2 _=>ho g h1 h2) λ_ h=>.inl h,λg hn=>by obtain⟨h1,h2⟩:=h.no g hn;exact⟨N7 h1 hs,(ho g h1 h2).2⟩⟩
theorem Glob.mono(h:Glob ok0 pl bl w)(ho:∀g,Own pl' bl' g->Own pl bl g):Glob ok0 pl' bl' w:=h.out (Ao _) λg _ h1=>⟨rfl,λq=>h1 (ho g q)⟩
theorem Glob.row{own:Option Nat}(h:Glob ok0 pl bl w)(ho:∀g,own=some g->Own pl bl g):GlobR P own w:=by obtain⟨w0,h1,h2,h3,_⟩:=h.g0;exact⟨w0,h1,h2,λg hl=>⟨(h3 g hl).1,λq=>(h3 g hl).2 (ho g q)⟩⟩
end
def Ae{P:Program}(ok0:OK0 P)(base:Nat)(pl:Nat->Option Pl)(bl:Nat->Option Blk)(w:World):Env:={w,ok:=λg=>(ok0 g\/(base<=g/\¬ok0.no g))/\¬Own pl bl g,base,pl,bl}
structure RelB {P:Program} (ok0:OK0 P) (base:Nat) (pl:Nat->Option Pl) (bl:Nat->Option Blk) (w:World):Prop where
 baseLe:base<=w.heap.size
 blks:∀i B,bl i=some B->∃p,pl i=some p/\BRep (Ae ok0 base pl bl w) B p
 sep:∀i j B C p q g,i≠j->bl i=some B->bl j=some C->B.live=true->C.live=true->pl i=some p->pl j=some q->p.has g->¬q.has g
 fresh:∀i,bl i=none->pl i=none
 glob:Glob ok0 pl bl w
structure Step (pl:Nat->Option Pl) (bl:Nat->Option Blk) (w:World) (pl':Nat->Option Pl) (bl':Nat->Option Blk) (w':World):Prop where
 os:w'.os=w.os
 tape:w'.tape=w.tape
 output:w'.output=w.output
 size:w.heap.size<=w'.heap.size
 out:∀g,g<w.heap.size->¬Own pl bl g->w'.heap[g]?=w.heap[g]?/\¬Own pl' bl' g
 cells:∀b g,pl b=some (.cells g)->pl' b=some (.cells g)
 rows:∀b sv svs,pl b=some (.row sv svs)->∃sv' svs',pl' b=some (.row sv' svs')/\KeepR (bl b) (bl' b) sv svs sv' svs'
theorem Step.refl(pl:Nat->Option Pl)(bl:Nat->Option Blk)(w:World):Step pl bl w pl bl w:=
 ⟨rfl,rfl,rfl,Ao _,λ_ _ h=>⟨rfl,h⟩,λ_ _ h=>h,λ_ sv svs h=>⟨sv,svs,h,KeepR.refl _ _ _⟩⟩
theorem Step.trans{pl pl1 pl2:Nat->Option Pl}{bl bl1 bl2:Nat->Option Blk}{w w1 w2:World}(h:Step pl bl w pl1 bl1 w1)(k:Step pl1 bl1 w1 pl2 bl2 w2):Step pl bl w pl2 bl2 w2:=by
 refine⟨k.os.trans h.os,k.tape.trans h.tape,k.output.trans h.output,BH h.size k.size,λg hg ho=>?_,λb g hb=>k.cells b g (h.cells b g hb),λb sv svs hb=>?_⟩
 ·obtain⟨h1,h2⟩:=h.out g hg ho
  obtain⟨k1,k2⟩:=k.out g (N7 hg h.size) h2;exact⟨k1.trans h1,k2⟩
 ·obtain⟨sv1,svs1,p1,r1⟩:=h.rows b sv svs hb
  obtain⟨sv2,svs2,p2,r2⟩:=k.rows b sv1 svs1 p1;exact⟨sv2,svs2,p2,r1.trans r2⟩
structure StepM (m:Nat) (pl:Nat->Option Pl) (bl:Nat->Option Blk) (w:World) (pl':Nat->Option Pl) (bl':Nat->Option Blk) (w':World):Prop where
 os:w'.os=w.os
 tape:w'.tape=w.tape
 output:w'.output=w.output
 size:w.heap.size<=w'.heap.size
 out:∀g,g<w.heap.size->¬Own pl bl g->w'.heap[g]?=w.heap[g]?/\¬Own pl' bl' g
 cells:∀b g,b<m->pl b=some (.cells g)->pl' b=some (.cells g)
 rows:∀b sv svs,b<m->pl b=some (.row sv svs)->∃sv' svs',pl' b=some (.row sv' svs')
theorem Step.toM{m:Nat}{pl pl':Nat->Option Pl}{bl bl':Nat->Option Blk}{w w':World}(h:Step pl bl w pl' bl' w'):StepM m pl bl w pl' bl' w':=
 ⟨h.os,h.tape,h.output,h.size,h.out,λb g _=>h.cells b g,λb sv svs _ hb=>by obtain⟨sv',svs',h1,_⟩:=h.rows b sv svs hb;exact⟨sv',svs',h1⟩⟩
theorem StepM.refl(m:Nat)(pl:Nat->Option Pl)(bl:Nat->Option Blk)(w:World):StepM m pl bl w pl bl w:=(Step.refl pl bl w).toM
theorem StepM.trans{m:Nat}{pl pl1 pl2:Nat->Option Pl}{bl bl1 bl2:Nat->Option Blk}{w w1 w2:World}(h:StepM m pl bl w pl1 bl1 w1)(k:StepM m pl1 bl1 w1 pl2 bl2 w2):StepM m pl bl w pl2 bl2 w2:=by
 refine⟨k.os.trans h.os,k.tape.trans h.tape,k.output.trans h.output,BH h.size k.size,λg hg ho=>?_,λb g hm hb=>k.cells b g hm (h.cells b g hm hb),λb sv svs hm hb=>?_⟩
 ·obtain⟨h1,h2⟩:=h.out g hg ho
  obtain⟨k1,k2⟩:=k.out g (N7 hg h.size) h2;exact⟨k1.trans h1,k2⟩
 ·obtain⟨sv',svs',h1⟩:=h.rows b sv svs hm hb
  exact k.rows b sv' svs' hm h1
theorem Step.ext{P:Program}{ok0:OK0 P}{base:Nat}{pl pl':Nat->Option Pl}{bl bl':Nat->Option Blk}{w w':World}(h:Step pl bl w pl' bl' w'):Ext (Ae ok0 base pl bl w) (Ae ok0 base pl' bl' w'):=
 ⟨Ao _,λg hg hlt=>⟨⟨hg.1,(h.out g hlt hg.2).2⟩,(h.out g hlt hg.2).1⟩,h.cells,h.rows⟩
def upd{α:Type}(f:Nat->Option α)(i:Nat)(x:α):Nat->Option α:=λj=>if j=i then some x else f j
def updL{α:Type}(f:Nat->Option α):List (Nat×α)->Nat->Option α
 |[]=>f
 |(i,x)::r=>updL (upd f i x) r
theorem SP{α:Type}:∀(r l:List (Nat×α)),look (puts l r)=updL (look l) r
 |[],_=>rfl
 |(i,x)::r,l=>by rw[puts,SP r,updL];congr 1;funext j;rw[NM,upd]
def OpOk(P:Program)(o:Oper)(ρ:Operand->V)(bl:Nat->Option Blk)(v:V)(wr:List (Nat×Blk)):Prop:=
 ∀(ok0:OK0 P)(base:Nat)(pl:Nat->Option Pl)(w:World)(a:Act),RelB ok0 base pl bl w->
  (∀x∈o.op.operands,VRep (Ae ok0 base pl bl w) (ρ x) (a.eval x))->
  ∀(K:Act->World->Prop)(Q:Exit->Act->World->Prop),
   (∀val pl' w',RelB ok0 base pl' (updL bl wr) w'->Step pl bl w pl' (updL bl wr) w'->VRep (Ae ok0 base pl' (updL bl wr) w') v val->K (a.put o.dst val) w')->
   o.wp P a w K Q
section
variable{P:Program}{o:Oper}{ρ:Operand->V}{bl:Nat->Option Blk}{v:V}
theorem CB{a:Act}{w w':World}{val:Value}(h:(execOp a.eval o).run P w=.ok (.value val) w'){K:Act->World->Prop}{Q:Exit->Act->World->Prop}(hk:K (a.put o.dst val) w'):o.wp P a w K Q:=by unfold Oper.wp;rw[h];exact hk
theorem Gj{a:Act}{w w':World}(h:(execOp a.eval o).run P w=.ok .skip w'){K:Act->World->Prop}{Q:Exit->Act->World->Prop}(hk:K (a.put o.dst undef) w'):o.wp P a w K Q:=by unfold Oper.wp;rw[h];exact hk
theorem OpOk.of_pure(h:∀(ok0:OK0 P)(base:Nat)(pl:Nat->Option Pl)(w:World)(a:Act),RelB ok0 base pl bl w->(∀x∈o.op.operands,VRep (Ae ok0 base pl bl w) (ρ x) (a.eval x))->∃val,(execOp a.eval o).run P w=.ok (.value val) w/\VRep (Ae ok0 base pl bl w) v val):OpOk P o ρ bl v []:=by
 intro ok0 base pl w a hr hx K Q hk;obtain⟨val,h1,h2⟩:=h ok0 base pl w a hr hx;exact CB h1 (hk val pl w hr (Step.refl pl bl w) h2)
end
section
variable{P:Program}{ok0:OK0 P}{base:Nat}{pl:Nat->Option Pl}{bl:Nat->Option Blk}{w:World}
theorem RelB.put(hr:RelB ok0 base pl bl w){i:Nat}{B:Blk}{p:Pl}{w':World}(hs:Step pl bl w (upd pl i p) (upd bl i B) w')(hB:BRep (Ae ok0 base (upd pl i p) (upd bl i B) w') B p)(hg:∀j C q g,j≠i->bl j=some C->C.live=true->pl j=some q->q.has g->w'.heap[g]?=w.heap[g]?/\¬p.has g):RelB ok0 base (upd pl i p) (upd bl i B) w':=by
 refine⟨BH hr.baseLe hs.size,λj C hC=>?_,λj k C D q r g hjk hC hD hlC hlD hq hr' hqg=>?_,λj hj=>?_,hr.glob.out hs.size hs.out⟩
 ·by_cases hj:j=i
  ·subst hj
   simp only[upd,B7,Ac]at hC;subst hC;exact⟨p,by simp[upd],hB⟩
  ·simp only[upd,hj,Bk]at hC⊢
   obtain⟨q,hq,hBq⟩:=hr.blks j C hC;refine⟨q,hq,?_⟩;cases hl:C.live with
   |false=>cases C<;>first|exact trivial|simp[Blk.live]at hl
   |true=>exact BRep.mono hs.ext hBq λg hqg=>(hg j C q g hj hC hl hq hqg).1
 ·by_cases hj:j=i
  ·by_cases hk:k=i
   ·exact absurd (hj.trans hk.symm) hjk
   ·subst hj
    simp only[upd,B7,Ac,hk,Bk]at hC hD hq hr';subst hC hq;intro hrg;exact(hg k D r g hk hD hlD hr' hrg).2 hqg
  ·by_cases hk:k=i
   ·subst hk
    simp only[upd,B7,Ac,hj,Bk]at hC hD hq hr';subst hD hr';exact(hg j C q g hj hC hlC hq hqg).2
   ·simp only[upd,hj,hk,Bk]at hC hD hq hr'
    exact hr.sep j k C D q r g hjk hC hD hlC hlD hq hr' hqg
 ·by_cases hj':j=i
  ·subst hj';simp[upd]at hj
  ·simp only[upd,hj',Bk]at hj⊢
   exact hr.fresh j hj
theorem Own.lt(hr:RelB ok0 base pl bl w){g:Nat}(h:Own pl bl g):g<w.heap.size:=by
 obtain⟨i,B,p,hB,hl,hp,hg⟩:=h;obtain⟨q,hq,hR⟩:=hr.blks i B hB;rw[hp]at hq;injection hq with hq;subst hq;cases B with
 |dead=>simp[Blk.live]at hl
 |cells t cs=>
  cases p with
  |row _ _=>exact hR.elim
  |cells g'=>obtain⟨vs,h1,_⟩:=hR;have hg:g'=g:=hg;subst hg;exact(DM.1 h1).1
 |map t k v vg l=>
  cases p with
  |row _ _=>exact hR.elim
  |cells g'=>obtain⟨es,clock,h1,_⟩:=hR;have hg:g'=g:=hg;subst hg;exact(DM.1 h1).1
 |fmap t l=>
  cases p with
  |row _ _=>exact hR.elim
  |cells g'=>obtain⟨es,clock,h1,_⟩:=hR;have hg:g'=g:=hg;subst hg;exact(DM.1 h1).1
 |row t e ver l=>
  cases p with
  |cells _=>exact hR.elim
  |row sv svs=>obtain⟨h0,xs,_,h2⟩:=hR;subst h0;exact(h2.lt g (Pl.has_row hg)).2
 |mat t et e ver iver hole l=>
  cases p with
  |cells _=>exact hR.elim
  |row sv svs=>
   have hR:MatOk _ t et e hole l sv svs:=hR;rcases hg with hg|⟨i,s,hs,hg⟩
   ·obtain⟨vs,h1,_⟩:=hR.outer
    exact(h1.lt g hg).2
   ·have hlt:i<l.length:=by rw[<-hR.len];exact(BI.1 hs).1
    obtain⟨xs,_,h2⟩:=hR.inner i s l[i] hs (Bx hlt);exact(h2.lt g hg).2
 |tree t e ver iver hole l=>
  cases p with
  |cells _=>exact hR.elim
  |row sv svs=>have hR:TreeOk _ t e hole l sv svs:=hR;obtain⟨hv,F,h1,h2,_⟩:=hR.rep;obtain⟨s,hs,hg⟩:=h2.of_has hg;exact(h1.lt s hs g hg).2
theorem Step.new(hr:RelB ok0 base pl bl w){i:Nat}(hi:bl i=none){B:Blk}{p:Pl}{w':World}(hg:w.grownBy w' none)(hp:∀g,p.has g->w.heap.size<=g):Step pl bl w (upd pl i p) (upd bl i B) w':=by
 have hpi:=hr.fresh i hi;refine⟨hg.os,hg.tape,hg.output,hg.size,λg hlt ho=>⟨hg.block g hlt (by simp),?_⟩,λb g hb=>?_,λb sv svs hb=>?_⟩
 ·rintro⟨j,C,q,hC,hl,hq,hqg⟩
  by_cases hj:j=i
  ·subst hj
   simp only[upd,B7,Ac]at hC hq;subst hq;have:=hp g hqg;omega
  ·simp only[upd,hj,Bk]at hC hq
   exact ho ⟨j,C,q,hC,hl,hq,hqg⟩
 ·have hbi:b≠i:=by rintro rfl;rw[hpi]at hb;cases hb
  simp[upd,hbi,hb]
 ·have hbi:b≠i:=by rintro rfl;rw[hpi]at hb;cases hb
  exact⟨sv,svs,by simp[upd,hbi,hb],KeepR.of_eq (λC hC=>by simpa [upd,hbi]using hC) _ _⟩
theorem RelB.new(hr:RelB ok0 base pl bl w){i:Nat}(hi:bl i=none){B:Blk}{p:Pl}{w':World}(hg:w.grownBy w' none)(hp:∀g,p.has g->w.heap.size<=g)(hB:BRep (Ae ok0 base (upd pl i p) (upd bl i B) w') B p):RelB ok0 base (upd pl i p) (upd bl i B) w':=by
 refine hr.put (Step.new hr hi hg hp) hB λj C q g hj hC hl hq hqg=>?_;have hlt:g<w.heap.size:=Own.lt hr ⟨j,C,q,hC,hl,hq,hqg⟩;refine⟨hg.block g hlt (by simp),λhpg=>?_⟩;have:=hp g hpg;omega
theorem Step.grownP(_hr:RelB ok0 base pl bl w){i:Nat}{B B':Blk}(hi:bl i=some B)(hlv:B.live=true){sv sv':Value}{svs svs':List (Option Value)}(hpi:pl i=some (.row sv svs)){w':World}{og:Option Nat}(hg:w.grownBy w' og)(hog:∀g,og=some g->(Pl.row sv svs).has g)(hv:∀g,(Pl.row sv' svs').has g->(Pl.row sv svs).has g\/w.heap.size<=g)(hk:KeepR (some B) (some B') sv svs sv' svs'):Step pl bl w (upd pl i (.row sv' svs')) (upd bl i B') w':=by
 have hown:∀g,(Pl.row sv svs).has g->Own pl bl g:=λg h=>⟨i,_,_,hi,hlv,hpi,h⟩;refine⟨hg.os,hg.tape,hg.output,hg.size,λg hlt ho=>⟨hg.block g hlt (λh=>ho (hown g (hog g h.symm))),?_⟩,λb g hb=>?_,λb sv0 svs0 hb=>?_⟩
 ·rintro⟨j,C,q,hC,hl,hq,hqg⟩
  by_cases hj:j=i
  ·subst hj
   simp only[upd,B7,Ac]at hC hq;subst hq;rcases hv g hqg with hv|hv
   ·exact ho (hown g hv)
   ·omega
  ·simp only[upd,hj,Bk]at hC hq
   exact ho ⟨j,C,q,hC,hl,hq,hqg⟩
 ·have hbi:b≠i:=by rintro rfl;rw[hpi]at hb;cases hb
  simp[upd,hbi,hb]
 ·by_cases hbi:b=i
  ·subst hbi
   rw[hpi]at hb;injection hb with hb;injection hb with hb hb2;subst hb hb2;refine⟨sv',svs',by simp[upd],?_⟩;rw[hi];simpa [upd]using hk
  ·exact⟨sv0,svs0,by simp[upd,hbi,hb],KeepR.of_eq (λC hC=>by simpa [upd,hbi]using hC) _ _⟩
theorem RelB.grownP(hr:RelB ok0 base pl bl w){i:Nat}{B B':Blk}(hi:bl i=some B)(hlv:B.live=true){sv sv':Value}{svs svs':List (Option Value)}(hpi:pl i=some (.row sv svs)){w':World}{og:Option Nat}(hg:w.grownBy w' og)(hog:∀g,og=some g->(Pl.row sv svs).has g)(hv:∀g,(Pl.row sv' svs').has g->(Pl.row sv svs).has g\/w.heap.size<=g)(hk:KeepR (some B) (some B') sv svs sv' svs')(hB:BRep (Ae ok0 base (upd pl i (.row sv' svs')) (upd bl i B') w') B' (.row sv' svs')):RelB ok0 base (upd pl i (.row sv' svs')) (upd bl i B') w':=by
 refine hr.put (Step.grownP hr hi hlv hpi hg hog hv hk) hB λj C q g hj hC hl hq hqg=>?_;have hlt:g<w.heap.size:=Own.lt hr ⟨j,C,q,hC,hl,hq,hqg⟩;have hne:¬(Pl.row sv svs).has g:=λh=>hr.sep j i _ _ _ _ g hj hC hi hl hlv hq hpi hqg h;refine⟨hg.block g hlt (λh=>hne (hog g h.symm)),λhpg=>?_⟩;rcases hv g hpg with hv|hv
 ·exact hne hv
 ·omega
theorem KeepR.ofRow{t:TypeId}{e:Ty}{ver ver':Nat}{l l':List e.den}{sv sv':Value}{svs svs':List (Option Value)}(hver:ver<=ver'/\(ver=ver'->sv'=sv/\l'.length=l.length)):KeepR (some (.row t e ver l)) (some (.row t e ver' l')) sv svs sv' svs':=by
 constructor
 ·intro t1 e1 ver1 l1 h1
  simp only[Ac]at h1;injection h1 with h2 h3 h4 h5;subst h2 h3 h4;simp only[Dl]at h5;subst h5;exact⟨ver,l,rfl,hver.1,hver.2⟩
 ·intro t1 et1 e1 ver1 iver1 hole1 l1 h1
  cases h1
 ·intro t1 e1 ver1 iver1 hole1 l1 h1
  cases h1
theorem KeepR.ofMat{t et:TypeId}{e:Ty}{ver ver' iver iver':Nat}{hole hole':Option Nat}{l l':List (List e.den)}{sv sv':Value}{svs svs':List (Option Value)}(hver:ver<=ver'/\(ver=ver'->sv'=sv/\l'.length=l.length))(hiver:iver<=iver'/\(iver=iver'->svs'=svs/\l'.map List.length=l.map List.length)):KeepR (some (.mat t et e ver iver hole l)) (some (.mat t et e ver' iver' hole' l')) sv svs sv' svs':=by
 constructor
 ·intro t1 e1 ver1 l1 h1
  cases h1
 ·intro t1 et1 e1 ver1 iver1 hole1 l1 h1
  simp only[Ac]at h1;injection h1 with h2 h3 h4 h5 h6 h7 h8;subst h2 h3 h4 h5 h6 h7;simp only[Dl]at h8;subst h8;exact⟨ver,iver,hole,l,rfl,hver.1,hiver.1,hver.2,hiver.2⟩
 ·intro t1 e1 ver1 iver1 hole1 l1 h1
  cases h1
theorem KeepR.ofTree{t:TypeId}{e:OT}{ver ver' iver iver':Nat}{hole hole':Option Path}{l l':List e.ty.den}{sv sv':Value}{svs svs':List (Option Value)}(hver:ver<=ver'/\iver<=iver'/\(ver=ver'->sv'=sv/\KeepT (iver=iver') t e hole hole' l l' sv svs svs')):KeepR (some (.tree t e ver iver hole l)) (some (.tree t e ver' iver' hole' l')) sv svs sv' svs':=by
 constructor
 ·intro t1 e1 ver1 l1 h1
  cases h1
 ·intro t1 et1 e1 ver1 iver1 hole1 l1 h1
  cases h1
 ·intro t1 e1 ver1 iver1 hole1 l1 h1
  simp only[Ac]at h1;injection h1 with h2 h3 h4 h5 h6 h7;subst h2 h3 h4 h5 h6;simp only[Dl]at h7;subst h7;exact⟨ver,iver,hole,l,rfl,hver.1,hver.2.1,hver.2.2⟩
theorem KeepR.ofDead{B:Option Blk}{sv sv':Value}{svs svs':List (Option Value)}:KeepR B (some .dead) sv svs sv' svs':=
 ⟨λ_ _ _ _ h=>(by cases h),λ_ _ _ _ _ _ _ h=>(by cases h),λ_ _ _ _ _ _ h=>(by cases h)⟩
theorem Step.grown(_hr:RelB ok0 base pl bl w){i:Nat}{t:TypeId}{e:Ty}{ver ver':Nat}{l l':List e.den}(hi:bl i=some (.row t e ver l)){sv sv':Value}(hpi:pl i=some (.row sv [])){w':World}(hg:w.grownBy w' sv.ownBlock)(hv:sv'.ownBlock=sv.ownBlock\/∀g,sv'.ownBlock=some g->w.heap.size<=g)(hver:ver<=ver'/\(ver=ver'->sv'=sv/\l'.length=l.length)):Step pl bl w (upd pl i (.row sv' [])) (upd bl i (.row t e ver' l')) w':=
 Step.grownP _hr hi rfl hpi hg (λg h=>.inl h) (λg h=>by
  have h:=Pl.has_row h;rcases hv with hv|hv
  ·exact .inl (.inl (hv▸h))
  ·exact .inr (hv g h)) (KeepR.ofRow hver)
theorem RelB.grown(hr:RelB ok0 base pl bl w){i:Nat}{t:TypeId}{e:Ty}{ver ver':Nat}{l l':List e.den}(hi:bl i=some (.row t e ver l)){sv sv':Value}(hpi:pl i=some (.row sv [])){w':World}(hg:w.grownBy w' sv.ownBlock)(hv:sv'.ownBlock=sv.ownBlock\/∀g,sv'.ownBlock=some g->w.heap.size<=g)(hver:ver<=ver'/\(ver=ver'->sv'=sv/\l'.length=l.length))(hB:BRep (Ae ok0 base (upd pl i (.row sv' [])) (upd bl i (.row t e ver' l')) w') (.row t e ver' l') (.row sv' [])):RelB ok0 base (upd pl i (.row sv' [])) (upd bl i (.row t e ver' l')) w':=
 RelB.grownP hr hi rfl hpi hg (λg h=>.inl h) (λg h=>by
  have h:=Pl.has_row h;rcases hv with hv|hv
  ·exact .inl (.inl (hv▸h))
  ·exact .inr (hv g h)) (KeepR.ofRow hver) hB
theorem Step.wroteB(_hr:RelB ok0 base pl bl w){i g0:Nat}{B B':Blk}(hi:bl i=some B)(hl:B.live=true)(hpi:pl i=some (.cells g0)){w':World}(hg:w.grownBy w' (some g0)):Step pl bl w (upd pl i (.cells g0)) (upd bl i B') w':=by
 have hown:Own pl bl g0:=⟨i,_,_,hi,hl,hpi,rfl⟩;refine⟨hg.os,hg.tape,hg.output,hg.size,λg hlt ho=>⟨hg.block g hlt (λh=>ho (by injection h with h;subst h;exact hown)),?_⟩,λb g hb=>?_,λb sv0 svs0 hb=>?_⟩
 ·rintro⟨j,C,q,hC,hl,hq,hqg⟩
  by_cases hj:j=i
  ·subst hj
   simp only[upd,B7,Ac]at hC hq;subst hq;have hqg:g0=g:=hqg;subst hqg;exact ho hown
  ·simp only[upd,hj,Bk]at hC hq
   exact ho ⟨j,C,q,hC,hl,hq,hqg⟩
 ·by_cases hbi:b=i
  ·subst hbi;rw[hpi]at hb;simpa [upd]using hb
  ·simp[upd,hbi,hb]
 ·have hbi:b≠i:=by rintro rfl;rw[hpi]at hb;cases hb
  exact⟨sv0,svs0,by simp[upd,hbi,hb],KeepR.of_eq (λC hC=>by simpa [upd,hbi]using hC) _ _⟩
theorem RelB.wroteB(hr:RelB ok0 base pl bl w){i g0:Nat}{B B':Blk}(hi:bl i=some B)(hl0:B.live=true)(hpi:pl i=some (.cells g0)){w':World}(hg:w.grownBy w' (some g0))(hB:BRep (Ae ok0 base (upd pl i (.cells g0)) (upd bl i B') w') B' (.cells g0)):RelB ok0 base (upd pl i (.cells g0)) (upd bl i B') w':=by
 refine hr.put (Step.wroteB hr hi hl0 hpi hg) hB λj C q g hj hC hl hq hqg=>?_;have hlt:g<w.heap.size:=Own.lt hr ⟨j,C,q,hC,hl,hq,hqg⟩;have hne:g0≠g:=λh=>hr.sep j i _ _ _ _ g hj hC hi hl hl0 hq hpi hqg h;exact⟨hg.block g hlt (λh=>hne (by injection h with h;exact h.symm)),λhpg=>hne hpg⟩
theorem Step.wrote(hr:RelB ok0 base pl bl w){i g0:Nat}{t:TypeId}{cs cs':List C}(hi:bl i=some (.cells t cs))(hpi:pl i=some (.cells g0)){w':World}(hg:w.grownBy w' (some g0)):Step pl bl w (upd pl i (.cells g0)) (upd bl i (.cells t cs')) w':=Step.wroteB hr hi rfl hpi hg
theorem RelB.wrote(hr:RelB ok0 base pl bl w){i g0:Nat}{t:TypeId}{cs cs':List C}(hi:bl i=some (.cells t cs))(hpi:pl i=some (.cells g0)){w':World}(hg:w.grownBy w' (some g0))(hB:BRep (Ae ok0 base (upd pl i (.cells g0)) (upd bl i (.cells t cs')) w') (.cells t cs') (.cells g0)):RelB ok0 base (upd pl i (.cells g0)) (upd bl i (.cells t cs')) w':=RelB.wroteB hr hi rfl hpi hg hB
def AL(pl:Nat->Option Pl)(bl:Nat->Option Blk)(i g:Nat):Prop:=∃B p,bl i=some B/\B.live=true/\pl i=some p/\p.has g
theorem Step.two(_hr:RelB ok0 base pl bl w){i j:Nat}(hij:i≠j){Bi Bj:Blk}{pi pj:Pl}{w':World}{og:Option Nat}(hg:w.grownBy w' og)(hog:∀g,og=some g->AL pl bl i g\/AL pl bl j g)(hi:∀g,Bi.live=true->pi.has g->AL pl bl i g\/AL pl bl j g\/w.heap.size<=g)(hj:∀g,Bj.live=true->pj.has g->AL pl bl i g\/AL pl bl j g\/w.heap.size<=g)(hci:∀g,pl i=some (.cells g)->pi=.cells g)(hcj:∀g,pl j=some (.cells g)->pj=.cells g)(hri:∀sv svs,pl i=some (.row sv svs)->∃sv' svs',pi=.row sv' svs'/\KeepR (bl i) (some Bi) sv svs sv' svs')(hrj:∀sv svs,pl j=some (.row sv svs)->∃sv' svs',pj=.row sv' svs'/\KeepR (bl j) (some Bj) sv svs sv' svs'):Step pl bl w (upd (upd pl i pi) j pj) (upd (upd bl i Bi) j Bj) w':=by
 have hOwn:∀k g,AL pl bl k g->Own pl bl g:=λk g ⟨B,p,h1,h2,h3,h4⟩=>⟨k,B,p,h1,h2,h3,h4⟩;refine⟨hg.os,hg.tape,hg.output,hg.size,λg hlt ho=>⟨hg.block g hlt (λh=>?_),?_⟩,λb g hb=>?_,λb sv svs hb=>?_⟩
 ·rcases hog g h.symm with h|h
  ·exact ho (hOwn i g h)
  ·exact ho (hOwn j g h)
 ·rintro⟨k,C,q,hC,hl,hq,hqg⟩
  by_cases hkj:k=j
  ·subst hkj
   simp only[upd,B7,Ac]at hC hq;subst hq hC;rcases hj g hl hqg with h|h|h
   ·exact ho (hOwn i g h)
   ·exact ho (hOwn k g h)
   ·omega
  ·by_cases hki:k=i
   ·subst hki
    simp only[upd,hkj,Bk,B7,Ac]at hC hq;subst hq hC;rcases hi g hl hqg with h|h|h
    ·exact ho (hOwn k g h)
    ·exact ho (hOwn j g h)
    ·omega
   ·simp only[upd,hkj,hki,Bk]at hC hq
    exact ho ⟨k,C,q,hC,hl,hq,hqg⟩
 ·by_cases hkj:b=j
  ·subst hkj;simp[upd,hcj g hb]
  ·by_cases hki:b=i
   ·subst hki;simp[upd,hkj,hci g hb]
   ·simp[upd,hkj,hki,hb]
 ·by_cases hkj:b=j
  ·subst hkj
   obtain⟨sv',svs',h1,h2⟩:=hrj sv svs hb;exact⟨sv',svs',by simp[upd,h1],by simpa [upd]using h2⟩
  ·by_cases hki:b=i
   ·subst hki
    obtain⟨sv',svs',h1,h2⟩:=hri sv svs hb;exact⟨sv',svs',by simp[upd,hkj,h1],by simpa [upd,hkj]using h2⟩
   ·exact⟨sv,svs,by simp[upd,hkj,hki,hb],KeepR.of_eq (λC hC=>by simpa [upd,hkj,hki]using hC) _ _⟩
theorem RelB.two(hr:RelB ok0 base pl bl w){i j:Nat}(hij:i≠j){Bi Bj:Blk}{pi pj:Pl}{w':World}{og:Option Nat}(hg:w.grownBy w' og)(hog:∀g,og=some g->AL pl bl i g\/AL pl bl j g)(hi:∀g,Bi.live=true->pi.has g->AL pl bl i g\/AL pl bl j g\/w.heap.size<=g)(hj:∀g,Bj.live=true->pj.has g->AL pl bl i g\/AL pl bl j g\/w.heap.size<=g)(hd:∀g,Bi.live=true->Bj.live=true->pi.has g->¬pj.has g)(hs:Step pl bl w (upd (upd pl i pi) j pj) (upd (upd bl i Bi) j Bj) w')(hBi:BRep (Ae ok0 base (upd (upd pl i pi) j pj) (upd (upd bl i Bi) j Bj) w') Bi pi)(hBj:BRep (Ae ok0 base (upd (upd pl i pi) j pj) (upd (upd bl i Bi) j Bj) w') Bj pj):RelB ok0 base (upd (upd pl i pi) j pj) (upd (upd bl i Bi) j Bj) w':=by
 have hoth:∀k C q g,k≠i->k≠j->bl k=some C->C.live=true->pl k=some q->q.has g->w'.heap[g]?=w.heap[g]?/\(Bi.live=true->¬pi.has g)/\(Bj.live=true->¬pj.has g):=by
  intro k C q g hki hkj hC hl hq hqg;have hlt:g<w.heap.size:=Own.lt hr ⟨k,C,q,hC,hl,hq,hqg⟩;have hni:∀m,k≠m->¬AL pl bl m g:=λm hm ⟨B,p,h1,h2,h3,h4⟩=>hr.sep k m C B q p g hm hC h1 hl h2 hq h3 hqg h4;refine⟨hg.block g hlt (λh=>?_),λhli h=>?_,λhlj h=>?_⟩
  ·rcases hog g h.symm with h|h
   ·exact hni i hki h
   ·exact hni j hkj h
  ·rcases hi g hli h with h|h|h
   ·exact hni i hki h
   ·exact hni j hkj h
   ·omega
  ·rcases hj g hlj h with h|h|h
   ·exact hni i hki h
   ·exact hni j hkj h
   ·omega
 have hbl:∀k,upd (upd bl i Bi) j Bj k=if k=j then some Bj else if k=i then some Bi else bl k:=λk=>rfl;have hpl:∀k,upd (upd pl i pi) j pj k=if k=j then some pj else if k=i then some pi else pl k:=λk=>rfl;refine⟨BH hr.baseLe hs.size,λk C hC=>?_,λk m C D q r g hkm hC hD hlC hlD hq hr' hqg=>?_,λk hk=>?_,hr.glob.out hs.size hs.out⟩
 ·by_cases hkj:k=j
  ·subst hkj
   simp only[upd,B7,Ac]at hC;subst hC;exact⟨pj,by simp[upd],hBj⟩
  ·by_cases hki:k=i
   ·subst hki
    simp only[upd,hkj,Bk,B7,Ac]at hC;subst hC;exact⟨pi,by simp[upd,hkj],hBi⟩
   ·simp only[upd,hkj,hki,Bk]at hC⊢
    obtain⟨q,hq,hBq⟩:=hr.blks k C hC;refine⟨q,hq,?_⟩;cases hl:C.live with
    |false=>cases C<;>first|exact trivial|simp[Blk.live]at hl
    |true=>exact BRep.mono hs.ext hBq λg hqg=>(hoth k C q g hki hkj hC hl hq hqg).1
 ·rw[hbl]at hC hD
  rw[hpl]at hq hr';by_cases hkj:k=j
  ·subst hkj
   have hmk:m≠k:=λh=>hkm h.symm;simp only[B7,hmk,Bk,Ac]at hC hD hq hr';subst hC hq;by_cases hmi:m=i
   ·subst hmi
    simp only[B7,Ac]at hD hr';subst hD hr';exact λh=>hd g hlD hlC h hqg
   ·simp only[hmi,Bk]at hD hr'
    exact λh=>(hoth m D r g hmi hmk hD hlD hr' h).2.2 hlC hqg
  ·by_cases hki:k=i
   ·subst hki
    simp only[hkj,Bk,B7,Ac]at hC hq;subst hC hq;by_cases hmj:m=j
    ·subst hmj
     simp only[B7,Ac]at hD hr';subst hD hr';exact hd g hlC hlD hqg
    ·have hmk:m≠k:=λh=>hkm h.symm
     simp only[hmj,hmk,Bk]at hD hr';exact λh=>(hoth m D r g hmk hmj hD hlD hr' h).2.1 hlC hqg
   ·simp only[hkj,hki,Bk]at hC hq
    by_cases hmj:m=j
    ·subst hmj
     simp only[B7,Ac]at hD hr';subst hD hr';exact(hoth k C q g hki hkj hC hlC hq hqg).2.2 hlD
    ·by_cases hmi:m=i
     ·subst hmi
      simp only[hmj,Bk,B7,Ac]at hD hr';subst hD hr';exact(hoth k C q g hki hkj hC hlC hq hqg).2.1 hlD
     ·simp only[hmj,hmi,Bk]at hD hr'
      exact hr.sep k m C D q r g hkm hC hD hlC hlD hq hr' hqg
 ·rw[hbl]at hk
  rw[hpl];by_cases hkj:k=j
  ·simp[hkj]at hk
  ·by_cases hki:k=i
   ·simp[hki]at hk
    split at hk<;>cases hk
   ·simp only[hkj,hki,Bk]at hk⊢
    exact hr.fresh k hk
end
end Go.Lift
namespace Go.Lift
open Go.RowKit
def Ep(P:Program)(t:TypeId):Bool:=
 match P.underlying t with
 |some (.struct _)|some (.array _ _)=>true
 |_=>false
def tyOf(P:Program):Nat->TypeId->Option Ty
 |0,_=>none
 |n+1,t=>
  match P.underlying t with
  |some .bool=>some .bool
  |some (.int k)=>some (.int k)
  |some .string=>some .str
  |some (.interface ms)=>bif decide (ms=P.methodsAt t)then some .err else none
  |some (.slice e)=>(tyOf P n e).map .slice
  |some (.struct fs)=>many (fs.toList.map λf=>tyOf P n f.type)
  |some (.array m e)=>many (List.replicate m (tyOf P n e))
  |_=>none
 where
 many:List (Option Ty)->Option Ty
  |[]=>some .unit
  |[t]=>t
  |some t::r=>(many r).map (.prod t)
  |none::_=>none
def zeroC(v:Value):C:=
 match C.ofValue v with
 |some c=>c
 |none=>.junk
def FC(P:Program)(t:TypeId):Option BK:=
 match P.underlying t with
 |some .bool=>some .b
 |some (.int _)=>some .i
 |some .string=>some .s
 |_=>none
def KK(P:Program):Nat->List Field->Option (List BK)
 |_,[]=>some []
 |i,f::fs=>
  bif f.name != "_"&&Nat.beq f.offset i then
   match FC P f.type,KK P (i+1) fs with
   |some k,some ks=>some (k::ks)
   |_,_=>none
  else none
def Zm(P:Program)(t:TypeId):Option (List BK):=
 match P.underlying t,P.info? t with
 |some (.struct gs),some i=>
  match KK P 0 gs.toList with
  |some js=>bif !P.stoodInHeld t&&Nat.beq i.size js.length then some js else none
  |none=>none
 |_,_=>none
def Jc(P:Program):Nat->List Field->Option (List BK)
 |_,[]=>some []
 |i,f::fs=>
  bif f.name != "_"&&Nat.beq f.offset i then
   match FC P f.type with
   |some k=>
    match Jc P (i+1) fs with
    |some ks=>some (k::ks)
    |none=>none
   |none=>
    match Zm P f.type with
    |some js=>
     match Jc P (i+js.length) fs with
     |some ks=>some (js++ks)
     |none=>none
    |none=>none
  else none
def KL(P:Program)(t:TypeId):Option (List BK):=
 match P.underlying t with
 |some (.struct fs)=>bif P.stoodInHeld t||P.eqGuardType P.depth t then none else Jc P 0 fs.toList
 |some (.array n e)=>
  match FC P e with
  |some k=>bif Nat.beq (P.cellsOf e) 1&&!P.eqGuardType P.depth t then some (List.replicate n k)else none
  |none=>none
 |_=>none
def Oa(P:Program):TypeDesc->List (Nat×Nat×Bool)
 |.struct fs=>fs.toList.map λf=>(f.offset,P.cellsOf f.type,Ep P f.type)
 |_=>[]
def Ob:TypeDesc->Option TypeId
 |.slice e=>some e
 |.array _ e=>some e
 |_=>none
def lenD:TypeDesc->Option Nat
 |.array n _=>some n
 |_=>none
def Jd:TypeDesc->Option IntKind
 |.int k=>some k
 |_=>none
def Je(P:Program):TypeDesc->Bool
 |.struct fs=>fs.toList.all λf=>(P.info? f.type).isSome&&(P.underlying f.type).isSome
 |.slice e=>(P.info? e).isSome&&(P.underlying e).isSome
 |.array _ e=>(P.info? e).isSome&&(P.underlying e).isSome
 |_=>true
def mpD:TypeDesc->Option (TypeId×TypeId)
 |.map k v=>some (k,v)
 |_=>none
def Oc:TypeDesc->Bool
 |.string=>true
 |_=>false
def Od:TypeDesc->Bool
 |.bool=>true
 |_=>false
def SQ:TypeDesc->Bool
 |.pointer _=>true
 |_=>false
def KM:Value->Bool
 |.agg _=>true
 |_=>false
def tiOf(P:Program)(t:TypeId):Option TI:=
 match P.info? t,P.underlying t with
 |some i,some d=>
  match i.zero with
  |some z=>
   bif z.cells.toList.all (·.oneCell')&&(Nat.beq z.cells.toList.length i.size&&(Je P d&&(KM z==Ep P t)))then
    some {
     agg:=Ep P t
     size:=i.size
     bytes:=i.bytes
     zero:=z.cells.toList.map zeroC
     flds:=Oa P d
     elem:=Ob d
     len:=lenD d
     ty:=tyOf P 12 t
     kind:=Jd d
     isBool:=Od d
     isStr:=Oc d
     eqs:=KL P t
     mp:=mpD d
     ptr:=SQ d}
   else none
  |none=>none
 |_,_=>none
def TOk(P:Program)(T:TypeId->Option TI):Prop:=∀t ti,T t=some ti->tiOf P t=some ti
structure TFacts (P:Program) (t:TypeId) (ti:TI) (i:TypeInfo) (d:TypeDesc) (z:Value):Prop where
 info:P.info? t=some i
 under:P.underlying t=some d
 zero:i.zero=some z
 agg:ti.agg=Ep P t
 size:ti.size=i.size
 bytes:ti.bytes=i.bytes
 zeroC:ti.zero=z.cells.toList.map zeroC
 one:z.cells.toList.all (·.oneCell')=true
 len:z.cells.toList.length=i.size
 known:Je P d=true
 flds:ti.flds=Oa P d
 elem:ti.elem=Ob d
 alen:ti.len=lenD d
 kind:ti.kind=Jd d
 isBool:ti.isBool=Od d
 isStr:ti.isStr=Oc d
 eqs:ti.eqs=KL P t
 mp:ti.mp=mpD d
 ptr:ti.ptr=SQ d
 ty:ti.ty=tyOf P 12 t
 zagg:KM z=Ep P t
theorem TOk.facts{P:Program}{T:TypeId->Option TI}(h:TOk P T){t:TypeId}{ti:TI}(ht:T t=some ti):∃i d z,TFacts P t ti i d z:=by
 have h1:=h t ti ht;unfold tiOf at h1;split at h1
 ·rename_i i d hi hd
  split at h1
  ·rename_i z hz
   cases hb:(z.cells.toList.all (·.oneCell')&&(Nat.beq z.cells.toList.length i.size&&(Je P d&&(KM z==Ep P t))))with
   |false=>rw[hb]at h1;cases h1
   |true=>simp only[hb,Af,Ac]at h1;subst h1;simp only[Bv]at hb;exact⟨i,d,z,hi,hd,hz,rfl,rfl,rfl,rfl,hb.1,Ag hb.2.1,hb.2.2.1,rfl,rfl,rfl,rfl,rfl,rfl,rfl,rfl,rfl,rfl,by simpa using hb.2.2.2⟩
  ·cases h1
 ·cases h1
theorem C.ofValue_rep{E:Env}{v:Value}{c:C}(h:C.ofValue v=some c):CRep E c v:=by
 unfold C.ofValue at h
 split at h<;>first
  |(simp only[Ac]at h;subst h;rfl)
  |cases h
theorem uH{E:Env}{v:Value}(h:v.oneCell'=true):CRep E (zeroC v) v:=by
 unfold zeroC;cases hc:C.ofValue v with
 |none=>exact h
 |some c=>exact C.ofValue_rep hc
theorem Hb{E:Env}:∀{vs:List Value},vs.all (·.oneCell')=true->CReps E (vs.map zeroC) vs
 |[],_=>rfl
 |v::vs,h=>by simp only[NJ,Bv]at h;exact⟨v,vs,rfl,uH h.1,Hb h.2⟩
theorem C.ofValues_rep{E:Env}:∀{vs:List Value}{cs:List C},C.ofValues vs=some cs->CReps E cs vs
 |[],cs,h=>by simp only[C.ofValues,Ac]at h;subst h;rfl
 |v::vs,cs,h=>by
  simp only[C.ofValues]at h;split at h
  ·rename_i x xs hx hxs
   simp only[Ac]at h;subst h;exact⟨v,vs,rfl,C.ofValue_rep hx,C.ofValues_rep hxs⟩
  ·cases h
theorem V.ofValue_rep{E:Env}(v:Value):VRep E (V.ofValue v) v:=by
 unfold V.ofValue;split
 ·rename_i cs
  split
  ·rename_i l hl
   exact⟨cs.toList,C.ofValues_rep hl,by simp⟩
  ·exact trivial
 ·split
  ·rename_i x hx
   exact C.ofValue_rep hx
  ·exact trivial
section
variable{E:Env}
theorem CReps.append:∀{cs ds:List C}{vs us:List Value},CReps E cs vs->CReps E ds us->CReps E (cs++ds) (vs++us)
 |[],_,_,_,h,k=>by simp only[CReps]at h;subst h;simpa using k
 |_::_,_,_,_,⟨v,vs',e,h,ht⟩,k=>⟨v,vs'++_,by rw[e];rfl,h,CReps.append ht k⟩
theorem CReps.drop:∀{cs:List C}{vs:List Value}(n:Nat),CReps E cs vs->CReps E (cs.drop n) (vs.drop n)
 |[],_,n,h=>by simp only[CReps]at h;subst h;simp[CReps]
 |_::_,_,0,h=>by simpa using h
 |_::_,_,n+1,⟨v,vs',e,h,ht⟩=>by subst e;simpa using CReps.drop n ht
theorem CReps.take:∀{cs:List C}{vs:List Value}(n:Nat),CReps E cs vs->CReps E (cs.take n) (vs.take n)
 |[],_,n,h=>by simp only[CReps]at h;subst h;simp[CReps]
 |_::_,_,0,h=>by simp[CReps]
 |_::_,_,n+1,⟨v,vs',e,h,ht⟩=>by subst e;exact⟨v,vs'.take n,by simp,h,CReps.take n ht⟩
theorem CReps.split:∀{cs ds:List C}{vs:List Value},CReps E (cs++ds) vs->∃us ws,vs=us++ws/\CReps E cs us/\CReps E ds ws
 |[],_,vs,h=>⟨[],vs,rfl,rfl,h⟩
 |_::cs,_,_,⟨v,vs',e,h,ht⟩=>by obtain⟨us,ws,e',h1,h2⟩:=CReps.split (cs:=cs) ht;exact⟨v::us,ws,by rw[e,e'];rfl,⟨v,us,rfl,h,h1⟩,h2⟩
theorem CReps.oneCell:∀{cs:List C}{vs:List Value},CReps E cs vs->∀v∈vs,v.oneCell'=true
 |[],_,h,v,hv=>by simp only[CReps]at h;subst h;simp at hv
 |_::_,_,⟨u,vs',e,h,ht⟩,v,hv=>by
  subst e;rcases AH.1 hv with rfl|hv
  ·exact CRep.oneCell h
  ·exact CReps.oneCell ht v hv
theorem VRep.cells_of{x:V}{cs:List C}{v:Value}(hx:x.cells=some cs)(h:VRep E x v):CReps E cs v.cells.toList:=by
 cases x with
 |c c=>simp only[V.cells,Ac]at hx;subst hx;have h1:=CRep.oneCell h;refine⟨v,[],?_,h,rfl⟩;cases v<;>first|rfl|simp[Value.oneCell']at h1
 |agg ds=>simp only[V.cells,Ac]at hx;subst hx;obtain⟨vs,h1,h2⟩:=h;simp only[B7]at h2;subst h2;simpa [Value.cells]using h1
 |junk=>simp[V.cells]at hx
 |tup _=>simp[V.cells]at hx
 |eptr _ _ _ _=>simp[V.cells]at hx
 |lptr _ _ _=>simp[V.cells]at hx
 |arr _ _ _ _=>simp[V.cells]at hx
 |mcell _ _ _=>simp[V.cells]at hx
 |mptr _ _ _ _ _=>simp[V.cells]at hx
theorem VRep.mk{agg:Bool}{cs:List C}{v:Value}(h:SRep E agg cs v):VRep E (V.mk agg cs) v:=by
 unfold V.mk;cases agg with
 |true=>exact h
 |false=>
  simp only[AT];split
  ·rename_i x
   obtain⟨vs,h1,h2⟩:=h;simp only[DO,Bk]at h2;subst h2;obtain⟨u,us,e,h3,h4⟩:=h1;simp only[BB]at e;rw[e.1];exact h3
  ·exact trivial
theorem D9:∀{τ:Ty}{x:τ.den}{vs:List Value},DRep E.w E.ok τ x vs->CReps E (cells τ x) vs
 |.bool,_,_,h=>⟨_,[],h,rfl,rfl⟩
 |.int _,_,_,h=>⟨_,[],h,rfl,rfl⟩
 |.str,_,_,h=>⟨_,[],h,rfl,rfl⟩
 |.err,_,_,h=>by simp only[DRep]at h;obtain⟨v,e,hv⟩:=h;exact⟨v,[],e,hv,rfl⟩
 |.unit,_,_,h=>h
 |.prod a b,_,_,h=>by simp only[DRep]at h;obtain⟨u,v,e,h1,h2⟩:=h;rw[e];exact(D9 h1).append (D9 h2)
 |.slice e,l,vs,h=>by have h':=h;simp only[DRep]at h';obtain⟨A,c,xs,e1,_⟩:=h';subst e1;exact⟨_,[],rfl,h,rfl⟩
theorem SR:∀(τ:Ty)(x:τ.den),(cells τ x).length=τ.size
 |.bool,_=>rfl
 |.int _,_=>rfl
 |.str,_=>rfl
 |.err,_=>rfl
 |.unit,_=>rfl
 |.prod a b,x=>by simp[cells,Ty.size,SR a,SR b]
 |.slice _,_=>rfl
theorem HN{cs:List C}{vs:List Value}{o n:Nat}{r:List C}(h:CReps E cs vs)(hs:sub cs o n=some r):CReps E r ((vs.drop o).take n)/\((vs.drop o).take n).length=n/\o+n<=vs.length:=by
 unfold sub at hs;cases hb:Nat.ble (o+n) cs.length with
 |false=>simp[hb]at hs
 |true=>simp only[hb,Af,Ac]at hs;subst hs;have hle:o+n<=cs.length:=D6 hb;have hl:=h.length;exact⟨(h.drop o).take n,by simp;omega,by omega⟩
theorem KN:∀{cs:List C}{vs:List Value}{o:Nat}{new:List C}{us:List Value}{r:List C},CReps E cs vs->CReps E new us->over cs o new=some r->CReps E r (vs.take o++us++vs.drop (o+us.length))/\o+us.length<=vs.length
 |cs,vs,0,new,us,r,h,hn,ho=>by
  unfold over at ho;cases hb:Nat.ble new.length cs.length with
  |false=>simp[hb]at ho
  |true=>simp only[hb,Af,Ac]at ho;subst ho;have hle:new.length<=cs.length:=D6 hb;have h1:=h.length;have h2:=hn.length;refine⟨?_,by omega⟩;simp only[List.take_zero,Cp,BW];rw[h2];exact hn.append (h.drop _)
 |[],_,o+1,_,_,_,_,_,ho=>by simp[over]at ho
 |c::cs,vs,o+1,new,us,r,⟨v,vs',e,h,ht⟩,hn,ho=>by
  simp only[over]at ho;split at ho
  ·rename_i r' hr'
   simp only[Ac]at ho;subst ho e;obtain⟨h1,h2⟩:=KN ht hn hr';refine⟨⟨v,_,?_,h,h1⟩,by simp;omega⟩;have:o+1+us.length=(o+us.length)+1:=by omega
   rw[this];simp
  ·cases ho
end
end Go.Lift
namespace Go.Lift
open Go.RowKit
theorem andB{a b:Bool}(h:(a&&b)=true):a=true/\b=true:=by simpa using h
theorem B8{β:Type}{c:Bool}{x:Option β}{r:β}(h:By c x=some r):c=true/\x=some r:=by
 cases c with
 |false=>cases h
 |true=>exact⟨rfl,h⟩
structure Rows (E:Env) (blp:Nat->Option Blk) (okp:Nat->Prop) (ids:List Nat):Prop where
 ok:∀g,E.ok g->okp g
 row:∀b∈ids,∀t e ver l,blp b=some (.row t e ver l)->E.bl b=some (.row t e ver l)/\∀sv g,E.pl b=some (.row sv [])->sv.ownBlock=some g->okp g
 mat:∀b∈ids,∀t et e ver iver hole l,blp b=some (.mat t et e ver iver hole l)->E.bl b=some (.mat t et e ver iver hole l)/\∀sv svs g,E.pl b=some (.row sv svs)->(Pl.row sv svs).has g->okp g
 tree:∀b∈ids,∀t e ver iver h l,blp b=some (.tree t e ver iver h l)->E.bl b=some (.tree t e ver iver h l)/\∀sv svs g,E.pl b=some (.row sv svs)->(Pl.row sv svs).has g->okp g
theorem DList.take{w:World}{ok:Nat->Prop}{e:Ty}:∀{l:List e.den}{xs:List Value}(n:Nat),DList (λx u=>DRep w ok e x u) l xs->DList (λx u=>DRep w ok e x u) (l.take n) (xs.take (n*e.size))
 |[],_,n,h=>by simp only[DList]at h;subst h;simp[DList]
 |_::_,_,0,h=>by simp[DList]
 |x::l,xs,n+1,⟨u,v,e1,hr,ht⟩=>by refine⟨u,v.take (n*e.size),?_,hr,DList.take n ht⟩;have hu:=hr.length;rw[e1,DP,Kr,Dz (by omega)];congr 2;omega
theorem DList.drop{w:World}{ok:Nat->Prop}{e:Ty}:∀{l:List e.den}{xs:List Value}(n:Nat),DList (λx u=>DRep w ok e x u) l xs->DList (λx u=>DRep w ok e x u) (l.drop n) (xs.drop (n*e.size))
 |[],_,n,h=>by simp only[DList]at h;subst h;simp[DList]
 |_::_,_,0,h=>by simpa using h
 |x::l,xs,n+1,⟨u,v,e1,hr,ht⟩=>by
  have hu:=hr.length;have h2:=DList.drop n ht
  have e2:xs.drop ((n+1)*e.size)=v.drop (n*e.size):=by rw[e1,DP,Ks,IH (l:=u) (by omega),Cp];congr 1;omega
  rw[e2];simpa using h2
theorem Oe{c:C}{cs:List C}{b:Nat}(h:b∈Bg cs):b∈Bg (c::cs):=by cases c<;>simp_all [Bg]
theorem Rows.tail{E:Env}{blp:Nat->Option Blk}{okp:Nat->Prop}{c:C}{cs:List C}(h:Rows E blp okp (Bg (c::cs))):Rows E blp okp (Bg cs):=
 ⟨h.ok,λb hb=>h.row b (Oe hb),λb hb=>h.mat b (Oe hb),λb hb=>h.tree b (Oe hb)⟩
theorem Rows.sub{E:Env}{blp:Nat->Option Blk}{okp:Nat->Prop}{a b:List Nat}(h:Rows E blp okp a)(hs:∀x∈b,x∈a):Rows E blp okp b:=⟨h.ok,λx hx=>h.row x (hs x hx),λx hx=>h.mat x (hs x hx),λx hx=>h.tree x (hs x hx)⟩
theorem KO:∀(cs ds:List C),Bg (cs++ds)=Bg cs++Bg ds
 |[],_=>rfl
 |c::cs,ds=>by cases c<;>simp[Bg,KO cs ds]
def BX(E:Env):Prop:=∀i B,E.bl i=some B->∃p,E.pl i=some p/\BRep E B p
theorem Of{E:Env}{blp:Nat->Option Blk}(hb:BX E){b ver:Nat}{e:Ty}{l:List e.den}(hsub:∀t e ver l,blp b=some (.row t e ver l)->E.bl b=some (.row t e ver l))(h:DS blp b ver e=some l):∃t sv xs,blp b=some (.row t e ver l)/\E.bl b=some (.row t e ver l)/\E.pl b=some (.row sv [])/\DList (λx u=>DRep E.w E.ok e x u) l xs/\E.w.ownsRow E.base t e.size sv l.length xs:=by
 unfold DS at h;split at h
 ·rename_i t e' ver' l' hbl0
  have hbl:=hsub _ _ _ _ hbl0;cases hver:Nat.beq ver ver' with
  |false=>rw[hver]at h;cases h
  |true=>
   have:ver=ver':=Ag hver;subst this;simp only[hver,Af]at h;split at h
   ·rename_i he
    subst he;simp only[Ac]at h;subst h;obtain⟨p,hp',hB⟩:=hb b _ hbl;cases p with
    |cells _=>exact hB.elim
    |row sv svs=>obtain⟨h0,xs,hd,ho⟩:=hB;subst h0;exact⟨t,sv,xs,hbl0,hbl,hp',hd,ho⟩
   ·cases h
 ·cases h
theorem SS{E:Env}{blp:Nat->Option Blk}(hb:BX E){b ver:Nat}{e:Ty}{l:List e.den}(hsub:∀t e ver l,blp b=some (.row t e ver l)->E.bl b=some (.row t e ver l))(h:DS blp b ver e=some l){v:Value}(hv:CRep E (.row b ver) v):∃t sv xs,E.bl b=some (.row t e ver l)/\E.pl b=some (.row sv [])/\v=sv/\DList (λx u=>DRep E.w E.ok e x u) l xs/\E.w.ownsRow E.base t e.size sv l.length xs:=by
 obtain⟨t,sv,xs,_,hbl,hp,hd,ho⟩:=Of hb hsub h;obtain⟨h1,sv2,svs2,hp2,hcur⟩:=hv;rw[hp]at hp2;injection hp2 with hp2;injection hp2 with hp2 _;subst hp2;exact⟨t,sv,xs,hbl,hp,(hcur t e ver l hbl).2 rfl,hd,ho⟩
theorem SU{w:World}{okI:Nat->Prop}{base:Nat}{t:TypeId}{e:Ty}{l:List e.den}{sv v:Value}{xs:List Value}{i j:Nat}(hij:i<=j/\j<=l.length/\∃A A' n c,sv=.slice A n c/\v=.slice A' (j-i) (c-i)/\(i<j->A'=A.map (·.add (i*e.size)))/\(i=0->A'=A))(hd:DList (λx u=>DRep w okI e x u) l xs)(ho:w.ownsRow base t e.size sv l.length xs):∃A c ys,v=.slice A ((l.take j).drop i).length c/\((l.take j).drop i).length<=c/\c<=maxLen/\DList (λx u=>DRep w okI e x u) ((l.take j).drop i) ys/\∀k u,ys[k]?=some u->∃ad,A=some ad/\sv.ownBlock=some ad.block/\w.cell? (ad.add k)=some u:=by
 obtain⟨h1,h2,A,A',n,c,hsv,hv,hA,_⟩:=hij;have hlen:((l.take j).drop i).length=j-i:=by simp;omega
 have hown:=ho
 have hc:l.length<=c/\c<=maxLen:=by
  rcases ho.2 with⟨e1,hn⟩|⟨g,cap,cur,e1,hbase,hh,hnc,hcm,hcs,htake⟩
  ·rw[hsv]at e1
   injection e1 with _ _ e3;subst e3;exact⟨by omega,by simp[maxLen]⟩
  ·rw[hsv]at e1
   injection e1 with _ _ e3;subst e3;exact⟨hnc,hcm⟩
 refine⟨A',c-i,(xs.take (j*e.size)).drop (i*e.size),by rw[hv,hlen],by rw[hlen];omega,by omega,(hd.take j).drop i,λk u hk=>?_⟩;rw[H7,GP]at hk;split at hk
 ·rename_i hlt
  have hij:i<j:=by
   rcases HD i j with h|h
   ·exact h
   ·have:j*e.size<=i*e.size:=FZ _ h
    omega
  rcases ho.2 with⟨e1,hn⟩|⟨g,cap,cur,e1,hbase,hh,hnc,hcm,hcs,htake⟩
  ·have:l=[]:=D5 hn
   subst this;simp at h2;omega
  ·rw[hsv]at e1
   injection e1 with e1 _ _;subst e1;refine⟨(⟨g,0,none⟩:Addr).add (i*e.size),hA hij,by rw[hsv,Ge];rfl,?_⟩;rw[GX];exact hown.cells (g:=g) (by rw[hsv];rfl) _ _ hk
 ·cases hk
theorem Zn{α:Type}{R:α->List Value->Prop}:∀{l:List α}{vs:List Value},vs.length=l.length->(∀(i:Nat) x v,l[i]?=some x->vs[i]?=some v->R x [v])->DList R l vs
 |[],vs,h,_=>by simp only[DList];exact D5 h
 |x::l,vs,h,hr=>by
  cases vs with
  |nil=>simp at h
  |cons v vs=>exact⟨[v],vs,rfl,hr 0 x v rfl rfl,Zn (by simpa using h) λi y u hy hu=>hr (i+1) y u (by simpa using hy) (by simpa using hu)⟩
theorem uI{w:World}{base:Nat}{okp:Nat->Prop}{t:TypeId}{e:Ty}{l:List e.den}{sv:Value}{xs:List Value}{n:Nat}(hg:∀g,sv.ownBlock=some g->okp g)(hd:DList (λx u=>DRep w okp e x u) l xs)(ho:w.ownsRow base t n sv l.length xs):DRep w okp (.slice e) l [sv]:=by
 simp only[DRep];have hown:=ho;rcases ho.2 with⟨rfl,hn⟩|⟨g,cap,cur,rfl,hbase,hh,hnc,hcm,hcs,htake⟩
 ·have hl:l=[]:=D5 hn
  subst hl;simp only[DList]at hd;subst hd;exact⟨none,0,[],rfl,by simp,by simp[maxLen],rfl,by simp⟩
 ·refine⟨some ⟨g,0,none⟩,cap,xs,rfl,hnc,hcm,hd,λj u hj=>⟨_,rfl,hg g rfl,hown.cells (g:=g) rfl j u hj⟩⟩
theorem SV{E:Env}{okp:Nat->Prop}(hok:∀g,E.ok g->okp g){t:TypeId}{e:Ty}{l:List e.den}{sv:Value}{xs:List Value}(hg:∀g,sv.ownBlock=some g->okp g)(hd:DList (λx u=>DRep E.w E.ok e x u) l xs)(ho:E.w.ownsRow E.base t e.size sv l.length xs):DRep E.w okp (.slice e) l [sv]:=by
 simp only[DRep];have hd':DList (λx u=>DRep E.w okp e x u) l xs:=hd.mono λx u hu=>hu.mono (λg h1 _=>⟨hok g h1,rfl⟩);have hown:=ho;rcases ho.2 with⟨rfl,hn⟩|⟨g,cap,cur,rfl,hbase,hh,hnc,hcm,hcs,htake⟩
 ·have hl:l=[]:=D5 hn
  subst hl;simp only[DList]at hd';subst hd';exact⟨none,0,[],rfl,by simp,by simp[maxLen],rfl,by simp⟩
 ·refine⟨some ⟨g,0,none⟩,cap,xs,rfl,hnc,hcm,hd',λj u hj=>⟨_,rfl,hg g rfl,hown.cells (g:=g) rfl j u hj⟩⟩
theorem uJ{E:Env}{blp:Nat->Option Blk}{okp:Nat->Prop}(hok:∀g,E.ok g->okp g)(hb:BX E){b ver:Nat}{e:Ty}{l:List e.den}(hsub:∀t et e ver iver hole l,blp b=some (.mat t et e ver iver hole l)->E.bl b=some (.mat t et e ver iver hole l)/\∀sv svs g,E.pl b=some (.row sv svs)->(Pl.row sv svs).has g->okp g)(h:NN blp b ver e=some l){v:Value}(hv:CRep E (.mat b ver) v):DRep E.w okp (.slice e) l [v]:=by
 cases e with
 |slice e=>
  simp only[NN]at h;unfold YZ at h;split at h
  ·rename_i t et e' ver' iver l' hbl0
   cases hver:Nat.beq ver ver' with
   |false=>rw[hver]at h;cases h
   |true=>
    have:ver=ver':=Ag hver;subst this;simp only[hver,Af]at h;split at h
    ·rename_i he
     subst he;simp only[Ac]at h;subst h;obtain⟨hbl,hgs⟩:=hsub _ _ _ _ _ _ _ hbl0;obtain⟨h1,sv,svs,hp,hcur⟩:=hv;have hvs:=(hcur _ _ _ _ _ _ _ hbl).2 rfl;subst hvs;obtain⟨p,hp',hB⟩:=hb b _ hbl;rw[hp]at hp';injection hp' with hp';subst hp';have hM:MatOk E t et e' none l' v svs:=hB;obtain⟨vs,ho,hvs⟩:=hM.outer
     have hget:∀i,i<l'.length->∃s,svs[i]?=some (some s):=λi hi=>by
      have hi2:i<svs.length:=by rw[hM.len];exact hi
      have h2:svs[i]?=some svs[i]:=Bx hi2;cases hs:svs[i]with
      |some s=>exact⟨s,by rw[h2,hs]⟩
      |none=>rw[hs]at h2;exact absurd (hM.hole i h2) (by simp)
     have hvl:vs.length=l'.length:=by rw[ho.1,Kv]
     have hd:DList (λ(x:List e'.den) u=>DRep E.w okp (.slice e') x u) l' vs:=Zn hvl λi x u hx hu=>by have hi:=(BI.1 hx).1;obtain⟨s,hs⟩:=hget i hi;have:=hvs i s hs;rw[hu]at this;injection this with this;subst this;obtain⟨xs,hd,ho⟩:=hM.inner i u x hs hx;exact SV hok (λg hg=>hgs _ _ g hp (.inr ⟨i,u,hs,hg⟩)) hd ho
     have hd2:DList (λx u=>DRep E.w okp (.slice e') x u) l' vs:=hd;exact uI (λg hg=>hgs _ _ g hp (.inl hg)) hd2 ho
    ·cases h
  ·cases h
 |_=>simp[NN]at h
theorem uK{blp:Nat->Option Blk}{b ver:Nat}{e:Ty}{l:List e.den}(h:Kz blp b ver e=some l):∃t o iver,∃(l':List o.ty.den)(he:o.ty=e),blp b=some (.tree t o ver iver none l')/\l=he▸l':=by
 unfold Kz at h;split at h
 ·rename_i t o ver' iver l' hbl
  cases hv:Nat.beq ver ver' with
  |false=>rw[hv]at h;cases h
  |true=>
   have:=Ag hv;subst this;rw[hv,Af]at h;split at h
   ·rename_i he
    simp only[Ac]at h;exact⟨t,o,iver,l',he,hbl,h.symm⟩
   ·cases h
 ·cases h
theorem Og{E:Env}(hb:BX E){b ver:Nat}{t:TypeId}{o:OT}{iver:Nat}{h:Option Path}{l:List o.ty.den}(hbl:E.bl b=some (.tree t o ver iver h l)){v:Value}(hv:CRep E (.trow b ver []) v):∃svs,E.pl b=some (.row v svs)/\TreeOk E t o h l v svs:=by
 obtain⟨_,sv,svs,hpl,hcur⟩:=hv;obtain⟨p,hp,hB⟩:=hb b _ hbl;rw[hpl]at hp;injection hp with hp;subst hp;have hT:TreeOk E t o h l sv svs:=hB;obtain⟨n,_,h2⟩:=(hcur _ _ _ _ _ _ hbl).2 rfl (λq hq hpre=>hT.top (by rw[hq,List.prefix_nil.1 hpre]));have h3:sv=v:=by simpa [nix]using h2
 subst h3;exact⟨svs,hpl,hT⟩
theorem Zo{E:Env}{blp:Nat->Option Blk}{okp:Nat->Prop}(hok:∀g,E.ok g->okp g)(hb:BX E){b ver:Nat}{e:Ty}{l:List e.den}(hr:∀t e ver iver h l,blp b=some (.tree t e ver iver h l)->E.bl b=some (.tree t e ver iver h l)/\∀sv svs g,E.pl b=some (.row sv svs)->(Pl.row sv svs).has g->okp g)(h:Kz blp b ver e=some l){v:Value}(hv:CRep E (.trow b ver []) v):DRep E.w okp (.slice e) l [v]:=by
 obtain⟨t,o,iver,l',he,hbl,rfl⟩:=uK h;subst he;obtain⟨hbl',hown⟩:=hr _ _ _ _ _ _ hbl;obtain⟨svs,hpl,hT⟩:=Og hb hbl' hv;obtain⟨hv0,F,h1,h2,_⟩:=hT.rep;exact Owns.data (o:=.r t o) hok (λs hs g hg=>hown _ _ g hpl (Placed.has h2 hs hg)) h1
theorem HO{E:Env}{blp:Nat->Option Blk}{okp:Nat->Prop}(hb:BX E):∀{τ:Ty}{cs:List C}{vs:List Value}{x:τ.den}{r:List C},Rows E blp okp (Bg cs)->CReps E cs vs->pack blp τ cs=some (x,r)->∃us ws,vs=us++ws/\DRep E.w okp τ x us/\CReps E r ws/\(∃ds,cs=ds++r)
 |.bool,cs,vs,x,r,hr,h,hp=>by
  cases cs with
  |nil=>simp[pack]at hp
  |cons c cs=>
   cases c<;>simp only[pack]at hp<;>try(cases hp;done)
   simp only[Ac,AN]at hp;obtain⟨hp1,hp2⟩:=hp;subst hp1 hp2;obtain⟨v,vs',e,h1,h2⟩:=h;simp only[CRep]at h1;subst e h1;exact⟨[_],vs',rfl,rfl,h2,⟨[_],rfl⟩⟩
 |.int k,cs,vs,x,r,hr,h,hp=>by
  cases cs with
  |nil=>simp[pack]at hp
  |cons c cs=>
   cases c<;>simp only[pack]at hp<;>try(cases hp;done)
   rename_i k' n;split at hp
   ·rename_i hk
    subst hk;simp only[Ac,AN]at hp;obtain⟨hp1,hp2⟩:=hp;subst hp1 hp2;obtain⟨v,vs',e,h1,h2⟩:=h;simp only[CRep]at h1;subst e h1;exact⟨[_],vs',rfl,rfl,h2,⟨[_],rfl⟩⟩
   ·cases hp
 |.err,cs,vs,x,r,hr,h,hp=>by
  cases cs with
  |nil=>simp[pack]at hp
  |cons c cs=>
   cases c<;>simp only[pack]at hp<;>try(cases hp;done)
   simp only[Ac,AN]at hp;obtain⟨hp1,hp2⟩:=hp;subst hp1 hp2;obtain⟨v,vs',e,h1,h2⟩:=h;subst e;exact⟨[v],vs',rfl,⟨v,rfl,h1⟩,h2,⟨[_],rfl⟩⟩
 |.str,cs,vs,x,r,hr,h,hp=>by
  cases cs with
  |nil=>simp[pack]at hp
  |cons c cs=>
   cases c<;>simp only[pack]at hp<;>try(cases hp;done)
   simp only[Ac,AN]at hp;obtain⟨hp1,hp2⟩:=hp;subst hp1 hp2;obtain⟨v,vs',e,h1,h2⟩:=h;simp only[CRep]at h1;subst e h1;exact⟨[_],vs',rfl,rfl,h2,⟨[_],rfl⟩⟩
 |.unit,cs,vs,x,r,hr,h,hp=>by simp only[pack,Ac,AN]at hp;obtain⟨_,hp2⟩:=hp;subst hp2;exact⟨[],vs,rfl,rfl,h,⟨[],rfl⟩⟩
 |.prod a b,cs,vs,x,r,hr,h,hp=>by
  simp only[pack]at hp;split at hp
  ·cases hp
  ·rename_i y r1 h1
   split at hp
   ·cases hp
   ·rename_i z r2 h2
    simp only[Ac,AN]at hp;obtain⟨hp1,hp2⟩:=hp;subst hp1 hp2;obtain⟨us,ws,e1,d1,c1,ds1,hc1⟩:=HO hb hr h h1;have hr1:Rows E blp okp (Bg r1):=hr.sub λb hbm=>by rw[hc1,KO];exact BM _ hbm
    obtain⟨us2,ws2,e2,d2,c2,ds2,hc2⟩:=HO hb hr1 c1 h2;refine⟨us++us2,ws2,by rw[e1,e2,AW],?_,c2,⟨ds1++ds2,by rw[hc1,hc2,AW]⟩⟩;simp only[DRep];exact⟨us,us2,rfl,d1,d2⟩
 |.slice e,cs,vs,x,r,hr,h,hp=>by
  cases cs with
  |nil=>simp[pack]at hp
  |cons c cs=>
   obtain⟨v,vs',e1,h1,h2⟩:=h;subst e1;rcases Classical.em (∃b ver p,c=.trow b ver p)with⟨b,ver,p,rfl⟩|hnt
   ·cases p with
    |cons _ _=>simp[pack]at hp
    |nil=>
     simp only[pack]at hp;split at hp
     ·cases hp
     ·rename_i l hl
      simp only[Ac,AN]at hp;obtain⟨hp1,hp2⟩:=hp;subst hp1 hp2;exact⟨[v],vs',rfl,Zo hr.ok hb (hr.tree b (by simp[Bg])) hl h1,h2,⟨[_],rfl⟩⟩
   cases c<;>first|exact absurd ⟨_,_,_,rfl⟩ hnt|skip
   all_goals simp only[pack]at hp
   all_goals try(cases hp;done)
   ·rename_i e' l
    split at hp
    ·rename_i he
     subst he;simp only[Ac,AN]at hp;obtain⟨hp1,hp2⟩:=hp;subst hp1 hp2;exact⟨[v],vs',rfl,DRep.mono (τ:=.slice _) (λg hg _=>⟨hr.ok g hg,rfl⟩) h1,h2,⟨[_],rfl⟩⟩
    ·cases hp
   ·simp only[Ac,AN]at hp
    obtain⟨hp1,hp2⟩:=hp;subst hp1 hp2;simp only[CRep]at h1;subst h1;refine⟨[_],vs',rfl,?_,h2,⟨[_],rfl⟩⟩;simp only[DRep];exact⟨none,0,[],rfl,by simp,by simp[maxLen],rfl,by simp⟩
   ·rename_i b ver
    split at hp
    ·cases hp
    ·rename_i l hl
     simp only[Ac,AN]at hp;obtain⟨hp1,hp2⟩:=hp;subst hp1 hp2;have hmem:b∈Bg (C.row b ver::cs):=by simp[Bg]
     obtain⟨t,sv,xs,hbl,hpl,rfl,hd,ho⟩:=SS hb (λt e ver l hB=>(hr.row b hmem t e ver l hB).1) hl h1
     have hbp:∃t e ver l,blp b=some (.row t e ver l):=by
      unfold DS at hl;split at hl
      ·rename_i h0;exact⟨_,_,_,_,h0⟩
      ·cases hl
     obtain⟨t',e',ver',l',hB⟩:=hbp;exact⟨[v],vs',rfl,SV hr.ok (λg hg=>(hr.row b hmem t' e' ver' l' hB).2 v g hpl hg) hd ho,h2,⟨[_],rfl⟩⟩
   ·rename_i b ver
    split at hp
    ·cases hp
    ·rename_i l hl
     simp only[Ac,AN]at hp;obtain⟨hp1,hp2⟩:=hp;subst hp1 hp2;have hmem:b∈Bg (C.mat b ver::cs):=by simp[Bg]
     exact⟨[v],vs',rfl,uJ hr.ok hb (hr.mat b hmem) hl h1,h2,⟨[_],rfl⟩⟩
   ·rename_i b ver i j
    split at hp
    ·cases hp
    ·rename_i l hl
     simp only[Ac,AN]at hp;obtain⟨hp1,hp2⟩:=hp;subst hp1 hp2;have hmem:b∈Bg (C.sub b ver i j::cs):=by simp[Bg]
     obtain⟨t,sv,xs,hB,hbl,hpl,hd,ho⟩:=Of hb (λt e ver l hB=>(hr.row b hmem t e ver l hB).1) hl;obtain⟨_,sv2,svs2,hpl2,hcur⟩:=h1;rw[hpl]at hpl2;injection hpl2 with hpl2;injection hpl2 with hpl2 _;subst hpl2;obtain⟨A,c,ys,q1,q2,q3,q4,q5⟩:=SU ((hcur _ _ _ _ hbl).2 rfl) hd ho;refine⟨[v],vs',rfl,?_,h2,⟨[_],rfl⟩⟩;simp only[DRep];refine⟨A,c,ys,by rw[q1],q2,q3,q4.mono λx u hu=>hu.mono (λg h1 _=>⟨hr.ok g h1,rfl⟩),λk u hk=>?_⟩;obtain⟨ad,r1,r2,r3⟩:=q5 k u hk;exact⟨ad,r1,(hr.row b hmem _ _ _ _ hB).2 sv _ hpl r2,r3⟩
theorem HP{E:Env}{blp:Nat->Option Blk}{okp:Nat->Prop}(hb:BX E){τ:Ty}{cs:List C}{vs:List Value}{x:τ.den}(hr:Rows E blp okp (Bg cs))(h:CReps E cs vs)(hp:Fc blp τ cs=some x):DRep E.w okp τ x vs:=by
 unfold Fc at hp;split at hp
 ·rename_i y hy
  simp only[Ac]at hp;subst hp;obtain⟨us,ws,e,d,c,_⟩:=HO hb hr h hy;simp only[CReps]at c;subst c;simpa [e]using d
 ·cases hp
theorem Oh{E:Env}{blp:Nat->Option Blk}{okp:Nat->Prop}(hb:BX E){e:Ty}:∀{n:Nat}{cs:List C}{vs:List Value}{l:List e.den},Rows E blp okp (Bg cs)->CReps E cs vs->EB blp e n cs=some l->DList (λx u=>DRep E.w okp e x u) l vs/\l.length=n
 |0,[],vs,l,_,h,hp=>by simp only[EB,Ac]at hp;subst hp;simp only[CReps]at h;exact⟨h,rfl⟩
 |0,_::_,_,_,_,_,hp=>by simp[EB]at hp
 |n+1,cs,vs,l,hr,h,hp=>by
  simp only[EB]at hp;split at hp
  ·rename_i x r hx
   split at hp
   ·rename_i l' hl'
    simp only[Ac]at hp;subst hp;obtain⟨us,ws,e1,d1,c1,ds,hc⟩:=HO hb hr h hx;have hr1:Rows E blp okp (Bg r):=hr.sub λb hbm=>by rw[hc,KO];exact BM _ hbm
    obtain⟨h1,h2⟩:=Oh hb hr1 c1 hl';exact⟨⟨us,ws,e1,d1,h1⟩,by simp[h2]⟩
   ·cases hp
  ·cases hp
theorem RelB.blksOk{P:Program}{ok0:OK0 P}{base:Nat}{pl:Nat->Option Pl}{bl:Nat->Option Blk}{w:World}(h:RelB ok0 base pl bl w):BX (Ae ok0 base pl bl w):=h.blks
theorem Rows.none(E:Env)(ids:List Nat):Rows E (λ_=>none) E.ok ids:=⟨λ_ h=>h,λ_ _ _ _ _ _ h=>(by cases h),λ_ _ _ _ _ _ _ _ _ h=>(by cases h),λ_ _ _ _ _ _ _ _ h=>(by cases h)⟩
section
variable{P:Program}{o:Oper}{ρ:Operand->V}{bl:Nat->Option Blk}{β:Type}{r:β}
def Sound(P:Program)(o:Oper)(ρ:Operand->V)(bl:Nat->Option Blk)(kk:K β)(r:β):Prop:=
 ∃v rd wr,kk v rd wr=some r/\∀bl2,(∀b∈rd,bl2 b=bl b)->OpOk P o ρ bl2 v wr
theorem Sound.pure{kk:K β}{v:V}{rd:List Nat}(hk:kk v rd []=some r)(h:∀bl2,(∀b∈rd,bl2 b=bl b)->∀(ok0:OK0 P)(base:Nat)(pl:Nat->Option Pl)(w:World)(a:Act),RelB ok0 base pl bl2 w->(∀x∈o.op.operands,VRep (Ae ok0 base pl bl2 w) (ρ x) (a.eval x))->∃val,(execOp a.eval o).run P w=.ok (.value val) w/\VRep (Ae ok0 base pl bl2 w) v val):Sound P o ρ bl kk r:=
 ⟨v,rd,[],hk,λbl2 hb=>OpOk.of_pure (h bl2 hb)⟩
theorem Oi{kk:K β}{x:Operand}(ho:o.op=.move x\/o.op=.assign x)(hk:kk (ρ x) [] []=some r):Sound P o ρ bl kk r:=by
 refine Sound.pure hk λbl2 _ ok0 base pl w a hr hx=>⟨a.eval x,?_,hx x ?_⟩
 ·rcases ho with ho|ho<;>simp[execOp,ho]
 ·rcases ho with ho|ho<;>simp[ho,Op.operands]
theorem uL{kk:K β}{c a b:Operand}(ho:o.op=.pick c a b){g:Bool}(hc:ρ c=.c (.bool g))(hk:cond g (kk (ρ a) [] []) (kk (ρ b) [] [])=some r):Sound P o ρ bl kk r:=by
 have hrun:∀(bl2:Nat->Option Blk)(ok0:OK0 P)(base:Nat)(pl:Nat->Option Pl)(w:World)(act:Act),(∀x∈o.op.operands,VRep (Ae ok0 base pl bl2 w) (ρ x) (act.eval x))->
   (execOp act.eval o).run P w=.ok (.value (if g then act.eval a else act.eval b)) w:=by
  intro bl2 ok0 base pl w act hx;have h1:=hx c (by simp[ho,Op.operands]);rw[hc]at h1;have h2:act.eval c=.bool g:=h1;simp[execOp,ho,h2,asBool]
 cases g with
 |true=>exact Sound.pure hk λbl2 _ ok0 base pl w act hr hx=>⟨_,hrun bl2 ok0 base pl w act hx,by simpa using hx a (by simp[ho,Op.operands])⟩
 |false=>exact Sound.pure hk λbl2 _ ok0 base pl w act hr hx=>⟨_,hrun bl2 ok0 base pl w act hx,by simpa using hx b (by simp[ho,Op.operands])⟩
theorem Zp{kk:K β}{nx:Nat}{t:TypeId}{cs:List C}(hk:IZ bl nx t cs kk=some r)(hrun:∀(bl2:Nat->Option Blk)(ok0:OK0 P)(base:Nat)(pl:Nat->Option Pl)(w:World)(a:Act),RelB ok0 base pl bl2 w->(∀x∈o.op.operands,VRep (Ae ok0 base pl bl2 w) (ρ x) (a.eval x))->∃vs:List Value,(execOp a.eval o).run P w=.ok (.value (.pointer (some ⟨w.heap.size,0,none⟩))) (w.alloc (.cells vs.toArray t))/\CReps (Ae ok0 base pl bl2 w) cs vs):Sound P o ρ bl kk r:=by
 unfold IZ at hk;split at hk
 ·rename_i hn
  refine⟨_,_,_,hk,λbl2 hb=>?_⟩;have hn2:bl2 nx=none:=(hb nx (by simp)).trans hn;intro ok0 base pl w a hr hx K Q hK;obtain⟨vs,h1,h2⟩:=hrun bl2 ok0 base pl w a hr hx;have hg:w.grownBy (w.alloc (.cells vs.toArray t)) none:=World.grownBy_alloc w _ none;have hp:∀g,(Pl.cells w.heap.size).has g->w.heap.size<=g:=λg hgg=>DQ hgg;have hs:Step pl bl2 w (upd pl nx (.cells w.heap.size)) (upd bl2 nx (.cells t cs)) (w.alloc (.cells vs.toArray t)):=Step.new hr hn2 hg hp;refine CB h1 (hK _ (upd pl nx (.cells w.heap.size)) _ ?_ hs ?_)
  ·exact RelB.new hr hn2 hg hp ⟨vs,heap_alloc_new w _,h2.mono hs.ext⟩
  ·exact⟨w.heap.size,by simp[Ae,upd],rfl⟩
 ·cases hk
theorem uM{T:TypeId->Option TI}(hT:TOk P T){kk:K β}{nx:Nat}{t:TypeId}(ho:o.op=.alloc t){ti:TI}(ht:T t=some ti)(hk:IZ bl nx t ti.zero kk=some r):Sound P o ρ bl kk r:=by
 obtain⟨i,d,z,f⟩:=hT.facts ht;refine Zp hk λbl2 ok0 base pl w a hr hx=>⟨z.cells.toList,?_,?_⟩
 ·simp[execOp,ho,Instr.alloc,zeroValue,typeInfo,f.info,f.zero,newVar,newRow]
 ·rw[f.zeroC]
  exact Hb f.one
theorem uN{kk:K β}{nx:Nat}{t:TypeId}{x:Operand}(ho:o.op=.box t x){cs:List C}(hc:(ρ x).cells=some cs)(hk:IZ bl nx t cs kk=some r):Sound P o ρ bl kk r:=by
 refine Zp hk λbl2 ok0 base pl w a hr hx=>⟨(a.eval x).cells.toList,?_,?_⟩
 ·simp[execOp,ho,Instr.box,newVar,newRow]
 ·exact VRep.cells_of hc (hx x (by simp[ho,Op.operands]))
end
end Go.Lift
namespace Go.Lift
open Go.RowKit
theorem Zq{α:Type}{a b:Nat}(x y:α):(bif Nat.blt a b then x else y)=if a<b then x else y:=by
 cases h:Nat.blt a b with
 |true=>rw[if_pos (by simpa using h)];rfl
 |false=>rw[if_neg (λhlt=>by rw[show Nat.blt a b=true by simpa using hlt]at h;cases h)];rfl
theorem Gk:∀{o:OT}{x:o.ty.den}{k:Nat}{p:Path}{n:Cg},AM o x k p=some n->Ej o x k p=some n
 |.d _,_,_,_,_,h=>by cases h
 |.p a b,x,k,p,n,h=>by
  simp only[AM]at h;simp only[Ej,Zq];split at h
  ·rename_i hk;rw[if_pos hk];exact Gk h
  ·rename_i hk;rw[if_neg hk];exact Gk h
 |.r _ _,_,0,[],_,h=>h
 |.r _ e,l,0,(i,k)::p,n,h=>by
  simp only[AM]at h;simp only[Ej];split at h
  ·rename_i x hx
   rw[show(l:List e.ty.den).getD i e.ty.dflt=x by rw[List.getD,hx];rfl];exact Gk h
  ·cases h
 |.r _ _,_,_+1,_,_,h=>by cases h
theorem Jf:∀{o:OT}{x:o.ty.den}{k:Nat}{p:Path}{n:Cg}{e':OT}{y:List e'.ty.den},AM o x k p=some n->setD o x k p e' y=Dm o x k p e' y
 |.d _,_,_,_,_,_,_,h=>by cases h
 |.p a b,x,k,p,n,_,_,h=>by
  simp only[AM]at h;simp only[setD,Dm,Zq];split at h
  ·rename_i hk;rw[if_pos hk,if_pos hk,Jf h]
  ·rename_i hk;rw[if_neg hk,if_neg hk,Jf h]
 |.r _ _,_,0,[],_,_,_,h=>rfl
 |.r _ e,l,0,(i,k)::p,n,_,_,h=>by
  simp only[AM]at h;simp only[setD,Dm];split at h
  ·rename_i x hx
   rw[show(l:List e.ty.den).getD i e.ty.dflt=x by rw[List.getD,hx];rfl,Jf h]
  ·cases h
 |.r _ _,_,_+1,_,_,_,_,h=>by cases h
theorem Oj:∀{o:OT}{x:o.ty.den}{k:Nat}{p:Path}{n:Cg}{i:Nat}{y:n.1.2.ty.den},AM o x k p=some n->n.2[i]?=some y->∀j,AM o x k (p++[(i,j)])=AM n.1.2 y j []
 |.d _,_,_,_,_,_,_,h,_,_=>by cases h
 |.p a b,x,k,p,n,i,y,h,hy,j=>by
  simp only[AM]at h⊢;split at h
  ·rename_i hk;rw[if_pos hk];exact Oj h hy j
  ·rename_i hk;rw[if_neg hk];exact Oj h hy j
 |.r _ _,_,0,[],_,i,y,h,hy,j=>by simp only[AM,Ac]at h;subst h;simp only[Cp,AM];rw[show(_:List _)[i]?=some y from hy]
 |.r _ e,l,0,(i',k)::p,n,i,y,h,hy,j=>by
  simp only[AM,Cw]at h⊢;split at h
  ·rename_i x hx
   exact Oj h hy j
  ·cases h
 |.r _ _,_,_+1,_,_,_,_,h,_,_=>by cases h
theorem KP:∀{o:OT}{x:o.ty.den}{k:Nat}{p:Path}{n:Cg}{i:Nat}{y:n.1.2.ty.den},AM o x k p=some n->n.2[i]?=some y->∀j,nix o x k (p++[(i,j)])=nix o x k p+1+((n.2.take i).map (cnt n.1.2)).sum+nix n.1.2 y j []
 |.d _,_,_,_,_,_,_,h,_,_=>by cases h
 |.p a b,x,k,p,n,i,y,h,hy,j=>by
  simp only[AM]at h;simp only[nix];split at h
  ·rename_i hk;rw[if_pos hk,if_pos hk];exact KP h hy j
  ·rename_i hk;rw[if_neg hk,if_neg hk,KP h hy j];omega
 |.r _ _,_,0,[],_,i,y,h,hy,j=>by simp only[AM,Ac]at h;subst h;simp only[Cp,nix];rw[show(_:List _)[i]?=some y from hy]
 |.r _ e,l,0,(i',k)::p,n,i,y,h,hy,j=>by
  simp only[AM]at h;simp only[nix,Cw];split at h
  ·rename_i x hx
   rw[KP h hy j];omega
  ·cases h
 |.r _ _,_,_+1,_,_,_,_,h,_,_=>by cases h
section
variable{E E':Env}{t:TypeId}{e:OT}
theorem TreeOk.node{l:List e.ty.den}{sv:Value}{svs:List (Option Value)}(hT:TreeOk E t e none l sv svs){p:Path}{n:Cg}(hn:AM (.r t e) l 0 p=some n):∃s Fn G1 G2,sv::svs.filterMap id=G1++(s::Fn++G2)/\G1.length=nix (.r t e) l 0 p/\(some sv::svs)=(G1++(s::Fn++G2)).map some/\(some sv::svs)[nix (.r t e) l 0 p]?=some (some s)/\Owns E.w E.ok E.base s (.r n.1.1 n.1.2) none n.2 [s] (s::Fn)/\Owns E.w E.ok E.base s (.r t e) (some (0,p)) l [sv] (G1++G2)/\(G1++(s::Fn++G2)).Pairwise (λs r=>∀g,s.ownBlock=some g->r.ownBlock≠some g):=by
 obtain⟨hv,F,h1,h2,h3⟩:=hT.rep;have h2:some sv::svs=(sv::F).map some:=h2;obtain⟨s,G1,Fn,G2,e1,e2,e3,e4⟩:=Owns.split h1 hn;have hs:svs=F.map some:=by simpa using h2
 refine⟨s,Fn,G1,G2,?_,e2,?_,?_,e3,e4,e1▸h3⟩
 ·rw[<-e1,hs];simp[List.filterMap_map]
 ·rw[<-e1];exact h2
 ·rw[h2,e1,Gc,Cu (by simp[e2])]
  simp[e2]
theorem SW(hb:BX E){b ver iver:Nat}{l:List e.ty.den}{p:Path}(hbl:E.bl b=some (.tree t e ver iver none l)){v:Value}(hv:CRep E (.trow b (tv ver iver p) p) v):∃sv svs n,E.pl b=some (.row sv svs)/\TreeOk E t e none l sv svs/\AM (.r t e) l 0 p=some n/\(some sv::svs)[nix (.r t e) l 0 p]?=some (some v):=by
 obtain⟨_,sv,svs,hpl,hcur⟩:=hv;obtain⟨q,hq,hB⟩:=hb b _ hbl;rw[hpl]at hq;injection hq with hq;subst hq;obtain⟨n,h1,h2⟩:=(hcur _ _ _ _ _ _ hbl).2 rfl (λ_ h=>by cases h);exact⟨sv,svs,n,hpl,hB,h1,h2⟩
theorem uO(hb:BX E){b ver iver:Nat}{l:List e.ty.den}{p:Path}(hbl:E.bl b=some (.tree t e ver iver none l)){v:Value}(hv:CRep E (.trow b (tv ver iver p) p) v){n:Cg}(hn:Ej (.r t e) l 0 p=some n):∃xs,E.w.ownsRow E.base n.1.1 n.1.2.ty.size v n.2.length xs:=by
 obtain⟨sv,svs,n',hpl,hT,hn',hss⟩:=SW hb hbl hv;have:=Gk hn';rw[hn]at this;injection this with this;subst this;obtain⟨s',Fn,G1,G2,_,_,_,h4,h5,_,_⟩:=hT.node hn';rw[hss]at h4;injection h4 with h4;injection h4 with h4;subst h4;obtain⟨s',xs,F',e1,_,hown,_⟩:=h5;have e1:=(F4 e1).1;subst e1;exact⟨xs,hown⟩
theorem Ol{bl:Nat->Option Blk}{b ver:Nat}{p:Path}{a:(te:TypeId×OT)×(List te.2.ty.den×(Nat×(Nat×Cg)))}(h:IQ bl b ver p=some a):bl b=some (.tree a.1.1 a.1.2 a.2.2.1 a.2.2.2.1 none a.2.1)/\ver=tv a.2.2.1 a.2.2.2.1 p/\Ej (.r a.1.1 a.1.2) a.2.1 0 p=some a.2.2.2.2:=by
 unfold IQ at h;split at h
 ·rename_i t e ver' iver l hbl
  cases hv:Nat.beq ver (tv ver' iver p)with
  |false=>rw[hv]at h;cases h
  |true=>
   rw[hv,Af]at h;split at h
   ·rename_i n hn
    simp only[Ac]at h;subst h;exact⟨hbl,Ag hv,hn⟩
   ·cases h
 ·cases h
theorem SX{b ver i:Nat}{p:Path}{hv:Value}:∀{o:OT}{x:o.ty.den}{u F:List Value}{k0:Nat},Owns E.w E.ok E.base hv o none x u F->(∀j m s,AM o x j []=some m->u[j]?=some s->F[nix o x j []]?=some s->CRep E (.trow b ver (p++[(i,k0+j)])) s)->CReps E (IP b ver p i k0 o x) u
 |.d _,_,_,_,_,h,_=>D9 h.2.1
 |.p a c,x,u,F,k0,⟨u1,u2,F1,F2,e1,e2,h1,h2⟩,hc=>by
  have h1:Owns E.w E.ok E.base hv a none x.1 u1 F1:=h1;have h2:Owns E.w E.ok E.base hv c none x.2 u2 F2:=h2;have l1:=h1.length;rw[e1];refine CReps.append (SX h1 λj m s hn hu hF=>?_) (SX h2 λj m s hn hu hF=>?_)
  ·have hj:j<u1.length:=(BI.1 hu).1
   have hj':j<a.ty.size:=by omega
   refine hc j m s (by simp only[AM,if_pos hj'];exact hn) (by rw[e1,Db hj];exact hu) ?_;simp only[nix,if_pos hj'];rw[e2,Db (BI.1 hF).1];exact hF
  ·have hj':¬(a.ty.size+j<a.ty.size):=by omega
   have:=hc (a.ty.size+j) m s (by simp only[AM,if_neg hj',GL];exact hn) (by rw[e1,Cu (by omega),l1,GL];exact hu) (by
    simp only[nix,if_neg hj',GL];rw[<-h1.cnt,e2,Cu (by omega),GL];exact hF)
   rw[show k0+a.ty.size+j=k0+(a.ty.size+j) by omega];exact this
 |.r t e,l,u,F,k0,⟨sv,xs,F',e1,e2,h,hl⟩,hc=>by rw[e1];exact⟨sv,[],rfl,hc 0 ⟨(t,e),l⟩ sv rfl (by rw[e1];rfl) (by rw[e2];rfl),rfl⟩
theorem Owns.elem{w:World}{ok:Nat->Prop}{base:Nat}{hv s:Value}{l:List e.ty.den}{Fn:List Value}(h:Owns w ok base hv (.r t e) none l [s] (s::Fn)){i:Nat}(hi:i<l.length):∃y u pre post Fu Fp Fq,l[i]?=some y/\w.ownsRow base t e.ty.size s l.length (pre++(u++post))/\pre.length=i*e.ty.size/\Fn=Fp++(Fu++Fq)/\Fp.length=((l.take i).map (Go.Lift.cnt e)).sum/\Owns w ok base hv e none y u Fu/\∀(w':World)(ok':Nat->Prop)(base':Nat)(hv':Value) y' u' Fu',(∀x u f,(∀s∈f,s∈Fp\/s∈Fq)->Owns w ok base hv e none x u f->Owns w' ok' base' hv' e none x u f)->Owns w' ok' base' hv' e none y' u' Fu'->w'.ownsRow base' t e.ty.size s l.length (pre++(u'++post))->Owns w' ok' base' hv' (.r t e) none (l.set i y') [s] (s::(Fp++(Fu'++Fq))):=by
 obtain⟨sv,xs,F',e1,e2,h,hl⟩:=h;have e1:s=sv:=by simpa using e1
 subst e1;have e2:Fn=F':=by simpa using e2
 subst e2;obtain⟨y,u,p,q,Fu,Fp,Fq,g1,g2,g3,g4,g5,⟨_,g7,_⟩,g6⟩:=OL.focus (n:=e.ty.size) (λ_ _ _ _ h=>Owns.length h) hl (i:=i) hi;rw[g2]at h;refine⟨y,u,p,q,Fu,Fp,Fq,g1,h,g3,g4,Kw e g7,by simpa using g5,λw' ok' base' hv' y' u' Fu' k1 k2 k3=>?_⟩;exact⟨s,_,_,rfl,rfl,by rw[GQ];exact k3,g6 _ y' u' Fu' (λm x u f _ hf hx=>k1 x u f hf hx) k2⟩
theorem Zr(hb:BX E){b ver iver i o:Nat}{l:List e.ty.den}{p:Path}(hbl:E.bl b=some (.tree t e ver iver none l)){v:Value}(hv:VRep E (.c (.tptr b (tv ver iver p) p i o)) v):∃sv svs n s g m c,E.pl b=some (.row sv svs)/\TreeOk E t e none l sv svs/\AM (.r t e) l 0 p=some n/\(some sv::svs)[nix (.r t e) l 0 p]?=some (some s)/\i<n.2.length/\s=.slice (some ⟨g,0,none⟩) m c/\v=.pointer (some ⟨g,i*n.1.2.ty.size+o,none⟩):=by
 obtain⟨sv,svs,ad,hpl,hv,hcur⟩:=hv;obtain⟨q,hq,hB⟩:=hb b _ hbl;rw[hpl]at hq;injection hq with hq;subst hq;obtain⟨n,s,h1,h2,h3,g,m,c,h4,rfl⟩:=(hcur _ _ _ _ _ _ hbl).2 rfl (λ_ h=>by cases h);exact⟨sv,svs,n,s,g,m,c,hpl,hB,h1,h2,h3,h4,hv⟩
theorem uP(hb:BX E){b ver iver i:Nat}{l:List e.ty.den}{p:Path}(hbl:E.bl b=some (.tree t e ver iver none l)){sv:Value}{svs:List (Option Value)}(hpl:E.pl b=some (.row sv svs))(hT:TreeOk E t e none l sv svs){n:Cg}(hn:AM (.r t e) l 0 p=some n){s:Value}(hs:(some sv::svs)[nix (.r t e) l 0 p]?=some (some s))(hi:i<n.2.length):∃u pre post,E.w.ownsRow E.base n.1.1 n.1.2.ty.size s n.2.length (pre++(u++post))/\pre.length=i*n.1.2.ty.size/\CReps E (IP b (ver+iver) p i 0 n.1.2 (n.2.getD i n.1.2.ty.dflt)) u:=by
 obtain⟨s',Fn,G1,G2,_,h2,h3,h4,h5,_,_⟩:=hT.node hn;rw[hs]at h4;injection h4 with h4;injection h4 with h4;subst h4;obtain⟨y,u,pre,post,Fu,Fp,Fq,g1,g2,g3,g4,g5,g6,_⟩:=h5.elem hi;refine⟨u,pre,post,g2,g3,?_⟩;rw[show n.2.getD i n.1.2.ty.dflt=y by rw[List.getD,g1];rfl];refine SX g6 λj m s1 hm hu hF=>?_;rw[BW];refine⟨g6.oneCell s1 (B6 hu),sv,svs,hpl,λt1 e1 ver1 iver1 hh1 l1 hb1=>?_⟩;rw[hbl]at hb1;injection hb1 with hb1;injection hb1 with q1 q2 q3 q4 q5 q6;subst q1 q2 q3 q4 q5;simp only[Dl]at q6;subst q6;have htv:tv ver iver (p++[(i,j)])=ver+iver:=by cases p<;>rfl
 rw[htv];refine⟨Ao _,λ_ _=>⟨m,by rw[Oj hn g1];exact hm,?_⟩⟩;rw[KP hn g1,h3,C0,<-h2,<-g5,Cu (by omega)];rw[show G1.length+1+Fp.length+nix n.1.2 y j []-G1.length=(Fp.length+nix n.1.2 y j [])+1 by omega,Cw,BV,g4];have hlt:=(BI.1 hF).1;rw[AW,Cu (by omega),GL,AW,Db hlt,hF];rfl
def Same:(o:OT)->o.ty.den->o.ty.den->Prop
 |.d _,_,_=>True
 |.p a b,x,y=>Same a x.1 y.1/\Same b x.2 y.2
 |.r _ e,l,l'=>List.length l'=List.length l/\∀(i:Nat)(x x':e.ty.den),(l:List e.ty.den)[i]?=some x->(l':List e.ty.den)[i]?=some x'->Same e x x'
theorem Same.refl:∀(o:OT)(x:o.ty.den),Same o x x
 |.d _,_=>trivial
 |.p a b,x=>⟨Same.refl a x.1,Same.refl b x.2⟩
 |.r _ e,l=>⟨rfl,λi x x' h h'=>by rw[h]at h';injection h' with h';subst h';exact Same.refl e x⟩
theorem Zs{e:OT}(ih:∀x x',Same e x x'->cnt e x'=cnt e x){l l':List e.ty.den}(hl:l'.length=l.length)(h:∀(i:Nat)(x x':e.ty.den),l[i]?=some x->l'[i]?=some x'->Same e x x')(m:Nat):(l'.take m).map (cnt e)=(l.take m).map (cnt e):=by
 apply Kq;intro i;simp only[C0,GP];split
 ·cases hx:l[i]? with
  |none=>rw[IF]at hx;rw[IF.2 (by omega)]
  |some x=>have hlt:=(BI.1 hx).1;rw[Bx (by omega:i<l'.length)];simp only[Cl];rw[ih x _ (h i x _ hx (Bx (by omega)))]
 ·rfl
theorem Same.cnt:∀{o:OT}{x y:o.ty.den},Same o x y->Go.Lift.cnt o y=Go.Lift.cnt o x
 |.d _,_,_,_=>rfl
 |.p a b,x,y,h=>by simp only[Go.Lift.cnt];rw[h.1.cnt,h.2.cnt]
 |.r _ e,l,l',h=>by have:=Zs (λx x' h=>Same.cnt h) h.1 h.2 (List.length l);rw[H8,Dz (by rw[h.1];exact Ao _)]at this;simp only[Go.Lift.cnt];rw[this]
theorem Same.node:∀{o:OT}{x y:o.ty.den}{k:Nat}{p:Path}{n:Cg},Same o x y->AM o x k p=some n->∃n',AM o y k p=some n'/\n'.1=n.1/\n'.2.length=n.2.length/\nix o y k p=nix o x k p
 |.d _,_,_,_,_,_,_,h=>by cases h
 |.p a b,x,y,k,p,n,hs,h=>by
  simp only[AM,nix]at h⊢;split at h
  ·rename_i hk;rw[if_pos hk,if_pos hk,if_pos hk];exact Same.node hs.1 h
  ·rename_i hk
   rw[if_neg hk,if_neg hk,if_neg hk,hs.1.cnt];obtain⟨n',h1,h2,h3,h4⟩:=Same.node hs.2 h;exact⟨n',h1,h2,h3,by rw[h4]⟩
 |.r _ _,_,_,0,[],_,hs,h=>by simp only[AM,Ac]at h;subst h;exact⟨_,rfl,rfl,hs.1,rfl⟩
 |.r _ e,l,l',0,(i,k)::p,n,hs,h=>by
  simp only[AM,nix]at h⊢;split at h
  ·rename_i x hx
   have hlt:=(BI.1 hx).1;have hl:=hs.1;have hx':(l':List e.ty.den)[i]?=some ((l':List e.ty.den)[i]'(by rw[hl];exact hlt)):=Bx _;obtain⟨n',h1,h2,h3,h4⟩:=Same.node (hs.2 i x _ hx hx') h;refine⟨n',?_,h2,h3,?_⟩
   ·rw[hx'];exact h1
   ·rw[hx']
    simp only;rw[h4,Zs (λx x' h=>Same.cnt h) hs.1 hs.2 i]
  ·cases h
 |.r _ _,_,_,_+1,_,_,_,h=>by cases h
theorem Same.set:∀{o:OT}{x:o.ty.den}{k:Nat}{p:Path}{n:Cg}{y:List n.1.2.ty.den},AM o x k p=some n->Same (.r n.1.1 n.1.2) n.2 y->Same o x (Dm o x k p n.1.2 y)
 |.d _,_,_,_,_,_,h,_=>by cases h
 |.p a b,x,k,p,n,y,h,hs=>by
  simp only[AM,Dm]at h⊢;split at h
  ·rename_i hk;rw[if_pos hk];exact⟨Same.set h hs,Same.refl _ _⟩
  ·rename_i hk;rw[if_neg hk];exact⟨Same.refl _ _,Same.set h hs⟩
 |.r _ _,_,0,[],n,y,h,hs=>by simp only[AM,Ac]at h;subst h;simp only[Dm];exact hs
 |.r _ e,l,0,(i,k)::p,n,y,h,hs=>by
  simp only[AM,Dm]at h⊢;split at h
  ·rename_i x hx
   refine⟨GQ,λj z z' hz hz'=>?_⟩;by_cases hj:i=j
   ·subst hj
    rw[hx]at hz;injection hz with hz;subst hz;rw[GM (BI.1 hx).1]at hz';injection hz' with hz';subst hz';exact Same.set h hs
   ·rw[Ga hj,hz]at hz'
    injection hz' with hz';subst hz';exact Same.refl e z
  ·cases h
 |.r _ _,_,_+1,_,_,_,h,_=>by cases h
theorem Same.leaf:∀{o:OT}{x:o.ty.den}{k:Nat}{new:List C}{y:o.ty.den},F6 o x k new=some y->Same o x y
 |.d _,_,_,_,_,_=>trivial
 |.p a b,x,k,new,y,h=>by
  simp only[F6]at h;cases h1:Nat.ble (k+new.length) a.ty.size with
  |true=>
   rw[h1,Af]at h;split at h
   ·rename_i z hz
    simp only[Ac]at h;subst h;exact⟨Same.leaf hz,Same.refl _ _⟩
   ·cases h
  |false=>
   rw[h1,AT]at h;cases h2:Nat.ble a.ty.size k with
   |false=>rw[h2]at h;cases h
   |true=>
    rw[h2,Af]at h;split at h
    ·rename_i z hz
     simp only[Ac]at h;subst h;exact⟨Same.refl _ _,Same.leaf hz⟩
    ·cases h
 |.r _ _,_,_,_,_,h=>by cases h
theorem KeepT.same{c:Prop}{l l':List e.ty.den}(h:Same (.r t e) l l')(sv:Value)(svs:List (Option Value)):KeepT c t e none none l l' sv svs svs:=λp _ ho=>⟨ho,λn hn=>by obtain⟨n',h1,h2,h3,h4⟩:=h.node hn;exact⟨n',h1,h2,h3,λs hs=>by rw[h4];exact hs⟩⟩
theorem Owns.leaf(hb:BX E){hv:Value}:∀{o:OT}{x:o.ty.den}{u F us:List Value}{k:Nat}{new:List C}{y:o.ty.den},Owns E.w E.ok E.base hv o none x u F->CReps E new us->F6 o x k new=some y->k+us.length<=u.length/\Owns E.w E.ok E.base hv o none y (u.take k++us++u.drop (k+us.length)) F
 |.d τ,x,u,F,us,k,new,y,h,hn,hs=>by
  obtain⟨h1,h2,h3⟩:=h;simp only[F6]at hs;split at hs
  ·rename_i rc hov
   obtain⟨s1,s2⟩:=KN (D9 h2) hn hov;exact⟨s2,rfl,HP hb (Rows.none _ _) s1 hs,h3⟩
  ·cases hs
 |.p a b,x,u,F,us,k,new,y,⟨u1,u2,F1,F2,e1,e2,h1,h2⟩,hn,hs=>by
  have h1:Owns E.w E.ok E.base hv a none x.1 u1 F1:=h1;have h2:Owns E.w E.ok E.base hv b none x.2 u2 F2:=h2;have l1:=h1.length;have ln:=hn.length;simp only[F6]at hs;cases hc:Nat.ble (k+new.length) a.ty.size with
  |true=>
   rw[hc,Af]at hs;have hc:=D6 hc;split at hs
   ·rename_i z hz
    simp only[Ac]at hs;subst hs;obtain⟨q1,q2⟩:=Owns.leaf hb h1 hn hz;refine⟨by rw[e1,Av];omega,_,u2,F1,F2,?_,e2,q2,h2⟩;rw[e1,H3 (by omega),Kj (by omega),<-AW]
   ·cases hs
  |false=>
   rw[hc,AT]at hs;cases hc2:Nat.ble a.ty.size k with
   |false=>rw[hc2]at hs;cases hs
   |true=>
    rw[hc2,Af]at hs;have hc2:=D6 hc2;split at hs
    ·rename_i z hz
     simp only[Ac]at hs;subst hs;obtain⟨q1,q2⟩:=Owns.leaf hb h2 hn hz;refine⟨by rw[e1,Av];omega,u1,_,F1,F2,?_,e2,h1,q2⟩;rw[e1,Kr,Dz (by omega),Ks,IH (by omega),Cp,l1];simp only[AW];rw[show k+us.length-a.ty.size=k-a.ty.size+us.length by omega]
    ·cases hs
 |.r _ _,_,_,_,_,_,_,_,_,_,hs=>by cases hs
theorem Zt{R:Value->Value->Prop}{A B C:List Value}{s:Value}(hR:∀a b,R a b->R b a)(h:(A++(s::B++C)).Pairwise R):∀r,(r∈A\/r∈B\/r∈C)->R s r:=λr hr=>by
 rw[D7]at h;obtain⟨_,h2,h3⟩:=h;rw[Cw,D8]at h2;rcases hr with hr|hr|hr
 ·exact hR _ _ (h3 r hr s (by simp))
 ·exact h2.1 r (by simp[hr])
 ·exact h2.1 r (by simp[hr])
theorem Zu(a b:Value)(h:∀g,a.ownBlock=some g->b.ownBlock≠some g):∀g,b.ownBlock=some g->a.ownBlock≠some g:=λg h1 h2=>h g h2 h1
theorem HQ{sv:Value}{svs:List (Option Value)}{F:List Value}(h:(some sv::svs)=F.map some){s:Value}(hs:s∈F){g:Nat}(hg:s.ownBlock=some g):(Pl.row sv svs).has g:=by
 have:some s∈some sv::svs:=by rw[h];exact Kp hs
 rcases AH.1 this with h1|h1
 ·injection h1 with h1;subst h1;exact .inl hg
 ·obtain⟨i,hi⟩:=II.1 h1;exact .inr ⟨i,s,hi,hg⟩
theorem TreeOk.leaf(hb:BX E){l:List e.ty.den}{sv:Value}{svs:List (Option Value)}(hT:TreeOk E t e none l sv svs){p:Path}{n:Cg}(hn:AM (.r t e) l 0 p=some n){s:Value}(hs:(some sv::svs)[nix (.r t e) l 0 p]?=some (some s)){i o:Nat}(hi:i<n.2.length){g m c:Nat}(hsv:s=.slice (some ⟨g,0,none⟩) m c){new:List C}{us:List Value}{y:n.1.2.ty.den}(hnew:CReps E new us)(hset:F6 n.1.2 (n.2.getD i n.1.2.ty.dflt) o new=some y):∃xs,E.w.ownsRow E.base n.1.1 n.1.2.ty.size s n.2.length xs/\i*n.1.2.ty.size+o+us.length<=xs.length/\∀E',Ext E E'->E'.base=E.base->(∀g',(Pl.row sv svs).has g'->g'≠g->E'.w.heap[g']?=E.w.heap[g']?)->E'.w.ownsRow E.base n.1.1 n.1.2.ty.size s n.2.length (xs.take (i*n.1.2.ty.size+o)++us++xs.drop (i*n.1.2.ty.size+o+us.length))->TreeOk E' t e none (setD (.r t e) l 0 p n.1.2 (n.2.set i y)) sv svs:=by
 obtain⟨s',Fn,G1,G2,_,h2,h3,h4,h5,h6,h7⟩:=hT.node hn;rw[hs]at h4;injection h4 with h4;injection h4 with h4;subst h4;obtain⟨y0,u,pre,post,Fu,Fp,Fq,g1,g2,g3,g4,g5,g6,g7⟩:=h5.elem hi;rw[show n.2.getD i n.1.2.ty.dflt=y0 by rw[List.getD,g1];rfl]at hset;obtain⟨q1,q2⟩:=Owns.leaf hb g6 hnew hset;refine⟨_,g2,by simp only[Av];omega,λE' hx hba hh hown=>?_⟩;have hbl:s.ownBlock=some g:=by rw[hsv];rfl
 have hkeep:∀r,(r∈G1\/r∈Fn\/r∈G2)->∀g',r.ownBlock=some g'->E'.w.heap[g']?=E.w.heap[g']?:=λr hr g' hg'=>hh g' (HQ h3 (by rcases hr with h|h|h<;>simp[h]) hg') (λh=>Zt Zu h7 r hr g hbl (h▸hg'));have hbase:E'.base<=E.base:=by rw[hba];exact Ao _
 have hout:=Owns.mono hbase hx.heap (λr hr g' hg'=>hkeep r ((Ba.1 hr).imp id .inr) g' hg') h6
 have hrow:(pre++(u++post)).take (i*n.1.2.ty.size+o)++us++(pre++(u++post)).drop (i*n.1.2.ty.size+o+us.length)=pre++((u.take o++us++u.drop (o+us.length))++post):=by
  have e1:(pre++(u++post)).take (i*n.1.2.ty.size+o)=pre++u.take o:=by rw[Kr,Dz (by omega),H3 (by omega)];congr 2;omega
  have e2:(pre++(u++post)).drop (i*n.1.2.ty.size+o+us.length)=u.drop (o+us.length)++post:=by rw[Ks,IH (by omega),Cp,Kj (by omega)];congr 2;omega
  rw[e1,e2];simp only[AW]
 rw[hrow]at hown
 have hin:=g7 E'.w E'.ok E'.base s y _ Fu (λx u f hf h=>Owns.mono hbase hx.heap (λr hr g' hg'=>hkeep r (.inr (.inl (by rw[g4];rcases hf r hr with h|h<;>simp[h]))) g' hg') h)
  (Owns.mono hbase hx.heap (λr hr g' hg'=>hkeep r (.inr (.inl (by rw[g4];simp[hr]))) g' hg') q2) (by rw[hba];exact hown)
 rw[<-g4]at hin;obtain⟨H1,H2,k1,k2,k3⟩:=Owns.join hout hn;have hfin:=k3 _ _ hin;have k4:G1=H1/\G2=H2:=NG k1 (by rw[h2,k2]);obtain⟨rfl,rfl⟩:=k4;rw[<-Jf hn]at hfin;obtain⟨sv0,xs0,F0,z1,z2,z3,z4⟩:=hfin;have z1:sv=sv0:=by simpa using z1
 subst z1;refine⟨⟨s,F0,?_,?_,?_⟩,by simp⟩
 ·exact⟨sv,xs0,F0,rfl,rfl,z3,z4⟩
 ·show some sv::svs=(sv::F0).map some
  rw[<-z2];exact h3
 ·rw[<-z2];exact h7
theorem Same.write{l:List e.ty.den}{p:Path}{n:Cg}(hn:AM (.r t e) l 0 p=some n){i o:Nat}{new:List C}{y:n.1.2.ty.den}(hi:i<n.2.length)(hset:F6 n.1.2 (n.2.getD i n.1.2.ty.dflt) o new=some y):Same (.r t e) l (setD (.r t e) l 0 p n.1.2 (n.2.set i y)):=by
 rw[Jf hn];refine Same.set hn ⟨GQ,λj z z' hz hz'=>?_⟩;by_cases hj:i=j
 ·subst hj
  rw[GM hi]at hz';injection hz' with hz';subst hz';have:=Same.leaf hset;rw[show n.2.getD i n.1.2.ty.dflt=z by rw[List.getD,hz];rfl]at this;exact this
 ·rw[Ga hj,hz]at hz'
  injection hz' with hz';subst hz';exact Same.refl _ z
theorem Zv:∀{p q:Path},NR p q=true->p=q
 |[],[],_=>rfl
 |[],_::_,h=>by cases h
 |_::_,[],h=>by cases h
 |(i,k)::p,(j,m)::q,h=>by obtain⟨h1,h2⟩:=andB (show(decide (i=j)&&(Nat.beq k m&&NR p q))=true from h);obtain⟨h2,h3⟩:=andB h2;rw[Az h1,Ag h2,Zv h3]
theorem SY{w:World}{ok:Nat->Prop}{base:Nat}{hv:Value}{τ:Ty}:∀{l:List τ.den}{j:Nat}{xs:List Value},DList (λx u=>DRep w ok τ x u) l xs->OL (λ_ x u f=>Owns w ok base hv (.d τ) none x u f) j l xs []
 |[],_,_,h=>⟨h,rfl⟩
 |_::_,_,_,⟨u,v,e,h1,h2⟩=>⟨u,v,[],[],e,rfl,⟨rfl,h1,rfl⟩,SY h2⟩
theorem SZ{blp:Nat->Option Blk}(hb:BX E){v:V}{r:Nat}{m:Cg}(h:K3 blp v=some (r,m))(hsub:E.bl r=blp r){u:Value}(hv:VRep E v u):∃svs Fr B,E.bl r=some B/\B≠.dead/\(∀t e ver iver P l,B≠.tree t e ver iver (some P) l)/\E.pl r=some (.row u svs)/\(∀hv0,Owns E.w E.ok E.base hv0 (.r m.1.1 m.1.2) none m.2 [u] (u::Fr))/\some u::svs=(u::Fr).map some/\(u::Fr).Pairwise (λs r=>∀g,s.ownBlock=some g->r.ownBlock≠some g):=by
 unfold K3 at h;split at h
 ·rename_i r' rv
  split at h
  ·rename_i t e ver l hbl
   cases hc:Nat.beq rv ver with
   |false=>rw[hc]at h;cases h
   |true=>have:=Ag hc;subst this;simp only[hc,Af,Ac,AN]at h;obtain⟨rfl,rfl⟩:=h;obtain⟨_,sv,svs,hpl,hcur⟩:=hv;rw[<-hsub]at hbl;have hu:=(hcur _ _ _ _ hbl).2 rfl;subst hu;obtain⟨q,hq,hB⟩:=hb _ _ hbl;rw[hpl]at hq;injection hq with hq;subst hq;obtain⟨h0,xs,h1,h2⟩:=hB;subst h0;exact⟨[],[],_,hbl,(by simp),(by simp),hpl,λhv0=>⟨u,xs,[],rfl,rfl,h2,SY h1⟩,rfl,by simp⟩
  ·cases h
 ·rename_i r' rv
  split at h
  ·rename_i t e ver iver l hbl
   cases hc:Nat.beq rv ver with
   |false=>rw[hc]at h;cases h
   |true=>have:=Ag hc;subst this;simp only[hc,Af,Ac,AN]at h;obtain⟨rfl,rfl⟩:=h;rw[<-hsub]at hbl;obtain⟨svs,hpl,hT⟩:=Og hb hbl hv;obtain⟨hv1,F,k1,k2,k3⟩:=hT.rep;exact⟨svs,F,_,hbl,(by simp),(by simp),hpl,λhv0=>Owns.any k1,k2,k3⟩
  ·cases h
 ·cases h
theorem TreeOk.put{l:List e.ty.den}{sv:Value}{svs:List (Option Value)}{p:Path}{i o:Nat}(hT:TreeOk E t e (some (p++[(i,o)])) l sv svs){n0:Cg}(hn0:AM (.r t e) l 0 p=some n0){s:Value}(hs:(some sv::svs)[nix (.r t e) l 0 p]?=some (some s))(hi:i<n0.2.length){g m0 c:Nat}(hsv:s=.slice (some ⟨g,0,none⟩) m0 c)(hno:∀g,(Pl.row sv svs).has g->¬E.ok g){n m:Cg}(hn:Ej (.r t e) l 0 (p++[(i,o)])=some n)(hty:m.1=n.1){u:Value}{Fr:List Value}(hu:∀hv0,Owns E.w E.ok E.base hv0 (.r m.1.1 m.1.2) none m.2 [u] (u::Fr))(hpw:(u::Fr).Pairwise (λs r=>∀g,s.ownBlock=some g->r.ownBlock≠some g))(hsep:∀s∈u::Fr,∀g,s.ownBlock=some g->¬(Pl.row sv svs).has g):(∃old,E.w.cell? ⟨g,i*n0.1.2.ty.size+o,none⟩=some old)/\E.w.frozen? ⟨g,i*n0.1.2.ty.size+o,none⟩=false/\∃svs',(∀g,(Pl.row sv svs').has g->(Pl.row sv svs).has g\/∃s∈u::Fr,s.ownBlock=some g)/\∀E':Env,E'.w=E.w.setCell ⟨g,i*n0.1.2.ty.size+o,none⟩ u->E'.base=E.base->(∀g,E.ok g->g<E.w.heap.size->E'.ok g)->TreeOk E' t e none (setD (.r t e) l 0 (p++[(i,o)]) m.1.2 m.2) sv svs':=by
 obtain⟨hv,F,h1,h2,h3⟩:=hT.rep;obtain⟨nP,A,B,a1,a2,a3,a4⟩:=h2
 have hnn:nP=n:=by have:=Gk a1;rw[hn]at this;injection this with this;exact this.symm
 subst hnn;have hmem:∀r,r∈sv::F->∀g,r.ownBlock=some g->(Pl.row sv svs).has g:=λr hr g hg=>Placed.has (t:=t) (e:=e) (l:=l) (hole:=some (p++[(i,o)])) ⟨nP,A,B,a1,a2,a3,a4⟩ hr hg;obtain⟨n1,s1,g1,c1,G1,Fn,b1,b2,b3,b4,b5,b6,b6',b7⟩:=Owns.header (ok':=E.ok) (λ_ h=>h) (λr hr g hg=>hno g (hmem r hr g hg)) h1;rw[hn0]at b1;injection b1 with b1;subst b1
 have hlt:nix (.r t e) l 0 p<A.length:=by rw[a3,KP hn0 (Bx hi)];omega
 have hss:s1=s:=by
  have k1:(sv::F)[nix (.r t e) l 0 p]?=some s1:=by rw[b2,<-b3,Cu (Ao _),Nat.sub_self];rfl
  rw[a2,Db hlt]at k1;rw[a4,Db (by simpa using hlt),C0,k1]at hs;simpa using hs
 subst hss;rw[hsv]at b4;injection b4 with b4 b4' b4'';injection b4 with b4;injection b4 with b4;subst b4;have hbl:s1.ownBlock=some g:=by rw[hsv];rfl
 have hu1:u.oneCell'=true:=(hu u).oneCell u (by simp)
 have hne:∀s'∈G1++Fn,s'.ownBlock≠some g:=λs' hs'=>by rw[b2]at h3;exact Zt (C:=[]) Zu (by simpa using h3) s' (by rcases Ba.1 hs' with h|h<;>simp[h]) g hbl
 have hgF:∀s'∈u::Fr,s'.ownBlock≠some g:=λs' hs' hg=>hsep s' hs' g hg (hmem s1 (by rw[b2];simp) g hbl);have hnog:¬E.ok g:=hno g (hmem s1 (by rw[b2];simp) g hbl);obtain⟨A',B',k1,k2,k3⟩:=Owns.join (b7 u hu1 hne) a1;have k4:A=A'/\B=B':=NG (a2▸k1) (by rw[a3,k2]);obtain⟨rfl,rfl⟩:=k4
 obtain⟨A2,hA2⟩:∃A2,A=sv::A2:=by
  cases A with
  |nil=>simp at hlt
  |cons a A=>rw[Cw]at a2;injection a2 with a2 _;exact⟨A,by rw[a2]⟩
 subst hA2;have hF:F=A2++B:=by simpa using a2
 refine⟨⟨_,b6⟩,b6',(A2++(u::Fr++B)).map some,λg' h=>?_,λE' hw hba hok=>?_⟩
 ·rcases h with h|⟨j,s',hj,h⟩
  ·exact .inl (.inl h)
  ·have hm:=B6 hj
   obtain⟨s2,hs2,hs3⟩:=CJ.1 hm;injection hs3 with hs3;subst hs3;rcases Ba.1 hs2 with h4|h4
   ·exact .inl (hmem s2 (by rw[a2];simp[h4]) g' h)
   ·rcases Ba.1 h4 with h4|h4
    ·exact .inr ⟨s2,h4,h⟩
    ·exact .inl (hmem s2 (by rw[a2];simp[h4]) g' h)
 ·have hm:=Owns.mono (w':=E.w.setCell ⟨g,i*n0.1.2.ty.size+o,none⟩ u) (Ao E.base) (Keeps.set (ok':=E.ok) (λ_ h=>h) hnog) (λs' hs' g' hg'=>heap_setCell_other E.w _ g' u (λe=>hgF s' hs' (by simp only at e;rw[hg',e]))) (hu u)
  obtain⟨⟨m1,m2⟩,m3⟩:=m;obtain⟨⟨q1,q2⟩,q3⟩:=nP;simp only[AN]at hty;obtain⟨rfl,rfl⟩:=hty;have hfin:=k3 _ _ hm;rw[<-Jf a1]at hfin;have hfin:=Owns.mono (w':=E'.w) (ok':=E'.ok) (base':=E'.base) (by rw[hba];exact Ao _) (λg' h hlt=>⟨hok g' h (by simpa [World.setCell]using hlt),by rw[hw]⟩) (λ_ _ _ _=>by rw[hw]) hfin;refine⟨⟨u,A2++(u::Fr++B),hfin,?_,?_⟩,by simp⟩
  ·show _=_
   simp
  ·rw[hF]at h3
   have h3:(sv::A2++B).Pairwise (λs r=>∀g,s.ownBlock=some g->r.ownBlock≠some g):=h3;rw[D7]at h3;obtain⟨p1,p2,p3⟩:=h3;have hAB:∀a∈sv::A2++B,∀b∈u::Fr,∀g,a.ownBlock=some g->b.ownBlock≠some g:=λa ha b hb g h1 h2=>hsep b hb g h2 (hmem a (by rw[a2];exact ha) g h1);show(sv::A2++(u::Fr++B)).Pairwise _;rw[D7,D7];refine⟨p1,⟨hpw,p2,λa ha b hb g h1 h2=>hAB b (BM _ hb) a ha g h2 h1⟩,λa ha b hb=>?_⟩;rcases Ba.1 hb with hb|hb
   ·exact hAB a (BG _ ha) b hb
   ·exact p3 a ha b hb
end
end Go.Lift
