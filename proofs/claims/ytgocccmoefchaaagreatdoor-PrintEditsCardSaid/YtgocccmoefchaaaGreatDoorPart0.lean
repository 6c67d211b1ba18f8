/- Part0: LiftA0, LiftOw, LiftA, LiftB, LiftC, LiftD, LiftE, LiftOt, LiftF. -/
import Derived.Laws.AppendOwn
import Derived.Below
import Derived.Lib.Join
import Derived.Lib.LaidTab
import Derived.Lib.ItoaNum
import Derived.Lib.Space
import Derived.Lib.SpaceR
import Derived.Orders
import Derived.Laws.Rows
import Derived.Laws.CopyRow
import Derived.Laws.MakeOwn
import Derived.Laws.Build
import Derived.Laws.StructEq
import Derived.Laws.Small
import Derived.Deep.RegionLaw
set_option linter.unusedVariables false
set_option linter.unusedSectionVars false
set_option linter.unusedSimpArgs false
namespace Go.Lift
abbrev Af:=@Option.some.injEq
abbrev As:=@Nat.eq_of_beq_eq_true
abbrev AE:=@List.length_append
abbrev Ay:=@decide_eq_true
abbrev AF:=@decide_eq_false
abbrev Am:=@cond_true
abbrev AV:=@of_decide_eq_true
abbrev Ba:=@List.length_cons
abbrev AC:=@Nat.le_refl
abbrev Bw:=@Int.toNat_natCast
abbrev At:=@congrArg
abbrev Bf:=@List.mem_cons
abbrev CI:=@List.mem_of_getElem?
abbrev BC:=@Prod.mk.injEq
abbrev Cw:=@List.append_assoc
abbrev D1:=@List.getElem?_cons_zero
abbrev Ci:=@List.mem_append
abbrev DK:=@List.getElem?_eq_getElem
abbrev DI:=@List.getElem?_cons_succ
abbrev C5:=@Bool.and_eq_true
abbrev Dl:=@List.mem_append_left
abbrev Dm:=@List.mem_cons_of_mem
abbrev D7:=@List.mem_append_right
abbrev Eu:=@List.getElem?_eq_some_iff
abbrev EL:=@Array.getD_eq_getD_getElem?
abbrev CJ:=@List.length_nil
abbrev De:=@List.cons.injEq
abbrev CE:=@List.map_cons
abbrev FG:=@List.getElem?_append_right
abbrev FH:=@Int.tmod_eq_emod_of_nonneg
abbrev Cj:=@cond_false
abbrev E9:=@List.mem_singleton
abbrev Ef:=@List.all_eq_true
abbrev Df:=@Nat.le_trans
abbrev GW:=@Int.tdiv_eq_ediv_of_nonneg
abbrev GX:=@List.getElem?_append_left
abbrev Ik:=@List.eq_nil_of_length_eq_zero
abbrev G0:=@List.take_of_length_le
abbrev EX:=@List.not_mem_nil
abbrev HD:=@Array.getElem?_eq_some_iff
abbrev EM:=@Option.map_some
abbrev Gg:=@Array.toArray_toList
abbrev Cx:=@if_false
abbrev DL:=@Nat.zero_add
abbrev FI:=@List.getElem?_map
abbrev Fw:=@List.cons_append
abbrev GY:=@List.length_singleton
abbrev Gh:=@List.mem_cons_self
abbrev G3:=@Array.length_toList
abbrev GZ:=@List.pairwise_append
abbrev DM:=@Nat.zero_le
abbrev Hs:=@Nat.le_of_ble_eq_true
abbrev FR:=@List.length_take
abbrev FJ:=@List.length_map
abbrev JM:=@List.take_append_of_le_length
abbrev Ha:=@List.pairwise_cons
abbrev Gi:=@List.nil_append
abbrev HE:=@Bool.false_eq_true
abbrev JN:=@List.drop_eq_getElem_cons
abbrev Dn:=@if_true
abbrev Il:=@List.length_drop
abbrev IH:=@decide_eq_true_eq
abbrev EA:=@and_true
abbrev Im:=@Nat.le_antisymm
abbrev Hb:=@List.mem_map
abbrev LD:=@Nat.add_sub_cancel_left
abbrev II:=@List.append_nil
abbrev KG:=@Nat.mul_le_mul_right
abbrev Jp:=@List.take_length
abbrev OB:=@List.drop_append_of_le_length
abbrev HG:=@Nat.succ_mul
abbrev LE:=@List.take_append_drop
abbrev LF:=@List.length_replicate
abbrev OC:=@List.getD_eq_getElem?_getD
abbrev Ht:=@Array.ext'
abbrev OD:=@Array.getElem?_eq_getElem
abbrev OE:=@List.getElem?_eq_none_iff
abbrev LH:=@List.getElem?_take
abbrev KH:=@Option.getD_some
abbrev MI:=@Bool.or_eq_false_iff
abbrev OG:=@List.pairwise_singleton
abbrev KI:=@Bool.or_eq_true
abbrev KJ:=@List.nodup_cons
abbrev MJ:=@List.flatMap_append
abbrev OH:=@List.drop_of_length_le
abbrev IJ:=@Nat.add_mul
abbrev JO:=@List.cons.inj
abbrev OI:=@List.mem_iff_getElem?
abbrev LI:=@List.length_set
abbrev JP:=@Nat.le_of_eq
abbrev LJ:=@List.map_append
abbrev QP:=@List.getElem?_take_of_lt
abbrev MK:=@Bool.not_eq_true'
abbrev ML:=@List.flatMap_cons
abbrev In:=@heq_eq_eq
abbrev OJ:=@List.length_pos_iff
abbrev V0:=@Array.getElem?_setIfInBounds
abbrev QQ:=@List.flatMap_singleton
abbrev QR:=@Option.map_eq_some_iff
abbrev OM:=@List.getElem?_drop
abbrev QS:=@List.getElem?_eq_none
abbrev MM:=@Option.some.inj
abbrev MN:=@Nat.not_lt_zero
abbrev QT:=@Array.getElem?_modify
abbrev V1:=@Array.getElem?_append_left
abbrev V2:=@List.pairwise_iff_getElem
abbrev LK:=@Nat.add_comm
abbrev LL:=@List.map_nil
abbrev MO:=@Bool.false_or
abbrev V3:=@List.drop_eq_nil_of_le
abbrev V4:=@List.getElem?_toArray
abbrev QU:=@List.drop_append
abbrev QV:=@Array.toList_map
abbrev V5:=@List.getElem?_of_mem
abbrev ON:=@List.sum_cons
abbrev V6:=@Nat.lt_of_lt_of_le
abbrev V7:=@Nat.eq_zero_or_pos
abbrev OO:=@Nat.add_zero
abbrev OP:=@List.map_map
abbrev V8:=@of_decide_eq_false
abbrev cF:=@Option.isSome_iff_exists
abbrev cG:=@Nat.le_mul_of_pos_right
abbrev cH:=@decide_eq_false_iff_not
abbrev V9:=@List.ext_getElem?
abbrev VA:=@not_true_eq_false
abbrev VB:=@List.size_toArray
abbrev VC:=@not_false_eq_true
abbrev VD:=@List.nodup_append
abbrev OQ:=@Int.le_refl
abbrev QW:=@Nat.add_assoc
abbrev VE:=@List.take_append
abbrev VG:=@Array.mem_append
abbrev VH:=@Option.bind_some
abbrev wD:=@Array.all_eq_true_iff_forall_mem
abbrev QX:=@Nat.lt_or_ge
abbrev VI:=@List.append_inj
abbrev cI:=@List.range_eq_range'
abbrev cJ:=@List.mem_of_mem_take
abbrev cK:=@List.mem_map_of_mem
abbrev VJ:=@List.take_left
abbrev VK:=@List.drop_drop
abbrev VL:=@List.mem_range
abbrev cL:=@Int.tmod_lt_of_pos
abbrev VM:=@List.all_cons
abbrev VN:=@Bool.not_true
abbrev cM:=@Int.emod_eq_of_lt
abbrev cN:=@List.mem_toArray
abbrev wE:=@Int.tmod_eq_zero_of_dvd
abbrev wF:=@Int.emod_eq_zero_of_dvd
abbrev wG:=@Int.dvd_of_tmod_eq_zero
abbrev wH:=@List.getElem?_set_self
inductive Ty where
 |bool|int (k:IntKind)|str|unit|err
 |prod (a b:Ty)|slice (e:Ty)
 deriving DecidableEq
@[reducible] def Ty.den:Ty->Type
 |.bool=>Bool
 |.int _=>Int
 |.str=>List UInt8
 |.unit=>Unit
 |.err=>Bool
 |.prod a b=>a.den×b.den
 |.slice e=>List e.den
def Ty.dflt:(τ:Ty)->τ.den
 |.bool=>false
 |.int _=>(0:Int)
 |.str=>([]:List UInt8)
 |.unit=>()
 |.err=>true
 |.prod a b=>(a.dflt,b.dflt)
 |.slice e=>([]:List e.den)
def Ty.size:Ty->Nat
 |.bool|.int _|.str|.err|.slice _=>1
 |.unit=>0
 |.prod a b=>a.size+b.size
def DList{α:Type}(R:α->List Value->Prop):List α->List Value->Prop
 |[],xs=>xs=[]
 |x::l,xs=>∃u v,xs=u++v/\R x u/\DList R l v
def errRep:Bool->Value->Prop
 |true,v=>v=.nilIface
 |false,v=>∃t u,v=.iface t u
theorem errRep.one{b:Bool}{v:Value}(h:errRep b v):v.oneCell'=true:=by
 cases b with
 |true=>obtain rfl:v=.nilIface:=h;rfl
 |false=>obtain⟨t,u,rfl⟩:=h;rfl
def DRep(w:World)(ok:Nat->Prop):(τ:Ty)->τ.den->List Value->Prop
 |.bool,b,vs=>vs=[.bool b]
 |.int k,n,vs=>vs=[.int k n]
 |.str,s,vs=>vs=[.string ⟨s.toArray⟩]
 |.err,b,vs=>∃v,vs=[v]/\errRep b v
 |.unit,_,vs=>vs=[]
 |.prod a b,x,vs=>∃u v,vs=u++v/\DRep w ok a x.1 u/\DRep w ok b x.2 v
 |.slice e,l,vs=>∃A c xs,vs=[.slice A l.length c]/\l.length<=c/\c<=maxLen/\DList (λx u=>DRep w ok e x u) l xs/\
   ∀j v,xs[j]?=some v->∃ad,A=some ad/\ok ad.block/\w.cell? (ad.add j)=some v
theorem DList.mono{α:Type}{R R':α->List Value->Prop}(h:∀x u,R x u->R' x u):∀{l xs},DList R l xs->DList R' l xs
 |[],_,hx=>hx
 |_::_,_,⟨u,v,e,hr,ht⟩=>⟨u,v,e,h _ _ hr,DList.mono h ht⟩
theorem DList.append{α:Type}{R:α->List Value->Prop}:∀{l l' xs ys},DList R l xs->DList R l' ys->DList R (l++l') (xs++ys)
 |[],_,_,_,hx,hy=>by simp only[DList]at hx;subst hx;simpa using hy
 |_::_,_,_,_,⟨u,v,e,hr,ht⟩,hy=>⟨u,v++_,by rw[e,Cw],hr,DList.append ht hy⟩
theorem DRep.length{w:World}{ok:Nat->Prop}:∀{τ:Ty}{x:τ.den}{vs:List Value},DRep w ok τ x vs->vs.length=τ.size
 |.bool,_,_,h=>by simp only[DRep]at h;simp[h,Ty.size]
 |.int _,_,_,h=>by simp only[DRep]at h;simp[h,Ty.size]
 |.str,_,_,h=>by simp only[DRep]at h;simp[h,Ty.size]
 |.err,_,_,h=>by simp only[DRep]at h;obtain⟨v,rfl,_⟩:=h;rfl
 |.unit,_,_,h=>by simp only[DRep]at h;simp[h,Ty.size]
 |.prod a b,_,_,h=>by simp only[DRep]at h;obtain⟨u,v,rfl,h1,h2⟩:=h;simp[Ty.size,DRep.length h1,DRep.length h2]
 |.slice _,_,_,h=>by simp only[DRep]at h;obtain⟨A,c,xs,rfl,_⟩:=h;simp[Ty.size]
theorem DRep.oneCell{w:World}{ok:Nat->Prop}:∀{τ:Ty}{x:τ.den}{vs:List Value},DRep w ok τ x vs->∀v∈vs,v.oneCell'=true
 |.bool,_,_,h,v,hv=>by simp only[DRep]at h;subst h;simp at hv;subst hv;rfl
 |.int _,_,_,h,v,hv=>by simp only[DRep]at h;subst h;simp at hv;subst hv;rfl
 |.str,_,_,h,v,hv=>by simp only[DRep]at h;subst h;simp at hv;subst hv;rfl
 |.err,_,_,h,v,hv=>by simp only[DRep]at h;obtain⟨u,rfl,hu⟩:=h;simp at hv;subst hv;exact hu.one
 |.unit,_,_,h,v,hv=>by simp only[DRep]at h;subst h;simp at hv
 |.prod a b,_,_,h,v,hv=>by
  simp only[DRep]at h;obtain⟨x,y,rfl,h1,h2⟩:=h;rcases Ci.1 hv with hv|hv
  ·exact DRep.oneCell h1 v hv
  ·exact DRep.oneCell h2 v hv
 |.slice _,_,_,h,v,hv=>by simp only[DRep]at h;obtain⟨A,c,xs,rfl,_⟩:=h;simp at hv;subst hv;rfl
theorem DList.length{w:World}{ok:Nat->Prop}{e:Ty}:∀{l:List e.den}{xs:List Value},DList (λx u=>DRep w ok e x u) l xs->xs.length=l.length*e.size
 |[],_,h=>by simp only[DList]at h;simp[h]
 |_::l,_,⟨u,v,e1,hr,ht⟩=>by rw[e1,AE,DRep.length hr,DList.length ht,Ba,HG,LK]
theorem DList.oneCell{w:World}{ok:Nat->Prop}{e:Ty}:∀{l:List e.den}{xs:List Value},DList (λx u=>DRep w ok e x u) l xs->∀v∈xs,v.oneCell'=true
 |[],_,h,v,hv=>by simp only[DList]at h;subst h;simp at hv
 |_::l,_,⟨x,y,e1,hr,ht⟩,v,hv=>by
  subst e1;rcases Ci.1 hv with hv|hv
  ·exact DRep.oneCell hr v hv
  ·exact DList.oneCell ht v hv
theorem DList.get{w:World}{ok:Nat->Prop}{e:Ty}:∀{l:List e.den}{xs:List Value}{i:Nat}(d:e.den),DList (λx u=>DRep w ok e x u) l xs->i<l.length->∃u p q,xs=p++(u++q)/\p.length=i*e.size/\DRep w ok e (l.getD i d) u
 |[],_,i,_,_,h=>by simp at h
 |x::l,xs,0,d,⟨u,v,e1,hr,ht⟩,_=>⟨u,[],v,by simp[e1],by simp,by simpa using hr⟩
 |x::l,xs,i+1,d,⟨u,v,e1,hr,ht⟩,h=>by obtain⟨u',p,q,hv,hp,hd⟩:=DList.get (i:=i) d ht (by simpa using h);refine⟨u',u++p,q,by rw[e1,hv,Cw],?_,by simpa using hd⟩;rw[AE,DRep.length hr,hp,HG,LK]
theorem DList.set{w:World}{ok:Nat->Prop}{e:Ty}:∀{l:List e.den}{xs:List Value}{i:Nat}(x':e.den)(u':List Value),DList (λx u=>DRep w ok e x u) l xs->i<l.length->DRep w ok e x' u'->∃p u q,xs=p++(u++q)/\p.length=i*e.size/\u.length=e.size/\DList (λx u=>DRep w ok e x u) (l.set i x') (p++(u'++q))
 |[],_,i,_,_,_,h,_=>by simp at h
 |x::l,xs,0,x',u',⟨u,v,e1,hr,ht⟩,_,h'=>⟨[],u,v,by simp[e1],by simp,DRep.length hr,⟨u',v,by simp,h',ht⟩⟩
 |x::l,xs,i+1,x',u',⟨u,v,e1,hr,ht⟩,h,h'=>by obtain⟨p,u0,q,hv,hp,hu,hd⟩:=DList.set (i:=i) x' u' ht (by simpa using h) h';refine⟨u++p,u0,q,by rw[e1,hv,Cw],?_,hu,⟨u,p++(u'++q),by rw[Cw],hr,by simpa using hd⟩⟩;rw[AE,DRep.length hr,hp,HG,LK]
def Keeps(w:World)(ok:Nat->Prop)(w':World)(ok':Nat->Prop):Prop:=∀g,ok g->g<w.heap.size->ok' g/\w'.heap[g]?=w.heap[g]?
theorem Keeps.cell{w w':World}{ok ok':Nat->Prop}(h:Keeps w ok w' ok'){a:Addr}{v:Value}(ho:ok a.block)(hc:w.cell? a=some v):ok' a.block/\w'.cell? a=some v:=by obtain⟨h1,h2⟩:=h _ ho (World.block_lt_of_cell? w a hc);exact⟨h1,(World.cell?_of_block h2).trans hc⟩
theorem KK(a:Addr)(n:Nat):(a.add n).block=a.block:=by unfold Addr.add;split<;>rfl
theorem LM(a:Addr)(i j:Nat):(a.add i).add j=a.add (i+j):=by unfold Addr.add;by_cases hi:i=0<;>by_cases hj:j=0<;>simp[hi,hj,QW]
theorem DRep.mono{w w':World}{ok ok':Nat->Prop}(hk:Keeps w ok w' ok'):∀{τ:Ty}{x:τ.den}{vs:List Value},DRep w ok τ x vs->DRep w' ok' τ x vs
 |.bool,_,_,h=>h
 |.int _,_,_,h=>h
 |.str,_,_,h=>h
 |.err,_,_,h=>h
 |.unit,_,_,h=>h
 |.prod a b,_,_,h=>by simp only[DRep]at h⊢;obtain⟨u,v,e,h1,h2⟩:=h;exact⟨u,v,e,DRep.mono hk h1,DRep.mono hk h2⟩
 |.slice e,_,_,h=>by
  simp only[DRep]at h⊢;obtain⟨A,c,xs,e1,hl,hc,hd,hx⟩:=h;refine⟨A,c,xs,e1,hl,hc,hd.mono λx u hu=>DRep.mono hk hu,λj v hj=>?_⟩;obtain⟨ad,ha,ho,Dw⟩:=hx j v hj;have hb:ok (ad.add j).block:=by rw[KK];exact ho
  obtain⟨o',c'⟩:=hk.cell hb Dw;rw[KK]at o';exact⟨ad,ha,o',c'⟩
def Ty.flat:Ty->Bool
 |.slice _|.err=>false
 |.prod a b=>a.flat&&b.flat
 |_=>true
theorem DRep.flat{w w':World}{ok ok':Nat->Prop}:∀{τ:Ty}{x:τ.den}{vs:List Value},τ.flat=true->DRep w ok τ x vs->DRep w' ok' τ x vs
 |.bool,_,_,_,h=>h
 |.int _,_,_,_,h=>h
 |.str,_,_,_,h=>h
 |.unit,_,_,_,h=>h
 |.prod a b,_,_,hf,h=>by simp only[Ty.flat,C5]at hf;simp only[DRep]at h⊢;obtain⟨u,v,e,h1,h2⟩:=h;exact⟨u,v,e,DRep.flat hf.1 h1,DRep.flat hf.2 h2⟩
 |.slice _,_,_,hf,_=>by simp[Ty.flat]at hf
 |.err,_,_,hf,_=>by simp[Ty.flat]at hf
end Go.Lift
namespace Go.Lift
inductive OT where
 |d (τ:Ty)
 |p (a b:OT)
 |r (t:TypeId) (e:OT)
 deriving DecidableEq
@[reducible] def OT.ty:OT->Ty
 |.d τ=>τ
 |.p a b=>.prod a.ty b.ty
 |.r _ e=>.slice e.ty
abbrev Path:=List (Nat×Nat)
abbrev Ew:=(te:TypeId×OT)×List te.2.ty.den
def B3:(o:OT)->o.ty.den->Nat->Path->Option Ew
 |.d _,_,_,_=>none
 |.p a b,x,k,p=>if k<a.ty.size then B3 a x.1 k p else B3 b x.2 (k-a.ty.size) p
 |.r t e,l,0,[]=>some ⟨(t,e),l⟩
 |.r _ e,l,0,(i,k)::p=>
  match(l:List e.ty.den)[i]? with
  |some x=>B3 e x k p
  |none=>none
 |.r _ _,_,_+1,_=>none
def G4:(o:OT)->o.ty.den->Nat->Path->(e':OT)->List e'.ty.den->o.ty.den
 |.d _,x,_,_,_,_=>x
 |.p a b,x,k,p,e',y=>if k<a.ty.size then(G4 a x.1 k p e' y,x.2)else(x.1,G4 b x.2 (k-a.ty.size) p e' y)
 |.r _ e,l,0,[],e',y=>if h:e'=e then(h▸y:List e.ty.den)else l
 |.r _ e,l,0,(i,k)::p,e',y=>
  match(l:List e.ty.den)[i]? with
  |some x=>(List.set l i (G4 e x k p e' y):List e.ty.den)
  |none=>l
 |.r _ _,l,_+1,_,_,_=>l
def cnt:(o:OT)->o.ty.den->Nat
 |.d _,_=>0
 |.p a b,x=>cnt a x.1+cnt b x.2
 |.r _ e,l=>1+((l:List e.ty.den).map (cnt e)).sum
def nix:(o:OT)->o.ty.den->Nat->Path->Nat
 |.d _,_,_,_=>0
 |.p a b,x,k,p=>if k<a.ty.size then nix a x.1 k p else cnt a x.1+nix b x.2 (k-a.ty.size) p
 |.r _ _,_,_,[]=>0
 |.r _ e,l,_,(i,k)::p=>
  match(l:List e.ty.den)[i]? with
  |some x=>1+(((l:List e.ty.den).take i).map (cnt e)).sum+nix e x k p
  |none=>0
def OL{α:Type}(R:Nat->α->List Value->List Value->Prop):Nat->List α->List Value->List Value->Prop
 |_,[],xs,F=>xs=[]/\F=[]
 |j,x::l,xs,F=>∃u v F1 F2,xs=u++v/\F=F1++F2/\R j x u F1/\OL R (j+1) l v F2
def hL(n:Nat):Option (Nat×Path)->Option (Nat×Path)
 |some (k,p)=>if k<n then some (k,p)else none
 |none=>none
def hR(n:Nat):Option (Nat×Path)->Option (Nat×Path)
 |some (k,p)=>if k<n then none else some (k-n,p)
 |none=>none
def hI(i k:Nat)(p:Path)(j:Nat):Option (Nat×Path):=if j=i then some (k,p)else none
def Owns(w:World)(ok:Nat->Prop)(base:Nat)(hv:Value):(o:OT)->Option (Nat×Path)->o.ty.den->List Value->List Value->Prop
 |.d τ,h,x,vs,F=>h=none/\DRep w ok τ x vs/\F=[]
 |.p a b,h,x,vs,F=>∃u v F1 F2,vs=u++v/\F=F1++F2/\Owns w ok base hv a (hL a.ty.size h) x.1 u F1/\Owns w ok base hv b (hR a.ty.size h) x.2 v F2
 |.r t e,none,l,vs,F=>∃sv xs F',vs=[sv]/\F=sv::F'/\w.ownsRow base t e.ty.size sv (l:List e.ty.den).length xs/\OL (λ_ x u f=>Owns w ok base hv e none x u f) 0 (l:List e.ty.den) xs F'
 |.r _ _,some (0,[]),_,vs,F=>vs=[hv]/\F=[]/\hv.oneCell'=true
 |.r t e,some (0,(i,k)::p),l,vs,F=>i<(l:List e.ty.den).length/\∃sv xs F',vs=[sv]/\F=sv::F'/\w.ownsRow base t e.ty.size sv (l:List e.ty.den).length xs/\
   OL (λj x u f=>Owns w ok base hv e (hI i k p j) x u f) 0 (l:List e.ty.den) xs F'
 |.r _ _,some (_+1,_),_,_,_=>False
section
variable{α:Type}{R R':Nat->α->List Value->List Value->Prop}
theorem OL.monoJ:∀{l:List α}{j:Nat}{xs F:List Value},(∀i x u f,j<=i->(∀s∈f,s∈F)->R i x u f->R' i x u f)->OL R j l xs F->OL R' j l xs F
 |[],_,_,_,_,hx=>hx
 |_::_,_,_,_,h,⟨u,v,F1,F2,e,ef,hr,ht⟩=>⟨u,v,F1,F2,e,ef,h _ _ _ _ (AC _) (λs hs=>by rw[ef];exact Dl _ hs) hr,
   OL.monoJ (λi x u f hi hf=>h i x u f (Df (Nat.le_succ _) hi) λs hs=>by rw[ef];exact D7 _ (hf s hs)) ht⟩
theorem OL.mono{l:List α}{j:Nat}{xs F:List Value}(h:∀i x u f,(∀s∈f,s∈F)->R i x u f->R' i x u f)(hx:OL R j l xs F):OL R' j l xs F:=hx.monoJ λi x u f _=>h i x u f
theorem OL.shift(hR:∀i i' x u f,R i x u f->R i' x u f):∀{l:List α}{j j':Nat}{xs F:List Value},OL R j l xs F->OL R j' l xs F
 |[],_,_,_,_,h=>h
 |_::_,_,_,_,_,⟨u,v,F1,F2,e,ef,hr,ht⟩=>⟨u,v,F1,F2,e,ef,hR _ _ _ _ _ hr,OL.shift hR ht⟩
theorem OL.append(hR:∀i i' x u f,R i x u f->R i' x u f):∀{l l':List α}{j:Nat}{xs ys F G:List Value},OL R j l xs F->OL R j l' ys G->OL R j (l++l') (xs++ys) (F++G)
 |[],_,_,_,_,_,_,hx,hy=>by obtain⟨rfl,rfl⟩:=hx;exact hy
 |_::_,_,_,_,_,_,_,⟨u,v,F1,F2,e,ef,hr,ht⟩,hy=>
  ⟨u,v++_,F1,F2++_,by rw[e,Cw],by rw[ef,Cw],hr,OL.append hR ht (hy.shift hR)⟩
theorem OL.length{n:Nat}(hn:∀i x u f,R i x u f->u.length=n):∀{l:List α}{j:Nat}{xs F:List Value},OL R j l xs F->xs.length=l.length*n
 |[],_,_,_,h=>by obtain⟨rfl,_⟩:=h;simp
 |_::_,_,_,_,⟨u,v,F1,F2,e,ef,hr,ht⟩=>by rw[e,AE,hn _ _ _ _ hr,OL.length hn ht,Ba,HG,LK]
theorem OL.all{Q:Value->Prop}(hn:∀i x u f,R i x u f->∀v∈u,Q v):∀{l:List α}{j:Nat}{xs F:List Value},OL R j l xs F->∀v∈xs,Q v
 |[],_,_,_,h,v,hv=>by obtain⟨rfl,_⟩:=h;simp at hv
 |_::_,_,_,_,⟨u,w,F1,F2,e,ef,hr,ht⟩,v,hv=>by rw[e]at hv;exact(Ci.1 hv).elim (hn _ _ _ _ hr v) (OL.all hn ht v)
theorem OL.own{Q:Value->Prop}(hn:∀i x u f,R i x u f->∀v∈f,Q v):∀{l:List α}{j:Nat}{xs F:List Value},OL R j l xs F->∀v∈F,Q v
 |[],_,_,_,h,v,hv=>by obtain⟨_,rfl⟩:=h;simp at hv
 |_::_,_,_,_,⟨u,w,F1,F2,e,ef,hr,ht⟩,v,hv=>by rw[ef]at hv;exact(Ci.1 hv).elim (hn _ _ _ _ hr v) (OL.own hn ht v)
theorem OL.focus{n:Nat}(hn:∀i x u f,R i x u f->u.length=n):∀{l:List α}{j i:Nat}{xs F:List Value},OL R j l xs F->i<l.length->∃x u p q Fu Fp Fq,l[i]?=some x/\xs=p++(u++q)/\p.length=i*n/\F=Fp++(Fu++Fq)/\R (j+i) x u Fu/\(∃pre,OL R j (l.take i) p Fp/\pre=Fp)/\∀(R':Nat->α->List Value->List Value->Prop) x' u' Fu',(∀m x u f,m≠j+i->(∀s∈f,s∈Fp\/s∈Fq)->R m x u f->R' m x u f)->R' (j+i) x' u' Fu'->OL R' j (l.set i x') (p++(u'++q)) (Fp++(Fu'++Fq))
 |[],_,_,_,_,_,h=>by simp at h
 |x::l,j,0,xs,F,⟨u,v,F1,F2,e,ef,hr,ht⟩,_=>
  ⟨x,u,[],v,F1,[],F2,rfl,e,by simp,ef,hr,⟨[],⟨rfl,rfl⟩,rfl⟩,λR' x' u' Fu' h1 h2=>⟨u',v,Fu',F2,rfl,rfl,h2,ht.monoJ λi x u f hi hf h=>h1 i x u f (by omega) (λs hs=>.inr (hf s hs)) h⟩⟩
 |x::l,j,i+1,xs,F,⟨u,v,F1,F2,e,ef,hr,ht⟩,h=>by
  obtain⟨y,u1,p,q,Fu,Fp,Fq,h1,h2,h3,h4,h5,⟨_,h7,_⟩,h6⟩:=OL.focus hn (i:=i) ht (by simpa using h);refine⟨y,u1,u++p,q,Fu,F1++Fp,Fq,by simpa using h1,by rw[e,h2,Cw],?_,by rw[ef,h4,Cw],by rw[show j+(i+1)=j+1+i by omega];exact h5,⟨_,⟨u,p,F1,Fp,rfl,rfl,hr,h7⟩,rfl⟩,λR' x' u' Fu' g1 g2=>?_⟩
  ·rw[AE,hn _ _ _ _ hr,h3,HG,LK]
  ·rw[show j+(i+1)=j+1+i by omega]at g1 g2
   exact⟨u,p++(u'++q),F1,Fp++(Fu'++Fq),by rw[Cw],by rw[Cw],g1 _ _ _ _ (by omega) (λs hs=>.inl (Dl _ hs)) hr,h6 R' x' u' Fu' (λm x u f hm hf=>g1 m x u f hm λs hs=>(hf s hs).imp (D7 _) id) g2⟩
end
theorem OR{w:World}{base:Nat}{t:TypeId}{size:Nat}{v:Value}{n:Nat}{xs:List Value}(h:w.ownsRow base t size v n xs):v.oneCell'=true:=by rcases h.2 with⟨h,_⟩|⟨g,cap,AQ,h,_⟩<;>rw[h]<;>rfl
section
variable{w w':World}{ok ok':Nat->Prop}{base base':Nat}{hv Cc:Value}
theorem Owns.length:∀{o:OT}{h:Option (Nat×Path)}{x:o.ty.den}{vs F:List Value},Owns w ok base hv o h x vs F->vs.length=o.ty.size
 |.d _,_,_,_,_,⟨_,h,_⟩=>h.length
 |.p a b,_,_,_,_,⟨u,v,F1,F2,e,_,h1,h2⟩=>by rw[e,AE,Owns.length h1,Owns.length h2];rfl
 |.r _ _,none,_,_,_,⟨sv,xs,F',e,_⟩=>by rw[e];rfl
 |.r _ _,some (0,[]),_,_,_,⟨e,_⟩=>by rw[e];rfl
 |.r _ _,some (0,(_,_)::_),_,_,_,⟨_,sv,xs,F',e,_⟩=>by rw[e];rfl
theorem Owns.oneCell:∀{o:OT}{h:Option (Nat×Path)}{x:o.ty.den}{vs F:List Value},Owns w ok base hv o h x vs F->∀v∈vs,v.oneCell'=true
 |.d _,_,_,_,_,⟨_,h,_⟩=>h.oneCell
 |.p a b,_,_,_,_,⟨u,v,F1,F2,e,_,h1,h2⟩=>by intro s hs;rw[e]at hs;exact(Ci.1 hs).elim (Owns.oneCell h1 s) (Owns.oneCell h2 s)
 |.r _ _,none,_,_,_,⟨sv,xs,F',e,_,h,_⟩=>by intro s hs;rw[e,E9]at hs;rw[hs];exact OR h
 |.r _ _,some (0,[]),_,_,_,⟨e,_,h⟩=>by intro s hs;rw[e,E9]at hs;rw[hs];exact h
 |.r _ _,some (0,(_,_)::_),_,_,_,⟨_,sv,xs,F',e,_,h,_⟩=>by intro s hs;rw[e,E9]at hs;rw[hs];exact OR h
theorem Owns.lt:∀{o:OT}{h:Option (Nat×Path)}{x:o.ty.den}{vs F:List Value},Owns w ok base hv o h x vs F->∀s∈F,∀g,s.ownBlock=some g->base<=g/\g<w.heap.size
 |.d _,_,_,_,_,⟨_,_,e⟩=>by intro s hs;rw[e]at hs;simp at hs
 |.p a b,_,_,_,_,⟨u,v,F1,F2,_,e,h1,h2⟩=>by intro s hs;rw[e]at hs;exact(Ci.1 hs).elim (Owns.lt h1 s) (Owns.lt h2 s)
 |.r _ _,none,_,_,_,⟨sv,xs,F',_,e,h,hl⟩=>by
  intro s hs g hg;rw[e]at hs;rcases Bf.1 hs with rfl|hs
  ·exact h.lt g hg
  ·exact OL.own (Q:=λs=>∀g,s.ownBlock=some g->base<=g/\g<w.heap.size) (λ_ _ _ _ h=>Owns.lt h) hl s hs g hg
 |.r _ _,some (0,[]),_,_,_,⟨_,e,_⟩=>by intro s hs;rw[e]at hs;simp at hs
 |.r _ _,some (0,(_,_)::_),_,_,_,⟨_,sv,xs,F',_,e,h,hl⟩=>by
  intro s hs g hg;rw[e]at hs;rcases Bf.1 hs with rfl|hs
  ·exact h.lt g hg
  ·exact OL.own (Q:=λs=>∀g,s.ownBlock=some g->base<=g/\g<w.heap.size) (λ_ _ _ _ h=>Owns.lt h) hl s hs g hg
theorem MP{t:TypeId}{size:Nat}{v:Value}{n:Nat}{xs:List Value}(hb:base'<=base)(hg:∀g,v.ownBlock=some g->w'.heap[g]?=w.heap[g]?)(h:w.ownsRow base t size v n xs):w'.ownsRow base' t size v n xs:=by
 refine⟨h.1,?_⟩;rcases h.2 with h3|⟨g,cap,AQ,rfl,Ah,hh,r⟩
 ·exact .inl h3
 ·exact .inr ⟨g,cap,AQ,rfl,Df hb Ah,(hg g rfl).trans hh,r⟩
theorem Owns.mono(hb:base'<=base)(hk:Keeps w ok w' ok'):∀{o:OT}{h:Option (Nat×Path)}{x:o.ty.den}{vs F:List Value},(∀s∈F,∀g,s.ownBlock=some g->w'.heap[g]?=w.heap[g]?)->Owns w ok base hv o h x vs F->Owns w' ok' base' hv o h x vs F
 |.d _,_,_,_,_,_,⟨a,h,e⟩=>⟨a,h.mono hk,e⟩
 |.p a b,_,_,_,_,hf,⟨u,v,F1,F2,e,e2,h1,h2⟩=>⟨u,v,F1,F2,e,e2,Owns.mono hb hk (λs hs=>hf s (by rw[e2];exact Dl _ hs)) h1,Owns.mono hb hk (λs hs=>hf s (by rw[e2];exact D7 _ hs)) h2⟩
 |.r _ _,none,_,_,_,hf,⟨sv,xs,F',e,e2,h,hl⟩=>
  ⟨sv,xs,F',e,e2,MP hb (hf sv (by rw[e2];exact Gh ..)) h,hl.mono λ_ _ _ f tI h=>Owns.mono hb hk (λs hs=>hf s (by rw[e2];exact Dm _ (tI s hs))) h⟩
 |.r _ _,some (0,[]),_,_,_,_,h=>h
 |.r _ _,some (0,(_,_)::_),_,_,_,hf,⟨hi,sv,xs,F',e,e2,h,hl⟩=>
  ⟨hi,sv,xs,F',e,e2,MP hb (hf sv (by rw[e2];exact Gh ..)) h,hl.mono λ_ _ _ f tI h=>Owns.mono hb hk (λs hs=>hf s (by rw[e2];exact Dm _ (tI s hs))) h⟩
theorem Owns.ren(hb:base'<=base)(hd:∀(τ:Ty)(x:τ.den)(us:List Value),DRep w ok τ x us->DRep w ok' τ x us):∀{o:OT}{h:Option (Nat×Path)}{x:o.ty.den}{vs F:List Value},Owns w ok base hv o h x vs F->Owns w ok' base' hv o h x vs F
 |.d _,_,_,_,_,⟨a,h,e⟩=>⟨a,hd _ _ _ h,e⟩
 |.p a b,_,_,_,_,⟨u,v,F1,F2,e,e2,h1,h2⟩=>⟨u,v,F1,F2,e,e2,Owns.ren hb hd h1,Owns.ren hb hd h2⟩
 |.r _ _,none,_,_,_,⟨sv,xs,F',e,e2,h,hl⟩=>⟨sv,xs,F',e,e2,MP hb (λ_ _=>rfl) h,hl.mono λ_ _ _ _ _ h=>Owns.ren hb hd h⟩
 |.r _ _,some (0,[]),_,_,_,h=>h
 |.r _ _,some (0,(_,_)::_),_,_,_,⟨hi,sv,xs,F',e,e2,h,hl⟩=>⟨hi,sv,xs,F',e,e2,MP hb (λ_ _=>rfl) h,hl.mono λ_ _ _ _ _ h=>Owns.ren hb hd h⟩
def OT.flat:OT->Bool
 |.d τ=>τ.flat
 |.p a b=>a.flat&&b.flat
 |.r _ e=>e.flat
theorem Owns.renF{all:Prop}(hb:base'<=base)(hd:∀(τ:Ty)(x:τ.den)(us:List Value),(all\/τ.flat=true)->DRep w ok τ x us->DRep w ok' τ x us):∀{o:OT}{h:Option (Nat×Path)}{x:o.ty.den}{vs F:List Value},(all\/o.flat=true)->Owns w ok base hv o h x vs F->Owns w ok' base' hv o h x vs F
 |.d _,_,_,_,_,hf,⟨a,h,e⟩=>⟨a,hd _ _ _ hf h,e⟩
 |.p a b,_,_,_,_,hf,⟨u,v,F1,F2,e,e2,h1,h2⟩=>⟨u,v,F1,F2,e,e2,Owns.renF hb hd (hf.imp id λh=>by simp only[OT.flat,C5]at h;exact h.1) h1,Owns.renF hb hd (hf.imp id λh=>by simp only[OT.flat,C5]at h;exact h.2) h2⟩
 |.r _ _,none,_,_,_,hf,⟨sv,xs,F',e,e2,h,hl⟩=>⟨sv,xs,F',e,e2,MP hb (λ_ _=>rfl) h,hl.mono λ_ _ _ _ _ h=>Owns.renF hb hd hf h⟩
 |.r _ _,some (0,[]),_,_,_,_,h=>h
 |.r _ _,some (0,(_,_)::_),_,_,_,hf,⟨hi,sv,xs,F',e,e2,h,hl⟩=>⟨hi,sv,xs,F',e,e2,MP hb (λ_ _=>rfl) h,hl.mono λ_ _ _ _ _ h=>Owns.renF hb hd hf h⟩
theorem Owns.any:∀{o:OT}{x:o.ty.den}{vs F:List Value},Owns w ok base hv o none x vs F->Owns w ok base Cc o none x vs F
 |.d _,_,_,_,h=>h
 |.p _ _,_,_,_,⟨u,v,F1,F2,e,e2,h1,h2⟩=>⟨u,v,F1,F2,e,e2,Owns.any (show Owns w ok base hv _ none _ _ _ from h1),Owns.any (show Owns w ok base hv _ none _ _ _ from h2)⟩
 |.r _ _,_,_,_,⟨sv,xs,F',e,e2,h,hl⟩=>⟨sv,xs,F',e,e2,h,hl.mono λ_ _ _ _ _ h=>Owns.any h⟩
theorem Owns.cnt:∀{o:OT}{x:o.ty.den}{vs F:List Value},Owns w ok base hv o none x vs F->F.length=Go.Lift.cnt o x
 |.d _,_,_,_,⟨_,_,e⟩=>by rw[e];rfl
 |.p a b,_,_,_,⟨u,v,F1,F2,_,e,h1,h2⟩=>by rw[e,AE,Owns.cnt (show Owns w ok base hv a none _ _ _ from h1),Owns.cnt (show Owns w ok base hv b none _ _ _ from h2)];rfl
 |.r _ e0,l,_,_,⟨sv,xs,F',_,e,_,hl⟩=>by
  have key:∀{l:List e0.ty.den}{j:Nat}{xs F:List Value},OL (λ_ x u f=>Owns w ok base hv e0 none x u f) j l xs F->F.length=(l.map (Go.Lift.cnt e0)).sum:=by
   intro l
   induction l with
   |nil=>intro j xs F h;obtain⟨_,rfl⟩:=h;rfl
   |cons x l ih=>intro j xs F h;obtain⟨u,v,F1,F2,_,ef,hr,ht⟩:=h;rw[ef,AE,Owns.cnt hr,ih ht,CE,ON]
  rw[e,Ba,key hl,LK];rfl
theorem set_getElem?_same{α:Type}{l:List α}{i:Nat}{x:α}(h:l[i]?=some x):l.set i x=l:=by obtain⟨h1,h2⟩:=Eu.1 h;rw[<-h2,List.set_getElem_self]
theorem MQ(i k:Nat)(p:Path):hI i k p i=some (k,p):=if_pos rfl
theorem OS{i k j:Nat}{p:Path}(h:j≠i):hI i k p j=none:=if_neg h
theorem QY(e:OT){w:World}{ok:Nat->Prop}{base:Nat}{hv:Value}:∀{l:List e.ty.den}{j:Nat}{xs F:List Value},OL (λ_ x u f=>Owns w ok base hv e none x u f) j l xs F->F.length=(l.map (Go.Lift.cnt e)).sum
 |[],_,_,_,⟨_,h⟩=>by rw[h];rfl
 |x::l,_,_,_,⟨u,v,F1,F2,_,ef,hr,ht⟩=>by rw[ef,AE,Owns.cnt hr,QY e ht,CE,ON]
theorem Owns.split:∀{o:OT}{x:o.ty.den}{k:Nat}{p:Path}{vs F:List Value}{n:Ew},Owns w ok base hv o none x vs F->B3 o x k p=some n->∃s G1 Fn G2,F=G1++(s::Fn++G2)/\G1.length=nix o x k p/\Owns w ok base s (.r n.1.1 n.1.2) none n.2 [s] (s::Fn)/\Owns w ok base s o (some (k,p)) x vs (G1++G2)
 |.d _,_,_,_,_,_,_,_,h=>by cases h
 |.p a b,x,k,p,vs,F,n,⟨u,v,F1,F2,e,e2,h1,h2⟩,h=>by
  simp only[B3]at h;have h1:Owns w ok base hv a none x.1 u F1:=h1;have h2:Owns w ok base hv b none x.2 v F2:=h2;split at h
  ·rename_i hk
   obtain⟨s,G1,Fn,G2,q1,q2,q3,q4⟩:=Owns.split h1 h;refine⟨s,G1,Fn,G2++F2,by rw[e2,q1];simp,by rw[q2];simp only[nix,if_pos hk],q3,u,v,G1++G2,F2,e,by simp,?_,?_⟩
   ·show Owns w ok base s a (hL a.ty.size (some (k,p))) x.1 u (G1++G2)
    simp only[hL,if_pos hk];exact q4
   ·show Owns w ok base s b (hR a.ty.size (some (k,p))) x.2 v F2
    simp only[hR,if_pos hk];exact h2.any
  ·rename_i hk
   obtain⟨s,G1,Fn,G2,q1,q2,q3,q4⟩:=Owns.split h2 h;refine⟨s,F1++G1,Fn,G2,by rw[e2,q1];simp,by rw[AE,q2,h1.cnt];simp only[nix,if_neg hk],q3,u,v,F1,G1++G2,e,by simp,?_,?_⟩
   ·show Owns w ok base s a (hL a.ty.size (some (k,p))) x.1 u F1
    simp only[hL,if_neg hk];exact h1.any
   ·show Owns w ok base s b (hR a.ty.size (some (k,p))) x.2 v (G1++G2)
    simp only[hR,if_neg hk];exact q4
 |.r t e,l,0,[],vs,F,n,⟨sv,xs,F',e1,e2,h1,h2⟩,h=>by simp only[B3,Af]at h;subst h;exact⟨sv,[],F',[],by simp[e2],rfl,⟨sv,xs,F',rfl,rfl,h1,h2.mono λ_ _ _ _ _ h=>h.any⟩,e1,rfl,OR h1⟩
 |.r t e,l,0,(i,k)::p,vs,F,n,⟨sv,xs,F',e1,e2,h1,h2⟩,h=>by
  simp only[B3]at h;split at h
  ·rename_i x hx
   have hi:i<(l:List e.ty.den).length:=(Eu.1 hx).1;obtain⟨x',u,pp,q,Fu,Fp,Fq,a1,a2,a3,a4,a5,⟨_,a7,_⟩,a6⟩:=OL.focus (n:=e.ty.size) (λ_ _ _ _ h=>h.length) h2 hi;rw[hx]at a1;injection a1 with a1;subst a1;obtain⟨s,G1,Fn,G2,q1,q2,q3,q4⟩:=Owns.split a5 h;refine⟨s,sv::(Fp++G1),Fn,G2++Fq,by rw[e2,a4,q1];simp,?_,q3,hi,sv,xs,(Fp++G1)++(G2++Fq),e1,by simp,h1,?_⟩
   ·have D6:(l:List e.ty.den)[i]?=some x:=hx
    simp only[nix,D6,Ba,AE,q2,QY e a7];omega
   ·have:=a6 (λj x u f=>Owns w ok base s e (hI i k p j) x u f) x u (G1++G2) (λm x u f hm _ h=>by simp only[DL]at hm;simp only[OS hm];exact h.any) (by simp only[DL,MQ];exact q4)
    rw[set_getElem?_same hx,<-a2]at this;simpa using this
  ·cases h
 |.r _ _,_,_+1,_,_,_,_,_,h=>by cases h
theorem Owns.join:∀{o:OT}{x:o.ty.den}{k:Nat}{p:Path}{vs G:List Value}{n:Ew},Owns w ok base hv o (some (k,p)) x vs G->B3 o x k p=some n->∃G1 G2,G=G1++G2/\G1.length=nix o x k p/\∀(y:List n.1.2.ty.den)(Fn:List Value),Owns w ok base hv (.r n.1.1 n.1.2) none y [hv] Fn->Owns w ok base hv o none (G4 o x k p n.1.2 y) vs (G1++(Fn++G2))
 |.d _,_,_,_,_,_,_,_,h=>by cases h
 |.p a b,x,k,p,vs,F,n,⟨u,v,F1,F2,e,e2,h1,h2⟩,h=>by
  simp only[B3]at h;have h1:Owns w ok base hv a (hL a.ty.size (some (k,p))) x.1 u F1:=h1;have h2:Owns w ok base hv b (hR a.ty.size (some (k,p))) x.2 v F2:=h2;split at h
  ·rename_i hk
   simp only[hL,hR,if_pos hk]at h1 h2;obtain⟨G1,G2,q1,q2,q3⟩:=Owns.join h1 h;refine⟨G1,G2++F2,by rw[e2,q1];simp,by rw[q2];simp only[nix,if_pos hk],λy Fn hy=>?_⟩;simp only[G4,if_pos hk];exact⟨u,v,G1++(Fn++G2),F2,e,by simp,q3 y Fn hy,h2⟩
  ·rename_i hk
   simp only[hL,hR,if_neg hk]at h1 h2;obtain⟨G1,G2,q1,q2,q3⟩:=Owns.join h2 h;refine⟨F1++G1,G2,by rw[e2,q1];simp,by rw[AE,q2,Owns.cnt h1];simp only[nix,if_neg hk],λy Fn hy=>?_⟩;simp only[G4,if_neg hk];exact⟨u,v,F1,G1++(Fn++G2),e,by simp,h1,q3 y Fn hy⟩
 |.r t e,l,0,[],vs,F,n,⟨e1,e2,h1⟩,h=>by simp only[B3,Af]at h;subst h;refine⟨[],[],e2,rfl,λy Fn hy=>?_⟩;simp only[G4,dif_pos,Gi,II];rw[e1];exact hy
 |.r t e,l,0,(i,k)::p,vs,F,n,⟨hi,sv,xs,F',e1,e2,h1,h2⟩,h=>by
  simp only[B3]at h;split at h
  ·rename_i x hx
   have D6:(l:List e.ty.den)[i]?=some x:=hx;obtain⟨x',u,pp,q,Fu,Fp,Fq,a1,a2,a3,a4,a5,⟨_,a7,_⟩,a6⟩:=OL.focus (n:=e.ty.size) (λ_ _ _ _ h=>h.length) h2 hi;rw[hx]at a1;injection a1 with a1;subst a1;simp only[DL,MQ]at a5;obtain⟨G1,G2,q1,q2,q3⟩:=Owns.join a5 h
   have I5:OL (λ_ x u f=>Owns w ok base hv e none x u f) 0 ((l:List e.ty.den).take i) pp Fp:=by
    have:∀{l:List e.ty.den}{j:Nat}{xs F:List Value},j+l.length<=i->OL (λj x u f=>Owns w ok base hv e (hI i k p j) x u f) j l xs F->OL (λ_ x u f=>Owns w ok base hv e none x u f) j l xs F:=by
     intro l
     induction l with
     |nil=>intro j xs F _ h;exact h
     |cons y l ih=>intro j xs F hj h;obtain⟨u,v,F1,F2,b1,b2,b3,b4⟩:=h;simp only[Ba]at hj;simp only[OS (show j≠i by omega)]at b3;exact⟨u,v,F1,F2,b1,b2,b3,ih (by omega) b4⟩
    exact this (by rw[FR];omega) a7
   refine⟨sv::(Fp++G1),G2++Fq,by rw[e2,a4,q1];simp,?_,λy Fn hy=>?_⟩
   ·simp only[nix,D6,Ba,AE,q2,QY e I5]
    omega
   ·have:=a6 (λ_ x u f=>Owns w ok base hv e none x u f) (G4 e x k p n.1.2 y) u (G1++(Fn++G2)) (λm x u f hm _ h=>by simp only[DL]at hm;simp only[OS hm]at h;exact h) (q3 y Fn hy)
    rw[<-a2]at this;simp only[G4,D6];refine⟨sv,xs,Fp++((G1++(Fn++G2))++Fq),e1,by simp,?_,this⟩;have:(List.set (l:List e.ty.den) i (G4 e x k p n.1.2 y)).length=(l:List e.ty.den).length:=LI;rw[this];exact h1
  ·cases h
 |.r _ _,_,_+1,_,_,_,_,_,h=>by cases h
theorem Owns.top:∀{o:OT}{x:o.ty.den}{k:Nat}{u F:List Value},Owns w ok base hv o (some (k,[])) x u F->u[k]?=some hv/\∀s,s.oneCell'=true->Owns w ok base s o (some (k,[])) x (u.set k s) F
 |.d _,_,_,_,_,⟨h,_⟩=>by cases h
 |.p a b,x,k,vs,F,⟨u,v,F1,F2,e,e2,h1,h2⟩=>by
  have h1:Owns w ok base hv a (hL a.ty.size (some (k,[]))) x.1 u F1:=h1;have h2:Owns w ok base hv b (hR a.ty.size (some (k,[]))) x.2 v F2:=h2;by_cases hk:k<a.ty.size
  ·simp only[hL,hR,if_pos hk]at h1 h2
   have hl:=h1.length;obtain⟨q1,q2⟩:=Owns.top h1;refine⟨by rw[e,GX (by omega)];exact q1,λs hs=>⟨u.set k s,v,F1,F2,by rw[e,List.set_append_left _ _ (by omega)],e2,?_,?_⟩⟩
   ·show Owns w ok base s a (hL a.ty.size (some (k,[]))) x.1 _ F1
    simp only[hL,if_pos hk];exact q2 s hs
   ·show Owns w ok base s b (hR a.ty.size (some (k,[]))) x.2 v F2
    simp only[hR,if_pos hk];exact h2.any
  ·simp only[hL,hR,if_neg hk]at h1 h2
   have hl:=h1.length;obtain⟨q1,q2⟩:=Owns.top h2;refine⟨by rw[e,FG (by omega),hl];exact q1,λs hs=>⟨u,v.set (k-a.ty.size) s,F1,F2,by rw[e,List.set_append_right _ _ (by omega),hl],e2,?_,?_⟩⟩
   ·show Owns w ok base s a (hL a.ty.size (some (k,[]))) x.1 _ F1
    simp only[hL,if_neg hk];exact h1.any
   ·show Owns w ok base s b (hR a.ty.size (some (k,[]))) x.2 _ F2
    simp only[hR,if_neg hk];exact q2 s hs
 |.r _ _,_,0,_,_,⟨e1,e2,h1⟩=>by rw[e1];exact⟨rfl,λs hs=>⟨rfl,e2,hs⟩⟩
 |.r _ _,_,_+1,_,_,h=>h.elim
theorem Ak7{t:TypeId}{size n:Nat}{v:Value}{xs:List Value}(h:w.ownsRow base t size v n xs)(hn:0<n):∃g c,v=.slice (some ⟨g,0,none⟩) n c:=by
 rcases h.2 with⟨_,h0⟩|⟨g,cap,AQ,h,_⟩
 ·omega
 ·exact⟨g,cap,h⟩
theorem Keeps.set(hb:∀g,ok g->ok' g){g j:Nat}{s:Value}(hg:¬ok g):Keeps w ok (w.setCell ⟨g,j,none⟩ s) ok':=λg' h _=>
 ⟨hb g' h,heap_setCell_other w ⟨g,j,none⟩ g' s (λe=>hg (by simpa [e]using h))⟩
theorem Ak8{α:Type}{p u q:List α}{k:Nat}{s:α}(hk:k<u.length):(p++(u++q)).set (p.length+k) s=p++(u.set k s++q):=by rw[List.set_append_right _ _ (by omega),LD,List.set_append_left _ _ hk]
theorem Owns.header(hb:∀g,ok g->ok' g):∀{o:OT}{x:o.ty.den}{k0:Nat}{p:Path}{i k:Nat}{vs F:List Value},(∀s∈F,∀g,s.ownBlock=some g->¬ok g)->Owns w ok base hv o (some (k0,p++[(i,k)])) x vs F->∃n s g c G1 Fn,B3 o x k0 p=some n/\F=G1++s::Fn/\G1.length=nix o x k0 p/\s=.slice (some ⟨g,0,none⟩) n.2.length c/\i<n.2.length/\w.cell? ⟨g,i*n.1.2.ty.size+k,none⟩=some hv/\w.frozen? ⟨g,i*n.1.2.ty.size+k,none⟩=false/\∀s2,s2.oneCell'=true->(∀s'∈G1++Fn,s'.ownBlock≠some g)->Owns (w.setCell ⟨g,i*n.1.2.ty.size+k,none⟩ s2) ok' base s2 o (some (k0,p++[(i,k)])) x vs F
 |.d _,_,_,_,_,_,_,_,_,⟨h,_⟩=>by cases h
 |.p a b,x,k0,p,i,k,vs,F,HZ,⟨u,v,F1,F2,e,e2,h1,h2⟩=>by
  have h1:Owns w ok base hv a (hL a.ty.size (some (k0,p++[(i,k)]))) x.1 u F1:=h1;have h2:Owns w ok base hv b (hR a.ty.size (some (k0,p++[(i,k)]))) x.2 v F2:=h2;by_cases hk:k0<a.ty.size
  ·simp only[hL,hR,if_pos hk]at h1 h2
   obtain⟨n,s,g,c,G1,Fn,q1,q2,q3,q4,q5,q6,q6',q7⟩:=Owns.header hb (λs hs=>HZ s (by rw[e2];exact Dl _ hs)) h1;refine⟨n,s,g,c,G1,Fn++F2,by simp only[B3,if_pos hk];exact q1,by rw[e2,q2];simp,by rw[q3];simp only[nix,if_pos hk],q4,q5,q6,q6',λs2 AS hd=>⟨u,v,F1,F2,e,e2,?_,?_⟩⟩
   ·show Owns _ ok' base s2 a (hL a.ty.size (some (k0,p++[(i,k)]))) x.1 u F1
    simp only[hL,if_pos hk];exact q7 s2 AS λs' h=>hd s' (by rcases Ci.1 h with h|h<;>simp[h])
   ·show Owns _ ok' base s2 b (hR a.ty.size (some (k0,p++[(i,k)]))) x.2 v F2
    simp only[hR,if_pos hk];have hg:¬ok g:=HZ s (by rw[e2,q2];simp) g (by rw[q4];rfl);exact(h2.mono (AC _) (Keeps.set hb hg) λs' BN g' C2=>heap_setCell_other w _ g' s2 (λe=>hd s' (by simp[BN]) (by simp only at e;rw[C2,e]))).any
  ·simp only[hL,hR,if_neg hk]at h1 h2
   obtain⟨n,s,g,c,G1,Fn,q1,q2,q3,q4,q5,q6,q6',q7⟩:=Owns.header hb (λs hs=>HZ s (by rw[e2];exact D7 _ hs)) h2;refine⟨n,s,g,c,F1++G1,Fn,by simp only[B3,if_neg hk];exact q1,by rw[e2,q2];simp,by rw[AE,q3,Owns.cnt h1];simp only[nix,if_neg hk],q4,q5,q6,q6',λs2 AS hd=>⟨u,v,F1,F2,e,e2,?_,?_⟩⟩
   ·show Owns _ ok' base s2 a (hL a.ty.size (some (k0,p++[(i,k)]))) x.1 u F1
    simp only[hL,if_neg hk];have hg:¬ok g:=HZ s (by rw[e2,q2];simp) g (by rw[q4];rfl);exact(h1.mono (AC _) (Keeps.set hb hg) λs' BN g' C2=>heap_setCell_other w _ g' s2 (λe=>hd s' (by simp[BN]) (by simp only at e;rw[C2,e]))).any
   ·show Owns _ ok' base s2 b (hR a.ty.size (some (k0,p++[(i,k)]))) x.2 v F2
    simp only[hR,if_neg hk];exact q7 s2 AS λs' h=>hd s' (by rcases Ci.1 h with h|h<;>simp[h])
 |.r _ _,_,_+1,_,_,_,_,_,_,h=>h.elim
 |.r t e,l,0,[],i,k,vs,F,HZ,⟨hi,sv,xs,F',e1,e2,h1,h2⟩=>by
  obtain⟨g,c,Aq⟩:=Ak7 h1 (by omega);obtain⟨x',u,pp,q,Fu,Fp,Fq,a1,a2,a3,a4,a5,_,a6⟩:=OL.focus (n:=e.ty.size) (λ_ _ _ _ h=>h.length) h2 hi;simp only[DL,MQ]at a5;obtain⟨b1,b2⟩:=Owns.top a5;have hk:k<u.length:=(Eu.1 b1).1;have bG:=a5.length;subst Aq;have EJ:xs.length=(l:List e.ty.den).length*e.ty.size:=h1.1
  have Ao:i*e.ty.size+k<(l:List e.ty.den).length*e.ty.size:=by have:(i+1)*e.ty.size<=(l:List e.ty.den).length*e.ty.size:=KG _ hi;rw[HG]at this;omega
  have Dw:xs[i*e.ty.size+k]?=some hv:=by rw[a2,<-a3,FG (by omega),LD,GX hk];exact b1
  have NQ:w.frozen? ⟨g,i*e.ty.size+k,none⟩=false:=by
   rcases h1.2 with⟨h,_⟩|⟨g',cap,AQ,h,_,hh,_⟩
   ·cases h
   ·injection h with h _ _
    injection h with h;injection h with h;subst h;exact frozen_of_row w g _ AQ t hh
  refine⟨⟨(t,e),l⟩,_,g,c,[],F',rfl,e2,rfl,rfl,hi,by rw[h1.cellAt _ Ao];exact Dw,NQ,λs2 AS hd=>?_⟩;have hg:¬ok g:=HZ _ (by rw[e2];exact Gh ..) g rfl;obtain⟨r1,r2⟩:=h1.stored (i*e.ty.size+k) s2;refine⟨hi,_,xs.set (i*e.ty.size+k) s2,F',e1,e2,r1,?_⟩
  have hm:∀{o:OT}{h:Option (Nat×Path)}{x:o.ty.den}{vs f:List Value},(∀s'∈f,s'∈F')->Owns w ok base hv o h x vs f->Owns (w.setCell ⟨g,i*e.ty.size+k,none⟩ s2) ok' base hv o h x vs f:=λhf h=>
   h.mono (AC _) (Keeps.set hb hg) λs' BN g' C2=>heap_setCell_other w _ g' s2 (λe=>hd s' (by simp[hf s' BN]) (by simp only at e;rw[C2,e]))
  have h3:=h2.mono (R':=λj x u f=>Owns (w.setCell ⟨g,i*e.ty.size+k,none⟩ s2) ok' base hv e (hI i k [] j) x u f) (λ_ _ _ _ hf h=>hm hf h);obtain⟨x2,u2,pp2,q2,Fu2,Fp2,Fq2,c1,c2,c3,c4,c5,_,c6⟩:=OL.focus (n:=e.ty.size) (λ_ _ _ _ h=>h.length) h3 hi;simp only[DL,MQ]at c5
  have:=c6 (λj x u f=>Owns (w.setCell ⟨g,i*e.ty.size+k,none⟩ s2) ok' base s2 e (hI i k [] j) x u f) x2 (u2.set k s2) Fu2 (λm x u f hm _ h=>by simp only[DL]at hm;simp only[OS hm]at h⊢;exact h.any) (by simp only[DL,MQ];exact(Owns.top c5).2 s2 AS)
  rw[set_getElem?_same c1,<-c4,<-Ak8 (by rw[c5.length];omega),c3,<-c2]at this;exact this
 |.r t e,l,0,(i0,k1)::p,i,k,vs,F,HZ,⟨hi,sv,xs,F',e1,e2,h1,h2⟩=>by
  obtain⟨x',u,pp,q,Fu,Fp,Fq,a1,a2,a3,a4,a5,⟨_,a7,_⟩,a6⟩:=OL.focus (n:=e.ty.size) (λ_ _ _ _ h=>h.length) h2 hi;have D6:(l:List e.ty.den)[i0]?=some x':=a1;simp only[DL,MQ]at a5;obtain⟨n,s,g,c,G1,Fn,q1,q2,q3,q4,q5,q6,q6',q7⟩:=Owns.header hb (λs hs=>HZ s (by rw[e2,a4];simp[hs])) a5;have hg:¬ok g:=HZ s (by rw[e2,a4,q2];simp) g (by rw[q4];rfl)
  have I5:OL (λ_ x u f=>Owns w ok base hv e none x u f) 0 ((l:List e.ty.den).take i0) pp Fp:=by
   have:∀{l:List e.ty.den}{j:Nat}{xs F:List Value},j+l.length<=i0->OL (λj x u f=>Owns w ok base hv e (hI i0 k1 (p++[(i,k)]) j) x u f) j l xs F->OL (λ_ x u f=>Owns w ok base hv e none x u f) j l xs F:=by
    intro l
    induction l with
    |nil=>intro j xs F _ h;exact h
    |cons y l ih=>intro j xs F hj h;obtain⟨u,v,F1,F2,b1,b2,b3,b4⟩:=h;simp only[Ba]at hj;simp only[OS (show j≠i0 by omega)]at b3;exact⟨u,v,F1,F2,b1,b2,b3,ih (by omega) b4⟩
   exact this (by rw[FR];omega) a7
  refine⟨n,s,g,c,sv::(Fp++G1),Fn++Fq,by simp only[B3,D6];exact q1,by rw[e2,a4,q2];simp,?_,q4,q5,q6,q6',λs2 AS hd=>?_⟩
  ·simp only[nix,D6,Ba,AE,q3,QY e I5]
   omega
  ·have Ait:∀s' g',s'∈sv::(Fp++G1)++(Fn++Fq)->s'.ownBlock=some g'->(w.setCell ⟨g,i*n.1.2.ty.size+k,none⟩ s2).heap[g']?=w.heap[g']?:=λs' g' h C2=>
    heap_setCell_other w _ g' s2 (λe=>hd s' h (by simp only at e;rw[C2,e]))
   have Aq:=MP (AC base) (λg' C2=>Ait sv g' (by simp) C2) h1
   have h4:=a6 (λj x u f=>Owns (w.setCell ⟨g,i*n.1.2.ty.size+k,none⟩ s2) ok' base s2 e (hI i0 k1 (p++[(i,k)]) j) x u f) x' u Fu (λm x u f hm hf h=>by
    simp only[DL]at hm;simp only[OS hm]at h⊢;exact(h.mono (AC _) (Keeps.set hb hg) λs' BN g' C2=>Ait s' g' (by rcases hf s' BN with h|h<;>simp[h]) C2).any) (by
    simp only[DL,MQ];exact q7 s2 AS λs' h=>hd s' (by rcases Ci.1 h with h|h<;>simp[h]))
   rw[set_getElem?_same a1,<-a2,<-a4]at h4;exact⟨hi,sv,xs,F',e1,e2,Aq,h4⟩
end
theorem wI{α:Type}{f:α->Nat}:∀{l:List α}{i:Nat}{x:α},l[i]?=some x->((l.take i).map f).sum+f x<=(l.map f).sum
 |[],_,_,h=>by simp at h
 |y::l,0,x,h=>by simp at h;subst h;simp
 |y::l,i+1,x,h=>by have:=wI (f:=f) (l:=l) (i:=i) (x:=x) (by simpa using h);simp only[List.take_succ_cons,CE,ON];omega
theorem cO{α:Type}{f:α->Nat}:∀{l:List α}{i j:Nat}{x:α},l[i]?=some x->i<j->((l.take i).map f).sum+f x<=((l.take j).map f).sum
 |[],_,_,_,h,_=>by simp at h
 |y::l,0,j+1,x,h,_=>by simp at h;subst h;simp
 |y::l,i+1,j+1,x,h,hl=>by have:=cO (f:=f) (l:=l) (i:=i) (j:=j) (x:=x) (by simpa using h) (by omega);simp only[List.take_succ_cons,CE,ON];omega
theorem wJ(t:TypeId)(e:OT)(l:List e.ty.den):1<=cnt (.r t e) l:=by simp only[cnt];omega
theorem MR:∀{o:OT}{x:o.ty.den}{k:Nat}{p:Path}{n:Ew},B3 o x k p=some n->nix o x k p+cnt (.r n.1.1 n.1.2) n.2<=cnt o x
 |.d _,_,_,_,_,h=>by cases h
 |.p a b,x,k,p,n,h=>by
  simp only[B3]at h;split at h
  ·rename_i hk
   have:=MR h;simp only[nix,if_pos hk,cnt];simp only[cnt]at this;omega
  ·rename_i hk
   have:=MR h;simp only[nix,if_neg hk,cnt];simp only[cnt]at this;omega
 |.r t e,l,0,[],n,h=>by simp only[B3,Af]at h;subst h;simp only[nix];omega
 |.r t e,l,0,(i,k)::p,n,h=>by
  simp only[B3]at h;split at h
  ·rename_i x hx
   have D6:(l:List e.ty.den)[i]?=some x:=hx;have h1:=MR h;have h2:=wI (f:=cnt e) D6;simp only[nix,D6];show 1+_+_+_<=1+((l:List e.ty.den).map (cnt e)).sum;omega
  ·cases h
 |.r _ _,_,_+1,_,_,h=>by cases h
theorem VO:∀{o:OT}{x:o.ty.den}{k k':Nat}{P p:Path}{n m:Ew},B3 o x k P=some n->B3 o x k' p=some m->¬(k'=k/\P<+:p)->nix o x k' p<nix o x k P\/nix o x k P+cnt (.r n.1.1 n.1.2) n.2<=nix o x k' p
 |.d _,_,_,_,_,_,_,_,h,_,_=>by cases h
 |.p a b,x,k,k',P,p,n,m,h,h',AL=>by
  simp only[B3]at h h';split at h
  ·rename_i hk
   split at h'
   ·rename_i EH
    have:=VO h h' AL;simp only[nix,if_pos hk,if_pos EH];exact this
   ·rename_i EH
    have h1:=MR h;simp only[nix,if_pos hk,if_neg EH];simp only[cnt]at h1⊢;omega
  ·rename_i hk
   split at h'
   ·rename_i EH
    have h1:=MR h';simp only[nix,if_neg hk,if_pos EH];have:=wJ m.1.1 m.1.2 m.2;omega
   ·rename_i EH
    have:=VO h h' (λq=>AL ⟨by omega,q.2⟩);simp only[nix,if_neg hk,if_neg EH];omega
 |.r t e,l,0,0,[],p,n,m,h,h',AL=>absurd ⟨rfl,List.nil_prefix⟩ AL
 |.r t e,l,0,0,(i,k)::P,[],n,m,h,h',AL=>by
  simp only[B3]at h;split at h
  ·rename_i x hx
   have D6:(l:List e.ty.den)[i]?=some x:=hx;simp only[nix,D6];omega
  ·cases h
 |.r t e,l,0,0,(i,k)::P,(i',k')::p,n,m,h,h',AL=>by
  simp only[B3]at h h';split at h
  ·rename_i x hx
   split at h'
   ·rename_i x' D6
    have hx:(l:List e.ty.den)[i]?=some x:=hx;have D6:(l:List e.ty.den)[i']?=some x':=D6;have c1:=MR h;have c2:=MR h';have p2:=wJ m.1.1 m.1.2 m.2;simp only[nix,hx,D6];rcases Nat.lt_trichotomy i' i with Ao|DD|Ao
    ·have:=cO (f:=cnt e) D6 Ao
     omega
    ·subst DD
     rw[hx]at D6;injection D6 with D6;subst D6;have:=VO h h' (λq=>AL ⟨rfl,by rw[q.1];exact List.cons_prefix_cons.2 ⟨rfl,q.2⟩⟩);omega
    ·have:=cO (f:=cnt e) hx Ao
     omega
   ·cases h'
  ·cases h
 |.r _ _,_,_+1,_,_,_,_,_,h,_,_=>by cases h
 |.r _ _,_,0,_+1,_,_,_,_,_,h',_=>by cases h'
section
variable{w:World}{ok ok':Nat->Prop}{base:Nat}{hv:Value}
theorem Owns.data(hb:∀g,ok g->ok' g):∀{o:OT}{x:o.ty.den}{vs F:List Value},(∀s∈F,∀g,s.ownBlock=some g->ok' g)->Owns w ok base hv o none x vs F->DRep w ok' o.ty x vs
 |.d _,_,_,_,_,⟨_,h,_⟩=>h.mono λg hg _=>⟨hb g hg,rfl⟩
 |.p _ _,_,_,_,hf,⟨u,v,F1,F2,e,e2,h1,h2⟩=>⟨u,v,e,Owns.data hb (λs hs=>hf s (by rw[e2];exact Dl _ hs)) (show Owns w ok base hv _ none _ _ _ from h1),Owns.data hb (λs hs=>hf s (by rw[e2];exact D7 _ hs)) (show Owns w ok base hv _ none _ _ _ from h2)⟩
 |.r _ e0,l,_,_,hf,⟨sv,xs,F',e,e2,h,hl⟩=>by
  have hd:DList (λx u=>DRep w ok' e0.ty x u) l xs:=by
   have:∀{l:List e0.ty.den}{j:Nat}{xs F:List Value},(∀s∈F,∀g,s.ownBlock=some g->ok' g)->OL (λ_ x u f=>Owns w ok base hv e0 none x u f) j l xs F->DList (λx u=>DRep w ok' e0.ty x u) l xs:=by
    intro l
    induction l with
    |nil=>intro j xs F _ h;exact h.1
    |cons y l ih=>intro j xs F hF h;obtain⟨u,v,F1,F2,b1,b2,b3,b4⟩:=h;exact⟨u,v,b1,Owns.data hb (λs hs=>hF s (by rw[b2];exact Dl _ hs)) b3,ih (λs hs=>hF s (by rw[b2];exact D7 _ hs)) b4⟩
   exact this (λs hs=>hf s (by rw[e2];exact Dm _ hs)) hl
  have EJ:=h.1;rcases h.2 with⟨h1,h2⟩|⟨g,cap,AQ,h1,Uq,hh,hn,hm,hs,ht⟩
  ·refine⟨none,0,xs,by rw[e,h1,h2],by rw[h2];exact AC _,DM _,hd,λj v hj=>?_⟩
   have:xs=[]:=Ik (by rw[EJ,h2,Nat.zero_mul]);rw[this]at hj;simp at hj
  ·refine⟨some ⟨g,0,none⟩,cap,xs,by rw[e,h1],hn,hm,hd,λj v hj=>⟨⟨g,0,none⟩,rfl,hf sv (by rw[e2];exact Gh ..) g (by rw[h1];rfl),?_⟩⟩
   exact h.cells (g:=g) (by rw[h1];rfl) j v hj
end
end Go.Lift
namespace Go.Lift
inductive C where
 |bool (b:Bool)
 |int (k:IntKind) (n:Int)
 |str (s:List UInt8)
 |err (b:Bool)
 |list (e:Ty) (l:List e.den)
 |nils
 |nilc
 |lsome (e:Ty) (l:List e.den)
 |nilp
 |ptr (b o:Nat)
 |row (b ver:Nat)
 |fn (f:FuncId) (B4:List Nat)
 |nilfn
 |mapv (b:Nat)
 |mat (b ver:Nat)
 |mrow (b Ag i:Nat)
 |sub (b ver i j:Nat)
 |bself (b:Nat)
 |trow (b ver:Nat) (p:Path)
 |bfn (f:FuncId) (b:Nat)
 |tptr (b ver:Nat) (p:Path) (i o:Nat)
 |junk
inductive V where
 |junk
 |c (x:C)
 |agg (cs:List C)
 |tup (ts:List (Bool×List C))
 |eptr (b ver i o:Nat)
 |lptr (e:Ty) (x:e.den) (o:Nat)
 |mcell (b ver i:Nat)
 |mptr (b Ag i j o:Nat)
 |arr (b o:Nat) (e:Ty) (n:Nat)
inductive Blk where
 |cells (t:TypeId) (cs:List C)
 |row (t:TypeId) (e:Ty) (ver:Nat) (l:List e.den)
 |map (t:TypeId) (k v:Ty) (vg:Bool) (l:List (k.den×v.den))
 |mat (t et:TypeId) (e:Ty) (ver Ag:Nat) (hole:Option Nat) (l:List (List e.den))
 |tree (t:TypeId) (e:OT) (ver Ag:Nat) (hole:Option Path) (l:List e.ty.den)
 |fmap (t:TypeId) (l:List (List UInt8×(FuncId×Nat)))
 |dead
inductive Pl where
 |cells (g:Nat)
 |row (sv:Value) (Ab:List (Option Value))
def Pl.has:Pl->Nat->Prop
 |.cells g',g=>g'=g
 |.row sv Ab,g=>sv.ownBlock=some g\/∃(i:Nat)(s:Value),Ab[i]?=some (some s)/\s.ownBlock=some g
theorem Pl.has_row{sv:Value}{g:Nat}(h:(Pl.row sv []).has g):sv.ownBlock=some g:=by
 rcases h with h|⟨i,s,h,_⟩
 ·exact h
 ·simp at h
structure Env where
 w:World
 ok:Nat->Prop
 base:Nat
 pl:Nat->Option Pl
 bl:Nat->Option Blk
def tv(ver Ag:Nat):Path->Nat
 |[]=>ver
 |_::_=>ver+Ag
theorem VP{a b a' b':Nat}(ha:a<=a')(hb:b<=b')(p:Path):tv a b p<=tv a' b' p:=by cases p<;>simp only[tv]<;>omega
theorem wK{a b a' b':Nat}(ha:a<=a')(hb:b<=b'){p:Path}(h:tv a b p=tv a' b' p):a=a'/\(p=[]\/b=b'):=by
 cases p with
 |nil=>exact⟨h,.inl rfl⟩
 |cons _ _=>simp only[tv]at h;exact⟨by omega,.inr (by omega)⟩
def QZ(h:Option Path)(p:Path):Prop:=∀q,h=some q->¬q<+:p
def CRep(E:Env):C->Value->Prop
 |.bool b,v=>v=.bool b
 |.int k n,v=>v=.int k n
 |.str s,v=>v=.string ⟨s.toArray⟩
 |.err b,v=>errRep b v
 |.list e l,v=>DRep E.w E.ok (.slice e) l [v]
 |.nils,v=>v=.slice none 0 0
 |.nilc,v=>∃c,v=.slice none 0 c
 |.lsome e l,v=>DRep E.w E.ok (.slice e) l [v]/\∀n c,v≠.slice none n c
 |.nilp,v=>v=.pointer none
 |.ptr b o,v=>∃g,E.pl b=some (.cells g)/\v=.pointer (some ⟨g,o,none⟩)
 |.row b ver,v=>v.oneCell'=true/\∃sv Ab,E.pl b=some (.row sv Ab)/\∀t e ver' l,E.bl b=some (.row t e ver' l)->ver<=ver'/\(ver=ver'->v=sv)
 |.fn f B4,v=>∃gs:List Nat,B4.map E.pl=gs.map (λg=>some (.cells g))/\v=.func (.func f) #[] (gs.map λg=>.pointer (some ⟨g,0,none⟩)).toArray
 |.nilfn,v=>v=.nilFunc
 |.mapv b,v=>∃g,E.pl b=some (.cells g)/\v=.map (some g)
 |.mat b ver,v=>v.oneCell'=true/\∃sv Ab,E.pl b=some (.row sv Ab)/\∀t et e ver' Ag hole l,E.bl b=some (.mat t et e ver' Ag hole l)->ver<=ver'/\(ver=ver'->v=sv)
 |.mrow b Ag i,v=>v.oneCell'=true/\∃sv Ab,E.pl b=some (.row sv Ab)/\∀t et e ver Bp hole l,E.bl b=some (.mat t et e ver Bp hole l)->Ag<=Bp/\(Ag=Bp->i<l.length/\Ab[i]?=some (some v))
 |.sub b ver i j,v=>v.oneCell'=true/\∃sv Ab,E.pl b=some (.row sv Ab)/\∀t e ver' l,E.bl b=some (.row t e ver' l)->ver<=ver'/\(ver=ver'->i<=j/\j<=l.length/\
   ∃A A' n c,sv=.slice A n c/\v=.slice A' (j-i) (c-i)/\(i<j->A'=A.map (·.add (i*e.size)))/\(i=0->A'=A))
 |.bself b,v=>v=.pointer none\/∃g,E.pl b=some (.cells g)/\v=.pointer (some ⟨g,0,none⟩)
 |.trow b ver p,v=>v.oneCell'=true/\∃sv Ab,E.pl b=some (.row sv Ab)/\∀t e ver' Bp h l,E.bl b=some (.tree t e ver' Bp h l)->ver<=tv ver' Bp p/\(ver=tv ver' Bp p->QZ h p->
   ∃n,B3 (.r t e) l 0 p=some n/\(some sv::Ab)[nix (.r t e) l 0 p]?=some (some v))
 |.bfn f b,v=>∃g,E.pl b=some (.cells g)/\v=.func (.func f) #[.pointer (some ⟨g,0,none⟩)] #[]
 |.tptr b ver p i o,v=>∃sv Ab ad,E.pl b=some (.row sv Ab)/\v=.pointer (some ad)/\∀t e ver' Bp h l,E.bl b=some (.tree t e ver' Bp h l)->ver<=tv ver' Bp p/\(ver=tv ver' Bp p->QZ h p->
   ∃n s,B3 (.r t e) l 0 p=some n/\(some sv::Ab)[nix (.r t e) l 0 p]?=some (some s)/\i<n.2.length/\∃g m c,s=.slice (some ⟨g,0,none⟩) m c/\ad=⟨g,i*n.1.2.ty.size+o,none⟩)
 |.junk,v=>v.oneCell'=true
def CReps(E:Env):List C->List Value->Prop
 |[],vs=>vs=[]
 |c::cs,vs=>∃v Ap,vs=v::Ap/\CRep E c v/\CReps E cs Ap
def SRep(E:Env)(agg:Bool)(cs:List C)(v:Value):Prop:=
 ∃vs,CReps E cs vs/\if agg then v=.agg vs.toArray else vs=[v]
def TReps(E:Env):List (Bool×List C)->List Value->Prop
 |[],vs=>vs=[]
 |t::ts,vs=>∃v Ap,vs=v::Ap/\SRep E t.1 t.2 v/\TReps E ts Ap
def VRep(E:Env):V->Value->Prop
 |.junk,_=>True
 |.c x,v=>CRep E x v
 |.agg cs,v=>SRep E true cs v
 |.tup ts,v=>∃vs,v=.tuple vs.toArray/\TReps E ts vs
 |.eptr b ver i o,v=>∃sv Ab ad,E.pl b=some (.row sv Ab)/\v=.pointer (some ad)/\∀t e ver' l,E.bl b=some (.row t e ver' l)->ver<=ver'/\
   (ver=ver'->i<l.length/\∃g n c,sv=.slice (some ⟨g,0,none⟩) n c/\ad=⟨g,i*e.size+o,none⟩)
 |.mcell b ver i,v=>∃sv Ab ad,E.pl b=some (.row sv Ab)/\v=.pointer (some ad)/\∀t et e ver' Ag hole l,E.bl b=some (.mat t et e ver' Ag hole l)->ver<=ver'/\
   (ver=ver'->i<l.length/\∃g n c,sv=.slice (some ⟨g,0,none⟩) n c/\ad=⟨g,i,none⟩)
 |.mptr b Ag i j o,v=>∃sv Ab ad,E.pl b=some (.row sv Ab)/\v=.pointer (some ad)/\∀t et e ver Bp hole l,E.bl b=some (.mat t et e ver Bp hole l)->Ag<=Bp/\
   (Ag=Bp->∃s x,l[i]?=some x/\Ab[i]?=some (some s)/\j<x.length/\∃g n c,s=.slice (some ⟨g,0,none⟩) n c/\ad=⟨g,j*e.size+o,none⟩)
 |.arr b o _ n,v=>∃g,E.pl b=some (.cells g)/\v=.slice (some ⟨g,o,none⟩) n n
 |.lptr e x o,v=>∃xs ad,DRep E.w E.ok e x xs/\v=.pointer (some ad)/\∀j u,(xs.drop o)[j]?=some u->E.ok ad.block/\E.w.cell? (ad.add j)=some u
def keyW:Ty->Bool
 |.prod _ _=>true
 |_=>false
def KRep(w:World)(ok:Nat->Prop)(k:Ty)(x:k.den)(u:Value):Prop:=
 ∃us,DRep w ok k x us/\if keyW k then u=.agg us.toArray else us=[u]
def MRep(w:World)(ok:Nat->Prop)(k v:Ty)(vg:Bool):List (k.den×v.den)->List MapEntry->Prop
 |[],es=>es=[]
 |x::l,es=>∃e r,es=e::r/\KRep w ok k x.1 e.key/\(∃us,DRep w ok v x.2 us/\if vg then e.val=.agg us.toArray else us=[e.val])/\MRep w ok k v vg l r
theorem MRep.mono{w w':World}{ok ok':Nat->Prop}{k v:Ty}{vg:Bool}(hk:∀x us,DRep w ok k x us->DRep w' ok' k x us)(hv:∀x us,DRep w ok v x us->DRep w' ok' v x us):∀{l:List (k.den×v.den)}{es:List MapEntry},MRep w ok k v vg l es->MRep w' ok' k v vg l es
 |[],_,h=>h
 |_::_,_,⟨e,r,h0,⟨ks,h1,h5⟩,⟨us,h2,h3⟩,h4⟩=>⟨e,r,h0,⟨ks,hk _ _ h1,h5⟩,⟨us,hv _ _ h2,h3⟩,MRep.mono hk hv h4⟩
def FRep(E:Env):List (List UInt8×(FuncId×Nat))->List MapEntry->Prop
 |[],es=>es=[]
 |x::l,es=>∃e r g,es=e::r/\e.key=.string ⟨x.1.toArray⟩/\E.pl x.2.2=some (.cells g)/\e.val=.func (.func x.2.1) #[.pointer (some ⟨g,0,none⟩)] #[]/\FRep E l r
structure MatOk (E:Env) (t et:TypeId) (e:Ty) (hole:Option Nat) (l:List (List e.den)) (sv:Value) (Ab:List (Option Value)):Prop where
 outer:∃vs:List Value,E.w.ownsRow E.base t 1 sv l.length vs/\∀(i:Nat)(s:Value),Ab[i]?=some (some s)->vs[i]?=some s
 len:Ab.length=l.length
 hole:∀i:Nat,Ab[i]?=some none->hole=some i
 inner:∀(i:Nat)(s:Value)(x:List e.den),Ab[i]?=some (some s)->l[i]?=some x->∃xs,DList (λx u=>DRep E.w E.ok e x u) x xs/\E.w.ownsRow E.base et e.size s x.length xs
 sep0:∀(i:Nat)(s:Value)(g:Nat),Ab[i]?=some (some s)->sv.ownBlock=some g->s.ownBlock≠some g
 sep:∀(i j:Nat)(s r:Value)(g:Nat),i≠j->Ab[i]?=some (some s)->Ab[j]?=some (some r)->s.ownBlock=some g->r.ownBlock≠some g
def Placed(t:TypeId)(e:OT)(l:List e.ty.den):Option Path->List Value->List (Option Value)->Prop
 |none,F,Ab=>Ab=F.map some
 |some P,F,Ab=>∃n G1 G2,B3 (.r t e) l 0 P=some n/\F=G1++G2/\G1.length=nix (.r t e) l 0 P/\Ab=G1.map some++(List.replicate (cnt (.r n.1.1 n.1.2) n.2) none++G2.map some)
structure TreeOk (E:Env) (t:TypeId) (e:OT) (hole:Option Path) (l:List e.ty.den) (sv:Value) (Ab:List (Option Value)):Prop where
 rep:∃hv F,Owns E.w E.ok E.base hv (.r t e) (hole.map λp=>(0,p)) l [sv] (sv::F)/\Placed t e l hole (sv::F) (some sv::Ab)/\(sv::F).Pairwise (λs r=>∀g,s.ownBlock=some g->r.ownBlock≠some g)
 top:hole≠some []
def BRep(E:Env):Blk->Pl->Prop
 |.cells t cs,.cells g=>∃vs:List Value,E.w.heap[g]?=some (.cells vs.toArray t (0,0))/\CReps E cs vs
 |.row t e _ l,.row sv Ab=>Ab=[]/\∃xs,DList (λx u=>DRep E.w E.ok e x u) l xs/\E.w.ownsRow E.base t e.size sv l.length xs
 |.mat t et e _ _ hole l,.row sv Ab=>MatOk E t et e hole l sv Ab
 |.tree t e _ _ hole l,.row sv Ab=>TreeOk E t e hole l sv Ab
 |.map _ k v vg l,.cells g=>∃(es:Array MapEntry)(C8:Nat),E.w.heap[g]?=some (.map es C8)/\MRep E.w E.ok k v vg l es.toList
 |.fmap _ l,.cells g=>∃(es:Array MapEntry)(C8:Nat),E.w.heap[g]?=some (.map es C8)/\FRep E l es.toList
 |.dead,_=>True
 |_,_=>False
def KeepT(c:Prop)(t:TypeId)(e:OT)(h h':Option Path)(l l':List e.ty.den)(sv:Value)(Ab Bl:List (Option Value)):Prop:=
 ∀p,(p=[]\/c)->QZ h' p->QZ h p/\∀n,B3 (.r t e) l 0 p=some n->∃n',B3 (.r t e) l' 0 p=some n'/\n'.1=n.1/\n'.2.length=n.2.length/\
  ∀s,(some sv::Ab)[nix (.r t e) l 0 p]?=some (some s)->(some sv::Bl)[nix (.r t e) l' 0 p]?=some (some s)
theorem KeepT.refl(c:Prop)(t:TypeId)(e:OT)(h:Option Path)(l:List e.ty.den)(sv:Value)(Ab:List (Option Value)):KeepT c t e h h l l sv Ab Ab:=λ_ _ ho=>⟨ho,λn hn=>⟨n,hn,rfl,rfl,λ_ hs=>hs⟩⟩
theorem KeepT.trans{c c1 c2:Prop}(hc:c->c1/\c2){t:TypeId}{e:OT}{h h1 h2:Option Path}{l l1 l2:List e.ty.den}{sv:Value}{Ab L8 JH:List (Option Value)}(a:KeepT c1 t e h h1 l l1 sv Ab L8)(b:KeepT c2 t e h1 h2 l1 l2 sv L8 JH):KeepT c t e h h2 l l2 sv Ab JH:=λp hp ho=>by obtain⟨b1,b2⟩:=b p (hp.imp id λh=>(hc h).2) ho;obtain⟨a1,a2⟩:=a p (hp.imp id λh=>(hc h).1) b1;refine⟨a1,λn hn=>?_⟩;obtain⟨n1,c1,c2,c3,c4⟩:=a2 n hn;obtain⟨n2,d1,d2,d3,d4⟩:=b2 n1 c1;exact⟨n2,d1,d2.trans c2,d3.trans c3,λs hs=>d4 s (c4 s hs)⟩
structure KeepR (B B':Option Blk) (sv:Value) (Ab:List (Option Value)) (AM:Value) (Bl:List (Option Value)):Prop where
 row:∀t e ver' l',B'=some (.row t e ver' l')->∃ver l,B=some (.row t e ver l)/\ver<=ver'/\(ver=ver'->AM=sv/\l'.length=l.length)
 mat:∀t et e ver' Bp Gx l',B'=some (.mat t et e ver' Bp Gx l')->∃ver Ag hole l,B=some (.mat t et e ver Ag hole l)/\ver<=ver'/\Ag<=Bp/\
  (ver=ver'->AM=sv/\l'.length=l.length)/\(Ag=Bp->Bl=Ab/\l'.map List.length=l.map List.length)
 tree:∀t e ver' Bp h' l',B'=some (.tree t e ver' Bp h' l')->∃ver Ag h l,B=some (.tree t e ver Ag h l)/\ver<=ver'/\Ag<=Bp/\(ver=ver'->AM=sv/\KeepT (Ag=Bp) t e h h' l l' sv Ab Bl)
theorem KeepR.refl(B:Option Blk)(sv:Value)(Ab:List (Option Value)):KeepR B B sv Ab sv Ab:=
 ⟨λ_ _ ver' l' hb=>⟨ver',l',hb,AC _,λ_=>⟨rfl,rfl⟩⟩,λ_ _ _ ver' Bp Gx l' hb=>⟨ver',Bp,Gx,l',hb,AC _,AC _,λ_=>⟨rfl,rfl⟩,λ_=>⟨rfl,rfl⟩⟩,λ_ _ ver' Bp h' l' hb=>⟨ver',Bp,h',l',hb,AC _,AC _,λ_=>⟨rfl,KeepT.refl _ _ _ _ _ _ _⟩⟩⟩
theorem KeepR.of_eq{B B':Option Blk}(h:∀C,B'=some C->B=some C)(sv:Value)(Ab:List (Option Value)):KeepR B B' sv Ab sv Ab:=
 ⟨λ_ _ ver' l' hb=>⟨ver',l',h _ hb,AC _,λ_=>⟨rfl,rfl⟩⟩,λ_ _ _ ver' Bp Gx l' hb=>⟨ver',Bp,Gx,l',h _ hb,AC _,AC _,λ_=>⟨rfl,rfl⟩,λ_=>⟨rfl,rfl⟩⟩,λ_ _ ver' Bp h' l' hb=>⟨ver',Bp,h',l',h _ hb,AC _,AC _,λ_=>⟨rfl,KeepT.refl _ _ _ _ _ _ _⟩⟩⟩
theorem KeepR.of_live{B B':Option Blk}(h:∀C,B'=some C->C≠.dead->B=some C)(sv:Value)(Ab:List (Option Value)):KeepR B B' sv Ab sv Ab:=
 ⟨λ_ _ ver' l' hb=>⟨ver',l',h _ hb (by simp),AC _,λ_=>⟨rfl,rfl⟩⟩,λ_ _ _ ver' Bp Gx l' hb=>⟨ver',Bp,Gx,l',h _ hb (by simp),AC _,AC _,λ_=>⟨rfl,rfl⟩,λ_=>⟨rfl,rfl⟩⟩,λ_ _ ver' Bp h' l' hb=>⟨ver',Bp,h',l',h _ hb (by simp),AC _,AC _,λ_=>⟨rfl,KeepT.refl _ _ _ _ _ _ _⟩⟩⟩
theorem KeepR.trans{B B1 B2:Option Blk}{sv sv1 sv2:Value}{Ab L8 JH:List (Option Value)}(h:KeepR B B1 sv Ab sv1 L8)(k:KeepR B1 B2 sv1 L8 sv2 JH):KeepR B B2 sv Ab sv2 JH:=by
 constructor
 ·intro t e Ij l2 Ah
  obtain⟨CD,l1,By,le1,eq1⟩:=k.row t e Ij l2 Ah;obtain⟨CL,l0,Ek,le0,eq0⟩:=h.row t e CD l1 By;refine⟨CL,l0,Ek,Df le0 le1,λhe=>?_⟩;have e01:CL=CD:=Im le0 (he▸le1);have e12:CD=Ij:=e01▸he;exact⟨(eq1 e12).1.trans (eq0 e01).1,(eq1 e12).2.trans (eq0 e01).2⟩
 ·intro t et e Ij QA Azv l2 Ah
  obtain⟨CD,GR,UJ,l1,By,le1,ile1,eq1,ieq1⟩:=k.mat t et e Ij QA Azv l2 Ah;obtain⟨CL,Ft,Lx,l0,Ek,le0,ile0,eq0,ieq0⟩:=h.mat t et e CD GR UJ l1 By;refine⟨CL,Ft,Lx,l0,Ek,Df le0 le1,Df ile0 ile1,λhe=>?_,λhe=>?_⟩
  ·have e01:CL=CD:=Im le0 (he▸le1)
   have e12:CD=Ij:=e01▸he;exact⟨(eq1 e12).1.trans (eq0 e01).1,(eq1 e12).2.trans (eq0 e01).2⟩
  ·have e01:Ft=GR:=Im ile0 (he▸ile1)
   have e12:GR=QA:=e01▸he;exact⟨(ieq1 e12).1.trans (ieq0 e01).1,(ieq1 e12).2.trans (ieq0 e01).2⟩
 ·intro t e Ij QA h2 l2 Ah
  obtain⟨CD,GR,h1,l1,By,le1,ile1,eq1⟩:=k.tree t e Ij QA h2 l2 Ah;obtain⟨CL,Ft,h0,l0,Ek,le0,ile0,eq0⟩:=h.tree t e CD GR h1 l1 By;refine⟨CL,Ft,h0,l0,Ek,Df le0 le1,Df ile0 ile1,λhe=>?_⟩;have e01:CL=CD:=Im le0 (he▸le1);have e12:CD=Ij:=e01▸he;obtain⟨a1,a2⟩:=eq0 e01;obtain⟨b1,b2⟩:=eq1 e12;rw[a1]at b2;exact⟨b1.trans a1,a2.trans (λhc=>⟨by omega,by omega⟩) b2⟩
structure Ext (E E':Env):Prop where
 base:E'.base<=E.base
 heap:Keeps E.w E.ok E'.w E'.ok
 cells:∀b g,E.pl b=some (.cells g)->E'.pl b=some (.cells g)
 rows:∀b sv Ab,E.pl b=some (.row sv Ab)->∃AM Bl,E'.pl b=some (.row AM Bl)/\KeepR (E.bl b) (E'.bl b) sv Ab AM Bl
theorem Ext.refl(E:Env):Ext E E:=⟨AC _,λ_ h _=>⟨h,rfl⟩,λ_ _ h=>h,λ_ sv Ab h=>⟨sv,Ab,h,KeepR.refl _ _ _⟩⟩
section
variable{E E':Env}
theorem Ak9{α:Type}{l l':List (List α)}(h:l'.map List.length=l.map List.length){i:Nat}{x:List α}(hx:l[i]?=some x):∃x',l'[i]?=some x'/\x'.length=x.length:=by
 have h1:(l'.map List.length)[i]?=some x.length:=by rw[h,FI,hx];rfl
 rw[FI]at h1;cases hy:l'[i]? with
 |none=>rw[hy]at h1;cases h1
 |some y=>rw[hy]at h1;injection h1 with h1;exact⟨y,rfl,h1⟩
theorem CRep.mono(hx:Ext E E'):∀{c:C}{v:Value},CRep E c v->CRep E' c v
 |.bool _,_,h=>h
 |.int _ _,_,h=>h
 |.str _,_,h=>h
 |.err _,_,h=>h
 |.list e l,_,h=>DRep.mono (τ:=.slice e) hx.heap h
 |.nils,_,h=>h
 |.nilc,_,h=>h
 |.lsome e l,_,h=>⟨DRep.mono (τ:=.slice e) hx.heap h.1,h.2⟩
 |.nilp,_,h=>h
 |.nilfn,_,h=>h
 |.junk,_,h=>h
 |.ptr _ _,_,⟨g,h,hv⟩=>⟨g,hx.cells _ _ h,hv⟩
 |.mapv _,_,⟨g,h,hv⟩=>⟨g,hx.cells _ _ h,hv⟩
 |.bfn _ _,_,⟨g,h,hv⟩=>⟨g,hx.cells _ _ h,hv⟩
 |.tptr b ver p i o,_,⟨sv,Ab,ad,h,he,hv⟩=>by obtain⟨AM,Bl,h',hr⟩:=hx.rows _ _ _ h;refine⟨AM,Bl,ad,h',he,λt e ver' Bp U7 l' hb=>?_⟩;obtain⟨CL,Ft,hh,l,Ek,BD,ile,DD⟩:=hr.tree t e ver' Bp U7 l' hb;obtain⟨h1,h2⟩:=hv t e CL Ft hh l Ek;refine⟨Df h1 (VP BD ile p),λhe ho=>?_⟩;have BE:=Im (VP BD ile p) (he▸h1);obtain⟨this,hc⟩:=wK BD ile BE;obtain⟨q1,q2⟩:=DD this;obtain⟨r1,r2⟩:=q2 p hc ho;obtain⟨n,s,h3,h4,h5,h6⟩:=h2 (he.trans BE.symm) r1;obtain⟨n',s1,s2,s3,s4⟩:=r2 n h3;rw[q1];exact⟨n',s,s1,s4 _ h4,by rw[s3];exact h5,by rw[s2];exact h6⟩
 |.bself _,_,.inl h=>.inl h
 |.bself _,_,.inr ⟨g,h,hv⟩=>.inr ⟨g,hx.cells _ _ h,hv⟩
 |.row b ver,_,⟨Ll,sv,Ab,h,hv⟩=>by obtain⟨AM,Bl,h',hr⟩:=hx.rows _ _ _ h;refine⟨Ll,AM,Bl,h',λt e ver' l' hb=>?_⟩;obtain⟨CL,l,Ek,BD,DD⟩:=hr.row t e ver' l' hb;obtain⟨h1,h2⟩:=hv t e CL l Ek;refine⟨Df h1 BD,λhe=>?_⟩;have:CL=ver':=Im BD (he▸h1);rw[(DD this).1];exact h2 (he.trans this.symm)
 |.mat b ver,_,⟨Ll,sv,Ab,h,hv⟩=>by obtain⟨AM,Bl,h',hr⟩:=hx.rows _ _ _ h;refine⟨Ll,AM,Bl,h',λt et e ver' Bp Gx l' hb=>?_⟩;obtain⟨CL,Ft,Lx,l,Ek,BD,_,DD,_⟩:=hr.mat t et e ver' Bp Gx l' hb;obtain⟨h1,h2⟩:=hv t et e CL Ft Lx l Ek;refine⟨Df h1 BD,λhe=>?_⟩;have:CL=ver':=Im BD (he▸h1);rw[(DD this).1];exact h2 (he.trans this.symm)
 |.mrow b Ag i,_,⟨Ll,sv,Ab,h,hv⟩=>by
  obtain⟨AM,Bl,h',hr⟩:=hx.rows _ _ _ h;refine⟨Ll,AM,Bl,h',λt et e ver' Bp Gx l' hb=>?_⟩;obtain⟨CL,Ft,Lx,l,Ek,_,BD,_,DD⟩:=hr.mat t et e ver' Bp Gx l' hb;obtain⟨h1,h2⟩:=hv t et e CL Ft Lx l Ek;refine⟨Df h1 BD,λhe=>?_⟩;have hi:Ft=Bp:=Im BD (he▸h1);obtain⟨q1,q2⟩:=DD hi;have q3:l'.length=l.length:=by simpa using At List.length q2
  rw[q1,q3];exact h2 (he.trans hi.symm)
 |.sub b ver i j,_,⟨Ll,sv,Ab,h,hv⟩=>by obtain⟨AM,Bl,h',hr⟩:=hx.rows _ _ _ h;refine⟨Ll,AM,Bl,h',λt e ver' l' hb=>?_⟩;obtain⟨CL,l,Ek,BD,DD⟩:=hr.row t e ver' l' hb;obtain⟨h1,h2⟩:=hv t e CL l Ek;refine⟨Df h1 BD,λhe=>?_⟩;have:CL=ver':=Im BD (he▸h1);rw[(DD this).1,(DD this).2];exact h2 (he.trans this.symm)
 |.trow b ver p,_,⟨Ll,sv,Ab,h,hv⟩=>by obtain⟨AM,Bl,h',hr⟩:=hx.rows _ _ _ h;refine⟨Ll,AM,Bl,h',λt e ver' Bp U7 l' hb=>?_⟩;obtain⟨CL,Ft,hh,l,Ek,BD,ile,DD⟩:=hr.tree t e ver' Bp U7 l' hb;obtain⟨h1,h2⟩:=hv t e CL Ft hh l Ek;refine⟨Df h1 (VP BD ile p),λhe ho=>?_⟩;have BE:=Im (VP BD ile p) (he▸h1);obtain⟨this,hc⟩:=wK BD ile BE;obtain⟨q1,q2⟩:=DD this;obtain⟨r1,r2⟩:=q2 p hc ho;obtain⟨n,h3,h4⟩:=h2 (he.trans BE.symm) r1;obtain⟨n',s1,_,_,s4⟩:=r2 n h3;rw[q1];exact⟨n',s1,s4 _ h4⟩
 |.fn f B4,_,⟨gs,h,hv⟩=>by
  refine⟨gs,?_,hv⟩;clear hv
  induction B4 generalizing gs with
  |nil=>cases gs<;>simp_all
  |cons b bs ih=>
   cases gs with
   |nil=>simp at h
   |cons g gs=>simp only[CE,De]at h⊢;exact⟨hx.cells _ _ h.1,ih gs h.2⟩
theorem CReps.mono(hx:Ext E E'):∀{cs:List C}{vs:List Value},CReps E cs vs->CReps E' cs vs
 |[],_,h=>h
 |_::_,_,⟨v,Ap,e,h,ht⟩=>⟨v,Ap,e,CRep.mono hx h,CReps.mono hx ht⟩
theorem SRep.mono(hx:Ext E E'){agg:Bool}{cs:List C}{v:Value}(h:SRep E agg cs v):SRep E' agg cs v:=by obtain⟨vs,h1,h2⟩:=h;exact⟨vs,h1.mono hx,h2⟩
theorem TReps.mono(hx:Ext E E'):∀{ts:List (Bool×List C)}{vs:List Value},TReps E ts vs->TReps E' ts vs
 |[],_,h=>h
 |_::_,_,⟨v,Ap,e,h,ht⟩=>⟨v,Ap,e,h.mono hx,TReps.mono hx ht⟩
theorem VRep.mono(hx:Ext E E'):∀{x:V}{v:Value},VRep E x v->VRep E' x v
 |.junk,_,_=>trivial
 |.c _,_,h=>CRep.mono hx h
 |.agg _,_,h=>SRep.mono hx h
 |.tup _,_,⟨vs,e,h⟩=>⟨vs,e,h.mono hx⟩
 |.mcell b ver i,_,⟨sv,Ab,ad,h,he,hv⟩=>by obtain⟨AM,Bl,h',hr⟩:=hx.rows _ _ _ h;refine⟨AM,Bl,ad,h',he,λt et e ver' Bp Gx l' hb=>?_⟩;obtain⟨CL,Ft,Lx,l,Ek,BD,_,DD,_⟩:=hr.mat t et e ver' Bp Gx l' hb;obtain⟨h1,h2⟩:=hv t et e CL Ft Lx l Ek;refine⟨Df h1 BD,λhe=>?_⟩;have:CL=ver':=Im BD (he▸h1);obtain⟨q1,q2⟩:=DD this;rw[q1,q2];exact h2 (he.trans this.symm)
 |.mptr b Ag i j o,_,⟨sv,Ab,ad,h,he,hv⟩=>by obtain⟨AM,Bl,h',hr⟩:=hx.rows _ _ _ h;refine⟨AM,Bl,ad,h',he,λt et e ver' Bp Gx l' hb=>?_⟩;obtain⟨CL,Ft,Lx,l,Ek,_,BD,_,DD⟩:=hr.mat t et e ver' Bp Gx l' hb;obtain⟨h1,h2⟩:=hv t et e CL Ft Lx l Ek;refine⟨Df h1 BD,λhe=>?_⟩;have hi:Ft=Bp:=Im BD (he▸h1);obtain⟨q1,q2⟩:=DD hi;obtain⟨s,x,h3,h4,h5,h6⟩:=h2 (he.trans hi.symm);obtain⟨x',h7,h8⟩:=Ak9 q2 h3;rw[q1];exact⟨s,x',h7,h4,by rw[h8];exact h5,h6⟩
 |.eptr b ver i o,_,⟨sv,Ab,ad,h,he,hv⟩=>by obtain⟨AM,Bl,h',hr⟩:=hx.rows _ _ _ h;refine⟨AM,Bl,ad,h',he,λt e ver' l' hb=>?_⟩;obtain⟨CL,l,Ek,BD,DD⟩:=hr.row t e ver' l' hb;obtain⟨h1,h2⟩:=hv t e CL l Ek;refine⟨Df h1 BD,λhe=>?_⟩;have:CL=ver':=Im BD (he▸h1);obtain⟨q1,q2⟩:=DD this;rw[q1,q2];exact h2 (he.trans this.symm)
 |.arr _ _ _ _,_,⟨g,h,e⟩=>⟨g,hx.cells _ _ h,e⟩
 |.lptr e x o,_,⟨xs,ad,h,hv,hc⟩=>by
  refine⟨xs,ad,h.mono hx.heap,hv,λj u hj=>?_⟩;obtain⟨h1,h2⟩:=hc j u hj;have hb:E.ok (ad.add j).block:=by rw[KK];exact h1
  obtain⟨o',c'⟩:=hx.heap.cell hb h2;rw[KK]at o';exact⟨o',c'⟩
theorem cP{w w':World}{b b':Nat}{t:TypeId}{size:Nat}{v:Value}{n:Nat}{xs:List Value}(hb:b'<=b)(hg:∀g,v.ownBlock=some g->w'.heap[g]?=w.heap[g]?)(h:w.ownsRow b t size v n xs):w'.ownsRow b' t size v n xs:=by
 refine⟨h.1,?_⟩;rcases h.2 with h3|⟨g,cap,AQ,rfl,Ah,hh,r⟩
 ·exact .inl h3
 ·exact .inr ⟨g,cap,AQ,rfl,Df hb Ah,(hg g rfl).trans hh,r⟩
theorem Placed.mem{t:TypeId}{e:OT}{l:List e.ty.den}{hole:Option Path}{F:List Value}{Ab:List (Option Value)}(h:Placed t e l hole F Ab){s:Value}:s∈F↔some s∈Ab:=by
 cases hole with
 |none=>have h:Ab=F.map some:=h;rw[h];simp
 |some P=>obtain⟨n,G1,G2,_,e1,_,e3⟩:=h;rw[e1,e3];simp[List.mem_replicate]
theorem Placed.has{t:TypeId}{e:OT}{l:List e.ty.den}{hole:Option Path}{F:List Value}{sv:Value}{Ab:List (Option Value)}(h:Placed t e l hole F (some sv::Ab)){s:Value}(hs:s∈F){g:Nat}(hg:s.ownBlock=some g):(Pl.row sv Ab).has g:=by
 rcases Bf.1 (h.mem.1 hs)with h1|h1
 ·injection h1 with h1
  exact .inl (h1▸hg)
 ·obtain⟨i,hi⟩:=OI.1 h1
  exact .inr ⟨i,s,hi,hg⟩
theorem Placed.of_has{t:TypeId}{e:OT}{l:List e.ty.den}{hole:Option Path}{F:List Value}{sv:Value}{Ab:List (Option Value)}(h:Placed t e l hole F (some sv::Ab)){g:Nat}(hg:(Pl.row sv Ab).has g):∃s∈F,s.ownBlock=some g:=by
 rcases hg with hg|⟨i,s,hs,hg⟩
 ·exact⟨sv,h.mem.2 (Gh ..),hg⟩
 ·exact⟨s,h.mem.2 (Dm _ (CI hs)),hg⟩
theorem FRep.mono(hx:Ext E E'):∀{l:List (List UInt8×(FuncId×Nat))}{es:List MapEntry},FRep E l es->FRep E' l es
 |[],_,h=>h
 |_::_,_,⟨e,r,g,h1,h2,h3,h4,h5⟩=>⟨e,r,g,h1,h2,hx.cells _ _ h3,h4,FRep.mono hx h5⟩
theorem BRep.mono(hx:Ext E E'){B:Blk}{p:Pl}(h:BRep E B p)(hg:∀g,p.has g->E'.w.heap[g]?=E.w.heap[g]?):BRep E' B p:=by
 cases B with
 |dead=>exact trivial
 |cells t cs=>
  cases p with
  |row _ _=>exact h.elim
  |cells g=>obtain⟨vs,h1,h2⟩:=h;exact⟨vs,(hg g rfl).trans h1,h2.mono hx⟩
 |map t k v vg l=>
  cases p with
  |row _ _=>exact h.elim
  |cells g=>obtain⟨es,C8,h1,h2⟩:=h;exact⟨es,C8,(hg g rfl).trans h1,h2.mono (λ_ _ h=>h.mono hx.heap) (λ_ _ h=>h.mono hx.heap)⟩
 |fmap t l=>
  cases p with
  |row _ _=>exact h.elim
  |cells g=>obtain⟨es,C8,h1,h2⟩:=h;exact⟨es,C8,(hg g rfl).trans h1,h2.mono hx⟩
 |row t e ver l=>
  cases p with
  |cells _=>exact h.elim
  |row sv Ab=>obtain⟨h0,xs,h1,h2⟩:=h;exact⟨h0,xs,h1.mono λx u hu=>hu.mono hx.heap,cP hx.base (λg Fm=>hg g (.inl Fm)) h2⟩
 |mat t et e ver Ag hole l=>
  cases p with
  |cells _=>exact h.elim
  |row sv Ab=>have h:MatOk E t et e hole l sv Ab:=h;obtain⟨vs,h1,h2⟩:=h.outer;refine⟨⟨vs,cP hx.base (λg Fm=>hg g (.inl Fm)) h1,h2⟩,h.len,h.hole,λi s x hs hl=>?_,h.sep0,h.sep⟩;obtain⟨xs,h3,h4⟩:=h.inner i s x hs hl;exact⟨xs,h3.mono λx u hu=>hu.mono hx.heap,cP hx.base (λg Fm=>hg g (.inr ⟨i,s,hs,Fm⟩)) h4⟩
 |tree t e ver Ag hole l=>
  cases p with
  |cells _=>exact h.elim
  |row sv Ab=>have h:TreeOk E t e hole l sv Ab:=h;obtain⟨hv,F,h1,h2,h3⟩:=h.rep;exact⟨⟨hv,F,h1.mono hx.base hx.heap λs hs g Fm=>hg g (Placed.has h2 hs Fm),h2,h3⟩,h.top⟩
end
theorem CReps.length{E:Env}:∀{cs:List C}{vs:List Value},CReps E cs vs->vs.length=cs.length
 |[],_,h=>by simp only[CReps]at h;simp[h]
 |_::_,_,⟨_,_,e,_,ht⟩=>by rw[e,Ba,Ba,CReps.length ht]
theorem CRep.oneCell{E:Env}{c:C}{v:Value}(h:CRep E c v):v.oneCell'=true:=by
 cases c with
 |list e l=>exact DRep.oneCell h v (by simp)
 |lsome e l=>exact DRep.oneCell h.1 v (by simp)
 |nilc=>obtain⟨c,rfl⟩:=h;rfl
 |ptr b o=>obtain⟨g,_,rfl⟩:=h;rfl
 |bself b=>rcases h with rfl|⟨g,_,rfl⟩<;>rfl
 |fn f B4=>obtain⟨gs,_,rfl⟩:=h;rfl
 |mapv b=>obtain⟨g,_,rfl⟩:=h;rfl
 |bfn f b=>obtain⟨g,_,rfl⟩:=h;rfl
 |tptr b ver p i o=>obtain⟨_,_,ad,_,rfl,_⟩:=h;rfl
 |row b ver=>exact h.1
 |mat b ver=>exact h.1
 |mrow b Ag i=>exact h.1
 |sub b ver i j=>exact h.1
 |trow b ver p=>exact h.1
 |junk=>exact h
 |bool _=>simp only[CRep]at h;subst h;rfl
 |int _ _=>simp only[CRep]at h;subst h;rfl
 |str _=>simp only[CRep]at h;subst h;rfl
 |err _=>exact errRep.one h
 |nils=>simp only[CRep]at h;subst h;rfl
 |nilp=>simp only[CRep]at h;subst h;rfl
 |nilfn=>simp only[CRep]at h;subst h;rfl
end Go.Lift
namespace Go.Lift
noncomputable section
noncomputable def look{α:Type}(l:List (Nat×α))(i:Nat):Option α:=List.rec (motive:=λ_=>Option α) none (λp _ ih=>Bool.rec (motive:=λ_=>Option α) ih (some p.2) (Nat.beq i p.1)) l
theorem EB{α:Type}(i:Nat):look ([]:List (Nat×α)) i=none:=rfl
theorem Ex{α:Type}(j:Nat)(x:α)(r:List (Nat×α))(i:Nat):look ((j,x)::r) i=bif Nat.beq i j then some x else look r i:=by show(Bool.rec (motive:=λ_=>Option α) (look r i) (some x) (Nat.beq i j):Option α)=_;cases Nat.beq i j<;>rfl
noncomputable def put{α:Type}(l:List (Nat×α))(i:Nat)(x:α):List (Nat×α):=List.rec (motive:=λ_=>List (Nat×α)) [(i,x)] (λp r ih=>Bool.rec (motive:=λ_=>List (Nat×α)) ((i,x)::p::r) (Bool.rec (motive:=λ_=>List (Nat×α)) (p::ih) ((i,x)::r) (Nat.beq i p.1)) (Nat.ble p.1 i)) l
theorem wL{α:Type}(i:Nat)(x:α):put ([]:List (Nat×α)) i x=[(i,x)]:=rfl
theorem wM{α:Type}(j:Nat)(y:α)(r:List (Nat×α))(i:Nat)(x:α):put ((j,y)::r) i x=bif Nat.blt i j then(i,x)::(j,y)::r else bif Nat.beq i j then(i,x)::r else(j,y)::put r i x:=by
 have e:Nat.blt i j=!Nat.ble j i:=by
  by_cases h:i<j
  ·have h1:Nat.blt i j=true:=by rw[Nat.blt_eq];exact h
   have h2:Nat.ble j i=false:=by
    cases h2:Nat.ble j i with
    |false=>rfl
    |true=>exact absurd (Hs h2) (Nat.not_le.2 h)
   rw[h1,h2];rfl
  ·have h1:Nat.blt i j=false:=by
    cases h1:Nat.blt i j with
    |false=>rfl
    |true=>rw[Nat.blt_eq]at h1;exact absurd h1 h
   have h2:Nat.ble j i=true:=Nat.ble_eq_true_of_le (Nat.not_lt.1 h);rw[h1,h2];rfl
 rw[e];show(Bool.rec (motive:=λ_=>List (Nat×α)) ((i,x)::(j,y)::r) (Bool.rec (motive:=λ_=>List (Nat×α)) ((j,y)::put r i x) ((i,x)::r) (Nat.beq i j)) (Nat.ble j i):List (Nat×α))=_;cases Nat.ble j i<;>cases Nat.beq i j<;>rfl
def puts{α:Type}:List (Nat×α)->List (Nat×α)->List (Nat×α)
 |l,[]=>l
 |l,(i,x)::r=>puts (put l i x) r
theorem HH{i j:Nat}(h:¬i=j):Nat.beq i j=false:=by
 cases hb:Nat.beq i j with
 |false=>rfl
 |true=>exact absurd (As hb) h
theorem MS(i:Nat):Nat.beq i i=true:=Nat.beq_refl i
theorem VQ{α:Type}(l:List (Nat×α))(i:Nat)(x:α)(j:Nat):look (put l i x) j=if j=i then some x else look l j:=by
 induction l with
 |nil=>
  simp only[wL,wM,EB,Ex];by_cases h:j=i
  ·subst h;simp
  ·simp[h,HH h]
 |cons p r ih=>
  obtain⟨k,y⟩:=p;simp only[wL,wM];cases h1:Nat.blt i k
  ·cases h2:Nat.beq i k
   ·simp only[Cj,EB,Ex,ih]
    by_cases h:j=i
    ·subst h;simp[h2]
    ·simp[h]
   ·have:i=k:=As h2
    subst this;simp only[Cj,Am,EB,Ex];by_cases h:j=i
    ·subst h;simp
    ·simp[h,HH h]
  ·simp only[Am,EB,Ex]
   by_cases h:j=i
   ·subst h;simp
   ·simp[h,HH h]
inductive BK where
 |b|i|s
structure TI where
 agg:Bool
 size:Nat
 bytes:Nat
 zero:List C
 flds:List (Nat×Nat×Bool)
 elem:Option TypeId
 len:Option Nat
 ty:Option Ty
 kind:Option IntKind
 isBool:Bool
 isStr:Bool
 eqs:Option (List BK)
 mp:Option (TypeId×TypeId)
 ptr:Bool
inductive CT where
 |data (τ:Ty)
 |ptr (b o:Nat)
 |rowh (b:Nat)
 |fn (f:FuncId) (B4:List Nat)
 |maph (b:Nat)
 |math (b:Nat)
 |bself (b:Nat)
 |bfnh (f:FuncId) (b:Nat)
 |trowh (b:Nat)
 |tptrh (b:Nat) (ks:List Nat) (o:Nat)
 |nilc
 |nils
 |lsome (e:Ty)
 |junk
inductive BT where
 |cells (t:TypeId) (l:List CT)
 |row (t:TypeId) (e:Ty)
 |map (t:TypeId) (k v:Ty) (vg:Bool)
 |mat (t et:TypeId) (e:Ty)
 |tree (t:TypeId) (e:OT)
 |fmap (t:TypeId) (l:List (List UInt8×(FuncId×Nat)))
@[reducible] def WayT:List Nat->Type
 |[]=>Nat
 |_::r=>Nat×WayT r
@[reducible] def CT.dens:List CT->Type
 |[]=>Unit
 |.tptrh _ ks _::r=>WayT ks×CT.dens r
 |.data τ::r=>τ.den×CT.dens r
 |.lsome e::r=>List e.den×CT.dens r
 |.ptr _ _::r|.rowh _::r|.fn _ _::r|.maph _::r|.math _::r|.bself _::r|.bfnh _ _::r|.trowh _::r|.nilc::r|.nils::r|.junk::r=>CT.dens r
@[reducible] def ST.dens:List (Bool×List CT)->Type
 |[]=>Unit
 |t::r=>CT.dens t.2×ST.dens r
@[reducible] def BT.dens:List BT->Type
 |[]=>Unit
 |.cells _ l::r=>CT.dens l×BT.dens r
 |.row _ e::r=>List e.den×BT.dens r
 |.map _ k v _::r=>List (k.den×v.den)×BT.dens r
 |.mat _ _ e::r=>List (List e.den)×BT.dens r
 |.tree _ e::r=>List e.ty.den×BT.dens r
 |.fmap _ _::r=>BT.dens r
structure Spec where
 params:List (Bool×List CT)
 ins:List BT
 res:List (Bool×List CT)
 outs:List BT
 run:{β:Type}->ST.dens params×BT.dens ins->(ST.dens res×BT.dens outs->Option β)->Option β
structure RowF where
 t:TypeId
 e:Ty
 cut:Bool
 dom:List e.den->Bool
 run:List e.den->List e.den
 fn:Option FuncId:=none
def RowF.extra(F:RowF):List Value:=match F.fn with|none=>[]|some g=>[.func (.func g) #[] #[]]
structure BldF where
 t:TypeId
 te:TypeId
 op:Nat
structure AbsF where
 run:{β:Type}->(Nat->Option Blk)->Nat->List V->(V->List Nat->List (Nat×Blk)->Option β)->Option β
inductive Fun where
 |spec (S:Spec)
 |rows (F:RowF)
 |bld (F:BldF)
 |abs (A:AbsF)
structure Ctx where
 T:TypeId->Option TI
 Γ:FuncId->Option Fun
 M:Bool
 R:Bool
 D:Bool
 S:Bool
 O:List (TypeId×OT)
 A:Option (List Nat)
 N:Nat
 L:List (TypeId×List Nat)
def memB(x:Nat):List Nat->Bool
 |[]=>false
 |y::r=>Nat.beq x y||memB x r
def IK:List Nat->Bool
 |[]=>true
 |x::r=>!memB x r&&IK r
def cells:(τ:Ty)->τ.den->List C
 |.bool,b=>[.bool b]
 |.int k,n=>[.int k n]
 |.str,s=>[.str s]
 |.err,b=>[.err b]
 |.unit,_=>[]
 |.prod a b,x=>cells a x.1++cells b x.2
 |.slice e,l=>[.list e l]
def HI(bl:Nat->Option Blk)(b ver:Nat)(e:Ty):Option (List e.den):=
 match bl b with
 |some (.row _ e' ver' l)=>bif Nat.beq ver ver' then(if h:e'=e then some (h▸l)else none)else none
 |_=>none
def Io:(o:OT)->o.ty.den->Nat->Path->Option Ew
 |.d _,_,_,_=>none
 |.p a b,x,k,p=>bif Nat.blt k a.ty.size then Io a x.1 k p else Io b x.2 (k-a.ty.size) p
 |.r t e,l,0,[]=>some ⟨(t,e),l⟩
 |.r _ e,l,0,(i,k)::p=>Io e ((l:List e.ty.den).getD i e.ty.dflt) k p
 |.r _ _,_,_+1,_=>none
def setD:(o:OT)->o.ty.den->Nat->Path->(e':OT)->List e'.ty.den->o.ty.den
 |.d _,x,_,_,_,_=>x
 |.p a b,x,k,p,e',y=>bif Nat.blt k a.ty.size then(setD a x.1 k p e' y,x.2)else(x.1,setD b x.2 (k-a.ty.size) p e' y)
 |.r _ e,l,0,[],e',y=>if h:e'=e then(h▸y:List e.ty.den)else l
 |.r _ e,l,0,(i,k)::p,e',y=>(List.set l i (setD e ((l:List e.ty.den).getD i e.ty.dflt) k p e' y):List e.ty.den)
 |.r _ _,l,_+1,_,_,_=>l
def OU(b ver:Nat)(p:Path)(i:Nat):Nat->(o:OT)->o.ty.den->List C
 |_,.d τ,x=>cells τ x
 |k,.p a c,x=>OU b ver p i k a x.1++OU b ver p i (k+a.ty.size) c x.2
 |k,.r _ _,_=>[.trow b ver (p++[(i,k)])]
def OV(bl:Nat->Option Blk)(b ver:Nat)(p:Path):Option ((te:TypeId×OT)×(List te.2.ty.den×(Nat×(Nat×Ew)))):=
 match bl b with
 |some (.tree t e ver' Ag none l)=>
  bif Nat.beq ver (tv ver' Ag p)then
   match Io (.r t e) l 0 p with
   |some n=>some ⟨(t,e),l,ver',Ag,n⟩
   |none=>none
  else none
 |_=>none
def Ra(bl:Nat->Option Blk)(b ver:Nat)(e:Ty):Option (List e.den):=
 match bl b with
 |some (.tree _ o ver' _ none l)=>bif Nat.beq ver ver' then(if h:o.ty=e then some (h▸l)else none)else none
 |_=>none
def pack(bl:Nat->Option Blk):(τ:Ty)->List C->Option (τ.den×List C)
 |.bool,.bool b::r=>some (b,r)
 |.int k,.int k' n::r=>if k=k' then some (n,r)else none
 |.str,.str s::r=>some (s,r)
 |.err,.err b::r=>some (b,r)
 |.unit,r=>some ((),r)
 |.prod a b,r=>
  match pack bl a r with
  |none=>none
  |some (x,r1)=>
   match pack bl b r1 with
   |none=>none
   |some (y,r2)=>some ((x,y),r2)
 |.slice e,.nils::r=>some (([]:List e.den),r)
 |.slice e,.list e' l::r=>if h:e'=e then some ((h▸l:List e.den),r)else none
 |.slice e,.row b ver::r=>
  match HI bl b ver e with
  |none=>none
  |some l=>some (l,r)
 |.slice e,.sub b ver i j::r=>
  match HI bl b ver e with
  |none=>none
  |some l=>some ((l.take j).drop i,r)
 |.slice e,.trow b ver []::r=>
  match Ra bl b ver e with
  |none=>none
  |some l=>some (l,r)
 |_,_=>none
def JQ(bl:Nat->Option Blk)(τ:Ty)(cs:List C):Option τ.den:=
 match pack bl τ cs with
 |some (x,[])=>some x
 |_=>none
def Ct:List C->List Nat
 |[]=>[]
 |.row b _::r=>b::Ct r
 |.sub b _ _ _::r=>b::Ct r
 |.mat b _::r=>b::Ct r
 |.trow b _ _::r=>b::Ct r
 |_::r=>Ct r
def V.cells:V->Option (List C)
 |.c x=>some [x]
 |.agg cs=>some cs
 |_=>none
def V.mk(agg:Bool)(cs:List C):V:=
 bif agg then .agg cs else
  match cs with
  |[x]=>.c x
  |_=>.junk
def C.ofValue:Value->Option C
 |.bool b=>some (.bool b)
 |.int k n=>some (.int k n)
 |.string s=>some (.str s.data.toList)
 |.slice none 0 0=>some .nils
 |.pointer none=>some .nilp
 |.nilFunc=>some .nilfn
 |.nilIface=>some (.err true)
 |_=>none
def C.ofValues:List Value->Option (List C)
 |[]=>some []
 |v::r=>
  match C.ofValue v,C.ofValues r with
  |some x,some xs=>some (x::xs)
  |_,_=>none
def V.ofValue:Value->V
 |.agg cs=>
  match C.ofValues cs.toList with
  |some l=>.agg l
  |none=>.junk
 |v=>
  match C.ofValue v with
  |some x=>.c x
  |none=>.junk
def over:List C->Nat->List C->Option (List C)
 |cs,0,new=>bif Nat.ble new.length cs.length then some (new++cs.drop new.length)else none
 |[],_+1,_=>none
 |c::cs,o+1,new=>
  match over cs o new with
  |some r=>some (c::r)
  |none=>none
def sub(cs:List C)(o n:Nat):Option (List C):=
 bif Nat.ble (o+n) cs.length then some ((cs.drop o).take n)else none
def ival:V->Option (IntKind×Int)
 |.c (.int k n)=>some (k,n)
 |_=>none
section
variable{β:Type}
abbrev K(β:Type):=V->List Nat->List (Nat×Blk)->Option β
def Dr(c:Bool)(x:Option β):Option β:=cond c x none
def IL(op:BinOp)(k:IntKind)(a b:Int):Int:=
 match op with
 |.and=>k.wrap ((BitVec.ofInt k.bits a&&&BitVec.ofInt k.bits b).toNat:Int)
 |.or=>k.wrap ((BitVec.ofInt k.bits a|||BitVec.ofInt k.bits b).toNat:Int)
 |.xor=>k.wrap ((BitVec.ofInt k.bits a ^^^ BitVec.ofInt k.bits b).toNat:Int)
 |_=>k.wrap ((BitVec.ofInt k.bits a&&&~~~BitVec.ofInt k.bits b).toNat:Int)
def VR(op:BinOp)(k:IntKind)(a b:Int):Int:=
 match op with
 |.shl=>k.wrap (a*2^(min b.toNat k.bits))
 |_=>a.fdiv (2^(min b.toNat k.bits))
def cQ:BinOp->Bool
 |.shl|.shr=>true
 |_=>false
def wN(op:BinOp)(k:IntKind)(a b:Int)(kk:K β):Option β:=
 match op with
 |.add=>kk (.c (.int k (k.wrap (a+b)))) [] []
 |.sub=>kk (.c (.int k (k.wrap (a-b)))) [] []
 |.mul=>kk (.c (.int k (k.wrap (a*b)))) [] []
 |.quo=>Dr (!decide (b=0)) (kk (.c (.int k (k.wrap (a.tdiv b)))) [] [])
 |.rem=>Dr (!decide (b=0)) (kk (.c (.int k (a.tmod b))) [] [])
 |.eql=>kk (.c (.bool (decide (a=b)))) [] []
 |.neq=>kk (.c (.bool (!decide (a=b)))) [] []
 |.lss=>kk (.c (.bool (decide (a<b)))) [] []
 |.leq=>kk (.c (.bool (decide (a<=b)))) [] []
 |.gtr=>kk (.c (.bool (decide (b<a)))) [] []
 |.geq=>kk (.c (.bool (decide (b<=a)))) [] []
 |.and=>kk (.c (.int k (IL .and k a b))) [] []
 |.or=>kk (.c (.int k (IL .or k a b))) [] []
 |.xor=>kk (.c (.int k (IL .xor k a b))) [] []
 |.andNot=>kk (.c (.int k (IL .andNot k a b))) [] []
 |_=>none
def wO(op:BinOp)(a b:List UInt8)(kk:K β):Option β:=
 match op with
 |.add=>Dr (decide (a.length+b.length<=9223372036854775807)) (kk (.c (.str (a++b))) [] [])
 |.eql=>kk (.c (.bool (decide (a=b)))) [] []
 |.neq=>kk (.c (.bool (!decide (a=b)))) [] []
 |.lss=>kk (.c (.bool (Op.bytesLess a b))) [] []
 |.leq=>kk (.c (.bool (Op.bytesLess a b||decide (a=b)))) [] []
 |.gtr=>kk (.c (.bool (!(Op.bytesLess a b||decide (a=b))))) [] []
 |.geq=>kk (.c (.bool (!Op.bytesLess a b))) [] []
 |_=>none
def Ce:List BK->List C->List C->Option Bool
 |[],[],[]=>some true
 |.b::k,.bool a::r,.bool b::s=>
  match Ce k r s with
  |some q=>some ((a==b)&&q)
  |none=>none
 |.i::k,.int ka a::r,.int kb b::s=>
  if ka=kb then
   match Ce k r s with
   |some q=>some (decide (a=b)&&q)
   |none=>none
  else none
 |.s::k,.str a::r,.str b::s=>
  match Ce k r s with
  |some q=>some (decide (a=b)&&q)
  |none=>none
 |_,_,_=>none
def VS(T:TypeId->Option TI)(op:BinOp)(t:TypeId)(b:Bool)(kk:K β):Option β:=
 match T t with
 |some ti=>
  match ti.elem,ti.len,op with
  |some _,none,.eql=>kk (.c (.bool b)) [] []
  |some _,none,.neq=>kk (.c (.bool (!b))) [] []
  |_,_,_=>none
 |none=>none
def cR(T:TypeId->Option TI)(op:BinOp)(t:TypeId)(x y:V)(kk:K β):Option β:=
 match x,y with
 |.c (.int k a),.c (.int k' b)=>
  bif cQ op then Dr (decide (0<=b)) (kk (.c (.int k (VR op k a b))) [] [])else
  if k=k' then wN op k a b kk else none
 |.c (.str a),.c (.str b)=>wO op a b kk
 |.c (.bool a),.c (.bool b)=>
  match T t with
  |some ti=>
   bif ti.isBool then
    match op with
    |.eql=>kk (.c (.bool (a==b))) [] []
    |.neq=>kk (.c (.bool (!(a==b)))) [] []
    |_=>none
   else none
  |none=>none
 |.agg a,.agg b=>
  match T t with
  |some ti=>
   match ti.eqs with
   |some ks=>
    match op,Ce ks a b with
    |.eql,some r=>kk (.c (.bool r)) [] []
    |.neq,some r=>kk (.c (.bool (!r))) [] []
    |_,_=>none
   |none=>none
  |none=>none
 |.c .nilc,.c .nils=>VS T op t true kk
 |.c (.lsome _ _),.c .nils=>VS T op t false kk
 |_,_=>none
def cS(T:TypeId->Option TI)(op:BinOp)(t:TypeId)(b:Bool)(kk:K β):Option β:=
 match T t with
 |some ti=>
  match ti.ty,ti.agg,op with
  |some .err,false,.eql=>kk (.c (.bool b)) [] []
  |some .err,false,.neq=>kk (.c (.bool (!b))) [] []
  |_,_,_=>none
 |none=>none
def VT(T:TypeId->Option TI)(op:BinOp)(t:TypeId)(b:Bool)(kk:K β):Option β:=
 match T t with
 |some ti=>
  match ti.ptr,op with
  |true,.eql=>kk (.c (.bool b)) [] []
  |true,.neq=>kk (.c (.bool (!b))) [] []
  |_,_=>none
 |none=>none
def cT(T:TypeId->Option TI)(op:BinOp)(t:TypeId)(x y:V)(yo:Operand)(kk:K β):Option β:=
 match x,yo with
 |.c (.err b),.const .nilIface=>cS T op t b kk
 |.c .nilp,.const (.pointer none)=>VT T op t true kk
 |.c (.tptr _ _ _ _ _),.const (.pointer none)=>VT T op t false kk
 |_,_=>cR T op t x y kk
def LN(cells:List C):List (Nat×List C)->Option (List C)
 |[]=>some cells
 |(o,new)::r=>
  match over cells o new with
  |some cs=>LN cs r
  |none=>none
def G5(ti:TI)(T:TypeId->Option TI):List (Nat×V)->Option (List (Nat×List C))
 |[]=>some []
 |(i,v)::r=>
  match v.cells,G5 ti T r with
  |some cs,some BA=>
   match ti.len,ti.elem with
   |some _,some e=>
    match T e with
    |some te=>bif Nat.beq cs.length te.size then some ((i*te.size,cs)::BA)else none
    |none=>none
   |_,_=>
    match ti.flds[i]? with
    |some (o,n,_)=>bif Nat.beq cs.length n then some ((o,cs)::BA)else none
    |none=>none
  |_,_=>none
def repC(n:Nat)(cs:List C):List C:=
 match n with
 |0=>[]
 |n+1=>cs++repC n cs
def IM(bl:Nat->Option Blk)(e:Ty):Nat->List C->Option (List e.den)
 |0,[]=>some []
 |0,_::_=>none
 |n+1,cs=>
  match pack bl e cs with
  |some (x,r)=>
   match IM bl e n r with
   |some l=>some (x::l)
   |none=>none
  |none=>none
def Rb(T:TypeId->Option TI)(bl:Nat->Option Blk)(t:TypeId)(p:V)(kk:K β):Option β:=
 match T t with
 |none=>none
 |some ti=>
  bif ti.agg||Nat.beq ti.size 1 then
  match p with
  |.c (.ptr b o)=>
   match bl b with
   |some (.cells _ cs)=>
    match sub cs o ti.size with
    |some r=>kk (V.mk ti.agg r) [b] []
    |none=>none
   |_=>none
  |.eptr b ver i o=>
   match bl b with
   |some (.row _ e ver' l)=>
    bif Nat.beq ver ver' then
     match sub (cells e (l.getD i e.dflt)) o ti.size with
     |some r=>kk (V.mk ti.agg r) [b] []
     |none=>none
    else none
   |_=>none
  |.lptr e x o=>
   match sub (cells e x) o ti.size with
   |some r=>kk (V.mk ti.agg r) [] []
   |none=>none
  |.c (.tptr b ver p i o)=>
   match OV bl b ver p with
   |some a=>
    match sub (OU b (a.2.2.1+a.2.2.2.1) p i 0 a.2.2.2.2.1.2 (a.2.2.2.2.2.getD i a.2.2.2.2.1.2.ty.dflt)) o ti.size with
    |some r=>kk (V.mk ti.agg r) [b] []
    |none=>none
   |none=>none
  |_=>none
  else none
def JR:(o:OT)->o.ty.den->Nat->List C->Option o.ty.den
 |.d τ,x,k,new=>
  match over (cells τ x) k new with
  |some r=>JQ (λ_=>none) τ r
  |none=>none
 |.p a b,x,k,new=>
  bif Nat.ble (k+new.length) a.ty.size then
   match JR a x.1 k new with
   |some y=>some (y,x.2)
   |none=>none
  else bif Nat.ble a.ty.size k then
   match JR b x.2 (k-a.ty.size) new with
   |some y=>some (x.1,y)
   |none=>none
  else none
 |.r _ _,_,_,_=>none
def Rc(bl:Nat->Option Blk):V->Option (Nat×Ew)
 |.c (.row r rv)=>
  match bl r with
  |some (.row t e ver l)=>bif Nat.beq rv ver then some (r,⟨(t,.d e),l⟩)else none
  |_=>none
 |.c (.trow r rv [])=>
  match bl r with
  |some (.tree t e ver _ none l)=>bif Nat.beq rv ver then some (r,⟨(t,e),l⟩)else none
  |_=>none
 |_=>none
def VU:Path->Path->Bool
 |[],[]=>true
 |(i,k)::p,(j,m)::q=>decide (i=j)&&(Nat.beq k m&&VU p q)
 |_,_=>false
def MT(T:TypeId->Option TI)(bl:Nat->Option Blk)(t:TypeId)(p v:V)(kk:K β):Option β:=
 match T t,v.cells with
 |some ti,some new=>
  bif Nat.beq new.length ti.size then
   match p with
   |.c (.ptr b o)=>
    match bl b with
    |some (.cells t0 cs)=>
     match over cs o new with
     |some r=>kk .junk [b] [(b,.cells t0 r)]
     |none=>none
    |_=>none
   |.eptr b ver i o=>
    match bl b with
    |some (.row t0 e ver' l)=>
     bif Nat.beq ver ver' then
      match over (cells e (l.getD i e.dflt)) o new with
      |some r=>
       match JQ (λ_=>none) e r with
       |some x=>kk .junk [b] [(b,.row t0 e ver' (l.set i x))]
       |none=>none
      |none=>none
     else none
    |_=>none
   |.c (.tptr b ver p i o)=>
    match bl b with
    |some (.tree t0 e ver' Ag none l)=>
     bif Nat.beq ver (tv ver' Ag p)then
      match Io (.r t0 e) l 0 p with
      |some n=>
       match JR n.1.2 (n.2.getD i n.1.2.ty.dflt) o new with
       |some x=>kk .junk [b] [(b,.tree t0 e ver' Ag none (setD (.r t0 e) l 0 p n.1.2 (n.2.set i x)))]
       |none=>none
      |none=>none
     else none
    |some (.tree t0 e ver' Ag (some P) l)=>
     bif Nat.beq ver (tv ver' Ag p)then
      match Io (.r t0 e) l 0 P,Rc bl v with
      |some n,some (r,m)=>
       if m.1=n.1 then Dr (VU P (p++[(i,o)])) (kk .junk [b,r] [(r,.dead),(b,.tree t0 e ver' (Ag+1) none (setD (.r t0 e) l 0 P m.1.2 m.2))])else none
      |_,_=>none
     else none
    |_=>none
   |_=>none
  else none
 |_,_=>none
def wP(bl:Nat->Option Blk)(b:Nat):Bool:=
 match bl b with
 |some (.tree _ _ _ _ (some _) _)=>true
 |_=>false
def cU(T:TypeId->Option TI)(t:TypeId)(p:V)(f:Nat)(kk:K β):Option β:=
 match T t with
 |none=>none
 |some ti=>
  match ti.flds[f]? with
  |none=>none
  |some (off,n,_)=>
   bif Nat.beq n 0 then none else
   match p with
   |.c (.ptr b o)=>kk (.c (.ptr b (o+off))) [] []
   |.eptr b ver i o=>kk (.eptr b ver i (o+off)) [] []
   |.lptr e x o=>kk (.lptr e x (o+off)) [] []
   |.c (.tptr b ver p i o)=>kk (.c (.tptr b ver p i (o+off))) [] []
   |_=>none
def OW(i:Int)(kk:Nat->Option β):Nat->Nat->Option β
 |_,0=>none
 |j,m+1=>cond (decide (i=(j:Int))) (kk j) (OW i kk (j+1) m)
def wQ(bl:Nat->Option Blk)(n:Nat)(b ver:Nat)(p:Path)(i:Int)(kk:K β):Option β:=
 match p,bl b with
 |[],some (.tree _ e ver' _ (some (_::_)) l)=>
  bif Nat.beq ver ver'&&(Nat.beq e.ty.size n&&Nat.blt 0 n)then Dr (decide (0<=i)&&decide (i<(l.length:Int))) (kk (.c (.tptr b ver [] i.toNat 0)) [b] [])else none
 |_,_=>none
def cV(T:TypeId->Option TI)(bl:Nat->Option Blk)(t:TypeId)(x ix:V)(kk:K β):Option β:=
 match ival ix with
 |none=>none
 |some (_,i)=>
  match T t with
  |none=>none
  |some ti=>
   match ti.elem,ti.len with
   |some et,none=>
    match T et with
    |none=>none
    |some te=>
     match x with
     |.c (.list e l)=>
      bif Nat.beq e.size te.size&&Nat.blt 0 te.size then Dr (decide (0<=i)&&decide (i<(l.length:Int))) (kk (.lptr e (l.getD i.toNat e.dflt) 0) [] [])else none
     |.c (.row b ver)=>
      match bl b with
      |some (.row _ e ver' l)=>
       bif Nat.beq ver ver'&&(Nat.beq e.size te.size&&Nat.blt 0 te.size)then Dr (decide (0<=i)&&decide (i<(l.length:Int))) (kk (.eptr b ver i.toNat 0) [b] [])else none
      |_=>none
     |.c (.sub b ver lo hi)=>
      match bl b with
      |some (.row _ e ver' _)=>
       bif Nat.beq ver ver'&&(Nat.beq e.size te.size&&Nat.blt 0 te.size)then Dr (decide (0<=i)&&decide (i<((hi-lo:Nat):Int))) (kk (.eptr b ver (lo+i.toNat) 0) [b] [])else none
      |_=>none
     |.c (.trow b ver p)=>
      match OV bl b ver p with
      |some a=>bif Nat.beq a.2.2.2.2.1.2.ty.size te.size&&Nat.blt 0 te.size then Dr (decide (0<=i)&&decide (i<(a.2.2.2.2.2.length:Int))) (kk (.c (.tptr b ver p i.toNat 0)) [b] [])else none
      |none=>wQ bl te.size b ver p i kk
     |_=>none
   |some et,some n=>
    match x with
    |.c (.ptr b o)=>
     match T et with
     |some te=>OW i (λj=>kk (.c (.ptr b (o+j*te.size))) [] []) 0 n
     |none=>none
    |.eptr b ver q o=>
     match T et with
     |some te=>OW i (λj=>kk (.eptr b ver q (o+j*te.size)) [] []) 0 n
     |none=>none
    |_=>none
   |_,_=>none
def HJ(v:Option V)(d:Int):Option Int:=
 match v with
 |none=>some d
 |some v=>
  match ival v with
  |some (_,n)=>some n
  |none=>none
def Rd(T:TypeId->Option TI)(bl:Nat->Option Blk)(t:TypeId)(x:V)(lo hi:Option V)(kk:K β):Option β:=
 match T t with
 |none=>none
 |some ti=>
  match x with
  |.c (.str s)=>
   bif ti.isStr then
    match HJ lo 0,HJ hi (s.length:Int)with
    |some a,some b=>Dr (decide (0<=a)&&(decide (a<=b)&&decide (b<=(s.length:Int)))) (kk (.c (.str ((s.take b.toNat).drop a.toNat))) [] [])
    |_,_=>none
   else none
  |.c (.list e l)=>
   match ti.elem,ti.len with
   |some et,none=>
    match T et with
    |none=>none
    |some te=>
     bif Nat.beq e.size te.size&&Nat.blt 0 te.size then
      match HJ lo 0,HJ hi (l.length:Int)with
      |some a,some b=>Dr (decide (0<=a)&&(decide (a<=b)&&decide (b<=(l.length:Int)))) (kk (.c (.list e ((l.take b.toNat).drop a.toNat))) [] [])
      |_,_=>none
     else none
   |_,_=>none
  |.c (.row bb ver)=>
   match ti.elem,ti.len with
   |some et,none=>
    match T et with
    |none=>none
    |some te=>
     match bl bb with
     |some (.row _ e ver' l)=>
      bif Nat.beq ver ver'&&(Nat.beq e.size te.size&&Nat.blt 0 te.size)then
       match HJ lo 0,HJ hi (l.length:Int)with
       |some a,some b=>Dr (decide (0<=a)&&(decide (a<=b)&&decide (b<=(l.length:Int)))) (kk (.c (.sub bb ver a.toNat b.toNat)) [bb] [])
       |_,_=>none
      else none
     |_=>none
   |_,_=>none
  |.c (.sub bb ver i j)=>
   match ti.elem,ti.len with
   |some et,none=>
    match T et with
    |none=>none
    |some te=>
     match bl bb with
     |some (.row _ e ver' _)=>
      bif Nat.beq ver ver'&&(Nat.beq e.size te.size&&Nat.blt 0 te.size)then
       match HJ lo 0,HJ hi ((j-i:Nat):Int)with
       |some a,some b=>Dr (decide (0<=a)&&(decide (a<=b)&&decide (b<=((j-i:Nat):Int)))) (kk (.c (.sub bb ver (i+a.toNat) (i+b.toNat))) [bb] [])
       |_,_=>none
      else none
     |_=>none
   |_,_=>none
  |.c (.ptr b o)=>
   match ti.elem,ti.len,lo,hi with
   |some et,some n,none,none=>
    match T et with
    |none=>none
    |some te=>
     match te.ty with
     |some e=>bif Nat.beq e.size te.size&&Nat.blt 0 n then kk (.arr b o e n) [] []else none
     |none=>none
   |_,_,_,_=>none
  |.c .nils=>
   match ti.elem,ti.len with
   |some et,none=>
    match T et with
    |none=>none
    |some _=>
     match HJ lo 0,HJ hi 0 with
     |some a,some b=>Dr (decide (0<=a)&&(decide (a<=b)&&decide (b<=(0:Int)))) (kk (.c .nils) [] [])
     |_,_=>none
   |_,_=>none
  |_=>none
def cW(T:TypeId->Option TI)(bl:Nat->Option Blk)(t:TypeId)(x:V)(hi:Option V)(kk:K β):Option β:=
 match T t with
 |none=>none
 |some ti=>
  match ti.elem,ti.len with
  |some et,none=>
   match T et with
   |none=>none
   |some te=>
    match x with
    |.c (.row b ver)=>
     match bl b with
     |some (.row t0 e ver' l)=>
      bif Nat.beq ver ver'&&(Nat.beq e.size te.size&&Nat.blt 0 te.size)then
       match HJ hi (l.length:Int)with
       |some m=>Dr (decide (0<=m)&&decide (m<=(l.length:Int))) (kk (.c (.row b (ver+1))) [b] [(b,.row t0 e (ver+1) (l.take m.toNat))])
       |none=>none
      else none
     |_=>none
    |_=>none
  |_,_=>none
def VV:V->Bool
 |.c (.row _ _)=>true
 |_=>false
def IN(ti:TI):Bool:=
 match ti.elem,ti.len with
 |some _,none=>true
 |_,_=>false
def cX(T:TypeId->Option TI)(bl:Nat->Option Blk)(t:TypeId)(x:V)(kk:K β):Option β:=
 match T t with
 |none=>none
 |some ti=>
  match x with
  |.c (.str s)=>bif ti.isStr then kk (.c (.int .i64 (s.length:Int))) [] []else none
  |.c (.list _ l)=>bif IN ti then kk (.c (.int .i64 (l.length:Int))) [] []else none
  |.c .nils=>bif IN ti then kk (.c (.int .i64 0)) [] []else none
  |.c (.row b ver)=>
   match bl b with
   |some (.row _ _ ver' l)=>bif Nat.beq ver ver'&&IN ti then kk (.c (.int .i64 (l.length:Int))) [b] []else none
   |_=>none
  |.c (.sub b ver i j)=>
   match bl b with
   |some (.row _ _ ver' _)=>bif Nat.beq ver ver'&&IN ti then kk (.c (.int .i64 ((j-i:Nat):Int))) [b] []else none
   |_=>none
  |.c (.trow b ver p)=>
   match OV bl b ver p with
   |some a=>bif IN ti then kk (.c (.int .i64 (a.2.2.2.2.2.length:Int))) [b] []else none
   |none=>none
  |.c (.mapv b)=>
   match bl b,ti.mp with
   |some (.map _ _ _ _ l),some _=>kk (.c (.int .i64 (l.length:Int))) [b] []
   |_,_=>none
  |_=>none
def Fg(tk:TI):Ty->Bool
 |.bool=>tk.isBool
 |.int k=>decide (tk.kind=some k)
 |.str=>tk.isStr
 |.prod (.int _) (.int _)=>
  match tk.eqs,tk.len with
  |some [.i,.i],some 2=>true
  |_,_=>false
 |_=>false
def Ip:(k:Ty)->k.den->k.den->Bool
 |.bool,a,b=>a==b
 |.int _,a,b=>decide (a=b)
 |.str,a,b=>decide (a=b)
 |.prod (.int _) (.int _),a,b=>decide (a.1=b.1)&&decide (a.2=b.2)
 |_,_,_=>false
def Iq:(k:Ty)->V->Option k.den
 |.bool,.c (.bool b)=>some b
 |.int k,.c (.int k' n)=>if k=k' then some n else none
 |.str,.c (.str s)=>some s
 |.prod (.int k) (.int k2),.agg [.int j n,.int j2 n2]=>if k=j/\k2=j2 then some (n,n2)else none
 |_,_=>none
def mGet(k:Ty){δ:Type}:List (k.den×δ)->k.den->δ->δ
 |[],_,d=>d
 |y::r,x,d=>bif Ip k y.1 x then y.2 else mGet k r x d
def mHas(k:Ty){δ:Type}:List (k.den×δ)->k.den->Bool
 |[],_=>false
 |y::r,x=>bif Ip k y.1 x then true else mHas k r x
def mPut(k:Ty){δ:Type}:List (k.den×δ)->k.den->δ->List (k.den×δ)
 |[],x,v=>[(x,v)]
 |y::r,x,v=>bif Ip k y.1 x then(x,v)::r else y::mPut k r x v
def cY(T:TypeId->Option TI)(ti:TI)(cs:List C)(i:Int)(kk:K β):Option β:=
 match ti.elem,ti.len with
 |some et,some n=>
  match T et with
  |some te=>
   match te.ty with
   |some e=>
    match IM (λ_=>none) e n cs with
    |some l=>bif Nat.beq e.size te.size&&(te.agg||Nat.beq te.size 1)then Dr (decide (0<=i)&&decide (i<(l.length:Int))) (kk (V.mk te.agg (cells e (l.getD i.toNat e.dflt))) [] [])else none
    |none=>none
   |none=>none
  |none=>none
 |_,_=>none
def cZ(T:TypeId->Option TI)(bl:Nat->Option Blk)(nx:Nat)(t:TypeId)(kk:K β):Option β:=
 match T t with
 |none=>none
 |some ti=>
  match ti.mp with
  |none=>none
  |some (kt,vt)=>
   match T kt,T vt with
   |some tk,some tv=>
    match tk.ty,tv.ty,bl nx with
    |some .str,none,none=>kk (.c (.mapv nx)) [nx] [(nx,.fmap t [])]
    |some k,some v,none=>bif Fg tk k then kk (.c (.mapv nx)) [nx] [(nx,.map t k v tv.agg [])]else none
    |_,_,_=>none
   |_,_=>none
def fHas:List (List UInt8×(FuncId×Nat))->List UInt8->Bool
 |[],_=>false
 |x::r,s=>decide (x.1=s)||fHas r s
def MU(kk:FuncId×Nat->Option β):List (List UInt8×(FuncId×Nat))->List UInt8->Option β
 |[],_=>none
 |x::r,s=>cond (decide (x.1=s)) (kk x.2) (MU kk r s)
def fKey(T:TypeId->Option TI)(t:TypeId):Bool:=
 match T t with
 |some ti=>
  match ti.mp with
  |some (kt,_)=>
   match T kt with
   |some tk=>Fg tk .str
   |none=>false
  |none=>false
 |none=>false
def dA(T:TypeId->Option TI)(bl:Nat->Option Blk)(t:TypeId)(x ix:V)(commaOk:Bool)(kk:K β):Option β:=
 bif fKey T t then
 match x,ix,commaOk with
 |.c (.mapv b),.c (.str s),false=>
  match bl b with
  |some (.fmap _ l)=>MU (λy=>kk (.c (.bfn y.1 y.2)) [b] []) l s
  |_=>none
 |_,_,_=>none
 else none
def dB(T:TypeId->Option TI)(bl:Nat->Option Blk)(t:TypeId)(x ix y:V)(kk:K β):Option β:=
 bif fKey T t then
 match x,ix,y with
 |.c (.mapv b),.c (.str s),.c (.bfn f rb)=>
  match bl b with
  |some (.fmap t l)=>Dr (!fHas l s) (kk .junk [b] [(b,.fmap t (l++[(s,(f,rb))]))])
  |_=>none
 |_,_,_=>none
 else none
def wR(bl:Nat->Option Blk):V->Bool
 |.c (.mapv b)=>
  match bl b with
  |some (.fmap _ _)=>true
  |_=>false
 |_=>false
def dC(T:TypeId->Option TI)(bl:Nat->Option Blk)(t:TypeId)(x ix:V)(commaOk:Bool)(kk:K β):Option β:=
 match T t with
 |none=>none
 |some ti=>
  match ti.mp with
  |none=>none
  |some (kt,vt)=>
   match T kt,T vt with
   |some tk,some tv=>
    match x with
    |.c (.mapv b)=>
     match bl b with
     |some (.map _ k v vg l)=>
      bif Fg tk k&&(vg||Nat.beq v.size 1)&&(vg==tv.agg)then
       match Iq k ix,JQ (λ_=>none) v tv.zero with
       |some key,some z=>
        kk (bif commaOk then .tup [(vg,cells v (mGet k l key z)),(false,[.bool (mHas k l key)])]else V.mk vg (cells v (mGet k l key z))) [b] []
       |_,_=>none
      else none
     |_=>none
    |_=>none
   |_,_=>none
def Re:V->Option Bool
 |.c _=>some false
 |.agg _=>some true
 |_=>none
def dD(T:TypeId->Option TI)(bl:Nat->Option Blk)(t:TypeId)(x ix y:V)(kk:K β):Option β:=
 match T t with
 |none=>none
 |some ti=>
  match ti.mp with
  |none=>none
  |some (kt,_)=>
   match T kt with
   |none=>none
   |some tk=>
    match x,y.cells with
    |.c (.mapv b),some cs=>
     match bl b with
     |some (.map t' k v vg l)=>
      bif Fg tk k&&decide (Re y=some vg)then
       match Iq k ix,JQ (λ_=>none) v cs with
       |some key,some z=>kk .junk [b] [(b,.map t' k v vg (mPut k l key z))]
       |_,_=>none
      else none
     |_=>none
    |_,_=>none
def Bt:Nat:=140737488355328
def OX(bl:Nat->Option Blk)(e:Ty):V->Option (List e.den×List Nat)
 |.c .nils=>some ([],[])
 |.c (.list e' l)=>if h:e'=e then some (h▸l,[])else none
 |.c (.lsome e' l)=>if h:e'=e then some (h▸l,[])else none
 |.c (.row b ver)=>(HI bl b ver e).map λl=>(l,[b])
 |.c (.sub b ver i j)=>(HI bl b ver e).map λl=>((l.take j).drop i,[b])
 |_=>none
def dE(T:TypeId->Option TI)(bl:Nat->Option Blk)(t:TypeId)(x y:V)(kk:K β):Option β:=
 match T t with
 |none=>none
 |some ti=>
  match ti.elem,ti.len with
  |some et,none=>
   match T et with
   |none=>none
   |some te=>
    match te.ty with
    |none=>none
    |some e=>
     bif Nat.beq e.size te.size&&Nat.blt 0 te.size then
     match OX bl e y with
     |none=>none
     |some (new,rd)=>
      match x with
      |.c (.sub b ver i j)=>
       match bl b with
       |some (.row t0 e0 ver' l)=>
        bif Nat.beq ver ver' then
         if h:e0=e then
          kk (.c (.int .i64 ((Nat.min new.length (j-i):Nat):Int))) (b::rd) [(b,.row t0 e ver' ((h▸l:List e.den).take i++(new.take (j-i)++(h▸l:List e.den).drop (i+Nat.min new.length (j-i)))))]
         else none
        else none
       |_=>none
      |.c (.row b ver)=>
       match bl b with
       |some (.row t0 e0 ver' l)=>
        bif Nat.beq ver ver' then
         if h:e0=e then
          kk (.c (.int .i64 ((Nat.min new.length l.length:Nat):Int))) (b::rd) [(b,.row t0 e ver' (new.take l.length++(h▸l:List e.den).drop (Nat.min new.length l.length)))]
         else none
        else none
       |_=>none
      |_=>none
     else none
  |_,_=>none
def dF(T:TypeId->Option TI)(bl:Nat->Option Blk)(t:TypeId)(x:V)(kk:K β):Option β:=
 match T t with
 |none=>none
 |some ti=>
  match ti.elem,ti.len with
  |some et,none=>
   match T et with
   |none=>none
   |some te=>
    match te.ty with
    |none=>none
    |some e=>
     bif Nat.beq e.size te.size&&Nat.blt 0 te.size then
     match JQ (λ_=>none) e te.zero with
     |none=>none
     |some z=>
      match x with
      |.c (.sub b ver i j)=>
       match bl b with
       |some (.row t0 e0 ver' l)=>
        bif Nat.beq ver ver' then
         if h:e0=e then kk (.tup []) [b] [(b,.row t0 e ver' ((h▸l:List e.den).take i++(List.replicate (j-i) z++(h▸l:List e.den).drop j)))]
         else none
        else none
       |_=>none
      |_=>none
     else none
  |_,_=>none
def dG(T:TypeId->Option TI)(t:TypeId)(x:V)(kk:K β):Option β:=
 match T t with
 |none=>none
 |some ti=>
  match ti.elem,ti.len,x with
  |some _,none,.c .nils=>kk (.c (.int .i64 0)) [] []
  |_,_,_=>none
def dH(T:TypeId->Option TI)(bl:Nat->Option Blk)(nx:Nat)(t:TypeId)(x y:V)(kk:K β):Option β:=
 match T t with
 |none=>none
 |some ti=>
  match ti.elem,ti.len with
  |some et,none=>
   match T et with
   |none=>none
   |some te=>
    match te.ty with
    |none=>none
    |some e=>
     bif Nat.beq e.size te.size&&(Nat.blt 0 te.size&&Nat.blt 0 te.bytes)then
     match OX bl e y with
     |none=>none
     |some (new,rd)=>
      match x with
      |.c .nils=>
       match bl nx with
       |none=>Dr (decide (new.length*te.bytes<=Bt)) (kk (.c (.row nx 0)) (nx::rd) [(nx,.row et e 0 new)])
       |some _=>none
      |.c (.row b ver)=>
       match bl b with
       |some (.row t0 e0 ver' l)=>
        bif Nat.beq ver ver'&&Nat.beq t0 et then
         if h:e0=e then Dr (decide (((l.length+new.length)*te.bytes)<=Bt)) (kk (.c (.row b (ver+1))) (b::rd) [(b,.row t0 e (ver+1) ((h▸l)++new))])
         else none
        else none
       |_=>none
      |_=>none
     else none
  |_,_=>none
def srcT(bl:Nat->Option Blk)(t:TypeId)(e:OT)(y:V):Option (List e.ty.den×(List Nat×List Nat)):=
 match e with
 |.d τ=>
  match OX bl τ y with
  |some z=>some (z.1,z.2,[])
  |none=>none
 |e=>
  match Rc bl y with
  |some (r,m)=>if h:m.1=(t,e)then some ((show m.1.2=e from At (·.2) h)▸m.2,[r],[r])else none
  |none=>none
def dead:List Nat->List (Nat×Blk)
 |[]=>[]
 |i::r=>(i,.dead)::dead r
def VW:V->Bool
 |.c (.trow _ _ _)=>true
 |_=>false
def dI(X:List (TypeId×OT))(T:TypeId->Option TI)(bl:Nat->Option Blk)(nx:Nat)(t:TypeId)(x y:V)(kk:K β):Option β:=
 match T t with
 |none=>none
 |some ti=>
  match ti.elem,ti.len with
  |some et,none=>
   match T et with
   |none=>none
   |some te=>
    match x with
    |.c .nils=>
     match look X et with
     |none=>none
     |some e=>
      bif Nat.beq e.ty.size te.size&&(Nat.blt 0 te.size&&Nat.blt 0 te.bytes)then
       match srcT bl et e y,bl nx with
       |some (new,rd,dd),none=>Dr (decide (new.length*te.bytes<=Bt)) (kk (.c (.trow nx 0 [])) (nx::rd) (dead dd++[(nx,.tree et e 0 0 none new)]))
       |_,_=>none
      else none
    |.c (.trow b ver [])=>
     match bl b with
     |some (.tree t0 e ver' Ag none l)=>
      bif Nat.beq ver ver'&&(Nat.beq t0 et&&(Nat.beq e.ty.size te.size&&(Nat.blt 0 te.size&&Nat.blt 0 te.bytes)))then
       match srcT bl t0 e y with
       |some (new,rd,dd)=>Dr (!memB b rd&&decide (((l.length+new.length)*te.bytes)<=Bt)) (kk (.c (.trow b (ver'+1) [])) (b::rd) (dead dd++[(b,.tree t0 e (ver'+1) Ag none (l++new))]))
       |none=>none
      else none
     |_=>none
    |.c (.trow b ver (i::q))=>
     match OV bl b ver (i::q)with
     |none=>none
     |some a=>
      bif Nat.beq a.2.2.2.2.1.1 et&&(Nat.beq a.2.2.2.2.1.2.ty.size te.size&&(Nat.blt 0 te.size&&Nat.blt 0 te.bytes))then
       match srcT bl a.2.2.2.2.1.1 a.2.2.2.2.1.2 y,bl nx with
       |some (new,rd,dd),none=>
        Dr (!memB b rd&&decide (((a.2.2.2.2.2.length+new.length)*te.bytes)<=Bt)) (kk (.c (.trow nx 0 [])) (nx::b::rd) (dead dd++[(b,.tree a.1.1 a.1.2 a.2.2.1 a.2.2.2.1 (some (i::q)) a.2.1),(nx,.tree a.2.2.2.2.1.1 a.2.2.2.2.1.2 0 0 none (a.2.2.2.2.2++new))]))
       |_,_=>none
      else none
    |_=>none
  |_,_=>none
def wS(X:List (TypeId×OT))(T:TypeId->Option TI)(t:TypeId):Bool:=
 match T t with
 |some ti=>
  match ti.elem,ti.len with
  |some et,none=>
   match look X et with
   |some _=>true
   |none=>false
  |_,_=>false
 |none=>false
def KL(bl:Nat->Option Blk):(o:OT)->List C->Option (o.ty.den×(List C×List Nat))
 |.d τ,cs=>
  match pack (λ_=>none) τ cs with
  |some (x,r)=>some (x,r,[])
  |none=>none
 |.p a b,cs=>
  match KL bl a cs with
  |none=>none
  |some (x,r1,i1)=>
   match KL bl b r1 with
   |none=>none
   |some (y,r2,i2)=>some ((x,y),r2,i1++i2)
 |.r t e,c::r=>
  match c with
  |.nils=>some (([]:List e.ty.den),r,[])
  |c=>
   match Rc bl (.c c)with
   |some (b,m)=>if h:m.1=(t,e)then some ((show m.1.2=e from At (·.2) h)▸m.2,r,[b])else none
   |none=>none
 |.r _ _,[]=>none
def wT(X:List (TypeId×OT))(T:TypeId->Option TI)(bl:Nat->Option Blk)(t:TypeId):List (Nat×V)->Bool
 |[(_,v)]=>
  match T t,v.cells with
  |some ti,some cs=>
   match ti.elem with
   |some et=>
    match look X et with
    |some e=>(KL bl e cs).isSome
    |none=>false
   |none=>false
  |_,_=>false
 |_=>false
def dJ(X:List (TypeId×OT))(T:TypeId->Option TI)(bl:Nat->Option Blk)(nx:Nat)(t:TypeId)(n:Nat)(parts:List (Nat×V))(kk:K β):Option β:=
 match parts with
 |[(0,v)]=>
  match T t,v.cells with
  |some ti,some cs=>
   match ti.elem,ti.len with
   |some et,none=>
    match T et,look X et,bl nx with
    |some te,some e,none=>
     match KL bl e cs with
     |some (x,[],ids)=>bif Nat.beq n 1&&(Nat.beq cs.length te.size&&(Nat.beq e.ty.size te.size&&(Nat.blt 0 te.size&&(Nat.ble te.size 16777216&&IK ids))))then kk (.c (.trow nx 0 [])) (nx::ids) (dead ids++[(nx,.tree et e 0 0 none [x])])else none
     |_=>none
    |_,_,_=>none
   |_,_=>none
  |_,_=>none
 |_=>none
def dK(T:TypeId->Option TI)(bl:Nat->Option Blk)(nx:Nat)(t u:TypeId)(x y:V)(kk:K β):Option β:=
 match T t,T u,ival y with
 |some ti,some tu,some (_,m)=>
  match x with
  |.c .nils=>
   match ti.elem,ti.len,tu.kind with
   |some et,none,some _=>
    match T et with
    |none=>none
    |some te=>
     match te.ty with
     |none=>none
     |some e=>
      match JQ (λ_=>none) e te.zero,bl nx with
      |some z,none=>
       bif Nat.beq e.size te.size&&(Nat.blt 0 te.size&&Nat.blt 0 te.bytes)then
        Dr (decide (0<=m)&&decide (m.toNat*te.bytes<=Bt)) (kk (.c (.row nx 0)) [nx] [(nx,.row et e 0 (List.replicate m.toNat z))])
       else none
      |_,_=>none
   |_,_,_=>none
  |_=>none
 |_,_,_=>none
def Rf(isMax:Bool)(k:IntKind):Int->List V->Option V
 |a,[]=>some (.c (.int k a))
 |a,.c (.int k' b)::r=>if k=k' then Rf isMax k (bif isMax then(if b>a then b else a)else(if b<a then b else a)) r else none
 |_,_::_=>none
def VX(isMax:Bool):List V->Option V
 |.c (.int k a)::r=>Rf isMax k a r
 |_=>none
def IP:List CT->List C->List (Nat×Nat)
 |.data τ::l,cs=>IP l (cs.drop τ.size)
 |.ptr b _::l,.ptr b' _::cs=>(b,b')::IP l cs
 |.rowh b::l,.row b' _::cs=>(b,b')::IP l cs
 |.fn _ B4::l,.fn _ Hk::cs=>B4.zip Hk++IP l cs
 |.maph b::l,.mapv b'::cs=>(b,b')::IP l cs
 |.bfnh _ b::l,.bfn _ b'::cs=>(b,b')::IP l cs
 |.math b::l,.mat b' _::cs=>(b,b')::IP l cs
 |.trowh b::l,.trow b' _ _::cs=>(b,b')::IP l cs
 |.tptrh b _ _::l,.tptr b' _ _ _ _::cs=>(b,b')::IP l cs
 |_::l,_::cs=>IP l cs
 |_,_=>[]
def Rg:List (Bool×List CT)->List V->List (Nat×Nat)
 |t::ts,v::vs=>
  match v.cells with
  |some cs=>IP t.2 cs++Rg ts vs
  |none=>Rg ts vs
 |_,_=>[]
def Rh(ps:List (Nat×Nat)):Nat->Nat->Option (List Nat)
 |_,0=>some []
 |j,n+1=>
  match look ps j,Rh ps (j+1) n with
  |some b,some r=>some (b::r)
  |_,_=>none
def wayP:(ks:List Nat)->WayT ks->Path
 |[],_=>[]
 |k::r,x=>(x.1,k)::wayP r x.2
def wayI:(ks:List Nat)->WayT ks->Nat
 |[],x=>x
 |_::r,x=>wayI r x.2
def MV(i:Nat):(ks:List Nat)->Path->Option (WayT ks)
 |[],[]=>some i
 |k::r,(j,m)::p=>
  bif Nat.beq k m then
   match MV i r p with
   |some x=>some (j,x)
   |none=>none
  else none
 |_,_=>none
def Bc(bl:Nat->Option Blk)(ids:List Nat):(l:List CT)->List C->Option (CT.dens l)
 |[],[]=>some ()
 |.data τ::l,cs=>
  match pack bl τ cs with
  |none=>none
  |some (x,r)=>
   match Bc bl ids l r with
   |none=>none
   |some y=>some (x,y)
 |.ptr b o::l,.ptr b' o'::cs=>
  match ids[b]? with
  |some i=>bif Nat.beq i b'&&Nat.beq o o' then Bc bl ids l cs else none
  |none=>none
 |.rowh b::l,.row b' ver::cs=>
  match ids[b]? with
  |some i=>
   bif Nat.beq i b' then
    match bl b' with
    |some (.row _ _ ver' _)=>bif Nat.beq ver ver' then Bc bl ids l cs else none
    |_=>none
   else none
  |none=>none
 |.rowh b::l,.nils::cs=>
  match ids[b]? with
  |some i=>
   match bl i with
   |none=>Bc bl ids l cs
   |some _=>none
  |none=>none
 |.fn f B4::l,.fn f' Hk::cs=>bif Nat.beq f f'&&decide (B4.map (ids[·]?)=Hk.map some)then Bc bl ids l cs else none
 |.maph b::l,.mapv b'::cs=>
  match ids[b]? with
  |some i=>bif Nat.beq i b' then Bc bl ids l cs else none
  |none=>none
 |.math b::l,.mat b' ver::cs=>
  match ids[b]? with
  |some i=>
   bif Nat.beq i b' then
    match bl b' with
    |some (.mat _ _ _ ver' _ none _)=>bif Nat.beq ver ver' then Bc bl ids l cs else none
    |_=>none
   else none
  |none=>none
 |.math b::l,.nils::cs=>
  match ids[b]? with
  |some i=>
   match bl i with
   |none=>Bc bl ids l cs
   |some _=>none
  |none=>none
 |.trowh b::l,.trow b' ver []::cs=>
  match ids[b]? with
  |some i=>
   bif Nat.beq i b' then
    match bl b' with
    |some (.tree _ _ ver' _ none _)=>bif Nat.beq ver ver' then Bc bl ids l cs else none
    |_=>none
   else none
  |none=>none
 |.tptrh b ks o::l,.tptr b' ver p i o'::cs=>
  match ids[b]? with
  |some j=>
   bif Nat.beq j b'&&Nat.beq o o' then
    match bl b' with
    |some (.tree _ _ ver' Bp none _)=>
     bif Nat.beq ver (tv ver' Bp p)then
      match MV i ks p with
      |some x=>
       match Bc bl ids l cs with
       |some y=>some (x,y)
       |none=>none
      |none=>none
     else none
    |_=>none
   else none
  |none=>none
 |.trowh b::l,.nils::cs=>
  match ids[b]? with
  |some i=>
   match bl i with
   |none=>Bc bl ids l cs
   |some _=>none
  |none=>none
 |.bself b::l,.bself b'::cs=>
  match ids[b]? with
  |some i=>bif Nat.beq i b' then Bc bl ids l cs else none
  |none=>none
 |.bself _::l,.nilp::cs=>Bc bl ids l cs
 |.bfnh f b::l,.bfn f' b'::cs=>
  match ids[b]? with
  |some i=>bif Nat.beq f f'&&Nat.beq i b' then Bc bl ids l cs else none
  |none=>none
 |.junk::l,_::cs=>Bc bl ids l cs
 |.nils::l,.nils::cs=>Bc bl ids l cs
 |_,_=>none
def G6(bl:Nat->Option Blk)(ids:List Nat):(l:List (Bool×List CT))->List V->Option (ST.dens l)
 |[],[]=>some ()
 |t::l,v::vs=>
  match v,t.1 with
  |.c x,false=>
   match Bc bl ids t.2 [x]with
   |none=>none
   |some y=>
    match G6 bl ids l vs with
    |none=>none
    |some z=>some (y,z)
  |.agg cs,true=>
   match Bc bl ids t.2 cs with
   |none=>none
   |some y=>
    match G6 bl ids l vs with
    |none=>none
    |some z=>some (y,z)
  |_,_=>none
 |_,_=>none
def FS(bl:Nat->Option Blk)(ids:List Nat):(l:List BT)->List Nat->Option (BT.dens l)
 |[],[]=>some ()
 |.cells t l::r,i::is=>
  match bl i with
  |some (.cells t' cs)=>
   bif Nat.beq t t' then
    match Bc bl ids l cs with
    |none=>none
    |some y=>
     match FS bl ids r is with
     |none=>none
     |some z=>some (y,z)
   else none
  |_=>none
 |_,_=>none
def mkC(ids:List Nat):(l:List CT)->CT.dens l->List C
 |[],_=>[]
 |.data τ::l,x=>cells τ x.1++mkC ids l x.2
 |.ptr b o::l,x=>.ptr (ids.getD b 0) o::mkC ids l x
 |.rowh b::l,x=>.row (ids.getD b 0) 0::mkC ids l x
 |.fn f B4::l,x=>.fn f (B4.map λb=>ids.getD b 0)::mkC ids l x
 |.maph b::l,x=>.mapv (ids.getD b 0)::mkC ids l x
 |.math b::l,x=>.mat (ids.getD b 0) 0::mkC ids l x
 |.bself b::l,x=>.bself (ids.getD b 0)::mkC ids l x
 |.bfnh f b::l,x=>.bfn f (ids.getD b 0)::mkC ids l x
 |.trowh b::l,x=>.trow (ids.getD b 0) 0 []::mkC ids l x
 |.tptrh b ks o::l,x=>.tptr (ids.getD b 0) 0 (wayP ks x.1) (wayI ks x.1) o::mkC ids l x.2
 |.nilc::l,x=>.nilc::mkC ids l x
 |.nils::l,x=>.nils::mkC ids l x
 |.lsome e::l,x=>.lsome e x.1::mkC ids l x.2
 |.junk::l,x=>.junk::mkC ids l x
def mkS(ids:List Nat):(l:List (Bool×List CT))->ST.dens l->List (Bool×List C)
 |[],_=>[]
 |t::l,x=>(t.1,mkC ids t.2 x.1)::mkS ids l x.2
def fIds(ids:List Nat):List (List UInt8×(FuncId×Nat))->List (List UInt8×(FuncId×Nat))
 |[]=>[]
 |x::r=>(x.1,(x.2.1,ids.getD x.2.2 0))::fIds ids r
def mkB(ids:List Nat):(l:List BT)->BT.dens l->List Blk
 |[],_=>[]
 |.cells t l::r,x=>.cells t (mkC ids l x.1)::mkB ids r x.2
 |.row t e::r,x=>.row t e 0 x.1::mkB ids r x.2
 |.map t k v vg::r,x=>.map t k v vg x.1::mkB ids r x.2
 |.mat t et e::r,x=>.mat t et e 0 0 none x.1::mkB ids r x.2
 |.tree t e::r,x=>.tree t e 0 0 none x.1::mkB ids r x.2
 |.fmap t l::r,x=>.fmap t (fIds ids l)::mkB ids r x
def resV:List (Bool×List C)->V
 |[t]=>V.mk t.1 t.2
 |ts=>.tup ts
def CT.flat:List CT->Bool
 |[]=>true
 |.data τ::r=>τ.flat&&CT.flat r
 |.lsome _::_=>false
 |_::r=>CT.flat r
def ST.flat:List (Bool×List CT)->Bool
 |[]=>true
 |t::r=>CT.flat t.2&&ST.flat r
def BT.flat:List BT->Bool
 |[]=>true
 |.cells _ l::r=>CT.flat l&&BT.flat r
 |.row _ e::r=>e.flat&&BT.flat r
 |.map _ k v _::r=>k.flat&&(v.flat&&BT.flat r)
 |.mat _ _ e::r=>e.flat&&BT.flat r
 |.tree _ e::r=>e.flat&&BT.flat r
 |.fmap _ _::r=>BT.flat r
def Cy:List V->List Nat
 |[]=>[]
 |v::vs=>
  match v.cells with
  |some cs=>Ct cs++Cy vs
  |none=>Cy vs
def AH:Nat->Nat->List Nat
 |_,0=>[]
 |i,n+1=>i::AH (i+1) n
def OY(bl:Nat->Option Blk):List Nat->Bool
 |[]=>true
 |i::r=>
  match bl i with
  |none=>OY bl r
  |some _=>false
def IQ(bl:Nat->Option Blk):List Nat->List Nat
 |[]=>[]
 |i::r=>
  match bl i with
  |some (.cells _ cs)=>Ct cs++IQ bl r
  |_=>IQ bl r
def CT.bnd(m:Nat):List CT->Bool
 |[]=>true
 |.ptr b _::r|.rowh b::r|.maph b::r|.math b::r|.bself b::r|.bfnh _ b::r|.trowh b::r|.tptrh b _ _::r=>Nat.blt b m&&CT.bnd m r
 |.fn _ B4::r=>B4.all (λb=>Nat.blt b m)&&CT.bnd m r
 |.data _::r|.nilc::r|.nils::r|.lsome _::r|.junk::r=>CT.bnd m r
def ST.bnd(m:Nat):List (Bool×List CT)->Bool
 |[]=>true
 |t::r=>CT.bnd m t.2&&ST.bnd m r
def BT.bnd(m:Nat):List BT->Bool
 |[]=>true
 |.cells _ l::r=>CT.bnd m l&&BT.bnd m r
 |.row _ _::r=>BT.bnd m r
 |.map _ _ _ _::r=>BT.bnd m r
 |.mat _ _ _::r=>BT.bnd m r
 |.tree _ _::r=>BT.bnd m r
 |.fmap _ l::r=>l.all (λe=>Nat.blt e.2.2 m)&&BT.bnd m r
def OZ(S:Spec)(bl:Nat->Option Blk)(rds:List Nat):List (Nat×Blk):=
 bif ST.flat S.res&&BT.flat S.outs then []else
  rds.filterMap λb=>
   match bl b with
   |some (.row _ _ _ _)=>some (b,.dead)
   |some (.tree _ _ _ _ _ _)=>some (b,.dead)
   |_=>none
def dL(S:Spec)(bl:Nat->Option Blk)(ids new:List Nat):Bool:=
 IK ids&&((OY bl new&&(Nat.ble S.ins.length S.outs.length&&(ST.bnd S.outs.length S.res&&BT.bnd S.outs.length S.outs))))
def dM(F:RowF)(args:List V):Option (Nat×Nat):=
 match args,F.fn with
 |[.c (.row b ver)],none=>some (b,ver)
 |[.c (.row b ver),.c (.fn g [])],some g'=>bif Nat.beq g g' then some (b,ver)else none
 |_,_=>none
def dN(F:RowF)(bl:Nat->Option Blk)(args:List V)(kk:K β):Option β:=
 match dM F args with
 |some (b,ver)=>
  match bl b with
  |some (.row t e ver' l)=>
   bif Nat.beq ver ver'&&Nat.beq t F.t then
    if h:e=F.e then
     Dr (F.dom (h▸l))
      (bif F.cut then kk (.c (.row b (ver+1))) [b] [(b,.row t F.e (ver+1) (F.run (h▸l)))]else kk (.tup []) [b] [(b,.row t F.e ver (F.run (h▸l)))])
    else none
   else none
  |_=>none
 |none=>none
def Hu(l:List Int):List UInt8:=l.map λn=>UInt8.ofNat n.toNat
def C7(s:List UInt8):List Int:=s.map λb=>(b.toNat:Int)
def JS(l:List Int):Bool:=l.all λn=>decide (0<=n)&&decide (n<=255)
def Ri:C->Nat->Bool
 |.nilp,_=>true
 |.bself b,i=>Nat.beq b i
 |_,_=>false
def Rj(F:BldF)(bl:Nat->Option Blk)(i:Nat):Option (Option (Nat×Nat)×List Int):=
 match bl i with
 |some (.cells t [p,q])=>
  bif Nat.beq t F.t&&Ri p i then
   match q with
   |.nils=>some (none,[])
   |.row j ver=>
    match bl j with
    |some (.row te (.int .u8) ver' l)=>bif Nat.beq te F.te&&Nat.beq ver ver' then some (some (j,ver),l)else none
    |_=>none
   |_=>none
  else none
 |_=>none
def wU(bl:Nat->Option Blk)(i:Nat):Bool:=
 match bl i with
 |none=>true
 |some _=>false
def wrote(s:List UInt8):V:=.tup [(false,[.int .i64 (s.length:Int)]),(false,[.err true])]
def dO(F:BldF)(bl:Nat->Option Blk)(nx:Nat)(args:List V)(kk:K β):Option β:=
 match F.op,args with
 |0,[.c (.ptr i 0),.c (.str s)]=>
  match Rj F bl i with
  |some (none,_)=>
   Dr (wU bl nx) (Dr (decide (s.length<=140737488355328)) (kk (wrote s) [i,nx] [(nx,.row F.te (.int .u8) 0 (C7 s)),(i,.cells F.t [.bself i,.row nx 0])]))
  |some (some (j,ver),l)=>
   Dr (decide (l.length+s.length<=140737488355328)) (kk (wrote s) [i,j] [(j,.row F.te (.int .u8) (ver+1) (l++C7 s)),(i,.cells F.t [.bself i,.row j (ver+1)])])
  |none=>none
 |1,[.c (.ptr i 0)]=>
  match Rj F bl i with
  |some (none,_)=>kk (.c (.str [])) [i] []
  |some (some (j,_),l)=>Dr (JS l) (kk (.c (.str (Hu l))) [i,j] [(j,.dead)])
  |none=>none
 |2,[.c (.ptr i 0)]=>
  match Rj F bl i with
  |some (none,_)=>kk (.c (.int .i64 0)) [i] []
  |some (some (j,_),l)=>kk (.c (.int .i64 (l.length:Int))) [i,j] []
  |none=>none
 |3,[.c .nils,.c (.str _)]=>kk (.c (.str [])) [] []
 |3,[.c (.row j ver),.c (.str sep)]=>
  match bl j with
  |some (.row t .str ver' l)=>
   bif Nat.beq t F.t&&Nat.beq ver ver' then
    Dr (decide (l.length<=140737488355328)&&decide ((Lib.join l sep).length<=140737488355328)) (kk (.c (.str (Lib.join l sep))) [j] [])
   else none
  |_=>none
 |_,_=>none
def JT(bl:Nat->Option Blk):Nat->Option Blk:=λi=>
 match bl i with
 |some (.mat _ _ _ _ _ _ _)=>none
 |B=>B
def Pa(bl:Nat->Option Blk):V->V
 |.arr b o e n=>
  match bl b with
  |some (.cells _ cs)=>
   match sub cs o (n*e.size)with
   |some ds=>
    match IM (λ_=>none) e n ds with
    |some l=>bif Nat.ble n 4096&&Nat.blt 0 e.size then .c (.list e l)else .junk
    |none=>.junk
   |none=>.junk
  |_=>.junk
 |v=>v
def KM:List V->List Nat
 |[]=>[]
 |.arr b _ _ _::r=>b::KM r
 |_::r=>KM r
def Rk(S:Spec)(ids:List Nat):List Nat->Bool
 |[]=>true
 |b::r=>(ST.flat S.res&&BT.flat S.outs)&&(!memB b ids&&Rk S ids r)
def LO:List CT->List C->List C
 |.junk::l,_::cs=>.junk::LO l cs
 |.data τ::l,cs=>cs.take τ.size++LO l (cs.drop τ.size)
 |_::l,c::cs=>c::LO l cs
 |_,cs=>cs
def Aka:List CT->V->V
 |l,.agg cs=>.agg (LO l cs)
 |_,v=>v
def Rl:List (Bool×List CT)->List V->List V
 |t::ts,v::vs=>Aka t.2 v::Rl ts vs
 |_,vs=>vs
def Pd(S:Spec)(bl:Nat->Option Blk)(args:List V):List V:=Rl S.params (args.map (Pa bl))
def Rm(X:Ctx)(bl:Nat->Option Blk)(nx:Nat)(f:FuncId)(args:List V)(kk:K β):Option β:=
 match X.Γ f with
 |none=>none
 |some (.rows F)=>dN F bl args kk
 |some (.bld F)=>dO F bl nx args kk
 |some (.abs A)=>A.run bl nx args kk
 |some (.spec S)=>
  match Rh (Rg S.params (Pd S bl args)) 0 S.ins.length with
  |none=>none
  |some ids=>
   match G6 (JT bl) ids S.params (Pd S bl args),FS (JT bl) ids S.ins ids with
   |some x,some y=>
    bif dL S bl ids (AH nx (S.outs.length-S.ins.length))&&Rk S ids (KM args)then
     S.run (x,y) λz=>
      kk (resV (mkS (ids++AH nx (S.outs.length-S.ins.length)) S.res z.1)) (ids++((Cy (Pd S bl args)++IQ bl ids)++(AH nx (S.outs.length-S.ins.length)++KM args)))
       (OZ S bl (Cy (Pd S bl args)++IQ bl ids)++(ids++AH nx (S.outs.length-S.ins.length)).zip (mkB (ids++AH nx (S.outs.length-S.ins.length)) S.outs z.2))
    else none
   |_,_=>none
def frzC(bl:Nat->Option Blk):C->C
 |.row b ver=>
  match bl b with
  |some (.row _ e ver' l)=>bif Nat.beq ver ver' then .list e l else .row b ver
  |_=>.row b ver
 |.sub b ver i j=>
  match bl b with
  |some (.row _ e ver' l)=>bif Nat.beq ver ver' then .list e ((l.take j).drop i)else .sub b ver i j
  |_=>.sub b ver i j
 |.trow b ver []=>
  match bl b with
  |some (.tree _ e ver' _ none l)=>bif Nat.beq ver ver' then .list e.ty l else .trow b ver []
  |_=>.trow b ver []
 |c=>c
def frzV(bl:Nat->Option Blk):V->V
 |.c x=>.c (frzC bl x)
 |.agg cs=>.agg (cs.map (frzC bl))
 |v=>v
def CM(bl:Nat->Option Blk):List Nat->List (Nat×Blk)
 |[]=>[]
 |b::r=>
  match bl b with
  |some (.row _ _ _ _)=>(b,.dead)::CM bl r
  |some (.tree _ _ _ _ _ _)=>(b,.dead)::CM bl r
  |_=>CM bl r
def Pe(bl:Nat->Option Blk):List (Nat×Blk)->Nat->Option Blk
 |[],i=>bl i
 |(j,x)::r,i=>Pe (λk=>bif Nat.beq k j then some x else bl k) r i
def IR(bl:Nat->Option Blk)(rds:List Nat)(run:(Nat->Option Blk)->K β->Option β)(kk:K β):Option β:=
 run (Pe bl (CM bl rds)) λv rd wr=>kk v (rds++rd) (CM bl rds++wr)
def dP(T:TypeId->Option TI)(bl:Nat->Option Blk)(si ti:TI)(y:V)(kk:K β):Option β:=
 match si.elem,si.len with
 |some et,none=>
  match T et with
  |none=>none
  |some te=>
   match te.kind with
   |some .u8=>
    bif ti.isStr then
     match OX bl (.int .u8) y with
     |some (l,rd)=>kk (.c (.str (Hu l))) rd []
     |none=>none
    else none
   |_=>none
 |_,_=>none
def wV(ρ:Operand->V):Callee->Option (FuncId×(List V×List V))
 |.value x=>
  match ρ x with
  |.c (.fn f B4)=>some (f,[],B4.map λb=>.c (.ptr b 0))
  |.c (.bfn f b)=>some (f,[.c (.ptr b 0)],[])
  |_=>none
 |_=>none
def Pf(bl:Nat->Option Blk)(nx:Nat)(t:TypeId)(cs:List C)(kk:K β):Option β:=
 match bl nx with
 |none=>kk (.c (.ptr nx 0)) [nx] [(nx,.cells t cs)]
 |some _=>none
def dQ(T:TypeId->Option TI)(bl:Nat->Option Blk)(nx:Nat)(t:TypeId)(n:Nat)(parts:List (Nat×V))(kk:K β):Option β:=
 match T t with
 |none=>none
 |some ti=>
  match ti.elem,ti.len with
  |some et,none=>
   match T et with
   |none=>none
   |some te=>
    match te.ty with
    |none=>none
    |some e=>
     bif Nat.beq e.size te.size&&(Nat.ble (n*te.size) 16777216&&Nat.blt 0 te.size)then
      match G5 {te with elem:=some et,len:=some n} T parts with
      |none=>none
      |some ps=>
       match LN (repC n te.zero) ps with
       |none=>none
       |some cs=>
        match IM (λ_=>none) e n cs,bl nx with
        |some l,none=>kk (.c (.row nx 0)) [nx] [(nx,.row et e 0 l)]
        |_,_=>none
     else none
  |_,_=>none
def dR(T:TypeId->Option TI)(bl:Nat->Option Blk)(nx:Nat)(t:TypeId)(n c:V)(kk:K β):Option β:=
 match T t,ival n,ival c with
 |some ti,some (_,i),some (_,j)=>
  match ti.elem,ti.len with
  |some et,none=>
   match T et with
   |none=>none
   |some te=>
    match te.ty with
    |none=>none
    |some e=>
     match JQ (λ_=>none) e te.zero,bl nx with
     |some z,none=>
      bif Nat.beq e.size te.size&&Nat.blt 0 te.size then
       Dr (decide (0<=i)&&(decide (i=j)&&(decide (i.toNat*te.bytes<=Bt)&&decide (i<=9223372036854775807)))) (kk (.c (.row nx 0)) [nx] [(nx,.row et e 0 (List.replicate i.toNat z))])
      else none
     |_,_=>none
  |_,_=>none
 |_,_,_=>none
def Pg:List V->Option (List Nat)
 |[]=>some []
 |.c (.ptr b 0)::r=>
  match Pg r with
  |some l=>some (b::l)
  |none=>none
 |_::_=>none
def wW(bl:Nat->Option Blk):V->Bool
 |.c (.row b _)=>
  match bl b with
  |some (.row _ e _ _)=>e.flat
  |_=>true
 |_=>true
def wX:V->Bool
 |.c (.sub _ _ _ _)=>true
 |_=>false
def wY:V->Bool
 |.agg _=>true
 |_=>false
def JU(bl:Nat->Option Blk):Nat->List Nat->List C->List C
 |_,_,[]=>[]
 |i,ps,c::cs=>(bif memB i ps then frzC bl c else c)::JU bl (i+1) ps cs
def EY:Nat->List Nat->List C->List Nat
 |_,_,[]=>[]
 |i,ps,c::cs=>bif memB i ps then Ct [c]++EY (i+1) ps cs else EY (i+1) ps cs
def dS(T:TypeId->Option TI)(bl:Nat->Option Blk)(t:TypeId)(ps:List Nat)(p:V)(kk:K β):Option β:=
 match p with
 |.c (.ptr b o)=>
  match bl b with
  |some (.cells t0 cs)=>
   Rb T (Pe (Pe bl (CM bl (EY 0 ps cs))) [(b,.cells t0 (JU bl 0 ps cs))]) t (.c (.ptr b o)) λv rd wr=>
    kk v (EY 0 ps cs++(b::rd)) (CM bl (EY 0 ps cs)++((b,.cells t0 (JU bl 0 ps cs))::wr))
  |_=>none
 |_=>Rb T bl t p kk
def VY{β:Type}(T:TypeId->Option TI)(t:TypeId)(parts:List (Nat×V))(kk:K β):Option β:=
 match T t with
 |some ti=>
  bif ti.agg then
   match G5 ti T parts with
   |some ps=>
    match LN ti.zero ps with
    |some cs=>kk (.agg cs) [] []
    |none=>none
   |none=>none
  else none
 |none=>none
def VZ(X:Ctx)(o:Oper)(ρ:Operand->V)(bl:Nat->Option Blk)(nx:Nat)(kk:K β):Option β:=
 match o.op with
 |.move x=>bif X.S&&wX (ρ x)then IR bl (Cy [ρ x]) (λ_ DF=>DF (frzV bl (ρ x)) [] []) kk else kk (ρ x) [] []
 |.assign x=>bif X.D&&wW bl (ρ x)then IR bl (Cy [ρ x]) (λ_ DF=>DF (frzV bl (ρ x)) [] []) kk else kk (ρ x) [] []
 |.pick c a b=>
  match ρ c with
  |.c (.bool g)=>cond g (kk (ρ a) [] []) (kk (ρ b) [] [])
  |_=>none
 |.alloc t=>
  match X.T t with
  |some ti=>Pf bl nx t ti.zero kk
  |none=>none
 |.box t x=>
  match(ρ x).cells with
  |some cs=>Pf bl nx t cs kk
  |none=>none
 |.build t parts=>bif X.D then IR bl (Cy (parts.toList.map λp=>ρ p.2)) (λ_ DF=>VY X.T t (parts.toList.map λp=>(p.1,frzV bl (ρ p.2))) DF) kk else VY X.T t (parts.toList.map λp=>(p.1,ρ p.2)) kk
 |.buildSlice t n parts=>bif wS X.O X.T t&&wT X.O X.T bl t (parts.toList.map λp=>(p.1,ρ p.2))then dJ X.O X.T bl nx t n (parts.toList.map λp=>(p.1,ρ p.2)) kk else IR bl (Cy (parts.toList.map λp=>ρ p.2)) (λbl' DF=>dQ X.T bl' nx t n (parts.toList.map λp=>(p.1,frzV bl (ρ p.2))) DF) kk
 |.load t a=>
  match look X.L t with
  |some ps=>dS X.T bl t ps (ρ a) kk
  |none=>Rb X.T bl t (ρ a) kk
 |.store t a x=>
  match ρ a with
  |.eptr _ _ _ _=>IR bl (Cy [ρ a,ρ x]) (λbl' DF=>MT X.T bl' t (frzV bl (ρ a)) (frzV bl (ρ x)) DF) kk
  |.c (.tptr b _ _ _ _)=>bif wP bl b then MT X.T bl t (ρ a) (ρ x) kk else IR bl (Cy [ρ a,ρ x]) (λbl' DF=>MT X.T bl' t (frzV bl (ρ a)) (frzV bl (ρ x)) DF) kk
  |_=>bif X.D&&wY (ρ x)then IR bl (Cy [ρ a,ρ x]) (λbl' DF=>MT X.T bl' t (frzV bl (ρ a)) (frzV bl (ρ x)) DF) kk else MT X.T bl t (ρ a) (ρ x) kk
 |.nilCheck x=>
  match ρ x with
  |.c (.ptr b o)=>kk (.c (.ptr b o)) [] []
  |.eptr b ver i o=>kk (.eptr b ver i o) [] []
  |.lptr e x o=>kk (.lptr e x o) [] []
  |.c (.tptr b ver p i o)=>kk (.c (.tptr b ver p i o)) [] []
  |.c (.fn f B4)=>kk (.c (.fn f B4)) [] []
  |.c (.bfn f b)=>kk (.c (.bfn f b)) [] []
  |_=>none
 |.binOp op t x y _=>cT X.T op t (ρ x) (ρ y) y kk
 |.unOp op _ x=>
  match op,ρ x with
  |.not,.c (.bool b)=>kk (.c (.bool (!b))) [] []
  |.neg,.c (.int k n)=>kk (.c (.int k (k.wrap (0-n)))) [] []
  |_,_=>none
 |.convert s t x=>
  match X.T s,X.T t,ρ x with
  |some _,some ti,.c (.int _ n)=>
   match ti.kind with
   |some k=>kk (.c (.int k (k.wrap n))) [] []
   |none=>none
  |some _,some ti,.c (.str s)=>bif ti.isStr then kk (.c (.str s)) [] []else none
  |some si,some ti,y=>dP X.T bl si ti y kk
  |_,_,_=>none
 |.makeFunc (.func f) first B4=>
  match first.toList with
  |[]=>
   match Pg (B4.toList.map ρ)with
   |some bs=>kk (.c (.fn f bs)) [] []
   |none=>none
  |[x]=>
   match ρ x,B4.toList with
   |.c (.ptr b 0),[]=>kk (.c (.bfn f b)) [] []
   |_,_=>none
  |_::_=>none
 |.makeSlice t n c=>dR X.T bl nx t (ρ n) (ρ c) kk
 |.makeMap t none=>cZ X.T bl nx t kk
 |.lookup t x i commaOk=>bif wR bl (ρ x)then dA X.T bl t (ρ x) (ρ i) commaOk kk else dC X.T bl t (ρ x) (ρ i) commaOk kk
 |.insert t m i v=>dB X.T bl t (ρ m) (ρ i) (ρ v) kk
 |.mapUpdate t m i v=>IR bl (Cy [ρ m,ρ i,ρ v]) (λbl' DF=>dD X.T bl' t (frzV bl (ρ m)) (frzV bl (ρ i)) (frzV bl (ρ v)) DF) kk
 |.slice t x none hi none=>bif X.R&&VV (ρ x)then cW X.T bl t (ρ x) (hi.map ρ) kk else Rd X.T bl t (ρ x) none (hi.map ρ) kk
 |.slice t x lo hi none=>bif X.S&&VV (ρ x)then IR bl (Cy ((x::(lo.toList++hi.toList)).map ρ)) (λbl' DF=>Rd X.T bl' t (frzV bl (ρ x)) (lo.map λy=>frzV bl (ρ y)) (hi.map λy=>frzV bl (ρ y)) DF) kk else Rd X.T bl t (ρ x) (lo.map ρ) (hi.map ρ) kk
 |.fieldAddr t x f=>cU X.T t (ρ x) f kk
 |.field t x f=>
  match X.T t,ρ x with
  |some ti,.agg cs=>
   match ti.flds[f]? with
   |some (o,n,g)=>
    bif g||Nat.beq n 1 then
     match sub cs o n with
     |some r=>kk (V.mk g r) [] []
     |none=>none
    else none
   |none=>none
  |_,_=>none
 |.indexAddr t x i=>cV X.T bl t (ρ x) (ρ i) kk
 |.index t x i=>
  match X.T t,ρ x,ival (ρ i)with
  |some ti,.c (.str s),some (_,i)=>bif ti.isStr then Dr (decide (0<=i)&&decide (i<(s.length:Int))) (kk (.c (.int .u8 ((s.getD i.toNat 0).toNat:Int))) [] [])else none
  |some ti,.agg cs,some (_,i)=>cY X.T ti cs i kk
  |_,_,_=>none
 |.extract x i=>
  match ρ x with
  |.tup ts=>
   match ts[i]? with
   |some t=>kk (V.mk t.1 t.2) [] []
   |none=>none
  |_=>none
 |.call c=>
  match c.callee with
  |.builtin .len=>
   match c.args.toList.map ρ,c.argTypes.toList with
   |[x],[t]=>cX X.T bl t x kk
   |_,_=>none
  |.builtin .min=>
   match VX false (c.args.toList.map ρ)with
   |some v=>kk v [] []
   |none=>none
  |.builtin .max=>
   match VX true (c.args.toList.map ρ)with
   |some v=>kk v [] []
   |none=>none
  |.builtin .append=>
   match c.args.toList.map ρ,c.argTypes.toList with
   |[x,y],[t,t']=>bif Nat.beq t t' then(bif VW x||VW y then dI X.O X.T bl nx t x y kk else dH X.T bl nx t x y kk)else dK X.T bl nx t t' x y kk
   |_,_=>none
  |.builtin .clear=>
   match c.args.toList.map ρ,c.argTypes.toList with
   |[x],[t]=>dF X.T bl t x kk
   |_,_=>none
  |.builtin .cap=>
   match c.args.toList.map ρ,c.argTypes.toList with
   |[x],[t]=>dG X.T t x kk
   |_,_=>none
  |.builtin .copy=>
   match c.args.toList.map ρ,c.argTypes.toList with
   |[x,y],[t,t']=>bif Nat.beq t t' then dE X.T bl t x y kk else none
   |_,_=>none
  |.builtin _=>none
  |callee=>
   match wV ρ callee with
   |some (f,pre,B4)=>Rm X bl nx f (pre++(c.args.toList.map ρ++B4)) kk
   |none=>none
 |_=>none
structure LogE where
 i:Nat
 dst:Option Nat
 v:V
 tin:List Nat
 rd:List Nat
 wr:List (Nat×Blk)
structure St where
 tm:List (Nat×V)
 bl:List (Nat×Blk)
 nx:Nat
def Rn(tm:List (Nat×V)):Operand->V
 |.tmp t=>
  match look tm t with
  |some v=>v
  |none=>.junk
 |.const v=>V.ofValue v
 |.global _=>.junk
 |.func f=>.c (.fn f [])
def IS:List Operand->List Nat
 |[]=>[]
 |.tmp t::r=>t::IS r
 |_::r=>IS r
def MW(ops:Array Oper)(o:Oper):Option (Nat×Bool):=
 match o.guard with
 |none=>none
 |some (j,want)=>((ops[j]?).bind (·.dst)).map λt=>(t,want)
def putD(tm:List (Nat×V))(dst:Option Nat)(v:V):List (Nat×V):=
 match dst with
 |some d=>put tm d v
 |none=>tm
def dT:Nat->List (Nat×Blk)->Nat
 |nx,[]=>nx
 |nx,(i,_)::r=>dT (bif Nat.ble nx i then i+1 else nx) r
def Ro(n:Nat):Option Nat->Bool
 |none=>true
 |some d=>Nat.blt d n
def JV(X:Ctx)(n:Nat)(all:Array Oper):List (Nat×Oper)->St->List LogE->(St->List LogE->Option β)->Option β
 |[],σ,log,k=>k σ log
 |(i,o)::BA,σ,log,k=>
  let tin:=IS o.op.operands.toList
  let go (σ:St) (tin:List Nat):Option β:=
   VZ X o (Rn σ.tm) (look σ.bl) σ.nx λv rd wr=>
    JV X n all BA ⟨putD σ.tm o.dst v,puts σ.bl wr,dT σ.nx wr⟩ (⟨i,o.dst,v,tin,rd,wr⟩::log) k
  bif Ro n o.dst then
   match o.guard with
   |none=>go σ tin
   |some _=>
    match MW all o with
    |none=>none
    |some (t,want)=>
     match look σ.tm t with
     |some (.tup [])=>JV X n all BA ⟨putD σ.tm o.dst (.tup []),σ.bl,σ.nx⟩ (⟨i,o.dst,.tup [],[t],[],[]⟩::log) k
     |some (.c (.bool g))=>
      let skip:Option β:=JV X n all BA ⟨putD (put σ.tm t (.c (.bool (!want)))) o.dst (.tup []),σ.bl,σ.nx⟩ (⟨i,o.dst,.tup [],[t],[],[]⟩::log) k
      let take:Option β:=go {σ with tm:=put σ.tm t (.c (.bool want))} (t::tin)
      match want with
      |true=>cond g take skip
      |false=>cond g skip take
     |_=>none
  else none
def IT(ms:List Nat):List Edge->Nat
 |[]=>0
 |e::r=>(bif Region.binds .any e then Nat.lor (Nat.shiftLeft 1 e.on) (ms.getD e.on 0)else 0) |> Nat.lor (IT ms r)
def Gj:List Oper->List Nat->List Nat
 |[],acc=>acc
 |o::r,acc=>Gj r (acc++[IT acc o.after.toList])
def JW:List (Nat×Oper)->Bool
 |[]=>true
 |(i,o)::r=>o.after.toList.all (λe=>!Region.binds .any e||Nat.blt e.on i)&&JW r
def meet(a b:List Nat):Bool:=
 match a with
 |[]=>false
 |x::r=>memB x b||meet r b
def wids:List (Nat×Blk)->List Nat
 |[]=>[]
 |(i,_)::r=>i::wids r
def Ph(x y:LogE):Bool:=
 (match x.dst with
  |some d=>memB d y.tin||(match y.dst with|some d'=>Nat.beq d d'|none=>false)
  |none=>false)||
 (match y.dst with
  |some d=>memB d x.tin
  |none=>false)||
 meet (wids x.wr) (y.rd++wids y.wr)||meet (wids y.wr) x.rd
def Wa(m:Nat)(y:LogE):List LogE->Bool
 |[]=>true
 |x::r=>(!Ph x y||Nat.testBit m x.i)&&Wa m y r
def fine(ms:List Nat):List LogE->Bool
 |[]=>true
 |y::r=>Wa (ms.getD y.i 0) y r&&fine ms r
inductive AExit where
 |normal
 |exit (id:Nat)
 |ret
def KN(ids:List Nat):List Nat->Bool
 |[]=>true
 |b::r=>memB b ids&&KN ids r
def dU(ids:List Nat):List LogE->Bool
 |[]=>true
 |e::r=>KN ids e.rd&&dU ids r
def KO:Option (List Nat)->List LogE->Bool
 |none,_=>true
 |some ids,log=>dU ids log
abbrev Kx(β:Type):=AExit->St->Option β
structure Cut where
 run:{β:Type}->St->(AExit->St->Option β)->Option β
def G7:Nat->List Oper->List (Nat×Oper)
 |_,[]=>[]
 |i,o::r=>(i,o)::G7 (i+1) r
def Wb(f:St->Kx β->Option β):Nat->St->Kx β->Option β
 |0,_,_=>none
 |i+1,σ,k=>f σ λe σ'=>
  match e with
  |.normal=>Wb f i σ' k
  |.exit id=>k (.exit id) σ'
  |.ret=>k .ret σ'
def exec(X:Ctx)(n:Nat)(Λ:Nat->Option Cut)(p:Nat)(c:Code)(σ:St)(k:Kx β):Option β:=
 match Λ p with
 |some cut=>cut.run σ k
 |none=>
  match c with
  |.skip=>k .normal σ
  |.region _ ops draw=>
   let l:=G7 0 ops.toList
   JV X n ops l σ [] λσ' log=>
    bif KO X.A log&&(!draw||(JW l&&fine (Gj ops.toList []) log))then k .normal σ' else none
  |.seq a b=>
   exec X n Λ (2*p) a σ λe σ'=>
    match e with
    |.normal=>exec X n Λ (2*p+1) b σ' k
    |e=>k e σ'
  |.cond x a b=>
   match Rn σ.tm x with
   |.c (.bool g)=>cond g (exec X n Λ (2*p) a σ k) (exec X n Λ (2*p+1) b σ k)
   |_=>none
  |.block id a=>
   exec X n Λ (2*p) a σ λe σ'=>
    match e with
    |.exit Q9=>bif Nat.beq Q9 id then k .normal σ' else k (.exit Q9) σ'
    |e=>k e σ'
  |.exit id=>k (.exit id) σ
  |.ret=>k .ret σ
  |.loop a=>Wb (λσ' k'=>exec X n (λ_=>none) 1 a σ' k') X.N σ k
  |_=>none
end
end
end Go.Lift
namespace Go.Lift
open Go.RowKit
def Blk.live:Blk->Bool
 |.dead=>false
 |_=>true
def Own(pl:Nat->Option Pl)(bl:Nat->Option Blk)(g:Nat):Prop:=
 ∃i B p,bl i=some B/\B.live=true/\pl i=some p/\p.has g
structure OK0 (P:Program) where
 f:Nat->Prop
 no:Nat->Prop
instance{P:Program}:CoeFun (OK0 P) (λ_=>Nat->Prop):=⟨OK0.f⟩
def Rp:List (String×IntKind×List Int):=[("internal/strconv.uint64pow10",.u64,Lib.pow10Tab),("strings.asciiSpace",.u8,Lib.asciiSpaceTab)]
def Rq:List String:=["strconv.ErrSyntax", "strconv.ErrRange"]
def ReadsAt(w:World)(b o:Nat)(vs:List Value):Prop:=∀i v,vs[i]?=some v->w.cell? ⟨b,o+i,none⟩=some v
def Wc(g:Nat)(w:World):Prop:=
 ∃T oT R oR,ReadsAt w g 0 [.pointer (some ⟨T,oT,none⟩)]/\ReadsAt w T oT [.slice (some ⟨R,oR,none⟩) 7 7,.slice none 0 0,.int .i64 2]/\ReadsAt w R oR (Lib.whiteT.map λz:Nat=>Value.int .u16 (z:Int))
structure Opened (P:Program) (w:World):Prop where
 open_:w.ShapedOpen P
 tabs:∀x∈Rp,(P.globalNamed x.1).isSome=true->Lib.TabIs P w x.1 x.2.1 x.2.2
 errs:∀n∈Rq,(P.globalNamed n).isSome=true->∃t u,w.var? P n=some #[.iface t u]
 white:∀g,P.globalNamed "unicode.White_Space"=some g->Wc g w
def Glob0(P:Program)(no:Nat->Prop)(pl:Nat->Option Pl)(bl:Nat->Option Blk)(w:World):Prop:=
 ∃w0:World,Opened P w0/\w0.heap.size<=w.heap.size/\(∀g,g<w0.heap.size->w.heap[g]?=w0.heap[g]?/\¬Own pl bl g)/\∀g,no g->w0.heap.size<=g
def GlobR(P:Program)(own:Option Nat)(w:World):Prop:=
 ∃w0:World,Opened P w0/\w0.heap.size<=w.heap.size/\∀g,g<w0.heap.size->w.heap[g]?=w0.heap[g]?/\own≠some g
theorem GlobR.glob{P:Program}{pl:Nat->Option Pl}{bl:Nat->Option Blk}{w:World}{own:Option Nat}(h:GlobR P own w)(ho:∀g,Own pl bl g->own=some g):Glob0 P (λ_=>False) pl bl w:=by obtain⟨w0,h1,h2,h3⟩:=h;exact⟨w0,h1,h2,λg hl=>⟨(h3 g hl).1,λq=>(h3 g hl).2 (ho g q)⟩,λ_ h=>h.elim⟩
theorem Glob0.gen{P:Program}{no AjO:Nat->Prop}{pl Ai:Nat->Option Pl}{bl bl':Nat->Option Blk}{w w':World}(h:Glob0 P no pl bl w)(hs:w.heap.size<=w'.heap.size)(ho:∀g,g<w.heap.size->¬Own pl bl g->¬no g->w'.heap[g]?=w.heap[g]?/\¬Own Ai bl' g)(hn:∀g,AjO g->no g\/Own pl bl g\/w.heap.size<=g):Glob0 P AjO Ai bl' w':=by
 obtain⟨w0,h1,h2,h3,h4⟩:=h;refine⟨w0,h1,Df h2 hs,λg hl=>?_,λg hg=>?_⟩
 ·obtain⟨a,b⟩:=h3 g hl
  obtain⟨c,d⟩:=ho g (V6 hl h2) b λhn=>absurd (h4 g hn) (Nat.not_le.2 hl);exact⟨c.trans a,d⟩
 ·rcases hn g hg with q|q|q
  ·exact h4 g q
  ·exact Nat.le_of_not_lt λhl=>(h3 g hl).2 q
  ·exact Df h2 q
structure Glob {P:Program} (ok0:OK0 P) (pl:Nat->Option Pl) (bl:Nat->Option Blk) (w:World):Prop where
 g0:Glob0 P ok0.no pl bl w
 no:∀g,ok0.no g->g<w.heap.size/\¬Own pl bl g
section
variable{P:Program}{ok0:OK0 P}{pl Ai:Nat->Option Pl}{bl bl':Nat->Option Blk}{w w':World}
theorem Glob.out(h:Glob ok0 pl bl w)(hs:w.heap.size<=w'.heap.size)(ho:∀g,g<w.heap.size->¬Own pl bl g->w'.heap[g]?=w.heap[g]?/\¬Own Ai bl' g):Glob ok0 Ai bl' w':=
 ⟨h.g0.gen hs (λg h1 h2 _=>ho g h1 h2) λ_ h=>.inl h,λg hn=>by obtain⟨h1,h2⟩:=h.no g hn;exact⟨V6 h1 hs,(ho g h1 h2).2⟩⟩
theorem Glob.mono(h:Glob ok0 pl bl w)(ho:∀g,Own Ai bl' g->Own pl bl g):Glob ok0 Ai bl' w:=h.out (AC _) λg _ h1=>⟨rfl,λq=>h1 (ho g q)⟩
theorem Glob.row{own:Option Nat}(h:Glob ok0 pl bl w)(ho:∀g,own=some g->Own pl bl g):GlobR P own w:=by obtain⟨w0,h1,h2,h3,_⟩:=h.g0;exact⟨w0,h1,h2,λg hl=>⟨(h3 g hl).1,λq=>(h3 g hl).2 (ho g q)⟩⟩
end
def Al{P:Program}(ok0:OK0 P)(base:Nat)(pl:Nat->Option Pl)(bl:Nat->Option Blk)(w:World):Env:={w,ok:=λg=>(ok0 g\/(base<=g/\¬ok0.no g))/\¬Own pl bl g,base,pl,bl}
structure RelB {P:Program} (ok0:OK0 P) (base:Nat) (pl:Nat->Option Pl) (bl:Nat->Option Blk) (w:World):Prop where
 baseLe:base<=w.heap.size
 blks:∀i B,bl i=some B->∃p,pl i=some p/\BRep (Al ok0 base pl bl w) B p
 sep:∀i j B C p q g,i≠j->bl i=some B->bl j=some C->B.live=true->C.live=true->pl i=some p->pl j=some q->p.has g->¬q.has g
 fresh:∀i,bl i=none->pl i=none
 glob:Glob ok0 pl bl w
structure Step (pl:Nat->Option Pl) (bl:Nat->Option Blk) (w:World) (Ai:Nat->Option Pl) (bl':Nat->Option Blk) (w':World):Prop where
 os:w'.os=w.os
 tape:w'.tape=w.tape
 output:w'.output=w.output
 size:w.heap.size<=w'.heap.size
 out:∀g,g<w.heap.size->¬Own pl bl g->w'.heap[g]?=w.heap[g]?/\¬Own Ai bl' g
 cells:∀b g,pl b=some (.cells g)->Ai b=some (.cells g)
 rows:∀b sv Ab,pl b=some (.row sv Ab)->∃AM Bl,Ai b=some (.row AM Bl)/\KeepR (bl b) (bl' b) sv Ab AM Bl
theorem Step.refl(pl:Nat->Option Pl)(bl:Nat->Option Blk)(w:World):Step pl bl w pl bl w:=
 ⟨rfl,rfl,rfl,AC _,λ_ _ h=>⟨rfl,h⟩,λ_ _ h=>h,λ_ sv Ab h=>⟨sv,Ab,h,KeepR.refl _ _ _⟩⟩
theorem Step.trans{pl pl1 pl2:Nat->Option Pl}{bl bl1 Aa:Nat->Option Blk}{w w1 w2:World}(h:Step pl bl w pl1 bl1 w1)(k:Step pl1 bl1 w1 pl2 Aa w2):Step pl bl w pl2 Aa w2:=by
 refine⟨k.os.trans h.os,k.tape.trans h.tape,k.output.trans h.output,Df h.size k.size,λg hg ho=>?_,λb g hb=>k.cells b g (h.cells b g hb),λb sv Ab hb=>?_⟩
 ·obtain⟨h1,h2⟩:=h.out g hg ho
  obtain⟨k1,k2⟩:=k.out g (V6 hg h.size) h2;exact⟨k1.trans h1,k2⟩
 ·obtain⟨sv1,L8,p1,r1⟩:=h.rows b sv Ab hb
  obtain⟨sv2,JH,p2,r2⟩:=k.rows b sv1 L8 p1;exact⟨sv2,JH,p2,r1.trans r2⟩
structure StepM (m:Nat) (pl:Nat->Option Pl) (bl:Nat->Option Blk) (w:World) (Ai:Nat->Option Pl) (bl':Nat->Option Blk) (w':World):Prop where
 os:w'.os=w.os
 tape:w'.tape=w.tape
 output:w'.output=w.output
 size:w.heap.size<=w'.heap.size
 out:∀g,g<w.heap.size->¬Own pl bl g->w'.heap[g]?=w.heap[g]?/\¬Own Ai bl' g
 cells:∀b g,b<m->pl b=some (.cells g)->Ai b=some (.cells g)
 rows:∀b sv Ab,b<m->pl b=some (.row sv Ab)->∃AM Bl,Ai b=some (.row AM Bl)
theorem Step.toM{m:Nat}{pl Ai:Nat->Option Pl}{bl bl':Nat->Option Blk}{w w':World}(h:Step pl bl w Ai bl' w'):StepM m pl bl w Ai bl' w':=
 ⟨h.os,h.tape,h.output,h.size,h.out,λb g _=>h.cells b g,λb sv Ab _ hb=>by obtain⟨AM,Bl,h1,_⟩:=h.rows b sv Ab hb;exact⟨AM,Bl,h1⟩⟩
theorem StepM.refl(m:Nat)(pl:Nat->Option Pl)(bl:Nat->Option Blk)(w:World):StepM m pl bl w pl bl w:=(Step.refl pl bl w).toM
theorem StepM.trans{m:Nat}{pl pl1 pl2:Nat->Option Pl}{bl bl1 Aa:Nat->Option Blk}{w w1 w2:World}(h:StepM m pl bl w pl1 bl1 w1)(k:StepM m pl1 bl1 w1 pl2 Aa w2):StepM m pl bl w pl2 Aa w2:=by
 refine⟨k.os.trans h.os,k.tape.trans h.tape,k.output.trans h.output,Df h.size k.size,λg hg ho=>?_,λb g hm hb=>k.cells b g hm (h.cells b g hm hb),λb sv Ab hm hb=>?_⟩
 ·obtain⟨h1,h2⟩:=h.out g hg ho
  obtain⟨k1,k2⟩:=k.out g (V6 hg h.size) h2;exact⟨k1.trans h1,k2⟩
 ·obtain⟨AM,Bl,h1⟩:=h.rows b sv Ab hm hb
  exact k.rows b AM Bl hm h1
theorem Step.ext{P:Program}{ok0:OK0 P}{base:Nat}{pl Ai:Nat->Option Pl}{bl bl':Nat->Option Blk}{w w':World}(h:Step pl bl w Ai bl' w'):Ext (Al ok0 base pl bl w) (Al ok0 base Ai bl' w'):=
 ⟨AC _,λg hg Ao=>⟨⟨hg.1,(h.out g Ao hg.2).2⟩,(h.out g Ao hg.2).1⟩,h.cells,h.rows⟩
def upd{α:Type}(f:Nat->Option α)(i:Nat)(x:α):Nat->Option α:=λj=>if j=i then some x else f j
def updL{α:Type}(f:Nat->Option α):List (Nat×α)->Nat->Option α
 |[]=>f
 |(i,x)::r=>updL (upd f i x) r
theorem dV{α:Type}:∀(r l:List (Nat×α)),look (puts l r)=updL (look l) r
 |[],_=>rfl
 |(i,x)::r,l=>by rw[puts,dV r,updL];congr 1;funext j;rw[VQ,upd]
def OpOk(P:Program)(o:Oper)(ρ:Operand->V)(bl:Nat->Option Blk)(v:V)(wr:List (Nat×Blk)):Prop:=
 ∀(ok0:OK0 P)(base:Nat)(pl:Nat->Option Pl)(w:World)(a:Act),RelB ok0 base pl bl w->
  (∀x∈o.op.operands,VRep (Al ok0 base pl bl w) (ρ x) (a.eval x))->
  ∀(K:Act->World->Prop)(Q:Exit->Act->World->Prop),
   (∀val Ai w',RelB ok0 base Ai (updL bl wr) w'->Step pl bl w Ai (updL bl wr) w'->VRep (Al ok0 base Ai (updL bl wr) w') v val->K (a.put o.dst val) w')->
   o.wp P a w K Q
section
variable{P:Program}{o:Oper}{ρ:Operand->V}{bl:Nat->Option Blk}{v:V}
theorem Hc{a:Act}{w w':World}{val:Value}(h:(execOp a.eval o).run P w=.ok (.value val) w'){K:Act->World->Prop}{Q:Exit->Act->World->Prop}(hk:K (a.put o.dst val) w'):o.wp P a w K Q:=by unfold Oper.wp;rw[h];exact hk
theorem MX{a:Act}{w w':World}(h:(execOp a.eval o).run P w=.ok .skip w'){K:Act->World->Prop}{Q:Exit->Act->World->Prop}(hk:K (a.put o.dst undef) w'):o.wp P a w K Q:=by unfold Oper.wp;rw[h];exact hk
theorem OpOk.of_pure(h:∀(ok0:OK0 P)(base:Nat)(pl:Nat->Option Pl)(w:World)(a:Act),RelB ok0 base pl bl w->(∀x∈o.op.operands,VRep (Al ok0 base pl bl w) (ρ x) (a.eval x))->∃val,(execOp a.eval o).run P w=.ok (.value val) w/\VRep (Al ok0 base pl bl w) v val):OpOk P o ρ bl v []:=by
 intro ok0 base pl w a hr hx K Q hk;obtain⟨val,h1,h2⟩:=h ok0 base pl w a hr hx;exact Hc h1 (hk val pl w hr (Step.refl pl bl w) h2)
end
section
variable{P:Program}{ok0:OK0 P}{base:Nat}{pl:Nat->Option Pl}{bl:Nat->Option Blk}{w:World}
theorem RelB.put(hr:RelB ok0 base pl bl w){i:Nat}{B:Blk}{p:Pl}{w':World}(hs:Step pl bl w (upd pl i p) (upd bl i B) w')(hB:BRep (Al ok0 base (upd pl i p) (upd bl i B) w') B p)(hg:∀j C q g,j≠i->bl j=some C->C.live=true->pl j=some q->q.has g->w'.heap[g]?=w.heap[g]?/\¬p.has g):RelB ok0 base (upd pl i p) (upd bl i B) w':=by
 refine⟨Df hr.baseLe hs.size,λj C hC=>?_,λj k C D q r g Aig hC hD hlC hlD hq Bv Bn=>?_,λj hj=>?_,hr.glob.out hs.size hs.out⟩
 ·by_cases hj:j=i
  ·subst hj
   simp only[upd,Dn,Af]at hC;subst hC;exact⟨p,by simp[upd],hB⟩
  ·simp only[upd,hj,Cx]at hC⊢
   obtain⟨q,hq,hBq⟩:=hr.blks j C hC;refine⟨q,hq,?_⟩;cases hl:C.live with
   |false=>cases C<;>first|exact trivial|simp[Blk.live]at hl
   |true=>exact BRep.mono hs.ext hBq λg Bn=>(hg j C q g hj hC hl hq Bn).1
 ·by_cases hj:j=i
  ·by_cases hk:k=i
   ·exact absurd (hj.trans hk.symm) Aig
   ·subst hj
    simp only[upd,Dn,Af,hk,Cx]at hC hD hq Bv;subst hC hq;intro Q2;exact(hg k D r g hk hD hlD Bv Q2).2 Bn
  ·by_cases hk:k=i
   ·subst hk
    simp only[upd,Dn,Af,hj,Cx]at hC hD hq Bv;subst hD Bv;exact(hg j C q g hj hC hlC hq Bn).2
   ·simp only[upd,hj,hk,Cx]at hC hD hq Bv
    exact hr.sep j k C D q r g Aig hC hD hlC hlD hq Bv Bn
 ·by_cases Gs:j=i
  ·subst Gs;simp[upd]at hj
  ·simp only[upd,Gs,Cx]at hj⊢
   exact hr.fresh j hj
theorem Own.lt(hr:RelB ok0 base pl bl w){g:Nat}(h:Own pl bl g):g<w.heap.size:=by
 obtain⟨i,B,p,hB,hl,hp,hg⟩:=h;obtain⟨q,hq,hR⟩:=hr.blks i B hB;rw[hp]at hq;injection hq with hq;subst hq;cases B with
 |dead=>simp[Blk.live]at hl
 |cells t cs=>
  cases p with
  |row _ _=>exact hR.elim
  |cells g'=>obtain⟨vs,h1,_⟩:=hR;have hg:g'=g:=hg;subst hg;exact(HD.1 h1).1
 |map t k v vg l=>
  cases p with
  |row _ _=>exact hR.elim
  |cells g'=>obtain⟨es,C8,h1,_⟩:=hR;have hg:g'=g:=hg;subst hg;exact(HD.1 h1).1
 |fmap t l=>
  cases p with
  |row _ _=>exact hR.elim
  |cells g'=>obtain⟨es,C8,h1,_⟩:=hR;have hg:g'=g:=hg;subst hg;exact(HD.1 h1).1
 |row t e ver l=>
  cases p with
  |cells _=>exact hR.elim
  |row sv Ab=>obtain⟨h0,xs,_,h2⟩:=hR;subst h0;exact(h2.lt g (Pl.has_row hg)).2
 |mat t et e ver Ag hole l=>
  cases p with
  |cells _=>exact hR.elim
  |row sv Ab=>
   have hR:MatOk _ t et e hole l sv Ab:=hR;rcases hg with hg|⟨i,s,hs,hg⟩
   ·obtain⟨vs,h1,_⟩:=hR.outer
    exact(h1.lt g hg).2
   ·have Ao:i<l.length:=by rw[<-hR.len];exact(Eu.1 hs).1
    obtain⟨xs,_,h2⟩:=hR.inner i s l[i] hs (DK Ao);exact(h2.lt g hg).2
 |tree t e ver Ag hole l=>
  cases p with
  |cells _=>exact hR.elim
  |row sv Ab=>have hR:TreeOk _ t e hole l sv Ab:=hR;obtain⟨hv,F,h1,h2,_⟩:=hR.rep;obtain⟨s,hs,hg⟩:=h2.of_has hg;exact(h1.lt s hs g hg).2
theorem Step.new(hr:RelB ok0 base pl bl w){i:Nat}(hi:bl i=none){B:Blk}{p:Pl}{w':World}(hg:w.grownBy w' none)(hp:∀g,p.has g->w.heap.size<=g):Step pl bl w (upd pl i p) (upd bl i B) w':=by
 have Av:=hr.fresh i hi;refine⟨hg.os,hg.tape,hg.output,hg.size,λg Ao ho=>⟨hg.block g Ao (by simp),?_⟩,λb g hb=>?_,λb sv Ab hb=>?_⟩
 ·rintro⟨j,C,q,hC,hl,hq,Bn⟩
  by_cases hj:j=i
  ·subst hj
   simp only[upd,Dn,Af]at hC hq;subst hq;have:=hp g Bn;omega
  ·simp only[upd,hj,Cx]at hC hq
   exact ho ⟨j,C,q,hC,hl,hq,Bn⟩
 ·have C6:b≠i:=by rintro rfl;rw[Av]at hb;cases hb
  simp[upd,C6,hb]
 ·have C6:b≠i:=by rintro rfl;rw[Av]at hb;cases hb
  exact⟨sv,Ab,by simp[upd,C6,hb],KeepR.of_eq (λC hC=>by simpa [upd,C6]using hC) _ _⟩
theorem RelB.new(hr:RelB ok0 base pl bl w){i:Nat}(hi:bl i=none){B:Blk}{p:Pl}{w':World}(hg:w.grownBy w' none)(hp:∀g,p.has g->w.heap.size<=g)(hB:BRep (Al ok0 base (upd pl i p) (upd bl i B) w') B p):RelB ok0 base (upd pl i p) (upd bl i B) w':=by
 refine hr.put (Step.new hr hi hg hp) hB λj C q g hj hC hl hq Bn=>?_;have Ao:g<w.heap.size:=Own.lt hr ⟨j,C,q,hC,hl,hq,Bn⟩;refine⟨hg.block g Ao (by simp),λCK=>?_⟩;have:=hp g CK;omega
theorem Step.grownP(_hr:RelB ok0 base pl bl w){i:Nat}{B B':Blk}(hi:bl i=some B)(aT:B.live=true){sv AM:Value}{Ab Bl:List (Option Value)}(Av:pl i=some (.row sv Ab)){w':World}{og:Option Nat}(hg:w.grownBy w' og)(Ia:∀g,og=some g->(Pl.row sv Ab).has g)(hv:∀g,(Pl.row AM Bl).has g->(Pl.row sv Ab).has g\/w.heap.size<=g)(hk:KeepR (some B) (some B') sv Ab AM Bl):Step pl bl w (upd pl i (.row AM Bl)) (upd bl i B') w':=by
 have Ak:∀g,(Pl.row sv Ab).has g->Own pl bl g:=λg h=>⟨i,_,_,hi,aT,Av,h⟩;refine⟨hg.os,hg.tape,hg.output,hg.size,λg Ao ho=>⟨hg.block g Ao (λh=>ho (Ak g (Ia g h.symm))),?_⟩,λb g hb=>?_,λb sv0 Vq hb=>?_⟩
 ·rintro⟨j,C,q,hC,hl,hq,Bn⟩
  by_cases hj:j=i
  ·subst hj
   simp only[upd,Dn,Af]at hC hq;subst hq;rcases hv g Bn with hv|hv
   ·exact ho (Ak g hv)
   ·omega
  ·simp only[upd,hj,Cx]at hC hq
   exact ho ⟨j,C,q,hC,hl,hq,Bn⟩
 ·have C6:b≠i:=by rintro rfl;rw[Av]at hb;cases hb
  simp[upd,C6,hb]
 ·by_cases C6:b=i
  ·subst C6
   rw[Av]at hb;injection hb with hb;injection hb with hb Ah;subst hb Ah;refine⟨AM,Bl,by simp[upd],?_⟩;rw[hi];simpa [upd]using hk
  ·exact⟨sv0,Vq,by simp[upd,C6,hb],KeepR.of_eq (λC hC=>by simpa [upd,C6]using hC) _ _⟩
theorem RelB.grownP(hr:RelB ok0 base pl bl w){i:Nat}{B B':Blk}(hi:bl i=some B)(aT:B.live=true){sv AM:Value}{Ab Bl:List (Option Value)}(Av:pl i=some (.row sv Ab)){w':World}{og:Option Nat}(hg:w.grownBy w' og)(Ia:∀g,og=some g->(Pl.row sv Ab).has g)(hv:∀g,(Pl.row AM Bl).has g->(Pl.row sv Ab).has g\/w.heap.size<=g)(hk:KeepR (some B) (some B') sv Ab AM Bl)(hB:BRep (Al ok0 base (upd pl i (.row AM Bl)) (upd bl i B') w') B' (.row AM Bl)):RelB ok0 base (upd pl i (.row AM Bl)) (upd bl i B') w':=by
 refine hr.put (Step.grownP hr hi aT Av hg Ia hv hk) hB λj C q g hj hC hl hq Bn=>?_;have Ao:g<w.heap.size:=Own.lt hr ⟨j,C,q,hC,hl,hq,Bn⟩;have AL:¬(Pl.row sv Ab).has g:=λh=>hr.sep j i _ _ _ _ g hj hC hi hl aT hq Av Bn h;refine⟨hg.block g Ao (λh=>AL (Ia g h.symm)),λCK=>?_⟩;rcases hv g CK with hv|hv
 ·exact AL hv
 ·omega
theorem KeepR.ofRow{t:TypeId}{e:Ty}{ver ver':Nat}{l l':List e.den}{sv AM:Value}{Ab Bl:List (Option Value)}(AP:ver<=ver'/\(ver=ver'->AM=sv/\l'.length=l.length)):KeepR (some (.row t e ver l)) (some (.row t e ver' l')) sv Ab AM Bl:=by
 constructor
 ·intro t1 e1 CD l1 h1
  simp only[Af]at h1;injection h1 with h2 h3 h4 h5;subst h2 h3 h4;simp only[In]at h5;subst h5;exact⟨ver,l,rfl,AP.1,AP.2⟩
 ·intro t1 et1 e1 CD GR UJ l1 h1
  cases h1
 ·intro t1 e1 CD GR UJ l1 h1
  cases h1
theorem KeepR.ofTree{t:TypeId}{e:OT}{ver ver' Ag Bp:Nat}{hole Gx:Option Path}{l l':List e.ty.den}{sv AM:Value}{Ab Bl:List (Option Value)}(AP:ver<=ver'/\Ag<=Bp/\(ver=ver'->AM=sv/\KeepT (Ag=Bp) t e hole Gx l l' sv Ab Bl)):KeepR (some (.tree t e ver Ag hole l)) (some (.tree t e ver' Bp Gx l')) sv Ab AM Bl:=by
 constructor
 ·intro t1 e1 CD l1 h1
  cases h1
 ·intro t1 et1 e1 CD GR UJ l1 h1
  cases h1
 ·intro t1 e1 CD GR UJ l1 h1
  simp only[Af]at h1;injection h1 with h2 h3 h4 h5 h6 h7;subst h2 h3 h4 h5 h6;simp only[In]at h7;subst h7;exact⟨ver,Ag,hole,l,rfl,AP.1,AP.2.1,AP.2.2⟩
theorem KeepR.ofDead{B:Option Blk}{sv AM:Value}{Ab Bl:List (Option Value)}:KeepR B (some .dead) sv Ab AM Bl:=
 ⟨λ_ _ _ _ h=>(by cases h),λ_ _ _ _ _ _ _ h=>(by cases h),λ_ _ _ _ _ _ h=>(by cases h)⟩
theorem Step.grown(_hr:RelB ok0 base pl bl w){i:Nat}{t:TypeId}{e:Ty}{ver ver':Nat}{l l':List e.den}(hi:bl i=some (.row t e ver l)){sv AM:Value}(Av:pl i=some (.row sv [])){w':World}(hg:w.grownBy w' sv.ownBlock)(hv:AM.ownBlock=sv.ownBlock\/∀g,AM.ownBlock=some g->w.heap.size<=g)(AP:ver<=ver'/\(ver=ver'->AM=sv/\l'.length=l.length)):Step pl bl w (upd pl i (.row AM [])) (upd bl i (.row t e ver' l')) w':=
 Step.grownP _hr hi rfl Av hg (λg h=>.inl h) (λg h=>by
  have h:=Pl.has_row h;rcases hv with hv|hv
  ·exact .inl (.inl (hv▸h))
  ·exact .inr (hv g h)) (KeepR.ofRow AP)
theorem RelB.grown(hr:RelB ok0 base pl bl w){i:Nat}{t:TypeId}{e:Ty}{ver ver':Nat}{l l':List e.den}(hi:bl i=some (.row t e ver l)){sv AM:Value}(Av:pl i=some (.row sv [])){w':World}(hg:w.grownBy w' sv.ownBlock)(hv:AM.ownBlock=sv.ownBlock\/∀g,AM.ownBlock=some g->w.heap.size<=g)(AP:ver<=ver'/\(ver=ver'->AM=sv/\l'.length=l.length))(hB:BRep (Al ok0 base (upd pl i (.row AM [])) (upd bl i (.row t e ver' l')) w') (.row t e ver' l') (.row AM [])):RelB ok0 base (upd pl i (.row AM [])) (upd bl i (.row t e ver' l')) w':=
 RelB.grownP hr hi rfl Av hg (λg h=>.inl h) (λg h=>by
  have h:=Pl.has_row h;rcases hv with hv|hv
  ·exact .inl (.inl (hv▸h))
  ·exact .inr (hv g h)) (KeepR.ofRow AP) hB
theorem Step.wroteB(_hr:RelB ok0 base pl bl w){i g0:Nat}{B B':Blk}(hi:bl i=some B)(hl:B.live=true)(Av:pl i=some (.cells g0)){w':World}(hg:w.grownBy w' (some g0)):Step pl bl w (upd pl i (.cells g0)) (upd bl i B') w':=by
 have Ak:Own pl bl g0:=⟨i,_,_,hi,hl,Av,rfl⟩;refine⟨hg.os,hg.tape,hg.output,hg.size,λg Ao ho=>⟨hg.block g Ao (λh=>ho (by injection h with h;subst h;exact Ak)),?_⟩,λb g hb=>?_,λb sv0 Vq hb=>?_⟩
 ·rintro⟨j,C,q,hC,hl,hq,Bn⟩
  by_cases hj:j=i
  ·subst hj
   simp only[upd,Dn,Af]at hC hq;subst hq;have Bn:g0=g:=Bn;subst Bn;exact ho Ak
  ·simp only[upd,hj,Cx]at hC hq
   exact ho ⟨j,C,q,hC,hl,hq,Bn⟩
 ·by_cases C6:b=i
  ·subst C6;rw[Av]at hb;simpa [upd]using hb
  ·simp[upd,C6,hb]
 ·have C6:b≠i:=by rintro rfl;rw[Av]at hb;cases hb
  exact⟨sv0,Vq,by simp[upd,C6,hb],KeepR.of_eq (λC hC=>by simpa [upd,C6]using hC) _ _⟩
theorem RelB.wroteB(hr:RelB ok0 base pl bl w){i g0:Nat}{B B':Blk}(hi:bl i=some B)(Gd:B.live=true)(Av:pl i=some (.cells g0)){w':World}(hg:w.grownBy w' (some g0))(hB:BRep (Al ok0 base (upd pl i (.cells g0)) (upd bl i B') w') B' (.cells g0)):RelB ok0 base (upd pl i (.cells g0)) (upd bl i B') w':=by
 refine hr.put (Step.wroteB hr hi Gd Av hg) hB λj C q g hj hC hl hq Bn=>?_;have Ao:g<w.heap.size:=Own.lt hr ⟨j,C,q,hC,hl,hq,Bn⟩;have AL:g0≠g:=λh=>hr.sep j i _ _ _ _ g hj hC hi hl Gd hq Av Bn h;exact⟨hg.block g Ao (λh=>AL (by injection h with h;exact h.symm)),λCK=>AL CK⟩
theorem Step.wrote(hr:RelB ok0 base pl bl w){i g0:Nat}{t:TypeId}{cs cs':List C}(hi:bl i=some (.cells t cs))(Av:pl i=some (.cells g0)){w':World}(hg:w.grownBy w' (some g0)):Step pl bl w (upd pl i (.cells g0)) (upd bl i (.cells t cs')) w':=Step.wroteB hr hi rfl Av hg
theorem RelB.wrote(hr:RelB ok0 base pl bl w){i g0:Nat}{t:TypeId}{cs cs':List C}(hi:bl i=some (.cells t cs))(Av:pl i=some (.cells g0)){w':World}(hg:w.grownBy w' (some g0))(hB:BRep (Al ok0 base (upd pl i (.cells g0)) (upd bl i (.cells t cs')) w') (.cells t cs') (.cells g0)):RelB ok0 base (upd pl i (.cells g0)) (upd bl i (.cells t cs')) w':=RelB.wroteB hr hi rfl Av hg hB
def Co(pl:Nat->Option Pl)(bl:Nat->Option Blk)(i g:Nat):Prop:=∃B p,bl i=some B/\B.live=true/\pl i=some p/\p.has g
theorem Step.two(_hr:RelB ok0 base pl bl w){i j:Nat}(Db:i≠j){Bi Bj:Blk}{pi pj:Pl}{w':World}{og:Option Nat}(hg:w.grownBy w' og)(Ia:∀g,og=some g->Co pl bl i g\/Co pl bl j g)(hi:∀g,Bi.live=true->pi.has g->Co pl bl i g\/Co pl bl j g\/w.heap.size<=g)(hj:∀g,Bj.live=true->pj.has g->Co pl bl i g\/Co pl bl j g\/w.heap.size<=g)(AyC:∀g,pl i=some (.cells g)->pi=.cells g)(Uu:∀g,pl j=some (.cells g)->pj=.cells g)(AzQ:∀sv Ab,pl i=some (.row sv Ab)->∃AM Bl,pi=.row AM Bl/\KeepR (bl i) (some Bi) sv Ab AM Bl)(AzR:∀sv Ab,pl j=some (.row sv Ab)->∃AM Bl,pj=.row AM Bl/\KeepR (bl j) (some Bj) sv Ab AM Bl):Step pl bl w (upd (upd pl i pi) j pj) (upd (upd bl i Bi) j Bj) w':=by
 have hOwn:∀k g,Co pl bl k g->Own pl bl g:=λk g ⟨B,p,h1,h2,h3,h4⟩=>⟨k,B,p,h1,h2,h3,h4⟩;refine⟨hg.os,hg.tape,hg.output,hg.size,λg Ao ho=>⟨hg.block g Ao (λh=>?_),?_⟩,λb g hb=>?_,λb sv Ab hb=>?_⟩
 ·rcases Ia g h.symm with h|h
  ·exact ho (hOwn i g h)
  ·exact ho (hOwn j g h)
 ·rintro⟨k,C,q,hC,hl,hq,Bn⟩
  by_cases D4:k=j
  ·subst D4
   simp only[upd,Dn,Af]at hC hq;subst hq hC;rcases hj g hl Bn with h|h|h
   ·exact ho (hOwn i g h)
   ·exact ho (hOwn k g h)
   ·omega
  ·by_cases EI:k=i
   ·subst EI
    simp only[upd,D4,Cx,Dn,Af]at hC hq;subst hq hC;rcases hi g hl Bn with h|h|h
    ·exact ho (hOwn k g h)
    ·exact ho (hOwn j g h)
    ·omega
   ·simp only[upd,D4,EI,Cx]at hC hq
    exact ho ⟨k,C,q,hC,hl,hq,Bn⟩
 ·by_cases D4:b=j
  ·subst D4;simp[upd,Uu g hb]
  ·by_cases EI:b=i
   ·subst EI;simp[upd,D4,AyC g hb]
   ·simp[upd,D4,EI,hb]
 ·by_cases D4:b=j
  ·subst D4
   obtain⟨AM,Bl,h1,h2⟩:=AzR sv Ab hb;exact⟨AM,Bl,by simp[upd,h1],by simpa [upd]using h2⟩
  ·by_cases EI:b=i
   ·subst EI
    obtain⟨AM,Bl,h1,h2⟩:=AzQ sv Ab hb;exact⟨AM,Bl,by simp[upd,D4,h1],by simpa [upd,D4]using h2⟩
   ·exact⟨sv,Ab,by simp[upd,D4,EI,hb],KeepR.of_eq (λC hC=>by simpa [upd,D4,EI]using hC) _ _⟩
theorem RelB.two(hr:RelB ok0 base pl bl w){i j:Nat}(Db:i≠j){Bi Bj:Blk}{pi pj:Pl}{w':World}{og:Option Nat}(hg:w.grownBy w' og)(Ia:∀g,og=some g->Co pl bl i g\/Co pl bl j g)(hi:∀g,Bi.live=true->pi.has g->Co pl bl i g\/Co pl bl j g\/w.heap.size<=g)(hj:∀g,Bj.live=true->pj.has g->Co pl bl i g\/Co pl bl j g\/w.heap.size<=g)(hd:∀g,Bi.live=true->Bj.live=true->pi.has g->¬pj.has g)(hs:Step pl bl w (upd (upd pl i pi) j pj) (upd (upd bl i Bi) j Bj) w')(hBi:BRep (Al ok0 base (upd (upd pl i pi) j pj) (upd (upd bl i Bi) j Bj) w') Bi pi)(hBj:BRep (Al ok0 base (upd (upd pl i pi) j pj) (upd (upd bl i Bi) j Bj) w') Bj pj):RelB ok0 base (upd (upd pl i pi) j pj) (upd (upd bl i Bi) j Bj) w':=by
 have Ly:∀k C q g,k≠i->k≠j->bl k=some C->C.live=true->pl k=some q->q.has g->w'.heap[g]?=w.heap[g]?/\(Bi.live=true->¬pi.has g)/\(Bj.live=true->¬pj.has g):=by
  intro k C q g EI D4 hC hl hq Bn;have Ao:g<w.heap.size:=Own.lt hr ⟨k,C,q,hC,hl,hq,Bn⟩;have Lw:∀m,k≠m->¬Co pl bl m g:=λm hm ⟨B,p,h1,h2,h3,h4⟩=>hr.sep k m C B q p g hm hC h1 hl h2 hq h3 Bn h4;refine⟨hg.block g Ao (λh=>?_),λtT h=>?_,λAzd h=>?_⟩
  ·rcases Ia g h.symm with h|h
   ·exact Lw i EI h
   ·exact Lw j D4 h
  ·rcases hi g tT h with h|h|h
   ·exact Lw i EI h
   ·exact Lw j D4 h
   ·omega
  ·rcases hj g Azd h with h|h|h
   ·exact Lw i EI h
   ·exact Lw j D4 h
   ·omega
 have Aj:∀k,upd (upd bl i Bi) j Bj k=if k=j then some Bj else if k=i then some Bi else bl k:=λk=>rfl;have Be:∀k,upd (upd pl i pi) j pj k=if k=j then some pj else if k=i then some pi else pl k:=λk=>rfl;refine⟨Df hr.baseLe hs.size,λk C hC=>?_,λk m C D q r g I3 hC hD hlC hlD hq Bv Bn=>?_,λk hk=>?_,hr.glob.out hs.size hs.out⟩
 ·by_cases D4:k=j
  ·subst D4
   simp only[upd,Dn,Af]at hC;subst hC;exact⟨pj,by simp[upd],hBj⟩
  ·by_cases EI:k=i
   ·subst EI
    simp only[upd,D4,Cx,Dn,Af]at hC;subst hC;exact⟨pi,by simp[upd,D4],hBi⟩
   ·simp only[upd,D4,EI,Cx]at hC⊢
    obtain⟨q,hq,hBq⟩:=hr.blks k C hC;refine⟨q,hq,?_⟩;cases hl:C.live with
    |false=>cases C<;>first|exact trivial|simp[Blk.live]at hl
    |true=>exact BRep.mono hs.ext hBq λg Bn=>(Ly k C q g EI D4 hC hl hq Bn).1
 ·rw[Aj]at hC hD
  rw[Be]at hq Bv;by_cases D4:k=j
  ·subst D4
   have Oh:m≠k:=λh=>I3 h.symm;simp only[Dn,Oh,Cx,Af]at hC hD hq Bv;subst hC hq;by_cases Qy:m=i
   ·subst Qy
    simp only[Dn,Af]at hD Bv;subst hD Bv;exact λh=>hd g hlD hlC h Bn
   ·simp only[Qy,Cx]at hD Bv
    exact λh=>(Ly m D r g Qy Oh hD hlD Bv h).2.2 hlC Bn
  ·by_cases EI:k=i
   ·subst EI
    simp only[D4,Cx,Dn,Af]at hC hq;subst hC hq;by_cases Og:m=j
    ·subst Og
     simp only[Dn,Af]at hD Bv;subst hD Bv;exact hd g hlC hlD Bn
    ·have Oh:m≠k:=λh=>I3 h.symm
     simp only[Og,Oh,Cx]at hD Bv;exact λh=>(Ly m D r g Oh Og hD hlD Bv h).2.1 hlC Bn
   ·simp only[D4,EI,Cx]at hC hq
    by_cases Og:m=j
    ·subst Og
     simp only[Dn,Af]at hD Bv;subst hD Bv;exact(Ly k C q g EI D4 hC hlC hq Bn).2.2 hlD
    ·by_cases Qy:m=i
     ·subst Qy
      simp only[Og,Cx,Dn,Af]at hD Bv;subst hD Bv;exact(Ly k C q g EI D4 hC hlC hq Bn).2.1 hlD
     ·simp only[Og,Qy,Cx]at hD Bv
      exact hr.sep k m C D q r g I3 hC hD hlC hlD hq Bv Bn
 ·rw[Aj]at hk
  rw[Be];by_cases D4:k=j
  ·simp[D4]at hk
  ·by_cases EI:k=i
   ·simp[EI]at hk
    split at hk<;>cases hk
   ·simp only[D4,EI,Cx]at hk⊢
    exact hr.fresh k hk
end
end Go.Lift
namespace Go.Lift
open Go.RowKit
def Ir(P:Program)(t:TypeId):Bool:=
 match P.underlying t with
 |some (.struct _)|some (.array _ _)=>true
 |_=>false
def tyOf(P:Program):Nat->TypeId->Option Ty
 |0,_=>none
 |n+1,t=>
  match P.underlying t with
  |some .bool=>some .bool
  |some (.int k)=>some (.int k)
  |some .string=>some .str
  |some (.interface ms)=>bif decide (ms=P.methodsAt t)then some .err else none
  |some (.slice e)=>(tyOf P n e).map .slice
  |some (.struct fs)=>many (fs.toList.map λf=>tyOf P n f.type)
  |some (.array m e)=>many (List.replicate m (tyOf P n e))
  |_=>none
 where
 many:List (Option Ty)->Option Ty
  |[]=>some .unit
  |[t]=>t
  |some t::r=>(many r).map (.prod t)
  |none::_=>none
def zeroC(v:Value):C:=
 match C.ofValue v with
 |some c=>c
 |none=>.junk
def JX(P:Program)(t:TypeId):Option BK:=
 match P.underlying t with
 |some .bool=>some .b
 |some (.int _)=>some .i
 |some .string=>some .s
 |_=>none
def Rr(P:Program):Nat->List Field->Option (List BK)
 |_,[]=>some []
 |i,f::fs=>
  bif f.name != "_"&&Nat.beq f.offset i then
   match JX P f.type,Rr P (i+1) fs with
   |some k,some ks=>some (k::ks)
   |_,_=>none
  else none
def wZ(P:Program)(t:TypeId):Option (List BK):=
 match P.underlying t,P.info? t with
 |some (.struct gs),some i=>
  match Rr P 0 gs.toList with
  |some js=>bif !P.stoodInHeld t&&Nat.beq i.size js.length then some js else none
  |none=>none
 |_,_=>none
def Pi(P:Program):Nat->List Field->Option (List BK)
 |_,[]=>some []
 |i,f::fs=>
  bif f.name != "_"&&Nat.beq f.offset i then
   match JX P f.type with
   |some k=>
    match Pi P (i+1) fs with
    |some ks=>some (k::ks)
    |none=>none
   |none=>
    match wZ P f.type with
    |some js=>
     match Pi P (i+js.length) fs with
     |some ks=>some (js++ks)
     |none=>none
    |none=>none
  else none
def Rs(P:Program)(t:TypeId):Option (List BK):=
 match P.underlying t with
 |some (.struct fs)=>bif P.stoodInHeld t||P.eqGuardType P.depth t then none else Pi P 0 fs.toList
 |some (.array n e)=>
  match JX P e with
  |some k=>bif Nat.beq (P.cellsOf e) 1&&!P.eqGuardType P.depth t then some (List.replicate n k)else none
  |none=>none
 |_=>none
def Wd(P:Program):TypeDesc->List (Nat×Nat×Bool)
 |.struct fs=>fs.toList.map λf=>(f.offset,P.cellsOf f.type,Ir P f.type)
 |_=>[]
def We:TypeDesc->Option TypeId
 |.slice e=>some e
 |.array _ e=>some e
 |_=>none
def lenD:TypeDesc->Option Nat
 |.array n _=>some n
 |_=>none
def Pj:TypeDesc->Option IntKind
 |.int k=>some k
 |_=>none
def Pk(P:Program):TypeDesc->Bool
 |.struct fs=>fs.toList.all λf=>(P.info? f.type).isSome&&(P.underlying f.type).isSome
 |.slice e=>(P.info? e).isSome&&(P.underlying e).isSome
 |.array _ e=>(P.info? e).isSome&&(P.underlying e).isSome
 |_=>true
def mpD:TypeDesc->Option (TypeId×TypeId)
 |.map k v=>some (k,v)
 |_=>none
def Wg:TypeDesc->Bool
 |.string=>true
 |_=>false
def Wh:TypeDesc->Bool
 |.bool=>true
 |_=>false
def dW:TypeDesc->Bool
 |.pointer _=>true
 |_=>false
def Rt:Value->Bool
 |.agg _=>true
 |_=>false
def tiOf(P:Program)(t:TypeId):Option TI:=
 match P.info? t,P.underlying t with
 |some i,some d=>
  match i.zero with
  |some z=>
   bif z.cells.toList.all (·.oneCell')&&(Nat.beq z.cells.toList.length i.size&&(Pk P d&&(Rt z==Ir P t)))then
    some {
     agg:=Ir P t
     size:=i.size
     bytes:=i.bytes
     zero:=z.cells.toList.map zeroC
     flds:=Wd P d
     elem:=We d
     len:=lenD d
     ty:=tyOf P 12 t
     kind:=Pj d
     isBool:=Wh d
     isStr:=Wg d
     eqs:=Rs P t
     mp:=mpD d
     ptr:=dW d}
   else none
  |none=>none
 |_,_=>none
def TOk(P:Program)(T:TypeId->Option TI):Prop:=∀t ti,T t=some ti->tiOf P t=some ti
structure TFacts (P:Program) (t:TypeId) (ti:TI) (i:TypeInfo) (d:TypeDesc) (z:Value):Prop where
 info:P.info? t=some i
 under:P.underlying t=some d
 zero:i.zero=some z
 agg:ti.agg=Ir P t
 size:ti.size=i.size
 bytes:ti.bytes=i.bytes
 zeroC:ti.zero=z.cells.toList.map zeroC
 one:z.cells.toList.all (·.oneCell')=true
 len:z.cells.toList.length=i.size
 known:Pk P d=true
 flds:ti.flds=Wd P d
 elem:ti.elem=We d
 alen:ti.len=lenD d
 kind:ti.kind=Pj d
 isBool:ti.isBool=Wh d
 isStr:ti.isStr=Wg d
 eqs:ti.eqs=Rs P t
 mp:ti.mp=mpD d
 ptr:ti.ptr=dW d
 ty:ti.ty=tyOf P 12 t
 zagg:Rt z=Ir P t
theorem TOk.facts{P:Program}{T:TypeId->Option TI}(h:TOk P T){t:TypeId}{ti:TI}(ht:T t=some ti):∃i d z,TFacts P t ti i d z:=by
 have h1:=h t ti ht;unfold tiOf at h1;split at h1
 ·rename_i i d hi hd
  split at h1
  ·rename_i z hz
   cases hb:(z.cells.toList.all (·.oneCell')&&(Nat.beq z.cells.toList.length i.size&&(Pk P d&&(Rt z==Ir P t))))with
   |false=>rw[hb]at h1;cases h1
   |true=>simp only[hb,Am,Af]at h1;subst h1;simp only[C5]at hb;exact⟨i,d,z,hi,hd,hz,rfl,rfl,rfl,rfl,hb.1,As hb.2.1,hb.2.2.1,rfl,rfl,rfl,rfl,rfl,rfl,rfl,rfl,rfl,rfl,by simpa using hb.2.2.2⟩
  ·cases h1
 ·cases h1
theorem C.ofValue_rep{E:Env}{v:Value}{c:C}(h:C.ofValue v=some c):CRep E c v:=by
 unfold C.ofValue at h
 split at h<;>first
  |(simp only[Af]at h;subst h;rfl)
  |cases h
theorem Akb{E:Env}{v:Value}(h:v.oneCell'=true):CRep E (zeroC v) v:=by
 unfold zeroC;cases hc:C.ofValue v with
 |none=>exact h
 |some c=>exact C.ofValue_rep hc
theorem LP{E:Env}:∀{vs:List Value},vs.all (·.oneCell')=true->CReps E (vs.map zeroC) vs
 |[],_=>rfl
 |v::vs,h=>by simp only[VM,C5]at h;exact⟨v,vs,rfl,Akb h.1,LP h.2⟩
theorem C.ofValues_rep{E:Env}:∀{vs:List Value}{cs:List C},C.ofValues vs=some cs->CReps E cs vs
 |[],cs,h=>by simp only[C.ofValues,Af]at h;subst h;rfl
 |v::vs,cs,h=>by
  simp only[C.ofValues]at h;split at h
  ·rename_i x xs hx Ae
   simp only[Af]at h;subst h;exact⟨v,vs,rfl,C.ofValue_rep hx,C.ofValues_rep Ae⟩
  ·cases h
theorem V.ofValue_rep{E:Env}(v:Value):VRep E (V.ofValue v) v:=by
 unfold V.ofValue;split
 ·rename_i cs
  split
  ·rename_i l hl
   exact⟨cs.toList,C.ofValues_rep hl,by simp⟩
  ·exact trivial
 ·split
  ·rename_i x hx
   exact C.ofValue_rep hx
  ·exact trivial
section
variable{E:Env}
theorem CReps.append:∀{cs ds:List C}{vs us:List Value},CReps E cs vs->CReps E ds us->CReps E (cs++ds) (vs++us)
 |[],_,_,_,h,k=>by simp only[CReps]at h;subst h;simpa using k
 |_::_,_,_,_,⟨v,Ap,e,h,ht⟩,k=>⟨v,Ap++_,by rw[e];rfl,h,CReps.append ht k⟩
theorem CReps.drop:∀{cs:List C}{vs:List Value}(n:Nat),CReps E cs vs->CReps E (cs.drop n) (vs.drop n)
 |[],_,n,h=>by simp only[CReps]at h;subst h;simp[CReps]
 |_::_,_,0,h=>by simpa using h
 |_::_,_,n+1,⟨v,Ap,e,h,ht⟩=>by subst e;simpa using CReps.drop n ht
theorem CReps.take:∀{cs:List C}{vs:List Value}(n:Nat),CReps E cs vs->CReps E (cs.take n) (vs.take n)
 |[],_,n,h=>by simp only[CReps]at h;subst h;simp[CReps]
 |_::_,_,0,h=>by simp[CReps]
 |_::_,_,n+1,⟨v,Ap,e,h,ht⟩=>by subst e;exact⟨v,Ap.take n,by simp,h,CReps.take n ht⟩
theorem CReps.split:∀{cs ds:List C}{vs:List Value},CReps E (cs++ds) vs->∃us ws,vs=us++ws/\CReps E cs us/\CReps E ds ws
 |[],_,vs,h=>⟨[],vs,rfl,rfl,h⟩
 |_::cs,_,_,⟨v,Ap,e,h,ht⟩=>by obtain⟨us,ws,e',h1,h2⟩:=CReps.split (cs:=cs) ht;exact⟨v::us,ws,by rw[e,e'];rfl,⟨v,us,rfl,h,h1⟩,h2⟩
theorem CReps.oneCell:∀{cs:List C}{vs:List Value},CReps E cs vs->∀v∈vs,v.oneCell'=true
 |[],_,h,v,hv=>by simp only[CReps]at h;subst h;simp at hv
 |_::_,_,⟨u,Ap,e,h,ht⟩,v,hv=>by
  subst e;rcases Bf.1 hv with rfl|hv
  ·exact CRep.oneCell h
  ·exact CReps.oneCell ht v hv
theorem VRep.cells_of{x:V}{cs:List C}{v:Value}(hx:x.cells=some cs)(h:VRep E x v):CReps E cs v.cells.toList:=by
 cases x with
 |c c=>simp only[V.cells,Af]at hx;subst hx;have h1:=CRep.oneCell h;refine⟨v,[],?_,h,rfl⟩;cases v<;>first|rfl|simp[Value.oneCell']at h1
 |agg ds=>simp only[V.cells,Af]at hx;subst hx;obtain⟨vs,h1,h2⟩:=h;simp only[Dn]at h2;subst h2;simpa [Value.cells]using h1
 |junk=>simp[V.cells]at hx
 |tup _=>simp[V.cells]at hx
 |eptr _ _ _ _=>simp[V.cells]at hx
 |lptr _ _ _=>simp[V.cells]at hx
 |arr _ _ _ _=>simp[V.cells]at hx
 |mcell _ _ _=>simp[V.cells]at hx
 |mptr _ _ _ _ _=>simp[V.cells]at hx
theorem VRep.mk{agg:Bool}{cs:List C}{v:Value}(h:SRep E agg cs v):VRep E (V.mk agg cs) v:=by
 unfold V.mk;cases agg with
 |true=>exact h
 |false=>
  simp only[Cj];split
  ·rename_i x
   obtain⟨vs,h1,h2⟩:=h;simp only[HE,Cx]at h2;subst h2;obtain⟨u,us,e,h3,h4⟩:=h1;simp only[De]at e;rw[e.1];exact h3
  ·exact trivial
theorem Hv:∀{τ:Ty}{x:τ.den}{vs:List Value},DRep E.w E.ok τ x vs->CReps E (cells τ x) vs
 |.bool,_,_,h=>⟨_,[],h,rfl,rfl⟩
 |.int _,_,_,h=>⟨_,[],h,rfl,rfl⟩
 |.str,_,_,h=>⟨_,[],h,rfl,rfl⟩
 |.err,_,_,h=>by simp only[DRep]at h;obtain⟨v,e,hv⟩:=h;exact⟨v,[],e,hv,rfl⟩
 |.unit,_,_,h=>h
 |.prod a b,_,_,h=>by simp only[DRep]at h;obtain⟨u,v,e,h1,h2⟩:=h;rw[e];exact(Hv h1).append (Hv h2)
 |.slice e,l,vs,h=>by have h':=h;simp only[DRep]at h';obtain⟨A,c,xs,e1,_⟩:=h';subst e1;exact⟨_,[],rfl,h,rfl⟩
theorem dX:∀(τ:Ty)(x:τ.den),(cells τ x).length=τ.size
 |.bool,_=>rfl
 |.int _,_=>rfl
 |.str,_=>rfl
 |.err,_=>rfl
 |.unit,_=>rfl
 |.prod a b,x=>by simp[cells,Ty.size,dX a,dX b]
 |.slice _,_=>rfl
theorem MY{cs:List C}{vs:List Value}{o n:Nat}{r:List C}(h:CReps E cs vs)(hs:sub cs o n=some r):CReps E r ((vs.drop o).take n)/\((vs.drop o).take n).length=n/\o+n<=vs.length:=by
 unfold sub at hs;cases hb:Nat.ble (o+n) cs.length with
 |false=>simp[hb]at hs
 |true=>simp only[hb,Am,Af]at hs;subst hs;have BD:o+n<=cs.length:=Hs hb;have hl:=h.length;exact⟨(h.drop o).take n,by simp;omega,by omega⟩
theorem Ru:∀{cs:List C}{vs:List Value}{o:Nat}{new:List C}{us:List Value}{r:List C},CReps E cs vs->CReps E new us->over cs o new=some r->CReps E r (vs.take o++us++vs.drop (o+us.length))/\o+us.length<=vs.length
 |cs,vs,0,new,us,r,h,hn,ho=>by
  unfold over at ho;cases hb:Nat.ble new.length cs.length with
  |false=>simp[hb]at ho
  |true=>simp only[hb,Am,Af]at ho;subst ho;have BD:new.length<=cs.length:=Hs hb;have h1:=h.length;have h2:=hn.length;refine⟨?_,by omega⟩;simp only[List.take_zero,Gi,DL];rw[h2];exact hn.append (h.drop _)
 |[],_,o+1,_,_,_,_,_,ho=>by simp[over]at ho
 |c::cs,vs,o+1,new,us,r,⟨v,Ap,e,h,ht⟩,hn,ho=>by
  simp only[over]at ho;split at ho
  ·rename_i r' Bv
   simp only[Af]at ho;subst ho e;obtain⟨h1,h2⟩:=Ru ht hn Bv;refine⟨⟨v,_,?_,h,h1⟩,by simp;omega⟩;have:o+1+us.length=(o+us.length)+1:=by omega
   rw[this];simp
  ·cases ho
end
end Go.Lift
namespace Go.Lift
open Go.RowKit
theorem andB{a b:Bool}(h:(a&&b)=true):a=true/\b=true:=by simpa using h
theorem D2{β:Type}{c:Bool}{x:Option β}{r:β}(h:Dr c x=some r):c=true/\x=some r:=by
 cases c with
 |false=>cases h
 |true=>exact⟨rfl,h⟩
structure Rows (E:Env) (blp:Nat->Option Blk) (okp:Nat->Prop) (ids:List Nat):Prop where
 ok:∀g,E.ok g->okp g
 row:∀b∈ids,∀t e ver l,blp b=some (.row t e ver l)->E.bl b=some (.row t e ver l)/\∀sv g,E.pl b=some (.row sv [])->sv.ownBlock=some g->okp g
 mat:∀b∈ids,∀t et e ver Ag hole l,blp b=some (.mat t et e ver Ag hole l)->E.bl b=some (.mat t et e ver Ag hole l)/\∀sv Ab g,E.pl b=some (.row sv Ab)->(Pl.row sv Ab).has g->okp g
 tree:∀b∈ids,∀t e ver Ag h l,blp b=some (.tree t e ver Ag h l)->E.bl b=some (.tree t e ver Ag h l)/\∀sv Ab g,E.pl b=some (.row sv Ab)->(Pl.row sv Ab).has g->okp g
theorem DList.take{w:World}{ok:Nat->Prop}{e:Ty}:∀{l:List e.den}{xs:List Value}(n:Nat),DList (λx u=>DRep w ok e x u) l xs->DList (λx u=>DRep w ok e x u) (l.take n) (xs.take (n*e.size))
 |[],_,n,h=>by simp only[DList]at h;subst h;simp[DList]
 |_::_,_,0,h=>by simp[DList]
 |x::l,xs,n+1,⟨u,v,e1,hr,ht⟩=>by refine⟨u,v.take (n*e.size),?_,hr,DList.take n ht⟩;have hu:=hr.length;rw[e1,HG,VE,G0 (by omega)];congr 2;omega
theorem DList.drop{w:World}{ok:Nat->Prop}{e:Ty}:∀{l:List e.den}{xs:List Value}(n:Nat),DList (λx u=>DRep w ok e x u) l xs->DList (λx u=>DRep w ok e x u) (l.drop n) (xs.drop (n*e.size))
 |[],_,n,h=>by simp only[DList]at h;subst h;simp[DList]
 |_::_,_,0,h=>by simpa using h
 |x::l,xs,n+1,⟨u,v,e1,hr,ht⟩=>by
  have hu:=hr.length;have h2:=DList.drop n ht
  have e2:xs.drop ((n+1)*e.size)=v.drop (n*e.size):=by rw[e1,HG,QU,OH (l:=u) (by omega),Gi];congr 1;omega
  rw[e2];simpa using h2
theorem Wi{c:C}{cs:List C}{b:Nat}(h:b∈Ct cs):b∈Ct (c::cs):=by cases c<;>simp_all [Ct]
theorem Rows.tail{E:Env}{blp:Nat->Option Blk}{okp:Nat->Prop}{c:C}{cs:List C}(h:Rows E blp okp (Ct (c::cs))):Rows E blp okp (Ct cs):=
 ⟨h.ok,λb hb=>h.row b (Wi hb),λb hb=>h.mat b (Wi hb),λb hb=>h.tree b (Wi hb)⟩
theorem Rows.sub{E:Env}{blp:Nat->Option Blk}{okp:Nat->Prop}{a b:List Nat}(h:Rows E blp okp a)(hs:∀x∈b,x∈a):Rows E blp okp b:=⟨h.ok,λx hx=>h.row x (hs x hx),λx hx=>h.mat x (hs x hx),λx hx=>h.tree x (hs x hx)⟩
theorem Rv:∀(cs ds:List C),Ct (cs++ds)=Ct cs++Ct ds
 |[],_=>rfl
 |c::cs,ds=>by cases c<;>simp[Ct,Rv cs ds]
def DN(E:Env):Prop:=∀i B,E.bl i=some B->∃p,E.pl i=some p/\BRep E B p
theorem Wj{E:Env}{blp:Nat->Option Blk}(hb:DN E){b ver:Nat}{e:Ty}{l:List e.den}(AO:∀t e ver l,blp b=some (.row t e ver l)->E.bl b=some (.row t e ver l))(h:HI blp b ver e=some l):∃t sv xs,blp b=some (.row t e ver l)/\E.bl b=some (.row t e ver l)/\E.pl b=some (.row sv [])/\DList (λx u=>DRep E.w E.ok e x u) l xs/\E.w.ownsRow E.base t e.size sv l.length xs:=by
 unfold HI at h;split at h
 ·rename_i t e' ver' l' Ur
  have Aj:=AO _ _ _ _ Ur;cases AP:Nat.beq ver ver' with
  |false=>rw[AP]at h;cases h
  |true=>
   have:ver=ver':=As AP;subst this;simp only[AP,Am]at h;split at h
   ·rename_i he
    subst he;simp only[Af]at h;subst h;obtain⟨p,Dh,hB⟩:=hb b _ Aj;cases p with
    |cells _=>exact hB.elim
    |row sv Ab=>obtain⟨h0,xs,hd,ho⟩:=hB;subst h0;exact⟨t,sv,xs,Ur,Aj,Dh,hd,ho⟩
   ·cases h
 ·cases h
theorem dY{E:Env}{blp:Nat->Option Blk}(hb:DN E){b ver:Nat}{e:Ty}{l:List e.den}(AO:∀t e ver l,blp b=some (.row t e ver l)->E.bl b=some (.row t e ver l))(h:HI blp b ver e=some l){v:Value}(hv:CRep E (.row b ver) v):∃t sv xs,E.bl b=some (.row t e ver l)/\E.pl b=some (.row sv [])/\v=sv/\DList (λx u=>DRep E.w E.ok e x u) l xs/\E.w.ownsRow E.base t e.size sv l.length xs:=by
 obtain⟨t,sv,xs,_,Aj,hp,hd,ho⟩:=Wj hb AO h;obtain⟨h1,sv2,JH,CB,AT⟩:=hv;rw[hp]at CB;injection CB with CB;injection CB with CB _;subst CB;exact⟨t,sv,xs,Aj,hp,(AT t e ver l Aj).2 rfl,hd,ho⟩
theorem dZ{w:World}{okI:Nat->Prop}{base:Nat}{t:TypeId}{e:Ty}{l:List e.den}{sv v:Value}{xs:List Value}{i j:Nat}(Db:i<=j/\j<=l.length/\∃A A' n c,sv=.slice A n c/\v=.slice A' (j-i) (c-i)/\(i<j->A'=A.map (·.add (i*e.size)))/\(i=0->A'=A))(hd:DList (λx u=>DRep w okI e x u) l xs)(ho:w.ownsRow base t e.size sv l.length xs):∃A c ys,v=.slice A ((l.take j).drop i).length c/\((l.take j).drop i).length<=c/\c<=maxLen/\DList (λx u=>DRep w okI e x u) ((l.take j).drop i) ys/\∀k u,ys[k]?=some u->∃ad,A=some ad/\sv.ownBlock=some ad.block/\w.cell? (ad.add k)=some u:=by
 obtain⟨h1,h2,A,A',n,c,Aq,hv,hA,_⟩:=Db;have Bb:((l.take j).drop i).length=j-i:=by simp;omega
 have Ak:=ho
 have hc:l.length<=c/\c<=maxLen:=by
  rcases ho.2 with⟨e1,hn⟩|⟨g,cap,AQ,e1,BR,hh,ES,EQ,CH,If⟩
  ·rw[Aq]at e1
   injection e1 with _ _ e3;subst e3;exact⟨by omega,by simp[maxLen]⟩
  ·rw[Aq]at e1
   injection e1 with _ _ e3;subst e3;exact⟨ES,EQ⟩
 refine⟨A',c-i,(xs.take (j*e.size)).drop (i*e.size),by rw[hv,Bb],by rw[Bb];omega,by omega,(hd.take j).drop i,λk u hk=>?_⟩;rw[OM,LH]at hk;split at hk
 ·rename_i Ao
  have Db:i<j:=by
   rcases QX i j with h|h
   ·exact h
   ·have:j*e.size<=i*e.size:=KG _ h
    omega
  rcases ho.2 with⟨e1,hn⟩|⟨g,cap,AQ,e1,BR,hh,ES,EQ,CH,If⟩
  ·have:l=[]:=Ik hn
   subst this;simp at h2;omega
  ·rw[Aq]at e1
   injection e1 with e1 _ _;subst e1;refine⟨(⟨g,0,none⟩:Addr).add (i*e.size),hA Db,by rw[Aq,KK];rfl,?_⟩;rw[LM];exact Ak.cells (g:=g) (by rw[Aq];rfl) _ _ hk
 ·cases hk
theorem x5{E:Env}{okp:Nat->Prop}(Dg:∀g,E.ok g->okp g){t:TypeId}{e:Ty}{l:List e.den}{sv:Value}{xs:List Value}(hg:∀g,sv.ownBlock=some g->okp g)(hd:DList (λx u=>DRep E.w E.ok e x u) l xs)(ho:E.w.ownsRow E.base t e.size sv l.length xs):DRep E.w okp (.slice e) l [sv]:=by
 simp only[DRep];have Cs:DList (λx u=>DRep E.w okp e x u) l xs:=hd.mono λx u hu=>hu.mono (λg h1 _=>⟨Dg g h1,rfl⟩);have Ak:=ho;rcases ho.2 with⟨rfl,hn⟩|⟨g,cap,AQ,rfl,BR,hh,ES,EQ,CH,If⟩
 ·have hl:l=[]:=Ik hn
  subst hl;simp only[DList]at Cs;subst Cs;exact⟨none,0,[],rfl,by simp,by simp[maxLen],rfl,by simp⟩
 ·refine⟨some ⟨g,0,none⟩,cap,xs,rfl,ES,EQ,Cs,λj u hj=>⟨_,rfl,hg g rfl,Ak.cells (g:=g) rfl j u hj⟩⟩
theorem Akc{blp:Nat->Option Blk}{b ver:Nat}{e:Ty}{l:List e.den}(h:Ra blp b ver e=some l):∃t o Ag,∃(l':List o.ty.den)(he:o.ty=e),blp b=some (.tree t o ver Ag none l')/\l=he▸l':=by
 unfold Ra at h;split at h
 ·rename_i t o ver' Ag l' Aj
  cases hv:Nat.beq ver ver' with
  |false=>rw[hv]at h;cases h
  |true=>
   have:=As hv;subst this;rw[hv,Am]at h;split at h
   ·rename_i he
    simp only[Af]at h;exact⟨t,o,Ag,l',he,Aj,h.symm⟩
   ·cases h
 ·cases h
theorem Wk{E:Env}(hb:DN E){b ver:Nat}{t:TypeId}{o:OT}{Ag:Nat}{h:Option Path}{l:List o.ty.den}(Aj:E.bl b=some (.tree t o ver Ag h l)){v:Value}(hv:CRep E (.trow b ver []) v):∃Ab,E.pl b=some (.row v Ab)/\TreeOk E t o h l v Ab:=by
 obtain⟨_,sv,Ab,Be,AT⟩:=hv;obtain⟨p,hp,hB⟩:=hb b _ Aj;rw[Be]at hp;injection hp with hp;subst hp;have hT:TreeOk E t o h l sv Ab:=hB;obtain⟨n,_,h2⟩:=(AT _ _ _ _ _ _ Aj).2 rfl (λq hq I5=>hT.top (by rw[hq,List.prefix_nil.1 I5]));have h3:sv=v:=by simpa [nix]using h2
 subst h3;exact⟨Ab,Be,hT⟩
theorem x6{E:Env}{blp:Nat->Option Blk}{okp:Nat->Prop}(Dg:∀g,E.ok g->okp g)(hb:DN E){b ver:Nat}{e:Ty}{l:List e.den}(hr:∀t e ver Ag h l,blp b=some (.tree t e ver Ag h l)->E.bl b=some (.tree t e ver Ag h l)/\∀sv Ab g,E.pl b=some (.row sv Ab)->(Pl.row sv Ab).has g->okp g)(h:Ra blp b ver e=some l){v:Value}(hv:CRep E (.trow b ver []) v):DRep E.w okp (.slice e) l [v]:=by
 obtain⟨t,o,Ag,l',he,Aj,rfl⟩:=Akc h;subst he;obtain⟨DC,Ak⟩:=hr _ _ _ _ _ _ Aj;obtain⟨Ab,Be,hT⟩:=Wk hb DC hv;obtain⟨MA,F,h1,h2,_⟩:=hT.rep;exact Owns.data (o:=.r t o) Dg (λs hs g hg=>Ak _ _ g Be (Placed.has h2 hs hg)) h1
theorem MZ{E:Env}{blp:Nat->Option Blk}{okp:Nat->Prop}(hb:DN E):∀{τ:Ty}{cs:List C}{vs:List Value}{x:τ.den}{r:List C},Rows E blp okp (Ct cs)->CReps E cs vs->pack blp τ cs=some (x,r)->∃us ws,vs=us++ws/\DRep E.w okp τ x us/\CReps E r ws/\(∃ds,cs=ds++r)
 |.bool,cs,vs,x,r,hr,h,hp=>by
  cases cs with
  |nil=>simp[pack]at hp
  |cons c cs=>
   cases c<;>simp only[pack]at hp<;>try(cases hp;done)
   simp only[Af,BC]at hp;obtain⟨El,CB⟩:=hp;subst El CB;obtain⟨v,Ap,e,h1,h2⟩:=h;simp only[CRep]at h1;subst e h1;exact⟨[_],Ap,rfl,rfl,h2,⟨[_],rfl⟩⟩
 |.int k,cs,vs,x,r,hr,h,hp=>by
  cases cs with
  |nil=>simp[pack]at hp
  |cons c cs=>
   cases c<;>simp only[pack]at hp<;>try(cases hp;done)
   rename_i k' n;split at hp
   ·rename_i hk
    subst hk;simp only[Af,BC]at hp;obtain⟨El,CB⟩:=hp;subst El CB;obtain⟨v,Ap,e,h1,h2⟩:=h;simp only[CRep]at h1;subst e h1;exact⟨[_],Ap,rfl,rfl,h2,⟨[_],rfl⟩⟩
   ·cases hp
 |.err,cs,vs,x,r,hr,h,hp=>by
  cases cs with
  |nil=>simp[pack]at hp
  |cons c cs=>
   cases c<;>simp only[pack]at hp<;>try(cases hp;done)
   simp only[Af,BC]at hp;obtain⟨El,CB⟩:=hp;subst El CB;obtain⟨v,Ap,e,h1,h2⟩:=h;subst e;exact⟨[v],Ap,rfl,⟨v,rfl,h1⟩,h2,⟨[_],rfl⟩⟩
 |.str,cs,vs,x,r,hr,h,hp=>by
  cases cs with
  |nil=>simp[pack]at hp
  |cons c cs=>
   cases c<;>simp only[pack]at hp<;>try(cases hp;done)
   simp only[Af,BC]at hp;obtain⟨El,CB⟩:=hp;subst El CB;obtain⟨v,Ap,e,h1,h2⟩:=h;simp only[CRep]at h1;subst e h1;exact⟨[_],Ap,rfl,rfl,h2,⟨[_],rfl⟩⟩
 |.unit,cs,vs,x,r,hr,h,hp=>by simp only[pack,Af,BC]at hp;obtain⟨_,CB⟩:=hp;subst CB;exact⟨[],vs,rfl,rfl,h,⟨[],rfl⟩⟩
 |.prod a b,cs,vs,x,r,hr,h,hp=>by
  simp only[pack]at hp;split at hp
  ·cases hp
  ·rename_i y r1 h1
   split at hp
   ·cases hp
   ·rename_i z r2 h2
    simp only[Af,BC]at hp;obtain⟨El,CB⟩:=hp;subst El CB;obtain⟨us,ws,e1,d1,c1,ds1,CQ⟩:=MZ hb hr h h1;have L0:Rows E blp okp (Ct r1):=hr.sub λb Dv=>by rw[CQ,Rv];exact D7 _ Dv
    obtain⟨us2,ws2,e2,d2,c2,ds2,Ch⟩:=MZ hb L0 c1 h2;refine⟨us++us2,ws2,by rw[e1,e2,Cw],?_,c2,⟨ds1++ds2,by rw[CQ,Ch,Cw]⟩⟩;simp only[DRep];exact⟨us,us2,rfl,d1,d2⟩
 |.slice e,cs,vs,x,r,hr,h,hp=>by
  cases cs with
  |nil=>simp[pack]at hp
  |cons c cs=>
   obtain⟨v,Ap,e1,h1,h2⟩:=h;subst e1;rcases Classical.em (∃b ver p,c=.trow b ver p)with⟨b,ver,p,rfl⟩|Oj
   ·cases p with
    |cons _ _=>simp[pack]at hp
    |nil=>
     simp only[pack]at hp;split at hp
     ·cases hp
     ·rename_i l hl
      simp only[Af,BC]at hp;obtain⟨El,CB⟩:=hp;subst El CB;exact⟨[v],Ap,rfl,x6 hr.ok hb (hr.tree b (by simp[Ct])) hl h1,h2,⟨[_],rfl⟩⟩
   cases c<;>first|exact absurd ⟨_,_,_,rfl⟩ Oj|skip
   all_goals simp only[pack]at hp
   all_goals try(cases hp;done)
   ·rename_i e' l
    split at hp
    ·rename_i he
     subst he;simp only[Af,BC]at hp;obtain⟨El,CB⟩:=hp;subst El CB;exact⟨[v],Ap,rfl,DRep.mono (τ:=.slice _) (λg hg _=>⟨hr.ok g hg,rfl⟩) h1,h2,⟨[_],rfl⟩⟩
    ·cases hp
   ·simp only[Af,BC]at hp
    obtain⟨El,CB⟩:=hp;subst El CB;simp only[CRep]at h1;subst h1;refine⟨[_],Ap,rfl,?_,h2,⟨[_],rfl⟩⟩;simp only[DRep];exact⟨none,0,[],rfl,by simp,by simp[maxLen],rfl,by simp⟩
   ·rename_i b ver
    split at hp
    ·cases hp
    ·rename_i l hl
     simp only[Af,BC]at hp;obtain⟨El,CB⟩:=hp;subst El CB;have CX:b∈Ct (C.row b ver::cs):=by simp[Ct]
     obtain⟨t,sv,xs,Aj,Be,rfl,hd,ho⟩:=dY hb (λt e ver l hB=>(hr.row b CX t e ver l hB).1) hl h1
     have Ayy:∃t e ver l,blp b=some (.row t e ver l):=by
      unfold HI at hl;split at hl
      ·rename_i h0;exact⟨_,_,_,_,h0⟩
      ·cases hl
     obtain⟨t',e',ver',l',hB⟩:=Ayy;exact⟨[v],Ap,rfl,x5 hr.ok (λg hg=>(hr.row b CX t' e' ver' l' hB).2 v g Be hg) hd ho,h2,⟨[_],rfl⟩⟩
   ·rename_i b ver i j
    split at hp
    ·cases hp
    ·rename_i l hl
     simp only[Af,BC]at hp;obtain⟨El,CB⟩:=hp;subst El CB;have CX:b∈Ct (C.sub b ver i j::cs):=by simp[Ct]
     obtain⟨t,sv,xs,hB,Aj,Be,hd,ho⟩:=Wj hb (λt e ver l hB=>(hr.row b CX t e ver l hB).1) hl;obtain⟨_,sv2,JH,F6,AT⟩:=h1;rw[Be]at F6;injection F6 with F6;injection F6 with F6 _;subst F6;obtain⟨A,c,ys,q1,q2,q3,q4,q5⟩:=dZ ((AT _ _ _ _ Aj).2 rfl) hd ho;refine⟨[v],Ap,rfl,?_,h2,⟨[_],rfl⟩⟩;simp only[DRep];refine⟨A,c,ys,by rw[q1],q2,q3,q4.mono λx u hu=>hu.mono (λg h1 _=>⟨hr.ok g h1,rfl⟩),λk u hk=>?_⟩;obtain⟨ad,r1,r2,r3⟩:=q5 k u hk;exact⟨ad,r1,(hr.row b CX _ _ _ _ hB).2 sv _ Be r2,r3⟩
theorem Na{E:Env}{blp:Nat->Option Blk}{okp:Nat->Prop}(hb:DN E){τ:Ty}{cs:List C}{vs:List Value}{x:τ.den}(hr:Rows E blp okp (Ct cs))(h:CReps E cs vs)(hp:JQ blp τ cs=some x):DRep E.w okp τ x vs:=by
 unfold JQ at hp;split at hp
 ·rename_i y hy
  simp only[Af]at hp;subst hp;obtain⟨us,ws,e,d,c,_⟩:=MZ hb hr h hy;simp only[CReps]at c;subst c;simpa [e]using d
 ·cases hp
theorem Wl{E:Env}{blp:Nat->Option Blk}{okp:Nat->Prop}(hb:DN E){e:Ty}:∀{n:Nat}{cs:List C}{vs:List Value}{l:List e.den},Rows E blp okp (Ct cs)->CReps E cs vs->IM blp e n cs=some l->DList (λx u=>DRep E.w okp e x u) l vs/\l.length=n
 |0,[],vs,l,_,h,hp=>by simp only[IM,Af]at hp;subst hp;simp only[CReps]at h;exact⟨h,rfl⟩
 |0,_::_,_,_,_,_,hp=>by simp[IM]at hp
 |n+1,cs,vs,l,hr,h,hp=>by
  simp only[IM]at hp;split at hp
  ·rename_i x r hx
   split at hp
   ·rename_i l' Gt
    simp only[Af]at hp;subst hp;obtain⟨us,ws,e1,d1,c1,ds,hc⟩:=MZ hb hr h hx;have L0:Rows E blp okp (Ct r):=hr.sub λb Dv=>by rw[hc,Rv];exact D7 _ Dv
    obtain⟨h1,h2⟩:=Wl hb L0 c1 Gt;exact⟨⟨us,ws,e1,d1,h1⟩,by simp[h2]⟩
   ·cases hp
  ·cases hp
theorem RelB.blksOk{P:Program}{ok0:OK0 P}{base:Nat}{pl:Nat->Option Pl}{bl:Nat->Option Blk}{w:World}(h:RelB ok0 base pl bl w):DN (Al ok0 base pl bl w):=h.blks
theorem Rows.none(E:Env)(ids:List Nat):Rows E (λ_=>none) E.ok ids:=⟨λ_ h=>h,λ_ _ _ _ _ _ h=>(by cases h),λ_ _ _ _ _ _ _ _ _ h=>(by cases h),λ_ _ _ _ _ _ _ _ h=>(by cases h)⟩
section
variable{P:Program}{o:Oper}{ρ:Operand->V}{bl:Nat->Option Blk}{β:Type}{r:β}
def Sound(P:Program)(o:Oper)(ρ:Operand->V)(bl:Nat->Option Blk)(kk:K β)(r:β):Prop:=
 ∃v rd wr,kk v rd wr=some r/\∀Aa,(∀b∈rd,Aa b=bl b)->OpOk P o ρ Aa v wr
theorem Sound.pure{kk:K β}{v:V}{rd:List Nat}(hk:kk v rd []=some r)(h:∀Aa,(∀b∈rd,Aa b=bl b)->∀(ok0:OK0 P)(base:Nat)(pl:Nat->Option Pl)(w:World)(a:Act),RelB ok0 base pl Aa w->(∀x∈o.op.operands,VRep (Al ok0 base pl Aa w) (ρ x) (a.eval x))->∃val,(execOp a.eval o).run P w=.ok (.value val) w/\VRep (Al ok0 base pl Aa w) v val):Sound P o ρ bl kk r:=
 ⟨v,rd,[],hk,λAa hb=>OpOk.of_pure (h Aa hb)⟩
theorem Wm{kk:K β}{x:Operand}(ho:o.op=.move x\/o.op=.assign x)(hk:kk (ρ x) [] []=some r):Sound P o ρ bl kk r:=by
 refine Sound.pure hk λAa _ ok0 base pl w a hr hx=>⟨a.eval x,?_,hx x ?_⟩
 ·rcases ho with ho|ho<;>simp[execOp,ho]
 ·rcases ho with ho|ho<;>simp[ho,Op.operands]
theorem Akd{kk:K β}{c a b:Operand}(ho:o.op=.pick c a b){g:Bool}(hc:ρ c=.c (.bool g))(hk:cond g (kk (ρ a) [] []) (kk (ρ b) [] [])=some r):Sound P o ρ bl kk r:=by
 have AA:∀(Aa:Nat->Option Blk)(ok0:OK0 P)(base:Nat)(pl:Nat->Option Pl)(w:World)(act:Act),(∀x∈o.op.operands,VRep (Al ok0 base pl Aa w) (ρ x) (act.eval x))->
   (execOp act.eval o).run P w=.ok (.value (if g then act.eval a else act.eval b)) w:=by
  intro Aa ok0 base pl w act hx;have h1:=hx c (by simp[ho,Op.operands]);rw[hc]at h1;have h2:act.eval c=.bool g:=h1;simp[execOp,ho,h2,asBool]
 cases g with
 |true=>exact Sound.pure hk λAa _ ok0 base pl w act hr hx=>⟨_,AA Aa ok0 base pl w act hx,by simpa using hx a (by simp[ho,Op.operands])⟩
 |false=>exact Sound.pure hk λAa _ ok0 base pl w act hr hx=>⟨_,AA Aa ok0 base pl w act hx,by simpa using hx b (by simp[ho,Op.operands])⟩
theorem x7{kk:K β}{nx:Nat}{t:TypeId}{cs:List C}(hk:Pf bl nx t cs kk=some r)(AA:∀(Aa:Nat->Option Blk)(ok0:OK0 P)(base:Nat)(pl:Nat->Option Pl)(w:World)(a:Act),RelB ok0 base pl Aa w->(∀x∈o.op.operands,VRep (Al ok0 base pl Aa w) (ρ x) (a.eval x))->∃vs:List Value,(execOp a.eval o).run P w=.ok (.value (.pointer (some ⟨w.heap.size,0,none⟩))) (w.alloc (.cells vs.toArray t))/\CReps (Al ok0 base pl Aa w) cs vs):Sound P o ρ bl kk r:=by
 unfold Pf at hk;split at hk
 ·rename_i hn
  refine⟨_,_,_,hk,λAa hb=>?_⟩;have CS:Aa nx=none:=(hb nx (by simp)).trans hn;intro ok0 base pl w a hr hx K Q hK;obtain⟨vs,h1,h2⟩:=AA Aa ok0 base pl w a hr hx;have hg:w.grownBy (w.alloc (.cells vs.toArray t)) none:=World.grownBy_alloc w _ none;have hp:∀g,(Pl.cells w.heap.size).has g->w.heap.size<=g:=λg Fm=>JP Fm;have hs:Step pl Aa w (upd pl nx (.cells w.heap.size)) (upd Aa nx (.cells t cs)) (w.alloc (.cells vs.toArray t)):=Step.new hr CS hg hp;refine Hc h1 (hK _ (upd pl nx (.cells w.heap.size)) _ ?_ hs ?_)
  ·exact RelB.new hr CS hg hp ⟨vs,heap_alloc_new w _,h2.mono hs.ext⟩
  ·exact⟨w.heap.size,by simp[Al,upd],rfl⟩
 ·cases hk
theorem Ake{T:TypeId->Option TI}(hT:TOk P T){kk:K β}{nx:Nat}{t:TypeId}(ho:o.op=.alloc t){ti:TI}(ht:T t=some ti)(hk:Pf bl nx t ti.zero kk=some r):Sound P o ρ bl kk r:=by
 obtain⟨i,d,z,f⟩:=hT.facts ht;refine x7 hk λAa ok0 base pl w a hr hx=>⟨z.cells.toList,?_,?_⟩
 ·simp[execOp,ho,Instr.alloc,zeroValue,typeInfo,f.info,f.zero,newVar,newRow]
 ·rw[f.zeroC]
  exact LP f.one
theorem Akf{kk:K β}{nx:Nat}{t:TypeId}{x:Operand}(ho:o.op=.box t x){cs:List C}(hc:(ρ x).cells=some cs)(hk:Pf bl nx t cs kk=some r):Sound P o ρ bl kk r:=by
 refine x7 hk λAa ok0 base pl w a hr hx=>⟨(a.eval x).cells.toList,?_,?_⟩
 ·simp[execOp,ho,Instr.box,newVar,newRow]
 ·exact VRep.cells_of hc (hx x (by simp[ho,Op.operands]))
end
end Go.Lift
namespace Go.Lift
open Go.RowKit
theorem x8{α:Type}{a b:Nat}(x y:α):(bif Nat.blt a b then x else y)=if a<b then x else y:=by
 cases h:Nat.blt a b with
 |true=>rw[if_pos (by simpa using h)];rfl
 |false=>rw[if_neg (λAo=>by rw[show Nat.blt a b=true by simpa using Ao]at h;cases h)];rfl
theorem KP:∀{o:OT}{x:o.ty.den}{k:Nat}{p:Path}{n:Ew},B3 o x k p=some n->Io o x k p=some n
 |.d _,_,_,_,_,h=>by cases h
 |.p a b,x,k,p,n,h=>by
  simp only[B3]at h;simp only[Io,x8];split at h
  ·rename_i hk;rw[if_pos hk];exact KP h
  ·rename_i hk;rw[if_neg hk];exact KP h
 |.r _ _,_,0,[],_,h=>h
 |.r _ e,l,0,(i,k)::p,n,h=>by
  simp only[B3]at h;simp only[Io];split at h
  ·rename_i x hx
   rw[show(l:List e.ty.den).getD i e.ty.dflt=x by rw[List.getD,hx];rfl];exact KP h
  ·cases h
 |.r _ _,_,_+1,_,_,h=>by cases h
theorem Pm:∀{o:OT}{x:o.ty.den}{k:Nat}{p:Path}{n:Ew}{e':OT}{y:List e'.ty.den},B3 o x k p=some n->setD o x k p e' y=G4 o x k p e' y
 |.d _,_,_,_,_,_,_,h=>by cases h
 |.p a b,x,k,p,n,_,_,h=>by
  simp only[B3]at h;simp only[setD,G4,x8];split at h
  ·rename_i hk;rw[if_pos hk,if_pos hk,Pm h]
  ·rename_i hk;rw[if_neg hk,if_neg hk,Pm h]
 |.r _ _,_,0,[],_,_,_,h=>rfl
 |.r _ e,l,0,(i,k)::p,n,_,_,h=>by
  simp only[B3]at h;simp only[setD,G4];split at h
  ·rename_i x hx
   rw[show(l:List e.ty.den).getD i e.ty.dflt=x by rw[List.getD,hx];rfl,Pm h]
  ·cases h
 |.r _ _,_,_+1,_,_,_,_,h=>by cases h
theorem Wn:∀{o:OT}{x:o.ty.den}{k:Nat}{p:Path}{n:Ew}{i:Nat}{y:n.1.2.ty.den},B3 o x k p=some n->n.2[i]?=some y->∀j,B3 o x k (p++[(i,j)])=B3 n.1.2 y j []
 |.d _,_,_,_,_,_,_,h,_,_=>by cases h
 |.p a b,x,k,p,n,i,y,h,hy,j=>by
  simp only[B3]at h⊢;split at h
  ·rename_i hk;rw[if_pos hk];exact Wn h hy j
  ·rename_i hk;rw[if_neg hk];exact Wn h hy j
 |.r _ _,_,0,[],_,i,y,h,hy,j=>by simp only[B3,Af]at h;subst h;simp only[Gi,B3];rw[show(_:List _)[i]?=some y from hy]
 |.r _ e,l,0,(i',k)::p,n,i,y,h,hy,j=>by
  simp only[B3,Fw]at h⊢;split at h
  ·rename_i x hx
   exact Wn h hy j
  ·cases h
 |.r _ _,_,_+1,_,_,_,_,h,_,_=>by cases h
theorem Rw:∀{o:OT}{x:o.ty.den}{k:Nat}{p:Path}{n:Ew}{i:Nat}{y:n.1.2.ty.den},B3 o x k p=some n->n.2[i]?=some y->∀j,nix o x k (p++[(i,j)])=nix o x k p+1+((n.2.take i).map (cnt n.1.2)).sum+nix n.1.2 y j []
 |.d _,_,_,_,_,_,_,h,_,_=>by cases h
 |.p a b,x,k,p,n,i,y,h,hy,j=>by
  simp only[B3]at h;simp only[nix];split at h
  ·rename_i hk;rw[if_pos hk,if_pos hk];exact Rw h hy j
  ·rename_i hk;rw[if_neg hk,if_neg hk,Rw h hy j];omega
 |.r _ _,_,0,[],_,i,y,h,hy,j=>by simp only[B3,Af]at h;subst h;simp only[Gi,nix];rw[show(_:List _)[i]?=some y from hy]
 |.r _ e,l,0,(i',k)::p,n,i,y,h,hy,j=>by
  simp only[B3]at h;simp only[nix,Fw];split at h
  ·rename_i x hx
   rw[Rw h hy j];omega
  ·cases h
 |.r _ _,_,_+1,_,_,_,_,h,_,_=>by cases h
section
variable{E E':Env}{t:TypeId}{e:OT}
theorem TreeOk.node{l:List e.ty.den}{sv:Value}{Ab:List (Option Value)}(hT:TreeOk E t e none l sv Ab){p:Path}{n:Ew}(hn:B3 (.r t e) l 0 p=some n):∃s Fn G1 G2,sv::Ab.filterMap id=G1++(s::Fn++G2)/\G1.length=nix (.r t e) l 0 p/\(some sv::Ab)=(G1++(s::Fn++G2)).map some/\(some sv::Ab)[nix (.r t e) l 0 p]?=some (some s)/\Owns E.w E.ok E.base s (.r n.1.1 n.1.2) none n.2 [s] (s::Fn)/\Owns E.w E.ok E.base s (.r t e) (some (0,p)) l [sv] (G1++G2)/\(G1++(s::Fn++G2)).Pairwise (λs r=>∀g,s.ownBlock=some g->r.ownBlock≠some g):=by
 obtain⟨hv,F,h1,h2,h3⟩:=hT.rep;have h2:some sv::Ab=(sv::F).map some:=h2;obtain⟨s,G1,Fn,G2,e1,e2,e3,e4⟩:=Owns.split h1 hn;have hs:Ab=F.map some:=by simpa using h2
 refine⟨s,Fn,G1,G2,?_,e2,?_,?_,e3,e4,e1▸h3⟩
 ·rw[<-e1,hs];simp[List.filterMap_map]
 ·rw[<-e1];exact h2
 ·rw[h2,e1,LJ,FG (by simp[e2])]
  simp[e2]
theorem eC(hb:DN E){b ver Ag:Nat}{l:List e.ty.den}{p:Path}(Aj:E.bl b=some (.tree t e ver Ag none l)){v:Value}(hv:CRep E (.trow b (tv ver Ag p) p) v):∃sv Ab n,E.pl b=some (.row sv Ab)/\TreeOk E t e none l sv Ab/\B3 (.r t e) l 0 p=some n/\(some sv::Ab)[nix (.r t e) l 0 p]?=some (some v):=by
 obtain⟨_,sv,Ab,Be,AT⟩:=hv;obtain⟨q,hq,hB⟩:=hb b _ Aj;rw[Be]at hq;injection hq with hq;subst hq;obtain⟨n,h1,h2⟩:=(AT _ _ _ _ _ _ Aj).2 rfl (λ_ h=>by cases h);exact⟨sv,Ab,n,Be,hB,h1,h2⟩
theorem Akg(hb:DN E){b ver Ag:Nat}{l:List e.ty.den}{p:Path}(Aj:E.bl b=some (.tree t e ver Ag none l)){v:Value}(hv:CRep E (.trow b (tv ver Ag p) p) v){n:Ew}(hn:Io (.r t e) l 0 p=some n):∃xs,E.w.ownsRow E.base n.1.1 n.1.2.ty.size v n.2.length xs:=by
 obtain⟨sv,Ab,n',Be,hT,DR,Jm⟩:=eC hb Aj hv;have:=KP DR;rw[hn]at this;injection this with this;subst this;obtain⟨s',Fn,G1,G2,_,_,_,h4,h5,_,_⟩:=hT.node DR;rw[Jm]at h4;injection h4 with h4;injection h4 with h4;subst h4;obtain⟨s',xs,F',e1,_,Ak,_⟩:=h5;have e1:=(JO e1).1;subst e1;exact⟨xs,Ak⟩
theorem Wo{bl:Nat->Option Blk}{b ver:Nat}{p:Path}{a:(te:TypeId×OT)×(List te.2.ty.den×(Nat×(Nat×Ew)))}(h:OV bl b ver p=some a):bl b=some (.tree a.1.1 a.1.2 a.2.2.1 a.2.2.2.1 none a.2.1)/\ver=tv a.2.2.1 a.2.2.2.1 p/\Io (.r a.1.1 a.1.2) a.2.1 0 p=some a.2.2.2.2:=by
 unfold OV at h;split at h
 ·rename_i t e ver' Ag l Aj
  cases hv:Nat.beq ver (tv ver' Ag p)with
  |false=>rw[hv]at h;cases h
  |true=>
   rw[hv,Am]at h;split at h
   ·rename_i n hn
    simp only[Af]at h;subst h;exact⟨Aj,As hv,hn⟩
   ·cases h
 ·cases h
theorem eD{b ver i:Nat}{p:Path}{hv:Value}:∀{o:OT}{x:o.ty.den}{u F:List Value}{k0:Nat},Owns E.w E.ok E.base hv o none x u F->(∀j m s,B3 o x j []=some m->u[j]?=some s->F[nix o x j []]?=some s->CRep E (.trow b ver (p++[(i,k0+j)])) s)->CReps E (OU b ver p i k0 o x) u
 |.d _,_,_,_,_,h,_=>Hv h.2.1
 |.p a c,x,u,F,k0,⟨u1,u2,F1,F2,e1,e2,h1,h2⟩,hc=>by
  have h1:Owns E.w E.ok E.base hv a none x.1 u1 F1:=h1;have h2:Owns E.w E.ok E.base hv c none x.2 u2 F2:=h2;have l1:=h1.length;rw[e1];refine CReps.append (eD h1 λj m s hn hu hF=>?_) (eD h2 λj m s hn hu hF=>?_)
  ·have hj:j<u1.length:=(Eu.1 hu).1
   have Gs:j<a.ty.size:=by omega
   refine hc j m s (by simp only[B3,if_pos Gs];exact hn) (by rw[e1,GX hj];exact hu) ?_;simp only[nix,if_pos Gs];rw[e2,GX (Eu.1 hF).1];exact hF
  ·have Gs:¬(a.ty.size+j<a.ty.size):=by omega
   have:=hc (a.ty.size+j) m s (by simp only[B3,if_neg Gs,LD];exact hn) (by rw[e1,FG (by omega),l1,LD];exact hu) (by
    simp only[nix,if_neg Gs,LD];rw[<-h1.cnt,e2,FG (by omega),LD];exact hF)
   rw[show k0+a.ty.size+j=k0+(a.ty.size+j) by omega];exact this
 |.r t e,l,u,F,k0,⟨sv,xs,F',e1,e2,h,hl⟩,hc=>by rw[e1];exact⟨sv,[],rfl,hc 0 ⟨(t,e),l⟩ sv rfl (by rw[e1];rfl) (by rw[e2];rfl),rfl⟩
theorem Owns.elem{w:World}{ok:Nat->Prop}{base:Nat}{hv s:Value}{l:List e.ty.den}{Fn:List Value}(h:Owns w ok base hv (.r t e) none l [s] (s::Fn)){i:Nat}(hi:i<l.length):∃y u pre post Fu Fp Fq,l[i]?=some y/\w.ownsRow base t e.ty.size s l.length (pre++(u++post))/\pre.length=i*e.ty.size/\Fn=Fp++(Fu++Fq)/\Fp.length=((l.take i).map (Go.Lift.cnt e)).sum/\Owns w ok base hv e none y u Fu/\∀(w':World)(ok':Nat->Prop)(base':Nat)(Cc:Value) y' u' Fu',(∀x u f,(∀s∈f,s∈Fp\/s∈Fq)->Owns w ok base hv e none x u f->Owns w' ok' base' Cc e none x u f)->Owns w' ok' base' Cc e none y' u' Fu'->w'.ownsRow base' t e.ty.size s l.length (pre++(u'++post))->Owns w' ok' base' Cc (.r t e) none (l.set i y') [s] (s::(Fp++(Fu'++Fq))):=by
 obtain⟨sv,xs,F',e1,e2,h,hl⟩:=h;have e1:s=sv:=by simpa using e1
 subst e1;have e2:Fn=F':=by simpa using e2
 subst e2;obtain⟨y,u,p,q,Fu,Fp,Fq,g1,g2,g3,g4,g5,⟨_,g7,_⟩,g6⟩:=OL.focus (n:=e.ty.size) (λ_ _ _ _ h=>Owns.length h) hl (i:=i) hi;rw[g2]at h;refine⟨y,u,p,q,Fu,Fp,Fq,g1,h,g3,g4,QY e g7,by simpa using g5,λw' ok' base' Cc y' u' Fu' k1 k2 k3=>?_⟩;exact⟨s,_,_,rfl,rfl,by rw[LI];exact k3,g6 _ y' u' Fu' (λm x u f _ hf hx=>k1 x u f hf hx) k2⟩
theorem x9(hb:DN E){b ver Ag i o:Nat}{l:List e.ty.den}{p:Path}(Aj:E.bl b=some (.tree t e ver Ag none l)){v:Value}(hv:VRep E (.c (.tptr b (tv ver Ag p) p i o)) v):∃sv Ab n s g m c,E.pl b=some (.row sv Ab)/\TreeOk E t e none l sv Ab/\B3 (.r t e) l 0 p=some n/\(some sv::Ab)[nix (.r t e) l 0 p]?=some (some s)/\i<n.2.length/\s=.slice (some ⟨g,0,none⟩) m c/\v=.pointer (some ⟨g,i*n.1.2.ty.size+o,none⟩):=by
 obtain⟨sv,Ab,ad,Be,hv,AT⟩:=hv;obtain⟨q,hq,hB⟩:=hb b _ Aj;rw[Be]at hq;injection hq with hq;subst hq;obtain⟨n,s,h1,h2,h3,g,m,c,h4,rfl⟩:=(AT _ _ _ _ _ _ Aj).2 rfl (λ_ h=>by cases h);exact⟨sv,Ab,n,s,g,m,c,Be,hB,h1,h2,h3,h4,hv⟩
theorem Akh(hb:DN E){b ver Ag i:Nat}{l:List e.ty.den}{p:Path}(Aj:E.bl b=some (.tree t e ver Ag none l)){sv:Value}{Ab:List (Option Value)}(Be:E.pl b=some (.row sv Ab))(hT:TreeOk E t e none l sv Ab){n:Ew}(hn:B3 (.r t e) l 0 p=some n){s:Value}(hs:(some sv::Ab)[nix (.r t e) l 0 p]?=some (some s))(hi:i<n.2.length):∃u pre post,E.w.ownsRow E.base n.1.1 n.1.2.ty.size s n.2.length (pre++(u++post))/\pre.length=i*n.1.2.ty.size/\CReps E (OU b (ver+Ag) p i 0 n.1.2 (n.2.getD i n.1.2.ty.dflt)) u:=by
 obtain⟨s',Fn,G1,G2,_,h2,h3,h4,h5,_,_⟩:=hT.node hn;rw[hs]at h4;injection h4 with h4;injection h4 with h4;subst h4;obtain⟨y,u,pre,post,Fu,Fp,Fq,g1,g2,g3,g4,g5,g6,_⟩:=h5.elem hi;refine⟨u,pre,post,g2,g3,?_⟩;rw[show n.2.getD i n.1.2.ty.dflt=y by rw[List.getD,g1];rfl];refine eD g6 λj m s1 hm hu hF=>?_;rw[DL];refine⟨g6.oneCell s1 (CI hu),sv,Ab,Be,λt1 e1 CD GR H8 l1 By=>?_⟩;rw[Aj]at By;injection By with By;injection By with q1 q2 q3 q4 q5 q6;subst q1 q2 q3 q4 q5;simp only[In]at q6;subst q6;have bF:tv ver Ag (p++[(i,j)])=ver+Ag:=by cases p<;>rfl
 rw[bF];refine⟨AC _,λ_ _=>⟨m,by rw[Wn hn g1];exact hm,?_⟩⟩;rw[Rw hn g1,h3,FI,<-h2,<-g5,FG (by omega)];rw[show G1.length+1+Fp.length+nix n.1.2 y j []-G1.length=(Fp.length+nix n.1.2 y j [])+1 by omega,Fw,DI,g4];have Ao:=(Eu.1 hF).1;rw[Cw,FG (by omega),LD,Cw,GX Ao,hF];rfl
def Same:(o:OT)->o.ty.den->o.ty.den->Prop
 |.d _,_,_=>True
 |.p a b,x,y=>Same a x.1 y.1/\Same b x.2 y.2
 |.r _ e,l,l'=>List.length l'=List.length l/\∀(i:Nat)(x x':e.ty.den),(l:List e.ty.den)[i]?=some x->(l':List e.ty.den)[i]?=some x'->Same e x x'
theorem Same.refl:∀(o:OT)(x:o.ty.den),Same o x x
 |.d _,_=>trivial
 |.p a b,x=>⟨Same.refl a x.1,Same.refl b x.2⟩
 |.r _ e,l=>⟨rfl,λi x x' h h'=>by rw[h]at h';injection h' with h';subst h';exact Same.refl e x⟩
theorem xA{e:OT}(ih:∀x x',Same e x x'->cnt e x'=cnt e x){l l':List e.ty.den}(hl:l'.length=l.length)(h:∀(i:Nat)(x x':e.ty.den),l[i]?=some x->l'[i]?=some x'->Same e x x')(m:Nat):(l'.take m).map (cnt e)=(l.take m).map (cnt e):=by
 apply V9;intro i;simp only[FI,LH];split
 ·cases hx:l[i]? with
  |none=>rw[OE]at hx;rw[OE.2 (by omega)]
  |some x=>have Ao:=(Eu.1 hx).1;rw[DK (by omega:i<l'.length)];simp only[EM];rw[ih x _ (h i x _ hx (DK (by omega)))]
 ·rfl
theorem Same.cnt:∀{o:OT}{x y:o.ty.den},Same o x y->Go.Lift.cnt o y=Go.Lift.cnt o x
 |.d _,_,_,_=>rfl
 |.p a b,x,y,h=>by simp only[Go.Lift.cnt];rw[h.1.cnt,h.2.cnt]
 |.r _ e,l,l',h=>by have:=xA (λx x' h=>Same.cnt h) h.1 h.2 (List.length l);rw[Jp,G0 (by rw[h.1];exact AC _)]at this;simp only[Go.Lift.cnt];rw[this]
theorem Same.node:∀{o:OT}{x y:o.ty.den}{k:Nat}{p:Path}{n:Ew},Same o x y->B3 o x k p=some n->∃n',B3 o y k p=some n'/\n'.1=n.1/\n'.2.length=n.2.length/\nix o y k p=nix o x k p
 |.d _,_,_,_,_,_,_,h=>by cases h
 |.p a b,x,y,k,p,n,hs,h=>by
  simp only[B3,nix]at h⊢;split at h
  ·rename_i hk;rw[if_pos hk,if_pos hk,if_pos hk];exact Same.node hs.1 h
  ·rename_i hk
   rw[if_neg hk,if_neg hk,if_neg hk,hs.1.cnt];obtain⟨n',h1,h2,h3,h4⟩:=Same.node hs.2 h;exact⟨n',h1,h2,h3,by rw[h4]⟩
 |.r _ _,_,_,0,[],_,hs,h=>by simp only[B3,Af]at h;subst h;exact⟨_,rfl,rfl,hs.1,rfl⟩
 |.r _ e,l,l',0,(i,k)::p,n,hs,h=>by
  simp only[B3,nix]at h⊢;split at h
  ·rename_i x hx
   have Ao:=(Eu.1 hx).1;have hl:=hs.1;have D6:(l':List e.ty.den)[i]?=some ((l':List e.ty.den)[i]'(by rw[hl];exact Ao)):=DK _;obtain⟨n',h1,h2,h3,h4⟩:=Same.node (hs.2 i x _ hx D6) h;refine⟨n',?_,h2,h3,?_⟩
   ·rw[D6];exact h1
   ·rw[D6]
    simp only;rw[h4,xA (λx x' h=>Same.cnt h) hs.1 hs.2 i]
  ·cases h
 |.r _ _,_,_,_+1,_,_,_,h=>by cases h
theorem Same.set:∀{o:OT}{x:o.ty.den}{k:Nat}{p:Path}{n:Ew}{y:List n.1.2.ty.den},B3 o x k p=some n->Same (.r n.1.1 n.1.2) n.2 y->Same o x (G4 o x k p n.1.2 y)
 |.d _,_,_,_,_,_,h,_=>by cases h
 |.p a b,x,k,p,n,y,h,hs=>by
  simp only[B3,G4]at h⊢;split at h
  ·rename_i hk;rw[if_pos hk];exact⟨Same.set h hs,Same.refl _ _⟩
  ·rename_i hk;rw[if_neg hk];exact⟨Same.refl _ _,Same.set h hs⟩
 |.r _ _,_,0,[],n,y,h,hs=>by simp only[B3,Af]at h;subst h;simp only[G4];exact hs
 |.r _ e,l,0,(i,k)::p,n,y,h,hs=>by
  simp only[B3,G4]at h⊢;split at h
  ·rename_i x hx
   refine⟨LI,λj z z' hz Gy=>?_⟩;by_cases hj:i=j
   ·subst hj
    rw[hx]at hz;injection hz with hz;subst hz;rw[wH (Eu.1 hx).1]at Gy;injection Gy with Gy;subst Gy;exact Same.set h hs
   ·rw[List.getElem?_set_ne hj,hz]at Gy
    injection Gy with Gy;subst Gy;exact Same.refl e z
  ·cases h
 |.r _ _,_,_+1,_,_,_,h,_=>by cases h
theorem Same.leaf:∀{o:OT}{x:o.ty.den}{k:Nat}{new:List C}{y:o.ty.den},JR o x k new=some y->Same o x y
 |.d _,_,_,_,_,_=>trivial
 |.p a b,x,k,new,y,h=>by
  simp only[JR]at h;cases h1:Nat.ble (k+new.length) a.ty.size with
  |true=>
   rw[h1,Am]at h;split at h
   ·rename_i z hz
    simp only[Af]at h;subst h;exact⟨Same.leaf hz,Same.refl _ _⟩
   ·cases h
  |false=>
   rw[h1,Cj]at h;cases h2:Nat.ble a.ty.size k with
   |false=>rw[h2]at h;cases h
   |true=>
    rw[h2,Am]at h;split at h
    ·rename_i z hz
     simp only[Af]at h;subst h;exact⟨Same.refl _ _,Same.leaf hz⟩
    ·cases h
 |.r _ _,_,_,_,_,h=>by cases h
theorem KeepT.same{c:Prop}{l l':List e.ty.den}(h:Same (.r t e) l l')(sv:Value)(Ab:List (Option Value)):KeepT c t e none none l l' sv Ab Ab:=λp _ ho=>⟨ho,λn hn=>by obtain⟨n',h1,h2,h3,h4⟩:=h.node hn;exact⟨n',h1,h2,h3,λs hs=>by rw[h4];exact hs⟩⟩
theorem Owns.leaf(hb:DN E){hv:Value}:∀{o:OT}{x:o.ty.den}{u F us:List Value}{k:Nat}{new:List C}{y:o.ty.den},Owns E.w E.ok E.base hv o none x u F->CReps E new us->JR o x k new=some y->k+us.length<=u.length/\Owns E.w E.ok E.base hv o none y (u.take k++us++u.drop (k+us.length)) F
 |.d τ,x,u,F,us,k,new,y,h,hn,hs=>by
  obtain⟨h1,h2,h3⟩:=h;simp only[JR]at hs;split at hs
  ·rename_i rc Ib
   obtain⟨s1,s2⟩:=Ru (Hv h2) hn Ib;exact⟨s2,rfl,Na hb (Rows.none _ _) s1 hs,h3⟩
  ·cases hs
 |.p a b,x,u,F,us,k,new,y,⟨u1,u2,F1,F2,e1,e2,h1,h2⟩,hn,hs=>by
  have h1:Owns E.w E.ok E.base hv a none x.1 u1 F1:=h1;have h2:Owns E.w E.ok E.base hv b none x.2 u2 F2:=h2;have l1:=h1.length;have ln:=hn.length;simp only[JR]at hs;cases hc:Nat.ble (k+new.length) a.ty.size with
  |true=>
   rw[hc,Am]at hs;have hc:=Hs hc;split at hs
   ·rename_i z hz
    simp only[Af]at hs;subst hs;obtain⟨q1,q2⟩:=Owns.leaf hb h1 hn hz;refine⟨by rw[e1,AE];omega,_,u2,F1,F2,?_,e2,q2,h2⟩;rw[e1,JM (by omega),OB (by omega),<-Cw]
   ·cases hs
  |false=>
   rw[hc,Cj]at hs;cases Ch:Nat.ble a.ty.size k with
   |false=>rw[Ch]at hs;cases hs
   |true=>
    rw[Ch,Am]at hs;have Ch:=Hs Ch;split at hs
    ·rename_i z hz
     simp only[Af]at hs;subst hs;obtain⟨q1,q2⟩:=Owns.leaf hb h2 hn hz;refine⟨by rw[e1,AE];omega,u1,_,F1,F2,?_,e2,h1,q2⟩;rw[e1,VE,G0 (by omega),QU,OH (by omega),Gi,l1];simp only[Cw];rw[show k+us.length-a.ty.size=k-a.ty.size+us.length by omega]
    ·cases hs
 |.r _ _,_,_,_,_,_,_,_,_,_,hs=>by cases hs
theorem xB{R:Value->Value->Prop}{A B C:List Value}{s:Value}(hR:∀a b,R a b->R b a)(h:(A++(s::B++C)).Pairwise R):∀r,(r∈A\/r∈B\/r∈C)->R s r:=λr hr=>by
 rw[GZ]at h;obtain⟨_,h2,h3⟩:=h;rw[Fw,Ha]at h2;rcases hr with hr|hr|hr
 ·exact hR _ _ (h3 r hr s (by simp))
 ·exact h2.1 r (by simp[hr])
 ·exact h2.1 r (by simp[hr])
theorem xC(a b:Value)(h:∀g,a.ownBlock=some g->b.ownBlock≠some g):∀g,b.ownBlock=some g->a.ownBlock≠some g:=λg h1 h2=>h g h2 h1
theorem Nb{sv:Value}{Ab:List (Option Value)}{F:List Value}(h:(some sv::Ab)=F.map some){s:Value}(hs:s∈F){g:Nat}(hg:s.ownBlock=some g):(Pl.row sv Ab).has g:=by
 have:some s∈some sv::Ab:=by rw[h];exact cK hs
 rcases Bf.1 this with h1|h1
 ·injection h1 with h1;subst h1;exact .inl hg
 ·obtain⟨i,hi⟩:=OI.1 h1;exact .inr ⟨i,s,hi,hg⟩
theorem TreeOk.leaf(hb:DN E){l:List e.ty.den}{sv:Value}{Ab:List (Option Value)}(hT:TreeOk E t e none l sv Ab){p:Path}{n:Ew}(hn:B3 (.r t e) l 0 p=some n){s:Value}(hs:(some sv::Ab)[nix (.r t e) l 0 p]?=some (some s)){i o:Nat}(hi:i<n.2.length){g m c:Nat}(Aq:s=.slice (some ⟨g,0,none⟩) m c){new:List C}{us:List Value}{y:n.1.2.ty.den}(HY:CReps E new us)(K5:JR n.1.2 (n.2.getD i n.1.2.ty.dflt) o new=some y):∃xs,E.w.ownsRow E.base n.1.1 n.1.2.ty.size s n.2.length xs/\i*n.1.2.ty.size+o+us.length<=xs.length/\∀E',Ext E E'->E'.base=E.base->(∀g',(Pl.row sv Ab).has g'->g'≠g->E'.w.heap[g']?=E.w.heap[g']?)->E'.w.ownsRow E.base n.1.1 n.1.2.ty.size s n.2.length (xs.take (i*n.1.2.ty.size+o)++us++xs.drop (i*n.1.2.ty.size+o+us.length))->TreeOk E' t e none (setD (.r t e) l 0 p n.1.2 (n.2.set i y)) sv Ab:=by
 obtain⟨s',Fn,G1,G2,_,h2,h3,h4,h5,h6,h7⟩:=hT.node hn;rw[hs]at h4;injection h4 with h4;injection h4 with h4;subst h4;obtain⟨y0,u,pre,post,Fu,Fp,Fq,g1,g2,g3,g4,g5,g6,g7⟩:=h5.elem hi;rw[show n.2.getD i n.1.2.ty.dflt=y0 by rw[List.getD,g1];rfl]at K5;obtain⟨q1,q2⟩:=Owns.leaf hb g6 HY K5;refine⟨_,g2,by simp only[AE];omega,λE' hx Kv hh Ak=>?_⟩;have Aj:s.ownBlock=some g:=by rw[Aq];rfl
 have Qx:∀r,(r∈G1\/r∈Fn\/r∈G2)->∀g',r.ownBlock=some g'->E'.w.heap[g']?=E.w.heap[g']?:=λr hr g' C2=>hh g' (Nb h3 (by rcases hr with h|h|h<;>simp[h]) C2) (λh=>xB xC h7 r hr g Aj (h▸C2));have BR:E'.base<=E.base:=by rw[Kv];exact AC _
 have uC:=Owns.mono BR hx.heap (λr hr g' C2=>Qx r ((Ci.1 hr).imp id .inr) g' C2) h6
 have Fs:(pre++(u++post)).take (i*n.1.2.ty.size+o)++us++(pre++(u++post)).drop (i*n.1.2.ty.size+o+us.length)=pre++((u.take o++us++u.drop (o+us.length))++post):=by
  have e1:(pre++(u++post)).take (i*n.1.2.ty.size+o)=pre++u.take o:=by rw[VE,G0 (by omega),JM (by omega)];congr 2;omega
  have e2:(pre++(u++post)).drop (i*n.1.2.ty.size+o+us.length)=u.drop (o+us.length)++post:=by rw[QU,OH (by omega),Gi,OB (by omega)];congr 2;omega
  rw[e1,e2];simp only[Cw]
 rw[Fs]at Ak
 have C9:=g7 E'.w E'.ok E'.base s y _ Fu (λx u f hf h=>Owns.mono BR hx.heap (λr hr g' C2=>Qx r (.inr (.inl (by rw[g4];rcases hf r hr with h|h<;>simp[h]))) g' C2) h)
  (Owns.mono BR hx.heap (λr hr g' C2=>Qx r (.inr (.inl (by rw[g4];simp[hr]))) g' C2) q2) (by rw[Kv];exact Ak)
 rw[<-g4]at C9;obtain⟨H1,H2,k1,k2,k3⟩:=Owns.join uC hn;have GN:=k3 _ _ C9;have k4:G1=H1/\G2=H2:=VI k1 (by rw[h2,k2]);obtain⟨rfl,rfl⟩:=k4;rw[<-Pm hn]at GN;obtain⟨sv0,xs0,F0,z1,z2,z3,z4⟩:=GN;have z1:sv=sv0:=by simpa using z1
 subst z1;refine⟨⟨s,F0,?_,?_,?_⟩,by simp⟩
 ·exact⟨sv,xs0,F0,rfl,rfl,z3,z4⟩
 ·show some sv::Ab=(sv::F0).map some
  rw[<-z2];exact h3
 ·rw[<-z2];exact h7
theorem Same.write{l:List e.ty.den}{p:Path}{n:Ew}(hn:B3 (.r t e) l 0 p=some n){i o:Nat}{new:List C}{y:n.1.2.ty.den}(hi:i<n.2.length)(K5:JR n.1.2 (n.2.getD i n.1.2.ty.dflt) o new=some y):Same (.r t e) l (setD (.r t e) l 0 p n.1.2 (n.2.set i y)):=by
 rw[Pm hn];refine Same.set hn ⟨LI,λj z z' hz Gy=>?_⟩;by_cases hj:i=j
 ·subst hj
  rw[wH hi]at Gy;injection Gy with Gy;subst Gy;have:=Same.leaf K5;rw[show n.2.getD i n.1.2.ty.dflt=z by rw[List.getD,hz];rfl]at this;exact this
 ·rw[List.getElem?_set_ne hj,hz]at Gy
  injection Gy with Gy;subst Gy;exact Same.refl _ z
theorem xD:∀{p q:Path},VU p q=true->p=q
 |[],[],_=>rfl
 |[],_::_,h=>by cases h
 |_::_,[],h=>by cases h
 |(i,k)::p,(j,m)::q,h=>by obtain⟨h1,h2⟩:=andB (show(decide (i=j)&&(Nat.beq k m&&VU p q))=true from h);obtain⟨h2,h3⟩:=andB h2;rw[AV h1,As h2,xD h3]
theorem eE{w:World}{ok:Nat->Prop}{base:Nat}{hv:Value}{τ:Ty}:∀{l:List τ.den}{j:Nat}{xs:List Value},DList (λx u=>DRep w ok τ x u) l xs->OL (λ_ x u f=>Owns w ok base hv (.d τ) none x u f) j l xs []
 |[],_,_,h=>⟨h,rfl⟩
 |_::_,_,_,⟨u,v,e,h1,h2⟩=>⟨u,v,[],[],e,rfl,⟨rfl,h1,rfl⟩,eE h2⟩
theorem eF{blp:Nat->Option Blk}(hb:DN E){v:V}{r:Nat}{m:Ew}(h:Rc blp v=some (r,m))(AO:E.bl r=blp r){u:Value}(hv:VRep E v u):∃Ab Fr B,E.bl r=some B/\B≠.dead/\(∀t e ver Ag P l,B≠.tree t e ver Ag (some P) l)/\E.pl r=some (.row u Ab)/\(∀MA,Owns E.w E.ok E.base MA (.r m.1.1 m.1.2) none m.2 [u] (u::Fr))/\some u::Ab=(u::Fr).map some/\(u::Fr).Pairwise (λs r=>∀g,s.ownBlock=some g->r.ownBlock≠some g):=by
 unfold Rc at h;split at h
 ·rename_i r' rv
  split at h
  ·rename_i t e ver l Aj
   cases hc:Nat.beq rv ver with
   |false=>rw[hc]at h;cases h
   |true=>have:=As hc;subst this;simp only[hc,Am,Af,BC]at h;obtain⟨rfl,rfl⟩:=h;obtain⟨_,sv,Ab,Be,AT⟩:=hv;rw[<-AO]at Aj;have hu:=(AT _ _ _ _ Aj).2 rfl;subst hu;obtain⟨q,hq,hB⟩:=hb _ _ Aj;rw[Be]at hq;injection hq with hq;subst hq;obtain⟨h0,xs,h1,h2⟩:=hB;subst h0;exact⟨[],[],_,Aj,(by simp),(by simp),Be,λMA=>⟨u,xs,[],rfl,rfl,h2,eE h1⟩,rfl,by simp⟩
  ·cases h
 ·rename_i r' rv
  split at h
  ·rename_i t e ver Ag l Aj
   cases hc:Nat.beq rv ver with
   |false=>rw[hc]at h;cases h
   |true=>have:=As hc;subst this;simp only[hc,Am,Af,BC]at h;obtain⟨rfl,rfl⟩:=h;rw[<-AO]at Aj;obtain⟨Ab,Be,hT⟩:=Wk hb Aj hv;obtain⟨EU,F,k1,k2,k3⟩:=hT.rep;exact⟨Ab,F,_,Aj,(by simp),(by simp),Be,λMA=>Owns.any k1,k2,k3⟩
  ·cases h
 ·cases h
theorem TreeOk.put{l:List e.ty.den}{sv:Value}{Ab:List (Option Value)}{p:Path}{i o:Nat}(hT:TreeOk E t e (some (p++[(i,o)])) l sv Ab){n0:Ew}(I4:B3 (.r t e) l 0 p=some n0){s:Value}(hs:(some sv::Ab)[nix (.r t e) l 0 p]?=some (some s))(hi:i<n0.2.length){g m0 c:Nat}(Aq:s=.slice (some ⟨g,0,none⟩) m0 c)(HZ:∀g,(Pl.row sv Ab).has g->¬E.ok g){n m:Ew}(hn:Io (.r t e) l 0 (p++[(i,o)])=some n)(BW:m.1=n.1){u:Value}{Fr:List Value}(hu:∀MA,Owns E.w E.ok E.base MA (.r m.1.1 m.1.2) none m.2 [u] (u::Fr))(Ie:(u::Fr).Pairwise (λs r=>∀g,s.ownBlock=some g->r.ownBlock≠some g))(hsep:∀s∈u::Fr,∀g,s.ownBlock=some g->¬(Pl.row sv Ab).has g):(∃old,E.w.cell? ⟨g,i*n0.1.2.ty.size+o,none⟩=some old)/\E.w.frozen? ⟨g,i*n0.1.2.ty.size+o,none⟩=false/\∃Bl,(∀g,(Pl.row sv Bl).has g->(Pl.row sv Ab).has g\/∃s∈u::Fr,s.ownBlock=some g)/\∀E':Env,E'.w=E.w.setCell ⟨g,i*n0.1.2.ty.size+o,none⟩ u->E'.base=E.base->(∀g,E.ok g->g<E.w.heap.size->E'.ok g)->TreeOk E' t e none (setD (.r t e) l 0 (p++[(i,o)]) m.1.2 m.2) sv Bl:=by
 obtain⟨hv,F,h1,h2,h3⟩:=hT.rep;obtain⟨nP,A,B,a1,a2,a3,a4⟩:=h2
 have Azs:nP=n:=by have:=KP a1;rw[hn]at this;injection this with this;exact this.symm
 subst Azs;have CX:∀r,r∈sv::F->∀g,r.ownBlock=some g->(Pl.row sv Ab).has g:=λr hr g hg=>Placed.has (t:=t) (e:=e) (l:=l) (hole:=some (p++[(i,o)])) ⟨nP,A,B,a1,a2,a3,a4⟩ hr hg;obtain⟨n1,s1,g1,c1,G1,Fn,b1,b2,b3,b4,b5,b6,b6',b7⟩:=Owns.header (ok':=E.ok) (λ_ h=>h) (λr hr g hg=>HZ g (CX r hr g hg)) h1;rw[I4]at b1;injection b1 with b1;subst b1
 have Ao:nix (.r t e) l 0 p<A.length:=by rw[a3,Rw I4 (DK hi)];omega
 have Jm:s1=s:=by
  have k1:(sv::F)[nix (.r t e) l 0 p]?=some s1:=by rw[b2,<-b3,FG (AC _),Nat.sub_self];rfl
  rw[a2,GX Ao]at k1;rw[a4,GX (by simpa using Ao),FI,k1]at hs;simpa using hs
 subst Jm;rw[Aq]at b4;injection b4 with b4 b4' b4'';injection b4 with b4;injection b4 with b4;subst b4;have Aj:s1.ownBlock=some g:=by rw[Aq];rfl
 have Q4:u.oneCell'=true:=(hu u).oneCell u (by simp)
 have AL:∀s'∈G1++Fn,s'.ownBlock≠some g:=λs' BN=>by rw[b2]at h3;exact xB (C:=[]) xC (by simpa using h3) s' (by rcases Ci.1 BN with h|h<;>simp[h]) g Aj
 have hgF:∀s'∈u::Fr,s'.ownBlock≠some g:=λs' BN hg=>hsep s' BN g hg (CX s1 (by rw[b2];simp) g Aj);have Azt:¬E.ok g:=HZ g (CX s1 (by rw[b2];simp) g Aj);obtain⟨A',B',k1,k2,k3⟩:=Owns.join (b7 u Q4 AL) a1;have k4:A=A'/\B=B':=VI (a2▸k1) (by rw[a3,k2]);obtain⟨rfl,rfl⟩:=k4
 obtain⟨A2,hA2⟩:∃A2,A=sv::A2:=by
  cases A with
  |nil=>simp at Ao
  |cons a A=>rw[Fw]at a2;injection a2 with a2 _;exact⟨A,by rw[a2]⟩
 subst hA2;have hF:F=A2++B:=by simpa using a2
 refine⟨⟨_,b6⟩,b6',(A2++(u::Fr++B)).map some,λg' h=>?_,λE' hw Kv Dg=>?_⟩
 ·rcases h with h|⟨j,s',hj,h⟩
  ·exact .inl (.inl h)
  ·have hm:=CI hj
   obtain⟨s2,AS,DS⟩:=Hb.1 hm;injection DS with DS;subst DS;rcases Ci.1 AS with h4|h4
   ·exact .inl (CX s2 (by rw[a2];simp[h4]) g' h)
   ·rcases Ci.1 h4 with h4|h4
    ·exact .inr ⟨s2,h4,h⟩
    ·exact .inl (CX s2 (by rw[a2];simp[h4]) g' h)
 ·have hm:=Owns.mono (w':=E.w.setCell ⟨g,i*n0.1.2.ty.size+o,none⟩ u) (AC E.base) (Keeps.set (ok':=E.ok) (λ_ h=>h) Azt) (λs' BN g' C2=>heap_setCell_other E.w _ g' u (λe=>hgF s' BN (by simp only at e;rw[C2,e]))) (hu u)
  obtain⟨⟨m1,m2⟩,m3⟩:=m;obtain⟨⟨q1,q2⟩,q3⟩:=nP;simp only[BC]at BW;obtain⟨rfl,rfl⟩:=BW;have GN:=k3 _ _ hm;rw[<-Pm a1]at GN;have GN:=Owns.mono (w':=E'.w) (ok':=E'.ok) (base':=E'.base) (by rw[Kv];exact AC _) (λg' h Ao=>⟨Dg g' h (by simpa [World.setCell]using Ao),by rw[hw]⟩) (λ_ _ _ _=>by rw[hw]) GN;refine⟨⟨u,A2++(u::Fr++B),GN,?_,?_⟩,by simp⟩
  ·show _=_
   simp
  ·rw[hF]at h3
   have h3:(sv::A2++B).Pairwise (λs r=>∀g,s.ownBlock=some g->r.ownBlock≠some g):=h3;rw[GZ]at h3;obtain⟨p1,p2,p3⟩:=h3;have hAB:∀a∈sv::A2++B,∀b∈u::Fr,∀g,a.ownBlock=some g->b.ownBlock≠some g:=λa ha b hb g h1 h2=>hsep b hb g h2 (CX a (by rw[a2];exact ha) g h1);show(sv::A2++(u::Fr++B)).Pairwise _;rw[GZ,GZ];refine⟨p1,⟨Ie,p2,λa ha b hb g h1 h2=>hAB b (D7 _ hb) a ha g h2 h1⟩,λa ha b hb=>?_⟩;rcases Ci.1 hb with hb|hb
   ·exact hAB a (Dl _ ha) b hb
   ·exact p3 a ha b hb
end
end Go.Lift
namespace Go.Lift
open Go.RowKit
theorem Wp{P:Program}{t:TypeId}{ti:TI}{i:TypeInfo}{d:TypeDesc}{z:Value}(f:TFacts P t ti i d z)(w:World):(isAgg t).run P w=.ok ti.agg w:=by rw[f.agg];unfold isAgg Ir;rw[Sem.run_bind,run_underlying f.under w,f.under];cases d<;>simp
theorem run_sizeOf{P:Program}{t:TypeId}{ti:TI}{i:TypeInfo}{d:TypeDesc}{z:Value}(f:TFacts P t ti i d z)(w:World):(sizeOf t).run P w=.ok ti.size w:=by rw[f.size];simp[sizeOf,typeInfo,f.info]
theorem Rx{P:Program}{t:TypeId}{ti:TI}{i:TypeInfo}{d:TypeDesc}{z:Value}(f:TFacts P t ti i d z){w:World}{ad:Addr}{us:List Value}(hl:us.length=ti.size)(h1:ti.agg=true\/ti.size=1)(hc:∀j u,us[j]?=some u->w.cell? (ad.add j)=some u){E:Env}{cs:List C}(hr:CReps E cs us):∃val,(loadVar t ad).run P w=.ok val w/\VRep E (V.mk ti.agg cs) val:=by
 unfold loadVar;cases ha:ti.agg with
 |true=>refine⟨.agg us.toArray,?_,us,hr,by simp⟩;have tV:=run_loadCells_list (P:=P) w ad us hc;simp[Wp f,ha,run_sizeOf f,<-hl,tV]
 |false=>
  have hs:us.length=1:=by
   rcases h1 with h1|h1
   ·rw[ha]at h1;cases h1
   ·omega
  match us,hs with
  |[u],_=>
   refine⟨u,?_,VRep.mk ⟨[u],hr,by simp⟩⟩;have h0:=hc 0 u rfl;have sX:ad.add 0=ad:=by simp[Addr.add]
   rw[sX]at h0;simp[Wp f,ha,h0]
theorem Wq{w:World}{g o:Nat}{vs:List Value}{t:TypeId}{fr:Nat×Nat}(hg:w.heap[g]?=some (.cells vs.toArray t fr)){n j:Nat}{u:Value}(h:((vs.drop o).take n)[j]?=some u):w.cell? ((⟨g,o,none⟩:Addr).add j)=some u:=by
 rw[Addr.add_lit,cell_of_row w g (o+j) _ t fr hg];rw[LH]at h;split at h
 ·simpa using h
 ·cases h
theorem Aki{P:Program}{t:TypeId}{ti:TI}{i:TypeInfo}{d:TypeDesc}{z:Value}(f:TFacts P t ti i d z)(Cq:ti.agg=true\/ti.size=1){E:Env}{base:Nat}{t0:TypeId}{e:Ty}{l:List e.den}{sv:Value}{xs:List Value}(hd:DList (λx u=>DRep E.w E.ok e x u) l xs)(Ak:E.w.ownsRow base t0 e.size sv l.length xs){ix off g n c:Nat}(hi:ix<l.length)(Aq:sv=.slice (some ⟨g,0,none⟩) n c){rc:List C}(AO:sub (cells e (l.getD ix e.dflt)) off ti.size=some rc):∃val,(loadVar t ⟨g,ix*e.size+off,none⟩).run P E.w=.ok val E.w/\VRep E (V.mk ti.agg rc) val:=by
 obtain⟨u,p1,q1,UZ,El,Mw⟩:=DList.get e.dflt hd hi;have CH:=Hv (E:=E) Mw;obtain⟨s1,s2,s3⟩:=MY CH AO
 have Dw:∀j v,((u.drop off).take ti.size)[j]?=some v->E.w.cell? ((⟨g,ix*e.size+off,none⟩:Addr).add j)=some v:=by
  intro j v hj;rw[LH]at hj;split at hj
  ·have h2:xs[ix*e.size+off+j]?=some v:=by rw[OM]at hj;have Ao:off+j<u.length:=(Eu.1 hj).1;rw[UZ,FG (by omega),GX (by omega)];rw[<-hj];congr 1;omega
   have h3:=Ak.cells (g:=g) (by rw[Aq];rfl) _ _ h2;rw[Addr.add_lit]at h3⊢;rw[DL]at h3;exact h3
  ·cases hj
 exact Rx f s2 Cq Dw s1
theorem Akj{P:Program}{t:TypeId}{ti:TI}{i:TypeInfo}{d:TypeDesc}{z:Value}(f:TFacts P t ti i d z)(Cq:ti.agg=true\/ti.size=1){E:Env}(hb:DN E){t0:TypeId}{e:OT}{b ver Ag ix off:Nat}{l:List e.ty.den}{p:Path}(Aj:E.bl b=some (.tree t0 e ver Ag none l)){v:Value}(hv:VRep E (.c (.tptr b (tv ver Ag p) p ix off)) v){n:Ew}(hn:Io (.r t0 e) l 0 p=some n){rc:List C}(AO:sub (OU b (ver+Ag) p ix 0 n.1.2 (n.2.getD ix n.1.2.ty.dflt)) off ti.size=some rc):∃ad val,v=.pointer (some ad)/\(loadVar t ad).run P E.w=.ok val E.w/\VRep E (V.mk ti.agg rc) val:=by
 obtain⟨sv,Ab,n',s,g,m,c,Be,hT,DR,hs,hi,Aq,rfl⟩:=x9 hb Aj hv;have:=KP DR;rw[hn]at this;injection this with this;subst this;obtain⟨u,pre,post,Ak,El,CH⟩:=Akh hb Aj Be hT DR hs hi;obtain⟨s1,s2,s3⟩:=MY CH AO
 have Dw:∀j v,((u.drop off).take ti.size)[j]?=some v->E.w.cell? ((⟨g,ix*n.1.2.ty.size+off,none⟩:Addr).add j)=some v:=by
  intro j v hj;rw[LH]at hj;split at hj
  ·have h2:(pre++(u++post))[ix*n.1.2.ty.size+off+j]?=some v:=by rw[OM]at hj;have Ao:off+j<u.length:=(Eu.1 hj).1;rw[FG (by omega),GX (by omega)];rw[<-hj];congr 1;omega
   have h3:=Ak.cells (g:=g) (by rw[Aq];rfl) _ _ h2;rw[Addr.add_lit]at h3⊢;rw[DL]at h3;exact h3
  ·cases hj
 obtain⟨val,v1,v2⟩:=Rx f s2 Cq Dw s1;exact⟨_,val,rfl,v1,v2⟩
section
variable{P:Program}{o:Oper}{ρ:Operand->V}{bl:Nat->Option Blk}{β:Type}{r:β}
theorem eG{T:TypeId->Option TI}(hT:TOk P T){kk:K β}{t:TypeId}{x:Operand}(ho:o.op=.load t x)(hk:Rb T bl t (ρ x) kk=some r):Sound P o ρ bl kk r:=by
 unfold Rb at hk;split at hk
 ·cases hk
 rename_i ti ht;obtain⟨i,d,z,f⟩:=hT.facts ht;cases h1:(ti.agg||Nat.beq ti.size 1)with
 |false=>rw[h1]at hk;cases hk
 |true=>
  have Cq:ti.agg=true\/ti.size=1:=by
   rcases(KI _ _).mp h1 with h|h
   ·exact .inl h
   ·exact .inr (As h)
  simp only[h1,Am]at hk
  have AA:∀(a:Act)(w:World)(ad:Addr)(val:Value),a.eval x=.pointer (some ad)->(loadVar t ad).run P w=.ok val w->(execOp a.eval o).run P w=.ok (.value val) w:=by intro a w ad val ha hv;simp[execOp,ho,ha,Instr.loadAt,Instr.sureAddr,hv]
  split at hk
  ·
   rename_i b off hx;split at hk
   ·rename_i t0 cs hb
    split at hk
    ·rename_i rc AO
     refine Sound.pure hk λAa Ah ok0 base pl w a hr Ae=>?_;have Aw:Aa b=some (.cells t0 cs):=(Ah b (by simp)).trans hb;have hv:=Ae x (by simp[ho,Op.operands]);rw[hx]at hv;obtain⟨g,hg,Bm⟩:=hv;obtain⟨p,hp,hB⟩:=hr.blks b _ Aw;have:p=.cells g:=by have h2:pl b=some (.cells g):=hg;rw[hp]at h2;injection h2
     subst this;obtain⟨vs,hh,CH⟩:=hB;obtain⟨s1,s2,s3⟩:=MY CH AO;obtain⟨val,EU,Gf⟩:=Rx f s2 Cq (λj u hj=>Wq hh hj) s1;exact⟨val,AA a w _ val Bm EU,Gf⟩
    ·cases hk
   ·cases hk
  ·
   rename_i b ver ix off hx;split at hk
   ·rename_i t0 e ver' l hb
    cases AP:Nat.beq ver ver' with
    |false=>rw[AP]at hk;cases hk
    |true=>
     have:=As AP;subst this;simp only[AP,Am]at hk;split at hk
     ·rename_i rc AO
      refine Sound.pure hk λAa Ah ok0 base pl w a hr Ae=>?_;have Aw:Aa b=some (.row t0 e ver l):=(Ah b (by simp)).trans hb;have hv:=Ae x (by simp[ho,Op.operands]);rw[hx]at hv;obtain⟨sv,Ab,ad,hg,Bm,AT⟩:=hv;obtain⟨hi,g,n,c,Aq,rfl⟩:=(AT t0 e ver l Aw).2 rfl;obtain⟨p,hp,hB⟩:=hr.blks b _ Aw;have:p=.row sv Ab:=by have h2:pl b=some (.row sv Ab):=hg;rw[hp]at h2;injection h2
      subst this;obtain⟨_,xs,hd,Ak⟩:=hB;obtain⟨val,EU,Gf⟩:=Aki f Cq hd Ak hi Aq AO;exact⟨val,AA a w _ val Bm EU,Gf⟩
     ·cases hk
   ·cases hk
  ·
   rename_i e x0 off hx;split at hk
   ·rename_i rc AO
    refine Sound.pure hk λAa Ah ok0 base pl w a hr Ae=>?_;have hv:=Ae x (by simp[ho,Op.operands]);rw[hx]at hv;obtain⟨xs,ad,hd,Bm,hc⟩:=hv;have CH:=Hv (E:=Al ok0 base pl Aa w) hd;obtain⟨s1,s2,s3⟩:=MY CH AO
    obtain⟨val,EU,Gf⟩:=Rx f s2 Cq (λj u hj=>(hc j u (by
     rw[LH]at hj;split at hj
     ·exact hj
     ·cases hj)).2) s1
    exact⟨val,AA a w _ val Bm EU,Gf⟩
   ·cases hk
  ·
   rename_i b ver p ix off hx;split at hk
   ·rename_i q hq
    split at hk
    ·rename_i rc AO
     obtain⟨hb,AP,hn⟩:=Wo hq;subst AP;refine Sound.pure hk λAa Ah ok0 base pl w a hr Ae=>?_;have Aw:=(Ah b (by simp)).trans hb;have hv:=Ae x (by simp[ho,Op.operands]);rw[hx]at hv;obtain⟨ad,val,Bm,EU,Gf⟩:=Akj f Cq (E:=Al ok0 base pl Aa w) hr.blksOk Aw hv hn AO;exact⟨val,AA a w _ val Bm EU,Gf⟩
    ·cases hk
   ·cases hk
  ·cases hk
theorem eH(w:World)(g:Nat)(cs:Array Value):w.grownBy (w.setRow g cs) (some g):=
 ⟨rfl,rfl,rfl,by simp,λk _ hk=>setRow_other w g k _ (λe=>hk (by rw[e]))⟩
theorem xE{P:Program}{t:TypeId}{ti:TI}{i:TypeInfo}{d:TypeDesc}{z:Value}(f:TFacts P t ti i d z){w:World}{g off:Nat}{v:Value}{vs:List Value}{t0:TypeId}(hh:w.heap[g]?=some (.cells vs.toArray t0 (0,0)))(hl:v.cells.toList.length=ti.size)(BD:off+v.cells.toList.length<=vs.length)(h1:∀u∈v.cells.toList,u.oneCell'=true):(storeVar t ⟨g,off,none⟩ v).run P w=.ok () (w.setRow g (vs.take off++v.cells.toList++vs.drop (off+v.cells.toList.length)).toArray):=by
 have B5:=run_storeCells_at P g off t0 v.cells.toList 0 vs.toArray w hh (by simpa using BD) h1;have Gt:v.cells.size=ti.size:=by simpa using hl
 simp only[storeVar,Sem.run_bind,run_sizeOf f,Result.andThen_ok,Gt,ne_eq,VA,Cx];simpa using B5
theorem xF{P:Program}{t:TypeId}{ti:TI}{i:TypeInfo}{d:TypeDesc}{z:Value}(f:TFacts P t ti i d z){w:World}{base:Nat}{t0:TypeId}{size:Nat}{sv:Value}{m:Nat}{xs:List Value}(Ak:w.ownsRow base t0 size sv m xs){g o n c:Nat}(Aq:sv=.slice (some ⟨g,0,none⟩) n c){v:Value}(h1:∀u∈v.cells.toList,u.oneCell'=true)(hl:v.cells.toList.length=ti.size)(BD:o+v.cells.toList.length<=xs.length):∃w',(storeVar t ⟨g,o,none⟩ v).run P w=.ok () w'/\w.grownBy w' (some g)/\w'.ownsRow base t0 size sv m (xs.take o++v.cells.toList++xs.drop (o+v.cells.toList.length)):=by
 obtain⟨EJ,Dy⟩:=Ak;rcases Dy with⟨h0,_⟩|⟨g',cap,AQ,Jn,BR,hh,ES,EQ,Uw,If⟩
 ·rw[Aq]at h0;cases h0
 have hh:w.heap[g']?=some (.cells AQ t0 (0,0)):=hh
 have Fm:g'=g:=by rw[Aq]at Jn;injection Jn with e1 e2 e3;injection e1 with e1;injection e1 with e1;exact e1.symm
 subst Fm
 have AT:AQ.toList=xs++AQ.toList.drop (m*size):=by rw[<-If,LE]
 have tS:o+v.cells.toList.length<=AQ.toList.length:=by rw[AT];simp only[AE];omega
 have B5:=xE f (v:=v) (vs:=AQ.toList) (off:=o) (t0:=t0) (g:=g') (w:=w) (by simpa using hh) hl tS h1
 have HY:AQ.toList.take o++v.cells.toList++AQ.toList.drop (o+v.cells.toList.length)=xs.take o++v.cells.toList++xs.drop (o+v.cells.toList.length)++AQ.toList.drop (m*size):=by
  have e1:AQ.toList.take o=xs.take o:=by rw[AT,JM (by omega)]
  have e2:AQ.toList.drop (o+v.cells.toList.length)=xs.drop (o+v.cells.toList.length)++AQ.toList.drop (m*size):=by
   conv=>lhs;rw[AT]
   rw[OB BD]
  rw[e1,e2];simp only[Cw]
 have K1:(xs.take o++v.cells.toList++xs.drop (o+v.cells.toList.length)).length=xs.length:=by simp only[AE,FR,Il];omega
 refine⟨_,B5,eH w g' _,by rw[K1];exact EJ,.inr ⟨g',cap,_,Jn,BR,setRow_heap w g' _ _ t0 _ hh,ES,EQ,?_,?_⟩⟩
 ·have tF:AQ.size=cap*size:=Uw
  have:(AQ.toList.take o++v.cells.toList++AQ.toList.drop (o+v.cells.toList.length)).length=AQ.toList.length:=by simp only[AE,FR,Il];omega
  rw[VB,this,G3];exact tF
 ·simp only[HY]
  rw[JM (by rw[K1,EJ];exact AC _),G0 (by rw[K1,EJ];exact AC _)]
theorem Akk{P:Program}{t:TypeId}{ti:TI}{i:TypeInfo}{d:TypeDesc}{z:Value}(f:TFacts P t ti i d z){E:Env}(Ayx:DN E){base:Nat}{t0:TypeId}{e:Ty}{l:List e.den}{sv:Value}{xs:List Value}(hd:DList (λx u=>DRep E.w E.ok e x u) l xs)(Ak:E.w.ownsRow base t0 e.size sv l.length xs){ix off g n c:Nat}(hi:ix<l.length)(Aq:sv=.slice (some ⟨g,0,none⟩) n c){new rc:List C}{v:Value}(hy:CReps E new v.cells.toList)(M0:new.length=ti.size)(Ib:over (cells e (l.getD ix e.dflt)) off new=some rc){x':e.den}(uG:JQ (λ_=>none) e rc=some x'):∃w' Dk,(storeVar t ⟨g,ix*e.size+off,none⟩ v).run P E.w=.ok () w'/\E.w.grownBy w' (some g)/\DList (λx u=>DRep E.w E.ok e x u) (l.set ix x') Dk/\w'.ownsRow base t0 e.size sv l.length Dk:=by
 obtain⟨u,p1,q1,UZ,El,Mw⟩:=DList.get e.dflt hd hi;have CH:=Hv (E:=E) Mw;obtain⟨s1,s2⟩:=Ru CH hy Ib;have Aio:=hy.length;have bG:=Mw.length;have D6:=Na Ayx (Rows.none _ _) s1 uG;have ACb:=D6.length;obtain⟨p2,u2,q2,AiQ,CB,AC9,Cf⟩:=DList.set x' _ hd hi D6
 have aZ:p1=p2/\u=u2/\q1=q2:=by rw[UZ]at AiQ;have h3:=VI AiQ (by omega);have h4:=VI h3.2 (by omega);exact⟨h3.1,h4.1,h4.2⟩
 obtain⟨rfl,rfl,rfl⟩:=aZ
 have Azh:ix*e.size+off+v.cells.toList.length<=xs.length:=by rw[UZ];simp only[AE];omega
 obtain⟨w',h1,h2,h3⟩:=xF f Ak (o:=ix*e.size+off) Aq hy.oneCell (by omega) Azh;refine⟨w',_,h1,h2,Cf,?_⟩
 have:p1++(u.take off++v.cells.toList++u.drop (off+v.cells.toList.length)++q1)=xs.take (ix*e.size+off)++v.cells.toList++xs.drop (ix*e.size+off+v.cells.toList.length):=by
  rw[UZ]
  have e1:(p1++(u++q1)).take (ix*e.size+off)=p1++u.take off:=by rw[VE,G0 (by omega),JM (by omega)];congr 2;omega
  have e2:(p1++(u++q1)).drop (ix*e.size+off+v.cells.toList.length)=u.drop (off+v.cells.toList.length)++q1:=by rw[QU,OH (by omega),Gi,OB (by omega)];congr 2;omega
  rw[e1,e2];simp only[Cw]
 rw[this];exact h3
theorem Ry{T:TypeId->Option TI}(hT:TOk P T){kk:K β}{t:TypeId}{x y:Operand}(ho:o.op=.store t x y)(hk:MT T bl t (ρ x) (ρ y) kk=some r):Sound P o ρ bl kk r:=by
 unfold MT at hk;split at hk
 ·rename_i ti new ht HY
  obtain⟨i,d,z,f⟩:=hT.facts ht;cases Bb:Nat.beq new.length ti.size with
  |false=>rw[Bb]at hk;cases hk
  |true=>
   have M0:=As Bb;simp only[Bb,Am]at hk
   have AA:∀(a:Act)(w w':World)(ad:Addr),a.eval x=.pointer (some ad)->(storeVar t ad (a.eval y)).run P w=.ok () w'->(execOp a.eval o).run P w=.ok .skip w':=by intro a w w' ad ha hv;simp[execOp,ho,ha,Instr.storeAt,Instr.sureAddr,hv]
   split at hk
   ·rename_i b off hx
    split at hk
    ·rename_i t0 cs hb
     split at hk
     ·rename_i rc Ib
      refine⟨_,_,_,hk,λAa Ah=>?_⟩;have Aw:Aa b=some (.cells t0 cs):=(Ah b (by simp)).trans hb;intro ok0 base pl w a hr Ae K Q hK;have hv:=Ae x (by simp[ho,Op.operands]);rw[hx]at hv;obtain⟨g,hg,Bm⟩:=hv;obtain⟨p,hp,hB⟩:=hr.blks b _ Aw;have:p=.cells g:=by have h2:pl b=some (.cells g):=hg;rw[hp]at h2;injection h2
      subst this;obtain⟨vs,hh,CH⟩:=hB;have hy:=VRep.cells_of HY (Ae y (by simp[ho,Op.operands]));obtain⟨s1,s2⟩:=Ru CH hy Ib;have Aio:=hy.length;have B5:=xE f (v:=a.eval y) hh (by omega) s2 hy.oneCell;have GP:=eH w g (vs.take off++(a.eval y).cells.toList++vs.drop (off+(a.eval y).cells.toList.length)).toArray;have hs:=Step.wrote (cs':=rc) hr Aw hp GP;refine MX (AA a w _ _ Bm B5) (hK undef (upd pl b (.cells g)) _ ?_ hs trivial);exact RelB.wrote hr Aw hp GP ⟨_,setRow_heap w g _ _ t0 _ hh,s1.mono hs.ext⟩
     ·cases hk
    ·cases hk
   ·rename_i b ver ix off hx
    split at hk
    ·rename_i t0 e ver' l hb
     cases AP:Nat.beq ver ver' with
     |false=>rw[AP]at hk;cases hk
     |true=>
      have:=As AP;subst this;simp only[AP,Am]at hk;split at hk
      ·rename_i rc Ib
       split at hk
       ·rename_i x' uG
        refine⟨_,_,_,hk,λAa Ah=>?_⟩;have Aw:Aa b=some (.row t0 e ver l):=(Ah b (by simp)).trans hb;intro ok0 base pl w a hr Ae K Q hK;have hv:=Ae x (by simp[ho,Op.operands]);rw[hx]at hv;obtain⟨sv,Ab,ad,hg,Bm,AT⟩:=hv;obtain⟨hi,g,n,c,Aq,rfl⟩:=(AT t0 e ver l Aw).2 rfl;obtain⟨p,hp,hB⟩:=hr.blks b _ Aw;have:p=.row sv Ab:=by have h2:pl b=some (.row sv Ab):=hg;rw[hp]at h2;injection h2
        subst this;obtain⟨h0,xs,hd,Ak⟩:=hB;subst h0;have hy:=VRep.cells_of HY (Ae y (by simp[ho,Op.operands]));obtain⟨w',Dk,B5,GP,Cf,Dy⟩:=Akk f (E:=Al ok0 base pl Aa w) hr.blksOk hd Ak hi Aq hy M0 Ib uG;have Aj:sv.ownBlock=some g:=by rw[Aq];rfl
        have Ai7:w.grownBy w' sv.ownBlock:=by rw[Aj];exact GP
        have hs:=Step.grown (l':=l.set ix x') hr Aw hp Ai7 (.inl rfl) ⟨AC _,λ_=>⟨rfl,by simp⟩⟩;have Gb:=hs.ext (ok0:=ok0) (base:=base);refine MX (AA a w _ _ Bm B5) (hK undef (upd pl b (.row sv [])) _ ?_ hs trivial);exact RelB.grown hr Aw hp Ai7 (.inl rfl) ⟨AC _,λ_=>⟨rfl,by simp⟩⟩ ⟨rfl,Dk,Cf.mono λx u hu=>hu.mono Gb.heap,by rw[LI];exact Dy⟩
       ·cases hk
      ·cases hk
    ·cases hk
   ·
    rename_i b ver p ix off hx;split at hk
    ·rename_i t0 e ver' Ag l hb
     cases AP:Nat.beq ver (tv ver' Ag p)with
     |false=>rw[AP]at hk;cases hk
     |true=>
      have:=As AP;subst this;simp only[AP,Am]at hk;split at hk
      ·rename_i n hn
       split at hk
       ·rename_i x' K5
        refine⟨_,_,_,hk,λAa Ah=>?_⟩;have Aw:Aa b=some (.tree t0 e ver' Ag none l):=(Ah b (by simp)).trans hb;intro ok0 base pl w a hr Ae K Q hK;have hv:=Ae x (by simp[ho,Op.operands]);rw[hx]at hv;obtain⟨sv,Ab,n',s,g,m,c,Be,hT,DR,hs,hi,Aq,Bm⟩:=x9 (E:=Al ok0 base pl Aa w) hr.blksOk Aw hv;have:=KP DR;rw[hn]at this;injection this with this;subst this;have hp:pl b=some (.row sv Ab):=Be;have hy:=VRep.cells_of HY (Ae y (by simp[ho,Op.operands]));have Aio:=hy.length;obtain⟨xs,Ak,BD,GN⟩:=hT.leaf hr.blksOk DR hs hi Aq hy K5;have AzU:=Same.write DR hi K5;obtain⟨w',B5,GP,Dy⟩:=xF f Ak (o:=ix*n.1.2.ty.size+off) Aq hy.oneCell (by omega) BD;have Aj:s.ownBlock=some g:=by rw[Aq];rfl
        have Ia:∀g',some g=some g'->(Pl.row sv Ab).has g':=λg' h=>by
         injection h with h;subst h;rcases Bf.1 (CI hs)with h1|h1
         ·injection h1 with h1;exact .inl (h1▸Aj)
         ·obtain⟨j,hj⟩:=OI.1 h1;exact .inr ⟨j,s,hj,Aj⟩
        have NY:KeepR (some (.tree t0 e ver' Ag none l)) (some (.tree t0 e ver' Ag none (setD (.r t0 e) l 0 p n.1.2 (n.2.set ix x')))) sv Ab sv Ab:=
         KeepR.ofTree ⟨AC _,AC _,λ_=>⟨rfl,KeepT.same AzU sv Ab⟩⟩
        have AiH:=Step.grownP hr Aw rfl hp GP Ia (λg h=>.inl h) NY;have Gb:=AiH.ext (ok0:=ok0) (base:=base);refine MX (AA a w _ _ Bm B5) (hK undef (upd pl b (.row sv Ab)) _ ?_ AiH trivial);exact RelB.grownP hr Aw rfl hp GP Ia (λg h=>.inl h) NY (GN _ Gb rfl (λg' h AL=>GP.block g' (Own.lt hr ⟨b,_,_,Aw,rfl,hp,h⟩) (λh2=>AL (by injection h2))) Dy)
       ·cases hk
      ·cases hk
    ·
     rename_i t0 e ver' Ag PP l hb;cases AP:Nat.beq ver (tv ver' Ag p)with
     |false=>rw[AP]at hk;cases hk
     |true=>
      have:=As AP;subst this;simp only[AP,Am]at hk;split at hk
      ·rename_i n rr m hn AzS
       split at hk
       ·rename_i BW
        obtain⟨AzE,hk⟩:=D2 hk;have:=xD AzE;subst this;refine⟨_,_,_,hk,λAa Ah=>?_⟩;have Aw:Aa b=some (.tree t0 e ver' Ag (some (p++[(ix,off)])) l):=(Ah b (by simp)).trans hb;intro ok0 base pl w a hr Ae K Q hK;have hv:=Ae x (by simp[ho,Op.operands]);rw[hx]at hv;obtain⟨sv,Ab,ad,hg,Bm,AT⟩:=hv
        obtain⟨n0,s,I4,hs,hi,g,m0,c,Aq,rfl⟩:=(AT _ _ _ _ _ _ Aw).2 rfl (λq hq I5=>by injection hq with hq;subst hq;have:=I5.length_le;simp only[AE,GY]at this;omega)
        obtain⟨q,hp,hB⟩:=hr.blks b _ Aw;have:q=.row sv Ab:=by have h2:pl b=some (.row sv Ab):=hg;rw[hp]at h2;injection h2
        subst this;have AiM:=Ae y (by simp[ho,Op.operands]);obtain⟨svr,Fr,Br,Mu,aS,Azr,Q1,hu,Aiw,Ie⟩:=eF (E:=Al ok0 base pl Aa w) hr.blksOk AzS (Ah rr (by simp)) AiM;have Mu:Aa rr=some Br:=Mu;have Q1:pl rr=some (.row (a.eval y) svr):=Q1;have Hm:Br.live=true:=by cases Br<;>first|rfl|exact absurd rfl aS
        have uK:rr≠b:=by rintro rfl;rw[Aw]at Mu;injection Mu with Mu;exact Azr _ _ _ _ _ _ Mu.symm
        have Aiv:∀g',(Pl.row sv Ab).has g'->Co pl Aa b g':=λg' h=>⟨_,_,Aw,rfl,hp,h⟩;have AzB:∀s'∈a.eval y::Fr,∀g',s'.ownBlock=some g'->Co pl Aa rr g':=λs' BN g' h=>⟨_,_,Mu,Hm,Q1,Nb Aiw BN h⟩;have hsep:∀s'∈a.eval y::Fr,∀g',s'.ownBlock=some g'->¬(Pl.row sv Ab).has g':=λs' BN g' h h2=>hr.sep rr b _ _ _ _ g' uK Mu Aw Hm rfl Q1 hp (Nb Aiw BN h) h2;have HZ:∀g',(Pl.row sv Ab).has g'->¬(Al ok0 base pl Aa w).ok g':=λg' h h2=>h2.2 ⟨b,_,_,Aw,rfl,hp,h⟩;obtain⟨⟨old,Dw⟩,NQ,Bl,Az0,GN⟩:=TreeOk.put (E:=Al ok0 base pl Aa w) hB I4 hs hi Aq HZ hn BW hu Ie hsep;have Q4:(a.eval y).oneCell'=true:=(hu (a.eval y)).oneCell _ (by simp)
        have tG:(a.eval y).cells=#[a.eval y]:=by obtain⟨_,_,_,z1,_,z3,_⟩:=hu (a.eval y);have z1:=(JO z1).1;rw[z1];rcases z3.2 with⟨h,_⟩|⟨g,cap,AQ,h,_⟩<;>rw[h]<;>rfl
        have B5:(storeVar t ⟨g,ix*n0.1.2.ty.size+off,none⟩ (a.eval y)).run P w=.ok () (w.setCell ⟨g,ix*n0.1.2.ty.size+off,none⟩ (a.eval y)):=by
         have Uv:new.length=1:=by have:=(VRep.cells_of HY AiM).length;rw[tG]at this;simpa using this.symm
         have Dw:w.cell? ⟨g,ix*n0.1.2.ty.size+off,none⟩=some old:=Dw;have NQ:w.frozen? ⟨g,ix*n0.1.2.ty.size+off,none⟩=false:=NQ;have C3:(a.eval y).cells.size=ti.size:=by rw[tG];simp;omega
         simp only[storeVar,Sem.run_bind,run_sizeOf f,Result.andThen_ok,C3,ne_eq,VA,Cx];rw[tG];have sX:(⟨g,ix*n0.1.2.ty.size+off,none⟩:Addr).add 0=⟨g,ix*n0.1.2.ty.size+off,none⟩:=by simp[Addr.add]
         simp only[storeCells,Sem.run_bind,sX,run_store P w _ _ _ Q4,Dw,NQ,HE,Cx,Result.andThen_ok];rfl
        have Aj:s.ownBlock=some g:=by rw[Aq];rfl
        have Az2:(Pl.row sv Ab).has g:=by
         rcases Bf.1 (CI hs)with h1|h1
         ·injection h1 with h1;exact .inl (h1▸Aj)
         ·obtain⟨j,hj⟩:=OI.1 h1;exact .inr ⟨j,s,hj,Aj⟩
        have GP:w.grownBy (w.setCell ⟨g,ix*n0.1.2.ty.size+off,none⟩ (a.eval y)) (some g):=
         ⟨rfl,rfl,rfl,by simp[World.setCell],λk _ hk=>heap_setCell_other w _ k _ (λe=>hk (by rw[e]))⟩
        have GN:=λ(E':Env)(h1:E'.w=w.setCell ⟨g,ix*n0.1.2.ty.size+off,none⟩ (a.eval y))=>GN E' h1;generalize w.setCell ⟨g,ix*n0.1.2.ty.size+off,none⟩ (a.eval y)=w' at*
        have Aiq:∀g',(Pl.row sv Bl).has g'->Co pl Aa rr g'\/Co pl Aa b g'\/w.heap.size<=g':=λg' h=>by
         rcases Az0 g' h with h|⟨s',BN,h⟩
         ·exact .inr (.inl (Aiv g' h))
         ·exact .inl (AzB s' BN g' h)
        have Ia:∀g',some g=some g'->Co pl Aa rr g'\/Co pl Aa b g':=λg' h=>by injection h with h;subst h;exact .inr (Aiv _ Az2)
        have Es:Step pl Aa w (upd (upd pl rr (.row (a.eval y) [])) b (.row sv Bl)) (upd (upd Aa rr .dead) b (.tree t0 e ver' (Ag+1) none (setD (.r t0 e) l 0 (p++[(ix,off)]) m.1.2 m.2))) w':=by
         refine Step.two hr uK GP Ia (λg' h=>by cases h) (λg' _ h=>Aiq g' h) (λg' h=>by rw[Q1]at h;cases h) (λg' h=>by rw[hp]at h;cases h) (λsv0 Vq h=>?_) (λsv0 Vq h=>?_)
         ·rw[Q1]at h
          injection h with h;injection h with h h2;subst h h2;exact⟨_,_,rfl,KeepR.ofDead⟩
         ·rw[hp]at h
          injection h with h;injection h with h h2;subst h h2;refine⟨_,_,rfl,?_⟩;rw[Aw];refine KeepR.ofTree ⟨AC _,by omega,λ_=>⟨rfl,λq hq ho=>?_⟩⟩;rcases hq with rfl|hq
          ·refine⟨λQ hQ I5=>?_,λn2 CS=>?_⟩
           ·injection hQ with hQ
            subst hQ;have:=List.prefix_nil.1 I5;simp at this
           ·simp only[B3,Af]at CS
            subst CS;refine⟨⟨(t0,e),setD (.r t0 e) l 0 (p++[(ix,off)]) m.1.2 m.2⟩,rfl,rfl,?_,λs hs=>hs⟩;cases p<;>simp[setD]
          ·omega
        have Gb:=Es.ext (ok0:=ok0) (base:=base);refine MX (AA a w _ _ Bm B5) (hK undef (upd (upd pl rr (.row (a.eval y) [])) b (.row sv Bl)) _ ?_ Es trivial);refine RelB.two hr uK GP Ia (λg' h=>by cases h) (λg' _ h=>Aiq g' h) (λg' h=>by cases h) Es trivial (GN _ rfl rfl λg' h Ao=>(Gb.heap g' h Ao).1)
       ·cases hk
      ·cases hk
    ·cases hk
   ·cases hk
 ·cases hk
end
end Go.Lift
