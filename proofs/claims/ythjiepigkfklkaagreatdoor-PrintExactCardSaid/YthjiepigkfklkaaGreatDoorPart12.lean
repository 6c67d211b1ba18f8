/- Part12 -/
import Derived.KernelRfl
import Derived.Test.YthjiepigkfklkaaGreatDoorPart9
set_option linter.unusedVariables false
set_option linter.unusedSectionVars false
set_option linter.unusedSimpArgs false
open _root_ renaming Option → Ya, List → Ye, Bool → Ys
open Option renaming none → Yf, some → Yg
open Nat renaming beq → Yo, ble → YI
open Bool renaming true → Yp
open Go renaming Program → Yw, FuncId → YA
namespace Go.Lift
open Go.RowKit
@[reducible] def AO2(e:Ty)(bytes:Nat){β:Type}(l:Ye e.den)(k:Ye e.den->Ya β):Ya β:=
 cond (decide (l.length*bytes<=AR)) (k l) Yf
end Go.Lift
namespace Go.Lift
noncomputable section
open Go.RowKit
section
theorem CT.app_lam{R:Type}:∀(l:Ye CT)(f:CT.dens l->R)(d:CT.dens l),CT.app l (CT.lam l f) d=f d
 |[],_,_=>rfl
 |c::r,f,d=>by cases c<;>first|exact CT.app_lam r _ d|exact CT.app_lam r _ d.2
theorem ST.app_lam{R:Type}:∀(l:Ye (Ys×Ye CT))(f:ST.dens l->R)(d:ST.dens l),ST.app l (ST.lam l f) d=f d
 |[],_,_=>rfl
 |t::r,f,d=>by show ST.app r (CT.app t.2 (CT.lam t.2 λa=>ST.lam r λd=>f (a,d)) d.1) d.2=_;rw[CT.app_lam,ST.app_lam]
theorem BT.app_lam{R:Type}:∀(l:Ye BT)(f:BT.dens l->R)(d:BT.dens l),BT.app l (BT.lam l f) d=f d
 |[],_,_=>rfl
 |.cells _ l::r,f,d=>by show BT.app r (CT.app l (CT.lam l λa=>BT.lam r λd=>f (a,d)) d.1) d.2=_;rw[CT.app_lam,BT.app_lam]
 |.row _ _::r,f,d=>BT.app_lam r _ d.2
 |.map _ _ _ _::r,f,d=>BT.app_lam r _ d.2
 |.mat _ _ _::r,f,d=>BT.app_lam r _ d.2
 |.tree _ _::r,f,d=>BT.app_lam r _ d.2
 |.fmap _ _::r,f,d=>BT.app_lam r _ d
theorem AgU{R:Type}(s:Ye (Ys×Ye CT))(b:Ye BT)(g:ST.dens s×BT.dens b->R)(d:ST.dens s×BT.dens b):vapp s b (vlam s b g) d=g d:=by unfold vapp vlam;rw[ST.app_lam,BT.app_lam]
def selu{A:Type}:(c:Ys)->selT A (Unit->A) c->A
 |true,f=>f
 |false,f=>f ()
def kapp{R:Type}(s:Ye (Ys×Ye CT))(b:Ye BT)(f:KF R s b):ST.dens s×BT.dens b->R:=vapp s b (selu _ f)
theorem Avn{R:Type}{s:Ye (Ys×Ye CT)}{b:Ye BT}(f:VF R s b):∀c,selu c (selk (s:=s) (b:=b) f c)=f
 |true=>rfl
 |false=>rfl
theorem Avo{R:Type}(s:Ye (Ys×Ye CT))(b:Ye BT)(k:ST.dens s×BT.dens b->R):kapp s b (klam s b k)=k:=by funext d;unfold kapp klam;rw[Avn,AgU]
end
variable[S:Sl]
def cI(X:Ctx)(n:Nat)(c:Code)(ps:Ye (Ys×Ye CT))(is:Ye BT)(rs:Ye (Ys×Ye CT))(os:Ye BT)(vs:Ye RS){β:Type}(x:ST.dens ps×BT.dens is)(k:ST.dens rs×BT.dens os->Ya β):Ya β:=
 exec X n (λ_=>Yf) 1 c ((vIn ⟨ps,is,rs,os,λ_ _=>Yf⟩).mk' x) (retK X.T ⟨ps,is,rs,os,λ_ _=>Yf⟩ vs k)
theorem AgV(X:Ctx)(n:Nat)(c:Code){ps:Ye (Ys×Ye CT)}{is:Ye BT}{rs:Ye (Ys×Ye CT)}{os:Ye BT}(vs:Ye RS)(run:{β:Type}->ST.dens ps×BT.dens is->(ST.dens rs×BT.dens os->Ya β)->Ya β){β:Type}(x:ST.dens ps×BT.dens is)(k:ST.dens rs×BT.dens os->Ya β):exec X n (λ_=>Yf) 1 c ((vIn ⟨ps,is,rs,os,run⟩).mk' x) (retK X.T ⟨ps,is,rs,os,run⟩ vs k)=cI X n c ps is rs os vs x k:=by
 have:retK X.T ⟨ps,is,rs,os,run⟩ vs k=retK X.T ⟨ps,is,rs,os,λ_ _=>Yf⟩ vs k:=by funext e σ;cases e<;>first|rfl|kernel_rfl
 rw[this];rfl
theorem J4{P:Yw}(Dp:P.follows .mixedOrders=Yp){X:Ctx}(hT:TOk P X.T)(es:Ye (Ent P))(hX:X.Γ=gam es){ps rs:Ye (Ys×Ye CT)}{is os:Ye BT}{f:YA}{fn:Func}(vs:Ye RS)(hf:P.funcs[f]?=Yg fn)(hc:((fn.name== "runtime.NumGoroutine"),fn.body,fn.results.toList,(Yo vs.length rs.length&&(ST.tidy rs&&YI ps.length fn.ntmps)))=(false,Yg (Au fn),vs.map RS.toVar,Yp)):SpecOkB P f ⟨ps,is,rs,os,λ{_} x k=>cI X fn.ntmps (Au fn) ps is rs os vs x k⟩:=by
 simp only[Cb]at hc;obtain⟨h1,h2,h3,h4⟩:=hc;exact sZ Dp hT (hX▸KU es) (Λ:=λ_=>Yf) hf h1 h2 h3 h4 (λ_ _ h=>nomatch h) λx k r hr=>(AgV X fn.ntmps (Au fn) vs _ x k).trans hr
noncomputable def Ent.auto{P:Yw}(Dp:P.follows .mixedOrders=Yp){X:Ctx}(hT:TOk P X.T)(es:Ye (Ent P))(hX:X.Γ=gam es)(ps:Ye (Ys×Ye CT))(is:Ye BT)(rs:Ye (Ys×Ye CT))(os:Ye BT){f:YA}{fn:Func}(vs:Ye RS)(hf:P.funcs[f]?=Yg fn)(hc:((fn.name== "runtime.NumGoroutine"),fn.body,fn.results.toList,(Yo vs.length rs.length&&(ST.tidy rs&&YI ps.length fn.ntmps)))=(false,Yg (Au fn),vs.map RS.toVar,Yp)):Ent P:=
 ⟨f,.spec _,(J4 Dp hT es hX (ps:=ps) (is:=is) (rs:=rs) (os:=os) vs hf hc).spec⟩
def KV(X:Ctx)(fn:Func)(ps:Ye (Ys×Ye CT))(is:Ye BT)(rs:Ye (Ys×Ye CT))(os:Ye BT)(vs:Ye RS){β:Type}:VF (KF (Ya β) rs os->Ya β) ps is:=
 hid (vlam ps is λx k=>cI X fn.ntmps (Au fn) ps is rs os vs x (kapp rs os k))
theorem Avp(X:Ctx)(fn:Func){ps:Ye (Ys×Ye CT)}{is:Ye BT}{rs:Ye (Ys×Ye CT)}{os:Ye BT}(vs:Ye RS){β:Type}(x:ST.dens ps×BT.dens is)(k:ST.dens rs×BT.dens os->Ya β):vapp ps is (KV X fn ps is rs os vs) x (klam rs os k)=cI X fn.ntmps (Au fn) ps is rs os vs x k:=by
 unfold KV;rw[Ad,AgU,Avo]
theorem NR{P:Yw}(Dp:P.follows .mixedOrders=Yp){X:Ctx}(hT:TOk P X.T)(es:Ye (Ent P))(hX:X.Γ=gam es){ps rs:Ye (Ys×Ye CT)}{is os:Ye BT}{f:YA}{fn:Func}(vs:Ye RS)(hf:P.funcs[f]?=Yg fn)(hc:((fn.name== "runtime.NumGoroutine"),fn.body,fn.results.toList,(Yo vs.length rs.length&&(ST.tidy rs&&YI ps.length fn.ntmps)))=(false,Yg (Au fn),vs.map RS.toVar,Yp)):SpecOkB P f (sg ps is rs os λ{_}=>KV X fn ps is rs os vs):=by
 simp only[Cb]at hc;obtain⟨h1,h2,h3,h4⟩:=hc;refine sZ Dp hT (hX▸KU es) (Λ:=λ_=>Yf) hf h1 h2 h3 h4 (λ_ _ h=>nomatch h) λx k r hr=>?_;exact(AgV X fn.ntmps (Au fn) vs _ x k).trans ((Avp X fn vs x k).symm.trans hr)
end
end Go.Lift
