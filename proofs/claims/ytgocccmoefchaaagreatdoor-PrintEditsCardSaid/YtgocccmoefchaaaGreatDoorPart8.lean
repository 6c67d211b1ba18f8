/- Part8: LiftY, LiftUa. -/
import Derived.KernelRfl
import Derived.Test.YtgocccmoefchaaaGreatDoorPart5
set_option linter.unusedVariables false
set_option linter.unusedSectionVars false
set_option linter.unusedSimpArgs false
namespace Go.Lift
open Go.RowKit
@[reducible] def ABD(e:Ty)(bytes:Nat){β:Type}(l:List e.den)(k:List e.den->Option β):Option β:=
 cond (decide (l.length*bytes<=Bt)) (k l) none
end Go.Lift
namespace Go.Lift
noncomputable section
open Go.RowKit
section
theorem CT.app_lam{R:Type}:∀(l:List CT)(f:CT.dens l->R)(d:CT.dens l),CT.app l (CT.lam l f) d=f d
 |[],_,_=>rfl
 |c::r,f,d=>by cases c<;>first|exact CT.app_lam r _ d|exact CT.app_lam r _ d.2
theorem ST.app_lam{R:Type}:∀(l:List (Bool×List CT))(f:ST.dens l->R)(d:ST.dens l),ST.app l (ST.lam l f) d=f d
 |[],_,_=>rfl
 |t::r,f,d=>by show ST.app r (CT.app t.2 (CT.lam t.2 λa=>ST.lam r λd=>f (a,d)) d.1) d.2=_;rw[CT.app_lam,ST.app_lam]
theorem BT.app_lam{R:Type}:∀(l:List BT)(f:BT.dens l->R)(d:BT.dens l),BT.app l (BT.lam l f) d=f d
 |[],_,_=>rfl
 |.cells _ l::r,f,d=>by show BT.app r (CT.app l (CT.lam l λa=>BT.lam r λd=>f (a,d)) d.1) d.2=_;rw[CT.app_lam,BT.app_lam]
 |.row _ _::r,f,d=>BT.app_lam r _ d.2
 |.map _ _ _ _::r,f,d=>BT.app_lam r _ d.2
 |.mat _ _ _::r,f,d=>BT.app_lam r _ d.2
 |.tree _ _::r,f,d=>BT.app_lam r _ d.2
 |.fmap _ _::r,f,d=>BT.app_lam r _ d
theorem Aad{R:Type}(s:List (Bool×List CT))(b:List BT)(g:ST.dens s×BT.dens b->R)(d:ST.dens s×BT.dens b):vapp s b (vlam s b g) d=g d:=by unfold vapp vlam;rw[ST.app_lam,BT.app_lam]
def selu{A:Type}:(c:Bool)->selT A (Unit->A) c->A
 |true,f=>f
 |false,f=>f ()
def kapp{R:Type}(s:List (Bool×List CT))(b:List BT)(f:KF R s b):ST.dens s×BT.dens b->R:=vapp s b (selu _ f)
theorem Am5{R:Type}{s:List (Bool×List CT)}{b:List BT}(f:VF R s b):∀c,selu c (selk (s:=s) (b:=b) f c)=f
 |true=>rfl
 |false=>rfl
theorem Am6{R:Type}(s:List (Bool×List CT))(b:List BT)(k:ST.dens s×BT.dens b->R):kapp s b (klam s b k)=k:=by funext d;unfold kapp klam;rw[Am5,Aad]
end
variable[S:Sl]
def WA(X:Ctx)(n:Nat)(c:Code)(ps:List (Bool×List CT))(is:List BT)(rs:List (Bool×List CT))(os:List BT)(vs:List RS){β:Type}(x:ST.dens ps×BT.dens is)(k:ST.dens rs×BT.dens os->Option β):Option β:=
 exec X n (λ_=>none) 1 c ((vIn ⟨ps,is,rs,os,λ_ _=>none⟩).mk' x) (retK X.T ⟨ps,is,rs,os,λ_ _=>none⟩ vs k)
theorem Aae(X:Ctx)(n:Nat)(c:Code){ps:List (Bool×List CT)}{is:List BT}{rs:List (Bool×List CT)}{os:List BT}(vs:List RS)(run:{β:Type}->ST.dens ps×BT.dens is->(ST.dens rs×BT.dens os->Option β)->Option β){β:Type}(x:ST.dens ps×BT.dens is)(k:ST.dens rs×BT.dens os->Option β):exec X n (λ_=>none) 1 c ((vIn ⟨ps,is,rs,os,run⟩).mk' x) (retK X.T ⟨ps,is,rs,os,run⟩ vs k)=WA X n c ps is rs os vs x k:=by
 have:retK X.T ⟨ps,is,rs,os,run⟩ vs k=retK X.T ⟨ps,is,rs,os,λ_ _=>none⟩ vs k:=by funext e σ;cases e<;>first|rfl|kernel_rfl
 rw[this];rfl
theorem Is{P:Program}(Dc:P.follows .mixedOrders=true){X:Ctx}(hT:TOk P X.T)(es:List (Ent P))(hX:X.Γ=gam es){ps rs:List (Bool×List CT)}{is os:List BT}{f:FuncId}{fn:Func}(vs:List RS)(hf:P.funcs[f]?=some fn)(hc:((fn.name== "runtime.NumGoroutine"),fn.body,fn.results.toList,(Nat.beq vs.length rs.length&&(ST.tidy rs&&Nat.ble ps.length fn.ntmps)))=(false,some (Az fn),vs.map RS.toVar,true)):SpecOkB P f ⟨ps,is,rs,os,λ{_} x k=>WA X fn.ntmps (Az fn) ps is rs os vs x k⟩:=by
 simp only[BC]at hc;obtain⟨h1,h2,h3,h4⟩:=hc;exact gH Dc hT (hX▸Js es) (Λ:=λ_=>none) hf h1 h2 h3 h4 (λ_ _ h=>nomatch h) λx k r hr=>(Aae X fn.ntmps (Az fn) vs _ x k).trans hr
noncomputable def Ent.auto{P:Program}(Dc:P.follows .mixedOrders=true){X:Ctx}(hT:TOk P X.T)(es:List (Ent P))(hX:X.Γ=gam es)(ps:List (Bool×List CT))(is:List BT)(rs:List (Bool×List CT))(os:List BT){f:FuncId}{fn:Func}(vs:List RS)(hf:P.funcs[f]?=some fn)(hc:((fn.name== "runtime.NumGoroutine"),fn.body,fn.results.toList,(Nat.beq vs.length rs.length&&(ST.tidy rs&&Nat.ble ps.length fn.ntmps)))=(false,some (Az fn),vs.map RS.toVar,true)):Ent P:=
 ⟨f,.spec _,(Is Dc hT es hX (ps:=ps) (is:=is) (rs:=rs) (os:=os) vs hf hc).spec⟩
def Jt(X:Ctx)(fn:Func)(ps:List (Bool×List CT))(is:List BT)(rs:List (Bool×List CT))(os:List BT)(vs:List RS){β:Type}:VF (KF (Option β) rs os->Option β) ps is:=
 hid (vlam ps is λx k=>WA X fn.ntmps (Az fn) ps is rs os vs x (kapp rs os k))
theorem Am7(X:Ctx)(fn:Func){ps:List (Bool×List CT)}{is:List BT}{rs:List (Bool×List CT)}{os:List BT}(vs:List RS){β:Type}(x:ST.dens ps×BT.dens is)(k:ST.dens rs×BT.dens os->Option β):vapp ps is (Jt X fn ps is rs os vs) x (klam rs os k)=WA X fn.ntmps (Az fn) ps is rs os vs x k:=by
 unfold Jt;rw[Ad,Aad,Am6]
theorem LX{P:Program}(Dc:P.follows .mixedOrders=true){X:Ctx}(hT:TOk P X.T)(es:List (Ent P))(hX:X.Γ=gam es){ps rs:List (Bool×List CT)}{is os:List BT}{f:FuncId}{fn:Func}(vs:List RS)(hf:P.funcs[f]?=some fn)(hc:((fn.name== "runtime.NumGoroutine"),fn.body,fn.results.toList,(Nat.beq vs.length rs.length&&(ST.tidy rs&&Nat.ble ps.length fn.ntmps)))=(false,some (Az fn),vs.map RS.toVar,true)):SpecOkB P f (sg ps is rs os λ{_}=>Jt X fn ps is rs os vs):=by
 simp only[BC]at hc;obtain⟨h1,h2,h3,h4⟩:=hc;refine gH Dc hT (hX▸Js es) (Λ:=λ_=>none) hf h1 h2 h3 h4 (λ_ _ h=>nomatch h) λx k r hr=>?_;exact(Aae X fn.ntmps (Az fn) vs _ x k).trans ((Am7 X fn vs x k).symm.trans hr)
end
end Go.Lift
