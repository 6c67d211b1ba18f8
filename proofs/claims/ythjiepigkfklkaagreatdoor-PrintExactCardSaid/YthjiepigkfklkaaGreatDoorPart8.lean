/- Part8 -/
import Derived.Lay
import Derived.MakeChecks
import Derived.Stop.LaidErr
import Derived.HandedShaped
import Derived.Stop.Joined
import Derived.Test.YthjiepigkfklkaaGreatDoorPart7
set_option linter.unusedVariables false
set_option linter.unusedSectionVars false
set_option linter.unusedSimpArgs false
open _root_ renaming List → Ye
open Option renaming some → Yg
open Go renaming TypeId → Yr
open Go.OpenSpec renaming ofChange → Ybd
namespace Go.Lift
open Go.RowKit Go.ChangeShapes
theorem Av7{a:Assume}{C:Checked}{os:Os}{f:FuncId}{fn:Func}{s:ChangeSpec}{conds:Ye PathCond}{apart fresh handsOn again:Bool}{H:Type}{enc:Yr×Value->H}{laid:Ye (String×DataW Unit)}(own:ownKnob C.prog.godebug=none)(started:os.Started)(noInit:C.prog.inits.idxOf? f=none)(CD:C.prog.funcs[f]?=Yg fn)(witness:∃(w:World)(tape:Tape)(i:Input),w.os=os/\(w.forCall tape i).Shaped C.prog/\i.vars=[]/\Input.okWide C.prog (w.forCall tape i) .any w.heap.size f i/\((s.pre enc C.prog fn conds apart (w.forCall tape i).memory i.args/\laidMetH C.prog laid (w.forCall tape i).memory)/\sizedMet enc C.prog fn (Ybd s) apart (w.forCall tape i).memory i.args)/\a.holds C.prog (lone (Frame.enter C.prog f i.args .normal) [] (w.forCall tape i)))(contract:∀(W:World)(base:Nat)(args:Array Value)(ds gs:Ye (DataW H))(before:Ye MemPlace),(∀(j:Nat) t v,fn.params[j]?=Yg t->args[j]?=Yg v->Value.okWide C.prog W .any base t v)->DataW.Whole enc C.prog fn.params.toList s.vars apart W args.toList ds gs before->W.ShapedOpen C.prog->laidMetH C.prog laid W->Calls C.prog f args W λe W'=>∃v,e=.returned v/\s.post enc C.prog fn apart fresh handsOn again W args v W'):ReturnsInHanded a C os f .any (λw args=>(s.pre enc C.prog fn conds apart w args/\laidMetH C.prog laid w)/\sizedMet enc C.prog fn (Ybd s) apart w args) (s.post enc C.prog fn apart fresh handsOn again):=by
 refine returnsInHanded_of_calls own started noInit witness ?_;intro w tape i _ Nw _ Ds JL _;obtain⟨_,_,_,AKF,ALh,_,_,_,_,Zr⟩:=Ds;have e:AKF=fn:=Pg (ALh.symm.trans CD);subst e;obtain⟨⟨⟨ds,gs,before,hw,hc⟩,hx⟩,hz⟩:=JL;have ArN:=DataW.Whole.of_heap (w':=w.forCall tape i) (by rfl) hw;refine(contract (w.forCall tape i) w.heap.size i.args ds gs before Zr ArN Nw (laidMetH.of_heap (by rfl) hx)).mono λe W' ⟨v,he,hp⟩=>?_;subst he;exact ChangeSpec.post_blind hp
theorem AgA{P:Program}{W:World}{name nm:String}{d:DataW Unit}{rest:Ye (String×DataW Unit)}{g:Nat}{ti:Yr}{ms:Array (String×Yr)}(hg:P.globalNamed name=Yg g)(Cz:(P.globals[g]?).map (·.type)=Yg ti)(hi:P.underlying ti=Yg (.interface ms))(h:laidMet P ((name,.iface nm d)::rest) W):∃t u,W.var? P name=Yg #[.iface t u]:=by
 obtain⟨ps,⟨g',t',cs,fuel,p,q,CK,Lu,AMl,hd,_,_⟩,_⟩:=h;obtain rfl:=Pg (hg.symm.trans CK);obtain rfl:=Pg (Cz.symm.trans Lu);obtain⟨_,u,v,hc,_⟩:=iface_of_trod hi hd;refine⟨u,v,?_⟩;rw[AMl,<-hc]
end Go.Lift
