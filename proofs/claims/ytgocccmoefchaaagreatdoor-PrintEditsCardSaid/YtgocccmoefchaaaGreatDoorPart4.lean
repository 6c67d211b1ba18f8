/- Part4: LiftXl. -/
import Derived.Lay
import Derived.MakeChecks
import Derived.Stop.LaidErr
import Derived.HandedShaped
import Derived.Stop.Joined
import Derived.Test.YtgocccmoefchaaaGreatDoorPart3
set_option linter.unusedVariables false
set_option linter.unusedSectionVars false
set_option linter.unusedSimpArgs false
namespace Go.Lift
open Go.RowKit Go.ChangeShapes
theorem AlP{a:Assume}{C:Checked}{os:Os}{f:FuncId}{fn:Func}{s:ChangeSpec}{conds:List PathCond}{apart fresh handsOn again:Bool}{H:Type}{enc:TypeId×Value->H}{laid:List (String×DataW Unit)}(own:ownKnob C.prog.godebug=none)(started:os.Started)(noInit:C.prog.inits.idxOf? f=none)(Cl:C.prog.funcs[f]?=some fn)(witness:∃(w:World)(tape:Tape)(i:Input),w.os=os/\(w.forCall tape i).Shaped C.prog/\i.vars=[]/\Input.okWide C.prog (w.forCall tape i) .any w.heap.size f i/\((s.pre enc C.prog fn conds apart (w.forCall tape i).memory i.args/\laidMetH C.prog laid (w.forCall tape i).memory)/\sizedMet enc C.prog fn (OpenSpec.ofChange s) apart (w.forCall tape i).memory i.args)/\a.holds C.prog (lone (Frame.enter C.prog f i.args .normal) [] (w.forCall tape i)))(contract:∀(W:World)(base:Nat)(args:Array Value)(ds gs:List (DataW H))(before:List MemPlace),(∀(j:Nat) t v,fn.params[j]?=some t->args[j]?=some v->Value.okWide C.prog W .any base t v)->DataW.Whole enc C.prog fn.params.toList s.vars apart W args.toList ds gs before->W.ShapedOpen C.prog->laidMetH C.prog laid W->Calls C.prog f args W λe W'=>∃v,e=.returned v/\s.post enc C.prog fn apart fresh handsOn again W args v W'):ReturnsInHanded a C os f .any (λw args=>(s.pre enc C.prog fn conds apart w args/\laidMetH C.prog laid w)/\sizedMet enc C.prog fn (OpenSpec.ofChange s) apart w args) (s.post enc C.prog fn apart fresh handsOn again):=by
 refine returnsInHanded_of_calls own started noInit witness ?_;intro w tape i _ L3 _ Dg I5 _;obtain⟨_,_,_,Aym,AyX,_,_,_,_,UU⟩:=Dg;have e:Aym=fn:=MM (AyX.symm.trans Cl);subst e;obtain⟨⟨⟨ds,gs,before,hw,hc⟩,hx⟩,hz⟩:=I5;have AiN:=DataW.Whole.of_heap (w':=w.forCall tape i) (by rfl) hw;refine(contract (w.forCall tape i) w.heap.size i.args ds gs before UU AiN L3 (laidMetH.of_heap (by rfl) hx)).mono λe W' ⟨v,he,hp⟩=>?_;subst he;exact ChangeSpec.post_blind hp
theorem zT{P:Program}{W:World}{name nm:String}{d:DataW Unit}{BA:List (String×DataW Unit)}{g:Nat}{ti:TypeId}{ms:Array (String×TypeId)}(hg:P.globalNamed name=some g)(BW:(P.globals[g]?).map (·.type)=some ti)(hi:P.underlying ti=some (.interface ms))(h:laidMet P ((name,.iface nm d)::BA) W):∃t u,W.var? P name=some #[.iface t u]:=by
 obtain⟨ps,⟨g',t',cs,fuel,p,q,C2,M9,AA5,hd,_,_⟩,_⟩:=h;obtain rfl:=MM (hg.symm.trans C2);obtain rfl:=MM (BW.symm.trans M9);obtain⟨_,u,v,hc,_⟩:=iface_of_trod hi hd;refine⟨u,v,?_⟩;rw[AA5,<-hc]
end Go.Lift
