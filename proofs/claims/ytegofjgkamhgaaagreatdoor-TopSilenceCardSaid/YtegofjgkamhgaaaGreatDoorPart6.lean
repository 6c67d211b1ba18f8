/- Part6 -/
import Derived.Lay
import Derived.MakeChecks
import Derived.Stop.LaidErr
import Derived.HandedShaped
import Derived.Stop.Joined
import Derived.Test.YtegofjgkamhgaaaGreatDoorPart3
set_option linter.unusedVariables false
set_option linter.unusedSectionVars false
set_option linter.unusedSimpArgs false
namespace Go.Lift
open Go.RowKit Go.ChangeShapes
theorem AoA{a:Assume}{C:Checked}{os:Os}{f:FuncId}{fn:Func}{s:ChangeSpec}{conds:List PathCond}{apart fresh handsOn again:Bool}{H:Type}{enc:TypeId×Value->H}{laid:List (String×DataW Unit)}(own:ownKnob C.prog.godebug=none)(started:os.Started)(noInit:C.prog.inits.idxOf? f=none)(B9:C.prog.funcs[f]?=some fn)(witness:∃(w:World)(tape:Tape)(i:Input),w.os=os/\(w.forCall tape i).Shaped C.prog/\i.vars=[]/\Input.okWide C.prog (w.forCall tape i) .any w.heap.size f i/\((s.pre enc C.prog fn conds apart (w.forCall tape i).memory i.args/\laidMetH C.prog laid (w.forCall tape i).memory)/\sizedMet enc C.prog fn (OpenSpec.ofChange s) apart (w.forCall tape i).memory i.args)/\a.holds C.prog (lone (Frame.enter C.prog f i.args .normal) [] (w.forCall tape i)))(contract:∀(W:World)(base:Nat)(args:Array Value)(ds gs:List (DataW H))(before:List MemPlace),(∀(j:Nat) t v,fn.params[j]?=some t->args[j]?=some v->Value.okWide C.prog W .any base t v)->DataW.Whole enc C.prog fn.params.toList s.vars apart W args.toList ds gs before->W.ShapedOpen C.prog->laidMetH C.prog laid W->Calls C.prog f args W λe W'=>∃v,e=.returned v/\s.post enc C.prog fn apart fresh handsOn again W args v W'):ReturnsInHanded a C os f .any (λw args=>(s.pre enc C.prog fn conds apart w args/\laidMetH C.prog laid w)/\sizedMet enc C.prog fn (OpenSpec.ofChange s) apart w args) (s.post enc C.prog fn apart fresh handsOn again):=by
 refine returnsInHanded_of_calls own started noInit witness ?_;intro w tape i _ M7 _ BS J8 _;obtain⟨_,_,_,AD2,ADv,_,_,_,_,V0⟩:=BS;have e:AD2=fn:=NX (ADv.symm.trans B9);subst e;obtain⟨⟨⟨ds,gs,before,hw,hc⟩,hx⟩,hz⟩:=J8;have V3:=DataW.Whole.of_heap (w':=w.forCall tape i) (by rfl) hw;refine(contract (w.forCall tape i) w.heap.size i.args ds gs before V0 V3 M7 (laidMetH.of_heap (by rfl) hx)).mono λe W' ⟨v,he,hp⟩=>?_;subst he;exact ChangeSpec.post_blind hp
theorem AbK{P:Program}{W:World}{name nm:String}{d:DataW Unit}{B5:List (String×DataW Unit)}{g:Nat}{ti:TypeId}{ms:Array (String×TypeId)}(hg:P.globalNamed name=some g)(Cc:(P.globals[g]?).map (·.type)=some ti)(hi:P.underlying ti=some (.interface ms))(h:laidMet P ((name,.iface nm d)::B5) W):∃t u,W.var? P name=some #[.iface t u]:=by
 obtain⟨ps,⟨g',t',cs,fuel,p,q,BB,M8,AEG,hd,_,_⟩,_⟩:=h;obtain rfl:=NX (hg.symm.trans BB);obtain rfl:=NX (Cc.symm.trans M8);obtain⟨_,u,v,hc,_⟩:=iface_of_trod hi hd;refine⟨u,v,?_⟩;rw[AEG,<-hc]
end Go.Lift
