/- Part5 -/
import Derived.Test.YtegofjgkamhgaaaGreatDoorPart4
import Derived.Test.YtegofjgkamhgaaaGreatDoorPart3
set_option linter.unusedVariables false
set_option linter.unusedSectionVars false
set_option linter.unusedSimpArgs false
open _root_ renaming List → Ya, Option → Yb, Nat → Yk
open Option renaming some → Yd, none → Ye
open Nat renaming beq → Ym, blt → Yz, ble → YB
open Bool renaming true → Yo
open Go renaming Program → Yv, World → Yx, wp_block → YaT
open Go.Exit renaming inBlock → Ybb
namespace Go.Lift
noncomputable section
open Go.RowKit
def hasR:Code->Bool
 |.rangeFunc _ _ _ _=>Yo
 |.seq a b=>hasR a||hasR b
 |.block _ a=>hasR a
 |.scope a=>hasR a
 |_=>false
def Jo{β:Type}(X:Ctx)(n:Yk)(b:BackF):Code->St->Kx β->Yb β
 |.seq x y,σ,k=>
  bif hasR x then
   Jo X n b x σ λe σ'=>
    match e with
    |.normal=>exec X n (λ_=>Ye) 1 y σ' k
    |e=>k e σ'
  else
   exec X n (λ_=>Ye) 1 x σ λe σ'=>
    match e with
    |.normal=>Jo X n b y σ' k
    |e=>k e σ'
 |.block id a,σ,k=>Jo X n b a σ λe σ'=>
  match e with
  |.exit Gw=>bif Ym Gw id then k .normal σ' else k (.exit Gw) σ'
  |e=>k e σ'
 |.scope a,σ,k=>Jo X n b a σ k
 |.rangeFunc (.tmp g) ps A B,σ,k=>
  match ps.toList,look σ.tm g with
  |[p1,p2],Yd (.c (.fn f [c1]))=>
   match look σ.bl c1 with
   |some (.cells _ [.list e l])=>
    if e=b.e then
     bif Ym f b.f&&(Yz p1 n&&(Yz p2 n&&Yz 0 e.size))then
      CV (decide (l.length<=Cn)) (Xh X n b A B p1 p2 c1 σ.tm (λe bl nx=>k e ⟨σ.tm,bl,nx⟩) l.length σ.bl σ.nx)
     else Ye
    else Ye
   |_=>Ye
  |_,_=>Ye
 |_,_,_=>Ye
section
variable{P:Yv}{n:Yk}{β:Type}{r:β}
abbrev AbI(ok:OK0 P)(D:Yk):OK0 P:=⟨(EU ok D).f,(EU ok D).no,defD D⟩
def Ranged(ok0 ok1:OK0 P)(w w':Yx):Prop:=ok1=ok0\/∃D,w.heap.size<=D/\ok1=AbI ok0 D/\w'.heap[D]?=Yd (.deferred (Yd []))
theorem AbJ(hm:P.follows .mixedOrders=Yo){X:Ctx}(hT:TOk P X.T)(hΓ:ΓOk P X.Γ){c:Code}{σ:St}{k:Kx β}(h:exec X n (λ_=>Ye) 1 c σ k=Yd r):∃e' σ',k e' σ'=Yd r/\∀(ok0:OK0 P)(base:Yk)(pl:Yk->Yb Pl)(a:Act)(w:Yx),Rel n ok0 base pl (look σ.tm) (look σ.bl) a w->c.wp P (λe a' w'=>e=e'.toExit/\∃Ac,Rel n ok0 base Ac (look σ'.tm) (look σ'.bl) a' w'/\Step pl (look σ.bl) w Ac (look σ'.bl) w') a w:=by
 obtain⟨e,σ',h1,h2⟩:=gX (R:=AaW) (fr:=λ_:Unit=>fr0) hm (λ_ _ _ _ _ _ _=>trivial) hT hΓ (λ_ _ h=>by cases h) h;exact⟨e,σ',h1,λok0 base pl a w hr=>h2 () ok0 base pl a w hr⟩
def RxOk(P:Yv)(n:Yk)(c:Code)(σ:St)(e':AExit)(σ':St):Prop:=
 ∀(ok0:OK0 P)(base:Yk)(pl:Yk->Yb Pl)(a:Act)(w:Yx),ok0.ds=[]->Rel n ok0 base pl (look σ.tm) (look σ.bl) a w->
  c.wp P (λe a' w'=>e=e'.toExit/\∃ok1 Ac,Ranged ok0 ok1 w w'/\Rel n ok1 base Ac (look σ'.tm) (look σ'.bl) a' w'/\Step pl (look σ.bl) w Ac (look σ'.bl) w') a w
theorem Ranged.on{ok0 ok1:OK0 P}{w w1 w2:Yx}{base:Yk}{pl pl2:Yk->Yb Pl}{bl bl2:Yk->Yb Blk}(h:Ranged ok0 ok1 w w1)(hr:RelB ok1 base pl bl w1)(hs:Step pl bl w1 pl2 bl2 w2):Ranged ok0 ok1 w w2:=by
 rcases h with h|⟨D,h1,h2,h3⟩
 ·exact .inl h
 ·have hn:ok1.no D:=by rw[h2];exact .inr (.inl rfl)
  exact .inr ⟨D,h1,h2,(hs.out D (hr.glob.no D hn).1 (hr.glob.no D hn).2).1.trans h3⟩
theorem Aox(hm:P.follows .mixedOrders=Yo){X:Ctx}(hT:TOk P X.T)(hΓ:ΓOk P X.Γ){b:BackF}(hC:BackOk P b):∀{c:Code}{σ:St}{k:Kx β},Jo X n b c σ k=Yd r->∃e' σ',k e' σ'=Yd r/\RxOk P n c σ e' σ':=by
 intro c
 induction c with
 |seq x y ihx ihy=>
  intro σ k h;simp only[Jo]at h;cases hx:hasR x with
  |true=>
   rw[hx,Ao]at h;obtain⟨e1,σ1,h1,w1⟩:=ihx h;cases e1 with
   |normal=>simp only at h1;obtain⟨e2,σ2,h2,w2⟩:=AbJ hm hT hΓ h1;refine⟨e2,σ2,h2,λok0 base pl a w hd hr=>wp_seq (Dq (w1 ok0 base pl a w hd hr) λe a' w' ⟨he,ok1,Ac,hg,AR,B3⟩=>?_)⟩;subst he;exact Dq (w2 ok1 base Ac a' w' AR) λe a2 v2 ⟨GD,pl2,DQ,AP⟩=>⟨GD,ok1,pl2,hg.on AR.rel AP,DQ,B3.trans AP⟩
   |exit id=>refine⟨.exit id,σ1,h1,λok0 base pl a w hd hr=>wp_seq (Dq (w1 ok0 base pl a w hd hr) λe a' w' hq=>?_)⟩;have he:=hq.1;subst he;exact hq
   |ret=>refine⟨.ret,σ1,h1,λok0 base pl a w hd hr=>wp_seq (Dq (w1 ok0 base pl a w hd hr) λe a' w' hq=>?_)⟩;have he:=hq.1;subst he;exact hq
  |false=>
   rw[hx,BU]at h;obtain⟨e1,σ1,h1,w1⟩:=AbJ hm hT hΓ h
   have lift:∀{e:AExit},(∀(ok0:OK0 P)(base:Yk)(pl:Yk->Yb Pl)(a:Act)(w:Yx),Rel n ok0 base pl (look σ.tm) (look σ.bl) a w->
     x.wp P (λe0 a' w'=>e0=e.toExit/\∃Ac,Rel n ok0 base Ac (look σ1.tm) (look σ1.bl) a' w'/\Step pl (look σ.bl) w Ac (look σ1.bl) w') a w)->RxOk P n x σ e σ1:=
    λh ok0 base pl a w hd hr=>Dq (h ok0 base pl a w hr) λe a' w' ⟨he,Ac,AR,B3⟩=>⟨he,ok0,Ac,.inl rfl,AR,B3⟩
   cases e1 with
   |normal=>simp only at h1;obtain⟨e2,σ2,h2,w2⟩:=ihy h1;refine⟨e2,σ2,h2,λok0 base pl a w hd hr=>wp_seq (Dq (w1 ok0 base pl a w hr) λe a' w' ⟨he,Ac,AR,B3⟩=>?_)⟩;subst he;refine Dq (w2 ok0 base Ac a' w' hd AR) λe a2 v2 ⟨GD,ok1,pl2,hg,DQ,AP⟩=>⟨GD,ok1,pl2,?_,DQ,B3.trans AP⟩;exact hg.imp id λ⟨D,z1,z2⟩=>⟨D,BH B3.size z1,z2⟩
   |exit id=>refine⟨.exit id,σ1,h1,λok0 base pl a w hd hr=>wp_seq (Dq (lift w1 ok0 base pl a w hd hr) λe a' w' hq=>?_)⟩;have he:=hq.1;subst he;exact hq
   |ret=>refine⟨.ret,σ1,h1,λok0 base pl a w hd hr=>wp_seq (Dq (lift w1 ok0 base pl a w hd hr) λe a' w' hq=>?_)⟩;have he:=hq.1;subst he;exact hq
 |scope x ihx=>intro σ k h;simp only[Jo]at h;obtain⟨e1,σ1,h1,w1⟩:=ihx h;refine⟨e1,σ1,h1,λok0 base pl a w hd hr=>wp_scope_straight (Dq (w1 ok0 base pl a w hd hr) λe a' w' hq=>?_)⟩;have he:=hq.1;subst he;cases e1<;>exact hq
 |block id a iha=>
  intro σ k h;simp only[Jo]at h;obtain⟨e1,σ1,h1,w1⟩:=iha h;cases e1 with
  |normal=>refine⟨.normal,σ1,h1,λok0 base pl a w hd hr=>YaT (Dq (w1 ok0 base pl a w hd hr) λe a' w' hq=>?_)⟩;have he:=hq.1;subst he;exact hq
  |ret=>refine⟨.ret,σ1,h1,λok0 base pl a w hd hr=>YaT (Dq (w1 ok0 base pl a w hd hr) λe a' w' hq=>?_)⟩;have he:=hq.1;subst he;exact hq
  |exit Gw=>
   simp only at h1;cases hid:Ym Gw id with
   |true=>rw[hid]at h1;have hid:=At hid;refine⟨.normal,σ1,h1,λok0 base pl a w hd hr=>YaT (Dq (w1 ok0 base pl a w hd hr) λe a' w' hq=>?_)⟩;have he:=hq.1;subst he;simp only[AExit.toExit,Ybb,hid,CR];exact⟨trivial,hq.2⟩
   |false=>
    rw[hid]at h1;have Az:Gw≠id:=λe=>by rw[e,LO]at hid;cases hid
    refine⟨.exit Gw,σ1,h1,λok0 base pl a w hd hr=>YaT (Dq (w1 ok0 base pl a w hd hr) λe a' w' hq=>?_)⟩;have he:=hq.1;subst he;simp only[AExit.toExit,Ybb,Az,Cb];exact⟨trivial,hq.2⟩
 |rangeFunc g ps A B=>
  intro σ k h;cases g with
  |tmp g=>
   simp only[Jo]at h;split at h
   ·rename_i p1 p2 f c1 Ie hg
    split at h
    ·rename_i t e l hl
     split at h
     ·rename_i he
      subst he;cases hc:(Ym f b.f&&(Yz p1 n&&(Yz p2 n&&Yz 0 b.e.size)))with
      |false=>rw[hc]at h;cases h
      |true=>rw[hc,Ao]at h;obtain⟨q1,hc⟩:=andB hc;obtain⟨q2,hc⟩:=andB hc;obtain⟨q3,q4⟩:=andB hc;have q1:=At q1;subst q1;obtain⟨EN,h⟩:=Dc h;have EN:=AC EN;obtain⟨eF,blF,nxF,h1,h2⟩:=AbH hm hT hΓ h;refine⟨eF,⟨σ.tm,blF,nxF⟩,h1,λok0 base pl a w hd hr=>?_⟩;have eps:ps=#[p1,p2]:=HC (by simpa using Ie);rw[eps];refine Dq (Aow hC (Dp q4) ⟨Dp q2,Dp q3⟩ hg hl EN h2 hr) ?_;rintro e a' w' ⟨rfl,Ac,rfl,hD,AR,B3,M8⟩;refine⟨rfl,AbI ok0 w.heap.size,Ac,.inr ⟨w.heap.size,Aw _,rfl,hD⟩,⟨?_,hr.size,M8,AR.ds _⟩,B3⟩;show defD w.heap.size++a.defers=defD w.heap.size;rw[hr.defers,hd];simp
     ·cases h
    ·cases h
   ·cases h
  |_=>simp only[Jo]at h;cases h
 |_=>intro σ k h;simp only[Jo]at h;cases h
theorem RelB.leaveX{ok0:OK0 P}{base D:Yk}{pl:Yk->Yb Pl}{bl:Yk->Yb Blk}{w:Yx}(hr:RelB (EU ok0 D) base pl bl w):RelB ok0 base pl bl w/\Ext (Ak (EU ok0 D) base pl bl w) (Ak ok0 base pl bl w):=
 hr.into (ok1:=ok0) (Aw _) (λ_ _ _=>rfl) (λg _ h=>h.imp (λh=>h.1) λh=>⟨h.1,λq=>h.2 (.inl q)⟩) ⟨hr.glob.g0.gen (Aw _) (λg _ h _=>⟨rfl,h⟩) λg h=>.inl (.inl h),λg h=>hr.glob.no g (.inl h)⟩
end
def Aoy(X:Ctx)(n:Nat)(b:BackF)(c:Code)(ps:List (Bool×List CT))(is:List BT)(rs:List (Bool×List CT))(os:List BT)(vs:List RS){β:Type}(x:ST.dens ps×BT.dens is)(k:ST.dens rs×BT.dens os->Option β):Option β:=
 Jo X n b c ((vIn ⟨ps,is,rs,os,λ_ _=>Ye⟩).mk' x) (retK X.T ⟨ps,is,rs,os,λ_ _=>Ye⟩ vs k)
set_option maxHeartbeats 1000000 in
theorem Aoz{P:Yv}(C5:P.follows .mixedOrders=Yo){X:Ctx}(hT:TOk P X.T)(hΓ:ΓOk P X.Γ){b:BackF}(hC:BackOk P b){ps rs:Ya (Bool×Ya CT)}{is os:Ya BT}{f:FuncId}{fn:Func}(vs:Ya RS)(hf:P.funcs[f]?=Yd fn)(hc:((fn.name== "runtime.NumGoroutine"),fn.body,fn.results.toList,(Ym vs.length rs.length&&(ST.tidy rs&&YB ps.length fn.ntmps)))=(false,Yd (AA fn),vs.map RS.toVar,Yo)):SpecOkB P f ⟨ps,is,rs,os,λ{_} x k=>Aoy X fn.ntmps b (AA fn) ps is rs os vs x k⟩:=by
 simp only[Bv]at hc;obtain⟨Iz,hb,H5,BS⟩:=hc;obtain⟨o2,BS⟩:=andB BS;obtain⟨o3,o4⟩:=andB BS;have o2:=At o2;have o4:=IC o4;generalize AA fn=c at*;refine⟨⟨fn,hf,Iz,by rw[hb];rfl⟩,λx k r hr=>?_⟩;obtain⟨S,hS⟩:∃S:Spec,S=⟨ps,is,rs,os,λ_ _=>Ye⟩:=⟨_,rfl⟩;obtain⟨e',σ',hk,hw⟩:=Aox C5 hT hΓ hC (show Jo X fn.ntmps b c ((vIn ⟨ps,is,rs,os,λ_ _=>Ye⟩).mk' x) (retK X.T ⟨ps,is,rs,os,λ_ _=>Ye⟩ vs k)=Yd r from hr)
 have Er:(e'=.normal\/e'=.ret)/\Qv X.T ⟨ps,is,rs,os,λ_ _=>Ye⟩ vs k σ'=Yd r:=by
  cases e' with
  |normal=>exact⟨.inl rfl,hk⟩
  |ret=>exact⟨.inr rfl,hk⟩
  |exit id=>cases hk
 obtain⟨Kh,hk⟩:=Er;unfold Qv at hk;split at hk
 ·cases hk
 rename_i us Ck;split at hk
 ·rename_i y hy
  refine⟨y,hk,λokk base pl w args _hbase B7 Ba=>?_⟩
  refine Calls.mono (R:=λe w'=>∃vals Ac,e=.returned (Gk vals)/\RelB (⟨okk.f,okk.no,[]⟩:OK0 P) base Ac (fnBl (mkB (AD 0 os.length) os y.2)) w'/\
    StepM is.length pl (fnBl (mkB (AD 0 is.length) is x.2)) w Ac (fnBl (mkB (AD 0 os.length) os y.2)) w'/\
    TReps (Ak (⟨okk.f,okk.no,[]⟩:OK0 P) base Ac (fnBl (mkB (AD 0 os.length) os y.2)) w') (mkS (AD 0 os.length) rs y.1) vals) ?_ (λe w' ⟨vals,Ac,h1,h2,h3,h4⟩=>⟨vals,Ac,h1,h2.ds okk.ds,h3,h4⟩)
  have B7:=B7.ds [];have Ba:TReps (Ak (⟨okk.f,okk.no,[]⟩:OK0 P) base pl (fnBl (mkB (AD 0 is.length) is x.2)) w) (mkS (AD 0 is.length) ps x.1) args:=Ba;obtain⟨ok0,BS⟩:∃ok0:OK0 P,ok0=⟨okk.f,okk.no,[]⟩:=⟨_,rfl⟩;rw[<-BS]at Ba⊢;have B7:RelB ok0 base pl (fnBl (mkB (AD 0 is.length) is x.2)) w:=by rw[BS];exact B7
  have F4:ok0.ds=[]:=by rw[BS]
  have AK:args.length=ps.length:=by rw[TReps.length Ba,iA]
  have ebl:look ((vIn ⟨ps,is,rs,os,λ_ _=>Ye⟩).mk' x).bl=fnBl (mkB (AD 0 is.length) is x.2):=Qu (vIn ⟨ps,is,rs,os,λ_ _=>Ye⟩) x
  have Vw:Rel fn.ntmps ok0 base pl (look ((vIn ⟨ps,is,rs,os,λ_ _=>Ye⟩).mk' x).tm) (look ((vIn ⟨ps,is,rs,os,λ_ _=>Ye⟩).mk' x).bl) {tmps:=args.toArray++Array.replicate (fn.ntmps-args.toArray.size) undef,defers:=[]} w:=by rw[ebl];refine⟨F4.symm,by simp;omega,λt v ht=>?_,B7⟩;refine i8 (s:=0) Ba (λj hj=>?_) t v ht;simp only[CQ,EQ];rw[VT (by simpa using hj)];simp[List.getD]
  refine(callsIn_wide (n:=3)).1 (callsIn_of_wp_marks hf hb trivial (wpIn_wide.2 ?_));refine Dq (hw ok0 base pl _ w F4 Vw) λe a' w' ⟨he,ok1,Ac,NF,AR,B3⟩=>?_
  have fin:∀(w4:Yx),Rel fn.ntmps ok0 base Ac (look σ'.tm) (look σ'.bl) {tmps:=a'.tmps,defers:=[]} w4->Step pl (look ((vIn ⟨ps,is,rs,os,λ_ _=>Ye⟩).mk' x).bl) w Ac (look σ'.bl) w4->
    ∃v,(results fn a'.tmps).run P w4=.ok v w4/\(∃vals Ac,Ending.returned v=.returned (Gk vals)/\RelB ok0 base Ac (fnBl (mkB (AD 0 os.length) os y.2)) w4/\
     StepM is.length pl (fnBl (mkB (AD 0 is.length) is x.2)) w Ac (fnBl (mkB (AD 0 os.length) os y.2)) w4/\
     TReps (Ak ok0 base Ac (fnBl (mkB (AD 0 os.length) os y.2)) w4) (mkS (AD 0 os.length) rs y.1) vals):=by
   intro w4 KP AlQ;obtain⟨vals,AE,M5⟩:=iC hT H5 Ck (λ_ _ h=>h) KP
   have xS:Rel vals.length ok0 base Ac (look (numV 0 us)) (look σ'.bl) {tmps:=vals.toArray,defers:=[]} w4:=by refine⟨F4.symm,by simp,λt v ht=>?_,KP.rel⟩;obtain⟨_,u,h1,h2⟩:=VReps.get M5 ht;simp only[Nat.sub_zero]at h1;simp only[EQ,PE,h1,Jh];exact h2
   obtain⟨plv,El,FR⟩:=View.weaken (σ:=⟨numV 0 us,σ'.bl,σ'.nx⟩) hy xS
   have xY:vals.length=rs.length:=by
    rw[VReps.length M5]
    have xL:∀(vs:Ya RS)(us:Ya V),HG X.T σ'.tm σ'.bl vs=Yd us->us.length=vs.length:=by
     intro vs
     induction vs with
     |nil=>intro us h;simp only[HG,Af]at h;subst h;rfl
     |cons x vs ih=>
      intro us h;simp only[HG]at h;split at h
      ·cases h
      ·split at h
       ·cases h
       ·rename_i Cf AEF
        simp only[Af]at h;subst h;simp[ih Cf AEF]
    rw[xL vs us Ck,o2]
   have ebo:look ((vRes ⟨ps,is,rs,os,λ_ _=>Ye⟩).mk' y).bl=fnBl (mkB (AD 0 os.length) os y.2):=Qu (vRes ⟨ps,is,rs,os,λ_ _=>Ye⟩) y;rw[ebo]at El FR;rw[ebl]at AlQ;have IY:=iB (ids:=AD 0 os.length) (l:=rs) (x:=y.1) WM El.tmps WN o3
   have NJ:((AD 0 rs.length).map λt=>vals.toArray.getD t undef)=vals:=by have:=Aba (us:=vals) (l:=rs.length) (s:=0) (pre:=[]) rfl xY;simpa using this
   refine⟨_,AE,vals,plv,rfl,El.rel,AlQ.toM.trans FR,?_⟩;rw[NJ]at IY;exact IY
  have F9:LeavesInM Fence.wide 3 P fn a'.tmps (λe w'=>∃vals Ac,e=.returned (Gk vals)/\RelB ok0 base Ac (fnBl (mkB (AD 0 os.length) os y.2)) w'/\
    StepM is.length pl (fnBl (mkB (AD 0 is.length) is x.2)) w Ac (fnBl (mkB (AD 0 os.length) os y.2)) w'/\
    TReps (Ak ok0 base Ac (fnBl (mkB (AD 0 os.length) os y.2)) w') (mkS (AD 0 os.length) rs y.1) vals) a'.defers .returning w':=by
   rcases NF with rfl|⟨D,hD1,rfl,hD2⟩
   ·rw[AR.defers,F4]
    exact fin w' ⟨F4.symm,AR.size,AR.tmps,AR.rel⟩ B3
   ·rw[AR.defers]
    have noD:(EU ok0 D).no D:=.inr (.inl rfl);have DQ:RelB (EU ok0 D) base Ac (look σ'.bl) w':=AR.rel.ds [];obtain⟨AEg,AEL⟩:=DQ.putO noD (Aou _ _ _) (.deferred Ye);obtain⟨KP,NK⟩:=AEg.leaveX;refine⟨by simp,.inl ⟨_,_,rfl,run_takeDeferred hD2,?_⟩⟩;refine fin _ ⟨F4.symm,AR.size,λt v ht=>VRep.mono NK (VRep.mono AEL (AR.tmps t v ht)),KP⟩ ?_;exact⟨B3.os,B3.tape,B3.output,by simpa using B3.size,λg hg ho=>⟨(World.putObj_heap_other (by omega)).trans (B3.out g hg ho).1,(B3.out g hg ho).2⟩,B3.cells,B3.rows⟩
  rcases Kh with e1|e1<;>rw[e1]at he<;>subst he<;>exact F9
 ·cases hk
variable[S:Sl]
noncomputable def Ent.rauto{P:Yv}(C5:P.follows .mixedOrders=Yo){X:Ctx}(hT:TOk P X.T)(es:Ya (Ent P))(hX:X.Γ=gam es){b:BackF}(hC:BackOk P b)(ps:Ya (Bool×Ya CT))(is:Ya BT)(rs:Ya (Bool×Ya CT))(os:Ya BT){f:FuncId}{fn:Func}(vs:Ya RS)(hf:P.funcs[f]?=Yd fn)(hc:((fn.name== "runtime.NumGoroutine"),fn.body,fn.results.toList,(Ym vs.length rs.length&&(ST.tidy rs&&YB ps.length fn.ntmps)))=(false,Yd (AA fn),vs.map RS.toVar,Yo)):Ent P:=
 ⟨f,.spec _,(Aoz C5 hT (hX▸Kt es) hC (ps:=ps) (is:=is) (rs:=rs) (os:=os) vs hf hc).spec⟩
end
end Go.Lift
