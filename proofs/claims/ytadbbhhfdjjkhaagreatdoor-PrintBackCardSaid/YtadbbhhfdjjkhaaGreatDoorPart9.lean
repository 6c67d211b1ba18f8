/- Part9: LiftLi. -/
import Derived.Shelf.Vars
import Derived.Shelf.Strings.Cut
import Derived.Shelf.Strings.Search3
import Derived.Shelf.Strings.Split
import Derived.Shelf.Strings.Repeat
import Derived.Shelf.Strings.FieldsAny
import Derived.Shelf.Strconv.AtoiAll
import Derived.Shelf.Strconv.Itoa3
import Derived.Test.YtadbbhhfdjjkhaaGreatDoorPart8
set_option linter.unusedVariables false
set_option linter.unusedSectionVars false
set_option linter.unusedSimpArgs false
namespace Go.Lift
open Go.RowKit Go.Shelf Go.Proofs
@[reducible] def Is(ps rs:List (Bool×List CT))(c:{β:Type}->ST.dens ps->(ST.dens rs->Option β)->Option β):Spec:=
 ⟨ps,[],rs,[],λx k=>c x.1 (λy=>k (y,()))⟩
theorem Are{P:Program}{f:FuncId}{ps rs:List (Bool×List CT)}{c:{β:Type}->ST.dens ps->(ST.dens rs->Option β)->Option β}(C3:∃fn,P.funcs[f]?=some fn/\(fn.name== "runtime.NumGoroutine")=false/\fn.body.isNone=false)(h:∀{β:Type}(x:ST.dens ps)(k:ST.dens rs->Option β)(r:β),c x k=some r->∃y,k y=some r/\∀(E:Env)(args:List Value),GlobR P none E.w->TReps E (mkS [] ps x) args->Calls P f args.toArray E.w λe w'=>∃B4,e=.returned (HU B4)/\Below E.w.heap.size E.w w'/\∀E':Env,E'.w=w'->(∀g,E.w.heap.size<=g->E'.ok g)->TReps E' (mkS [] rs y) B4):SpecOk P f (Is ps rs c):=by
 refine⟨C3,λ{β} x k r hr=>?_⟩;obtain⟨y,hy,hc⟩:=h x.1 (λy=>k (y,())) r hr;refine⟨(y,()),hy,λok0 pl w args FO B3=>?_⟩;have AJZ:∀i,fnBl (mkB (AY 0 (Is ps rs c).ins.length) (Is ps rs c).ins x.2) i=none:=λi=>rfl;refine(hc (Ap ok0 w.heap.size pl (fnBl (mkB (AY 0 (Is ps rs c).ins.length) (Is ps rs c).ins x.2)) w) args (FO.glob.row λg hg=>by cases hg) B3).mono λe w' ⟨B4,he,hb,ht⟩=>?_;have hb:Below w.heap.size w w':=hb;have Ao:∀(p:Nat->Option Pl) g,¬Own p (fnBl (mkB (AY 0 (Is ps rs c).outs.length) (Is ps rs c).outs ())) g:=λp g ⟨i,B,q,hB,_⟩=>by cases hB
 exact⟨B4,pl,he,⟨hb.size,λi B hB=>(by cases hB),λi j B C p q g _ hB=>(by cases hB),FO.fresh,FO.glob.out hb.size λg hg _=>⟨hb.block g hg,Ao _ g⟩⟩,
  ⟨hb.os,hb.tape,hb.output,hb.size,λg hg _=>⟨hb.block g hg,Ao _ g⟩,λb g _ h=>h,λb sv Ac _ h=>⟨sv,Ac,h⟩⟩,ht _ rfl λg hg=>⟨.inr ⟨hg,λhn=>absurd (FO.glob.no g hn).1 (Nat.not_lt.2 hg)⟩,Ao _ g⟩⟩
theorem Tp{P:Program}{f:FuncId}{ps rs:List (Bool×List CT)}{c:{β:Type}->ST.dens ps->(ST.dens rs->Option β)->Option β}(C3:∃fn,P.funcs[f]?=some fn/\(fn.name== "runtime.NumGoroutine")=false/\fn.body.isNone=false)(h:∀{β:Type}(x:ST.dens ps)(k:ST.dens rs->Option β)(r:β),c x k=some r->∃y,k y=some r/\∀(E:Env)(args:List Value),GlobR P none E.w->TReps E (mkS [] ps x) args->Calls P f args.toArray E.w λe w'=>∃B4,e=.returned (HU B4)/\Below E.w.heap.size E.w w'/\∀E':Env,TReps E' (mkS [] rs y) B4):SpecOk P f (Is ps rs c):=
 Are C3 λx k r hr=>by obtain⟨y,hy,hc⟩:=h x k r hr;exact⟨y,hy,λE args hG B3=>(hc E args hG B3).mono λe w' ⟨B4,he,hb,ht⟩=>⟨B4,he,hb,λE' _ _=>ht E'⟩⟩
theorem GlobR.tab{P:Program}{o:Option Nat}{w:World}(h:GlobR P o w){x:String×IntKind×List Int}(hx:x∈SK){g:Nat}(hg:P.globalNamed x.1=some g):Lib.TabIs P w x.1 x.2.1 x.2.2:=by
 obtain⟨w0,h1,_,h3⟩:=h;have ht:=h1.tabs x hx (by rw[hg];rfl);unfold Lib.TabIs World.var? at ht⊢;rw[hg]at ht⊢;simp only[Ya]at ht⊢
 have Au:g<w0.heap.size:=by
  split at ht
  ·rename_i cs _ _ hc;exact(Ik.1 hc).1
  ·cases ht
 rw[(h3 g Au).1];exact ht
theorem GlobR.cell{P:Program}{o:Option Nat}{w:World}(h:GlobR P o w){g:Nat}(_hg:g<P.globals.size){Q:Value->Prop}(hq:∀w0:World,w0.ShapedOpen P->∃v,w0.cell? ⟨g,0,none⟩=some v/\Q v):∃v,w.cell? ⟨g,0,none⟩=some v/\Q v:=by
 obtain⟨w0,h1,_,h3⟩:=h;obtain⟨v,hv,hQ⟩:=hq w0 h1.open_;exact⟨v,(World.cell?_of_block (h3 g (World.block_lt_of_cell? w0 _ hv)).1).trans hv,hQ⟩
theorem GlobR.err{P:Program}{o:Option Nat}{w:World}(h:GlobR P o w){n:String}(hn:n∈SM){g:Nat}(hg:P.globalNamed n=some g):∃t u,w.cell? ⟨g,0,none⟩=some (.iface t u):=by obtain⟨w0,h1,_,h3⟩:=h;obtain⟨t,u,ht⟩:=h1.errs n hn (by rw[hg];rfl);have hc:=World.var?_cell hg ht 0;refine⟨t,u,?_⟩;rw[World.cell?_of_block (w:=w0) (h3 g (World.block_lt_of_cell? w0 ⟨g,0,none⟩ (by rw[hc];rfl))).1,hc];rfl
theorem ReadsAt.keep{w0 w:World}(h:∀g,g<w0.heap.size->w.heap[g]?=w0.heap[g]?){b o:Nat}{vs:List Value}(hr:ReadsAt w0 b o vs):ReadsAt w b o vs:=λi v hv=>by have hc:=hr i v hv;exact(World.cell?_of_block (h b (World.block_lt_of_cell? w0 _ hc))).trans hc
theorem GlobR.white{P:Program}{o:Option Nat}{w:World}(h:GlobR P o w){g:Nat}(hg:P.globalNamed "unicode.White_Space"=some g):Ys g w:=by obtain⟨w0,h1,_,h3⟩:=h;obtain⟨T,oT,R,oR,a,b,c⟩:=h1.white g hg;have k:∀g,g<w0.heap.size->w.heap[g]?=w0.heap[g]?:=λg hl=>(h3 g hl).1;exact⟨T,oT,R,oR,a.keep k,b.keep k,c.keep k⟩
theorem TReps.str_inv{E:Env}{s:List UInt8}{ts:List (Bool×List C)}{args:List Value}(h:TReps E ((false,[.str s])::ts) args):∃rst,args=.string ⟨s.toArray⟩::rst/\TReps E ts rst:=by obtain⟨v,vs,e,⟨us,⟨u,CL,e1,h1,h2⟩,h3⟩,h4⟩:=h;simp only[CReps]at h2;simp only[CRep]at h1;simp only[Il,CF]at h3;subst h2 h1 e1;simp only[D1,Fb]at h3;subst h3;exact⟨vs,e,h4⟩
theorem TReps.int_inv{E:Env}{k:IntKind}{n:Int}{ts:List (Bool×List C)}{args:List Value}(h:TReps E ((false,[.int k n])::ts) args):∃rst,args=.int k n::rst/\TReps E ts rst:=by obtain⟨v,vs,e,⟨us,⟨u,CL,e1,h1,h2⟩,h3⟩,h4⟩:=h;simp only[CReps]at h2;simp only[CRep]at h1;simp only[Il,CF]at h3;subst h2 h1 e1;simp only[D1,Fb]at h3;subst h3;exact⟨vs,e,h4⟩
theorem TReps.str1{E:Env}{s:List UInt8}{ts:List (Bool×List C)}{B4:List Value}(h:TReps E ts B4):TReps E ((false,[.str s])::ts) (.string ⟨s.toArray⟩::B4):=
 ⟨_,_,rfl,⟨[_],⟨_,_,rfl,rfl,rfl⟩,by simp⟩,h⟩
theorem TReps.bool1{E:Env}{b:Bool}{ts:List (Bool×List C)}{B4:List Value}(h:TReps E ts B4):TReps E ((false,[.bool b])::ts) (.bool b::B4):=
 ⟨_,_,rfl,⟨[_],⟨_,_,rfl,rfl,rfl⟩,by simp⟩,h⟩
theorem TReps.err1{E:Env}{b:Bool}{v:Value}{ts:List (Bool×List C)}{B4:List Value}(hv:errRep b v)(h:TReps E ts B4):TReps E ((false,[.err b])::ts) (v::B4):=
 ⟨_,_,rfl,⟨[v],⟨_,_,rfl,hv,rfl⟩,by simp⟩,h⟩
abbrev cutT:={β:Type}->List UInt8->List UInt8->(List UInt8->List UInt8->Bool->Option β)->Option β
@[reducible] def cutS(c:cutT):Spec:=Is [(false,[.data .str]),(false,[.data .str])] [(false,[.data .str]),(false,[.data .str]),(false,[.data .bool])] λx k=>c x.1.1 x.2.1.1 λr0 r1 r2=>k ((r0,()),(r1,()),(r2,()),())
def cutF:cutT:=λs sep k=>cond (decide (s.length<4294967281)) (k (Lib.cut s sep).1 (Lib.cut s sep).2.1 (Lib.cut s sep).2.2) none
theorem Arf{P:Program}{ρ:Shelf.Ren}{f:FuncId}(L:Lays.n145 P ρ)(hf:ρ.f 145=f)(hg:ρ.g 1<P.globals.size)(hm:∀w0:World,w0.ShapedOpen P->∃m,w0.cell? ⟨ρ.g 1,0,none⟩=some (.int .i64 m))(C3:∃fn,P.funcs[f]?=some fn/\(fn.name== "runtime.NumGoroutine")=false/\fn.body.isNone=false):SpecOk P f (cutS cutF):=by
 subst hf;refine Tp C3 λ{β} x k r hr=>?_;obtain⟨⟨s,_⟩,⟨sep,_⟩,_⟩:=x;simp only[cutF]at hr;cases hd:decide (s.length<4294967281)with
 |false=>rw[hd]at hr;cases hr
 |true=>
  rw[hd,Ar]at hr;have Bp:=Bv hd;refine⟨_,hr,λE args hG B3=>?_⟩;obtain⟨rst,rfl,h2⟩:=TReps.str_inv B3;obtain⟨rst2,rfl,h3⟩:=TReps.str_inv h2;have:rst2=[]:=h3;subst this;obtain⟨v,hv,m,rfl⟩:=hG.cell hg (Q:=λv=>∃m,v=.int .i64 m) λw0 h0=>by obtain⟨m,h⟩:=hm w0 h0;exact⟨_,h,m,rfl⟩
  refine(Any.strings_Cut L ⟨s.toArray⟩ ⟨sep.toArray⟩ m E.w (by simpa [ByteArray.size]using Bp) hv).mono λe w' ⟨he,n,hw⟩=>?_;subst hw;exact⟨[_,_,_],he,⟨rfl,rfl,rfl,AQ _,λ_ _=>rfl⟩,λE'=>TReps.str1 (TReps.str1 (TReps.bool1 rfl))⟩
abbrev nW:={β:Type}->Int->(List UInt8->Option β)->Option β
@[reducible] def Ae7(c:nW):Spec:=Is [(false,[.data (.int .i64)])] [(false,[.data .str])] λx k=>c x.1.1 λr0=>k ((r0,()),())
def Tq:nW:=λn k=>cond (decide (-9223372036854775808<=n)&&decide (n<=9223372036854775807)) (k (Lib.itoa n)) none
theorem Arg{w:World}{k:Nat}{os:Array Obj}:Below w.heap.size w (Go.Sort.grow (w.drewN k) os):=by
 refine⟨rfl,rfl,rfl,?_,λi hi=>?_⟩
 ·show w.heap.size<=(w.heap++os).size
  simp
 ·show(w.heap++os)[i]?=w.heap[i]?
  rw[XJ hi]
theorem Arh{P:Program}{ρ:Shelf.Ren}{f:FuncId}(L:LaysM.n171 P ρ)(hf:ρ.f 171=f){g:Nat}(hg:P.globalNamed "internal/strconv.uint64pow10"=some g)(C3:∃fn,P.funcs[f]?=some fn/\(fn.name== "runtime.NumGoroutine")=false/\fn.body.isNone=false):SpecOk P f (Ae7 Tq):=by
 subst hf;refine Tp C3 λ{β} x k r hr=>?_;obtain⟨⟨n,_⟩,_⟩:=x;simp only[Tq]at hr;cases hd:(decide (-9223372036854775808<=n)&&decide (n<=9223372036854775807))with
 |false=>rw[hd]at hr;cases hr
 |true=>rw[hd,Ar]at hr;obtain⟨h1,h2⟩:=andB hd;refine⟨_,hr,λE args hG B3=>?_⟩;obtain⟨rst,rfl,h3⟩:=TReps.int_inv B3;have:rst=[]:=h3;subst this;refine(Any.strconv_Itoa L n (Bv h1) (Bv h2) E.w (hG.tab (x:=("internal/strconv.uint64pow10",.u64,Lib.pow10Tab)) (by simp[SK]) hg)).mono λe w' ⟨he,q,os,hw⟩=>?_;subst hw;exact⟨[_],he,Arg,λE'=>TReps.str1 rfl⟩
abbrev nX:={β:Type}->List UInt8->(Int->Bool->Option β)->Option β
@[reducible] def Ae8(c:nX):Spec:=Is [(false,[.data .str])] [(false,[.data (.int .i64)]),(false,[.data .err])] λx k=>c x.1.1 λr0 r1=>k ((r0,()),(r1,()),())
def KS(s:List UInt8):Int×Bool:=
 match Lib.atoiAll s with
 |.ok v=>(v,true)
 |.range=>(Lib.atoiSat s,false)
 |_=>(0,false)
def YO:nX:=λs k=>cond (decide (s.length<=281474976710656)) (k (KS s).1 (KS s).2) none
theorem Ari{P:Program}{ρ:Shelf.Ren}{f:FuncId}(L:LaysC.n172 P ρ)(hf:ρ.f 172=f)(AFP:P.globalNamed "strconv.ErrSyntax"=some (ρ.g 15))(AFQ:P.globalNamed "strconv.ErrRange"=some (ρ.g 16))(C3:∃fn,P.funcs[f]?=some fn/\(fn.name== "runtime.NumGoroutine")=false/\fn.body.isNone=false):SpecOk P f (Ae8 YO):=by
 subst hf;refine Tp C3 λ{β} x k r hr=>?_;obtain⟨⟨s,_⟩,_⟩:=x;simp only[YO]at hr;cases hd:decide (s.length<=281474976710656)with
 |false=>rw[hd]at hr;cases hr
 |true=>
  rw[hd,Ar]at hr;have Bp:=Bv hd;refine⟨_,hr,λE args hG B3=>?_⟩;obtain⟨rst,rfl,h3⟩:=TReps.str_inv B3;have:rst=[]:=h3;subst this;have hs:(⟨s.toArray⟩:ByteArray).size=s.length:=by simp[ByteArray.size]
  cases hv:Lib.atoiAll s
  ·rename_i v
   have ev:KS s=(v,true):=by unfold KS;rw[hv]
   rw[ev];refine(Any.strconv_Atoi_ok L ⟨s.toArray⟩ (by rw[hs];omega) v hv E.w).mono λe w' ⟨he,hw⟩=>?_;refine⟨[_,_],he,?_,λE'=>TReps.int (TReps.err1 (b:=true) rfl rfl)⟩;rcases hw with rfl|⟨t,rfl⟩
   ·exact Below.refl _ _
   ·exact Lib.bytesWorld_below _ _ _
  ·have ev:KS s=(0,false):=by unfold KS;rw[hv]
   rw[ev];obtain⟨te,pe,hc⟩:=hG.err (by simp[SM]) AFP
   exact(Any.strconv_Atoi_syntax L ⟨s.toArray⟩ (by rw[hs];omega) hv _ E.w hc (.inr ⟨te,pe,rfl⟩)).mono λe w' ⟨N,he,_,_,hb⟩=>
    ⟨[_,_],he,hb,λE'=>TReps.int (TReps.err1 (b:=false) ⟨_,_,rfl⟩ rfl)⟩
  ·have ev:KS s=(Lib.atoiSat s,false):=by unfold KS;rw[hv]
   rw[ev];obtain⟨te,pe,hc⟩:=hG.err (by simp[SM]) AFQ
   exact(Any.strconv_Atoi_range L ⟨s.toArray⟩ (by rw[hs];omega) hv _ E.w hc (.inr ⟨te,pe,rfl⟩)).mono λe w' ⟨N,he,_,_,hb⟩=>
    ⟨[_,_],he,hb,λE'=>TReps.int (TReps.err1 (b:=false) ⟨_,_,rfl⟩ rfl)⟩
abbrev nY:={β:Type}->List UInt8->List UInt8->(Bool->Option β)->Option β
@[reducible] def Ae9(c:nY):Spec:=Is [(false,[.data .str]),(false,[.data .str])] [(false,[.data .bool])] λx k=>c x.1.1 x.2.1.1 λr0=>k ((r0,()),())
def YP:nY:=λs sep k=>cond (decide (s.length<4294967281)) (k (Lib.contains s sep)) none
theorem Arj{P:Program}{ρ:Shelf.Ren}{f:FuncId}(L:Lays.n144 P ρ)(hf:ρ.f 144=f)(hg:ρ.g 1<P.globals.size)(hm:∀w0:World,w0.ShapedOpen P->∃m,w0.cell? ⟨ρ.g 1,0,none⟩=some (.int .i64 m))(C3:∃fn,P.funcs[f]?=some fn/\(fn.name== "runtime.NumGoroutine")=false/\fn.body.isNone=false):SpecOk P f (Ae9 YP):=by
 subst hf;refine Tp C3 λ{β} x k r hr=>?_;obtain⟨⟨s,_⟩,⟨sep,_⟩,_⟩:=x;simp only[YP]at hr;cases hd:decide (s.length<4294967281)with
 |false=>rw[hd]at hr;cases hr
 |true=>
  rw[hd,Ar]at hr;have Bp:=Bv hd;refine⟨_,hr,λE args hG B3=>?_⟩;obtain⟨rst,rfl,h2⟩:=TReps.str_inv B3;obtain⟨rst2,rfl,h3⟩:=TReps.str_inv h2;have:rst2=[]:=h3;subst this;obtain⟨v,hv,m,rfl⟩:=hG.cell hg (Q:=λv=>∃m,v=.int .i64 m) λw0 h0=>by obtain⟨m,h⟩:=hm w0 h0;exact⟨_,h,m,rfl⟩
  refine(Any.strings_Contains L ⟨s.toArray⟩ ⟨sep.toArray⟩ m E.w (by simpa [ByteArray.size]using Bp) hv).mono λe w' ⟨he,hw⟩=>?_;subst hw;exact⟨[_],he,Below.refl _ _,λE'=>TReps.bool1 rfl⟩
abbrev YQ:={β:Type}->List UInt8->List UInt8->(List (List UInt8)->Option β)->Option β
@[reducible] def AJE(c:YQ):Spec:=Is [(false,[.data .str]),(false,[.data .str])] [(false,[.data (.slice .str)])] λx k=>c x.1.1 x.2.1.1 λr0=>k ((r0,()),())
def Kd(s sep:List UInt8):List (List UInt8):=(Lib.splitB ⟨sep.toArray⟩ 0 (Lib.countB ⟨s.toArray⟩ ⟨sep.toArray⟩) ⟨s.toArray⟩).map λb=>b.data.toList
def QG:YQ:=λs sep k=>cond (decide (s.length<4294967281)&&decide (1<=sep.length)) (k (Kd s sep)) none
theorem Aea{w:World}{ok:Nat->Prop}:∀(bs:List ByteArray),DList (λ(x:List UInt8) u=>DRep w ok .str x u) (bs.map λb=>b.data.toList) (bs.map Value.string)
 |[]=>rfl
 |b::bs=>⟨[.string b],_,rfl,by simp[DRep],Aea bs⟩
@[reducible] def Tr(ps:List (Bool×List CT))(t:TypeId)(e:Ty)(c:{β:Type}->ST.dens ps->(List e.den->Option β)->Option β):Spec:=
 ⟨ps,[],[(false,[.rowh 0])],[.row t e],λx k=>c x.1 (λl=>k (((),()),(l,())))⟩
theorem Aeb{P:Program}{f:FuncId}{ps:List (Bool×List CT)}{t:TypeId}{e:Ty}{c:{β:Type}->ST.dens ps->(List e.den->Option β)->Option β}(he:e.flat=true)(C3:∃fn,P.funcs[f]?=some fn/\(fn.name== "runtime.NumGoroutine")=false/\fn.body.isNone=false)(h:∀{β:Type}(x:ST.dens ps)(k:List e.den->Option β)(r:β),c x k=some r->∃l,k l=some r/\∀(E:Env)(args:List Value),GlobR P none E.w->TReps E (mkS [] ps x) args->Calls P f args.toArray E.w λe2 w'=>∃sv xs,e2=.returned sv/\Below E.w.heap.size E.w w'/\DList (λx u=>DRep w' (λ_=>True) e x u) l xs/\w'.ownsRow E.w.heap.size t e.size sv l.length xs):SpecOk P f (Tr ps t e c):=by
 refine⟨C3,λ{β} x k r hr=>?_⟩;obtain⟨l,hy,hc⟩:=h x.1 (λl=>k (((),()),(l,()))) r hr;refine⟨(((),()),(l,())),hy,λok0 pl w args FO B3=>?_⟩;refine(hc (Ap ok0 w.heap.size pl (fnBl (mkB (AY 0 (Tr ps t e c).ins.length) (Tr ps t e c).ins x.2)) w) args (FO.glob.row λg hg=>by cases hg) B3).mono λe2 w' ⟨sv,xs,Jh,hb,hd,Ao⟩=>?_;have hb:Below w.heap.size w w':=hb;have Ao:w'.ownsRow w.heap.size t e.size sv l.length xs:=Ao
 let Ak:Nat->Option Pl:=λi=>if i=0 then some (.row sv [])else none
 let bl':Nat->Option Blk:=fnBl (mkB (AY 0 1) [.row t e] (l,()))
 have Wx:bl' 0=some (.row t e 0 l):=rfl
 have i6:∀i B,bl' i=some B->i=0/\B=.row t e 0 l:=by
  intro i B hB;have hB:([Blk.row t e 0 l]:List Blk)[i]?=some B:=hB;cases i with
  |zero=>simp at hB;exact⟨rfl,hB.symm⟩
  |succ i=>simp at hB
 have JS:sv.oneCell'=true:=by rcases Ao.2 with⟨h,_⟩|⟨g,cap,AP,h,_⟩<;>rw[h]<;>rfl
 have hOwn:∀g,g<w.heap.size->¬Own Ak bl' g:=by
  rintro g hg ⟨i,B,q,hB,_,hq,B8⟩;obtain⟨rfl,rfl⟩:=i6 i B hB;have hq:some (Pl.row sv [])=some q:=hq;injection hq with hq;subst hq;have:=Pl.has_row B8;rcases Ao.2 with⟨h,_⟩|⟨g',cap,AP,h,RI,_⟩
  ·rw[h]at this;cases this
  ·rw[h]at this
   simp only[Value.ownBlock,Ag]at this;omega
 have AHd:RelB ok0 w.heap.size Ak bl' w':=by
  refine⟨hb.size,λi B hB=>?_,λi j B C p q g Dw hB hC=>?_,λi hi=>?_,FO.glob.out hb.size λg hg _=>⟨hb.block g hg,hOwn g hg⟩⟩
  ·obtain⟨rfl,rfl⟩:=i6 i B hB
   exact⟨.row sv [],rfl,rfl,xs,hd.mono λx u hu=>hu.flat he,Ao⟩
  ·obtain⟨rfl,_⟩:=i6 i B hB
   obtain⟨rfl,_⟩:=i6 j C hC;exact absurd rfl Dw
  ·show(if i=0 then some (Pl.row sv [])else none)=none
   cases i with
   |zero=>rw[Wx]at hi;cases hi
   |succ i=>rfl
 refine⟨[sv],Ak,Jh,AHd,⟨hb.os,hb.tape,hb.output,hb.size,λg hg _=>⟨hb.block g hg,hOwn g hg⟩,λb g hm _=>absurd hm (MN _),λb a q hm _=>absurd hm (MN _)⟩,?_⟩
 exact⟨sv,[],rfl,⟨[sv],⟨sv,[],rfl,⟨JS,sv,[],rfl,λt1 e1 ver' l1 Jg=>by have Jg:bl' 0=some (.row t1 e1 ver' l1):=Jg;rw[Wx]at Jg;injection Jg with Jg;injection Jg with q1 q2 q3 q4;exact⟨Ej _,λ_=>rfl⟩⟩,rfl⟩,rfl⟩,rfl⟩
@[reducible] def Aec(t:TypeId)(c:YQ):Spec:=Tr [(false,[.data .str]),(false,[.data .str])] t .str λx k=>c x.1.1 x.2.1.1 k
theorem Ark{P:Program}{ρ:Shelf.Ren}{f:FuncId}{t:TypeId}(L:Lays.n146 P ρ)(hf:ρ.f 146=f)(ht:ρ.t 9=t)(AaD:(P.info? (ρ.t 9)).map (λi=>(i.zero,i.size,i.bytes))=some (some (.string ByteArray.empty),1,16))(hg:ρ.g 1<P.globals.size)(hm:∀w0:World,w0.ShapedOpen P->∃m,w0.cell? ⟨ρ.g 1,0,none⟩=some (.int .i64 m))(C3:∃fn,P.funcs[f]?=some fn/\(fn.name== "runtime.NumGoroutine")=false/\fn.body.isNone=false):SpecOk P f (Aec t QG):=by
 subst hf ht;refine Aeb rfl C3 λ{β} x k r hr=>?_;obtain⟨⟨s,_⟩,⟨sep,_⟩,_⟩:=x;simp only[QG]at hr;cases hd:(decide (s.length<4294967281)&&decide (1<=sep.length))with
 |false=>rw[hd]at hr;cases hr
 |true=>
  rw[hd,Ar]at hr;obtain⟨d1,d2⟩:=andB hd;have Bp:=Bv d1;have hsep:=Bv d2;refine⟨_,hr,λE args hG B3=>?_⟩;obtain⟨rst,rfl,h2⟩:=TReps.str_inv B3;obtain⟨rst2,rfl,h3⟩:=TReps.str_inv h2;have:rst2=[]:=h3;subst this;obtain⟨v,hv,m,rfl⟩:=hG.cell hg (Q:=λv=>∃m,v=.int .i64 m) λw0 h0=>by obtain⟨m,h⟩:=hm w0 h0;exact⟨_,h,m,rfl⟩
  have B5:(⟨sep.toArray⟩:ByteArray).size=sep.length:=by simp[ByteArray.size]
  have Bm:(⟨s.toArray⟩:ByteArray).size=s.length:=by simp[ByteArray.size]
  have HI:=Lib.countB_le ⟨sep.toArray⟩ (by rw[B5];exact hsep) _ ⟨s.toArray⟩ (AQ _);have An:=Lib.splitB_all ⟨sep.toArray⟩ (by rw[B5];exact hsep) 0 _ ⟨s.toArray⟩ rfl;have GV:(Kd s sep).length=Lib.countB ⟨s.toArray⟩ ⟨sep.toArray⟩+1:=by unfold Kd;rw[DK,An]
  refine(Any.strings_Split L AaD ⟨s.toArray⟩ ⟨sep.toArray⟩ m E.w (by rw[Bm];exact Bp) hv (by rw[B5];exact hsep)).mono λe w' ⟨he,hw⟩=>?_;subst hw;refine⟨_,(Lib.splitB ⟨sep.toArray⟩ 0 (Lib.countB ⟨s.toArray⟩ ⟨sep.toArray⟩) ⟨s.toArray⟩).map Value.string,he,(Below.refl _ _).alloc (AQ _) _,Aea _,?_,.inr ⟨E.w.heap.size,_,_,by rw[GV],AQ _,heap_alloc_new _ _,?_,?_,?_,?_⟩⟩
  ·rw[GV,DK,An];simp[Ty.size]
  ·rw[GV];exact AQ _
  ·unfold maxLen;omega
  ·simp[Ty.size,An]
  ·rw[GV];simp[Ty.size];exact Hb (by simp[An])
abbrev nZ:={β:Type}->List UInt8->Int->(List UInt8->Option β)->Option β
@[reducible] def Aed(c:nZ):Spec:=Is [(false,[.data .str]),(false,[.data (.int .i64)])] [(false,[.data .str])] λx k=>c x.1.1 x.2.1.1 λr0=>k ((r0,()),())
def YR:nZ:=λs n k=>cond (decide (0<=n)&&(decide (n<=9223372036854775807)&&decide (s.length*n.toNat<=140737488355328))) (k (Lib.repeatL s n.toNat)) none
theorem Arl{P:Program}{ρ:Shelf.Ren}{f:FuncId}(L:Lays.n105 P ρ)(X:Builder.Extra P ρ)(hf:ρ.f 105=f)(C3:∃fn,P.funcs[f]?=some fn/\(fn.name== "runtime.NumGoroutine")=false/\fn.body.isNone=false):SpecOk P f (Aed YR):=by
 subst hf;refine Tp C3 λ{β} x k r hr=>?_;obtain⟨⟨s,_⟩,⟨n,_⟩,_⟩:=x;simp only[YR]at hr;cases hd:(decide (0<=n)&&(decide (n<=9223372036854775807)&&decide (s.length*n.toNat<=140737488355328)))with
 |false=>rw[hd]at hr;cases hr
 |true=>
  rw[hd,Ar]at hr;obtain⟨d1,d2⟩:=andB hd;obtain⟨d2,d3⟩:=andB d2;have h0:(0:Int)<=n:=Bv d1;have h1:(n:Int)<=9223372036854775807:=Bv d2;have h2:=Bv d3;refine⟨_,hr,λE args hG B3=>?_⟩;obtain⟨rst,rfl,g2⟩:=TReps.str_inv B3;obtain⟨rst2,rfl,g3⟩:=TReps.int_inv g2;have:rst2=[]:=g3;subst this;have key:∀n:Int,0<=n->n<=9223372036854775807->n=((n.toNat:Nat):Int)/\n.toNat<=9223372036854775807:=λn _ _=>⟨by omega,by omega⟩;obtain⟨hn,Dh⟩:=key n h0 h1;have Bm:(⟨s.toArray⟩:ByteArray).size=s.length:=by simp[ByteArray.size]
  have:=Any.strings_Repeat L X ⟨s.toArray⟩ n.toNat E.w Dh (by rw[Bm];exact h2);rw[<-hn]at this;refine this.mono λe w' ⟨he,hw⟩=>?_;exact⟨[_],he,hw,λE'=>TReps.str1 rfl⟩
abbrev o0:={β:Type}->List UInt8->(List (List UInt8)->Option β)->Option β
@[reducible] def Aee(t:TypeId)(c:o0):Spec:=Tr [(false,[.data .str])] t .str λx k=>c x.1.1 k
def o5:o0:=λs k=>cond (decide (s.length<4294967281)) (k (Lib.fieldsD s)) none
theorem Arm{g:Nat}{w:World}(h:Ys g w):Lib.WhiteTab g w:=by obtain⟨T,oT,R,oR,a,b,c⟩:=h;refine⟨T,oT,R,oR,a 0 _ rfl,b 0 _ rfl,b 1 _ rfl,b 2 _ rfl,λi hi=>c i _ ?_⟩;have hl:Lib.whiteT.length=21:=rfl;rw[FT,Ef (by omega),Qd,Ef (by omega)];rfl
theorem Aef{w:World}{ok:Nat->Prop}:∀(bs:List (List UInt8)),DList (λ(x:List UInt8) u=>DRep w ok .str x u) bs (bs.map λx=>Value.string ⟨x.toArray⟩)
 |[]=>rfl
 |b::bs=>⟨[.string ⟨b.toArray⟩],_,rfl,by simp[DRep],Aef bs⟩
theorem Arn{P:Program}{ρ:Shelf.Ren}{f:FuncId}{t:TypeId}(L:Lays.n157 P ρ)(hf:ρ.f 157=f)(ht:ρ.t 9=t)(AaD:(P.info? (ρ.t 9)).map (λi=>(i.zero,i.size,i.bytes))=some (some (.string ByteArray.empty),1,16))(AGv:(P.info? (ρ.t 154)).map (λi=>(i.zero,i.size,i.bytes))=some (some (.agg #[.int .i64 0,.int .i64 0]),2,16))(hg:P.globalNamed "strings.asciiSpace"=some (ρ.g 0))(hw:P.globalNamed "unicode.White_Space"=some (ρ.g 6))(C3:∃fn,P.funcs[f]?=some fn/\(fn.name== "runtime.NumGoroutine")=false/\fn.body.isNone=false):SpecOk P f (Aee t o5):=by
 subst hf ht;refine Aeb rfl C3 λ{β} x k r hr=>?_;obtain⟨⟨s,_⟩,_⟩:=x;simp only[o5]at hr;cases hd:decide (s.length<4294967281)with
 |false=>rw[hd]at hr;cases hr
 |true=>
  rw[hd,Ar]at hr;have Bp:=Bv hd;refine⟨_,hr,λE args hG B3=>?_⟩;obtain⟨rst,rfl,h3⟩:=TReps.str_inv B3;have:rst=[]:=h3;subst this;have Bm:(⟨s.toArray⟩:ByteArray).size=s.length:=by simp[ByteArray.size]
  refine(Any.strings_Fields_any L AaD AGv hg ⟨s.toArray⟩ E.w (by rw[Bm];exact Bp) (hG.tab (x:=("strings.asciiSpace",.u8,Lib.asciiSpaceTab)) (by simp[SK]) hg) (Arm (hG.white hw))).mono λe w' ⟨A,he,_,Ao,hb⟩=>?_;exact⟨_,_,he,hb,Aef _,Ao⟩
end Go.Lift
