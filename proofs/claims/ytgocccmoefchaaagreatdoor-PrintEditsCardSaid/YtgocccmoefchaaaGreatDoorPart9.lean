/- Part9: LiftLi. -/
import Derived.Shelf.Vars
import Derived.Shelf.Strings.Cut
import Derived.Shelf.Strings.Search3
import Derived.Shelf.Strings.Split
import Derived.Shelf.Strings.Repeat
import Derived.Shelf.Strings.FieldsAny
import Derived.Shelf.Strconv.AtoiAll
import Derived.Shelf.Strconv.Itoa3
import Derived.Test.YtgocccmoefchaaaGreatDoorPart8
set_option linter.unusedVariables false
set_option linter.unusedSectionVars false
set_option linter.unusedSimpArgs false
namespace Go.Lift
open Go.RowKit Go.Shelf Go.Proofs
@[reducible] def HL(ps rs:List (Bool×List CT))(c:{β:Type}->ST.dens ps->(ST.dens rs->Option β)->Option β):Spec:=
 ⟨ps,[],rs,[],λx k=>c x.1 (λy=>k (y,()))⟩
theorem Am8{P:Program}{f:FuncId}{ps rs:List (Bool×List CT)}{c:{β:Type}->ST.dens ps->(ST.dens rs->Option β)->Option β}(Cl:∃fn,P.funcs[f]?=some fn/\(fn.name== "runtime.NumGoroutine")=false/\fn.body.isNone=false)(h:∀{β:Type}(x:ST.dens ps)(k:ST.dens rs->Option β)(r:β),c x k=some r->∃y,k y=some r/\∀(E:Env)(args:List Value),GlobR P none E.w->TReps E (mkS [] ps x) args->Calls P f args.toArray E.w λe w'=>∃Bh,e=.returned (Hx Bh)/\Below E.w.heap.size E.w w'/\∀E':Env,E'.w=w'->(∀g,E.w.heap.size<=g->E'.ok g)->TReps E' (mkS [] rs y) Bh):SpecOk P f (HL ps rs c):=by
 refine⟨Cl,λ{β} x k r hr=>?_⟩;obtain⟨y,hy,hc⟩:=h x.1 (λy=>k (y,())) r hr;refine⟨(y,()),hy,λok0 pl w args Fo Bg=>?_⟩;have AC5:∀i,fnBl (mkB (AH 0 (HL ps rs c).ins.length) (HL ps rs c).ins x.2) i=none:=λi=>rfl;refine(hc (Al ok0 w.heap.size pl (fnBl (mkB (AH 0 (HL ps rs c).ins.length) (HL ps rs c).ins x.2)) w) args (Fo.glob.row λg hg=>by cases hg) Bg).mono λe w' ⟨Bh,he,hb,ht⟩=>?_;have hb:Below w.heap.size w w':=hb;have Ak:∀(p:Nat->Option Pl) g,¬Own p (fnBl (mkB (AH 0 (HL ps rs c).outs.length) (HL ps rs c).outs ())) g:=λp g ⟨i,B,q,hB,_⟩=>by cases hB
 exact⟨Bh,pl,he,⟨hb.size,λi B hB=>(by cases hB),λi j B C p q g _ hB=>(by cases hB),Fo.fresh,Fo.glob.out hb.size λg hg _=>⟨hb.block g hg,Ak _ g⟩⟩,
  ⟨hb.os,hb.tape,hb.output,hb.size,λg hg _=>⟨hb.block g hg,Ak _ g⟩,λb g _ h=>h,λb sv Ab _ h=>⟨sv,Ab,h⟩⟩,ht _ rfl λg hg=>⟨.inr ⟨hg,λhn=>absurd (Fo.glob.no g hn).1 (Nat.not_lt.2 hg)⟩,Ak _ g⟩⟩
theorem RK{P:Program}{f:FuncId}{ps rs:List (Bool×List CT)}{c:{β:Type}->ST.dens ps->(ST.dens rs->Option β)->Option β}(Cl:∃fn,P.funcs[f]?=some fn/\(fn.name== "runtime.NumGoroutine")=false/\fn.body.isNone=false)(h:∀{β:Type}(x:ST.dens ps)(k:ST.dens rs->Option β)(r:β),c x k=some r->∃y,k y=some r/\∀(E:Env)(args:List Value),GlobR P none E.w->TReps E (mkS [] ps x) args->Calls P f args.toArray E.w λe w'=>∃Bh,e=.returned (Hx Bh)/\Below E.w.heap.size E.w w'/\∀E':Env,TReps E' (mkS [] rs y) Bh):SpecOk P f (HL ps rs c):=
 Am8 Cl λx k r hr=>by obtain⟨y,hy,hc⟩:=h x k r hr;exact⟨y,hy,λE args hG Bg=>(hc E args hG Bg).mono λe w' ⟨Bh,he,hb,ht⟩=>⟨Bh,he,hb,λE' _ _=>ht E'⟩⟩
theorem GlobR.tab{P:Program}{o:Option Nat}{w:World}(h:GlobR P o w){x:String×IntKind×List Int}(hx:x∈Rp){g:Nat}(hg:P.globalNamed x.1=some g):Lib.TabIs P w x.1 x.2.1 x.2.2:=by
 obtain⟨w0,h1,_,h3⟩:=h;have ht:=h1.tabs x hx (by rw[hg];rfl);unfold Lib.TabIs World.var? at ht⊢;rw[hg]at ht⊢;simp only[VH]at ht⊢
 have Ao:g<w0.heap.size:=by
  split at ht
  ·rename_i cs _ _ hc;exact(HD.1 hc).1
  ·cases ht
 rw[(h3 g Ao).1];exact ht
theorem GlobR.cell{P:Program}{o:Option Nat}{w:World}(h:GlobR P o w){g:Nat}(_hg:g<P.globals.size){Q:Value->Prop}(hq:∀w0:World,w0.ShapedOpen P->∃v,w0.cell? ⟨g,0,none⟩=some v/\Q v):∃v,w.cell? ⟨g,0,none⟩=some v/\Q v:=by
 obtain⟨w0,h1,_,h3⟩:=h;obtain⟨v,hv,hQ⟩:=hq w0 h1.open_;exact⟨v,(World.cell?_of_block (h3 g (World.block_lt_of_cell? w0 _ hv)).1).trans hv,hQ⟩
theorem GlobR.err{P:Program}{o:Option Nat}{w:World}(h:GlobR P o w){n:String}(hn:n∈Rq){g:Nat}(hg:P.globalNamed n=some g):∃t u,w.cell? ⟨g,0,none⟩=some (.iface t u):=by obtain⟨w0,h1,_,h3⟩:=h;obtain⟨t,u,ht⟩:=h1.errs n hn (by rw[hg];rfl);have hc:=World.var?_cell hg ht 0;refine⟨t,u,?_⟩;rw[World.cell?_of_block (w:=w0) (h3 g (World.block_lt_of_cell? w0 ⟨g,0,none⟩ (by rw[hc];rfl))).1,hc];rfl
theorem ReadsAt.keep{w0 w:World}(h:∀g,g<w0.heap.size->w.heap[g]?=w0.heap[g]?){b o:Nat}{vs:List Value}(hr:ReadsAt w0 b o vs):ReadsAt w b o vs:=λi v hv=>by have hc:=hr i v hv;exact(World.cell?_of_block (h b (World.block_lt_of_cell? w0 _ hc))).trans hc
theorem GlobR.white{P:Program}{o:Option Nat}{w:World}(h:GlobR P o w){g:Nat}(hg:P.globalNamed "unicode.White_Space"=some g):Wc g w:=by obtain⟨w0,h1,_,h3⟩:=h;obtain⟨T,oT,R,oR,a,b,c⟩:=h1.white g hg;have k:∀g,g<w0.heap.size->w.heap[g]?=w0.heap[g]?:=λg hl=>(h3 g hl).1;exact⟨T,oT,R,oR,a.keep k,b.keep k,c.keep k⟩
theorem TReps.str_inv{E:Env}{s:List UInt8}{ts:List (Bool×List C)}{args:List Value}(h:TReps E ((false,[.str s])::ts) args):∃rst,args=.string ⟨s.toArray⟩::rst/\TReps E ts rst:=by obtain⟨v,vs,e,⟨us,⟨u,C4,e1,h1,h2⟩,h3⟩,h4⟩:=h;simp only[CReps]at h2;simp only[CRep]at h1;simp only[HE,Cx]at h3;subst h2 h1 e1;simp only[De,EA]at h3;subst h3;exact⟨vs,e,h4⟩
theorem TReps.int_inv{E:Env}{k:IntKind}{n:Int}{ts:List (Bool×List C)}{args:List Value}(h:TReps E ((false,[.int k n])::ts) args):∃rst,args=.int k n::rst/\TReps E ts rst:=by obtain⟨v,vs,e,⟨us,⟨u,C4,e1,h1,h2⟩,h3⟩,h4⟩:=h;simp only[CReps]at h2;simp only[CRep]at h1;simp only[HE,Cx]at h3;subst h2 h1 e1;simp only[De,EA]at h3;subst h3;exact⟨vs,e,h4⟩
theorem TReps.str1{E:Env}{s:List UInt8}{ts:List (Bool×List C)}{Bh:List Value}(h:TReps E ts Bh):TReps E ((false,[.str s])::ts) (.string ⟨s.toArray⟩::Bh):=
 ⟨_,_,rfl,⟨[_],⟨_,_,rfl,rfl,rfl⟩,by simp⟩,h⟩
theorem TReps.bool1{E:Env}{b:Bool}{ts:List (Bool×List C)}{Bh:List Value}(h:TReps E ts Bh):TReps E ((false,[.bool b])::ts) (.bool b::Bh):=
 ⟨_,_,rfl,⟨[_],⟨_,_,rfl,rfl,rfl⟩,by simp⟩,h⟩
theorem TReps.err1{E:Env}{b:Bool}{v:Value}{ts:List (Bool×List C)}{Bh:List Value}(hv:errRep b v)(h:TReps E ts Bh):TReps E ((false,[.err b])::ts) (v::Bh):=
 ⟨_,_,rfl,⟨[v],⟨_,_,rfl,hv,rfl⟩,by simp⟩,h⟩
abbrev cutT:={β:Type}->List UInt8->List UInt8->(List UInt8->List UInt8->Bool->Option β)->Option β
@[reducible] def cutS(c:cutT):Spec:=HL [(false,[.data .str]),(false,[.data .str])] [(false,[.data .str]),(false,[.data .str]),(false,[.data .bool])] λx k=>c x.1.1 x.2.1.1 λr0 r1 r2=>k ((r0,()),(r1,()),(r2,()),())
def cutF:cutT:=λs sep k=>cond (decide (s.length<4294967281)) (k (Lib.cut s sep).1 (Lib.cut s sep).2.1 (Lib.cut s sep).2.2) none
theorem Am9{P:Program}{ρ:Shelf.Ren}{f:FuncId}(L:Lays.n145 P ρ)(hf:ρ.f 145=f)(hg:ρ.g 1<P.globals.size)(hm:∀w0:World,w0.ShapedOpen P->∃m,w0.cell? ⟨ρ.g 1,0,none⟩=some (.int .i64 m))(Cl:∃fn,P.funcs[f]?=some fn/\(fn.name== "runtime.NumGoroutine")=false/\fn.body.isNone=false):SpecOk P f (cutS cutF):=by
 subst hf;refine RK Cl λ{β} x k r hr=>?_;obtain⟨⟨s,_⟩,⟨sep,_⟩,_⟩:=x;simp only[cutF]at hr;cases hd:decide (s.length<4294967281)with
 |false=>rw[hd]at hr;cases hr
 |true=>
  rw[hd,Am]at hr;have Bb:=AV hd;refine⟨_,hr,λE args hG Bg=>?_⟩;obtain⟨rst,rfl,h2⟩:=TReps.str_inv Bg;obtain⟨rst2,rfl,h3⟩:=TReps.str_inv h2;have:rst2=[]:=h3;subst this;obtain⟨v,hv,m,rfl⟩:=hG.cell hg (Q:=λv=>∃m,v=.int .i64 m) λw0 h0=>by obtain⟨m,h⟩:=hm w0 h0;exact⟨_,h,m,rfl⟩
  refine(Any.strings_Cut L ⟨s.toArray⟩ ⟨sep.toArray⟩ m E.w (by simpa [ByteArray.size]using Bb) hv).mono λe w' ⟨he,n,hw⟩=>?_;subst hw;exact⟨[_,_,_],he,⟨rfl,rfl,rfl,AC _,λ_ _=>rfl⟩,λE'=>TReps.str1 (TReps.str1 (TReps.bool1 rfl))⟩
abbrev gQ:={β:Type}->Int->(List UInt8->Option β)->Option β
@[reducible] def Aaf(c:gQ):Spec:=HL [(false,[.data (.int .i64)])] [(false,[.data .str])] λx k=>c x.1.1 λr0=>k ((r0,()),())
def RL:gQ:=λn k=>cond (decide (-9223372036854775808<=n)&&decide (n<=9223372036854775807)) (k (Lib.itoa n)) none
theorem Ama{w:World}{k:Nat}{os:Array Obj}:Below w.heap.size w (Go.Sort.grow (w.drewN k) os):=by
 refine⟨rfl,rfl,rfl,?_,λi hi=>?_⟩
 ·show w.heap.size<=(w.heap++os).size
  simp
 ·show(w.heap++os)[i]?=w.heap[i]?
  rw[V1 hi]
theorem Amb{P:Program}{ρ:Shelf.Ren}{f:FuncId}(L:LaysM.n171 P ρ)(hf:ρ.f 171=f){g:Nat}(hg:P.globalNamed "internal/strconv.uint64pow10"=some g)(Cl:∃fn,P.funcs[f]?=some fn/\(fn.name== "runtime.NumGoroutine")=false/\fn.body.isNone=false):SpecOk P f (Aaf RL):=by
 subst hf;refine RK Cl λ{β} x k r hr=>?_;obtain⟨⟨n,_⟩,_⟩:=x;simp only[RL]at hr;cases hd:(decide (-9223372036854775808<=n)&&decide (n<=9223372036854775807))with
 |false=>rw[hd]at hr;cases hr
 |true=>rw[hd,Am]at hr;obtain⟨h1,h2⟩:=andB hd;refine⟨_,hr,λE args hG Bg=>?_⟩;obtain⟨rst,rfl,h3⟩:=TReps.int_inv Bg;have:rst=[]:=h3;subst this;refine(Any.strconv_Itoa L n (AV h1) (AV h2) E.w (hG.tab (x:=("internal/strconv.uint64pow10",.u64,Lib.pow10Tab)) (by simp[Rp]) hg)).mono λe w' ⟨he,q,os,hw⟩=>?_;subst hw;exact⟨[_],he,Ama,λE'=>TReps.str1 rfl⟩
abbrev gR:={β:Type}->List UInt8->(Int->Bool->Option β)->Option β
@[reducible] def Aag(c:gR):Spec:=HL [(false,[.data .str])] [(false,[.data (.int .i64)]),(false,[.data .err])] λx k=>c x.1.1 λr0 r1=>k ((r0,()),(r1,()),())
def Kd(s:List UInt8):Int×Bool:=
 match Lib.atoiAll s with
 |.ok v=>(v,true)
 |.range=>(Lib.atoiSat s,false)
 |_=>(0,false)
def WB:gR:=λs k=>cond (decide (s.length<=281474976710656)) (k (Kd s).1 (Kd s).2) none
theorem Amc{P:Program}{ρ:Shelf.Ren}{f:FuncId}(L:LaysC.n172 P ρ)(hf:ρ.f 172=f)(Ayn:P.globalNamed "strconv.ErrSyntax"=some (ρ.g 15))(Ayo:P.globalNamed "strconv.ErrRange"=some (ρ.g 16))(Cl:∃fn,P.funcs[f]?=some fn/\(fn.name== "runtime.NumGoroutine")=false/\fn.body.isNone=false):SpecOk P f (Aag WB):=by
 subst hf;refine RK Cl λ{β} x k r hr=>?_;obtain⟨⟨s,_⟩,_⟩:=x;simp only[WB]at hr;cases hd:decide (s.length<=281474976710656)with
 |false=>rw[hd]at hr;cases hr
 |true=>
  rw[hd,Am]at hr;have Bb:=AV hd;refine⟨_,hr,λE args hG Bg=>?_⟩;obtain⟨rst,rfl,h3⟩:=TReps.str_inv Bg;have:rst=[]:=h3;subst this;have hs:(⟨s.toArray⟩:ByteArray).size=s.length:=by simp[ByteArray.size]
  cases hv:Lib.atoiAll s
  ·rename_i v
   have ev:Kd s=(v,true):=by unfold Kd;rw[hv]
   rw[ev];refine(Any.strconv_Atoi_ok L ⟨s.toArray⟩ (by rw[hs];omega) v hv E.w).mono λe w' ⟨he,hw⟩=>?_;refine⟨[_,_],he,?_,λE'=>TReps.int (TReps.err1 (b:=true) rfl rfl)⟩;rcases hw with rfl|⟨t,rfl⟩
   ·exact Below.refl _ _
   ·exact Lib.bytesWorld_below _ _ _
  ·have ev:Kd s=(0,false):=by unfold Kd;rw[hv]
   rw[ev];obtain⟨te,pe,hc⟩:=hG.err (by simp[Rq]) Ayn
   exact(Any.strconv_Atoi_syntax L ⟨s.toArray⟩ (by rw[hs];omega) hv _ E.w hc (.inr ⟨te,pe,rfl⟩)).mono λe w' ⟨N,he,_,_,hb⟩=>
    ⟨[_,_],he,hb,λE'=>TReps.int (TReps.err1 (b:=false) ⟨_,_,rfl⟩ rfl)⟩
  ·have ev:Kd s=(Lib.atoiSat s,false):=by unfold Kd;rw[hv]
   rw[ev];obtain⟨te,pe,hc⟩:=hG.err (by simp[Rq]) Ayo
   exact(Any.strconv_Atoi_range L ⟨s.toArray⟩ (by rw[hs];omega) hv _ E.w hc (.inr ⟨te,pe,rfl⟩)).mono λe w' ⟨N,he,_,_,hb⟩=>
    ⟨[_,_],he,hb,λE'=>TReps.int (TReps.err1 (b:=false) ⟨_,_,rfl⟩ rfl)⟩
abbrev gS:={β:Type}->List UInt8->List UInt8->(Bool->Option β)->Option β
@[reducible] def Aah(c:gS):Spec:=HL [(false,[.data .str]),(false,[.data .str])] [(false,[.data .bool])] λx k=>c x.1.1 x.2.1.1 λr0=>k ((r0,()),())
def WC:gS:=λs sep k=>cond (decide (s.length<4294967281)) (k (Lib.contains s sep)) none
theorem Amd{P:Program}{ρ:Shelf.Ren}{f:FuncId}(L:Lays.n144 P ρ)(hf:ρ.f 144=f)(hg:ρ.g 1<P.globals.size)(hm:∀w0:World,w0.ShapedOpen P->∃m,w0.cell? ⟨ρ.g 1,0,none⟩=some (.int .i64 m))(Cl:∃fn,P.funcs[f]?=some fn/\(fn.name== "runtime.NumGoroutine")=false/\fn.body.isNone=false):SpecOk P f (Aah WC):=by
 subst hf;refine RK Cl λ{β} x k r hr=>?_;obtain⟨⟨s,_⟩,⟨sep,_⟩,_⟩:=x;simp only[WC]at hr;cases hd:decide (s.length<4294967281)with
 |false=>rw[hd]at hr;cases hr
 |true=>
  rw[hd,Am]at hr;have Bb:=AV hd;refine⟨_,hr,λE args hG Bg=>?_⟩;obtain⟨rst,rfl,h2⟩:=TReps.str_inv Bg;obtain⟨rst2,rfl,h3⟩:=TReps.str_inv h2;have:rst2=[]:=h3;subst this;obtain⟨v,hv,m,rfl⟩:=hG.cell hg (Q:=λv=>∃m,v=.int .i64 m) λw0 h0=>by obtain⟨m,h⟩:=hm w0 h0;exact⟨_,h,m,rfl⟩
  refine(Any.strings_Contains L ⟨s.toArray⟩ ⟨sep.toArray⟩ m E.w (by simpa [ByteArray.size]using Bb) hv).mono λe w' ⟨he,hw⟩=>?_;subst hw;exact⟨[_],he,Below.refl _ _,λE'=>TReps.bool1 rfl⟩
abbrev WD:={β:Type}->List UInt8->List UInt8->(List (List UInt8)->Option β)->Option β
@[reducible] def ABE(c:WD):Spec:=HL [(false,[.data .str]),(false,[.data .str])] [(false,[.data (.slice .str)])] λx k=>c x.1.1 x.2.1.1 λr0=>k ((r0,()),())
def LY(s sep:List UInt8):List (List UInt8):=(Lib.splitB ⟨sep.toArray⟩ 0 (Lib.countB ⟨s.toArray⟩ ⟨sep.toArray⟩) ⟨s.toArray⟩).map λb=>b.data.toList
def RM:WD:=λs sep k=>cond (decide (s.length<4294967281)&&decide (1<=sep.length)) (k (LY s sep)) none
theorem Aai{w:World}{ok:Nat->Prop}:∀(bs:List ByteArray),DList (λ(x:List UInt8) u=>DRep w ok .str x u) (bs.map λb=>b.data.toList) (bs.map Value.string)
 |[]=>rfl
 |b::bs=>⟨[.string b],_,rfl,by simp[DRep],Aai bs⟩
@[reducible] def RN(ps:List (Bool×List CT))(t:TypeId)(e:Ty)(c:{β:Type}->ST.dens ps->(List e.den->Option β)->Option β):Spec:=
 ⟨ps,[],[(false,[.rowh 0])],[.row t e],λx k=>c x.1 (λl=>k (((),()),(l,())))⟩
theorem Aaj{P:Program}{f:FuncId}{ps:List (Bool×List CT)}{t:TypeId}{e:Ty}{c:{β:Type}->ST.dens ps->(List e.den->Option β)->Option β}(he:e.flat=true)(Cl:∃fn,P.funcs[f]?=some fn/\(fn.name== "runtime.NumGoroutine")=false/\fn.body.isNone=false)(h:∀{β:Type}(x:ST.dens ps)(k:List e.den->Option β)(r:β),c x k=some r->∃l,k l=some r/\∀(E:Env)(args:List Value),GlobR P none E.w->TReps E (mkS [] ps x) args->Calls P f args.toArray E.w λe2 w'=>∃sv xs,e2=.returned sv/\Below E.w.heap.size E.w w'/\DList (λx u=>DRep w' (λ_=>True) e x u) l xs/\w'.ownsRow E.w.heap.size t e.size sv l.length xs):SpecOk P f (RN ps t e c):=by
 refine⟨Cl,λ{β} x k r hr=>?_⟩;obtain⟨l,hy,hc⟩:=h x.1 (λl=>k (((),()),(l,()))) r hr;refine⟨(((),()),(l,())),hy,λok0 pl w args Fo Bg=>?_⟩;refine(hc (Al ok0 w.heap.size pl (fnBl (mkB (AH 0 (RN ps t e c).ins.length) (RN ps t e c).ins x.2)) w) args (Fo.glob.row λg hg=>by cases hg) Bg).mono λe2 w' ⟨sv,xs,I1,hb,hd,Ak⟩=>?_;have hb:Below w.heap.size w w':=hb;have Ak:w'.ownsRow w.heap.size t e.size sv l.length xs:=Ak
 let Ai:Nat->Option Pl:=λi=>if i=0 then some (.row sv [])else none
 let bl':Nat->Option Blk:=fnBl (mkB (AH 0 1) [.row t e] (l,()))
 have Ur:bl' 0=some (.row t e 0 l):=rfl
 have aF:∀i B,bl' i=some B->i=0/\B=.row t e 0 l:=by
  intro i B hB;have hB:([Blk.row t e 0 l]:List Blk)[i]?=some B:=hB;cases i with
  |zero=>simp at hB;exact⟨rfl,hB.symm⟩
  |succ i=>simp at hB
 have Jk:sv.oneCell'=true:=by rcases Ak.2 with⟨h,_⟩|⟨g,cap,AQ,h,_⟩<;>rw[h]<;>rfl
 have hOwn:∀g,g<w.heap.size->¬Own Ai bl' g:=by
  rintro g hg ⟨i,B,q,hB,_,hq,Bn⟩;obtain⟨rfl,rfl⟩:=aF i B hB;have hq:some (Pl.row sv [])=some q:=hq;injection hq with hq;subst hq;have:=Pl.has_row Bn;rcases Ak.2 with⟨h,_⟩|⟨g',cap,AQ,h,Qu,_⟩
  ·rw[h]at this;cases this
  ·rw[h]at this
   simp only[Value.ownBlock,Af]at this;omega
 have AzM:RelB ok0 w.heap.size Ai bl' w':=by
  refine⟨hb.size,λi B hB=>?_,λi j B C p q g Db hB hC=>?_,λi hi=>?_,Fo.glob.out hb.size λg hg _=>⟨hb.block g hg,hOwn g hg⟩⟩
  ·obtain⟨rfl,rfl⟩:=aF i B hB
   exact⟨.row sv [],rfl,rfl,xs,hd.mono λx u hu=>hu.flat he,Ak⟩
  ·obtain⟨rfl,_⟩:=aF i B hB
   obtain⟨rfl,_⟩:=aF j C hC;exact absurd rfl Db
  ·show(if i=0 then some (Pl.row sv [])else none)=none
   cases i with
   |zero=>rw[Ur]at hi;cases hi
   |succ i=>rfl
 refine⟨[sv],Ai,I1,AzM,⟨hb.os,hb.tape,hb.output,hb.size,λg hg _=>⟨hb.block g hg,hOwn g hg⟩,λb g hm _=>absurd hm (MN _),λb a q hm _=>absurd hm (MN _)⟩,?_⟩
 exact⟨sv,[],rfl,⟨[sv],⟨sv,[],rfl,⟨Jk,sv,[],rfl,λt1 e1 ver' l1 I0=>by have I0:bl' 0=some (.row t1 e1 ver' l1):=I0;rw[Ur]at I0;injection I0 with I0;injection I0 with q1 q2 q3 q4;exact⟨DM _,λ_=>rfl⟩⟩,rfl⟩,rfl⟩,rfl⟩
@[reducible] def Aak(t:TypeId)(c:WD):Spec:=RN [(false,[.data .str]),(false,[.data .str])] t .str λx k=>c x.1.1 x.2.1.1 k
theorem Ame{P:Program}{ρ:Shelf.Ren}{f:FuncId}{t:TypeId}(L:Lays.n146 P ρ)(hf:ρ.f 146=f)(ht:ρ.t 9=t)(tP:(P.info? (ρ.t 9)).map (λi=>(i.zero,i.size,i.bytes))=some (some (.string ByteArray.empty),1,16))(hg:ρ.g 1<P.globals.size)(hm:∀w0:World,w0.ShapedOpen P->∃m,w0.cell? ⟨ρ.g 1,0,none⟩=some (.int .i64 m))(Cl:∃fn,P.funcs[f]?=some fn/\(fn.name== "runtime.NumGoroutine")=false/\fn.body.isNone=false):SpecOk P f (Aak t RM):=by
 subst hf ht;refine Aaj rfl Cl λ{β} x k r hr=>?_;obtain⟨⟨s,_⟩,⟨sep,_⟩,_⟩:=x;simp only[RM]at hr;cases hd:(decide (s.length<4294967281)&&decide (1<=sep.length))with
 |false=>rw[hd]at hr;cases hr
 |true=>
  rw[hd,Am]at hr;obtain⟨d1,d2⟩:=andB hd;have Bb:=AV d1;have hsep:=AV d2;refine⟨_,hr,λE args hG Bg=>?_⟩;obtain⟨rst,rfl,h2⟩:=TReps.str_inv Bg;obtain⟨rst2,rfl,h3⟩:=TReps.str_inv h2;have:rst2=[]:=h3;subst this;obtain⟨v,hv,m,rfl⟩:=hG.cell hg (Q:=λv=>∃m,v=.int .i64 m) λw0 h0=>by obtain⟨m,h⟩:=hm w0 h0;exact⟨_,h,m,rfl⟩
  have Bk:(⟨sep.toArray⟩:ByteArray).size=sep.length:=by simp[ByteArray.size]
  have AS:(⟨s.toArray⟩:ByteArray).size=s.length:=by simp[ByteArray.size]
  have Uv:=Lib.countB_le ⟨sep.toArray⟩ (by rw[Bk];exact hsep) _ ⟨s.toArray⟩ (AC _);have Aj:=Lib.splitB_all ⟨sep.toArray⟩ (by rw[Bk];exact hsep) 0 _ ⟨s.toArray⟩ rfl;have Gu:(LY s sep).length=Lib.countB ⟨s.toArray⟩ ⟨sep.toArray⟩+1:=by unfold LY;rw[FJ,Aj]
  refine(Any.strings_Split L tP ⟨s.toArray⟩ ⟨sep.toArray⟩ m E.w (by rw[AS];exact Bb) hv (by rw[Bk];exact hsep)).mono λe w' ⟨he,hw⟩=>?_;subst hw;refine⟨_,(Lib.splitB ⟨sep.toArray⟩ 0 (Lib.countB ⟨s.toArray⟩ ⟨sep.toArray⟩) ⟨s.toArray⟩).map Value.string,he,(Below.refl _ _).alloc (AC _) _,Aai _,?_,.inr ⟨E.w.heap.size,_,_,by rw[Gu],AC _,heap_alloc_new _ _,?_,?_,?_,?_⟩⟩
  ·rw[Gu,FJ,Aj];simp[Ty.size]
  ·rw[Gu];exact AC _
  ·unfold maxLen;omega
  ·simp[Ty.size,Aj]
  ·rw[Gu];simp[Ty.size];exact G0 (by simp[Aj])
abbrev gT:={β:Type}->List UInt8->Int->(List UInt8->Option β)->Option β
@[reducible] def Aal(c:gT):Spec:=HL [(false,[.data .str]),(false,[.data (.int .i64)])] [(false,[.data .str])] λx k=>c x.1.1 x.2.1.1 λr0=>k ((r0,()),())
def WE:gT:=λs n k=>cond (decide (0<=n)&&(decide (n<=9223372036854775807)&&decide (s.length*n.toNat<=140737488355328))) (k (Lib.repeatL s n.toNat)) none
theorem Amf{P:Program}{ρ:Shelf.Ren}{f:FuncId}(L:Lays.n105 P ρ)(X:Builder.Extra P ρ)(hf:ρ.f 105=f)(Cl:∃fn,P.funcs[f]?=some fn/\(fn.name== "runtime.NumGoroutine")=false/\fn.body.isNone=false):SpecOk P f (Aal WE):=by
 subst hf;refine RK Cl λ{β} x k r hr=>?_;obtain⟨⟨s,_⟩,⟨n,_⟩,_⟩:=x;simp only[WE]at hr;cases hd:(decide (0<=n)&&(decide (n<=9223372036854775807)&&decide (s.length*n.toNat<=140737488355328)))with
 |false=>rw[hd]at hr;cases hr
 |true=>
  rw[hd,Am]at hr;obtain⟨d1,d2⟩:=andB hd;obtain⟨d2,d3⟩:=andB d2;have h0:(0:Int)<=n:=AV d1;have h1:(n:Int)<=9223372036854775807:=AV d2;have h2:=AV d3;refine⟨_,hr,λE args hG Bg=>?_⟩;obtain⟨rst,rfl,g2⟩:=TReps.str_inv Bg;obtain⟨rst2,rfl,g3⟩:=TReps.int_inv g2;have:rst2=[]:=g3;subst this;have key:∀n:Int,0<=n->n<=9223372036854775807->n=((n.toNat:Nat):Int)/\n.toNat<=9223372036854775807:=λn _ _=>⟨by omega,by omega⟩;obtain⟨hn,CS⟩:=key n h0 h1;have AS:(⟨s.toArray⟩:ByteArray).size=s.length:=by simp[ByteArray.size]
  have:=Any.strings_Repeat L X ⟨s.toArray⟩ n.toNat E.w CS (by rw[AS];exact h2);rw[<-hn]at this;refine this.mono λe w' ⟨he,hw⟩=>?_;exact⟨[_],he,hw,λE'=>TReps.str1 rfl⟩
abbrev gU:={β:Type}->List UInt8->(List (List UInt8)->Option β)->Option β
@[reducible] def Aam(t:TypeId)(c:gU):Spec:=RN [(false,[.data .str])] t .str λx k=>c x.1.1 k
def gV:gU:=λs k=>cond (decide (s.length<4294967281)) (k (Lib.fieldsD s)) none
theorem Amg{g:Nat}{w:World}(h:Wc g w):Lib.WhiteTab g w:=by obtain⟨T,oT,R,oR,a,b,c⟩:=h;refine⟨T,oT,R,oR,a 0 _ rfl,b 0 _ rfl,b 1 _ rfl,b 2 _ rfl,λi hi=>c i _ ?_⟩;have hl:Lib.whiteT.length=21:=rfl;rw[FI,DK (by omega),OC,DK (by omega)];rfl
theorem Aan{w:World}{ok:Nat->Prop}:∀(bs:List (List UInt8)),DList (λ(x:List UInt8) u=>DRep w ok .str x u) bs (bs.map λx=>Value.string ⟨x.toArray⟩)
 |[]=>rfl
 |b::bs=>⟨[.string ⟨b.toArray⟩],_,rfl,by simp[DRep],Aan bs⟩
theorem Amh{P:Program}{ρ:Shelf.Ren}{f:FuncId}{t:TypeId}(L:Lays.n157 P ρ)(hf:ρ.f 157=f)(ht:ρ.t 9=t)(tP:(P.info? (ρ.t 9)).map (λi=>(i.zero,i.size,i.bytes))=some (some (.string ByteArray.empty),1,16))(Az3:(P.info? (ρ.t 154)).map (λi=>(i.zero,i.size,i.bytes))=some (some (.agg #[.int .i64 0,.int .i64 0]),2,16))(hg:P.globalNamed "strings.asciiSpace"=some (ρ.g 0))(hw:P.globalNamed "unicode.White_Space"=some (ρ.g 6))(Cl:∃fn,P.funcs[f]?=some fn/\(fn.name== "runtime.NumGoroutine")=false/\fn.body.isNone=false):SpecOk P f (Aam t gV):=by
 subst hf ht;refine Aaj rfl Cl λ{β} x k r hr=>?_;obtain⟨⟨s,_⟩,_⟩:=x;simp only[gV]at hr;cases hd:decide (s.length<4294967281)with
 |false=>rw[hd]at hr;cases hr
 |true=>
  rw[hd,Am]at hr;have Bb:=AV hd;refine⟨_,hr,λE args hG Bg=>?_⟩;obtain⟨rst,rfl,h3⟩:=TReps.str_inv Bg;have:rst=[]:=h3;subst this;have AS:(⟨s.toArray⟩:ByteArray).size=s.length:=by simp[ByteArray.size]
  refine(Any.strings_Fields_any L tP Az3 hg ⟨s.toArray⟩ E.w (by rw[AS];exact Bb) (hG.tab (x:=("strings.asciiSpace",.u8,Lib.asciiSpaceTab)) (by simp[Rp]) hg) (Amg (hG.white hw))).mono λe w' ⟨A,he,_,Ak,hb⟩=>?_;exact⟨_,_,he,hb,Aan _,Ak⟩
end Go.Lift
