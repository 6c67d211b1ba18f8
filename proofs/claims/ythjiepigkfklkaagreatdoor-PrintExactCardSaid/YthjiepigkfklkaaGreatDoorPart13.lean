/- Part13 -/
import Derived.Shelf.Vars
import Derived.Shelf.Strings.Cut
import Derived.Shelf.Strings.Search3
import Derived.Shelf.Strings.Split
import Derived.Shelf.Strings.Repeat
import Derived.Shelf.Strings.FieldsAny
import Derived.Shelf.Strconv.AtoiAll
import Derived.Shelf.Strconv.Itoa3
import Derived.Test.YthjiepigkfklkaaGreatDoorPart12
set_option linter.unusedVariables false
set_option linter.unusedSectionVars false
set_option linter.unusedSimpArgs false
open _root_ renaming Option → Ya, List → Ye, Int → Yh, UInt8 → Yj, cond → Yk, Nat → Yn, Bool → Ys, absurd → Y7, ByteArray → YP
open Decidable renaming decide → Yd
open Option renaming none → Yf, some → Yg
open Bool renaming false → Yi, true → Yp
open Go renaming Value → Yq, TypeId → Yr, Program → Yw, World → Yx, FuncId → YA
open ByteArray renaming size → Yag, empty → YaY
open Go.Value renaming string → Ya5
namespace Go.Lift
open Go.RowKit Go.Shelf Go.Proofs
@[reducible] def IX(ps rs:Ye (Ys×Ye CT))(c:{β:Type}->ST.dens ps->(ST.dens rs->Ya β)->Ya β):Spec:=
 ⟨ps,[],rs,[],λx k=>c x.1 (λy=>k (y,()))⟩
theorem Avq{P:Yw}{f:YA}{ps rs:Ye (Ys×Ye CT)}{c:{β:Type}->ST.dens ps->(ST.dens rs->Ya β)->Ya β}(CD:∃fn,P.funcs[f]?=Yg fn/\(fn.name== "runtime.NumGoroutine")=Yi/\fn.body.isNone=Yi)(h:∀{β:Type}(x:ST.dens ps)(k:ST.dens rs->Ya β)(r:β),c x k=Yg r->∃y,k y=Yg r/\∀(E:Env)(args:Ye Yq),GlobR P Yf E.w->TReps E (mkS [] ps x) args->Calls P f args.toArray E.w λe w'=>∃Bw,e=.returned (Is Bw)/\Below E.w.heap.size E.w w'/\∀E':Env,E'.w=w'->(∀g,E.w.heap.size<=g->E'.ok g)->TReps E' (mkS [] rs y) Bw):SpecOk P f (IX ps rs c):=by
 refine⟨CD,λ{β} x k r hr=>?_⟩;obtain⟨y,hy,hc⟩:=h x.1 (λy=>k (y,())) r hr;refine⟨(y,()),hy,λok0 pl w args DJ Bv=>?_⟩;have AOE:∀i,fnBl (mkB (AP 0 (IX ps rs c).ins.length) (IX ps rs c).ins x.2) i=Yf:=λi=>rfl;refine(hc (At ok0 w.heap.size pl (fnBl (mkB (AP 0 (IX ps rs c).ins.length) (IX ps rs c).ins x.2)) w) args (DJ.glob.row λg hg=>by cases hg) Bv).mono λe w' ⟨Bw,he,hb,ht⟩=>?_;have hb:Below w.heap.size w w':=hb;have Aq:∀(p:Yn->Ya Pl) g,¬Own p (fnBl (mkB (AP 0 (IX ps rs c).outs.length) (IX ps rs c).outs ())) g:=λp g ⟨i,B,q,hB,_⟩=>by cases hB
 exact⟨Bw,pl,he,⟨hb.size,λi B hB=>(by cases hB),λi j B C p q g _ hB=>(by cases hB),DJ.fresh,DJ.glob.out hb.size λg hg _=>⟨hb.block g hg,Aq _ g⟩⟩,
  ⟨hb.os,hb.tape,hb.output,hb.size,λg hg _=>⟨hb.block g hg,Aq _ g⟩,λb g _ h=>h,λb sv Ac _ h=>⟨sv,Ac,h⟩⟩,ht _ rfl λg hg=>⟨.inr ⟨hg,λhn=>Y7 (DJ.glob.no g hn).1 (Nat.not_lt.2 hg)⟩,Aq _ g⟩⟩
theorem UE{P:Yw}{f:YA}{ps rs:Ye (Ys×Ye CT)}{c:{β:Type}->ST.dens ps->(ST.dens rs->Ya β)->Ya β}(CD:∃fn,P.funcs[f]?=Yg fn/\(fn.name== "runtime.NumGoroutine")=Yi/\fn.body.isNone=Yi)(h:∀{β:Type}(x:ST.dens ps)(k:ST.dens rs->Ya β)(r:β),c x k=Yg r->∃y,k y=Yg r/\∀(E:Env)(args:Ye Yq),GlobR P Yf E.w->TReps E (mkS [] ps x) args->Calls P f args.toArray E.w λe w'=>∃Bw,e=.returned (Is Bw)/\Below E.w.heap.size E.w w'/\∀E':Env,TReps E' (mkS [] rs y) Bw):SpecOk P f (IX ps rs c):=
 Avq CD λx k r hr=>by obtain⟨y,hy,hc⟩:=h x k r hr;exact⟨y,hy,λE args hG Bv=>(hc E args hG Bv).mono λe w' ⟨Bw,he,hb,ht⟩=>⟨Bw,he,hb,λE' _ _=>ht E'⟩⟩
theorem GlobR.tab{P:Yw}{o:Ya Yn}{w:Yx}(h:GlobR P o w){x:String×IntKind×Ye Yh}(hx:x∈Ul){g:Yn}(hg:P.globalNamed x.1=Yg g):Lib.TabIs P w x.1 x.2.1 x.2.2:=by
 obtain⟨w0,h1,_,h3⟩:=h;have ht:=h1.tabs x hx (by rw[hg];rfl);unfold Lib.TabIs World.var? at ht⊢;rw[hg]at ht⊢;simp only[aD]at ht⊢
 have Ax:g<w0.heap.size:=by
  split at ht
  ·rename_i cs _ _ hc;exact(IN.1 hc).1
  ·cases ht
 rw[(h3 g Ax).1];exact ht
theorem GlobR.cell{P:Yw}{o:Ya Yn}{w:Yx}(h:GlobR P o w){g:Yn}(_hg:g<P.globals.size){Q:Yq->Prop}(hq:∀w0:Yx,w0.ShapedOpen P->∃v,w0.cell? ⟨g,0,Yf⟩=Yg v/\Q v):∃v,w.cell? ⟨g,0,Yf⟩=Yg v/\Q v:=by
 obtain⟨w0,h1,_,h3⟩:=h;obtain⟨v,hv,hQ⟩:=hq w0 h1.open_;exact⟨v,(World.cell?_of_block (h3 g (World.block_lt_of_cell? w0 _ hv)).1).trans hv,hQ⟩
theorem GlobR.err{P:Yw}{o:Ya Yn}{w:Yx}(h:GlobR P o w){n:String}(hn:n∈Um){g:Yn}(hg:P.globalNamed n=Yg g):∃t u,w.cell? ⟨g,0,Yf⟩=Yg (.iface t u):=by obtain⟨w0,h1,_,h3⟩:=h;obtain⟨t,u,ht⟩:=h1.errs n hn (by rw[hg];rfl);have hc:=World.var?_cell hg ht 0;refine⟨t,u,?_⟩;rw[World.cell?_of_block (w:=w0) (h3 g (World.block_lt_of_cell? w0 ⟨g,0,Yf⟩ (by rw[hc];rfl))).1,hc];rfl
theorem ReadsAt.keep{w0 w:Yx}(h:∀g,g<w0.heap.size->w.heap[g]?=w0.heap[g]?){b o:Yn}{vs:Ye Yq}(hr:ReadsAt w0 b o vs):ReadsAt w b o vs:=λi v hv=>by have hc:=hr i v hv;exact(World.cell?_of_block (h b (World.block_lt_of_cell? w0 _ hc))).trans hc
theorem GlobR.white{P:Yw}{o:Ya Yn}{w:Yx}(h:GlobR P o w){g:Yn}(hg:P.globalNamed "unicode.White_Space"=Yg g):bE g w:=by obtain⟨w0,h1,_,h3⟩:=h;obtain⟨T,oT,R,oR,a,b,c⟩:=h1.white g hg;have k:∀g,g<w0.heap.size->w.heap[g]?=w0.heap[g]?:=λg hl=>(h3 g hl).1;exact⟨T,oT,R,oR,a.keep k,b.keep k,c.keep k⟩
theorem TReps.str_inv{E:Env}{s:Ye Yj}{ts:Ye (Ys×Ye C)}{args:Ye Yq}(h:TReps E ((Yi,[.str s])::ts) args):∃rst,args=.string ⟨s.toArray⟩::rst/\TReps E ts rst:=by obtain⟨v,vs,e,⟨us,⟨u,CM,e1,h1,h2⟩,h3⟩,h4⟩:=h;simp only[CReps]at h2;simp only[CRep]at h1;simp only[IQ,CN]at h3;subst h2 h1 e1;simp only[Dx,Fv]at h3;subst h3;exact⟨vs,e,h4⟩
theorem TReps.int_inv{E:Env}{k:IntKind}{n:Yh}{ts:Ye (Ys×Ye C)}{args:Ye Yq}(h:TReps E ((Yi,[.int k n])::ts) args):∃rst,args=.int k n::rst/\TReps E ts rst:=by obtain⟨v,vs,e,⟨us,⟨u,CM,e1,h1,h2⟩,h3⟩,h4⟩:=h;simp only[CReps]at h2;simp only[CRep]at h1;simp only[IQ,CN]at h3;subst h2 h1 e1;simp only[Dx,Fv]at h3;subst h3;exact⟨vs,e,h4⟩
theorem TReps.str1{E:Env}{s:Ye Yj}{ts:Ye (Ys×Ye C)}{Bw:Ye Yq}(h:TReps E ts Bw):TReps E ((Yi,[.str s])::ts) (.string ⟨s.toArray⟩::Bw):=
 ⟨_,_,rfl,⟨[_],⟨_,_,rfl,rfl,rfl⟩,by simp⟩,h⟩
theorem TReps.bool1{E:Env}{b:Ys}{ts:Ye (Ys×Ye C)}{Bw:Ye Yq}(h:TReps E ts Bw):TReps E ((Yi,[.bool b])::ts) (.bool b::Bw):=
 ⟨_,_,rfl,⟨[_],⟨_,_,rfl,rfl,rfl⟩,by simp⟩,h⟩
theorem TReps.err1{E:Env}{b:Ys}{v:Yq}{ts:Ye (Ys×Ye C)}{Bw:Ye Yq}(hv:errRep b v)(h:TReps E ts Bw):TReps E ((Yi,[.err b])::ts) (v::Bw):=
 ⟨_,_,rfl,⟨[v],⟨_,_,rfl,hv,rfl⟩,by simp⟩,h⟩
abbrev cutT:={β:Type}->Ye Yj->Ye Yj->(Ye Yj->Ye Yj->Ys->Ya β)->Ya β
@[reducible] def cutS(c:cutT):Spec:=IX [(Yi,[.data .str]),(Yi,[.data .str])] [(Yi,[.data .str]),(Yi,[.data .str]),(Yi,[.data .bool])] λx k=>c x.1.1 x.2.1.1 λr0 r1 r2=>k ((r0,()),(r1,()),(r2,()),())
def cutF:cutT:=λs sep k=>Yk (Yd (s.length<4294967281)) (k (Lib.cut s sep).1 (Lib.cut s sep).2.1 (Lib.cut s sep).2.2) Yf
theorem Avr{P:Yw}{ρ:Shelf.Ren}{f:YA}(L:Lays.n145 P ρ)(hf:ρ.f 145=f)(hg:ρ.g 1<P.globals.size)(hm:∀w0:Yx,w0.ShapedOpen P->∃m,w0.cell? ⟨ρ.g 1,0,Yf⟩=Yg (.int .i64 m))(CD:∃fn,P.funcs[f]?=Yg fn/\(fn.name== "runtime.NumGoroutine")=Yi/\fn.body.isNone=Yi):SpecOk P f (cutS cutF):=by
 subst hf;refine UE CD λ{β} x k r hr=>?_;obtain⟨⟨s,_⟩,⟨sep,_⟩,_⟩:=x;simp only[cutF]at hr;cases hd:Yd (s.length<4294967281)with
 |false=>rw[hd]at hr;cases hr
 |true=>
  rw[hd,As]at hr;have AU:=Bd hd;refine⟨_,hr,λE args hG Bv=>?_⟩;obtain⟨rst,rfl,h2⟩:=TReps.str_inv Bv;obtain⟨rst2,rfl,h3⟩:=TReps.str_inv h2;have:rst2=[]:=h3;subst this;obtain⟨v,hv,m,rfl⟩:=hG.cell hg (Q:=λv=>∃m,v=.int .i64 m) λw0 h0=>by obtain⟨m,h⟩:=hm w0 h0;exact⟨_,h,m,rfl⟩
  refine(Any.strings_Cut L ⟨s.toArray⟩ ⟨sep.toArray⟩ m E.w (by simpa [Yag]using AU) hv).mono λe w' ⟨he,n,hw⟩=>?_;subst hw;exact⟨[_,_,_],he,⟨rfl,rfl,rfl,Av _,λ_ _=>rfl⟩,λE'=>TReps.str1 (TReps.str1 (TReps.bool1 rfl))⟩
abbrev tH:={β:Type}->Yh->(Ye Yj->Ya β)->Ya β
@[reducible] def AgW(c:tH):Spec:=IX [(Yi,[.data (.int .i64)])] [(Yi,[.data .str])] λx k=>c x.1.1 λr0=>k ((r0,()),())
def UF:tH:=λn k=>Yk (Yd (-9223372036854775808<=n)&&Yd (n<=9223372036854775807)) (k (Lib.itoa n)) Yf
theorem Avs{w:Yx}{k:Yn}{os:Array Obj}:Below w.heap.size w (Go.Sort.grow (w.drewN k) os):=by
 refine⟨rfl,rfl,rfl,?_,λi hi=>?_⟩
 ·show w.heap.size<=(w.heap++os).size
  simp
 ·show(w.heap++os)[i]?=w.heap[i]?
  rw[ZN hi]
theorem Avt{P:Yw}{ρ:Shelf.Ren}{f:YA}(L:LaysM.n171 P ρ)(hf:ρ.f 171=f){g:Yn}(hg:P.globalNamed "internal/strconv.uint64pow10"=Yg g)(CD:∃fn,P.funcs[f]?=Yg fn/\(fn.name== "runtime.NumGoroutine")=Yi/\fn.body.isNone=Yi):SpecOk P f (AgW UF):=by
 subst hf;refine UE CD λ{β} x k r hr=>?_;obtain⟨⟨n,_⟩,_⟩:=x;simp only[UF]at hr;cases hd:(Yd (-9223372036854775808<=n)&&Yd (n<=9223372036854775807))with
 |false=>rw[hd]at hr;cases hr
 |true=>rw[hd,As]at hr;obtain⟨h1,h2⟩:=andB hd;refine⟨_,hr,λE args hG Bv=>?_⟩;obtain⟨rst,rfl,h3⟩:=TReps.int_inv Bv;have:rst=[]:=h3;subst this;refine(Any.strconv_Itoa L n (Bd h1) (Bd h2) E.w (hG.tab (x:=("internal/strconv.uint64pow10",.u64,Lib.pow10Tab)) (by simp[Ul]) hg)).mono λe w' ⟨he,q,os,hw⟩=>?_;subst hw;exact⟨[_],he,Avs,λE'=>TReps.str1 rfl⟩
abbrev tI:={β:Type}->Ye Yj->(Yh->Ys->Ya β)->Ya β
@[reducible] def AgX(c:tI):Spec:=IX [(Yi,[.data .str])] [(Yi,[.data (.int .i64)]),(Yi,[.data .err])] λx k=>c x.1.1 λr0 r1=>k ((r0,()),(r1,()),())
def NS(s:Ye Yj):Yh×Ys:=
 match Lib.atoiAll s with
 |.ok v=>(v,Yp)
 |.range=>(Lib.atoiSat s,Yi)
 |_=>(0,Yi)
def tJ:tI:=λs k=>Yk (Yd (s.length<=281474976710656)) (k (NS s).1 (NS s).2) Yf
theorem Avu{P:Yw}{ρ:Shelf.Ren}{f:YA}(L:LaysC.n172 P ρ)(hf:ρ.f 172=f)(AKG:P.globalNamed "strconv.ErrSyntax"=Yg (ρ.g 15))(AKH:P.globalNamed "strconv.ErrRange"=Yg (ρ.g 16))(CD:∃fn,P.funcs[f]?=Yg fn/\(fn.name== "runtime.NumGoroutine")=Yi/\fn.body.isNone=Yi):SpecOk P f (AgX tJ):=by
 subst hf;refine UE CD λ{β} x k r hr=>?_;obtain⟨⟨s,_⟩,_⟩:=x;simp only[tJ]at hr;cases hd:Yd (s.length<=281474976710656)with
 |false=>rw[hd]at hr;cases hr
 |true=>
  rw[hd,As]at hr;have AU:=Bd hd;refine⟨_,hr,λE args hG Bv=>?_⟩;obtain⟨rst,rfl,h3⟩:=TReps.str_inv Bv;have:rst=[]:=h3;subst this;have hs:(⟨s.toArray⟩:YP).size=s.length:=by simp[Yag]
  cases hv:Lib.atoiAll s
  ·rename_i v
   have ev:NS s=(v,Yp):=by unfold NS;rw[hv]
   rw[ev];refine(Any.strconv_Atoi_ok L ⟨s.toArray⟩ (by rw[hs];omega) v hv E.w).mono λe w' ⟨he,hw⟩=>?_;refine⟨[_,_],he,?_,λE'=>TReps.int (TReps.err1 (b:=Yp) rfl rfl)⟩;rcases hw with rfl|⟨t,rfl⟩
   ·exact Below.refl _ _
   ·exact Lib.bytesWorld_below _ _ _
  ·have ev:NS s=(0,Yi):=by unfold NS;rw[hv]
   rw[ev];obtain⟨te,pe,hc⟩:=hG.err (by simp[Um]) AKG
   exact(Any.strconv_Atoi_syntax L ⟨s.toArray⟩ (by rw[hs];omega) hv _ E.w hc (.inr ⟨te,pe,rfl⟩)).mono λe w' ⟨N,he,_,_,hb⟩=>
    ⟨[_,_],he,hb,λE'=>TReps.int (TReps.err1 (b:=Yi) ⟨_,_,rfl⟩ rfl)⟩
  ·have ev:NS s=(Lib.atoiSat s,Yi):=by unfold NS;rw[hv]
   rw[ev];obtain⟨te,pe,hc⟩:=hG.err (by simp[Um]) AKH
   exact(Any.strconv_Atoi_range L ⟨s.toArray⟩ (by rw[hs];omega) hv _ E.w hc (.inr ⟨te,pe,rfl⟩)).mono λe w' ⟨N,he,_,_,hb⟩=>
    ⟨[_,_],he,hb,λE'=>TReps.int (TReps.err1 (b:=Yi) ⟨_,_,rfl⟩ rfl)⟩
abbrev tK:={β:Type}->Ye Yj->Ye Yj->(Ys->Ya β)->Ya β
@[reducible] def AgY(c:tK):Spec:=IX [(Yi,[.data .str]),(Yi,[.data .str])] [(Yi,[.data .bool])] λx k=>c x.1.1 x.2.1.1 λr0=>k ((r0,()),())
def tL:tK:=λs sep k=>Yk (Yd (s.length<4294967281)) (k (Lib.contains s sep)) Yf
theorem Avv{P:Yw}{ρ:Shelf.Ren}{f:YA}(L:Lays.n144 P ρ)(hf:ρ.f 144=f)(hg:ρ.g 1<P.globals.size)(hm:∀w0:Yx,w0.ShapedOpen P->∃m,w0.cell? ⟨ρ.g 1,0,Yf⟩=Yg (.int .i64 m))(CD:∃fn,P.funcs[f]?=Yg fn/\(fn.name== "runtime.NumGoroutine")=Yi/\fn.body.isNone=Yi):SpecOk P f (AgY tL):=by
 subst hf;refine UE CD λ{β} x k r hr=>?_;obtain⟨⟨s,_⟩,⟨sep,_⟩,_⟩:=x;simp only[tL]at hr;cases hd:Yd (s.length<4294967281)with
 |false=>rw[hd]at hr;cases hr
 |true=>
  rw[hd,As]at hr;have AU:=Bd hd;refine⟨_,hr,λE args hG Bv=>?_⟩;obtain⟨rst,rfl,h2⟩:=TReps.str_inv Bv;obtain⟨rst2,rfl,h3⟩:=TReps.str_inv h2;have:rst2=[]:=h3;subst this;obtain⟨v,hv,m,rfl⟩:=hG.cell hg (Q:=λv=>∃m,v=.int .i64 m) λw0 h0=>by obtain⟨m,h⟩:=hm w0 h0;exact⟨_,h,m,rfl⟩
  refine(Any.strings_Contains L ⟨s.toArray⟩ ⟨sep.toArray⟩ m E.w (by simpa [Yag]using AU) hv).mono λe w' ⟨he,hw⟩=>?_;subst hw;exact⟨[_],he,Below.refl _ _,λE'=>TReps.bool1 rfl⟩
abbrev cJ:={β:Type}->Ye Yj->Ye Yj->(Ye (Ye Yj)->Ya β)->Ya β
@[reducible] def AO3(c:cJ):Spec:=IX [(Yi,[.data .str]),(Yi,[.data .str])] [(Yi,[.data (.slice .str)])] λx k=>c x.1.1 x.2.1.1 λr0=>k ((r0,()),())
def tM(s sep:Ye Yj):Ye (Ye Yj):=(Lib.splitB ⟨sep.toArray⟩ 0 (Lib.countB ⟨s.toArray⟩ ⟨sep.toArray⟩) ⟨s.toArray⟩).map λb=>b.data.toList
def tN:cJ:=λs sep k=>Yk (Yd (s.length<4294967281)&&Yd (1<=sep.length)) (k (tM s sep)) Yf
theorem AgZ{w:Yx}{ok:Yn->Prop}:∀(bs:Ye YP),DList (λ(x:Ye Yj) u=>DRep w ok .str x u) (bs.map λb=>b.data.toList) (bs.map Ya5)
 |[]=>rfl
 |b::bs=>⟨[.string b],_,rfl,by simp[DRep],AgZ bs⟩
@[reducible] def UG(ps:Ye (Ys×Ye CT))(t:Yr)(e:Ty)(c:{β:Type}->ST.dens ps->(Ye e.den->Ya β)->Ya β):Spec:=
 ⟨ps,[],[(Yi,[.rowh 0])],[.row t e],λx k=>c x.1 (λl=>k (((),()),(l,())))⟩
theorem Ah0{P:Yw}{f:YA}{ps:Ye (Ys×Ye CT)}{t:Yr}{e:Ty}{c:{β:Type}->ST.dens ps->(Ye e.den->Ya β)->Ya β}(he:e.flat=Yp)(CD:∃fn,P.funcs[f]?=Yg fn/\(fn.name== "runtime.NumGoroutine")=Yi/\fn.body.isNone=Yi)(h:∀{β:Type}(x:ST.dens ps)(k:Ye e.den->Ya β)(r:β),c x k=Yg r->∃l,k l=Yg r/\∀(E:Env)(args:Ye Yq),GlobR P Yf E.w->TReps E (mkS [] ps x) args->Calls P f args.toArray E.w λe2 w'=>∃sv xs,e2=.returned sv/\Below E.w.heap.size E.w w'/\DList (λx u=>DRep w' (λ_=>True) e x u) l xs/\w'.ownsRow E.w.heap.size t e.size sv l.length xs):SpecOk P f (UG ps t e c):=by
 refine⟨CD,λ{β} x k r hr=>?_⟩;obtain⟨l,hy,hc⟩:=h x.1 (λl=>k (((),()),(l,()))) r hr;refine⟨(((),()),(l,())),hy,λok0 pl w args DJ Bv=>?_⟩;refine(hc (At ok0 w.heap.size pl (fnBl (mkB (AP 0 (UG ps t e c).ins.length) (UG ps t e c).ins x.2)) w) args (DJ.glob.row λg hg=>by cases hg) Bv).mono λe2 w' ⟨sv,xs,Lm,hb,hd,Aq⟩=>?_;have hb:Below w.heap.size w w':=hb;have Aq:w'.ownsRow w.heap.size t e.size sv l.length xs:=Aq
 let Ak:Yn->Ya Pl:=λi=>if i=0 then Yg (.row sv [])else Yf
 let bl':Yn->Ya Blk:=fnBl (mkB (AP 0 1) [.row t e] (l,()))
 have XA:bl' 0=Yg (.row t e 0 l):=rfl
 have nC:∀i B,bl' i=Yg B->i=0/\B=.row t e 0 l:=by
  intro i B hB;have hB:([Blk.row t e 0 l]:Ye Blk)[i]?=Yg B:=hB;cases i with
  |zero=>simp at hB;exact⟨rfl,hB.symm⟩
  |succ i=>simp at hB
 have KE:sv.oneCell'=Yp:=by rcases Aq.2 with⟨h,_⟩|⟨g,cap,Ba,h,_⟩<;>rw[h]<;>rfl
 have hOwn:∀g,g<w.heap.size->¬Own Ak bl' g:=by
  rintro g hg ⟨i,B,q,hB,_,hq,B7⟩;obtain⟨rfl,rfl⟩:=nC i B hB;have hq:Yg (Pl.row sv [])=Yg q:=hq;injection hq with hq;subst hq;have:=Pl.has_row B7;rcases Aq.2 with⟨h,_⟩|⟨g',cap,Ba,h,Th,_⟩
  ·rw[h]at this;cases this
  ·rw[h]at this
   simp only[Value.ownBlock,Af]at this;omega
 have AM4:RelB ok0 w.heap.size Ak bl' w':=by
  refine⟨hb.size,λi B hB=>?_,λi j B C p q g Dv hB hC=>?_,λi hi=>?_,DJ.glob.out hb.size λg hg _=>⟨hb.block g hg,hOwn g hg⟩⟩
  ·obtain⟨rfl,rfl⟩:=nC i B hB
   exact⟨.row sv [],rfl,rfl,xs,hd.mono λx u hu=>hu.flat he,Aq⟩
  ·obtain⟨rfl,_⟩:=nC i B hB
   obtain⟨rfl,_⟩:=nC j C hC;exact Y7 rfl Dv
  ·show(if i=0 then Yg (Pl.row sv [])else Yf)=Yf
   cases i with
   |zero=>rw[XA]at hi;cases hi
   |succ i=>rfl
 refine⟨[sv],Ak,Lm,AM4,⟨hb.os,hb.tape,hb.output,hb.size,λg hg _=>⟨hb.block g hg,hOwn g hg⟩,λb g hm _=>Y7 hm (KP _),λb a q hm _=>Y7 hm (KP _)⟩,?_⟩
 exact⟨sv,[],rfl,⟨[sv],⟨sv,[],rfl,⟨KE,sv,[],rfl,λt1 e1 ver' l1 JG=>by have JG:bl' 0=Yg (.row t1 e1 ver' l1):=JG;rw[XA]at JG;injection JG with JG;injection JG with q1 q2 q3 q4;exact⟨EA _,λ_=>rfl⟩⟩,rfl⟩,rfl⟩,rfl⟩
@[reducible] def Ah1(t:Yr)(c:cJ):Spec:=UG [(Yi,[.data .str]),(Yi,[.data .str])] t .str λx k=>c x.1.1 x.2.1.1 k
theorem Avw{P:Yw}{ρ:Shelf.Ren}{f:YA}{t:Yr}(L:Lays.n146 P ρ)(hf:ρ.f 146=f)(ht:ρ.t 9=t)(Ady:(P.info? (ρ.t 9)).map (λi=>(i.zero,i.size,i.bytes))=Yg (Yg (.string YaY),1,16))(hg:ρ.g 1<P.globals.size)(hm:∀w0:Yx,w0.ShapedOpen P->∃m,w0.cell? ⟨ρ.g 1,0,Yf⟩=Yg (.int .i64 m))(CD:∃fn,P.funcs[f]?=Yg fn/\(fn.name== "runtime.NumGoroutine")=Yi/\fn.body.isNone=Yi):SpecOk P f (Ah1 t tN):=by
 subst hf ht;refine Ah0 rfl CD λ{β} x k r hr=>?_;obtain⟨⟨s,_⟩,⟨sep,_⟩,_⟩:=x;simp only[tN]at hr;cases hd:(Yd (s.length<4294967281)&&Yd (1<=sep.length))with
 |false=>rw[hd]at hr;cases hr
 |true=>
  rw[hd,As]at hr;obtain⟨d1,d2⟩:=andB hd;have AU:=Bd d1;have hsep:=Bd d2;refine⟨_,hr,λE args hG Bv=>?_⟩;obtain⟨rst,rfl,h2⟩:=TReps.str_inv Bv;obtain⟨rst2,rfl,h3⟩:=TReps.str_inv h2;have:rst2=[]:=h3;subst this;obtain⟨v,hv,m,rfl⟩:=hG.cell hg (Q:=λv=>∃m,v=.int .i64 m) λw0 h0=>by obtain⟨m,h⟩:=hm w0 h0;exact⟨_,h,m,rfl⟩
  have Bx:(⟨sep.toArray⟩:YP).size=sep.length:=by simp[Yag]
  have AW:(⟨s.toArray⟩:YP).size=s.length:=by simp[Yag]
  have XD:=Lib.countB_le ⟨sep.toArray⟩ (by rw[Bx];exact hsep) _ ⟨s.toArray⟩ (Av _);have Ap:=Lib.splitB_all ⟨sep.toArray⟩ (by rw[Bx];exact hsep) 0 _ ⟨s.toArray⟩ rfl;have OE:(tM s sep).length=Lib.countB ⟨s.toArray⟩ ⟨sep.toArray⟩+1:=by unfold tM;rw[HQ,Ap]
  refine(Any.strings_Split L Ady ⟨s.toArray⟩ ⟨sep.toArray⟩ m E.w (by rw[AW];exact AU) hv (by rw[Bx];exact hsep)).mono λe w' ⟨he,hw⟩=>?_;subst hw;refine⟨_,(Lib.splitB ⟨sep.toArray⟩ 0 (Lib.countB ⟨s.toArray⟩ ⟨sep.toArray⟩) ⟨s.toArray⟩).map Ya5,he,(Below.refl _ _).alloc (Av _) _,AgZ _,?_,.inr ⟨E.w.heap.size,_,_,by rw[OE],Av _,heap_alloc_new _ _,?_,?_,?_,?_⟩⟩
  ·rw[OE,HQ,Ap];simp[Ty.size]
  ·rw[OE];exact Av _
  ·unfold maxLen;omega
  ·simp[Ty.size,Ap]
  ·rw[OE];simp[Ty.size];exact GY (by simp[Ap])
abbrev tO:={β:Type}->Ye Yj->Yh->(Ye Yj->Ya β)->Ya β
@[reducible] def Ah2(c:tO):Spec:=IX [(Yi,[.data .str]),(Yi,[.data (.int .i64)])] [(Yi,[.data .str])] λx k=>c x.1.1 x.2.1.1 λr0=>k ((r0,()),())
def cK:tO:=λs n k=>Yk (Yd (0<=n)&&(Yd (n<=9223372036854775807)&&Yd (s.length*n.toNat<=140737488355328))) (k (Lib.repeatL s n.toNat)) Yf
theorem Avx{P:Yw}{ρ:Shelf.Ren}{f:YA}(L:Lays.n105 P ρ)(X:Builder.Extra P ρ)(hf:ρ.f 105=f)(CD:∃fn,P.funcs[f]?=Yg fn/\(fn.name== "runtime.NumGoroutine")=Yi/\fn.body.isNone=Yi):SpecOk P f (Ah2 cK):=by
 subst hf;refine UE CD λ{β} x k r hr=>?_;obtain⟨⟨s,_⟩,⟨n,_⟩,_⟩:=x;simp only[cK]at hr;cases hd:(Yd (0<=n)&&(Yd (n<=9223372036854775807)&&Yd (s.length*n.toNat<=140737488355328)))with
 |false=>rw[hd]at hr;cases hr
 |true=>
  rw[hd,As]at hr;obtain⟨d1,d2⟩:=andB hd;obtain⟨d2,d3⟩:=andB d2;have h0:(0:Yh)<=n:=Bd d1;have h1:(n:Yh)<=9223372036854775807:=Bd d2;have h2:=Bd d3;refine⟨_,hr,λE args hG Bv=>?_⟩;obtain⟨rst,rfl,g2⟩:=TReps.str_inv Bv;obtain⟨rst2,rfl,g3⟩:=TReps.int_inv g2;have:rst2=[]:=g3;subst this;have key:∀n:Yh,0<=n->n<=9223372036854775807->n=((n.toNat:Yn):Yh)/\n.toNat<=9223372036854775807:=λn _ _=>⟨by omega,by omega⟩;obtain⟨hn,Dq⟩:=key n h0 h1;have AW:(⟨s.toArray⟩:YP).size=s.length:=by simp[Yag]
  have:=Any.strings_Repeat L X ⟨s.toArray⟩ n.toNat E.w Dq (by rw[AW];exact h2);rw[<-hn]at this;refine this.mono λe w' ⟨he,hw⟩=>?_;exact⟨[_],he,hw,λE'=>TReps.str1 rfl⟩
abbrev tP:={β:Type}->Ye Yj->(Ye (Ye Yj)->Ya β)->Ya β
@[reducible] def Ah3(t:Yr)(c:tP):Spec:=UG [(Yi,[.data .str])] t .str λx k=>c x.1.1 k
def tQ:tP:=λs k=>Yk (Yd (s.length<4294967281)) (k (Lib.fieldsD s)) Yf
theorem Avy{g:Yn}{w:Yx}(h:bE g w):Lib.WhiteTab g w:=by obtain⟨T,oT,R,oR,a,b,c⟩:=h;refine⟨T,oT,R,oR,a 0 _ rfl,b 0 _ rfl,b 1 _ rfl,b 2 _ rfl,λi hi=>c i _ ?_⟩;have hl:Lib.whiteT.length=21:=rfl;rw[Gz,Ff (by omega),ZO,Ff (by omega)];rfl
theorem Ah4{w:Yx}{ok:Yn->Prop}:∀(bs:Ye (Ye Yj)),DList (λ(x:Ye Yj) u=>DRep w ok .str x u) bs (bs.map λx=>Ya5 ⟨x.toArray⟩)
 |[]=>rfl
 |b::bs=>⟨[.string ⟨b.toArray⟩],_,rfl,by simp[DRep],Ah4 bs⟩
theorem Avz{P:Yw}{ρ:Shelf.Ren}{f:YA}{t:Yr}(L:Lays.n157 P ρ)(hf:ρ.f 157=f)(ht:ρ.t 9=t)(Ady:(P.info? (ρ.t 9)).map (λi=>(i.zero,i.size,i.bytes))=Yg (Yg (.string YaY),1,16))(ALn:(P.info? (ρ.t 154)).map (λi=>(i.zero,i.size,i.bytes))=Yg (Yg (.agg #[.int .i64 0,.int .i64 0]),2,16))(hg:P.globalNamed "strings.asciiSpace"=Yg (ρ.g 0))(hw:P.globalNamed "unicode.White_Space"=Yg (ρ.g 6))(CD:∃fn,P.funcs[f]?=Yg fn/\(fn.name== "runtime.NumGoroutine")=Yi/\fn.body.isNone=Yi):SpecOk P f (Ah3 t tQ):=by
 subst hf ht;refine Ah0 rfl CD λ{β} x k r hr=>?_;obtain⟨⟨s,_⟩,_⟩:=x;simp only[tQ]at hr;cases hd:Yd (s.length<4294967281)with
 |false=>rw[hd]at hr;cases hr
 |true=>
  rw[hd,As]at hr;have AU:=Bd hd;refine⟨_,hr,λE args hG Bv=>?_⟩;obtain⟨rst,rfl,h3⟩:=TReps.str_inv Bv;have:rst=[]:=h3;subst this;have AW:(⟨s.toArray⟩:YP).size=s.length:=by simp[Yag]
  refine(Any.strings_Fields_any L Ady ALn hg ⟨s.toArray⟩ E.w (by rw[AW];exact AU) (hG.tab (x:=("strings.asciiSpace",.u8,Lib.asciiSpaceTab)) (by simp[Ul]) hg) (Avy (hG.white hw))).mono λe w' ⟨A,he,_,Aq,hb⟩=>?_;exact⟨_,_,he,hb,Ah4 _,Aq⟩
end Go.Lift
