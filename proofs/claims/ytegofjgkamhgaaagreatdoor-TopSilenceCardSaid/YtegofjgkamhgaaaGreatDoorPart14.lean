/- Part14 -/
import Derived.Shelf.Vars
import Derived.Shelf.Strings.Cut
import Derived.Shelf.Strings.Search3
import Derived.Shelf.Strings.Split
import Derived.Shelf.Strings.Repeat
import Derived.Shelf.Strings.FieldsAny
import Derived.Shelf.Strconv.AtoiAll
import Derived.Shelf.Strconv.Itoa3
import Derived.Test.YtegofjgkamhgaaaGreatDoorPart3
set_option linter.unusedVariables false
set_option linter.unusedSectionVars false
set_option linter.unusedSimpArgs false
open Option renaming some → Ybl, none → Ybn
open _root_ renaming Option → Ybm, List → Ybp, Bool → Ybr, UInt8 → Ybt, ByteArray → Ybz, absurd → Yb1
open Bool renaming false → Ybo
open Decidable renaming decide → Ybv
open ByteArray renaming size → Ybw, empty → Yb5
namespace Go.Lift
open Go.RowKit Go.Shelf Go.Proofs
@[reducible] def IM(ps rs:Ybp (Ybr×Ybp CT))(c:{β:Type}->ST.dens ps->(ST.dens rs->Ybm β)->Ybm β):Spec:=
 ⟨ps,[],rs,[],λx k=>c x.1 (λy=>k (y,()))⟩
theorem Apd{P:Program}{f:FuncId}{ps rs:Ybp (Ybr×Ybp CT)}{c:{β:Type}->ST.dens ps->(ST.dens rs->Ybm β)->Ybm β}(B9:∃fn,P.funcs[f]?=Ybl fn/\(fn.name== "runtime.NumGoroutine")=Ybo/\fn.body.isNone=Ybo)(h:∀{β:Type}(x:ST.dens ps)(k:ST.dens rs->Ybm β)(r:β),c x k=Ybl r->∃y,k y=Ybl r/\∀(E:Env)(args:Ybp Value),GlobR P Ybn E.w->TReps E (mkS [] ps x) args->Calls P f args.toArray E.w λe w'=>∃vals,e=.returned (Gk vals)/\Below E.w.heap.size E.w w'/\∀E':Env,E'.w=w'->(∀g,E.w.heap.size<=g->E'.ok g)->TReps E' (mkS [] rs y) vals):SpecOk P f (IM ps rs c):=by
 refine⟨B9,λ{β} x k r hr=>?_⟩;obtain⟨y,hy,hc⟩:=h x.1 (λy=>k (y,())) r hr;refine⟨(y,()),hy,λok0 pl w args B7 Ba=>?_⟩;have AGB:∀i,fnBl (mkB (AD 0 (IM ps rs c).ins.length) (IM ps rs c).ins x.2) i=Ybn:=λi=>rfl;refine(hc (Ak ok0 w.heap.size pl (fnBl (mkB (AD 0 (IM ps rs c).ins.length) (IM ps rs c).ins x.2)) w) args (B7.glob.row λg hg=>by cases hg) Ba).mono λe w' ⟨vals,he,hb,ht⟩=>?_;have hb:Below w.heap.size w w':=hb;have Ah:∀(p:Nat->Ybm Pl) g,¬Own p (fnBl (mkB (AD 0 (IM ps rs c).outs.length) (IM ps rs c).outs ())) g:=λp g ⟨i,B,q,hB,_⟩=>by cases hB
 exact⟨vals,pl,he,⟨hb.size,λi B hB=>(by cases hB),λi j B C p q g _ hB=>(by cases hB),B7.fresh,B7.glob.out hb.size λg hg _=>⟨hb.block g hg,Ah _ g⟩⟩,
  ⟨hb.os,hb.tape,hb.output,hb.size,λg hg _=>⟨hb.block g hg,Ah _ g⟩,λb g _ h=>h,λb sv Ab _ h=>⟨sv,Ab,h⟩⟩,ht _ rfl λg hg=>⟨.inr ⟨hg,λhn=>Yb1 (B7.glob.no g hn).1 (Nat.not_lt.2 hg)⟩,Ah _ g⟩⟩
theorem SY{P:Program}{f:FuncId}{ps rs:Ybp (Ybr×Ybp CT)}{c:{β:Type}->ST.dens ps->(ST.dens rs->Ybm β)->Ybm β}(B9:∃fn,P.funcs[f]?=Ybl fn/\(fn.name== "runtime.NumGoroutine")=Ybo/\fn.body.isNone=Ybo)(h:∀{β:Type}(x:ST.dens ps)(k:ST.dens rs->Ybm β)(r:β),c x k=Ybl r->∃y,k y=Ybl r/\∀(E:Env)(args:Ybp Value),GlobR P Ybn E.w->TReps E (mkS [] ps x) args->Calls P f args.toArray E.w λe w'=>∃vals,e=.returned (Gk vals)/\Below E.w.heap.size E.w w'/\∀E':Env,TReps E' (mkS [] rs y) vals):SpecOk P f (IM ps rs c):=
 Apd B9 λx k r hr=>by obtain⟨y,hy,hc⟩:=h x k r hr;exact⟨y,hy,λE args hG Ba=>(hc E args hG Ba).mono λe w' ⟨vals,he,hb,ht⟩=>⟨vals,he,hb,λE' _ _=>ht E'⟩⟩
theorem GlobR.tab{P:Program}{o:Ybm Nat}{w:World}(h:GlobR P o w){x:String×IntKind×Ybp Int}(hx:x∈S4){g:Nat}(hg:P.globalNamed x.1=Ybl g):Lib.TabIs P w x.1 x.2.1 x.2.2:=by
 obtain⟨w0,h1,_,h3⟩:=h;have ht:=h1.tabs x hx (by rw[hg];rfl);unfold Lib.TabIs World.var? at ht⊢;rw[hg]at ht⊢;simp only[Wd]at ht⊢
 have Ae:g<w0.heap.size:=by
  split at ht
  ·rename_i cs _ _ hc;exact(Fb.1 hc).1
  ·cases ht
 rw[(h3 g Ae).1];exact ht
theorem GlobR.cell{P:Program}{o:Ybm Nat}{w:World}(h:GlobR P o w){g:Nat}(_hg:g<P.globals.size){Q:Value->Prop}(hq:∀w0:World,w0.ShapedOpen P->∃v,w0.cell? ⟨g,0,Ybn⟩=Ybl v/\Q v):∃v,w.cell? ⟨g,0,Ybn⟩=Ybl v/\Q v:=by
 obtain⟨w0,h1,_,h3⟩:=h;obtain⟨v,hv,hQ⟩:=hq w0 h1.open_;exact⟨v,(World.cell?_of_block (h3 g (World.block_lt_of_cell? w0 _ hv)).1).trans hv,hQ⟩
theorem GlobR.err{P:Program}{o:Ybm Nat}{w:World}(h:GlobR P o w){n:String}(hn:n∈S5){g:Nat}(hg:P.globalNamed n=Ybl g):∃t u,w.cell? ⟨g,0,Ybn⟩=Ybl (.iface t u):=by obtain⟨w0,h1,_,h3⟩:=h;obtain⟨t,u,ht⟩:=h1.errs n hn (by rw[hg];rfl);have hc:=World.var?_cell hg ht 0;refine⟨t,u,?_⟩;rw[World.cell?_of_block (w:=w0) (h3 g (World.block_lt_of_cell? w0 ⟨g,0,Ybn⟩ (by rw[hc];rfl))).1,hc];rfl
theorem ReadsAt.keep{w0 w:World}(h:∀g,g<w0.heap.size->w.heap[g]?=w0.heap[g]?){b o:Nat}{vs:Ybp Value}(hr:ReadsAt w0 b o vs):ReadsAt w b o vs:=λi v hv=>by have hc:=hr i v hv;exact(World.cell?_of_block (h b (World.block_lt_of_cell? w0 _ hc))).trans hc
theorem GlobR.white{P:Program}{o:Ybm Nat}{w:World}(h:GlobR P o w){g:Nat}(hg:P.globalNamed "unicode.White_Space"=Ybl g):Wz g w:=by obtain⟨w0,h1,_,h3⟩:=h;obtain⟨T,oT,R,oR,a,b,c⟩:=h1.white g hg;have k:∀g,g<w0.heap.size->w.heap[g]?=w0.heap[g]?:=λg hl=>(h3 g hl).1;exact⟨T,oT,R,oR,a.keep k,b.keep k,c.keep k⟩
theorem TReps.str_inv{E:Env}{s:Ybp Ybt}{ts:Ybp (Ybr×Ybp C)}{args:Ybp Value}(h:TReps E ((Ybo,[.str s])::ts) args):∃rst,args=.string ⟨s.toArray⟩::rst/\TReps E ts rst:=by obtain⟨v,vs,e,⟨us,⟨u,Cf,e1,h1,h2⟩,h3⟩,h4⟩:=h;simp only[CReps]at h2;simp only[CRep]at h1;simp only[G3,Cb]at h3;subst h2 h1 e1;simp only[CK,Ef]at h3;subst h3;exact⟨vs,e,h4⟩
theorem TReps.int_inv{E:Env}{k:IntKind}{n:Int}{ts:Ybp (Ybr×Ybp C)}{args:Ybp Value}(h:TReps E ((Ybo,[.int k n])::ts) args):∃rst,args=.int k n::rst/\TReps E ts rst:=by obtain⟨v,vs,e,⟨us,⟨u,Cf,e1,h1,h2⟩,h3⟩,h4⟩:=h;simp only[CReps]at h2;simp only[CRep]at h1;simp only[G3,Cb]at h3;subst h2 h1 e1;simp only[CK,Ef]at h3;subst h3;exact⟨vs,e,h4⟩
theorem TReps.str1{E:Env}{s:Ybp Ybt}{ts:Ybp (Ybr×Ybp C)}{vals:Ybp Value}(h:TReps E ts vals):TReps E ((Ybo,[.str s])::ts) (.string ⟨s.toArray⟩::vals):=
 ⟨_,_,rfl,⟨[_],⟨_,_,rfl,rfl,rfl⟩,by simp⟩,h⟩
theorem TReps.bool1{E:Env}{b:Ybr}{ts:Ybp (Ybr×Ybp C)}{vals:Ybp Value}(h:TReps E ts vals):TReps E ((Ybo,[.bool b])::ts) (.bool b::vals):=
 ⟨_,_,rfl,⟨[_],⟨_,_,rfl,rfl,rfl⟩,by simp⟩,h⟩
theorem TReps.err1{E:Env}{b:Ybr}{v:Value}{ts:Ybp (Ybr×Ybp C)}{vals:Ybp Value}(hv:errRep b v)(h:TReps E ts vals):TReps E ((Ybo,[.err b])::ts) (v::vals):=
 ⟨_,_,rfl,⟨[v],⟨_,_,rfl,hv,rfl⟩,by simp⟩,h⟩
abbrev cutT:={β:Type}->Ybp Ybt->Ybp Ybt->(Ybp Ybt->Ybp Ybt->Ybr->Ybm β)->Ybm β
@[reducible] def cutS(c:cutT):Spec:=IM [(Ybo,[.data .str]),(Ybo,[.data .str])] [(Ybo,[.data .str]),(Ybo,[.data .str]),(Ybo,[.data .bool])] λx k=>c x.1.1 x.2.1.1 λr0 r1 r2=>k ((r0,()),(r1,()),(r2,()),())
def cutF:cutT:=λs sep k=>cond (Ybv (s.length<4294967281)) (k (Lib.cut s sep).1 (Lib.cut s sep).2.1 (Lib.cut s sep).2.2) Ybn
theorem Ape{P:Program}{ρ:Shelf.Ren}{f:FuncId}(L:Lays.n145 P ρ)(hf:ρ.f 145=f)(hg:ρ.g 1<P.globals.size)(hm:∀w0:World,w0.ShapedOpen P->∃m,w0.cell? ⟨ρ.g 1,0,Ybn⟩=Ybl (.int .i64 m))(B9:∃fn,P.funcs[f]?=Ybl fn/\(fn.name== "runtime.NumGoroutine")=Ybo/\fn.body.isNone=Ybo):SpecOk P f (cutS cutF):=by
 subst hf;refine SY B9 λ{β} x k r hr=>?_;obtain⟨⟨s,_⟩,⟨sep,_⟩,_⟩:=x;simp only[cutF]at hr;cases hd:Ybv (s.length<4294967281)with
 |false=>rw[hd]at hr;cases hr
 |true=>
  rw[hd,Ao]at hr;have AK:=AC hd;refine⟨_,hr,λE args hG Ba=>?_⟩;obtain⟨rst,rfl,h2⟩:=TReps.str_inv Ba;obtain⟨rst2,rfl,h3⟩:=TReps.str_inv h2;have:rst2=[]:=h3;subst this;obtain⟨v,hv,m,rfl⟩:=hG.cell hg (Q:=λv=>∃m,v=.int .i64 m) λw0 h0=>by obtain⟨m,h⟩:=hm w0 h0;exact⟨_,h,m,rfl⟩
  refine(Any.strings_Cut L ⟨s.toArray⟩ ⟨sep.toArray⟩ m E.w (by simpa [Ybw]using AK) hv).mono λe w' ⟨he,n,hw⟩=>?_;subst hw;exact⟨[_,_,_],he,⟨rfl,rfl,rfl,Aw _,λ_ _=>rfl⟩,λE'=>TReps.str1 (TReps.str1 (TReps.bool1 rfl))⟩
abbrev iX:={β:Type}->Int->(Ybp Ybt->Ybm β)->Ybm β
@[reducible] def Ac8(c:iX):Spec:=IM [(Ybo,[.data (.int .i64)])] [(Ybo,[.data .str])] λx k=>c x.1.1 λr0=>k ((r0,()),())
def iY:iX:=λn k=>cond (Ybv (-9223372036854775808<=n)&&Ybv (n<=9223372036854775807)) (k (Lib.itoa n)) Ybn
theorem Apf{w:World}{k:Nat}{os:Array Obj}:Below w.heap.size w (Go.Sort.grow (w.drewN k) os):=by
 refine⟨rfl,rfl,rfl,?_,λi hi=>?_⟩
 ·show w.heap.size<=(w.heap++os).size
  simp
 ·show(w.heap++os)[i]?=w.heap[i]?
  rw[VT hi]
theorem Apg{P:Program}{ρ:Shelf.Ren}{f:FuncId}(L:LaysM.n171 P ρ)(hf:ρ.f 171=f){g:Nat}(hg:P.globalNamed "internal/strconv.uint64pow10"=Ybl g)(B9:∃fn,P.funcs[f]?=Ybl fn/\(fn.name== "runtime.NumGoroutine")=Ybo/\fn.body.isNone=Ybo):SpecOk P f (Ac8 iY):=by
 subst hf;refine SY B9 λ{β} x k r hr=>?_;obtain⟨⟨n,_⟩,_⟩:=x;simp only[iY]at hr;cases hd:(Ybv (-9223372036854775808<=n)&&Ybv (n<=9223372036854775807))with
 |false=>rw[hd]at hr;cases hr
 |true=>rw[hd,Ao]at hr;obtain⟨h1,h2⟩:=andB hd;refine⟨_,hr,λE args hG Ba=>?_⟩;obtain⟨rst,rfl,h3⟩:=TReps.int_inv Ba;have:rst=[]:=h3;subst this;refine(Any.strconv_Itoa L n (AC h1) (AC h2) E.w (hG.tab (x:=("internal/strconv.uint64pow10",.u64,Lib.pow10Tab)) (by simp[S4]) hg)).mono λe w' ⟨he,q,os,hw⟩=>?_;subst hw;exact⟨[_],he,Apf,λE'=>TReps.str1 rfl⟩
abbrev iZ:={β:Type}->Ybp Ybt->(Int->Ybr->Ybm β)->Ybm β
@[reducible] def Ac9(c:iZ):Spec:=IM [(Ybo,[.data .str])] [(Ybo,[.data (.int .i64)]),(Ybo,[.data .err])] λx k=>c x.1.1 λr0 r1=>k ((r0,()),(r1,()),())
def Nh(s:Ybp Ybt):Int×Ybr:=
 match Lib.atoiAll s with
 |.ok v=>(v,true)
 |.range=>(Lib.atoiSat s,Ybo)
 |_=>(0,Ybo)
def jA:iZ:=λs k=>cond (Ybv (s.length<=281474976710656)) (k (Nh s).1 (Nh s).2) Ybn
theorem Aph{P:Program}{ρ:Shelf.Ren}{f:FuncId}(L:LaysC.n172 P ρ)(hf:ρ.f 172=f)(AD4:P.globalNamed "strconv.ErrSyntax"=Ybl (ρ.g 15))(Al1:P.globalNamed "strconv.ErrRange"=Ybl (ρ.g 16))(B9:∃fn,P.funcs[f]?=Ybl fn/\(fn.name== "runtime.NumGoroutine")=Ybo/\fn.body.isNone=Ybo):SpecOk P f (Ac9 jA):=by
 subst hf;refine SY B9 λ{β} x k r hr=>?_;obtain⟨⟨s,_⟩,_⟩:=x;simp only[jA]at hr;cases hd:Ybv (s.length<=281474976710656)with
 |false=>rw[hd]at hr;cases hr
 |true=>
  rw[hd,Ao]at hr;have AK:=AC hd;refine⟨_,hr,λE args hG Ba=>?_⟩;obtain⟨rst,rfl,h3⟩:=TReps.str_inv Ba;have:rst=[]:=h3;subst this;have hs:(⟨s.toArray⟩:Ybz).size=s.length:=by simp[Ybw]
  cases hv:Lib.atoiAll s
  ·rename_i v
   have ev:Nh s=(v,true):=by unfold Nh;rw[hv]
   rw[ev];refine(Any.strconv_Atoi_ok L ⟨s.toArray⟩ (by rw[hs];omega) v hv E.w).mono λe w' ⟨he,hw⟩=>?_;refine⟨[_,_],he,?_,λE'=>TReps.int (TReps.err1 (b:=true) rfl rfl)⟩;rcases hw with rfl|⟨t,rfl⟩
   ·exact Below.refl _ _
   ·exact Lib.bytesWorld_below _ _ _
  ·have ev:Nh s=(0,Ybo):=by unfold Nh;rw[hv]
   rw[ev];obtain⟨te,pe,hc⟩:=hG.err (by simp[S5]) AD4
   exact(Any.strconv_Atoi_syntax L ⟨s.toArray⟩ (by rw[hs];omega) hv _ E.w hc (.inr ⟨te,pe,rfl⟩)).mono λe w' ⟨N,he,_,_,hb⟩=>
    ⟨[_,_],he,hb,λE'=>TReps.int (TReps.err1 (b:=Ybo) ⟨_,_,rfl⟩ rfl)⟩
  ·have ev:Nh s=(Lib.atoiSat s,Ybo):=by unfold Nh;rw[hv]
   rw[ev];obtain⟨te,pe,hc⟩:=hG.err (by simp[S5]) Al1
   exact(Any.strconv_Atoi_range L ⟨s.toArray⟩ (by rw[hs];omega) hv _ E.w hc (.inr ⟨te,pe,rfl⟩)).mono λe w' ⟨N,he,_,_,hb⟩=>
    ⟨[_,_],he,hb,λE'=>TReps.int (TReps.err1 (b:=Ybo) ⟨_,_,rfl⟩ rfl)⟩
abbrev jB:={β:Type}->Ybp Ybt->Ybp Ybt->(Ybr->Ybm β)->Ybm β
@[reducible] def Aca(c:jB):Spec:=IM [(Ybo,[.data .str]),(Ybo,[.data .str])] [(Ybo,[.data .bool])] λx k=>c x.1.1 x.2.1.1 λr0=>k ((r0,()),())
def jC:jB:=λs sep k=>cond (Ybv (s.length<4294967281)) (k (Lib.contains s sep)) Ybn
theorem Api{P:Program}{ρ:Shelf.Ren}{f:FuncId}(L:Lays.n144 P ρ)(hf:ρ.f 144=f)(hg:ρ.g 1<P.globals.size)(hm:∀w0:World,w0.ShapedOpen P->∃m,w0.cell? ⟨ρ.g 1,0,Ybn⟩=Ybl (.int .i64 m))(B9:∃fn,P.funcs[f]?=Ybl fn/\(fn.name== "runtime.NumGoroutine")=Ybo/\fn.body.isNone=Ybo):SpecOk P f (Aca jC):=by
 subst hf;refine SY B9 λ{β} x k r hr=>?_;obtain⟨⟨s,_⟩,⟨sep,_⟩,_⟩:=x;simp only[jC]at hr;cases hd:Ybv (s.length<4294967281)with
 |false=>rw[hd]at hr;cases hr
 |true=>
  rw[hd,Ao]at hr;have AK:=AC hd;refine⟨_,hr,λE args hG Ba=>?_⟩;obtain⟨rst,rfl,h2⟩:=TReps.str_inv Ba;obtain⟨rst2,rfl,h3⟩:=TReps.str_inv h2;have:rst2=[]:=h3;subst this;obtain⟨v,hv,m,rfl⟩:=hG.cell hg (Q:=λv=>∃m,v=.int .i64 m) λw0 h0=>by obtain⟨m,h⟩:=hm w0 h0;exact⟨_,h,m,rfl⟩
  refine(Any.strings_Contains L ⟨s.toArray⟩ ⟨sep.toArray⟩ m E.w (by simpa [Ybw]using AK) hv).mono λe w' ⟨he,hw⟩=>?_;subst hw;exact⟨[_],he,Below.refl _ _,λE'=>TReps.bool1 rfl⟩
abbrev Xp:={β:Type}->Ybp Ybt->Ybp Ybt->(Ybp (Ybp Ybt)->Ybm β)->Ybm β
@[reducible] def AFT(c:Xp):Spec:=IM [(Ybo,[.data .str]),(Ybo,[.data .str])] [(Ybo,[.data (.slice .str)])] λx k=>c x.1.1 x.2.1.1 λr0=>k ((r0,()),())
def jD(s sep:Ybp Ybt):Ybp (Ybp Ybt):=(Lib.splitB ⟨sep.toArray⟩ 0 (Lib.countB ⟨s.toArray⟩ ⟨sep.toArray⟩) ⟨s.toArray⟩).map λb=>b.data.toList
def jE:Xp:=λs sep k=>cond (Ybv (s.length<4294967281)&&Ybv (1<=sep.length)) (k (jD s sep)) Ybn
theorem Acb{w:World}{ok:Nat->Prop}:∀(bs:Ybp Ybz),DList (λ(x:Ybp Ybt) u=>DRep w ok .str x u) (bs.map λb=>b.data.toList) (bs.map Value.string)
 |[]=>rfl
 |b::bs=>⟨[.string b],_,rfl,by simp[DRep],Acb bs⟩
@[reducible] def SZ(ps:Ybp (Ybr×Ybp CT))(t:TypeId)(e:Ty)(c:{β:Type}->ST.dens ps->(Ybp e.den->Ybm β)->Ybm β):Spec:=
 ⟨ps,[],[(Ybo,[.rowh 0])],[.row t e],λx k=>c x.1 (λl=>k (((),()),(l,())))⟩
theorem Acc{P:Program}{f:FuncId}{ps:Ybp (Ybr×Ybp CT)}{t:TypeId}{e:Ty}{c:{β:Type}->ST.dens ps->(Ybp e.den->Ybm β)->Ybm β}(he:e.flat=true)(B9:∃fn,P.funcs[f]?=Ybl fn/\(fn.name== "runtime.NumGoroutine")=Ybo/\fn.body.isNone=Ybo)(h:∀{β:Type}(x:ST.dens ps)(k:Ybp e.den->Ybm β)(r:β),c x k=Ybl r->∃l,k l=Ybl r/\∀(E:Env)(args:Ybp Value),GlobR P Ybn E.w->TReps E (mkS [] ps x) args->Calls P f args.toArray E.w λe2 w'=>∃sv xs,e2=.returned sv/\Below E.w.heap.size E.w w'/\DList (λx u=>DRep w' (λ_=>True) e x u) l xs/\w'.ownsRow E.w.heap.size t e.size sv l.length xs):SpecOk P f (SZ ps t e c):=by
 refine⟨B9,λ{β} x k r hr=>?_⟩;obtain⟨l,hy,hc⟩:=h x.1 (λl=>k (((),()),(l,()))) r hr;refine⟨(((),()),(l,())),hy,λok0 pl w args B7 Ba=>?_⟩;refine(hc (Ak ok0 w.heap.size pl (fnBl (mkB (AD 0 (SZ ps t e c).ins.length) (SZ ps t e c).ins x.2)) w) args (B7.glob.row λg hg=>by cases hg) Ba).mono λe2 w' ⟨sv,xs,GD,hb,hd,Ah⟩=>?_;have hb:Below w.heap.size w w':=hb;have Ah:w'.ownsRow w.heap.size t e.size sv l.length xs:=Ah
 let Ac:Nat->Ybm Pl:=λi=>if i=0 then Ybl (.row sv [])else Ybn
 let bl':Nat->Ybm Blk:=fnBl (mkB (AD 0 1) [.row t e] (l,()))
 have UA:bl' 0=Ybl (.row t e 0 l):=rfl
 have bN:∀i B,bl' i=Ybl B->i=0/\B=.row t e 0 l:=by
  intro i B hB;have hB:([Blk.row t e 0 l]:Ybp Blk)[i]?=Ybl B:=hB;cases i with
  |zero=>simp at hB;exact⟨rfl,hB.symm⟩
  |succ i=>simp at hB
 have D1:sv.oneCell'=true:=by rcases Ah.2 with⟨h,_⟩|⟨g,cap,AI,h,_⟩<;>rw[h]<;>rfl
 have hOwn:∀g,g<w.heap.size->¬Own Ac bl' g:=by
  rintro g hg ⟨i,B,q,hB,_,hq,Bh⟩;obtain⟨rfl,rfl⟩:=bN i B hB;have hq:Ybl (Pl.row sv [])=Ybl q:=hq;injection hq with hq;subst hq;have:=Pl.has_row Bh;rcases Ah.2 with⟨h,_⟩|⟨g',cap,AI,h,OY,_⟩
  ·rw[h]at this;cases this
  ·rw[h]at this
   simp only[Value.ownBlock,Af]at this;omega
 have AEi:RelB ok0 w.heap.size Ac bl' w':=by
  refine⟨hb.size,λi B hB=>?_,λi j B C p q g Du hB hC=>?_,λi hi=>?_,B7.glob.out hb.size λg hg _=>⟨hb.block g hg,hOwn g hg⟩⟩
  ·obtain⟨rfl,rfl⟩:=bN i B hB
   exact⟨.row sv [],rfl,rfl,xs,hd.mono λx u hu=>hu.flat he,Ah⟩
  ·obtain⟨rfl,_⟩:=bN i B hB
   obtain⟨rfl,_⟩:=bN j C hC;exact Yb1 rfl Du
  ·show(if i=0 then Ybl (Pl.row sv [])else Ybn)=Ybn
   cases i with
   |zero=>rw[UA]at hi;cases hi
   |succ i=>rfl
 refine⟨[sv],Ac,GD,AEi,⟨hb.os,hb.tape,hb.output,hb.size,λg hg _=>⟨hb.block g hg,hOwn g hg⟩,λb g hm _=>Yb1 hm (C8 _),λb a q hm _=>Yb1 hm (C8 _)⟩,?_⟩
 exact⟨sv,[],rfl,⟨[sv],⟨sv,[],rfl,⟨D1,sv,[],rfl,λt1 e1 ver' l1 EX=>by have EX:bl' 0=Ybl (.row t1 e1 ver' l1):=EX;rw[UA]at EX;injection EX with EX;injection EX with q1 q2 q3 q4;exact⟨BD _,λ_=>rfl⟩⟩,rfl⟩,rfl⟩,rfl⟩
@[reducible] def Acd(t:TypeId)(c:Xp):Spec:=SZ [(Ybo,[.data .str]),(Ybo,[.data .str])] t .str λx k=>c x.1.1 x.2.1.1 k
theorem Apj{P:Program}{ρ:Shelf.Ren}{f:FuncId}{t:TypeId}(L:Lays.n146 P ρ)(hf:ρ.f 146=f)(ht:ρ.t 9=t)(wO:(P.info? (ρ.t 9)).map (λi=>(i.zero,i.size,i.bytes))=Ybl (Ybl (.string Yb5),1,16))(hg:ρ.g 1<P.globals.size)(hm:∀w0:World,w0.ShapedOpen P->∃m,w0.cell? ⟨ρ.g 1,0,Ybn⟩=Ybl (.int .i64 m))(B9:∃fn,P.funcs[f]?=Ybl fn/\(fn.name== "runtime.NumGoroutine")=Ybo/\fn.body.isNone=Ybo):SpecOk P f (Acd t jE):=by
 subst hf ht;refine Acc rfl B9 λ{β} x k r hr=>?_;obtain⟨⟨s,_⟩,⟨sep,_⟩,_⟩:=x;simp only[jE]at hr;cases hd:(Ybv (s.length<4294967281)&&Ybv (1<=sep.length))with
 |false=>rw[hd]at hr;cases hr
 |true=>
  rw[hd,Ao]at hr;obtain⟨d1,d2⟩:=andB hd;have AK:=AC d1;have hsep:=AC d2;refine⟨_,hr,λE args hG Ba=>?_⟩;obtain⟨rst,rfl,h2⟩:=TReps.str_inv Ba;obtain⟨rst2,rfl,h3⟩:=TReps.str_inv h2;have:rst2=[]:=h3;subst this;obtain⟨v,hv,m,rfl⟩:=hG.cell hg (Q:=λv=>∃m,v=.int .i64 m) λw0 h0=>by obtain⟨m,h⟩:=hm w0 h0;exact⟨_,h,m,rfl⟩
  have Bt:(⟨sep.toArray⟩:Ybz).size=sep.length:=by simp[Ybw]
  have AP:(⟨s.toArray⟩:Ybz).size=s.length:=by simp[Ybw]
  have DF:=Lib.countB_le ⟨sep.toArray⟩ (by rw[Bt];exact hsep) _ ⟨s.toArray⟩ (Aw _);have An:=Lib.splitB_all ⟨sep.toArray⟩ (by rw[Bt];exact hsep) 0 _ ⟨s.toArray⟩ rfl;have N9:(jD s sep).length=Lib.countB ⟨s.toArray⟩ ⟨sep.toArray⟩+1:=by unfold jD;rw[Fc,An]
  refine(Any.strings_Split L wO ⟨s.toArray⟩ ⟨sep.toArray⟩ m E.w (by rw[AP];exact AK) hv (by rw[Bt];exact hsep)).mono λe w' ⟨he,hw⟩=>?_;subst hw;refine⟨_,(Lib.splitB ⟨sep.toArray⟩ 0 (Lib.countB ⟨s.toArray⟩ ⟨sep.toArray⟩) ⟨s.toArray⟩).map Value.string,he,(Below.refl _ _).alloc (Aw _) _,Acb _,?_,.inr ⟨E.w.heap.size,_,_,by rw[N9],Aw _,heap_alloc_new _ _,?_,?_,?_,?_⟩⟩
  ·rw[N9,Fc,An];simp[Ty.size]
  ·rw[N9];exact Aw _
  ·unfold maxLen;omega
  ·simp[Ty.size,An]
  ·rw[N9];simp[Ty.size];exact GL (by simp[An])
abbrev jF:={β:Type}->Ybp Ybt->Int->(Ybp Ybt->Ybm β)->Ybm β
@[reducible] def Ace(c:jF):Spec:=IM [(Ybo,[.data .str]),(Ybo,[.data (.int .i64)])] [(Ybo,[.data .str])] λx k=>c x.1.1 x.2.1.1 λr0=>k ((r0,()),())
def jG:jF:=λs n k=>cond (Ybv (0<=n)&&(Ybv (n<=9223372036854775807)&&Ybv (s.length*n.toNat<=140737488355328))) (k (Lib.repeatL s n.toNat)) Ybn
theorem Apk{P:Program}{ρ:Shelf.Ren}{f:FuncId}(L:Lays.n105 P ρ)(X:Builder.Extra P ρ)(hf:ρ.f 105=f)(B9:∃fn,P.funcs[f]?=Ybl fn/\(fn.name== "runtime.NumGoroutine")=Ybo/\fn.body.isNone=Ybo):SpecOk P f (Ace jG):=by
 subst hf;refine SY B9 λ{β} x k r hr=>?_;obtain⟨⟨s,_⟩,⟨n,_⟩,_⟩:=x;simp only[jG]at hr;cases hd:(Ybv (0<=n)&&(Ybv (n<=9223372036854775807)&&Ybv (s.length*n.toNat<=140737488355328)))with
 |false=>rw[hd]at hr;cases hr
 |true=>
  rw[hd,Ao]at hr;obtain⟨d1,d2⟩:=andB hd;obtain⟨d2,d3⟩:=andB d2;have h0:(0:Int)<=n:=AC d1;have h1:(n:Int)<=9223372036854775807:=AC d2;have h2:=AC d3;refine⟨_,hr,λE args hG Ba=>?_⟩;obtain⟨rst,rfl,g2⟩:=TReps.str_inv Ba;obtain⟨rst2,rfl,g3⟩:=TReps.int_inv g2;have:rst2=[]:=g3;subst this;have key:∀n:Int,0<=n->n<=9223372036854775807->n=((n.toNat:Nat):Int)/\n.toNat<=9223372036854775807:=λn _ _=>⟨by omega,by omega⟩;obtain⟨hn,Cz⟩:=key n h0 h1;have AP:(⟨s.toArray⟩:Ybz).size=s.length:=by simp[Ybw]
  have:=Any.strings_Repeat L X ⟨s.toArray⟩ n.toNat E.w Cz (by rw[AP];exact h2);rw[<-hn]at this;refine this.mono λe w' ⟨he,hw⟩=>?_;exact⟨[_],he,hw,λE'=>TReps.str1 rfl⟩
abbrev jH:={β:Type}->Ybp Ybt->(Ybp (Ybp Ybt)->Ybm β)->Ybm β
@[reducible] def Acf(t:TypeId)(c:jH):Spec:=SZ [(Ybo,[.data .str])] t .str λx k=>c x.1.1 k
def jI:jH:=λs k=>cond (Ybv (s.length<4294967281)) (k (Lib.fieldsD s)) Ybn
theorem Apl{g:Nat}{w:World}(h:Wz g w):Lib.WhiteTab g w:=by obtain⟨T,oT,R,oR,a,b,c⟩:=h;refine⟨T,oT,R,oR,a 0 _ rfl,b 0 _ rfl,b 1 _ rfl,b 2 _ rfl,λi hi=>c i _ ?_⟩;have hl:Lib.whiteT.length=21:=rfl;rw[FJ,C0 (by omega),z8,C0 (by omega)];rfl
theorem Acg{w:World}{ok:Nat->Prop}:∀(bs:Ybp (Ybp Ybt)),DList (λ(x:Ybp Ybt) u=>DRep w ok .str x u) bs (bs.map λx=>Value.string ⟨x.toArray⟩)
 |[]=>rfl
 |b::bs=>⟨[.string ⟨b.toArray⟩],_,rfl,by simp[DRep],Acg bs⟩
theorem Apm{P:Program}{ρ:Shelf.Ren}{f:FuncId}{t:TypeId}(L:Lays.n157 P ρ)(hf:ρ.f 157=f)(ht:ρ.t 9=t)(wO:(P.info? (ρ.t 9)).map (λi=>(i.zero,i.size,i.bytes))=Ybl (Ybl (.string Yb5),1,16))(ADA:(P.info? (ρ.t 154)).map (λi=>(i.zero,i.size,i.bytes))=Ybl (Ybl (.agg #[.int .i64 0,.int .i64 0]),2,16))(hg:P.globalNamed "strings.asciiSpace"=Ybl (ρ.g 0))(hw:P.globalNamed "unicode.White_Space"=Ybl (ρ.g 6))(B9:∃fn,P.funcs[f]?=Ybl fn/\(fn.name== "runtime.NumGoroutine")=Ybo/\fn.body.isNone=Ybo):SpecOk P f (Acf t jI):=by
 subst hf ht;refine Acc rfl B9 λ{β} x k r hr=>?_;obtain⟨⟨s,_⟩,_⟩:=x;simp only[jI]at hr;cases hd:Ybv (s.length<4294967281)with
 |false=>rw[hd]at hr;cases hr
 |true=>
  rw[hd,Ao]at hr;have AK:=AC hd;refine⟨_,hr,λE args hG Ba=>?_⟩;obtain⟨rst,rfl,h3⟩:=TReps.str_inv Ba;have:rst=[]:=h3;subst this;have AP:(⟨s.toArray⟩:Ybz).size=s.length:=by simp[Ybw]
  refine(Any.strings_Fields_any L wO ADA hg ⟨s.toArray⟩ E.w (by rw[AP];exact AK) (hG.tab (x:=("strings.asciiSpace",.u8,Lib.asciiSpaceTab)) (by simp[S4]) hg) (Apl (hG.white hw))).mono λe w' ⟨A,he,_,Ah,hb⟩=>?_;exact⟨_,_,he,hb,Acg _,Ah⟩
end Go.Lift
