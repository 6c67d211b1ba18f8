/- Part2 -/
import Derived.MapKept
import Derived.WideKeyRuns
import Derived.Scope
import Derived.LoopN
import Derived.Test.YtegofjgkamhgaaaGreatDoorPart1
set_option linter.unusedVariables false
set_option linter.unusedSectionVars false
set_option linter.unusedSimpArgs false
open _root_ renaming List → Ya, Option → Yb, Int → Yi, Nat → Yk, UInt8 → Yl, Bool → Ys, absurd → Yw, if_neg → Y4, Array → YX
open Bool renaming false → Yc, true → Yo
open Option renaming some → Yd, none → Ye
open Decidable renaming decide → Yf
open Nat renaming beq → Ym, blt → Yz, ble → YB, testBit → YZ
open List renaming getD → Yn
open Go renaming Value → Yp, TypeId → Yq, run_underlying → Yu, Program → Yv, World → Yx, Operand → Y0, execOp → Y1, FuncId → Y6, TypeDesc → YC, TypeInfo → YI, MapEntry → YL, IntKind → YP, Calls → Yat, heap_alloc_new → YaS, wp_block → YaT, run_program → Ybi
open Go.Op renaming operands → Yt
open Go.Result renaming andThen_ok → Y5, andThen → YK
open Go.Sem renaming run_bind → YA, run_pure → YO
open Go.Call renaming operands → YF
open Go.Region renaming binds → YH, ready → Ya1, wanted → Ya8
open Go.World renaming ownsRow_nil → YM, grownBy_alloc → Ya9
open Go.MapKept renaming run_getObj_map → YN, run_setObj_map → Ya0
open Go.Oper renaming upon → Yaa, wp → Yan
open Go.Value renaming ownBlock → Yae, int → Yag, pointer → YaA
open Go.Instr renaming checkKey → Yal, findAsking → Yaz, mapUpdate → YaL
open Go.Lib renaming join → Ya2
open List.Pairwise renaming nil → Ya5
open Go.Program renaming cellsOf → YaG
open Or renaming inl → YaN
open Array renaming toList_modify → Yba
open Go.Exit renaming inBlock → Ybb
namespace Go.Lift
noncomputable section
open Go.RowKit
structure Ren2 (m:Yk) (E E':Env) (ids AZ:Ya Yk):Prop where
 cells:∀b g,b<m->E.pl (ids.getD b 0)=Yd (.cells g)->E'.pl (AZ.getD b 0)=Yd (.cells g)
 row:∀b sv Ab,b<m->E.pl (ids.getD b 0)=Yd (.row sv Ab)->E'.pl (AZ.getD b 0)=Yd (.row sv Ab)/\(∀t e ver l,E'.bl (AZ.getD b 0)=Yd (.row t e ver l)->E.bl (ids.getD b 0)=Yd (.row t e ver l))/\
  (∀t et e ver Am hole l,E'.bl (AZ.getD b 0)=Yd (.mat t et e ver Am hole l)->E.bl (ids.getD b 0)=Yd (.mat t et e ver Am hole l))/\
  (∀t e ver Am hole l,E'.bl (AZ.getD b 0)=Yd (.tree t e ver Am hole l)->E.bl (ids.getD b 0)=Yd (.tree t e ver Am hole l))
theorem Aau{m:Yk}{E E':Env}{ids AZ:Ya Yk}(hr:Ren2 m E E' ids AZ):∀(BI gs:Ya Yk),BI.all (λb=>Yz b m)=Yo->(BI.map λb=>ids.getD b 0).map E.pl=gs.map (λg=>Yd (.cells g))->(BI.map λb=>AZ.getD b 0).map E'.pl=gs.map (λg=>Yd (.cells g))
 |[],gs,_,hg=>by cases gs<;>simp_all
 |b::bs,gs,hb,hg=>by
  cases gs with
  |nil=>simp at hg
  |cons g gs=>simp only[CP,CK]at hg⊢;obtain⟨h1,h2⟩:=andB (show(Yz b m&&bs.all (λb=>Yz b m))=Yo from hb);exact⟨hr.cells b g (Dp h1) hg.1,Aau hr bs gs h2 hg.2⟩
theorem Hm{m:Yk}{E E':Env}{ids AZ:Ya Yk}(hr:Ren2 m E E' ids AZ){all:Prop}(hd:∀(τ:Ty)(x:τ.den)(us:Ya Yp),(all\/τ.flat=Yo)->DRep E.w E.ok τ x us->DRep E'.w E'.ok τ x us):∀{l:Ya CT}{y:CT.dens l}{vs:Ya Yp},CT.bnd m l=Yo->(all\/CT.flat l=Yo)->CReps E (mkC ids l y) vs->CReps E' (mkC AZ l y) vs
 |[],_,_,_,_,h=>h
 |.data τ::l,y,vs,hb,hf,h=>by
  obtain⟨us,ws,e,h1,h2⟩:=CReps.split h;rw[e];have KI:all\/τ.flat=Yo:=hf.imp id λh=>by simp only[CT.flat,CO]at h;exact h.1
  have UO:all\/CT.flat l=Yo:=hf.imp id λh=>by simp only[CT.flat,CO]at h;exact h.2
  refine CReps.append ?_ (Hm hr hd (by simpa [CT.bnd]using hb) UO h2)
  have key:∀(τ:Ty)(x:τ.den)(us:Ya Yp),(all\/τ.flat=Yo)->CReps E (cells τ x) us->CReps E' (cells τ x) us:=by
   intro τ
   induction τ with
   |bool=>intro x us _ h;exact h
   |int k=>intro x us _ h;exact h
   |str=>intro x us _ h;exact h
   |err=>intro x us _ h;exact h
   |unit=>intro x us _ h;exact h
   |prod a b iha ihb=>
    intro x us hf h;obtain⟨p,q,e,h1,h2⟩:=CReps.split h;rw[e];have g1:all\/a.flat=Yo:=hf.imp id λh=>by simp only[Ty.flat,CO]at h;exact h.1
    have g2:all\/b.flat=Yo:=hf.imp id λh=>by simp only[Ty.flat,CO]at h;exact h.2
    exact(iha _ _ g1 h1).append (ihb _ _ g2 h2)
   |slice e ih=>intro x us hf h;obtain⟨v,Av,e1,h1,h2⟩:=h;exact⟨v,Av,e1,hd (.slice e) x [v] hf h1,h2⟩
  exact key τ _ _ KI h1
 |.ptr b o::l,y,vs,hb,hf,⟨v,Av,e,⟨g,hg,hv⟩,ht⟩=>by obtain⟨AV,Aj⟩:=andB (show(Yz b m&&CT.bnd m l)=Yo from hb);exact⟨v,Av,e,⟨g,hr.cells b g (Dp AV) hg,hv⟩,Hm hr hd Aj (hf.imp id λh=>by simpa [CT.flat]using h) ht⟩
 |.rowh b::l,y,vs,hb,hf,⟨v,Av,e,⟨h1,sv,Ab,Au,AO⟩,ht⟩=>by obtain⟨AV,Aj⟩:=andB (show(Yz b m&&CT.bnd m l)=Yo from hb);obtain⟨h2,h3,_⟩:=hr.row b sv Ab (Dp AV) Au;exact⟨v,Av,e,⟨h1,sv,Ab,h2,λt e ver l h=>AO t e ver l (h3 t e ver l h)⟩,Hm hr hd Aj (hf.imp id λh=>by simpa [CT.flat]using h) ht⟩
 |.math b::l,y,vs,hb,hf,⟨v,Av,e,⟨h1,sv,Ab,Au,AO⟩,ht⟩=>by obtain⟨AV,Aj⟩:=andB (show(Yz b m&&CT.bnd m l)=Yo from hb);obtain⟨h2,_,h3,_⟩:=hr.row b sv Ab (Dp AV) Au;exact⟨v,Av,e,⟨h1,sv,Ab,h2,λt et e ver Am hole l h=>AO t et e ver Am hole l (h3 t et e ver Am hole l h)⟩,Hm hr hd Aj (hf.imp id λh=>by simpa [CT.flat]using h) ht⟩
 |.trowh b::l,y,vs,hb,hf,⟨v,Av,e,⟨h1,sv,Ab,Au,AO⟩,ht⟩=>by obtain⟨AV,Aj⟩:=andB (show(Yz b m&&CT.bnd m l)=Yo from hb);obtain⟨h2,_,_,h3⟩:=hr.row b sv Ab (Dp AV) Au;exact⟨v,Av,e,⟨h1,sv,Ab,h2,λt e ver Am hole l h=>AO t e ver Am hole l (h3 t e ver Am hole l h)⟩,Hm hr hd Aj (hf.imp id λh=>by simpa [CT.flat]using h) ht⟩
 |.tptrh b ks o::l,y,vs,hb,hf,⟨v,Av,e,⟨sv,Ab,ad,Au,hv,AO⟩,ht⟩=>by obtain⟨AV,Aj⟩:=andB (show(Yz b m&&CT.bnd m l)=Yo from hb);obtain⟨h2,_,_,h3⟩:=hr.row b sv Ab (Dp AV) Au;exact⟨v,Av,e,⟨sv,Ab,ad,h2,hv,λt e ver Am hole l h=>AO t e ver Am hole l (h3 t e ver Am hole l h)⟩,Hm hr hd Aj (hf.imp id λh=>by simpa [CT.flat]using h) ht⟩
 |.fn f BI::l,y,vs,hb,hf,⟨v,Av,e,⟨gs,hg,hv⟩,ht⟩=>by obtain⟨AV,Aj⟩:=andB (show(BI.all (λb=>Yz b m)&&CT.bnd m l)=Yo from hb);refine⟨v,Av,e,⟨gs,?_,hv⟩,Hm hr hd Aj (hf.imp id λh=>by simpa [CT.flat]using h) ht⟩;exact Aau hr BI gs AV hg
 |.maph b::l,y,vs,hb,hf,⟨v,Av,e,⟨g,hg,hv⟩,ht⟩=>by obtain⟨AV,Aj⟩:=andB (show(Yz b m&&CT.bnd m l)=Yo from hb);exact⟨v,Av,e,⟨g,hr.cells b g (Dp AV) hg,hv⟩,Hm hr hd Aj (hf.imp id λh=>by simpa [CT.flat]using h) ht⟩
 |.bfnh f b::l,y,vs,hb,hf,⟨v,Av,e,⟨g,hg,hv⟩,ht⟩=>by obtain⟨AV,Aj⟩:=andB (show(Yz b m&&CT.bnd m l)=Yo from hb);exact⟨v,Av,e,⟨g,hr.cells b g (Dp AV) hg,hv⟩,Hm hr hd Aj (hf.imp id λh=>by simpa [CT.flat]using h) ht⟩
 |.bself b::l,y,vs,hb,hf,⟨v,Av,e,.inl hv,ht⟩=>by obtain⟨AV,Aj⟩:=andB (show(Yz b m&&CT.bnd m l)=Yo from hb);exact⟨v,Av,e,.inl hv,Hm hr hd Aj (hf.imp id λh=>by simpa [CT.flat]using h) ht⟩
 |.bself b::l,y,vs,hb,hf,⟨v,Av,e,.inr ⟨g,hg,hv⟩,ht⟩=>by obtain⟨AV,Aj⟩:=andB (show(Yz b m&&CT.bnd m l)=Yo from hb);exact⟨v,Av,e,.inr ⟨g,hr.cells b g (Dp AV) hg,hv⟩,Hm hr hd Aj (hf.imp id λh=>by simpa [CT.flat]using h) ht⟩
 |.nilc::l,y,vs,hb,hf,⟨v,Av,e,hv,ht⟩=>⟨v,Av,e,hv,Hm hr hd (by simpa [CT.bnd]using hb) (hf.imp id λh=>by simpa [CT.flat]using h) ht⟩
 |.nils::l,y,vs,hb,hf,⟨v,Av,e,hv,ht⟩=>⟨v,Av,e,hv,Hm hr hd (by simpa [CT.bnd]using hb) (hf.imp id λh=>by simpa [CT.flat]using h) ht⟩
 |.lsome e0::l,y,vs,hb,hf,⟨v,Av,e,hv,ht⟩=>by have ha:all:=hf.resolve_right (by simp[CT.flat]);exact⟨v,Av,e,⟨hd (.slice e0) y.1 [v] (.inl ha) hv.1,hv.2⟩,Hm hr hd (by simpa [CT.bnd]using hb) (.inl ha) ht⟩
 |.junk::l,y,vs,hb,hf,⟨v,Av,e,hv,ht⟩=>⟨v,Av,e,hv,Hm hr hd (by simpa [CT.bnd]using hb) (hf.imp id λh=>by simpa [CT.flat]using h) ht⟩
theorem gD{m:Yk}{E E':Env}{ids AZ:Ya Yk}(hr:Ren2 m E E' ids AZ){all:Prop}(hd:∀(τ:Ty)(x:τ.den)(us:Ya Yp),(all\/τ.flat=Yo)->DRep E.w E.ok τ x us->DRep E'.w E'.ok τ x us):∀{l:Ya (Ys×Ya CT)}{y:ST.dens l}{vs:Ya Yp},ST.bnd m l=Yo->(all\/ST.flat l=Yo)->TReps E (mkS ids l y) vs->TReps E' (mkS AZ l y) vs
 |[],_,_,_,_,h=>h
 |t::l,y,vs,hb,hf,⟨v,Av,e,⟨xs,hx,hv⟩,ht⟩=>by obtain⟨AV,Aj⟩:=andB (show(CT.bnd m t.2&&ST.bnd m l)=Yo from hb);have KI:all\/CT.flat t.2=Yo:=hf.imp id λh=>(andB (show(CT.flat t.2&&ST.flat l)=Yo from h)).1;have UO:all\/ST.flat l=Yo:=hf.imp id λh=>(andB (show(CT.flat t.2&&ST.flat l)=Yo from h)).2;exact⟨v,Av,e,⟨xs,Hm hr hd AV KI hx,hv⟩,gD hr hd Aj UO ht⟩
def Gk:Ya Yp->Yp
 |[v]=>v
 |vs=>.tuple vs.toArray
theorem TReps.res{E:Env}:∀{ts:Ya (Ys×Ya C)}{vs:Ya Yp},TReps E ts vs->VRep E (resV ts) (Gk vs)
 |[],vs,h=>by have h':vs=[]:=h;subst h';exact⟨[],rfl,h⟩
 |[t],vs,⟨v,Av,e,h1,h2⟩=>by have DV:Av=[]:=h2;subst DV e;exact VRep.mk h1
 |t::t2::ts,vs,h=>by obtain⟨v,Av,e,h1,v2,vs2,e2,h2,h3⟩:=id h;subst e e2;exact⟨_,rfl,h⟩
theorem MV{m:Yk}{E E':Env}{ids AZ:Ya Yk}(hr:Ren2 m E E' ids AZ)(BM:E'.base<=E.base){all:Prop}(hd:∀(τ:Ty)(x:τ.den)(us:Ya Yp),(all\/τ.flat=Yo)->DRep E.w E.ok τ x us->DRep E'.w E'.ok τ x us)(hw:E'.w=E.w):∀{l:Ya BT}{y:BT.dens l}{j:Yk}{B:Blk}{p:Pl},BT.bnd m l=Yo->(all\/BT.flat l=Yo)->(mkB ids l y)[j]?=Yd B->BRep E B p->∃B',(mkB AZ l y)[j]?=Yd B'/\BRep E' B' p/\B'.live=B.live/\(∀t e ver l,B'=.row t e ver l->B=.row t e ver l)/\(∀t et e ver Am hole l,B'=.mat t et e ver Am hole l->B=.mat t et e ver Am hole l)/\(∀t e ver Am hole l,B'=.tree t e ver Am hole l->B=.tree t e ver Am hole l)
 |[],_,j,_,_,_,_,h,_=>by simp[mkB]at h
 |.cells t l::r,y,0,B,p,hb,hf,h,hB=>by
  simp only[mkB,Dg,Af]at h;subst h;obtain⟨AV,Aj⟩:=andB (show(CT.bnd m l&&BT.bnd m r)=Yo from hb);have KI:all\/CT.flat l=Yo:=hf.imp id λh=>(andB (show(CT.flat l&&BT.flat r)=Yo from h)).1;refine⟨_,rfl,?_,rfl,(λt e ver l h=>by cases h),(λt et e ver Am hole l h=>by cases h),λt e ver Am hole l h=>by cases h⟩;cases p with
  |row _ _=>exact hB.elim
  |cells g=>obtain⟨vs,hh,Bn⟩:=hB;exact⟨vs,by rw[hw];exact hh,Hm hr hd AV KI Bn⟩
 |.row t e::r,y,0,B,p,hb,hf,h,hB=>by
  simp only[mkB,Dg,Af]at h;subst h;refine⟨_,rfl,?_,rfl,(λ_ _ _ _ h=>h),(λ_ _ _ _ _ _ _ h=>h),λ_ _ _ _ _ _ h=>h⟩;have KI:all\/e.flat=Yo:=hf.imp id λh=>(andB (show(e.flat&&BT.flat r)=Yo from h)).1;cases p with
  |cells _=>exact hB.elim
  |row sv Ab=>obtain⟨h0,xs,h1,h2⟩:=hB;refine⟨h0,xs,h1.mono λx u hu=>hd e x u KI hu,?_⟩;rw[hw];exact SD h2 BM
 |.mat t et e::r,y,0,B,p,hb,hf,h,hB=>by
  simp only[mkB,Dg,Af]at h;subst h;refine⟨_,rfl,?_,rfl,(λ_ _ _ _ h=>by cases h),(λ_ _ _ _ _ _ _ h=>h),λ_ _ _ _ _ _ h=>h⟩;have KI:all\/e.flat=Yo:=hf.imp id λh=>(andB (show(e.flat&&BT.flat r)=Yo from h)).1;cases p with
  |cells _=>exact hB.elim
  |row sv Ab=>have hM:MatOk E t et e Ye _ sv Ab:=hB;obtain⟨vs,h1,h2⟩:=hM.outer;refine⟨⟨vs,by rw[hw];exact SD h1 BM,h2⟩,hM.len,hM.hole,λi s x hs hx=>?_,hM.sep0,hM.sep⟩;obtain⟨xs,h3,h4⟩:=hM.inner i s x hs hx;exact⟨xs,h3.mono λx u hu=>hd e x u KI hu,by rw[hw];exact SD h4 BM⟩
 |.tree t e::r,y,0,B,p,hb,hf,h,hB=>by
  simp only[mkB,Dg,Af]at h;subst h;refine⟨_,rfl,?_,rfl,(λ_ _ _ _ h=>by cases h),(λ_ _ _ _ _ _ _ h=>by cases h),λ_ _ _ _ _ _ h=>h⟩;have ha:all\/e.flat=Yo:=hf.imp id λh=>(andB (show(e.flat&&BT.flat r)=Yo from h)).1;cases p with
  |cells _=>exact hB.elim
  |row sv Ab=>have hT:TreeOk E t e Ye _ sv Ab:=hB;obtain⟨hv,F,h1,h2,h3⟩:=hT.rep;refine⟨⟨hv,F,?_,h2,h3⟩,hT.top⟩;rw[hw];exact Owns.renF (all:=all) BM (λτ x us hf h=>by have:=hd τ x us hf h;rw[hw]at this;exact this) (o:=.r t e) ha h1
 |.tree t e::r,y,j+1,B,p,hb,hf,h,hB=>by simp only[mkB,Ee]at h⊢;exact MV hr BM hd hw hb (hf.imp id λh=>(andB (show(e.flat&&BT.flat r)=Yo from h)).2) h hB
 |.fmap t l::r,y,0,B,p,hb,hf,h,hB=>by
  simp only[mkB,Dg,Af]at h;subst h;refine⟨_,rfl,?_,rfl,(λ_ _ _ _ h=>by cases h),(λ_ _ _ _ _ _ _ h=>by cases h),λ_ _ _ _ _ _ h=>by cases h⟩;have AV:=(andB (show(l.all (λe=>Yz e.2.2 m)&&BT.bnd m r)=Yo from hb)).1;cases p with
  |row _ _=>exact hB.elim
  |cells g=>
   obtain⟨es,Ch,hh,hm⟩:=hB;refine⟨es,Ch,by rw[hw];exact hh,?_⟩
   have key:∀{l:Ya (Ya Yl×(Y6×Yk))}{es:Ya YL},l.all (λe=>Yz e.2.2 m)=Yo->FRep E (fIds ids l) es->FRep E' (fIds AZ l) es:=by
    intro l
    induction l with
    |nil=>intro es _ h;exact h
    |cons x l ih=>intro es hb ⟨e,r,g,q1,q2,q3,q4,q5⟩;obtain⟨b1,b2⟩:=andB (show(Yz x.2.2 m&&l.all (λe=>Yz e.2.2 m))=Yo from hb);exact⟨e,r,g,q1,q2,hr.cells x.2.2 g (Dp b1) q3,q4,ih b2 q5⟩
   exact key AV hm
 |.fmap t l::r,y,j+1,B,p,hb,hf,h,hB=>by simp only[mkB,Ee]at h⊢;exact MV hr BM hd hw (andB (show(l.all (λe=>Yz e.2.2 m)&&BT.bnd m r)=Yo from hb)).2 hf h hB
 |.mat t et e::r,y,j+1,B,p,hb,hf,h,hB=>by simp only[mkB,Ee]at h⊢;exact MV hr BM hd hw hb (hf.imp id λh=>(andB (show(e.flat&&BT.flat r)=Yo from h)).2) h hB
 |.map t k v vg::r,y,0,B,p,hb,hf,h,hB=>by
  simp only[mkB,Dg,Af]at h;subst h;refine⟨_,rfl,?_,rfl,(λ_ _ _ _ h=>h),(λ_ _ _ _ _ _ _ h=>h),λ_ _ _ _ _ _ h=>h⟩;have KI:all\/k.flat=Yo:=hf.imp id λh=>(andB (show(k.flat&&(v.flat&&BT.flat r))=Yo from h)).1;have UO:all\/v.flat=Yo:=hf.imp id λh=>(andB (andB (show(k.flat&&(v.flat&&BT.flat r))=Yo from h)).2).1;cases p with
  |row _ _=>exact hB.elim
  |cells g=>obtain⟨es,Ch,hh,hm⟩:=hB;exact⟨es,Ch,by rw[hw];exact hh,hm.mono (λx u hu=>hd k x u KI hu) (λx u hu=>hd v x u UO hu)⟩
 |.map t k v vg::r,y,j+1,B,p,hb,hf,h,hB=>by simp only[mkB,Ee]at h⊢;exact MV hr BM hd hw hb (hf.imp id λh=>(andB (andB (show(k.flat&&(v.flat&&BT.flat r))=Yo from h)).2).2) h hB
 |.cells t l::r,y,j+1,B,p,hb,hf,h,hB=>by simp only[mkB,Ee]at h⊢;exact MV hr BM hd hw (andB (show(CT.bnd m l&&BT.bnd m r)=Yo from hb)).2 (hf.imp id λh=>(andB (show(CT.flat l&&BT.flat r)=Yo from h)).2) h hB
 |.row t e::r,y,j+1,B,p,hb,hf,h,hB=>by simp only[mkB,Ee]at h⊢;exact MV hr BM hd hw hb (hf.imp id λh=>(andB (show(e.flat&&BT.flat r)=Yo from h)).2) h hB
def fnBl(l:Ya Blk):Yk->Yb Blk:=λb=>l[b]?
structure SpecOk (P:Yv) (f:Y6) (S:Spec):Prop where
 fn:∃fn,P.funcs[f]?=Yd fn/\(fn.name== "runtime.NumGoroutine")=Yc/\fn.body.isNone=Yc
 ok:∀{β:Type}(x:ST.dens S.params×BT.dens S.ins)(k:ST.dens S.res×BT.dens S.outs->Yb β)(r:β),S.run x k=Yd r->
  ∃y,k y=Yd r/\∀(ok0:OK0 P)(pl:Yk->Yb Pl)(w:Yx)(args:Ya Yp),
   RelB ok0 w.heap.size pl (fnBl (mkB (AD 0 S.ins.length) S.ins x.2)) w->
   TReps (Ak ok0 w.heap.size pl (fnBl (mkB (AD 0 S.ins.length) S.ins x.2)) w) (mkS (AD 0 S.ins.length) S.params x.1) args->
   Yat P f args.toArray w λe w'=>∃vals Ac,e=.returned (Gk vals)/\
    RelB ok0 w.heap.size Ac (fnBl (mkB (AD 0 S.outs.length) S.outs y.2)) w'/\
    StepM S.ins.length pl (fnBl (mkB (AD 0 S.ins.length) S.ins x.2)) w Ac (fnBl (mkB (AD 0 S.outs.length) S.outs y.2)) w'/\
    TReps (Ak ok0 w.heap.size Ac (fnBl (mkB (AD 0 S.outs.length) S.outs y.2)) w') (mkS (AD 0 S.outs.length) S.res y.1) vals
structure RowOk (P:Yv) (f:Y6) (F:RowF):Prop where
 fn:∃fn,P.funcs[f]?=Yd fn/\(fn.name== "runtime.NumGoroutine")=Yc/\fn.body.isNone=Yc
 flat:F.e.flat=Yo
 len:F.cut=Yc->∀l,(F.run l).length=l.length
 ok:∀(w:Yx)(base:Yk)(sv:Yp)(l:Ya F.e.den)(xs:Ya Yp),F.dom l=Yo->base<=w.heap.size->GlobR P sv.ownBlock w->DList (λx u=>DRep w (λ_=>True) F.e x u) l xs->w.ownsRow base F.t F.e.size sv l.length xs->
  Yat P f (sv::F.extra).toArray w λe w'=>∃As,e=.returned (bif F.cut then As else .tuple #[])/\w.grownBy w' sv.ownBlock/\(F.cut=Yc->As=sv)/\(As.ownBlock=sv.ownBlock\/∀g,As.ownBlock=Yd g->w.heap.size<=g)/\
   ∃CZ,DList (λx u=>DRep w (λ_=>True) F.e x u) (F.run l) CZ/\w'.ownsRow base F.t F.e.size As (F.run l).length CZ
def SH(P:Yv)(f:Y6)(F:BldF)(w:Yx)(base b:Yk)(v:Yp)(l:Ya Yi):Yk->Prop
 |0=>∀s:Ya Yl,l.length+s.length<=140737488355328->Yat P f #[.pointer (Yd ⟨b,0,Ye⟩),.string ⟨s.toArray⟩] w λe w'=>
   e=.returned (.tuple #[.int .i64 (s.length:Yi),.nilIface])/\∃w1 w2 v',w.grownBy w1 (Yd b)/\w1.heap[b]?=Yd (.cells #[.pointer (Yd ⟨b,0,Ye⟩),v] F.t (0,0))/\
    w1.grownBy w2 v.ownBlock/\(v'.ownBlock=v.ownBlock\/∀g,v'.ownBlock=Yd g->w1.heap.size<=g)/\w2.ownsRow base F.te 1 v' (l.length+s.length) ((l++Im s).map (Yag .u8))/\
    w2.grownBy w' (Yd b)/\w'.heap[b]?=Yd (.cells #[.pointer (Yd ⟨b,0,Ye⟩),v'] F.t (0,0))
 |1=>Sx l=Yo->Yat P f #[.pointer (Yd ⟨b,0,Ye⟩)] w λe w'=>e=.returned (.string ⟨(JN l).toArray⟩)/\w.grownBy w' v.ownBlock
 |4=>∀n:Yi,l.length+1<=140737488355328->Yat P f #[.pointer (Yd ⟨b,0,Ye⟩),.int .u8 n] w λe w'=>
   e=.returned .nilIface/\∃w1 w2 v',w.grownBy w1 (Yd b)/\w1.heap[b]?=Yd (.cells #[.pointer (Yd ⟨b,0,Ye⟩),v] F.t (0,0))/\
    w1.grownBy w2 v.ownBlock/\(v'.ownBlock=v.ownBlock\/∀g,v'.ownBlock=Yd g->w1.heap.size<=g)/\w2.ownsRow base F.te 1 v' (l.length+1) ((l++[n]).map (Yag .u8))/\
    w2.grownBy w' (Yd b)/\w'.heap[b]?=Yd (.cells #[.pointer (Yd ⟨b,0,Ye⟩),v'] F.t (0,0))
 |_=>Yat P f #[.pointer (Yd ⟨b,0,Ye⟩)] w λe w'=>e=.returned (.int .i64 (l.length:Yi))/\w.grownBy w' Ye
structure BldOk (P:Yv) (f:Y6) (F:BldF):Prop where
 fn:∃fn,P.funcs[f]?=Yd fn/\(fn.name== "runtime.NumGoroutine")=Yc/\fn.body.isNone=Yc
 ok:F.op≠3->∀(w:Yx)(base b:Yk)(p v:Yp)(l:Ya Yi),base<=w.heap.size->w.heap[b]?=Yd (.cells #[p,v] F.t (0,0))->(p=.pointer Ye\/p=.pointer (Yd ⟨b,0,Ye⟩))->
  w.ownsRow base F.te 1 v l.length (l.map (Yag .u8))->v.ownBlock≠Yd b->SH P f F w base b v l F.op
 join:F.op=3->∀(w:Yx)(base:Yk)(sv:Yp)(l:Ya (Ya Yl))(sep:Ya Yl),w.ownsRow base F.t 1 sv l.length (l.map λs=>Value.string ⟨s.toArray⟩)->l.length<=140737488355328->(Ya2 l sep).length<=140737488355328->
  Yat P f #[sv,.string ⟨sep.toArray⟩] w λe w'=>e=.returned (.string ⟨(Ya2 l sep).toArray⟩)/\w.grownBy w' Ye
structure AbsOk (P:Yv) (f:Y6) (A:AbsF):Prop where
 fn:∃fn,P.funcs[f]?=Yd fn/\(fn.name== "runtime.NumGoroutine")=Yc/\fn.body.isNone=Yc
 ok:∀{β:Type}(bl:Yk->Yb Blk)(nx:Yk)(args:Ya V)(kk:V->Ya Yk->Ya (Yk×Blk)->Yb β)(r:β),A.run bl nx args kk=Yd r->
  ∃v rd wr,kk v rd wr=Yd r/\∀bl2:Yk->Yb Blk,(∀b∈rd,bl2 b=bl b)->∀(ok0:OK0 P)(base:Yk)(pl:Yk->Yb Pl)(w:Yx)(us:Ya Yp),RelB ok0 base pl bl2 w->VReps (Ak ok0 base pl bl2 w) args us->
   Yat P f us.toArray w λe w'=>∃u Ac,e=.returned u/\RelB ok0 base Ac (updL bl2 wr) w'/\Step pl bl2 w Ac (updL bl2 wr) w'/\VRep (Ak ok0 base Ac (updL bl2 wr) w') v u
structure ΓOk (P:Yv) (Γ:Y6->Yb Fun):Prop where
 spec:∀f S,Γ f=Yd (.spec S)->SpecOk P f S
 rows:∀f F,Γ f=Yd (.rows F)->RowOk P f F
 bld:∀f F,Γ f=Yd (.bld F)->BldOk P f F
 abs:∀f A,Γ f=Yd (.abs A)->AbsOk P f A
def place:Ya Yk->Yk->Yb Yk
 |[],_=>Ye
 |x::r,i=>if i=x then Yd 0 else(place r i).map (· +1)
theorem Hn:∀{l:Ya Yk}{i b:Yk},place l i=Yd b->l[b]?=Yd i
 |[],i,b,h=>by simp[place]at h
 |x::r,i,b,h=>by
  simp only[place]at h;split at h
  ·rename_i hx
   simp only[Af]at h;subst h hx;rfl
  ·cases hp:place r i with
   |none=>rw[hp]at h;cases h
   |some c=>rw[hp]at h;simp only[Ft,Af]at h;subst h;simpa using Hn hp
theorem Kr:∀{l:Ya Yk}{i b:Yk},l.Nodup->l[b]?=Yd i->place l i=Yd b
 |[],i,b,_,h=>by simp at h
 |x::r,i,0,_,h=>by simp at h;subst h;simp[place]
 |x::r,i,b+1,hn,h=>by
  have h':r[b]?=Yd i:=by simpa using h
  have Az:i≠x:=by rintro rfl;exact(La.1 hn).1 (CN h')
  simp[place,Az,Kr (La.1 hn).2 h']
theorem Ang{l:Ya Yk}{i:Yk}(h:i∉l):place l i=Ye:=by
 cases hp:place l i with
 |none=>rfl
 |some b=>exact Yw (CN (Hn hp)) h
theorem Aav{f:Yk->Yb Blk}:∀{l:Ya Yk}{xs:Ya Blk}(i:Yk),l.Nodup->l.length=xs.length->updL f (l.zip xs) i=match place l i with|some b=>xs[b]?|none=>f i:=by
 intro l
 induction l generalizing f with
 |nil=>intro xs i _ _;rfl
 |cons x r ih=>
  intro xs i hn hl;cases xs with
  |nil=>simp at hl
  |cons B xs=>
   simp only[List.zip_cons_cons,updL];rw[ih i (La.1 hn).2 (by simpa using hl)];simp only[place];by_cases hi:i=x
   ·subst hi
    rw[Ang (La.1 hn).1];simp[upd]
   ·simp only[hi,Cb]
    cases hp:place r i with
    |none=>simp[upd,hi]
    |some b=>simp
theorem Aaw{ps:Ya (Yk×Yk)}:∀{n j:Yk}{ids:Ya Yk},Sw ps j n=Yd ids->ids.length=n
 |0,j,ids,h=>by simp only[Sw,Af]at h;subst h;rfl
 |n+1,j,ids,h=>by
  simp only[Sw]at h;split at h
  ·rename_i b r _ hr
   simp only[Af]at h;subst h;simp[Aaw hr]
  ·cases h
theorem gE{bl:Yk->Yb Blk}{ids:Ya Yk}:∀{l:Ya BT}{is:Ya Yk}{y:BT.dens l},G7 bl ids l is=Yd y->∀i∈is,∃t cs,bl i=Yd (.cells t cs)
 |[],is,y,hp=>by
  cases is with
  |nil=>intro i h;simp at h
  |cons i is=>simp[G7]at hp
 |.row t e::r,is,y,hp=>by cases is<;>simp[G7]at hp
 |.map t k v vg::r,is,y,hp=>by cases is<;>simp[G7]at hp
 |.mat t et e::r,is,y,hp=>by cases is<;>simp[G7]at hp
 |.tree t e::r,is,y,hp=>by cases is<;>simp[G7]at hp
 |.fmap t l::r,is,y,hp=>by cases is<;>simp[G7]at hp
 |.cells t l::r,is,y,hp=>by
  cases is with
  |nil=>intro i h;simp at h
  |cons i is=>
   simp only[G7]at hp;split at hp
   ·rename_i t' cs An
    cases ht:Ym t t' with
    |false=>rw[ht]at hp;cases hp
    |true=>
     simp only[ht,Ao]at hp;split at hp
     ·cases hp
     ·split at hp
      ·cases hp
      ·rename_i z h2
       intro j hj;rcases Bg.1 hj with rfl|hj
       ·exact⟨t',cs,An⟩
       ·exact gE h2 j hj
   ·cases hp
theorem MW{ids ids2:Ya Yk}:∀{l:Ya BT}{y:BT.dens l}{j:Yk}{t:Yq}{e:Ty}{ver:Yk}{l':Ya e.den},(mkB ids l y)[j]?=Yd (.row t e ver l')->(mkB ids2 l y)[j]?=Yd (.row t e ver l')
 |[],_,j,_,_,_,_,h=>by simp[mkB]at h
 |.cells _ _::r,y,0,_,_,_,_,h=>by simp[mkB]at h
 |.row _ _::r,y,0,_,_,_,_,h=>by simpa [mkB]using h
 |.cells _ _::r,y,j+1,_,_,_,_,h=>by simp only[mkB,Ee]at h⊢;exact MW h
 |.row _ _::r,y,j+1,_,_,_,_,h=>by simp only[mkB,Ee]at h⊢;exact MW h
 |.map _ _ _ _::r,y,0,_,_,_,_,h=>by simp[mkB]at h
 |.map _ _ _ _::r,y,j+1,_,_,_,_,h=>by simp only[mkB,Ee]at h⊢;exact MW h
 |.mat _ _ _::r,y,0,_,_,_,_,h=>by simp[mkB]at h
 |.mat _ _ _::r,y,j+1,_,_,_,_,h=>by simp only[mkB,Ee]at h⊢;exact MW h
 |.tree _ _::r,y,0,_,_,_,_,h=>by simp[mkB]at h
 |.tree _ _::r,y,j+1,_,_,_,_,h=>by simp only[mkB,Ee]at h⊢;exact MW h
 |.fmap _ _::r,y,0,_,_,_,_,h=>by simp[mkB]at h
 |.fmap _ _::r,y,j+1,_,_,_,_,h=>by simp only[mkB,Ee]at h⊢;exact MW h
theorem MX{ids ids2:Ya Yk}:∀{l:Ya BT}{y:BT.dens l}{j:Yk}{t et:Yq}{e:Ty}{ver Am:Yk}{hole:Yb Yk}{l':Ya (Ya e.den)},(mkB ids l y)[j]?=Yd (.mat t et e ver Am hole l')->(mkB ids2 l y)[j]?=Yd (.mat t et e ver Am hole l')
 |[],_,j,_,_,_,_,_,_,_,h=>by simp[mkB]at h
 |.cells _ _::r,y,0,_,_,_,_,_,_,_,h=>by simp[mkB]at h
 |.row _ _::r,y,0,_,_,_,_,_,_,_,h=>by simp[mkB]at h
 |.map _ _ _ _::r,y,0,_,_,_,_,_,_,_,h=>by simp[mkB]at h
 |.mat _ _ _::r,y,0,_,_,_,_,_,_,_,h=>by simpa [mkB]using h
 |.cells _ _::r,y,j+1,_,_,_,_,_,_,_,h=>by simp only[mkB,Ee]at h⊢;exact MX h
 |.row _ _::r,y,j+1,_,_,_,_,_,_,_,h=>by simp only[mkB,Ee]at h⊢;exact MX h
 |.map _ _ _ _::r,y,j+1,_,_,_,_,_,_,_,h=>by simp only[mkB,Ee]at h⊢;exact MX h
 |.mat _ _ _::r,y,j+1,_,_,_,_,_,_,_,h=>by simp only[mkB,Ee]at h⊢;exact MX h
 |.tree _ _::r,y,0,_,_,_,_,_,_,_,h=>by simp[mkB]at h
 |.tree _ _::r,y,j+1,_,_,_,_,_,_,_,h=>by simp only[mkB,Ee]at h⊢;exact MX h
 |.fmap _ _::r,y,0,_,_,_,_,_,_,_,h=>by simp[mkB]at h
 |.fmap _ _::r,y,j+1,_,_,_,_,_,_,_,h=>by simp only[mkB,Ee]at h⊢;exact MX h
theorem gF{ids ids2:Ya Yk}:∀{l:Ya BT}{y:BT.dens l}{j:Yk}{t:Yq}{e:OT}{ver Am:Yk}{hole:Yb Path}{l':Ya e.ty.den},(mkB ids l y)[j]?=Yd (.tree t e ver Am hole l')->(mkB ids2 l y)[j]?=Yd (.tree t e ver Am hole l')
 |[],_,j,_,_,_,_,_,_,h=>by simp[mkB]at h
 |.tree _ _::r,y,0,_,_,_,_,_,_,h=>by simpa [mkB]using h
 |.cells _ _::r,y,0,_,_,_,_,_,_,h|.row _ _::r,y,0,_,_,_,_,_,_,h|.map _ _ _ _::r,y,0,_,_,_,_,_,_,h|.mat _ _ _::r,y,0,_,_,_,_,_,_,h=>by simp[mkB]at h
 |.cells _ _::r,y,j+1,_,_,_,_,_,_,h|.row _ _::r,y,j+1,_,_,_,_,_,_,h|.map _ _ _ _::r,y,j+1,_,_,_,_,_,_,h|.mat _ _ _::r,y,j+1,_,_,_,_,_,_,h|.tree _ _::r,y,j+1,_,_,_,_,_,_,h|.fmap _ _::r,y,j+1,_,_,_,_,_,_,h=>by simp only[mkB,Ee]at h⊢;exact gF h
theorem MY{ids:Ya Yk}:∀{l:Ya BT}{y:BT.dens l}{j:Yk}{B:Blk},(mkB ids l y)[j]?=Yd B->B.live=Yo
 |[],_,j,_,h=>by simp[mkB]at h
 |.cells _ _::r,y,0,_,h=>by simp only[mkB,Dg,Af]at h;subst h;rfl
 |.row _ _::r,y,0,_,h=>by simp only[mkB,Dg,Af]at h;subst h;rfl
 |.cells _ _::r,y,j+1,_,h=>by simp only[mkB,Ee]at h;exact MY h
 |.row _ _::r,y,j+1,_,h=>by simp only[mkB,Ee]at h;exact MY h
 |.map _ _ _ _::r,y,0,_,h=>by simp only[mkB,Dg,Af]at h;subst h;rfl
 |.map _ _ _ _::r,y,j+1,_,h=>by simp only[mkB,Ee]at h;exact MY h
 |.mat _ _ _::r,y,0,_,h=>by simp only[mkB,Dg,Af]at h;subst h;rfl
 |.mat _ _ _::r,y,j+1,_,h=>by simp only[mkB,Ee]at h;exact MY h
 |.tree _ _::r,y,0,_,h=>by simp only[mkB,Dg,Af]at h;subst h;rfl
 |.tree _ _::r,y,j+1,_,h=>by simp only[mkB,Ee]at h;exact MY h
 |.fmap _ _::r,y,0,_,h=>by simp only[mkB,Dg,Af]at h;subst h;rfl
 |.fmap _ _::r,y,j+1,_,h=>by simp only[mkB,Ee]at h;exact MY h
theorem Oj{n b:Yk}(h:b<n):(AD 0 n).getD b 0=b:=by have:=fZ (n:=n) (s:=0) h;simp[Yn,this]
section
variable{P:Yv}{o:Oper}{ρ:Y0->V}{bl:Yk->Yb Blk}{β:Type}{r:β}
def Blk.lend:Blk->Ys
 |.row _ _ _ _=>Yo
 |.tree _ _ _ _ _ _=>Yo
 |_=>Yc
theorem Blk.lend_live{B:Blk}(h:B.lend=Yo):B.live=Yo:=by cases B<;>first|rfl|cases h
theorem gG{ok0:OK0 P}{base:Yk}{pl:Yk->Yb Pl}{bl:Yk->Yb Blk}{w:Yx}(hr:RelB ok0 base pl bl w){b:Yk}{B:Blk}{p:Pl}(hb:bl b=Yd B)(hl:B.lend=Yo)(hp:pl b=Yd p){g:Yk}(hg:p.has g):base<=g/\¬ok0.no g:=by
 refine⟨?_,λhn=>(hr.glob.no g hn).2 ⟨b,B,p,hb,Blk.lend_live hl,hp,hg⟩⟩;obtain⟨q,hq,hB⟩:=hr.blks b _ hb;rw[hp]at hq;injection hq with hq;subst hq;cases B with
 |row t e ver l=>
  cases p with
  |cells _=>exact hB.elim
  |row sv Ab=>obtain⟨rfl,xs,_,ho⟩:=hB;exact(ho.lt g (Pl.has_row hg)).1
 |tree t e ver Am hole l=>
  cases p with
  |cells _=>exact hB.elim
  |row sv Ab=>have hT:TreeOk _ t e hole l sv Ab:=hB;obtain⟨hv,F,h1,h2,_⟩:=hT.rep;obtain⟨s,hs,hg⟩:=h2.of_has hg;exact(h1.lt s hs g hg).1
 |_=>cases hl
def Blk.rowy:Blk->Ys
 |.row _ _ _ _=>Yo
 |.crow _ _ _ _=>Yo
 |_=>Yc
theorem Blk.rowy_live{B:Blk}(h:B.rowy=Yo):B.live=Yo:=by cases B<;>first|rfl|cases h
theorem Anh{ok0:OK0 P}{base:Yk}{pl:Yk->Yb Pl}{bl:Yk->Yb Blk}{w:Yx}(hr:RelB ok0 base pl bl w){b:Yk}{B:Blk}{p:Pl}(hb:bl b=Yd B)(hl:B.rowy=Yo)(hp:pl b=Yd p){g:Yk}(hg:p.has g):base<=g/\¬ok0.no g:=by
 refine⟨?_,λhn=>(hr.glob.no g hn).2 ⟨b,B,p,hb,Blk.rowy_live hl,hp,hg⟩⟩;obtain⟨q,hq,hB⟩:=hr.blks b _ hb;rw[hp]at hq;injection hq with hq;subst hq;cases B with
 |row t e ver l=>
  cases p with
  |cells _=>exact hB.elim
  |row sv Ab=>obtain⟨rfl,xs,_,ho⟩:=hB;exact(ho.lt g (Pl.has_row hg)).1
 |crow t e n cs=>
  cases p with
  |cells _=>exact hB.elim
  |row sv Ab=>obtain⟨rfl,xs,_,ho⟩:=hB;exact(ho.lt g (Pl.has_row hg)).1
 |_=>cases hl
theorem Ani{S:Spec}{bl:Yk->Yb Blk}{rds:Ya Yk}{p:Yk×Blk}(h:p∈PX S bl rds):p.2=.dead/\p.1∈rds/\∃B,bl p.1=Yd B/\B.lend=Yo:=by
 unfold PX at h;cases hf:(ST.flat S.res&&BT.flat S.outs)with
 |true=>rw[hf]at h;simp at h
 |false=>
  rw[hf,BU]at h;obtain⟨b,hb,hp⟩:=List.mem_filterMap.1 h;split at hp
  ·rename_i An
   injection hp with hp;subst hp;exact⟨rfl,hb,_,An,rfl⟩
  ·rename_i An
   injection hp with hp;subst hp;exact⟨rfl,hb,_,An,rfl⟩
  ·cases hp
theorem Anj{S:Spec}{bl:Yk->Yb Blk}{rds:Ya Yk}(hf:(ST.flat S.res&&BT.flat S.outs)=Yc){b:Yk}(hb:b∈rds){B:Blk}(An:bl b=Yd B)(hl:B.lend=Yo):(b,Blk.dead)∈PX S bl rds:=by unfold PX;rw[hf,BU];refine List.mem_filterMap.2 ⟨b,hb,?_⟩;rw[An];cases B<;>first|rfl|cases hl
theorem Ol:∀{l:Ya (Yk×Blk)}{f:Yk->Yb Blk}(i:Yk),(∀p∈l,p.2=Blk.dead)->(updL f l i=f i/\(∀p∈l,p.1≠i))\/(updL f l i=Yd .dead/\∃p∈l,p.1=i)
 |[],f,i,_=>.inl ⟨rfl,λ_ h=>by simp at h⟩
 |(j,x)::l,f,i,h=>by
  have hx:x=.dead:=h (j,x) (by simp);subst hx;simp only[updL];rcases Ol (l:=l) (f:=upd f j .dead) i (λp hp=>h p (by simp[hp]))with⟨h1,h2⟩|⟨h1,p,hp,h2⟩
  ·by_cases Du:i=j
   ·subst Du
    exact .inr ⟨by rw[h1];simp[upd],(i,.dead),by simp,rfl⟩
   ·refine .inl ⟨by rw[h1];simp[upd,Du],λp hp=>?_⟩
    rcases Bg.1 hp with e|hp
    ·rw[e];exact λh=>Du h.symm
    ·exact h2 p hp
  ·exact .inr ⟨h1,p,by simp[hp],h2⟩
theorem Ank{F:RowF}{E:Env}{args:Ya V}{us:Ya Yp}{b ver:Yk}(h:eV F args=Yd (b,ver))(AN:VReps E args us):∃u,us=u::F.extra/\VRep E (.c (.row b ver)) u:=by
 unfold eV at h;split at h
 ·rename_i b' ver' B9
  cases h;obtain⟨u,Cf,rfl,hu,hn⟩:=AN;have hn:Cf=[]:=hn;subst hn;exact⟨u,by unfold RowF.extra;rw[B9],hu⟩
 ·rename_i b' ver' g g' B9
  cases hg:Ym g g' with
  |false=>rw[hg]at h;cases h
  |true=>
   rw[hg]at h;cases h;have hg:=At hg;subst hg;obtain⟨u,Cf,rfl,hu,u2,us2,rfl,⟨gs,Jb,hv⟩,hn⟩:=AN;have hn:us2=[]:=hn;subst hn
   have:gs=[]:=by
    cases gs with
    |nil=>rfl
    |cons _ _=>simp at Jb
   subst this;exact⟨u,by unfold RowF.extra;rw[B9,hv];rfl,hu⟩
 ·cases h
theorem Anl{F:RowF}{f:Y6}(hF:RowOk P f F){kk:K β}{args:Ya V}(hk:eW F bl args kk=Yd r)(EA:∀(bl2:Yk->Yb Blk)(ok0:OK0 P)(base:Yk)(pl:Yk->Yb Pl)(w:Yx)(a:Act),RelB ok0 base pl bl2 w->(∀x∈o.op.operands,VRep (Ak ok0 base pl bl2 w) (ρ x) (a.eval x))->∃us,VReps (Ak ok0 base pl bl2 w) args us/\((∃fn,P.funcs[f]?=Yd fn/\(fn.name== "runtime.NumGoroutine")=Yc/\fn.body.isNone=Yc)->(Y1 a.eval o).run P w=.ok (.enter f us.toArray) w)):Sound P o ρ bl kk r:=by
 unfold eW at hk;split at hk
 ·rename_i b ver AEh
  split at hk
  ·rename_i t e ver' l An
   cases hc:(Ym ver ver'&&Ym t F.t)with
   |false=>rw[hc]at hk;cases hk
   |true=>
    simp only[hc,Ao]at hk;obtain⟨h1,h2⟩:=andB hc;have h1:=At h1;have h2:=At h2;subst h1 h2;split at hk
    ·rename_i he
     subst he;obtain⟨Iy,hk⟩:=Dc hk
     have main:∀(bl2:Yk->Yb Blk),bl2 b=bl b->∀(ok0:OK0 P)(base:Yk)(pl:Yk->Yb Pl)(w:Yx)(a:Act),RelB ok0 base pl bl2 w->(∀x∈o.op.operands,VRep (Ak ok0 base pl bl2 w) (ρ x) (a.eval x))->
       ∃sv,pl b=Yd (.row sv [])/\(Y1 a.eval o).run P w=.ok (.enter f (sv::F.extra).toArray) w/\Yat P f (sv::F.extra).toArray w λe w'=>∃As,e=.returned (bif F.cut then As else .tuple #[])/\w.grownBy w' sv.ownBlock/\(F.cut=Yc->As=sv)/\
        (As.ownBlock=sv.ownBlock\/∀g,As.ownBlock=Yd g->w.heap.size<=g)/\∃CZ,DList (λx u=>DRep w (λ_=>True) F.e x u) (F.run l) CZ/\w'.ownsRow base F.t F.e.size As (F.run l).length CZ:=by
      intro bl2 Aj ok0 base pl w a hr Ad;obtain⟨us,AN,AE⟩:=EA bl2 ok0 base pl w a hr Ad;have AE:=AE hF.fn;obtain⟨u,rfl,_,sv,Ab,Au,AO⟩:=Ank AEh AN;have BN:bl2 b=Yd (.row F.t F.e ver l):=Aj.trans An;have hu:=(AO F.t F.e ver l BN).2 rfl;subst hu;obtain⟨p,hp,hB⟩:=hr.blks b _ BN;have:p=.row u Ab:=by have h2:pl b=Yd (.row u Ab):=Au;rw[hp]at h2;injection h2
      subst this;obtain⟨h0,xs,hd,Ah⟩:=hB;subst h0;exact⟨u,Au,AE,hF.ok w base u l xs Iy hr.baseLe (hr.glob.row λg hg=>⟨b,_,_,BN,rfl,hp,YaN hg⟩) (hd.mono λx us hx=>hx.flat hF.flat) Ah⟩
     cases Rx:F.cut with
     |false=>rw[Rx]at hk;simp only[BU]at hk;refine⟨_,_,_,hk,λbl2 Aj=>?_⟩;have BN:bl2 b=Yd (.row F.t F.e ver l):=(Aj b (by simp)).trans An;intro ok0 base pl w a hr Ad K Q hK;obtain⟨sv,Au,AE,B8⟩:=main bl2 (Aj b (by simp)) ok0 base pl w a hr Ad;unfold Yan;rw[AE];simp only[Yaa];refine B8.mono λe w' ⟨As,he,DZ,Kk,Dv,CZ,BX,EZ⟩=>?_;have Kk:=Kk Rx;subst Kk;rw[Rx]at he;simp only[BU]at he;subst he;simp only;have AQ:ver<=ver/\(ver=ver->As=As/\(F.run l).length=l.length):=⟨Aw _,λ_=>⟨rfl,hF.len Rx l⟩⟩;have hs:=Step.grown (l':=F.run l) hr BN Au DZ Dv AQ;refine hK (.tuple #[]) (upd pl b (.row As [])) w' (RelB.grown hr BN Au DZ Dv AQ ⟨rfl,CZ,BX.mono λx u hu=>hu.flat hF.flat,EZ⟩) hs ⟨[],rfl,rfl⟩
     |true=>
      rw[Rx]at hk;simp only[Ao]at hk;refine⟨_,_,_,hk,λbl2 Aj=>?_⟩;have BN:bl2 b=Yd (.row F.t F.e ver l):=(Aj b (by simp)).trans An;intro ok0 base pl w a hr Ad K Q hK;obtain⟨sv,Au,AE,B8⟩:=main bl2 (Aj b (by simp)) ok0 base pl w a hr Ad;unfold Yan;rw[AE];simp only[Yaa];refine B8.mono λe w' ⟨As,he,DZ,Kk,Dv,CZ,BX,EZ⟩=>?_;rw[Rx]at he;simp only[Ao]at he;subst he;simp only;have AQ:ver<=ver+1/\(ver=ver+1->As=sv/\(F.run l).length=l.length):=⟨PN _,λh=>by omega⟩;have hs:=Step.grown (l':=F.run l) hr BN Au DZ Dv AQ;have hR:=RelB.grown hr BN Au DZ Dv AQ ⟨rfl,CZ,BX.mono λx u hu=>hu.flat hF.flat,EZ⟩;refine hK As (upd pl b (.row As [])) w' hR hs ⟨?_,As,[],by simp[Ak,upd],λt e Gz l2 hb=>?_⟩
      ·rcases EZ.2 with⟨h,_⟩|⟨g,cap,AI,h,_⟩<;>rw[h]<;>rfl
      ·have hb:upd bl2 b (.row F.t F.e (ver+1) (F.run l)) b=Yd (.row t e Gz l2):=hb
       simp only[upd]at hb;simp at hb;exact⟨by omega,λ_=>rfl⟩
    ·cases hk
  ·cases hk
 ·cases hk
theorem SI{w:Yx}{ok:Yk->Prop}{k:YP}:∀{l:Ya Yi}{xs:Ya Yp},DList (λ(x:Yi) u=>DRep w ok (.int k) x u) l xs↔xs=l.map (Yag k)
 |[],xs=>by simp[DList]
 |x::l,xs=>by
  simp only[DList,CP];constructor
  ·rintro⟨u,v,rfl,hu,hv⟩
   rw[SI.1 hv];simp only[DRep]at hu;subst hu;rfl
  ·rintro rfl
   exact⟨[.int k x],_,rfl,by simp[DRep],SI.2 rfl⟩
theorem gH{w:Yx}{ok:Yk->Prop}:∀{l:Ya (Ya Yl)}{xs:Ya Yp},DList (λ(x:Ya Yl) u=>DRep w ok .str x u) l xs↔xs=l.map λs=>Value.string ⟨s.toArray⟩
 |[],xs=>by simp[DList]
 |x::l,xs=>by
  simp only[DList,CP];constructor
  ·rintro⟨u,v,rfl,hu,hv⟩
   rw[gH.1 hv];simp only[DRep]at hu;subst hu;rfl
  ·rintro rfl
   exact⟨[.string ⟨x.toArray⟩],_,rfl,by simp[DRep],gH.2 rfl⟩
theorem Qp{F:BldF}{bl:Yk->Yb Blk}{i:Yk}{q:Yb (Yk×Yk)}{l:Ya Yi}(h:Sz F bl i=Yd (q,l)):∃c1 c2,bl i=Yd (.cells F.t [c1,c2])/\Sy c1 i=Yo/\((q=Ye/\l=[]/\c2=.nils)\/∃j ver,q=Yd (j,ver)/\c2=.row j ver/\bl j=Yd (.row F.te (.int .u8) ver l)):=by
 unfold Sz at h;split at h
 ·rename_i t p q' An
  cases hc:(Ym t F.t&&Sy p i)with
  |false=>rw[hc]at h;cases h
  |true=>
   simp only[hc,Ao]at h;obtain⟨h1,h2⟩:=andB hc;have h1:=At h1;subst h1;split at h
   ·simp only[Af,Bv]at h
    obtain⟨rfl,rfl⟩:=h;exact⟨p,_,An,h2,.inl ⟨rfl,rfl,rfl⟩⟩
   ·rename_i j ver
    split at h
    ·rename_i te ver' l' Ix
     cases BG:(Ym te F.te&&Ym ver ver')with
     |false=>rw[BG]at h;cases h
     |true=>simp only[BG,Ao,Af,Bv]at h;obtain⟨rfl,rfl⟩:=h;obtain⟨h3,h4⟩:=andB BG;have h3:=At h3;have h4:=At h4;subst h3 h4;exact⟨p,_,An,h2,.inr ⟨j,ver,rfl,rfl,Ix⟩⟩
    ·cases h
   ·cases h
 ·cases h
theorem Qq{F:BldF}{ok0:OK0 P}{base:Yk}{pl:Yk->Yb Pl}{bl:Yk->Yb Blk}{w:Yx}(hr:RelB ok0 base pl bl w){i:Yk}{c1 c2:C}(An:bl i=Yd (.cells F.t [c1,c2]))(hs:Sy c1 i=Yo){u:Yp}(hu:VRep (Ak ok0 base pl bl w) (.c (.ptr i 0)) u):∃g p v,u=.pointer (Yd ⟨g,0,Ye⟩)/\pl i=Yd (.cells g)/\w.heap[g]?=Yd (.cells #[p,v] F.t (0,0))/\(p=.pointer Ye\/p=.pointer (Yd ⟨g,0,Ye⟩))/\CRep (Ak ok0 base pl bl w) c2 v:=by
 obtain⟨g,AB,rfl⟩:=hu;have AB:pl i=Yd (.cells g):=AB;obtain⟨q,hq,hB⟩:=hr.blks i _ An;rw[AB]at hq;injection hq with hq;subst hq;obtain⟨vs,hh,v1,vs1,rfl,El,v2,vs2,rfl,FR,hn⟩:=hB;have hn:vs2=[]:=hn;subst hn;refine⟨g,v1,v2,rfl,AB,hh,?_,FR⟩;cases c1<;>simp only[Sy]at hs<;>try(cases hs;done)
 ·exact .inl El
 ·rename_i b
  have:=At hs;subst this;rcases El with h|⟨g',BB,h⟩
  ·exact .inl h
  ·have BB:pl b=Yd (.cells g'):=BB
   rw[AB]at BB;injection BB with BB;injection BB with BB;subst BB;exact .inr h
theorem gI{F:BldF}{ok0:OK0 P}{base:Yk}{pl:Yk->Yb Pl}{bl:Yk->Yb Blk}{w:Yx}(hr:RelB ok0 base pl bl w){i j ver g:Yk}{B:Blk}(C9:bl i=Yd B)(wW:B.live=Yo)(AB:pl i=Yd (.cells g)){l:Ya Yi}(Ix:bl j=Yd (.row F.te (.int .u8) ver l)){v:Yp}(hv:CRep (Ak ok0 base pl bl w) (.row j ver) v)(Du:i≠j):pl j=Yd (.row v [])/\w.ownsRow base F.te 1 v l.length (l.map (Yag .u8))/\v.ownBlock≠Yd g:=by
 obtain⟨_,sv,Ab,Au,AO⟩:=hv;have hv:=(AO F.te (.int .u8) ver l Ix).2 rfl;subst hv;have Au:pl j=Yd (.row v Ab):=Au;obtain⟨q,hq,hB⟩:=hr.blks j _ Ix;rw[Au]at hq;injection hq with hq;subst hq;obtain⟨rfl,xs,hd,Ah⟩:=hB;rw[SI.1 hd]at Ah;refine⟨Au,Ah,λh=>?_⟩;exact hr.sep i j _ _ _ _ g Du C9 Ix wW rfl AB Au rfl (.inl h)
theorem Step.still{pl:Yk->Yb Pl}{bl:Yk->Yb Blk}{w w':Yx}(hg:w.grownBy w' Ye):Step pl bl w pl bl w':=
 ⟨hg.os,hg.tape,hg.output,hg.size,λg Ae ho=>⟨hg.block g Ae (by simp),ho⟩,λ_ _ h=>h,λ_ sv Ab h=>⟨sv,Ab,h,KeepR.refl _ _ _⟩⟩
theorem RelB.still{ok0:OK0 P}{base:Yk}{pl:Yk->Yb Pl}{bl:Yk->Yb Blk}{w w':Yx}(hr:RelB ok0 base pl bl w)(hg:w.grownBy w' Ye):RelB ok0 base pl bl w':=by
 have hs:Step pl bl w pl bl w':=Step.still hg;refine⟨BH hr.baseLe hs.size,λi B hB=>?_,hr.sep,hr.fresh,hr.glob.out hs.size hs.out⟩;obtain⟨p,hp,hR⟩:=hr.blks i B hB;refine⟨p,hp,?_⟩;cases hl:B.live with
 |false=>cases B<;>first|exact trivial|simp[Blk.live]at hl
 |true=>exact BRep.mono hs.ext hR λg hq=>hg.block g (Own.lt hr ⟨i,B,p,hB,hl,hp,hq⟩) (by simp)
theorem Aax{α:Type}{f:Yk->Yb α}{i j:Yk}(Du:i≠j)(x y z:α):upd (upd (upd f i x) j y) i z=upd (upd f j y) i z:=by
 funext k;simp only[upd];by_cases h1:k=i
 ·simp[h1]
 ·by_cases h2:k=j
  ·simp[h1,h2]
  ·simp[h1,h2]
theorem Anm(s:Ya Yl):(Im s).length=s.length:=by simp[Im]
theorem Ann{E:Env}(s:Ya Yl):VRep E (wrote s) (.tuple #[.int .i64 (s.length:Yi),.nilIface]):=
 ⟨[.int .i64 (s.length:Yi),.nilIface],rfl,_,_,rfl,⟨[.int .i64 (s.length:Yi)],⟨_,_,rfl,rfl,rfl⟩,rfl⟩,_,_,rfl,⟨[.nilIface],⟨_,_,rfl,rfl,rfl⟩,rfl⟩,rfl⟩
theorem gJ{w:Yx}{base:Yk}{t:Yq}{size:Yk}{v:Yp}{n:Yk}{xs:Ya Yp}(h:w.ownsRow base t size v n xs):v.oneCell'=Yo:=by rcases h.2 with⟨h,_⟩|⟨g,cap,AI,h,_⟩<;>rw[h]<;>rfl
theorem Aay{F:BldF}{f:Y6}(B9:∃fn,P.funcs[f]?=Yd fn/\(fn.name== "runtime.NumGoroutine")=Yc/\fn.body.isNone=Yc){kk:K β}{nx i m:Yk}{bs:Ya Yi}{x:C}{xv rv:Yp}{res:V}(hm:bs.length=m)(hx:∀E u,CRep E x u->u=xv)(H5:∀E,VRep E res rv)(UC:∀(w:Yx)(base b:Yk)(p v:Yp)(l:Ya Yi),base<=w.heap.size->w.heap[b]?=Yd (.cells #[p,v] F.t (0,0))->(p=.pointer Ye\/p=.pointer (Yd ⟨b,0,Ye⟩))->w.ownsRow base F.te 1 v l.length (l.map (Yag .u8))->v.ownBlock≠Yd b->l.length+m<=140737488355328->Yat P f #[.pointer (Yd ⟨b,0,Ye⟩),xv] w λe w'=>e=.returned rv/\∃w1 w2 v',w.grownBy w1 (Yd b)/\w1.heap[b]?=Yd (.cells #[.pointer (Yd ⟨b,0,Ye⟩),v] F.t (0,0))/\w1.grownBy w2 v.ownBlock/\(v'.ownBlock=v.ownBlock\/∀g,v'.ownBlock=Yd g->w1.heap.size<=g)/\w2.ownsRow base F.te 1 v' (l.length+m) ((l++bs).map (Yag .u8))/\w2.grownBy w' (Yd b)/\w'.heap[b]?=Yd (.cells #[.pointer (Yd ⟨b,0,Ye⟩),v'] F.t (0,0)))(hk:Wt F bl nx i m bs res kk=Yd r)(EA:∀(bl2:Yk->Yb Blk)(ok0:OK0 P)(base:Yk)(pl:Yk->Yb Pl)(w:Yx)(a:Act),RelB ok0 base pl bl2 w->(∀x∈o.op.operands,VRep (Ak ok0 base pl bl2 w) (ρ x) (a.eval x))->∃us,VReps (Ak ok0 base pl bl2 w) [.c (.ptr i 0),.c x] us/\((∃fn,P.funcs[f]?=Yd fn/\(fn.name== "runtime.NumGoroutine")=Yc/\fn.body.isNone=Yc)->(Y1 a.eval o).run P w=.ok (.enter f us.toArray) w)):Sound P o ρ bl kk r:=by
 unfold Wt at hk;split at hk
 ·rename_i l0 hb
  obtain⟨GF,hk⟩:=Dc hk;obtain⟨AK,hk⟩:=Dc hk;have AK:=AC AK;obtain⟨c1,c2,An,KS,hq⟩:=Qp hb
  obtain⟨rfl,rfl⟩:l0=[]/\c2=.nils:=by
   rcases hq with⟨_,h1,h2⟩|⟨j,ver,hq,_⟩
   ·exact⟨h1,h2⟩
   ·cases hq
  refine⟨_,_,_,hk,λbl2 Aj=>?_⟩;have BN:bl2 i=Yd (.cells F.t [c1,.nils]):=(Aj i (by simp)).trans An
  have xB:bl2 nx=Ye:=by
   rw[Aj nx (by simp)];unfold zN at GF;split at GF
   ·assumption
   ·cases GF
  have Az:i≠nx:=by rintro rfl;rw[BN]at xB;cases xB
  intro ok0 base pl w a hr Ad K Q hK;obtain⟨us,AN,AE⟩:=EA bl2 ok0 base pl w a hr Ad;have AE:=AE B9;obtain⟨u,us1,rfl,hu,u2,us2,rfl,AP,C6⟩:=AN;have C6:us2=[]:=C6;have AP:u2=xv:=hx _ _ AP;subst C6 AP;obtain⟨g,p,v,rfl,AB,Jc,hp,hv⟩:=Qq hr BN KS hu;have hv:v=.slice Ye 0 0:=hv;subst hv;have B8:=UC w base g p (.slice Ye 0 0) [] hr.baseLe Jc hp (YM _ _ _ _) (by simp[Yae]) (by simpa using AK);unfold Yan;rw[AE];simp only[Yaa];refine B8.mono λe w' ⟨he,w1,w2,v',Fm,Ep,Gt,Cq,CH,OX,wN⟩=>?_;subst he;simp only
  have Vl:w2.ownsRow base F.te (Ty.size (.int .u8)) v' bs.length (bs.map (Yag .u8)):=by have h:=CH;simp only[BP,CQ,DT]at h;rw[hm];exact h
  have AEH:∀g,v'.ownBlock=Yd g->w1.heap.size<=g:=λg hg=>by
   rcases Cq with h|h
   ·rw[h]at hg;cases hg
   ·exact h g hg
  have s1:=Step.wrote (cs':=[.bself i,.nils]) hr BN AB Fm;have r1:=RelB.wrote (cs':=[.bself i,.nils]) hr BN AB Fm ⟨_,Ep,_,_,rfl,.inr ⟨g,by simp[Ak,upd],rfl⟩,_,_,rfl,rfl,rfl⟩;have AlC:upd bl2 i (.cells F.t [.bself i,.nils]) nx=Ye:=by simp[upd,Ne.symm Az,xB]
  have Gt:w1.grownBy w2 Ye:=Gt;have ND:∀g,(Pl.row v' []).has g->w1.heap.size<=g:=λg hg=>AEH g (Pl.has_row hg);have s2:=Step.new (B:=.row F.te (.int .u8) 0 bs) r1 AlC Gt ND;have r2:=RelB.new (B:=.row F.te (.int .u8) 0 bs) r1 AlC Gt ND ⟨rfl,_,SI.2 rfl,Vl⟩;have UV:upd (upd bl2 i (.cells F.t [.bself i,.nils])) nx (.row F.te (.int .u8) 0 bs) i=Yd (.cells F.t [.bself i,.nils]):=by simp[upd,Az]
  have De:upd (upd pl i (.cells g)) nx (.row v' []) i=Yd (.cells g):=by simp[upd,Az]
  have s3:=Step.wrote (cs':=[.bself i,.row nx 0]) r2 UV De OX
  have r3:=RelB.wrote (cs':=[.bself i,.row nx 0]) r2 UV De OX ⟨_,wN,_,_,rfl,.inr ⟨g,by simp[Ak,upd],rfl⟩,_,_,rfl,⟨gJ CH,v',[],by simp[Ak,upd,Ne.symm Az],λt e ver' l' h=>by simp[Ak,upd,Ne.symm Az]at h;exact⟨BD _,λ_=>rfl⟩⟩,rfl⟩
  have s4:=(s1.trans s2).trans s3;simp only[Aax Az]at r3 s4;exact hK _ _ _ r3 s4 (H5 _)
 ·rename_i j ver l hb
  obtain⟨AK,hk⟩:=Dc hk;have AK:=AC AK;obtain⟨c1,c2,An,KS,hq⟩:=Qp hb;rcases hq with⟨hq,_⟩|⟨j',ver',hq,rfl,Ix⟩
  ·cases hq
  simp only[Af,Bv]at hq;obtain⟨rfl,rfl⟩:=hq;refine⟨_,_,_,hk,λbl2 Aj=>?_⟩;have BN:bl2 i=Yd (.cells F.t [c1,.row j ver]):=(Aj i (by simp)).trans An;have Hu:bl2 j=Yd (.row F.te (.int .u8) ver l):=(Aj j (by simp)).trans Ix;have Az:i≠j:=by rintro rfl;rw[BN]at Hu;cases Hu
  intro ok0 base pl w a hr Ad K Q hK;obtain⟨us,AN,AE⟩:=EA bl2 ok0 base pl w a hr Ad;have AE:=AE B9;obtain⟨u,us1,rfl,hu,u2,us2,rfl,AP,C6⟩:=AN;have C6:us2=[]:=C6;have AP:u2=xv:=hx _ _ AP;subst C6 AP;obtain⟨g,p,v,rfl,AB,Jc,hp,hv⟩:=Qq hr BN KS hu;obtain⟨Dw,Ah,Vh⟩:=gI (F:=F) hr BN rfl AB Hu hv Az;have B8:=UC w base g p v l hr.baseLe Jc hp Ah Vh AK;unfold Yan;rw[AE];simp only[Yaa];refine B8.mono λe w' ⟨he,w1,w2,v',Fm,Ep,Gt,Cq,CH,OX,wN⟩=>?_;subst he;simp only
  have Vl:w2.ownsRow base F.te (Ty.size (.int .u8)) v' (l++bs).length ((l++bs).map (Yag .u8)):=by rw[Bd,hm];exact CH
  have xG:upd pl i (.cells g) j=Yd (.row v []):=by simp[upd,Ne.symm Az,Dw]
  have w5:upd bl2 i (.cells F.t [.bself i,.row j ver]) j=Yd (.row F.te (.int .u8) ver l):=by simp[upd,Ne.symm Az,Hu]
  have s1:=Step.wrote (cs':=[.bself i,.row j ver]) hr BN AB Fm
  have r1:=RelB.wrote (cs':=[.bself i,.row j ver]) hr BN AB Fm ⟨_,Ep,_,_,rfl,.inr ⟨g,by simp[Ak,upd],rfl⟩,_,_,rfl,⟨gJ Ah,v,[],by simp[Ak,xG],λt e ver' l' h=>by have h:upd bl2 i (.cells F.t [.bself i,.row j ver]) j=Yd (.row t e ver' l'):=h;rw[w5]at h;injection h with h;injection h with h1 h2 h3 h4;exact⟨LN h3,λ_=>rfl⟩⟩,rfl⟩
  have AQ:ver<=ver+1/\(ver=ver+1->v'=v/\(l++bs).length=l.length):=⟨PN _,λh=>by omega⟩;have s2:=Step.grown (e:=.int .u8) (l':=l++bs) r1 w5 xG Gt Cq AQ;have r2:=RelB.grown (e:=.int .u8) (l':=l++bs) r1 w5 xG Gt Cq AQ ⟨rfl,_,SI.2 rfl,Vl⟩;have UV:upd (upd bl2 i (.cells F.t [.bself i,.row j ver])) j (.row F.te (.int .u8) (ver+1) (l++bs)) i=Yd (.cells F.t [.bself i,.row j ver]):=by simp[upd,Az]
  have De:upd (upd pl i (.cells g)) j (.row v' []) i=Yd (.cells g):=by simp[upd,Az]
  have s3:=Step.wrote (cs':=[.bself i,.row j (ver+1)]) r2 UV De OX
  have r3:=RelB.wrote (cs':=[.bself i,.row j (ver+1)]) r2 UV De OX ⟨_,wN,_,_,rfl,.inr ⟨g,by simp[Ak,upd],rfl⟩,_,_,rfl,⟨gJ CH,v',[],by simp[Ak,upd,Ne.symm Az],λt e ver' l' h=>by simp[Ak,upd,Ne.symm Az]at h;exact⟨by omega,λ_=>rfl⟩⟩,rfl⟩
  have s4:=(s1.trans s2).trans s3;simp only[Aax Az]at r3 s4;exact hK _ _ _ r3 s4 (H5 _)
 ·cases hk
theorem Ano{F:BldF}{f:Y6}(hF:BldOk P f F){kk:K β}{nx:Yk}{args:Ya V}(hk:eX F bl nx args kk=Yd r)(EA:∀(bl2:Yk->Yb Blk)(ok0:OK0 P)(base:Yk)(pl:Yk->Yb Pl)(w:Yx)(a:Act),RelB ok0 base pl bl2 w->(∀x∈o.op.operands,VRep (Ak ok0 base pl bl2 w) (ρ x) (a.eval x))->∃us,VReps (Ak ok0 base pl bl2 w) args us/\((∃fn,P.funcs[f]?=Yd fn/\(fn.name== "runtime.NumGoroutine")=Yc/\fn.body.isNone=Yc)->(Y1 a.eval o).run P w=.ok (.enter f us.toArray) w)):Sound P o ρ bl kk r:=by
 unfold eX at hk;split at hk
 ·
  rename_i i s hn
  exact Aay (x:=.str s) (xv:=.string ⟨s.toArray⟩) (res:=wrote s) hF.fn (Anm s) (λ_ _ h=>h) (λ_=>Ann s) (λw base b p v l h1 h2 h3 h4 h5 h6=>by have:=hF.ok (by rw[hn];decide) w base b p v l h1 h2 h3 h4 h5;rw[hn]at this;exact this s h6) hk EA
 ·
  rename_i i hn;split at hk
  ·rename_i l0 hb
   obtain⟨c1,c2,An,KS,hq⟩:=Qp hb
   obtain⟨rfl,rfl⟩:l0=[]/\c2=.nils:=by
    rcases hq with⟨_,h1,h2⟩|⟨j,ver,hq,_⟩
    ·exact⟨h1,h2⟩
    ·cases hq
   refine⟨_,_,_,hk,λbl2 Aj=>?_⟩;have BN:bl2 i=Yd (.cells F.t [c1,.nils]):=(Aj i (by simp)).trans An;intro ok0 base pl w a hr Ad K Q hK;obtain⟨us,AN,AE⟩:=EA bl2 ok0 base pl w a hr Ad;have AE:=AE hF.fn;obtain⟨u,us1,rfl,hu,C6⟩:=AN;have C6:us1=[]:=C6;subst C6;obtain⟨g,p,v,rfl,AB,Jc,hp,hv⟩:=Qq hr BN KS hu;have hv:v=.slice Ye 0 0:=hv;subst hv;have F9:=hF.ok (by rw[hn];decide) w base g p (.slice Ye 0 0) [] hr.baseLe Jc hp (YM _ _ _ _) (by simp[Yae]);rw[hn]at F9;have B8:=F9 rfl;unfold Yan;rw[AE];simp only[Yaa];refine B8.mono λe w' ⟨he,hg⟩=>?_;subst he;simp only;exact hK _ _ _ (hr.still hg) (Step.still hg) rfl
  ·rename_i j ver l hb
   obtain⟨DX,hk⟩:=Dc hk;obtain⟨c1,c2,An,KS,hq⟩:=Qp hb;rcases hq with⟨hq,_⟩|⟨j',ver',hq,rfl,Ix⟩
   ·cases hq
   simp only[Af,Bv]at hq;obtain⟨rfl,rfl⟩:=hq;refine⟨_,_,_,hk,λbl2 Aj=>?_⟩;have BN:bl2 i=Yd (.cells F.t [c1,.row j ver]):=(Aj i (by simp)).trans An;have Hu:bl2 j=Yd (.row F.te (.int .u8) ver l):=(Aj j (by simp)).trans Ix;have Az:i≠j:=by rintro rfl;rw[BN]at Hu;cases Hu
   intro ok0 base pl w a hr Ad K Q hK;obtain⟨us,AN,AE⟩:=EA bl2 ok0 base pl w a hr Ad;have AE:=AE hF.fn;obtain⟨u,us1,rfl,hu,C6⟩:=AN;have C6:us1=[]:=C6;subst C6;obtain⟨g,p,v,rfl,AB,Jc,hp,hv⟩:=Qq hr BN KS hu;obtain⟨Dw,Ah,Vh⟩:=gI (F:=F) hr BN rfl AB Hu hv Az;have F9:=hF.ok (by rw[hn];decide) w base g p v l hr.baseLe Jc hp Ah Vh;rw[hn]at F9;have B8:=F9 DX;unfold Yan;rw[AE];simp only[Yaa];refine B8.mono λe w' ⟨he,hg⟩=>?_;subst he;simp only;have KK:KeepR (Yd (.row F.te (.int .u8) ver l)) (Yd .dead) v [] v []:=⟨λ_ _ _ _ h=>(by cases h),λ_ _ _ _ _ _ _ h=>(by cases h),λ_ _ _ _ _ _ h=>(by cases h),λ_ _ _ _ h=>(by cases h)⟩;have hs:=Step.grownP (B':=.dead) hr Hu rfl Dw hg (λg h=>.inl h) (λg h=>.inl h) KK;exact hK _ _ _ (RelB.grownP (B':=.dead) hr Hu rfl Dw hg (λg h=>.inl h) (λg h=>.inl h) KK trivial) hs rfl
  ·cases hk
 ·
  rename_i i hn;split at hk
  ·rename_i l0 hb
   obtain⟨c1,c2,An,KS,hq⟩:=Qp hb
   obtain⟨rfl,rfl⟩:l0=[]/\c2=.nils:=by
    rcases hq with⟨_,h1,h2⟩|⟨j,ver,hq,_⟩
    ·exact⟨h1,h2⟩
    ·cases hq
   refine⟨_,_,_,hk,λbl2 Aj=>?_⟩;have BN:bl2 i=Yd (.cells F.t [c1,.nils]):=(Aj i (by simp)).trans An;intro ok0 base pl w a hr Ad K Q hK;obtain⟨us,AN,AE⟩:=EA bl2 ok0 base pl w a hr Ad;have AE:=AE hF.fn;obtain⟨u,us1,rfl,hu,C6⟩:=AN;have C6:us1=[]:=C6;subst C6;obtain⟨g,p,v,rfl,AB,Jc,hp,hv⟩:=Qq hr BN KS hu;have hv:v=.slice Ye 0 0:=hv;subst hv;have F9:=hF.ok (by rw[hn];decide) w base g p (.slice Ye 0 0) [] hr.baseLe Jc hp (YM _ _ _ _) (by simp[Yae]);rw[hn]at F9;have B8:=F9;unfold Yan;rw[AE];simp only[Yaa];refine B8.mono λe w' ⟨he,hg⟩=>?_;subst he;simp only;exact hK _ _ _ (hr.still hg) (Step.still hg) rfl
  ·rename_i j ver l hb
   obtain⟨c1,c2,An,KS,hq⟩:=Qp hb;rcases hq with⟨hq,_⟩|⟨j',ver',hq,rfl,Ix⟩
   ·cases hq
   simp only[Af,Bv]at hq;obtain⟨rfl,rfl⟩:=hq;refine⟨_,_,_,hk,λbl2 Aj=>?_⟩;have BN:bl2 i=Yd (.cells F.t [c1,.row j ver]):=(Aj i (by simp)).trans An;have Hu:bl2 j=Yd (.row F.te (.int .u8) ver l):=(Aj j (by simp)).trans Ix;have Az:i≠j:=by rintro rfl;rw[BN]at Hu;cases Hu
   intro ok0 base pl w a hr Ad K Q hK;obtain⟨us,AN,AE⟩:=EA bl2 ok0 base pl w a hr Ad;have AE:=AE hF.fn;obtain⟨u,us1,rfl,hu,C6⟩:=AN;have C6:us1=[]:=C6;subst C6;obtain⟨g,p,v,rfl,AB,Jc,hp,hv⟩:=Qq hr BN KS hu;obtain⟨Dw,Ah,Vh⟩:=gI (F:=F) hr BN rfl AB Hu hv Az;have F9:=hF.ok (by rw[hn];decide) w base g p v l hr.baseLe Jc hp Ah Vh;rw[hn]at F9;have B8:=F9;unfold Yan;rw[AE];simp only[Yaa];refine B8.mono λe w' ⟨he,hg⟩=>?_;subst he;simp only;exact hK _ _ _ (hr.still hg) (Step.still hg) rfl
  ·cases hk
 ·
  rename_i s hn;refine⟨_,_,_,hk,λbl2 Aj=>?_⟩;intro ok0 base pl w a hr Ad K Q hK;obtain⟨us,AN,AE⟩:=EA bl2 ok0 base pl w a hr Ad;have AE:=AE hF.fn;obtain⟨u,us1,rfl,hu,u2,us2,rfl,AP,C6⟩:=AN;have C6:us2=[]:=C6;have AP:u2=.string ⟨s.toArray⟩:=AP;have hu:u=.slice Ye 0 0:=hu;subst C6 AP hu;have B8:=hF.join hn w base (.slice Ye 0 0) [] s (YM _ _ _ _) (by simp) (by rw[Lib.join_nil];simp);unfold Yan;rw[AE];simp only[Yaa];refine B8.mono λe w' ⟨he,hg⟩=>?_;subst he;simp only;exact hK _ _ _ (hr.still hg) (Step.still hg) rfl
 ·
  rename_i j ver s hn;split at hk
  ·rename_i t ver' l Ix
   cases hc:(Ym t F.t&&Ym ver ver')with
   |false=>rw[hc]at hk;cases hk
   |true=>simp only[hc,Ao]at hk;obtain⟨h1,h2⟩:=andB hc;have h1:=At h1;have h2:=At h2;subst h1 h2;obtain⟨AK,hk⟩:=Dc hk;obtain⟨d1,d2⟩:=andB AK;have d1:=AC d1;have d2:=AC d2;refine⟨_,_,_,hk,λbl2 Aj=>?_⟩;have Hu:bl2 j=Yd (.row F.t .str ver l):=(Aj j (by simp)).trans Ix;intro ok0 base pl w a hr Ad K Q hK;obtain⟨us,AN,AE⟩:=EA bl2 ok0 base pl w a hr Ad;have AE:=AE hF.fn;obtain⟨u,us1,rfl,hu,u2,us2,rfl,AP,C6⟩:=AN;have C6:us2=[]:=C6;have AP:u2=.string ⟨s.toArray⟩:=AP;subst C6 AP;obtain⟨_,sv,Ab,Au,AO⟩:=hu;have hv:=(AO F.t .str ver l Hu).2 rfl;subst hv;have Au:pl j=Yd (.row u Ab):=Au;obtain⟨q,hq,hB⟩:=hr.blks j _ Hu;rw[Au]at hq;injection hq with hq;subst hq;obtain⟨rfl,xs,hd,Ah⟩:=hB;rw[gH.1 hd]at Ah;have B8:=hF.join hn w base u l s Ah d1 d2;unfold Yan;rw[AE];simp only[Yaa];refine B8.mono λe w' ⟨he,hg⟩=>?_;subst he;simp only;exact hK _ _ _ (hr.still hg) (Step.still hg) rfl
  ·cases hk
 ·
  rename_i i n hn
  exact Aay (x:=.int .u8 n) (xv:=.int .u8 n) (rv:=.nilIface) (res:=.c (.err Yo)) hF.fn rfl (λ_ _ h=>h) (λ_=>rfl) (λw base b p v l h1 h2 h3 h4 h5 h6=>by have:=hF.ok (by rw[hn];decide) w base b p v l h1 h2 h3 h4 h5;rw[hn]at this;exact this n h6) hk EA
 ·cases hk
theorem SJ{bl:Yk->Yb Blk}{i:Yk}{B:Blk}(h:Ld bl i=Yd B):bl i=Yd B:=by
 unfold Ld at h;split at h
 ·cases h
 ·exact h
theorem Anp{bl:Yk->Yb Blk}{i:Yk}{t et:Yq}{e:Ty}{ver Am:Yk}{hole:Yb Yk}{l:Ya (Ya e.den)}:Ld bl i≠Yd (.mat t et e ver Am hole l):=by intro h;have h2:=SJ h;unfold Ld at h;rw[h2]at h;cases h
theorem Aaz{bl:Yk->Yb Blk}:∀{is:Ya Yk},JM (Ld bl) is=JM bl is
 |[]=>rfl
 |i::is=>by
  simp only[JM,Aaz (is:=is)];unfold Ld;cases h:bl i with
  |none=>rfl
  |some B=>cases B<;>rfl
theorem AaA{S:Spec}{ids:Ya Yk}:∀{as:Ya Yk},S0 S ids as=Yo->(∀b∈as,(ST.flat S.res&&BT.flat S.outs)=Yo)/\∀b∈as,b∉ids
 |[],_=>⟨λ_ h=>by simp at h,λ_ h=>by simp at h⟩
 |b::r,h=>by
  obtain⟨h1,h2⟩:=andB (show((ST.flat S.res&&BT.flat S.outs)&&(!memB b ids&&S0 S ids r))=Yo from h);obtain⟨h2,h3⟩:=andB h2;obtain⟨q1,q2⟩:=AaA h3
  have DV:b∉ids:=λhm=>by rw[HE.2 hm]at h2;cases h2
  refine⟨λc hc=>?_,λc hc=>?_⟩
  ·rcases Bg.1 hc with rfl|hc
   ·exact h1
   ·exact q1 c hc
  ·rcases Bg.1 hc with rfl|hc
   ·exact DV
   ·exact q2 c hc
theorem CReps.cut2{E:Env}:∀{n:Yk}{cs:Ya C}{vs:Ya Yp},CReps E cs vs->CReps E (cs.take n) (vs.take n)/\CReps E (cs.drop n) (vs.drop n)
 |0,_,_,h=>⟨by simp[CReps],by simpa using h⟩
 |_+1,[],_,h=>by simp only[CReps]at h;subst h;simp[CReps]
 |n+1,_::_,_,⟨v,Av,e,h,ht⟩=>by subst e;obtain⟨h1,h2⟩:=CReps.cut2 (n:=n) ht;exact⟨⟨v,_,by simp,h,h1⟩,by simpa using h2⟩
theorem CReps.app{E:Env}:∀{cs ds:Ya C}{vs us:Ya Yp},CReps E cs vs->CReps E ds us->CReps E (cs++ds) (vs++us)
 |[],_,_,_,h,k=>by simp only[CReps]at h;subst h;simpa using k
 |_::_,_,_,_,⟨v,Av,e,h,ht⟩,k=>⟨v,Av++_,by rw[e];rfl,h,CReps.app ht k⟩
theorem gK{E:Env}:∀(l:Ya CT){cs:Ya C}{vs:Ya Yp},CReps E cs vs->CReps E (MQ l cs) vs
 |[],_,_,h=>by simpa [MQ]using h
 |t::l,cs,vs,h=>by
  have key:(∃τ,t=.data τ)\/(∀τ,t≠.data τ):=by cases t<;>simp
  rcases key with⟨τ,rfl⟩|hn
  ·simp only[MQ]
   obtain⟨h1,h2⟩:=CReps.cut2 (n:=τ.size) h;have:=CReps.app h1 (gK l h2)
   rwa [NR]at this
  ·cases cs with
   |nil=>cases t<;>first|exact Yw rfl (hn _)|simpa [MQ]using h
   |cons c cs=>
    obtain⟨v,Av,e,h1,h2⟩:=h;have ih:=gK l h2;cases t with
    |data τ=>exact Yw rfl (hn τ)
    |junk=>exact⟨v,Av,e,CRep.oneCell h1,ih⟩
    |_=>exact⟨v,Av,e,h1,ih⟩
theorem AaB{E:Env}:∀{ts:Ya (Ys×Ya CT)}{vs:Ya V}{us:Ya Yp},VReps E vs us->VReps E (S1 ts vs) us
 |[],_,_,h=>by simpa [S1]using h
 |_::_,[],_,h=>by simpa [S1]using h
 |t::ts,v::vs,_,⟨u,Cf,e,h1,h2⟩=>by
  refine⟨u,Cf,e,?_,AaB h2⟩;cases v with
  |agg cs=>obtain⟨ws,h3,h4⟩:=h1;exact⟨ws,gK _ h3,h4⟩
  |_=>exact h1
theorem Anq{ok0:OK0 P}{base:Yk}{pl:Yk->Yb Pl}{bl bl2:Yk->Yb Blk}{w:Yx}(hr:RelB ok0 base pl bl2 w){S:Spec}{args bI:Ya V}{as:Ya Yk}{us:Ya Yp}(vX:∀i∈as,bl2 i=bl i)(has:LQ args=as)(vW:PZ S bl args=bI)(AN:VReps (Ak ok0 base pl bl2 w) args us):∃E:Env,E.w=w/\E.bl=bl2/\E.pl=pl/\(∀g,E.ok g->((ok0 g\/(base<=g/\¬ok0.no g))/\¬Own pl bl2 g)\/∃b∈as,∃t cs,bl2 b=Yd (.cells t cs)/\pl b=Yd (.cells g))/\Eg E/\VReps E bI us:=by
 let E0:=Ak ok0 base pl bl2 w
 let E:Env:={E0 with ok:=λg=>E0.ok g\/∃b∈as,∃t cs,bl2 b=Yd (.cells t cs)/\pl b=Yd (.cells g)}
 have hx:Ext E0 E:=⟨Aw _,λg h _=>⟨.inl h,rfl⟩,λ_ _ h=>h,λ_ sv Ab h=>⟨sv,Ab,h,KeepR.refl _ _ _⟩⟩;refine⟨E,rfl,rfl,rfl,λg h=>h,λi B hB=>?_,?_⟩
 ·obtain⟨p,hp,hB2⟩:=hr.blks i B hB
  exact⟨p,hp,BRep.mono hx hB2 λ_ _=>rfl⟩
 ·subst vW
  refine AaB ?_;have Co:∀b∈LQ args,b∈as:=λb hb=>by rw[<-has];exact hb
  clear has
  induction args generalizing us with
  |nil=>exact AN
  |cons v vs ih=>
   obtain⟨u,Cf,e,hv,ht⟩:=AN;refine⟨u,Cf,e,?_,ih ht λb hb=>Co b (by cases v<;>simp[LQ,hb])⟩;by_cases hl:∃b o e n,v=.arr b o e n
   ·obtain⟨b,o,ty,n,rfl⟩:=hl
    have hb:b∈as:=Co b (by simp[LQ]);obtain⟨g,hg,hv⟩:=hv;show VRep E (PY bl (.arr b o ty n)) u;simp only[PY]
    ·split
     ·rename_i t cs An
      split
      ·rename_i ds F4
       split
       ·rename_i l hl
        cases hc:(YB n 4096&&Yz 0 ty.size)with
        |false=>exact trivial
        |true=>
         obtain⟨hn,_⟩:=andB hc;have hn:n<=4096:=IC hn;have Aj:bl2 b=Yd (.cells t cs):=(vX b hb).trans An;obtain⟨p,hp,hB⟩:=hr.blks b _ Aj
         have C7:p=.cells g:=by have h2:pl b=Yd (.cells g):=hg;rw[hp]at h2;injection h2
         subst C7;obtain⟨vals,hh,Bn⟩:=hB;obtain⟨s1,_,_⟩:=LV Bn F4;obtain⟨hd,AK⟩:=WD hr.blksOk (Rows.none _ _) s1 hl;show DRep w E.ok (.slice ty) l [u];simp only[DRep];refine⟨Yd ⟨g,o,Ye⟩,n,_,by rw[hv,AK],by omega,BH hn (by decide),hd.mono λx us hu=>hu.mono λg h _=>⟨.inl h,rfl⟩,λj v hj=>⟨_,rfl,.inr ⟨b,hb,t,cs,Aj,hp⟩,SB hh hj⟩⟩
       ·exact trivial
      ·exact trivial
     ·exact trivial
   ·have:PY bl v=v:=by
     unfold PY;split
     ·rename_i b o e n
      exact Yw ⟨b,o,e,n,rfl⟩ hl
     ·rfl
    show VRep E (PY bl v) u;rw[this];exact VRep.mono hx hv
theorem AaC{X:Ctx}(hΓ:ΓOk P X.Γ){kk:K β}{nx:Yk}{f:Y6}{args:Ya V}(hk:S2 X bl nx f args kk=Yd r)(EA:∀(bl2:Yk->Yb Blk)(ok0:OK0 P)(base:Yk)(pl:Yk->Yb Pl)(w:Yx)(a:Act),RelB ok0 base pl bl2 w->(∀x∈o.op.operands,VRep (Ak ok0 base pl bl2 w) (ρ x) (a.eval x))->∃us,VReps (Ak ok0 base pl bl2 w) args us/\((∃fn,P.funcs[f]?=Yd fn/\(fn.name== "runtime.NumGoroutine")=Yc/\fn.body.isNone=Yc)->(Y1 a.eval o).run P w=.ok (.enter f us.toArray) w)):Sound P o ρ bl kk r:=by
 unfold S2 at hk;split at hk
 ·cases hk
 ·rename_i F hF
  exact Anl (hΓ.rows f F hF) hk EA
 ·rename_i F hF
  exact Ano (hΓ.bld f F hF) hk EA
 ·rename_i A hA
  obtain⟨v,rd,wr,hk,BS⟩:=(hΓ.abs f A hA).ok _ _ _ _ _ hk;refine⟨v,rd,wr,hk,λbl2 Aj ok0 base pl w a hr Ad K Q hK=>?_⟩;obtain⟨us,AN,AE⟩:=EA bl2 ok0 base pl w a hr Ad;unfold Yan;rw[AE (hΓ.abs f A hA).fn];simp only[Yaa];refine(BS bl2 Aj ok0 base pl w us hr AN).mono λe w' F9=>?_;obtain⟨u,Ac,rfl,h1,h2,h3⟩:=F9;exact hK u Ac w' h1 h2 h3
 rename_i S hS;have AlR:=hΓ.spec f S hS;split at hk
 ·cases hk
 rename_i ids L3;have AK:=Aaw L3;split at hk
 ·rename_i x y hx hy
  generalize vW:PZ S bl args=bI at hk hx L3;generalize has:LQ args=as at hk;generalize AlL:Ct bI++JM bl ids=rds at hk;generalize I1:AD nx (S.outs.length-S.ins.length)=new at hk;generalize bV:PX S bl rds=kills at hk;cases hc:(eU S bl ids new&&S0 S ids as)with
  |false=>rw[hc]at hk;cases hk
  |true=>
   simp only[hc,Ao]at hk;obtain⟨hc,bW⟩:=andB hc;unfold eU at hc;have bW:=AaA bW;obtain⟨c1,hc⟩:=andB hc;obtain⟨c3,hc⟩:=andB hc;obtain⟨c4,hc⟩:=andB hc;obtain⟨c5,c6⟩:=andB hc;have c1:=Qn c1;have c4:=IC c4;have c3:=g9 c3;obtain⟨z,hz,B8⟩:=AlR.ok (x,y) _ r hk;refine⟨_,_,_,hz,λbl2 Aj=>?_⟩;have UX:∀i∈ids,bl2 i=bl i:=λi hi=>Aj i (by simp[hi]);have cD:∀i∈rds,bl2 i=bl i:=λi hi=>Aj i (by simp[hi]);have vX:∀i∈as,bl2 i=bl i:=λi hi=>Aj i (by simp[hi]);have x7:∀i∈new,bl2 i=Ye:=λi hi=>(Aj i (by simp[hi])).trans (c3 i hi);intro ok0 base pl w a hr Ad K Q hK
   have Pi:∀p∈kills,p.2=Blk.dead/\p.1∈rds/\∃B,bl2 p.1=Yd B/\B.lend=Yo:=λp hp=>by rw[<-bV]at hp;obtain⟨h1,h2,B,h3,h4⟩:=Ani hp;exact⟨h1,h2,B,by rw[cD _ h2];exact h3,h4⟩
   rw[LY]at hK
   let blk:Yk->Yb Blk:=updL bl2 kills
   have KE:∀i,blk i=bl2 i\/(blk i=Yd .dead/\i∈rds/\∃B,bl2 i=Yd B/\B.lend=Yo):=λi=>by
    rcases Ol (l:=kills) (f:=bl2) i (λp hp=>(Pi p hp).1)with⟨h1,_⟩|⟨h1,p,hp,h2⟩
    ·exact .inl h1
    ·have:=Pi p hp
     rw[h2]at this;exact .inr ⟨h1,this.2⟩
   have hblkL:∀i B,blk i=Yd B->B.live=Yo->bl2 i=Yd B:=λi B hB hl=>by
    rcases KE i with h|⟨h,_⟩
    ·rw[<-h];exact hB
    ·rw[h]at hB
     injection hB with hB;subst hB;cases hl
   obtain⟨us,AN,AE⟩:=EA bl2 ok0 base pl w a hr Ad;have AE:=AE AlR.fn;obtain⟨E,hEw,hEbl,hEpl,hEok,Mv,AN⟩:=Anq hr vX has vW AN
   have KG:∀i∈ids,∃t cs,bl2 i=Yd (.cells t cs):=λi hi=>by obtain⟨t,cs,h⟩:=gE hy i hi;exact⟨t,cs,by rw[UX i hi];exact SJ h⟩
   let ok0c:OK0 P:=⟨λg=>E.ok g\/∃b∈rds,∃B p,bl2 b=Yd B/\B.lend=Yo/\pl b=Yd p/\p.has g,λ_=>False,[]⟩
   let plc:Yk->Yb Pl:=λb=>(ids[b]?).bind pl
   let blc:Yk->Yb Blk:=fnBl (mkB (AD 0 S.ins.length) S.ins y)
   let Ec:Env:=Ak ok0c w.heap.size plc blc w
   have c7:∀g,Own plc blc g->∃i∈ids,pl i=Yd (.cells g):=by
    rintro g ⟨j,B,p,hB,hl,hp,hg⟩;cases hj:ids[j]? with
    |none=>simp[plc,hj]at hp
    |some i=>
     have CB:pl i=Yd p:=by simpa [plc,hj]using hp
     have hi:=CN hj;obtain⟨t,cs,An⟩:=KG i hi;obtain⟨q,hq,hR⟩:=hr.blks i _ An;rw[CB]at hq;injection hq with hq;subst hq;cases p with
     |row _ _=>exact hR.elim
     |cells g'=>have hg:g'=g:=hg;subst hg;exact⟨i,hi,CB⟩
   have xF:∀g,Own plc blc g->Own pl bl2 g:=λg h=>by obtain⟨i,hi,hp⟩:=c7 g h;obtain⟨t,cs,An⟩:=KG i hi;exact⟨i,_,_,An,rfl,hp,rfl⟩
   have AE3:∀g,E.ok g->Ec.ok g:=λg h=>⟨.inl (.inl h),λho=>by
    rcases hEok g h with h|⟨b,hb,t,cs,An,hp⟩
    ·exact h.2 (xF g ho)
    ·obtain⟨i,hi,AB⟩:=c7 g ho
     obtain⟨t',cs',OV⟩:=KG i hi;have Az:i≠b:=by rintro rfl;exact(bW.2 i hb) hi
     exact hr.sep i b _ _ _ _ g Az OV An rfl rfl AB hp rfl rfl⟩
   have Alr:∀b∈rds,∀B p,bl2 b=Yd B->B.lend=Yo->pl b=Yd p->∀g,p.has g->Ec.ok g:=λb hb B p BN hl hp g hg=>by
    refine⟨.inl (.inr ⟨b,hb,B,p,BN,hl,hp,hg⟩),λho=>?_⟩;obtain⟨i,hi,AB⟩:=c7 g ho;obtain⟨t',cs,OV⟩:=KG i hi;have Az:i≠b:=by rintro rfl;rw[BN]at OV;injection OV with OV;subst OV;cases hl
    exact hr.sep i b _ _ _ _ g Az OV BN rfl (Blk.lend_live hl) AB hp rfl hg
   have NG:∀ids0:Ya Yk,(∀b∈ids0,b∈rds)->Rows E (Ld bl) Ec.ok ids0:=λids0 h0=>⟨AE3,λb hb t e ver l An=>by
    have BN:bl2 b=Yd (.row t e ver l):=by rw[cD b (h0 b hb)];exact SJ An
    refine⟨by rw[hEbl];exact BN,λsv g Au hg=>?_⟩;rw[hEpl]at Au;exact Alr b (h0 b hb) _ _ BN rfl Au g (.inl hg),λb hb t et e ver Am hole l An=>Yw An Anp,λb hb t e ver Am hole l An=>by
    have BN:bl2 b=Yd (.tree t e ver Am hole l):=by rw[cD b (h0 b hb)];exact SJ An
    refine⟨by rw[hEbl];exact BN,λsv Ab g Au hg=>?_⟩;rw[hEpl]at Au;exact Alr b (h0 b hb) _ _ BN rfl Au g hg⟩
   have Vs:Ren E Ec ids (AD 0 S.ins.length):=by
    have key:∀b i,ids[b]?=Yd i->Ec.pl ((AD 0 S.ins.length).getD b 0)=pl i:=by
     intro b i hi;have Ae:b<S.ins.length:=by rw[<-AK];exact(Do.1 hi).1
     rw[Oj Ae];simp[Ec,Ak,plc,hi]
    refine⟨λb i g hi h=>?_,λb i sv Ab t e ver l hi _ h=>?_,λb i sv Ab t et e ver Am hole l hi _ h=>?_,λb i sv Ab t e ver Am l hi _ h=>?_,λb i t e ver Am l t' e' ver' By h' l' hi An _=>?_,λb i hi h=>?_⟩
    ·rw[key b i hi,<-hEpl];exact h
    ·rw[key b i hi,<-hEpl];exact h
    ·rw[key b i hi,<-hEpl];exact h
    ·rw[key b i hi,<-hEpl];exact h
    ·obtain⟨t,cs,BN⟩:=KG i (CN hi)
     rw[hEbl,BN]at An;cases An
    ·obtain⟨t,cs,An⟩:=KG i (CN hi)
     rw[hEbl,An]at h;cases h
   have Al3:∀i∈ids,Ld bl i=E.bl i:=λi hi=>by obtain⟨t,cs,h⟩:=gE hy i hi;rw[hEbl,UX i hi,h,SJ h]
   have Ba:=gC Mv (show Ec.w=E.w from hEw.symm) Vs Al3 (NG _ λb hb=>by rw[<-AlL];exact CI _ hb) AN hx;obtain⟨hlB,hinB⟩:=Aat Mv (show Ec.w=E.w from hEw.symm) Vs Al3 (NG _ λb hb=>by rw[<-AlL];exact Da _ (by rw[Aaz]at hb;exact hb)) (λi hi=>hi) hy
   have AEk:RelB ok0c w.heap.size plc blc w:=by
    refine⟨Aw _,λi B hB=>?_,λi j B C p q g Du hB hC hlB' hlC hp hq C7=>?_,λi hi=>?_,⟨hr.glob.g0.gen (Aw _) (λg _ h1 _=>⟨rfl,λq=>h1 (xF g q)⟩) λ_ h=>h.elim,λ_ h=>h.elim⟩⟩
    ·have Ae:i<ids.length:=by have:=(Do.1 (show(mkB (AD 0 S.ins.length) S.ins y)[i]?=Yd B from hB)).1;rw[G9]at this;omega
     obtain⟨g,B',h1,h2,h3,_⟩:=hinB i ids[i] (C0 Ae)
     have hBB:B=B':=by have h4:(mkB (AD 0 S.ins.length) S.ins y)[i]?=Yd B:=hB;rw[h2]at h4;injection h4 with h4;exact h4.symm
     rw[hEpl]at h1;exact⟨.cells g,by simp[plc,C0 Ae,h1],by rw[hBB];exact h3⟩
    ·cases hi:ids[i]? with
     |none=>simp[plc,hi]at hp
     |some i'=>
      cases hj:ids[j]? with
      |none=>simp[plc,hj]at hq
      |some j'=>
       have CB:pl i'=Yd p:=by simpa [plc,hi]using hp
       have AlK:pl j'=Yd q:=by simpa [plc,hj]using hq
       have Az:i'≠j':=by rintro rfl;have h1:=Kr c1 hi;have h2:=Kr c1 hj;rw[h1]at h2;injection h2 with h2;exact Du h2
       obtain⟨t1,cs1,AV⟩:=KG i' (CN hi);obtain⟨t2,cs2,IX⟩:=KG j' (CN hj);exact hr.sep i' j' _ _ p q g Az AV IX rfl rfl CB AlK C7
    ·have OY:ids.length<=i:=by have h1:(mkB (AD 0 S.ins.length) S.ins y)[i]?=Ye:=hi;rw[PC,G9]at h1;omega
     simp[plc,MG OY]
   unfold Yan;rw[AE];simp only[Yaa];refine(B8 ok0c plc w us AEk Ba).mono λe w' F9=>?_;obtain⟨vals,Ac,rfl,hR,hS,hT⟩:=F9;simp only;generalize UW:ids++new=AZ at*
   have N8:AZ.length=S.outs.length:=by rw[<-UW,Bd,<-I1,WM,AK];omega
   have x9:AZ.Nodup:=by rw[<-UW];refine dQ.2 ⟨c1,by rw[<-I1];exact WN,λx hx y hy cM=>?_⟩;subst cM;obtain⟨t,cs,h⟩:=KG x hx;rw[x7 x hy]at h;cases h
   let blo:Yk->Yb Blk:=fnBl (mkB (AD 0 S.outs.length) S.outs z.2)
   let Eo:Env:=Ak ok0c w.heap.size Ac blo w'
   let pl2:Yk->Yb Pl:=λi=>match place AZ i with|some b=>Ac b|none=>pl i
   have DW:∀i,updL (updL bl2 kills) (AZ.zip (mkB AZ S.outs z.2)) i=match place AZ i with|some b=>(mkB AZ S.outs z.2)[b]?|none=>blk i:=
    λi=>Aav i x9 (by rw[G9];exact N8)
   generalize AGu:updL (updL bl2 kills) (AZ.zip (mkB AZ S.outs z.2))=bl3 at*;have L8:∀i,place AZ i=Ye->pl2 i=pl i:=λi h=>by simp only[pl2,h]
   have NA:∀i b,place AZ i=Yd b->pl2 i=Ac b:=λi b h=>by simp only[pl2,h]
   have Hv:∀i,place AZ i=Ye->bl3 i=blk i:=λi h=>by rw[DW,h]
   have N0:∀i b,place AZ i=Yd b->bl3 i=(mkB AZ S.outs z.2)[b]?:=λi b h=>by rw[DW,h]
   have H4:∀i b,place AZ i=Yd b->b<S.outs.length:=λi b h=>by rw[<-N8];exact(Do.1 (Hn h)).1
   have Kf:∀b,b<S.outs.length->∃B,blo b=Yd B/\B.live=Yo:=λb hb=>by
    have Ay:b<(mkB (AD 0 S.outs.length) S.outs z.2).length:=by rw[G9];exact hb
    exact⟨_,C0 Ay,MY (C0 Ay)⟩
   have CH:∀g,Own pl2 bl3 g->(Own pl bl2 g/\∃i B p,place AZ i=Ye/\bl2 i=Yd B/\B.live=Yo/\pl i=Yd p/\p.has g)\/Own Ac blo g:=by
    rintro g ⟨i,B,p,hB,hl,hp,hg⟩;cases AB:place AZ i with
    |none=>rw[Hv i AB]at hB;rw[L8 i AB]at hp;have hB:=hblkL i B hB hl;exact .inl ⟨⟨i,B,p,hB,hl,hp,hg⟩,i,B,p,AB,hB,hl,hp,hg⟩
    |some b=>rw[NA i b AB]at hp;obtain⟨B',hB',F8⟩:=Kf b (H4 i b AB);exact .inr ⟨b,B',p,hB',F8,hp,hg⟩
   have Ph:∀i B p g,place AZ i=Ye->bl2 i=Yd B->B.live=Yo->pl i=Yd p->p.has g->w'.heap[g]?=w.heap[g]?/\¬Own Ac blo g:=by
    intro i B p g AB hB hl hp hg;have Ae:g<w.heap.size:=Own.lt hr ⟨i,B,p,hB,hl,hp,hg⟩;refine hS.out g Ae λho=>?_;obtain⟨j,hj,Dw⟩:=c7 g ho;obtain⟨t,cs,Ix⟩:=KG j hj
    have Az:i≠j:=by rintro rfl;obtain⟨b,hb⟩:=VV (show i∈AZ by rw[<-UW];exact CI _ hj);rw[Kr x9 hb]at AB;cases AB
    exact hr.sep i j _ _ _ _ g Az hB Ix hl rfl hp Dw hg rfl
   have DG:Step pl bl2 w pl2 bl3 w':=by
    refine⟨hS.os,hS.tape,hS.output,hS.size,λg Ae ho=>?_,λb g hb=>?_,λb sv Ab hb=>?_⟩
    ·obtain⟨h1,h2⟩:=hS.out g Ae λh=>ho (xF g h)
     refine⟨h1,λh=>?_⟩;rcases CH g h with h|h
     ·exact ho h.1
     ·exact h2 h
    ·cases AB:place AZ b with
     |none=>rw[L8 b AB];exact hb
     |some j=>
      rw[NA b j AB];have hj:=Hn AB;rw[<-UW]at hj;by_cases N7:j<ids.length
      ·rw[G0 N7]at hj
       exact hS.cells j g (by omega) (by simp only[plc,hj,Wd];exact hb)
      ·rw[ES (by omega)]at hj
       have:=hr.fresh b (x7 b (CN hj));rw[this]at hb;cases hb
    ·have AB:place AZ b=Ye:=by
      cases AB:place AZ b with
      |none=>rfl
      |some j=>
       have hj:=CN (Hn AB);rw[<-UW]at hj;rcases BV.1 hj with hj|hj
       ·obtain⟨t,cs,h⟩:=KG b hj
        obtain⟨q,hq,hR⟩:=hr.blks b _ h;rw[hb]at hq;injection hq with hq;subst hq;exact hR.elim
       ·have:=hr.fresh b (x7 b hj)
        rw[this]at hb;cases hb
     exact⟨sv,Ab,by rw[L8 b AB];exact hb,KeepR.of_live (λC h hC=>by rw[Hv b AB]at h;exact hblkL b _ h (by cases C<;>first|rfl|exact Yw rfl hC)) _ _⟩
   have UE:∀(τ:Ty)(x:τ.den)(us:Ya Yp),((ST.flat S.res&&BT.flat S.outs)=Yc\/τ.flat=Yo)->DRep Eo.w Eo.ok τ x us->DRep (Ak ok0 base pl2 bl3 w').w (Ak ok0 base pl2 bl3 w').ok τ x us:=by
    intro τ x us xD hd;rcases xD with UK|J3
    ·refine hd.mono λg hg _=>⟨?_,rfl⟩
     obtain⟨h1,h2⟩:=hg;rcases h1 with(h1|⟨b,hb,B0,p0,bM,bX,xH,xQ⟩)|h1
     ·have h1:(ok0 g\/(base<=g/\¬ok0.no g))/\¬Own pl bl2 g:=by
       rcases hEok g h1 with h1|⟨b,hb,_⟩
       ·exact h1
       ·rw[(bW.1 b hb)]at UK
        cases UK
      refine⟨h1.1,λho=>?_⟩;rcases CH g ho with h|h
      ·exact h1.2 h.1
      ·exact h2 h
     ·
      refine⟨.inr ?_,λho=>?_⟩
      ·exact gG hr bM bX xH xQ
      ·rcases CH g ho with⟨_,i,B,p,AB,hBi,hl,AEd,C7⟩|h
       ·by_cases N6:i=b
        ·subst N6
         have Co:(i,Blk.dead)∈kills:=by rw[<-bV];exact Anj UK hb (by rw[<-cD i hb];exact bM) bX
         obtain⟨j,B',p',hB',F8,CB,BB⟩:=ho;cases Dw:place AZ j with
         |none=>
          rw[Hv j Dw]at hB';rw[L8 j Dw]at CB;have hB2:=hblkL j B' hB' F8;by_cases Va:j=i
          ·subst Va
           rcases Ol (l:=kills) (f:=bl2) j (λp hp=>(Pi p hp).1)with⟨_,h5⟩|⟨h5,_⟩
           ·exact h5 _ Co rfl
           ·rw[show blk j=Yd .dead from h5]at hB'
            injection hB' with hB';subst hB';cases F8
          ·exact hr.sep j i B' _ p' p0 g Va hB2 bM F8 (Blk.lend_live bX) CB xH BB xQ
         |some q=>rw[NA j q Dw]at CB;obtain⟨Bq,hBq,ADJ⟩:=Kf q (H4 j q Dw);exact h2 ⟨q,Bq,p',hBq,ADJ,CB,BB⟩
        ·exact hr.sep i b B _ p p0 g N6 hBi bM hl (Blk.lend_live bX) AEd xH C7 xQ
       ·exact h2 h
     ·have h1:=h1.1
      refine⟨.inr ⟨BH hr.baseLe h1,λhn=>by have:=(hr.glob.no g hn).1;omega⟩,λho=>?_⟩;rcases CH g ho with h|h
      ·have:=Own.lt hr h.1;omega
      ·exact h2 h
    ·exact hd.flat J3
   have Vt:Ren2 S.outs.length Eo (Ak ok0 base pl2 bl3 w') (AD 0 S.outs.length) AZ:=by
    have key:∀b,b<S.outs.length->pl2 (AZ.getD b 0)=Ac b/\bl3 (AZ.getD b 0)=(mkB AZ S.outs z.2)[b]?:=by
     intro b hb;have Ay:b<AZ.length:=by omega
     have Hy:AZ[b]?=Yd AZ[b]:=C0 Ay;have Hx:AZ.getD b 0=AZ[b]:=by simp[Yn,Hy]
     have Ps:=Kr x9 Hy;rw[Hx];exact⟨NA _ b Ps,N0 _ b Ps⟩
    refine⟨λb g hb h=>?_,λb sv Ab hb h=>?_⟩
    ·rw[Oj hb]at h
     show pl2 _=_;rw[(key b hb).1];exact h
    ·rw[Oj hb]at h⊢
     refine⟨?_,λt e ver l h2=>?_,λt et e ver Am hole l h2=>?_,λt e ver Am hole l h2=>?_⟩
     ·show pl2 _=_
      rw[(key b hb).1];exact h
     ·have h3:bl3 (AZ.getD b 0)=Yd (.row t e ver l):=h2
      rw[(key b hb).2]at h3;exact MW h3
     ·have h3:bl3 (AZ.getD b 0)=Yd (.mat t et e ver Am hole l):=h2
      rw[(key b hb).2]at h3;exact MX h3
     ·have h3:bl3 (AZ.getD b 0)=Yd (.tree t e ver Am hole l):=h2
      rw[(key b hb).2]at h3;exact gF h3
   have Ki:(ST.flat S.res&&BT.flat S.outs)=Yc\/(ST.flat S.res=Yo/\BT.flat S.outs=Yo):=by
    cases hf:(ST.flat S.res&&BT.flat S.outs)with
    |false=>exact .inl rfl
    |true=>exact .inr (andB hf)
   refine hK (Gk vals) pl2 w' ?_ DG ?_
   ·refine⟨BH hr.baseLe hS.size,λi B hB=>?_,λi j B C p q g Du hB hC hlB' hlC hp hq C7=>?_,λi hi=>?_,hr.glob.out DG.size DG.out⟩
    ·cases AB:place AZ i with
     |none=>
      rw[Hv i AB]at hB;cases hl:B.live with
      |false=>
       have Fl:∃B0,bl2 i=Yd B0:=by
        rcases KE i with h|⟨_,_,_,h,_⟩
        ·exact⟨B,by rw[<-h];exact hB⟩
        ·exact⟨_,h⟩
       obtain⟨B0,hB0⟩:=Fl;obtain⟨p,hp,_⟩:=hr.blks i B0 hB0;refine⟨p,by rw[L8 i AB];exact hp,?_⟩;cases B<;>first|exact trivial|simp[Blk.live]at hl
      |true=>have hB:=hblkL i B hB hl;obtain⟨p,hp,hBR⟩:=hr.blks i B hB;refine⟨p,by rw[L8 i AB];exact hp,?_⟩;exact BRep.mono DG.ext hBR λg hg=>(Ph i B p g AB hB hl hp hg).1
     |some b=>obtain⟨Bo,hBo,Ic⟩:=Kf b (H4 i b AB);obtain⟨p,hp,hBR⟩:=hR.blks b Bo hBo;obtain⟨B',h1,h2,_,_,_,_⟩:=MV Vt (hr.baseLe) UE rfl c6 (Ki.imp id (·.2)) hBo hBR;rw[N0 i b AB,h1]at hB;injection hB with hB;subst hB;exact⟨p,by rw[NA i b AB];exact hp,h2⟩
    ·cases AB:place AZ i with
     |none=>
      rw[Hv i AB]at hB;have hB:=hblkL i B hB hlB';rw[L8 i AB]at hp;cases Dw:place AZ j with
      |none=>rw[Hv j Dw]at hC;have hC:=hblkL j C hC hlC;rw[L8 j Dw]at hq;exact hr.sep i j B C p q g Du hB hC hlB' hlC hp hq C7
      |some b=>rw[NA j b Dw]at hq;intro Bh;obtain⟨Bo,hBo,Ic⟩:=Kf b (H4 j b Dw);exact(Ph i B p g AB hB hlB' hp C7).2 ⟨b,Bo,q,hBo,Ic,hq,Bh⟩
     |some b=>
      rw[NA i b AB]at hp;obtain⟨Bo,hBo,Ic⟩:=Kf b (H4 i b AB);cases Dw:place AZ j with
      |none=>rw[Hv j Dw]at hC;have hC:=hblkL j C hC hlC;rw[L8 j Dw]at hq;intro Bh;exact(Ph j C q g Dw hC hlC hq Bh).2 ⟨b,Bo,p,hBo,Ic,hp,C7⟩
      |some b'=>
       rw[NA j b' Dw]at hq;obtain⟨Bo',hBo',wY⟩:=Kf b' (H4 j b' Dw)
       have EX:b≠b':=by rintro rfl;have h1:=Hn AB;have h2:=Hn Dw;rw[h1]at h2;injection h2 with h2;exact Du h2
       exact hR.sep b b' _ _ p q g EX hBo hBo' Ic wY hp hq C7
    ·cases AB:place AZ i with
     |none=>
      rw[Hv i AB]at hi;rw[L8 i AB];rcases KE i with h|⟨h,_⟩
      ·exact hr.fresh i (by rw[<-h];exact hi)
      ·rw[h]at hi;cases hi
     |some b=>rw[N0 i b AB]at hi;have:=H4 i b AB;rw[PC,G9]at hi;omega
   ·exact TReps.res (gD Vt UE c5 (Ki.imp id (·.1)) hT)
 ·cases hk
end
end
end Go.Lift
namespace Go.Lift
open Go.RowKit Go.MapKept
section
variable{P:Yv}{o:Oper}{ρ:Y0->V}{bl:Yk->Yb Blk}{β:Type}{r:β}
theorem Anr{t:Yq}{ti:TI}{i:YI}{d:YC}{z:Yp}(f:TFacts P t ti i d z){k:Ty}(hk:FK ti k=Yo)(hw:keyW k=Yc){w:Yx}{ok:Yk->Prop}{x:k.den}{u:Yp}(hd:DRep w ok k x [u]):IsKey d u:=by
 cases k with
 |bool=>simp only[FK,f.isBool]at hk;simp only[DRep,CK,Ef]at hd;subst hd;cases d<;>simp[W8]at hk;trivial
 |int k=>have hk:=AC hk;rw[f.kind]at hk;simp only[DRep,CK,Ef]at hd;subst hd;cases d<;>simp[Qf]at hk;subst hk;rfl
 |str=>simp only[FK,f.isStr]at hk;simp only[DRep,CK,Ef]at hd;subst hd;cases d<;>simp[W7]at hk;trivial
 |unit=>simp[FK]at hk
 |err=>simp[FK]at hk
 |prod a b=>simp[keyW]at hw
 |slice e=>simp[FK]at hk
theorem Ans{ti:TI}{a b:Ty}(hk:FK ti (.prod a b)=Yo):∃i j,a=.int i/\b=.int j/\ti.eqs=Yd [.i,.i]/\ti.len=Yd 2:=by
 cases a<;>cases b<;>first|(simp[FK]at hk;done)|skip
 refine⟨_,_,rfl,rfl,?_⟩;simp only[FK]at hk;split at hk
 ·rename_i h1 h2;exact⟨h1,h2⟩
 ·cases hk
theorem AaD{E:Env}{k:Ty}{v:V}{key:k.den}{u:Yp}(h:Jl k v=Yd key)(hv:VRep E v u):KRep E.w E.ok k key u:=by
 cases k with
 |bool=>
  cases v<;>first|(cases h;done)|skip
  rename_i c;cases c<;>first|(cases h;done)|skip
  simp only[Jl]at h;injection h with h;subst h;have:u=.bool _:=hv;subst this;exact⟨_,rfl,rfl⟩
 |int k=>
  cases v<;>first|(cases h;done)|skip
  rename_i c;cases c<;>first|(cases h;done)|skip
  simp only[Jl]at h;split at h
  ·rename_i hk
   subst hk;injection h with h;subst h;have:u=.int _ _:=hv;subst this;exact⟨_,rfl,rfl⟩
  ·cases h
 |str=>
  cases v<;>first|(cases h;done)|skip
  rename_i c;cases c<;>first|(cases h;done)|skip
  simp only[Jl]at h;injection h with h;subst h;have:u=.string _:=hv;subst this;exact⟨_,rfl,rfl⟩
 |unit=>simp[Jl]at h
 |err=>simp[Jl]at h
 |prod a b=>
  cases a<;>first|(simp[Jl]at h;done)|skip
  cases b<;>first|(simp[Jl]at h;done)|skip
  cases v<;>first|(simp[Jl]at h;done)|skip
  rename_i cs
  match cs,h,hv with
  |[.int j n,.int j2 n2],h,hv=>
   simp only[Jl]at h;split at h
   ·rename_i hk
    obtain⟨rfl,rfl⟩:=hk;injection h with h;subst h;obtain⟨vs,⟨v1,r1,e1,c1,⟨v2,r2,e2,c2,e3⟩⟩,hu⟩:=hv;have c1:v1=.int _ _:=c1;have c2:v2=.int _ _:=c2;have e3:r2=[]:=e3;subst e3 e2 e1 c1 c2;exact⟨_,⟨[_],[_],rfl,rfl,rfl⟩,by simpa [keyW]using hu⟩
   ·cases h
 |slice e=>simp[Jl]at h
theorem Ant{ti:TI}{k:Ty}(hk:FK ti k=Yo)(hw:keyW k=Yc){w:Yx}{ok:Yk->Prop}{a b:k.den}{x y:Yp}(ha:DRep w ok k a [x])(hb:DRep w ok k b [y]):(Hk k a b=Yo↔y=x):=by
 cases k with
 |bool=>simp only[DRep,CK,Ef]at ha hb;subst ha hb;simp only[Hk,beq_iff_eq,Value.bool.injEq];exact eq_comm
 |int k=>simp only[DRep,CK,Ef]at ha hb;subst ha hb;simp only[Hk,HB,Value.int.injEq,true_and];exact eq_comm
 |str=>
  simp only[DRep,CK,Ef]at ha hb;subst ha hb;simp only[Hk,HB,Value.string.injEq,ByteArray.mk.injEq];constructor
  ·intro h;rw[h]
  ·intro h;simpa using Ai Array.toList h.symm
 |unit=>simp[FK]at hk
 |err=>simp[FK]at hk
 |prod a b=>simp[keyW]at hw
 |slice e=>simp[FK]at hk
theorem KRep.one{w:Yx}{ok:Yk->Prop}{k:Ty}{x:k.den}{u:Yp}(hw:keyW k=Yc)(h:KRep w ok k x u):DRep w ok k x [u]:=by
 obtain⟨us,h1,h2⟩:=h;rw[hw]at h2;have h2:us=[u]:=by simpa using h2
 rw[<-h2];exact h1
theorem KRep.two{w:Yx}{ok:Yk->Prop}{i j:YP}{x:Yi×Yi}{u:Yp}(h:KRep w ok (.prod (.int i) (.int j)) x u):u=.agg #[.int i x.1,.int j x.2]:=by obtain⟨us,⟨v1,v2,e0,e1,e2⟩,h2⟩:=h;have e1:v1=[_]:=e1;have e2:v2=[_]:=e2;subst e1 e2 e0;simpa [keyW]using h2
theorem Anu{w:Yx}{e:Yq}{q:YP}(h:P.underlying e=Yd (.int q))(em:Ys)(k:YP)(x:Yi)(n:Yk):(Yal em (n+1) e (.int k x)).run P w=.ok () w:=by unfold Yal;simp[Yu h,YK]
theorem Anv{em:Ys}{w:Yx}{kt e:Yq}{ka kb:YP}{a b:Yi}(P0:P.underlying kt=Yd (.array 2 e))(hs:(sizeOf e).run P w=.ok 1 w)(p0:(part e #[.int ka a,.int kb b] 0).run P w=.ok (.int ka a) w)(p1:(part e #[.int ka a,.int kb b] 1).run P w=.ok (.int kb b) w)(hc:∀k x n,(Yal em (n+1) e (.int k x)).run P w=.ok () w)(n:Yk):(Yal em (n+2) kt (.agg #[.int ka a,.int kb b])).run P w=.ok () w:=by
 rw[Yal];simp[Yu P0,YK,List.range',hs,p0,p1,hc]
structure Finds (P:Yv) (w:Yx) (ok:Yk->Prop) (kt:Yq) (k:Ty) (key:k.den) (u:Yp) (Fd:Ya YL->Yk->Yb (Yk×Yp)->Prop):Prop where
 rep:KRep w ok k key u
 nil:∀i,Fd [] i Ye
 cons:∀(x:k.den)(e:YL)(es:Ya YL)(i:Yk),KRep w ok k x e.key->(Hk k x key=Yo/\e.key=u/\Fd (e::es) i (Yd (i,e.val)))\/(Hk k x key=Yc/\∀r,Fd es (i+1) r->Fd (e::es) i r)
 run:∀es r,Fd es 0 r->(Instr.findKey kt u es).run P w=.ok r w
 check:∀em,(Yal em 10000 kt u).run P w=.ok () w
 stays:(Instr.keyThatStays u u).run P w=.ok u w
theorem WO{kt:Yq}{ti:TI}{i:YI}{d:YC}{z:Yp}(f:TFacts P kt ti i d z){k:Ty}(hk:FK ti k=Yo){w:Yx}{ok:Yk->Prop}{key:k.den}{u:Yp}(hd:KRep w ok k key u):∃Fd,Finds P w ok kt k key u Fd:=by
 cases hw:keyW k with
 |false=>
  have Pe:=λ(y:k.den)(u:Yp)(h:KRep w ok k y u)=>Anr f hk hw (h.one hw);refine⟨λes i r=>Instr.findNow d u es i=Yd r,hd,λ_=>rfl,λx e es i hx=>?_,λes r h=>run_findKey f.under h,λem=>run_checkKey f.under (Pe key _ hd) em _,run_keyThatStays (Pe key _ hd)⟩;obtain⟨q,hq,Ali⟩:=sameNow_of_keys (Pe key u hd) (Pe x e.key hx);have Alm:=Ant hk hw (hx.one hw) (hd.one hw);cases q with
  |true=>have R8:u=e.key:=Ali.1 rfl;exact .inl ⟨Alm.2 R8,R8.symm,by simp[Instr.findNow,hq]⟩
  |false=>
   have R8:u≠e.key:=λh=>by have:=Ali.2 h;cases this
   refine .inr ⟨?_,λr h=>by simp[Instr.findNow,hq,h]⟩;cases hh:Hk k x key with
   |false=>rfl
   |true=>exact Yw (Alm.1 hh) R8
 |true=>
  cases k with
  |prod a b=>
   obtain⟨ka,kb,rfl,rfl,he,hl⟩:=Ans hk;have hu:=hd.two;have Ja:=f.eqs.symm.trans he
   have ADr:∃e,P.underlying kt=Yd (.array 2 e)/\Lh P e=Yd .i/\P.cellsOf e=1:=by
    have Cr:=f.alen.symm.trans hl;have P0:=f.under;cases d<;>simp[lenD]at Cr;subst Cr;rename_i e;refine⟨e,P0,?_⟩;unfold S7 at Ja;rw[P0]at Ja;simp only at Ja;split at Ja
    ·rename_i kk KL
     cases hc:(Ym (P.cellsOf e) 1&&!P.eqGuardType P.depth kt)with
     |false=>rw[hc]at Ja;cases Ja
     |true=>rw[hc]at Ja;simp only[Ao,Af,List.replicate,CK,Ef]at Ja;obtain⟨CA,_⟩:=andB hc;exact⟨by rw[KL,Ja.1],At CA⟩
    ·cases Ja
   obtain⟨e,P0,Ke,D1⟩:=ADr
   have cL:∃q,P.underlying e=Yd (.int q):=by
    unfold Lh at Ke;split at Ke
    all_goals first|(cases Ke;done)|skip
    rename_i q hq;exact⟨q,hq⟩
   obtain⟨q,cL⟩:=cL
   have UY:∃i,P.info? e=Yd i:=by
    cases hi:P.info? e with
    |some i=>exact⟨i,rfl⟩
    |none=>simp[YaG,hi]at D1
   obtain⟨ie,UY⟩:=UY;have c8:P.plainKey e=Yo:=by simp[Program.plainKey,cL]
   refine⟨λes i r=>(Yaz kt u es i).run P w=.ok r w,hd,λ_=>by simp[Yaz],λx en es i hx=>?_,λes r h=>?_,λem=>?_,?_⟩
   ·have FB:=hx.two
    have hE:CReps (⟨w,ok,0,λ_=>Ye,λ_=>Ye⟩:Env) [.int ka key.1,.int kb key.2] [.int ka key.1,.int kb key.2]:=⟨_,_,rfl,rfl,_,_,rfl,rfl,rfl⟩;have hF:CReps (⟨w,ok,0,λ_=>Ye,λ_=>Ye⟩:Env) [.int ka x.1,.int kb x.2] [.int ka x.1,.int kb x.2]:=⟨_,_,rfl,rfl,_,_,rfl,rfl,rfl⟩;have hr:=(Aa7 Ja hE hF (q:=Yf (key.1=x.1)&&(Yf (key.2=x.2)&&Yo)) (by simp[Cm]) w).1;have hr:(Op.equal kt u en.key).run P w=.ok (Yf (key.1=x.1)&&(Yf (key.2=x.2)&&Yo)) w:=by rw[hu,FB];exact hr
    by_cases h1:key.1=x.1/\key.2=x.2
    ·refine .inl ⟨by simp[Hk,h1.1,h1.2],by rw[hu,FB,h1.1,h1.2],?_⟩
     simp[Yaz,hr,h1.1,h1.2,YK]
    ·have hq:(Yf (key.1=x.1)&&(Yf (key.2=x.2)&&Yo))=Yc:=by
      by_cases h2:key.1=x.1
      ·have h3:¬key.2=x.2:=λh=>h1 ⟨h2,h⟩
       simp[h3]
      ·simp[h2]
     rw[hq]at hr;refine .inr ⟨?_,λr h=>by simp[Yaz,hr,YK,h]⟩;by_cases h2:x.1=key.1
     ·have h3:¬x.2=key.2:=λh=>h1 ⟨h2.symm,h.symm⟩
      simp[Hk,h3]
     ·simp[Hk,h2]
   ·rw[run_findKey_eq w (by rw[P0])]
    exact h
   ·rw[hu]
    have p0:=run_part_plain w c8 (xs:=#[.int ka key.1,.int kb key.2]) (off:=0) rfl;have p1:=run_part_plain w c8 (xs:=#[.int ka key.1,.int kb key.2]) (off:=1) rfl;have hc:=λk n m=>Anu (P:=P) (w:=w) cL em k n m;have hs:=_root_.Go.run_sizeOf w UY;rw[D1]at hs;exact Anv P0 hs p0 p1 hc 9998
   ·rw[hu]
    simp[Instr.keyThatStays,Instr.sameBits]
  |bool=>simp[keyW]at hw
  |int k=>simp[keyW]at hw
  |str=>simp[keyW]at hw
  |unit=>simp[keyW]at hw
  |err=>simp[keyW]at hw
  |slice e=>simp[keyW]at hw
theorem gL{kt:Yq}{w:Yx}{ok:Yk->Prop}{k v:Ty}{vg:Ys}{key:k.den}{u:Yp}{Fd:Ya YL->Yk->Yb (Yk×Yp)->Prop}(H:Finds P w ok kt k key u Fd):∀{l:Ya (k.den×v.den)}{es:Ya YL}(i:Yk),MRep w ok k v vg l es->(Fd es i Ye/\mHas k l key=Yc/\(∀z,mGet k l key z=z)/\∀(y:v.den)(us:Ya Yp)(val:Yp)(n:Yk),DRep w ok v y us->(if vg then val=.agg us.toArray else us=[val])->MRep w ok k v vg (mPut k l key y) (es++[{key:=u,val:=val,born:=n}]))\/∃j e y us,Fd es i (Yd (i+j,e.val))/\es[j]?=Yd e/\e.key=u/\mHas k l key=Yo/\(∀z,mGet k l key z=y)/\DRep w ok v y us/\(if vg then e.val=.agg us.toArray else us=[e.val])/\∀(y':v.den)(Cf:Ya Yp)(val:Yp)(f:YL->YL),DRep w ok v y' Cf->(if vg then val=.agg Cf.toArray else Cf=[val])->(∀e,(f e).key=u/\(f e).val=val)->MRep w ok k v vg (mPut k l key y') (es.modify j f)
 |[],es,i,h=>by simp only[MRep]at h;subst h;refine .inl ⟨H.nil i,rfl,λ_=>rfl,λy us val n h1 h2=>?_⟩;exact⟨_,[],rfl,H.rep,⟨us,h1,h2⟩,rfl⟩
 |x::l,es,i,⟨e,B5,h0,h1,⟨us,h2,h3⟩,h4⟩=>by
  subst h0;rcases H.cons x.1 e B5 i h1 with⟨F7,R8,bQ⟩|⟨F7,R3⟩
  ·refine .inr ⟨0,e,x.2,us,bQ,rfl,R8,by simp[mHas,F7],λz=>by simp[mGet,F7],h2,h3,λy' Cf val f g1 g2 g3=>?_⟩
   have hp:mPut k (x::l) key y'=(key,y')::l:=by simp[mPut,F7]
   rw[hp];refine⟨f e,B5,by simp,by rw[(g3 e).1];exact H.rep,⟨Cf,g1,by rw[(g3 e).2];exact g2⟩,h4⟩
  ·rcases gL H (i+1) h4 with⟨g1,g2,g3,g4⟩|⟨j,e',y,us2,g1,g2,g3,g4,g5,g6,g7,g8⟩
   ·refine .inl ⟨R3 _ g1,by simp[mHas,F7,g2],λz=>by simp[mGet,F7,g3],λy Cf val n k1 k2=>?_⟩
    have hp:mPut k (x::l) key y=x::mPut k l key y:=by simp[mPut,F7]
    rw[hp];exact⟨e,B5++_,rfl,h1,⟨us,h2,h3⟩,g4 y Cf val n k1 k2⟩
   ·refine .inr ⟨j+1,e',y,us2,by have:=R3 _ g1;rwa [show i+(j+1)=i+1+j by omega],by simpa using g2,g3,by simp[mHas,F7,g4],λz=>by simp[mGet,F7,g5],g6,g7,λy' Cf val f k1 k2 k3=>?_⟩
    have hp:mPut k (x::l) key y'=x::mPut k l key y':=by simp[mPut,F7]
    rw[hp];exact⟨e,B5.modify j f,by simp,h1,⟨us,h2,h3⟩,g8 y' Cf val f k1 k2 k3⟩
theorem gM{t:Yq}{ti:TI}{i:YI}{d:YC}{z:Yp}(f:TFacts P t ti i d z){kt vt:Yq}(h:ti.mp=Yd (kt,vt)):d=.map kt vt:=by rw[f.mp]at h;cases d<;>simp[mpD]at h;rw[h.1,h.2]
theorem Anw{T:Yq->Yb TI}{kk:K β}{nx:Yk}{t:Yq}(ho:o.op=.makeMap t Ye)(hk:eG T bl nx t kk=Yd r):Sound P o ρ bl kk r:=by
 unfold eG at hk;split at hk
 ·cases hk
 split at hk
 ·cases hk
 split at hk
 ·rename_i tk tv Ed cJ
  split at hk
  ·rename_i Vb El hn
   refine⟨_,_,_,hk,λbl2 hb=>?_⟩;have Cz:bl2 nx=Ye:=(hb nx (by simp)).trans hn;intro ok0 base pl w a hr hx K Q hK
   have h1:(Y1 a.eval o).run P w=.ok (.value (.map (Yd w.heap.size))) (w.alloc (.map #[] 0)):=by simp[Y1,ho,Instr.makeMap]
   have hg:w.grownBy (w.alloc (.map #[] 0)) Ye:=Ya9 w _ Ye;have hp:∀g,(Pl.cells w.heap.size).has g->w.heap.size<=g:=λg Fo=>LN Fo;have hs:Step pl bl2 w (upd pl nx (.cells w.heap.size)) (upd bl2 nx (.fmap t [])) (w.alloc (.map #[] 0)):=Step.new hr Cz hg hp;refine HD h1 (hK _ (upd pl nx (.cells w.heap.size)) _ ?_ hs ?_)
   ·exact RelB.new hr Cz hg hp ⟨#[],0,YaS w _,rfl⟩
   ·exact⟨w.heap.size,by simp[Ak,upd],rfl⟩
  ·rename_i k v Vb El hn
   cases hq:FK tk k with
   |false=>rw[hq]at hk;cases hk
   |true=>
    simp only[hq,Ao]at hk;refine⟨_,_,_,hk,λbl2 hb=>?_⟩;have Cz:bl2 nx=Ye:=(hb nx (by simp)).trans hn;intro ok0 base pl w a hr hx K Q hK
    have h1:(Y1 a.eval o).run P w=.ok (.value (.map (Yd w.heap.size))) (w.alloc (.map #[] 0)):=by simp[Y1,ho,Instr.makeMap]
    have hg:w.grownBy (w.alloc (.map #[] 0)) Ye:=Ya9 w _ Ye;have hp:∀g,(Pl.cells w.heap.size).has g->w.heap.size<=g:=λg Fo=>LN Fo;have hs:Step pl bl2 w (upd pl nx (.cells w.heap.size)) (upd bl2 nx (.map t k v tv.agg [])) (w.alloc (.map #[] 0)):=Step.new hr Cz hg hp;refine HD h1 (hK _ (upd pl nx (.cells w.heap.size)) _ ?_ hs ?_)
    ·exact RelB.new hr Cz hg hp ⟨#[],0,YaS w _,rfl,λx hx=>by simp at hx,by simp⟩
    ·exact⟨w.heap.size,by simp[Ak,upd],rfl⟩
  ·cases hk
 ·cases hk
theorem AaE{E:Env}{v:Ty}{vg:Ys}{y:v.den}{us:Ya Yp}{val:Yp}(hd:DRep E.w E.ok v y us)(hv:if vg then val=.agg us.toArray else us=[val]):VRep E (V.mk vg (cells v y)) val:=
 VRep.mk ⟨us,FW hd,hv⟩
theorem Anx{T:Yq->Yb TI}(hT:TOk P T){kk:K β}{t:Yq}{x ix:Y0}{commaOk:Ys}(ho:o.op=.lookup t x ix commaOk)(hk:eJ T bl t (ρ x) (ρ ix) commaOk kk=Yd r):Sound P o ρ bl kk r:=by
 unfold eJ at hk;split at hk
 ·cases hk
 rename_i ti ht;obtain⟨i,d,z,f⟩:=hT.facts ht;split at hk
 ·cases hk
 rename_i kt vt Pp;have hd:=gM f Pp;subst hd;split at hk
 ·rename_i tk tv Ed cJ
  obtain⟨ik,dk,zk,fk⟩:=hT.facts Ed;obtain⟨iv,dv,zv,fv⟩:=hT.facts cJ;split at hk
  ·rename_i b hx
   split at hk
   ·rename_i t0 k v vg l hb
    cases hq:(FK tk k&&(vg||Ym v.size 1)&&(vg==tv.agg))with
    |false=>rw[hq]at hk;cases hk
    |true=>
     simp only[hq,Ao]at hk;obtain⟨hq,cC⟩:=andB hq;obtain⟨Vq,J9⟩:=andB hq;have cC:vg=tv.agg:=by simpa using cC
     split at hk
     ·rename_i key zz J4 V8
      refine Sound.pure hk λbl2 Aj ok0 base pl w a hr Ad=>?_;have Ay:bl2 b=Yd (.map t0 k v vg l):=(Aj b (by simp)).trans hb;have h1:=Ad x (by simp[ho,Yt]);have h2:=Ad ix (by simp[ho,Yt]);rw[hx]at h1;obtain⟨g,hg,Bc⟩:=h1;have wS:=AaD J4 h2;obtain⟨p,hp,hB⟩:=hr.blks b _ Ay;have:p=.cells g:=by have h3:pl b=Yd (.cells g):=hg;rw[hp]at h3;injection h3
      subst this;obtain⟨es,Ch,hh,hm⟩:=hB;have hh:w.heap[g]?=Yd (.map es Ch):=hh;obtain⟨Fd,HF⟩:=WO fk Vq (w:=w) (ok:=(Ak ok0 base pl bl2 w).ok) wS;have yA:(zeroValue vt).run P w=.ok zv w:=by simp[zeroValue,typeInfo,fv.info,fv.zero]
      rcases gL HF 0 hm.m with⟨g1,g2,g3,g4⟩|⟨j,e,y,us,g1,g2,g3,g4,g5,g6,g7,g8⟩
      ·
       have hz:∃us,DRep (Ak ok0 base pl bl2 w).w (Ak ok0 base pl bl2 w).ok v zz us/\if vg then zv=.agg us.toArray else us=[zv]:=by
        have AER:CReps (Ak ok0 base pl bl2 w) tv.zero zv.cells.toList:=by rw[fv.zeroC];exact MS fv.one
        have UG:=MT hr.blksOk (Rows.none _ _) AER V8;refine⟨_,UG,?_⟩;rw[cC,fv.agg];have:=WH fv w;cases Ej:Jm P vt with
        |true=>simp only[CR];have Jg:=fv.zagg.trans Ej;cases zv<;>simp[S8]at Jg;rfl
        |false=>
         simp only[G3,Cb];rw[cC,fv.agg,Ej]at J9;have B4:=At (by simpa using J9:Ym v.size 1=Yo);have hl:=DRep.length UG;rw[B4]at hl;cases zv with
         |agg cs=>exact Yw (fv.zagg.trans Ej) (by simp[S8])
         |_=>rfl
       obtain⟨us,Jg,NL⟩:=hz
       have AE:(Y1 a.eval o).run P w=.ok (.value (if commaOk then .tuple #[zv,.bool Yc]else zv)) w:=by simp[Y1,ho,Instr.lookup,Yu f.under,Bc,YN hh,HF.check,HF.run _ _ g1,yA,YK]
       refine⟨_,AE,?_⟩;rw[g2,g3];cases commaOk with
       |true=>exact⟨[zv,.bool Yc],rfl,zv,[.bool Yc],rfl,⟨us,FW Jg,NL⟩,.bool Yc,[],rfl,⟨[.bool Yc],⟨_,_,rfl,rfl,rfl⟩,by simp⟩,rfl⟩
       |false=>exact AaE Jg NL
      ·have AE:(Y1 a.eval o).run P w=.ok (.value (if commaOk then .tuple #[e.val,.bool Yo]else e.val)) w:=by simp[Y1,ho,Instr.lookup,Yu f.under,Bc,YN hh,HF.check,HF.run _ _ g1,YK]
       refine⟨_,AE,?_⟩;rw[g4,g5];cases commaOk with
       |true=>exact⟨[e.val,.bool Yo],rfl,e.val,[.bool Yo],rfl,⟨us,FW g6,g7⟩,.bool Yo,[],rfl,⟨[.bool Yo],⟨_,_,rfl,rfl,rfl⟩,by simp⟩,rfl⟩
       |false=>exact AaE g6 g7
     ·cases hk
   ·cases hk
  ·cases hk
 ·cases hk
theorem SK{w:Yx}{g:Yk}{o:Obj}:w.grownBy {w with heap:=w.heap.setIfInBounds g o} (Yd g):=
 ⟨rfl,rfl,rfl,by simp,λk hk Az=>by have:k≠g:=λh=>Az (by rw[h]);simp[Ne.symm this]⟩
theorem Anz{T:Yq->Yb TI}(hT:TOk P T){kk:K β}{t:Yq}{x ix y:Y0}(ho:o.op=.mapUpdate t x ix y)(hk:eK T bl t (ρ x) (ρ ix) (ρ y) kk=Yd r):Sound P o ρ bl kk r:=by
 unfold eK at hk;split at hk
 ·cases hk
 rename_i ti ht;obtain⟨i,d,z,f⟩:=hT.facts ht;split at hk
 ·cases hk
 rename_i kt vt Pp;have hd:=gM f Pp;subst hd;split at hk
 ·cases hk
 rename_i tk Ed;obtain⟨ik,dk,zk,fk⟩:=hT.facts Ed;split at hk
 ·rename_i b cs hx Bn
  split at hk
  ·rename_i t0 k v vg l hb
   cases hq:(FK tk k&&Yf (Ss (ρ y)=Yd vg))with
   |false=>rw[hq]at hk;cases hk
   |true=>
    simp only[hq,Ao]at hk;obtain⟨Vq,J9⟩:=andB hq;have J9:=AC J9;split at hk
    ·rename_i key zz J4 V8
     refine⟨_,_,_,hk,λbl2 Aj=>?_⟩;intro ok0 base pl w a hr Ad K Q hK;have Ay:bl2 b=Yd (.map t0 k v vg l):=(Aj b (by simp)).trans hb;have h1:=Ad x (by simp[ho,Yt]);have h2:=Ad ix (by simp[ho,Yt]);have h3:=Ad y (by simp[ho,Yt]);rw[hx]at h1;obtain⟨g,hg,Bc⟩:=h1;have wS:=AaD J4 h2;obtain⟨p,hp,hB⟩:=hr.blks b _ Ay;have C7:pl b=Yd (.cells g):=hg;have:p=.cells g:=by rw[hp]at C7;injection C7
     subst this;obtain⟨es,Ch,hh,hm⟩:=hB;have hh:w.heap[g]?=Yd (.map es Ch):=hh;obtain⟨Fd,HF⟩:=WO fk Vq (w:=w) (ok:=(Ak ok0 base pl bl2 w).ok) wS;have AEQ:=VRep.cells_of Bn h3;have UG:=MT hr.blksOk (Rows.none _ _) AEQ V8
     have Ald:if vg then a.eval y=.agg (a.eval y).cells.toList.toArray else(a.eval y).cells.toList=[a.eval y]:=by
      cases Jf:ρ y with
      |c q=>
       rw[Jf]at J9 h3;simp only[Ss,Af]at J9;subst J9;have h4:=CRep.oneCell (show CRep _ q (a.eval y)from h3);simp only[G3,Cb];cases hv:a.eval y with
       |agg cs=>rw[hv]at h4;simp[Value.oneCell']at h4
       |_=>rfl
      |agg q=>rw[Jf]at J9 h3;simp only[Ss,Af]at J9;subst J9;obtain⟨vs,_,hv⟩:=h3;simp only[CR]at hv;rw[hv];rfl
      |_=>rw[Jf]at J9;simp[Ss]at J9
     have DG:∀(l':Ya (k.den×v.den))(o':Obj),Step pl bl2 w (upd pl b (.cells g)) (upd bl2 b (.map t0 k v vg l')) {w with heap:=w.heap.setIfInBounds g o'}:=
      λl' o'=>Step.wroteB hr Ay rfl C7 SK
     rcases gL HF 0 hm.m with⟨g1,g2,g3,g4⟩|⟨j,e,y',us,g1,g2,g3,g4,g5,g6,g7,g8⟩
     ·have AE:(Y1 a.eval o).run P w=.ok .skip {w with heap:=w.heap.setIfInBounds g (.map (es.push {key:=a.eval ix,val:=a.eval y,born:=Ch}) (Ch+1))}:=by simp[Y1,ho,YaL,Yu f.under,Bc,YN hh,HF.check,HF.run _ _ g1,Ya0 _ hh,YK]
      refine MR AE (hK undef (upd pl b (.cells g)) _ (RelB.wroteB hr Ay rfl C7 SK ?_) (DG _ _) trivial);refine⟨_,_,(heap_set hh).1,?_⟩;have FB:=(DG (mPut k l key zz) (.map (es.push {key:=a.eval ix,val:=a.eval y,born:=Ch}) (Ch+1))).ext (ok0:=ok0) (base:=base);refine⟨?_,λx hx=>?_,?_⟩<;>rw[Array.toList_push]at*
      rotate_left
      ·rcases BV.1 hx with h|h
       ·exact Nat.lt_succ_of_lt (hm.lt x h)
       ·rw[DS.1 h];exact Nat.lt_succ_self _
      ·rw[LK]
       refine dQ.2 ⟨hm.nd,by simp,λa ha b hb=>?_⟩;obtain⟨x,hx,rfl⟩:=Fw.1 ha;simp only[CP,Il,DS]at hb;have:=hm.lt x hx;omega
      exact(g4 zz _ (a.eval y) Ch UG Ald).mono (λ_ _ h=>h.mono FB.heap) (λ_ _ h=>h.mono FB.heap)
     ·have hj:es[j]?=Yd e:=by simpa using g2
      have AE:(Y1 a.eval o).run P w=.ok .skip {w with heap:=w.heap.setIfInBounds g (.map (es.modify j λe=>{e with key:=a.eval ix,val:=a.eval y}) Ch)}:=by simp[Y1,ho,YaL,Yu f.under,Bc,YN hh,HF.check,HF.run _ _ g1,hj,g3,HF.stays,Ya0 _ hh,YK]
      refine MR AE (hK undef (upd pl b (.cells g)) _ (RelB.wroteB hr Ay rfl C7 SK ?_) (DG _ _) trivial);refine⟨_,_,(heap_set hh).1,?_⟩;have FB:=(DG (mPut k l key zz) (.map (es.modify j λe=>{e with key:=a.eval ix,val:=a.eval y}) Ch)).ext (ok0:=ok0) (base:=base)
      have N1:((es.modify j λe=>{e with key:=a.eval ix,val:=a.eval y}).toList.map (·.born))=es.toList.map (·.born):=by
       rw[Yba];generalize es.toList=l0;clear FB hj AE g1 g2 g3 g4 g5 g6 g7 g8
       induction l0 generalizing j with
       |nil=>simp
       |cons x l0 ih=>cases j with
        |zero=>simp
        |succ j=>simp[ih j]
      refine⟨?_,λx hx=>?_,by rw[N1];exact hm.nd⟩
      rotate_left
      ·have h1:x.born∈(es.modify j λe=>{e with key:=a.eval ix,val:=a.eval y}).toList.map (·.born):=RO hx
       rw[N1]at h1;obtain⟨z,hz,e⟩:=Fw.1 h1;rw[<-e];exact hm.lt z hz
      rw[Yba];exact(g8 zz _ (a.eval y) _ UG Ald (λ_=>⟨rfl,rfl⟩)).mono (λ_ _ h=>h.mono FB.heap) (λ_ _ h=>h.mono FB.heap)
    ·cases hk
  ·cases hk
 ·cases hk
theorem AaF{T:Yq->Yb TI}(hT:TOk P T){t:Yq}(h:fKey T t=Yo):∃ti i z kt vt tk ik dk zk,TFacts P t ti i (.map kt vt) z/\TFacts P kt tk ik dk zk/\FK tk .str=Yo:=by
 unfold fKey at h;split at h
 ·rename_i ti ht
  obtain⟨i,d,z,f⟩:=hT.facts ht;split at h
  ·rename_i kt vt Pp
   have hd:=gM f Pp;subst hd;split at h
   ·rename_i tk Ed
    obtain⟨ik,dk,zk,fk⟩:=hT.facts Ed;exact⟨ti,i,z,kt,vt,tk,ik,dk,zk,f,fk,h⟩
   ·cases h
  ·cases h
 ·cases h
theorem AaG{E:Env}{kt:Yq}{w:Yx}{ok:Yk->Prop}{s:Ya Yl}{u:Yp}{Fd:Ya YL->Yk->Yb (Yk×Yp)->Prop}(H:Finds P w ok kt .str s u Fd):∀{l:Ya (Ya Yl×(Y6×Yk))}{es:Ya YL}(i:Yk),FRep E l es->fHas l s=Yc->Fd es i Ye
 |[],es,i,h,_=>by have h:es=[]:=h;subst h;exact H.nil i
 |x::l,es,i,⟨e,r,g,h1,h2,_,_,h5⟩,hn=>by
  subst h1;simp only[fHas,NS]at hn;rcases H.cons x.1 e r i ⟨[e.key],by rw[h2];rfl,rfl⟩with⟨F7,_,_⟩|⟨_,R3⟩
  ·have F7:Yf (x.1=s)=Yo:=F7
   rw[hn.1]at F7;cases F7
  ·exact R3 _ (AaG H (i+1) h5 hn.2)
theorem AaH{E:Env}{kt:Yq}{w:Yx}{ok:Yk->Prop}{s:Ya Yl}{u:Yp}{Fd:Ya YL->Yk->Yb (Yk×Yp)->Prop}(H:Finds P w ok kt .str s u Fd){kk:Y6×Yk->Yb β}{r:β}:∀{l:Ya (Ya Yl×(Y6×Yk))}{es:Ya YL}(i:Yk),FRep E l es->Oc kk l s=Yd r->∃y j g,kk y=Yd r/\E.pl y.2=Yd (.cells g)/\Fd es i (Yd (i+j,.func (.func y.1) #[.pointer (Yd ⟨g,0,Ye⟩)] #[]))
 |[],es,i,h,hf=>by cases hf
 |x::l,es,i,⟨e,B5,g,h1,h2,h3,h4,h5⟩,hf=>by
  subst h1;simp only[Oc]at hf;rcases H.cons x.1 e B5 i ⟨[e.key],by rw[h2];rfl,rfl⟩with⟨F7,_,bQ⟩|⟨F7,R3⟩
  ·have F7:Yf (x.1=s)=Yo:=F7
   rw[F7,Ao]at hf;exact⟨x.2,0,g,hf,h3,by rw[h4]at bQ;exact bQ⟩
  ·have F7:Yf (x.1=s)=Yc:=F7
   rw[F7,BU]at hf;obtain⟨y,j,g',q1,q2,q3⟩:=AaH H (i+1) h5 hf;exact⟨y,j+1,g',q1,q2,by have:=R3 _ q3;rwa [show i+(j+1)=i+1+j by omega]⟩
theorem FRep.app{E:Env}{y:Ya Yl×(Y6×Yk)}{e:YL}{g:Yk}(h1:e.key=.string ⟨y.1.toArray⟩)(h2:E.pl y.2.2=Yd (.cells g))(h3:e.val=.func (.func y.2.1) #[.pointer (Yd ⟨g,0,Ye⟩)] #[]):∀{l:Ya (Ya Yl×(Y6×Yk))}{es:Ya YL},FRep E l es->FRep E (l++[y]) (es++[e])
 |[],es,h=>by have h:es=[]:=h;subst h;exact⟨e,[],g,rfl,h1,h2,h3,rfl⟩
 |_::_,_,⟨e',r,g',q1,q2,q3,q4,q5⟩=>⟨e',r++[e],g',by rw[q1];rfl,q2,q3,q4,FRep.app h1 h2 h3 q5⟩
theorem AnA{T:Yq->Yb TI}(hT:TOk P T){kk:K β}{t:Yq}{x ix:Y0}{commaOk:Ys}(ho:o.op=.lookup t x ix commaOk)(hk:eH T bl t (ρ x) (ρ ix) commaOk kk=Yd r):Sound P o ρ bl kk r:=by
 unfold eH at hk;cases J4:fKey T t with
 |false=>rw[J4]at hk;cases hk
 |true=>
  rw[J4,Ao]at hk;obtain⟨ti,i,z,kt,vt,tk,ik,dk,zk,f,fk,hq⟩:=AaF hT J4;split at hk
  ·rename_i b s hx UZ
   split at hk
   ·rename_i t0 l hb
    have key:∀{l0:Ya (Ya Yl×(Y6×Yk))},Oc (λy=>kk (.c (.bfn y.1 y.2)) [b] []) l0 s=Yd r->∃y,kk (.c (.bfn y.1 y.2)) [b] []=Yd r/\∀{β':Type}(g:Y6×Yk->Yb β'),Oc g l0 s=g y:=by
     intro l0
     induction l0 with
     |nil=>intro h;cases h
     |cons x l0 ih=>
      intro h;simp only[Oc]at h⊢;cases hd:Yf (x.1=s)with
      |true=>rw[hd]at h;exact⟨x.2,h,λg=>rfl⟩
      |false=>rw[hd]at h;obtain⟨y,q1,q2⟩:=ih h;exact⟨y,q1,λg=>by simp only[BU];exact q2 g⟩
    obtain⟨y,hk,J0⟩:=key hk;refine Sound.pure hk λbl2 Aj ok0 base pl w a hr Ad=>?_;have Ay:bl2 b=Yd (.fmap t0 l):=(Aj b (by simp)).trans hb;have h1:=Ad x (by simp[ho,Yt]);have h2:=Ad ix (by simp[ho,Yt]);rw[hx]at h1;rw[UZ]at h2;obtain⟨g,hg,Bc⟩:=h1;have h2:a.eval ix=.string ⟨s.toArray⟩:=h2;obtain⟨p,hp,hB⟩:=hr.blks b _ Ay;have:p=.cells g:=by have h3:pl b=Yd (.cells g):=hg;rw[hp]at h3;injection h3
    subst this;obtain⟨es,Ch,hh,hm⟩:=hB;have hh:w.heap[g]?=Yd (.map es Ch):=hh;obtain⟨Fd,HF⟩:=WO fk hq (w:=w) (ok:=(Ak ok0 base pl bl2 w).ok) (key:=s) (u:=a.eval ix) ⟨[_],by rw[h2];rfl,rfl⟩;obtain⟨y',j,g',q1,q2,q3⟩:=AaH HF (E:=Ak ok0 base pl bl2 w) (kk:=Yd) 0 hm (J0 Yd);injection q1 with q1;subst q1
    have AE:(Y1 a.eval o).run P w=.ok (.value (.func (.func y'.1) #[.pointer (Yd ⟨g',0,Ye⟩)] #[])) w:=by simp[Y1,ho,Instr.lookup,Yu f.under,Bc,YN hh,HF.check,HF.run _ _ q3,YK]
    exact⟨_,AE,g',q2,rfl⟩
   ·cases hk
  ·cases hk
theorem AnB{T:Yq->Yb TI}(hT:TOk P T){kk:K β}{t:Yq}{x ix y:Y0}(ho:o.op=.insert t x ix y)(hk:eI T bl t (ρ x) (ρ ix) (ρ y) kk=Yd r):Sound P o ρ bl kk r:=by
 unfold eI at hk;cases J4:fKey T t with
 |false=>rw[J4]at hk;cases hk
 |true=>
  rw[J4,Ao]at hk;obtain⟨ti,i,z,kt,vt,tk,ik,dk,zk,f,fk,hq⟩:=AaF hT J4;split at hk
  ·rename_i b s fn rb hx UZ hy
   split at hk
   ·rename_i t0 l hb
    obtain⟨hn,hk⟩:=Dc hk;have hn:fHas l s=Yc:=by simpa using hn
    refine⟨_,_,_,hk,λbl2 Aj=>?_⟩;intro ok0 base pl w a hr Ad K Q hK;have Ay:bl2 b=Yd (.fmap t0 l):=(Aj b (by simp)).trans hb;have h1:=Ad x (by simp[ho,Yt]);have h2:=Ad ix (by simp[ho,Yt]);have h3:=Ad y (by simp[ho,Yt]);rw[hx]at h1;rw[UZ]at h2;rw[hy]at h3;obtain⟨g,hg,Bc⟩:=h1;have h2:a.eval ix=.string ⟨s.toArray⟩:=h2;obtain⟨gr,CG,Jf⟩:=h3;obtain⟨p,hp,hB⟩:=hr.blks b _ Ay;have C7:pl b=Yd (.cells g):=hg;have:p=.cells g:=by rw[hp]at C7;injection C7
    subst this;obtain⟨es,Ch,hh,hm⟩:=hB;have hh:w.heap[g]?=Yd (.map es Ch):=hh;obtain⟨Fd,HF⟩:=WO fk hq (w:=w) (ok:=(Ak ok0 base pl bl2 w).ok) (key:=s) (u:=a.eval ix) ⟨[_],by rw[h2];rfl,rfl⟩;have g1:=AaG HF 0 hm hn
    have AE:(Y1 a.eval o).run P w=.ok .skip {w with heap:=w.heap.setIfInBounds g (.map (es.push {key:=a.eval ix,val:=a.eval y,born:=Ch}) (Ch+1))}:=by simp[Y1,ho,YaL,Yu f.under,Bc,YN hh,HF.check,HF.run _ _ g1,Ya0 _ hh,YK]
    have DG:Step pl bl2 w (upd pl b (.cells g)) (upd bl2 b (.fmap t0 (l++[(s,(fn,rb))]))) {w with heap:=w.heap.setIfInBounds g (.map (es.push {key:=a.eval ix,val:=a.eval y,born:=Ch}) (Ch+1))}:=Step.wroteB hr Ay rfl C7 SK;refine MR AE (hK undef (upd pl b (.cells g)) _ (RelB.wroteB hr Ay rfl C7 SK ?_) DG trivial);refine⟨_,_,(heap_set hh).1,?_⟩;rw[Array.toList_push];have FB:=DG.ext (ok0:=ok0) (base:=base);exact(FRep.app (E:=Ak ok0 base pl bl2 w) (y:=(s,(fn,rb))) h2 CG Jf hm).mono FB
   ·cases hk
  ·cases hk
end
end Go.Lift
namespace Go.Lift
noncomputable section
open Go.RowKit
theorem MZ:∀(l:Ya (Yk×Blk))(bl:Yk->Yb Blk),LR bl l=updL bl l
 |[],_=>rfl
 |(j,x)::r,bl=>by
  funext i;simp only[LR,updL];rw[MZ r];congr 1;funext k;simp only[upd];by_cases h:k=j
  ·subst h;simp
  ·simp[IE h,h]
theorem gN{bl:Yk->Yb Blk}:∀{rds:Ya Yk}{p:Yk×Blk},p∈Db bl rds->p.2=.dead/\p.1∈rds/\∃B,bl p.1=Yd B/\B.lend=Yo
 |[],p,h=>by simp[Db]at h
 |b::r,p,h=>by
  have next:p∈Db bl r->p.2=.dead/\p.1∈b::r/\∃B,bl p.1=Yd B/\B.lend=Yo:=λh=>by obtain⟨h1,h2,h3⟩:=gN h;exact⟨h1,E6 _ h2,h3⟩
  simp only[Db]at h;split at h
  ·rename_i hb
   rcases Bg.1 h with rfl|h
   ·exact⟨rfl,by simp,_,hb,rfl⟩
   ·exact next h
  ·rename_i hb
   rcases Bg.1 h with rfl|h
   ·exact⟨rfl,by simp,_,hb,rfl⟩
   ·exact next h
  ·exact next h
theorem AaI{bl:Yk->Yb Blk}:∀{rds:Ya Yk}{b:Yk}{B:Blk},b∈rds->bl b=Yd B->B.lend=Yo->(b,Blk.dead)∈Db bl rds
 |[],b,_,h,_,_=>by simp at h
 |c::r,b,B,h,hb,hl=>by
  simp only[Db];rcases Bg.1 h with rfl|h
  ·rw[hb]
   cases B<;>first|exact NT|cases hl
  ·have:=AaI (rds:=r) h hb hl
   split
   ·exact E6 _ this
   ·exact E6 _ this
   ·exact this
theorem Gl:∀{wr:Ya (Yk×Blk)}{bl:Yk->Yb Blk}{b:Yk},b∉wids wr->updL bl wr b=bl b
 |[],_,_,_=>rfl
 |(i,x)::r,bl,b,h=>by simp only[wids,Bg,not_or]at h;rw[updL,Gl h.2];simp[upd,h.1]
theorem Om:∀{wr:Ya (Yk×Blk)}{bl bl':Yk->Yb Blk}{b:Yk},b∈wids wr->updL bl wr b=updL bl' wr b
 |[],_,_,_,h=>by simp[wids]at h
 |(i,x)::r,bl,bl',b,h=>by
  simp only[updL];by_cases hr:b∈wids r
  ·exact Om hr
  ·rw[Gl hr,Gl hr]
   have C9:b=i:=by simp only[wids,Bg]at h;exact h.resolve_right hr
   simp[upd,C9]
section
variable{P:Yv}{o:Oper}{ρ:Y0->V}{bl:Yk->Yb Blk}{β:Type}{r:β}
theorem freeze{ok0:OK0 P}{base:Yk}{pl:Yk->Yb Pl}{bl2:Yk->Yb Blk}{w:Yx}(hr:RelB ok0 base pl bl2 w)(rds:Ya Yk)(Ej:∀b∈rds,bl2 b=bl b):RelB ok0 base pl (updL bl2 (Db bl rds)) w/\Step pl bl2 w pl (updL bl2 (Db bl rds)) w/\∀(v:V)(u:Yp),(∀b∈Ct [v],b∈rds)->VRep (Ak ok0 base pl bl2 w) v u->VRep (Ak ok0 base pl (updL bl2 (Db bl rds)) w) (frzV bl v) u:=by
 have Pi:∀p∈Db bl rds,p.2=Blk.dead/\p.1∈rds/\∃B,bl2 p.1=Yd B/\B.lend=Yo:=λp hp=>by obtain⟨h1,h2,B,h3,h4⟩:=gN hp;exact⟨h1,h2,B,by rw[Ej _ h2];exact h3,h4⟩
 generalize bV:Db bl rds=kills at*
 have KE:∀i,updL bl2 kills i=bl2 i\/(updL bl2 kills i=Yd .dead/\∃B,bl2 i=Yd B/\B.lend=Yo):=λi=>by
  rcases Ol (l:=kills) (f:=bl2) i (λp hp=>(Pi p hp).1)with⟨h1,_⟩|⟨h1,p,hp,h2⟩
  ·exact .inl h1
  ·have:=Pi p hp
   rw[h2]at this;exact .inr ⟨h1,this.2.2⟩
 have hblkL:∀i B,updL bl2 kills i=Yd B->B.live=Yo->bl2 i=Yd B:=λi B hB hl=>by
  rcases KE i with h|⟨h,_⟩
  ·rw[<-h];exact hB
  ·rw[h]at hB
   injection hB with hB;subst hB;cases hl
 have Ah:∀g,Own pl (updL bl2 kills) g->Own pl bl2 g:=λg ⟨i,B,p,hB,hl,hp,hg⟩=>⟨i,B,p,hblkL i B hB hl,hl,hp,hg⟩
 have hs:Step pl bl2 w pl (updL bl2 kills) w:=⟨rfl,rfl,rfl,Aw _,λg _ ho=>⟨rfl,λh=>ho (Ah g h)⟩,λ_ _ h=>h,
  λb sv Ab hb=>⟨sv,Ab,hb,KeepR.of_live (λC h hC=>hblkL b _ h (by cases C<;>first|rfl|exact Yw rfl hC)) _ _⟩⟩
 refine⟨⟨hr.baseLe,λi B hB=>?_,λi j B C p q g Du hB hC hlB hlC hp hq hg=>?_,λi hi=>?_,hr.glob.mono Ah⟩,hs,λv u NG hv=>?_⟩
 ·cases hl:B.live with
  |false=>
   have Fl:∃B0,bl2 i=Yd B0:=by
    rcases KE i with h|⟨_,_,h,_⟩
    ·exact⟨B,by rw[<-h];exact hB⟩
    ·exact⟨_,h⟩
   obtain⟨B0,hB0⟩:=Fl;obtain⟨p,hp,_⟩:=hr.blks i B0 hB0;refine⟨p,hp,?_⟩;cases B<;>first|exact trivial|simp[Blk.live]at hl
  |true=>obtain⟨p,hp,hR⟩:=hr.blks i B (hblkL i B hB hl);exact⟨p,hp,BRep.mono hs.ext hR λ_ _=>rfl⟩
 ·exact hr.sep i j B C p q g Du (hblkL i B hB hlB) (hblkL j C hC hlC) hlB hlC hp hq hg
 ·rcases KE i with h|⟨h,_⟩
  ·exact hr.fresh i (by rw[<-h];exact hi)
  ·rw[h]at hi;cases hi
 ·
  generalize hE:Ak ok0 base pl bl2 w=E at hv;generalize hE':Ak ok0 base pl (updL bl2 kills) w=E';have hx:Ext E E':=by rw[<-hE,<-hE'];exact hs.ext
  have Mv:Eg E:=by rw[<-hE];exact hr.blksOk
  have hEbl:E.bl=bl2:=by rw[<-hE];rfl
  have hEpl:E.pl=pl:=by rw[<-hE];rfl
  have hEw:E.w=w:=by rw[<-hE];rfl
  have hEw':E'.w=w:=by rw[<-hE'];rfl
  have hEok:E.ok=λg=>(ok0 g\/(base<=g/\¬ok0.no g))/\¬Own pl bl2 g:=by rw[<-hE];rfl
  have hEok':E'.ok=λg=>(ok0 g\/(base<=g/\¬ok0.no g))/\¬Own pl (updL bl2 kills) g:=by rw[<-hE'];rfl
  have BS:∀g,E.ok g->E'.ok g:=λg hg=>by rw[hEok]at hg;rw[hEok'];exact⟨hg.1,λh=>hg.2 (Ah g h)⟩
  have wL:∀(b:Yk)(B:Blk)(p:Pl),b∈rds->bl b=Yd B->B.lend=Yo->pl b=Yd p->∀g,p.has g->E'.ok g:=by
   intro b B p Ci hb Bx h2 g hg;have Aj:bl2 b=Yd B:=by rw[Ej b Ci];exact hb
   rw[hEok'];refine⟨.inr (gG hr Aj Bx h2 hg),λho=>?_⟩;obtain⟨j,C,q,hC,hl,hq,Bh⟩:=ho;have hC2:=hblkL j C hC hl;by_cases Alj:j=b
   ·subst Alj
    have Co:(j,Blk.dead)∈kills:=by rw[<-bV];exact AaI Ci hb Bx
    rcases Ol (l:=kills) (f:=bl2) j (λp hp=>(Pi p hp).1)with⟨_,q⟩|⟨q,_⟩
    ·exact q _ Co rfl
    ·rw[q]at hC
     injection hC with hC;subst hC;cases hl
   ·exact hr.sep j b C _ q p g Alj hC2 Aj hl (Blk.lend_live Bx) hq h2 Bh hg
  have D1:∀(c:C)(u:Yp),(∀b∈Cx [c],b∈rds)->CRep E c u->CRep E' (frzC bl c) u:=by
   intro c u N3 hc;cases c with
   |sub b ver i j=>
    simp only[frzC];split
    ·rename_i t e ver' l hb
     cases AQ:Ym ver ver' with
     |false=>exact CRep.mono hx hc
     |true=>
      simp only[Ao];have V2:=At AQ;subst V2;have Ci:b∈rds:=N3 b (by simp[Cx]);have Aj:bl2 b=Yd (.row t e ver l):=by rw[Ej b Ci];exact hb
      have hrow:G6 bl2 b ver e=Yd l:=by simp[G6,Aj]
      obtain⟨t',sv,xs,_,h1,h2,h4,h5⟩:=WA (blp:=bl2) Mv (λt e ver l h=>by rw[hEbl];exact h) hrow;obtain⟨_,sv2,JD,Ge,AO⟩:=hc;rw[h2]at Ge;injection Ge with Ge;injection Ge with Ge _;subst Ge;obtain⟨A,c,ys,q1,q2,q3,q4,q5⟩:=fH ((AO _ _ _ _ h1).2 rfl) h4 h5;show DRep E'.w E'.ok (.slice e) ((l.take j).drop i) [u];rw[hEw',<-hEw];simp only[DRep];refine⟨A,c,ys,by rw[q1],q2,q3,q4.mono λx u hu=>hu.mono (λg h1 _=>⟨BS g h1,rfl⟩),λk v hk=>?_⟩;obtain⟨ad,r1,r2,r3⟩:=q5 k v hk;exact⟨ad,r1,wL b _ (.row sv []) Ci hb rfl (by rw[<-hEpl];exact h2) _ (YaN r2),r3⟩
    ·exact CRep.mono hx hc
   |row b ver=>
    simp only[frzC];split
    ·rename_i t e ver' l hb
     cases AQ:Ym ver ver' with
     |false=>exact CRep.mono hx hc
     |true=>
      simp only[Ao];have V2:=At AQ;subst V2;have Ci:b∈rds:=N3 b (by simp[Cx]);have Aj:bl2 b=Yd (.row t e ver l):=by rw[Ej b Ci];exact hb
      have hrow:G6 bl2 b ver e=Yd l:=by simp[G6,Aj]
      obtain⟨t',sv,xs,h1,h2,h3,h4,h5⟩:=WB (blp:=bl2) Mv (λt e ver l h=>by rw[hEbl];exact h) hrow hc;subst h3;have:=zU (okp:=E'.ok) BS (λg hg=>wL b _ (.row u []) Ci hb rfl (by rw[<-hEpl];exact h2) g (YaN hg)) h4 h5;show DRep E'.w E'.ok (.slice e) l [u];rw[hEw',<-hEw];exact this
    ·exact CRep.mono hx hc
   |trow b ver p=>
    cases p with
    |cons _ _=>exact CRep.mono hx hc
    |nil=>
     simp only[frzC];split
     ·rename_i t e ver' Am l hb
      cases AQ:Ym ver ver' with
      |false=>exact CRep.mono hx hc
      |true=>
       simp only[Ao];have V2:=At AQ;subst V2;have Ci:b∈rds:=N3 b (by simp[Cx]);have Aj:bl2 b=Yd (.tree t e ver Am Ye l):=by rw[Ej b Ci];exact hb
       have:=zV (blp:=bl2) (okp:=E'.ok) (e:=e.ty) (l:=l) BS Mv (b:=b) (ver:=ver) (λt e ver Am h l h'=>⟨by rw[hEbl];exact h',λsv Ab g Au hg=>wL b _ _ Ci (by rw[<-Ej b Ci];exact h') rfl (by rw[<-hEpl];exact Au) g hg⟩) (by simp[Sp,Aj]) hc;show DRep E'.w E'.ok (.slice e.ty) l [u];rw[hEw',<-hEw];exact this
     ·exact CRep.mono hx hc
   |_=>exact CRep.mono hx hc
  have J0:∀(cs:Ya C)(us:Ya Yp),(∀b∈Cx cs,b∈rds)->CReps E cs us->CReps E' (cs.map (frzC bl)) us:=by
   intro cs
   induction cs with
   |nil=>intro us _ h;exact h
   |cons c cs ih=>rintro us hc ⟨u,Cf,e,h1,h2⟩;refine⟨u,Cf,e,D1 c u (λb hb=>hc b ?_) h1,ih Cf (λb hb=>hc b (W9 hb)) h2⟩;have:Cx (c::cs)=Cx [c]++Cx cs:=S9 [c] cs;rw[this];exact CI _ hb
  cases v with
  |c x=>exact D1 x u (λb hb=>NG b (by simpa [Ct,V.cells]using hb)) hv
  |agg cs=>obtain⟨vs,h1,h2⟩:=hv;exact⟨vs,J0 cs vs (λb hb=>NG b (by simpa [Ct,V.cells]using hb)) h1,h2⟩
  |_=>exact VRep.mono hx hv
theorem AnC{rds:Ya Yk}{ρ':Y0->V}{kk:K β}(hρ:∀x∈o.op.operands,ρ' x=ρ x\/(ρ' x=frzV bl (ρ x)/\∀b∈Ct [ρ x],b∈rds))(h:Sound P o ρ' (updL bl (Db bl rds)) (λv rd wr=>kk v (rds++rd) (Db bl rds++wr)) r):Sound P o ρ bl kk r:=by
 obtain⟨v,rd,wr,hk,h⟩:=h;refine⟨v,rds++rd,Db bl rds++wr,hk,λbl2 Aj=>?_⟩;have Ej:∀b∈rds,bl2 b=bl b:=λb hb=>Aj b (CI _ hb)
 have Ek:∀b∈rd,updL bl2 (Db bl rds) b=updL bl (Db bl rds) b:=λb hb=>by
  by_cases hm:b∈wids (Db bl rds)
  ·exact Om hm
  ·rw[Gl hm,Gl hm]
   exact Aj b (Da _ hb)
 intro ok0 base pl w a hr hx K Q hK;obtain⟨h1,h2,h3⟩:=freeze (bl:=bl) hr rds Ej;refine h _ Ek ok0 base pl w a h1 (λx P2=>?_) K Q λval Ac w' k1 k2 k3=>?_
 ·rcases hρ x P2 with e|⟨e,AM⟩
  ·rw[e];exact VRep.mono h2.ext (hx x P2)
  ·rw[e];exact h3 _ _ AM (hx x P2)
 ·rw[LY]at hK
  exact hK val Ac w' k1 (h2.trans k2) k3
theorem gO:∀{vs:Ya V}{v:V},v∈vs->∀b∈Ct [v],b∈Ct vs
 |[],_,h=>by simp at h
 |u::us,v,h=>by
  intro b hb
  have hrow:∀(u:V)(us:Ya V),Ct (u::us)=Ct [u]++Ct us:=by intro u us;simp only[Ct];split<;>simp
  rw[hrow];rcases Bg.1 h with rfl|h
  ·exact CI _ hb
  ·exact Da _ (gO h b hb)
theorem Ma{xs:Ya Y0}{kk:K β}{run:(Yk->Yb Blk)->K β->Yb β}(AE8:∀x∈o.op.operands,x∈xs)(hk:JO bl (Ct (xs.map ρ)) run kk=Yd r)(h:∀(bl':Yk->Yb Blk)(Dl:K β),run bl' Dl=Yd r->Sound P o (λx=>frzV bl (ρ x)) bl' Dl r):Sound P o ρ bl kk r:=by
 unfold JO at hk;rw[MZ]at hk;exact AnC (rds:=Ct (xs.map ρ)) (ρ':=λx=>frzV bl (ρ x)) (λx hx=>.inr ⟨rfl,gO (Fw.2 ⟨x,AE8 x hx,rfl⟩)⟩) (h _ _ hk)
theorem gP{E E':Env}{rds:Ya Yk}(hx:Ext E E')(h:∀(c:C)(u:Yp),(∀b∈Cx [c],b∈rds)->CRep E c u->CRep E' (frzC bl c) u):∀(i:Yk)(ps:Ya Yk){cs:Ya C}{vs:Ya Yp},(∀b∈Fy i ps cs,b∈rds)->CReps E cs vs->CReps E' (Le bl i ps cs) vs
 |_,_,[],_,_,hc=>hc
 |i,ps,c::cs,_,hr,⟨u,us,e,h1,h2⟩=>by
  cases hm:memB i ps with
  |true=>
   have AR:∀b∈Cx [c]++Fy (i+1) ps cs,b∈rds:=by simpa [Fy,hm]using hr
   refine⟨u,us,e,?_,gP hx h (i+1) ps (λb hb=>AR b (Da _ hb)) h2⟩;rw[hm];exact h c u (λb hb=>AR b (CI _ hb)) h1
  |false=>
   have AR:∀b∈Fy (i+1) ps cs,b∈rds:=by simpa [Fy,hm]using hr
   refine⟨u,us,e,?_,gP hx h (i+1) ps AR h2⟩;rw[hm];exact CRep.mono hx h1
theorem AnD{b:Yk}{t0:Yq}{ps:Ya Yk}{cs:Ya C}{kk:K β}(hb:bl b=Yd (.cells t0 cs))(h:Sound P o ρ (updL (updL bl (Db bl (Fy 0 ps cs))) [(b,.cells t0 (Le bl 0 ps cs))]) (λv rd wr=>kk v (Fy 0 ps cs++(b::rd)) (Db bl (Fy 0 ps cs)++((b,.cells t0 (Le bl 0 ps cs))::wr))) r):Sound P o ρ bl kk r:=by
 obtain⟨v,rd,wr,hk,h⟩:=h;refine⟨v,Fy 0 ps cs++(b::rd),_,hk,λbl2 Aj=>?_⟩;have Ej:∀i∈Fy 0 ps cs,bl2 i=bl i:=λi hi=>Aj i (CI _ hi);have EX:bl2 b=Yd (.cells t0 cs):=(Aj b (by simp)).trans hb
 have w6:b∉wids (Db bl (Fy 0 ps cs)):=λhm=>by
  have:∀(l:Ya (Yk×Blk)),b∈wids l->∃x,(b,x)∈l:=by
   intro l
   induction l with
   |nil=>intro h;simp[wids]at h
   |cons p l ih=>
    intro h;simp only[wids,Bg]at h;rcases h with rfl|h
    ·exact⟨p.2,by simp⟩
    ·obtain⟨x,hx⟩:=ih h
     exact⟨x,E6 _ hx⟩
  obtain⟨x,hx⟩:=this _ hm;obtain⟨_,_,B,h3,h4⟩:=gN hx;rw[show bl b=_ from h3]at hb;injection hb with hb;subst hb;cases h4
 have Ek:∀i∈rd,updL (updL bl2 (Db bl (Fy 0 ps cs))) [(b,Blk.cells t0 (Le bl 0 ps cs))] i=updL (updL bl (Db bl (Fy 0 ps cs))) [(b,Blk.cells t0 (Le bl 0 ps cs))] i:=λi hi=>by
  simp only[updL,upd];by_cases N6:i=b
  ·simp[N6]
  ·simp only[N6,Cb]
   by_cases hm:i∈wids (Db bl (Fy 0 ps cs))
   ·exact Om hm
   ·rw[Gl hm,Gl hm]
    exact Aj i (by simp[hi])
 intro ok0 base pl w a hr hx K Q hK;obtain⟨h1,h2,h3⟩:=freeze (bl:=bl) hr (Fy 0 ps cs) Ej;obtain⟨p,hp,hB⟩:=hr.blks b _ EX;cases p with
 |row _ _=>exact hB.elim
 |cells g=>
  obtain⟨vs,hh,Bn⟩:=hB;have UD:=gP (bl:=bl) h2.ext (rds:=Fy 0 ps cs) (λc u hc h=>h3 (.c c) u (λb hb=>hc b (by simpa [Ct,V.cells]using hb)) h) 0 ps (λ_ h=>h) Bn;have AV:updL bl2 (Db bl (Fy 0 ps cs)) b=Yd (.cells t0 cs):=(Gl w6).trans EX;rw[LY]at hK;generalize updL bl2 (Db bl (Fy 0 ps cs))=bl1 at*
  have Bk:upd pl b (.cells g)=pl:=by
   funext j;simp only[upd];split
   ·rename_i h;rw[h];exact hp.symm
   ·rfl
  have DG:Step pl bl1 w (upd pl b (.cells g)) (upd bl1 b (.cells t0 (Le bl 0 ps cs))) w:=by
   rw[Bk];refine⟨rfl,rfl,rfl,Aw _,λg' _ ho=>⟨rfl,?_⟩,λ_ _ h=>h,λb' sv Ab Ay=>⟨sv,Ab,Ay,?_⟩⟩
   ·rintro⟨j,C,q,hC,hl,hq,Bh⟩
    by_cases hj:j=b
    ·subst hj
     exact ho ⟨j,_,q,AV,rfl,hq,Bh⟩
    ·simp only[upd,hj,Cb]at hC
     exact ho ⟨j,C,q,hC,hl,hq,Bh⟩
   ·have Az:b'≠b:=by rintro rfl;rw[hp]at Ay;cases Ay
    exact KeepR.of_eq (λC hC=>by simpa [upd,Az]using hC) _ _
  have Vp:=h1.put DG (BRep.mono DG.ext (B:=.cells t0 (Le bl 0 ps cs)) (p:=.cells g) ⟨vs,hh,UD⟩ λ_ _=>rfl) λj C q g' hj hC hl hq Bh=>⟨rfl,λC7=>h1.sep j b C _ q _ g' hj hC AV hl rfl hq hp Bh C7⟩;rw[Bk]at Vp DG;refine h _ Ek ok0 base pl w a Vp (λx P2=>VRep.mono (h2.trans DG).ext (hx x P2)) K Q λval Ac w' k1 k2 k3=>?_;exact hK val Ac w' k1 ((h2.trans DG).trans k2) k3
theorem AnE{T:Yq->Yb TI}(hT:TOk P T){kk:K β}{t:Yq}{ps:Ya Yk}{x:Y0}(ho:o.op=.load t x)(hk:f9 T bl t ps (ρ x) kk=Yd r):Sound P o ρ bl kk r:=by
 unfold f9 at hk;split at hk
 ·rename_i b of hx
  split at hk
  ·rename_i t0 cs hb
   rw[MZ,MZ]at hk;rw[<-hx]at hk;exact AnD hb (WI hT ho hk)
  ·cases hk
 ·exact WI hT ho hk
theorem SL:∀{ids:Ya Yk}{p:Yk×Blk},p∈dead ids->p.2=.dead/\p.1∈ids
 |[],p,h=>by simp[dead]at h
 |i::r,p,h=>by
  simp only[dead,Bg]at h;rcases h with rfl|h
  ·exact⟨rfl,by simp⟩
  ·exact⟨(SL h).1,E6 _ (SL h).2⟩
theorem AaJ:∀{ids:Ya Yk}{i:Yk},i∈ids->(i,Blk.dead)∈dead ids
 |[],i,h=>by simp at h
 |j::r,i,h=>by
  simp only[dead,Bg];rcases Bg.1 h with rfl|h
  ·exact .inl rfl
  ·exact .inr (AaJ h)
theorem AaK:∀(ids:Ya Yk),wids (dead ids)=ids
 |[]=>rfl
 |i::r=>by simp only[dead,wids,AaK r]
theorem AnF{ok0:OK0 P}{base:Yk}{pl:Yk->Yb Pl}{bl2:Yk->Yb Blk}{w:Yx}(hr:RelB ok0 base pl bl2 w)(ids:Ya Yk)(L3:∀i∈ids,∃B,bl2 i=Yd B/\B.rowy=Yo):RelB ok0 base pl (updL bl2 (dead ids)) w/\Step pl bl2 w pl (updL bl2 (dead ids)) w/\∀i∈ids,∀p,pl i=Yd p->∀g,p.has g->(Ak ok0 base pl (updL bl2 (dead ids)) w).ok g:=by
 have KE:∀i,updL bl2 (dead ids) i=bl2 i\/(updL bl2 (dead ids) i=Yd .dead/\∃B,bl2 i=Yd B/\B.rowy=Yo):=λi=>by
  rcases Ol (l:=dead ids) (f:=bl2) i (λp hp=>(SL hp).1)with⟨h1,_⟩|⟨h1,p,hp,h2⟩
  ·exact .inl h1
  ·have:=(SL hp).2
   rw[h2]at this;exact .inr ⟨h1,L3 i this⟩
 have hblkL:∀i B,updL bl2 (dead ids) i=Yd B->B.live=Yo->bl2 i=Yd B:=λi B hB hl=>by
  rcases KE i with h|⟨h,_⟩
  ·rw[<-h];exact hB
  ·rw[h]at hB
   injection hB with hB;subst hB;cases hl
 have Ah:∀g,Own pl (updL bl2 (dead ids)) g->Own pl bl2 g:=λg ⟨i,B,p,hB,hl,hp,hg⟩=>⟨i,B,p,hblkL i B hB hl,hl,hp,hg⟩
 have hs:Step pl bl2 w pl (updL bl2 (dead ids)) w:=⟨rfl,rfl,rfl,Aw _,λg _ ho=>⟨rfl,λh=>ho (Ah g h)⟩,λ_ _ h=>h,
  λb sv Ab hb=>⟨sv,Ab,hb,KeepR.of_live (λC h hC=>hblkL b _ h (by cases C<;>first|rfl|exact Yw rfl hC)) _ _⟩⟩
 refine⟨⟨hr.baseLe,λi B hB=>?_,λi j B C p q g Du hB hC hlB hlC hp hq hg=>?_,λi hi=>?_,hr.glob.mono Ah⟩,hs,λi hi p hp g hg=>?_⟩
 ·cases hl:B.live with
  |false=>
   have Fl:∃B0,bl2 i=Yd B0:=by
    rcases KE i with h|⟨_,_,h,_⟩
    ·exact⟨B,by rw[<-h];exact hB⟩
    ·exact⟨_,h⟩
   obtain⟨B0,hB0⟩:=Fl;obtain⟨p,hp,_⟩:=hr.blks i B0 hB0;refine⟨p,hp,?_⟩;cases B<;>first|exact trivial|simp[Blk.live]at hl
  |true=>obtain⟨p,hp,hR⟩:=hr.blks i B (hblkL i B hB hl);exact⟨p,hp,BRep.mono hs.ext hR λ_ _=>rfl⟩
 ·exact hr.sep i j B C p q g Du (hblkL i B hB hlB) (hblkL j C hC hlC) hlB hlC hp hq hg
 ·rcases KE i with h|⟨h,_⟩
  ·exact hr.fresh i (by rw[<-h];exact hi)
  ·rw[h]at hi;cases hi
 ·obtain⟨B,Aj,Bx⟩:=L3 i hi
  refine⟨.inr (Anh hr Aj Bx hp hg),λho=>?_⟩;obtain⟨j,C,q,hC,hl,hq,Bh⟩:=ho;have hC2:=hblkL j C hC hl;by_cases Va:j=i
  ·subst Va
   rcases Ol (l:=dead ids) (f:=bl2) j (λp hp=>(SL hp).1)with⟨_,q⟩|⟨q,_⟩
   ·exact q _ (AaJ hi) rfl
   ·rw[q]at hC
    injection hC with hC;subst hC;cases hl
  ·exact hr.sep j i C _ q p g Va hC2 Aj hl (Blk.rowy_live Bx) hq hp Bh hg
theorem AaL{E E':Env}{e:Ty}{f:Ya C->Yb (e.den×(Ya C×Ya Yk))}{Q:Yk->Prop}(hf:∀cs vs x r ids,f cs=Yd (x,r,ids)->(∀i∈ids,Q i)->CReps E cs vs->∃us ws,vs=us++ws/\DRep E'.w E'.ok e x us/\CReps E r ws):∀(n:Yk)(cs:Ya C)(vs:Ya Yp)(l:Ya e.den)(ids:Ya Yk),IH f n cs=Yd (l,ids)->(∀i∈ids,Q i)->CReps E cs vs->l.length=n/\DList (λx u=>DRep E'.w E'.ok e x u) l vs
 |0,[],vs,l,ids,h,_,hc=>by simp only[IH,Af,Bv]at h;obtain⟨rfl,rfl⟩:=h;exact⟨rfl,hc⟩
 |0,_::_,_,_,_,h,_,_=>by simp[IH]at h
 |n+1,cs,vs,l,ids,h,hq,hc=>by
  simp only[IH]at h;split at h
  ·cases h
  ·rename_i x r i1 hx
   split at h
   ·cases h
   ·rename_i l2 i2 h2
    simp only[Af,Bv]at h;obtain⟨rfl,rfl⟩:=h;obtain⟨us,ws,rfl,d1,c1⟩:=hf cs vs x r i1 hx (λi hi=>hq i (CI _ hi)) hc;obtain⟨q1,q2⟩:=AaL hf n r ws l2 i2 h2 (λi hi=>hq i (Da _ hi)) c1;exact⟨by simp[q1],us,ws,rfl,d1,q2⟩
theorem AaM{α:Type}{f:Ya C->Yb (α×(Ya C×Ya Yk))}{Q:Yk->Prop}(hf:∀cs x r ids,f cs=Yd (x,r,ids)->∀i∈ids,Q i):∀(n:Yk)(cs:Ya C)(l:Ya α)(ids:Ya Yk),IH f n cs=Yd (l,ids)->∀i∈ids,Q i
 |0,[],l,ids,h=>by simp only[IH,Af,Bv]at h;obtain⟨rfl,rfl⟩:=h;intro i hi;simp at hi
 |0,_::_,_,_,h=>by simp[IH]at h
 |n+1,cs,l,ids,h=>by
  simp only[IH]at h;split at h
  ·cases h
  ·rename_i x r i1 hx
   split at h
   ·cases h
   ·rename_i l2 i2 h2
    simp only[Af,Bv]at h;obtain⟨rfl,rfl⟩:=h;intro i hi;exact(BV.1 hi).elim (hf _ _ _ _ hx i) (AaM hf n _ _ _ h2 i)
theorem AaN{α:Type}{f f':Ya C->Yb (α×(Ya C×Ya Yk))}{Q:Yk->Prop}(hf:∀cs x r ids,f cs=Yd (x,r,ids)->(∀i∈ids,Q i)->f' cs=Yd (x,r,ids)):∀(n:Yk)(cs:Ya C)(l:Ya α)(ids:Ya Yk),IH f n cs=Yd (l,ids)->(∀i∈ids,Q i)->IH f' n cs=Yd (l,ids)
 |0,[],l,ids,h,_=>h
 |0,_::_,_,_,h,_=>by simp[IH]at h
 |n+1,cs,l,ids,h,hq=>by
  simp only[IH]at h⊢;split at h
  ·cases h
  ·rename_i x r i1 hx
   split at h
   ·cases h
   ·rename_i l2 i2 h2
    simp only[Af,Bv]at h;obtain⟨rfl,rfl⟩:=h;rw[hf _ _ _ _ hx λi hi=>hq i (CI _ hi)];simp only;rw[AaN hf n _ _ _ h2 λi hi=>hq i (Da _ hi)]
theorem WP:∀{τ:Ty}{cs:Ya C}{x:τ.den}{r:Ya C}{ids:Ya Yk},dfrz bl τ cs=Yd (x,r,ids)->∀i∈ids,∃B,bl i=Yd B/\B.rowy=Yo
 |.prod a b,cs,x,r,ids,h=>by
  simp only[dfrz]at h;split at h
  ·cases h
  ·rename_i y r1 i1 h1
   split at h
   ·cases h
   ·rename_i z r2 i2 h2
    simp only[Af,Bv]at h;obtain⟨rfl,rfl,rfl⟩:=h;intro i hi;exact(BV.1 hi).elim (WP h1 i) (WP h2 i)
 |.slice e,[],x,r,ids,h=>by simp[dfrz,pack]at h
 |.slice e,c::r0,x,r,ids,h=>by
  cases c with
  |row b ver=>
   simp only[dfrz]at h;split at h
   ·cases h
   ·rename_i l hl
    simp only[Af,Bv]at h;obtain⟨rfl,rfl,rfl⟩:=h;intro i hi;rw[DS.1 hi];unfold G6 at hl;split at hl
    ·rename_i hb;exact⟨_,hb,rfl⟩
    ·cases hl
  |hrow b=>
   simp only[dfrz]at h;split at h
   ·rename_i t e' m cs' hb
    split at h
    ·rename_i he
     subst he;split at h
     ·rename_i l AZ hp
      simp only[Af,Bv]at h;obtain⟨rfl,rfl,rfl⟩:=h;intro i hi;rcases Bg.1 hi with rfl|hi
      ·exact⟨_,hb,rfl⟩
      ·exact AaM (Q:=λi=>∃B,bl i=Yd B/\B.rowy=Yo) (λ_ _ _ _ hx=>WP hx) _ _ _ _ hp i hi
     ·cases h
    ·cases h
   ·cases h
  |_=>
   simp only[dfrz]at h;split at h
   ·simp only[Af,Bv]at h
    obtain⟨_,_,rfl⟩:=h;intro i hi;simp at hi
   ·cases h
 |.bool,cs,x,r,ids,h|.int _,cs,x,r,ids,h|.str,cs,x,r,ids,h|.err,cs,x,r,ids,h|.unit,cs,x,r,ids,h=>by
  simp only[dfrz]at h;split at h
  ·simp only[Af,Bv]at h
   obtain⟨_,_,rfl⟩:=h;intro i hi;simp at hi
  ·cases h
theorem WQ{bl bl2:Yk->Yb Blk}:∀{τ:Ty}{cs:Ya C}{x:τ.den}{r:Ya C}{ids:Ya Yk},dfrz bl τ cs=Yd (x,r,ids)->(∀i∈ids,bl2 i=bl i)->dfrz bl2 τ cs=Yd (x,r,ids)
 |.prod a b,cs,x,r,ids,h,hq=>by
  simp only[dfrz]at h⊢;split at h
  ·cases h
  ·rename_i y r1 i1 h1
   split at h
   ·cases h
   ·rename_i z r2 i2 h2
    simp only[Af,Bv]at h;obtain⟨rfl,rfl,rfl⟩:=h;rw[WQ h1 λi hi=>hq i (CI _ hi)];simp only;rw[WQ h2 λi hi=>hq i (Da _ hi)]
 |.slice e,[],x,r,ids,h,_=>by simp[dfrz,pack]at h
 |.slice e,c::r0,x,r,ids,h,hq=>by
  cases c with
  |row b ver=>
   simp only[dfrz]at h⊢;split at h
   ·cases h
   ·rename_i l hl
    simp only[Af,Bv]at h;obtain⟨rfl,rfl,rfl⟩:=h;have:G6 bl2 b ver e=G6 bl b ver e:=by unfold G6;rw[hq b (by simp)]
    rw[this,hl]
  |hrow b=>
   simp only[dfrz]at h⊢;split at h
   ·rename_i t e' m cs' hb
    split at h
    ·rename_i he
     subst he;split at h
     ·rename_i l AZ hp
      simp only[Af,Bv]at h;obtain⟨rfl,rfl,rfl⟩:=h;rw[hq b (by simp),hb];simp only[CR];rw[AaN (Q:=λi=>bl2 i=bl i) (f':=dfrz bl2 e') (λ_ _ _ _ hx hi=>WQ hx hi) _ _ _ _ hp λi hi=>hq i (E6 _ hi)]
     ·cases h
    ·cases h
   ·cases h
  |_=>simpa only[dfrz]using h
 |.bool,cs,x,r,ids,h,_|.int _,cs,x,r,ids,h,_|.str,cs,x,r,ids,h,_|.err,cs,x,r,ids,h,_|.unit,cs,x,r,ids,h,_=>by simpa only[dfrz]using h
theorem WR{E E':Env}(hx:Ext E E')(hw:E'.w=E.w)(hb:Eg E):∀{τ:Ty}{cs:Ya C}{vs:Ya Yp}{x:τ.den}{r:Ya C}{ids:Ya Yk},dfrz E.bl τ cs=Yd (x,r,ids)->(∀i∈ids,∀p,E.pl i=Yd p->∀g,p.has g->E'.ok g)->CReps E cs vs->∃us ws,vs=us++ws/\DRep E'.w E'.ok τ x us/\CReps E r ws
 |.prod a b,cs,vs,x,r,ids,h,hq,hc=>by
  simp only[dfrz]at h;split at h
  ·cases h
  ·rename_i y r1 i1 h1
   split at h
   ·cases h
   ·rename_i z r2 i2 h2
    simp only[Af,Bv]at h;obtain⟨rfl,rfl,rfl⟩:=h;obtain⟨us,ws,rfl,d1,c1⟩:=WR hx hw hb h1 (λi hi=>hq i (CI _ hi)) hc;obtain⟨us2,ws2,rfl,d2,c2⟩:=WR hx hw hb h2 (λi hi=>hq i (Da _ hi)) c1;exact⟨us++us2,ws2,by rw[C1],⟨us,us2,rfl,d1,d2⟩,c2⟩
 |.slice e,[],vs,x,r,ids,h,_,_=>by simp[dfrz,pack]at h
 |.slice e,c::r0,vs,x,r,ids,h,hq,hc=>by
  have plain:∀x1 r1,pack (λ_=>Ye) (.slice e) (c::r0)=Yd (x1,r1)->x1=x/\r1=r->∃us ws,vs=us++ws/\DRep E'.w E'.ok (.slice e) x us/\CReps E r ws:=by rintro x1 r1 hp ⟨rfl,rfl⟩;obtain⟨us,ws,e1,d,c1,_⟩:=LW hb (Rows.none E _) hc hp;exact⟨us,ws,e1,d.mono hx.heap,c1⟩
  cases c with
  |row b ver=>
   simp only[dfrz]at h;split at h
   ·cases h
   ·rename_i l hl
    simp only[Af,Bv]at h;obtain⟨rfl,rfl,rfl⟩:=h;obtain⟨v,ws,rfl,h1,h2⟩:=hc;obtain⟨t',sv,xs,q1,q2,q3,q4,q5⟩:=WB (blp:=E.bl) hb (λ_ _ _ _ h=>h) hl h1;subst q3;refine⟨[v],ws,rfl,?_,h2⟩;rw[hw];refine fI (λg hg=>hq b (by simp) _ q2 g (.inl hg)) (q4.mono λx u hu=>?_) q5;have:=hu.mono hx.heap;rw[hw]at this;exact this
  |hrow b=>
   simp only[dfrz]at h;split at h
   ·rename_i t e' m cs' An
    split at h
    ·rename_i he
     subst he;split at h
     ·rename_i l AZ hp
      simp only[Af,Bv]at h;obtain⟨rfl,rfl,rfl⟩:=h;obtain⟨v,ws,rfl,h1,h2⟩:=hc;obtain⟨_,sv,Ab,Bk,AO⟩:=h1;have hv:=AO t e' m cs' An;subst hv;obtain⟨p,CB,hB⟩:=hb b _ An;rw[Bk]at CB;injection CB with CB;subst CB;obtain⟨_,Av,Bn,Ah⟩:=hB;obtain⟨AK,hd⟩:=AaL (E:=E) (E':=E') (Q:=λi=>∀p,E.pl i=Yd p->∀g,p.has g->E'.ok g) (λcs vs x r ids Gu Vq CA=>WR hx hw hb Gu Vq CA) _ _ _ _ _ hp (λi hi=>hq i (E6 _ hi)) Bn;refine⟨[v],ws,rfl,?_,h2⟩;rw[hw]at hd⊢;exact fI (λg hg=>hq b (by simp) _ Bk g (.inl hg)) hd (by rw[AK];exact Ah)
     ·cases h
    ·cases h
   ·cases h
  |_=>
   simp only[dfrz]at h;split at h
   ·rename_i x1 r1 hp
    simp only[Af,Bv]at h;exact plain x1 r1 hp ⟨h.1,h.2.1⟩
   ·cases h
 |.bool,cs,vs,x,r,ids,h,_,hc|.int _,cs,vs,x,r,ids,h,_,hc|.str,cs,vs,x,r,ids,h,_,hc|.err,cs,vs,x,r,ids,h,_,hc|.unit,cs,vs,x,r,ids,h,_,hc=>by
  simp only[dfrz]at h;split at h
  ·rename_i x1 r1 hp
   simp only[Af,Bv]at h;obtain⟨AEP,rfl,rfl⟩:=h;obtain⟨us,ws,e1,d,c1,_⟩:=LW hb (Rows.none E _) hc hp;exact⟨us,ws,e1,by first|(rw[<-AEP];exact d.mono hx.heap)|exact d.mono hx.heap,c1⟩
  ·cases h
theorem AnG{b:Yk}{t0:Yq}{τ:Ty}{of n:Yk}{cs rc cs':Ya C}{x:τ.den}{ids:Ya Yk}{kk:K β}(hb:bl b=Yd (.cells t0 cs))(AM:sub cs of n=Yd rc)(hx:dfrz bl τ rc=Yd (x,[],ids))(E3:over cs of (cells τ x)=Yd cs')(h:Sound P o ρ (updL (updL bl (dead ids)) [(b,.cells t0 cs')]) (λv rd wr=>kk v (ids++(b::rd)) (dead ids++((b,.cells t0 cs')::wr))) r):Sound P o ρ bl kk r:=by
 obtain⟨v,rd,wr,hk,h⟩:=h;refine⟨v,ids++(b::rd),_,hk,λbl2 Aj=>?_⟩;have Ej:∀i∈ids,bl2 i=bl i:=λi hi=>Aj i (CI _ hi);have EX:bl2 b=Yd (.cells t0 cs):=(Aj b (by simp)).trans hb;have UX:∀i∈ids,∃B,bl2 i=Yd B/\B.rowy=Yo:=λi hi=>by rw[Ej i hi];exact WP hx i hi
 have w6:b∉wids (dead ids):=λhm=>by rw[AaK]at hm;obtain⟨B,h3,h4⟩:=UX b hm;rw[EX]at h3;injection h3 with h3;subst h3;cases h4
 have Ek:∀i∈rd,updL (updL bl2 (dead ids)) [(b,Blk.cells t0 cs')] i=updL (updL bl (dead ids)) [(b,Blk.cells t0 cs')] i:=λi hi=>by
  simp only[updL,upd];by_cases N6:i=b
  ·simp[N6]
  ·simp only[N6,Cb]
   by_cases hm:i∈wids (dead ids)
   ·exact Om hm
   ·rw[Gl hm,Gl hm]
    exact Aj i (by simp[hi])
 intro ok0 base pl w a hr Ad K Q hK;obtain⟨h1,h2,h3⟩:=AnF hr ids UX;obtain⟨p,hp,hB⟩:=hr.blks b _ EX;cases p with
 |row _ _=>exact hB.elim
 |cells g=>
  obtain⟨vs,hh,Bn⟩:=hB;obtain⟨s1,s2,s3⟩:=LV Bn AM;obtain⟨us,ws,e1,d1,c1⟩:=WR (E:=Ak ok0 base pl bl2 w) (E':=Ak ok0 base pl (updL bl2 (dead ids)) w) h2.ext rfl hr.blksOk (WQ (bl2:=bl2) hx Ej) (λi hi p hp g hg=>h3 i hi p hp g hg) s1;have c1:ws=[]:=c1;subst c1;rw[Gj]at e1;obtain⟨o1,o2⟩:=Of (Bn.mono h2.ext) (FW d1) E3
  have Ck:vs.take of++us++vs.drop (of+us.length)=vs:=by
   have DR:us.length=n:=by rw[<-e1];exact s2
   rw[<-e1,s2,C1]
   have:(vs.drop of).take n++vs.drop (of+n)=vs.drop of:=by rw[<-PJ,NR]
   rw[this,NR]
  rw[Ck]at o1;have AV:updL bl2 (dead ids) b=Yd (.cells t0 cs):=(Gl w6).trans EX;rw[LY]at hK;generalize updL bl2 (dead ids)=bl1 at*
  have Bk:upd pl b (.cells g)=pl:=by
   funext j;simp only[upd];split
   ·rename_i h;rw[h];exact hp.symm
   ·rfl
  have DG:Step pl bl1 w (upd pl b (.cells g)) (upd bl1 b (.cells t0 cs')) w:=by
   rw[Bk];refine⟨rfl,rfl,rfl,Aw _,λg' _ ho=>⟨rfl,?_⟩,λ_ _ h=>h,λb' sv Ab Ay=>⟨sv,Ab,Ay,?_⟩⟩
   ·rintro⟨j,C,q,hC,hl,hq,Bh⟩
    by_cases hj:j=b
    ·subst hj
     exact ho ⟨j,_,q,AV,rfl,hq,Bh⟩
    ·simp only[upd,hj,Cb]at hC
     exact ho ⟨j,C,q,hC,hl,hq,Bh⟩
   ·have Az:b'≠b:=by rintro rfl;rw[hp]at Ay;cases Ay
    exact KeepR.of_eq (λC hC=>by simpa [upd,Az]using hC) _ _
  have Vp:=h1.put DG (BRep.mono DG.ext (B:=.cells t0 cs') (p:=.cells g) ⟨vs,hh,o1⟩ λ_ _=>rfl) λj C q g' hj hC hl hq Bh=>⟨rfl,λC7=>h1.sep j b C _ q _ g' hj hC AV hl rfl hq hp Bh C7⟩;rw[Bk]at Vp DG;refine h _ Ek ok0 base pl w a Vp (λx P2=>VRep.mono (h2.trans DG).ext (Ad x P2)) K Q λval Ac w' k1 k2 k3=>?_;exact hK val Ac w' k1 ((h2.trans DG).trans k2) k3
theorem AnH{T:Yq->Yb TI}(hT:TOk P T){kk:K β}{t:Yq}{x:Y0}(ho:o.op=.load t x)(hk:fB T bl t (ρ x) kk=Yd r):Sound P o ρ bl kk r:=by
 unfold fB at hk;split at hk
 ·rename_i b of ti hx ht
  split at hk
  ·rename_i τ t0 cs hτ hb
   split at hk
   ·cases hk
   ·rename_i rc AM
    split at hk
    ·rename_i y ids hd
     split at hk
     ·rename_i cs' E3
      rw[MZ,MZ]at hk;rw[<-hx]at hk;exact AnG hb AM hd E3 (WI hT ho hk)
     ·cases hk
    ·cases hk
  ·cases hk
 ·cases hk
theorem AaO{E:Env}{e:Ty}:∀{l:Ya e.den}{xs:Ya Yp},DList (λx u=>DRep E.w E.ok e x u) l xs->CReps E (LS e l) xs
 |[],_,h=>h
 |x::l,_,⟨u,v,e1,h1,h2⟩=>by rw[e1];exact(FW h1).append (AaO h2)
theorem AnI{b ver nx:Yk}{t:Yq}{e:Ty}{l:Ya e.den}{kk:K β}(hb:bl b=Yd (.row t e ver l))(hn:bl nx=Ye)(h:Sound P o (λy=>Wu b ver nx (ρ y)) (updL bl [(b,.dead),(nx,.crow t e l.length (LS e l))]) (λv rd wr=>kk v (b::nx::rd) ((b,.dead)::(nx,.crow t e l.length (LS e l))::wr)) r):Sound P o ρ bl kk r:=by
 obtain⟨v,rd,wr,hk,h⟩:=h;refine⟨v,b::nx::rd,_,hk,λbl2 Aj=>?_⟩;have EX:bl2 b=Yd (.row t e ver l):=(Aj b (by simp)).trans hb;have x8:bl2 nx=Ye:=(Aj nx (by simp)).trans hn;have Az:b≠nx:=by rintro rfl;rw[hb]at hn;cases hn
 have Ek:∀i∈rd,updL bl2 [(b,Blk.dead),(nx,.crow t e l.length (LS e l))] i=updL bl [(b,Blk.dead),(nx,.crow t e l.length (LS e l))] i:=λi hi=>by
  simp only[updL,upd];by_cases h1:i=nx
  ·simp[h1]
  ·by_cases h2:i=b
   ·simp[h2]
   ·simp only[h1,h2,Cb]
    exact Aj i (by simp[hi])
 intro ok0 base pl w a hr Ad K Q hK;obtain⟨p,hp,hB⟩:=hr.blks b _ EX;cases p with
 |cells _=>exact hB.elim
 |row sv Ab=>
  obtain⟨rfl,xs,hd,Ah⟩:=hB;have ND:=hr.fresh nx x8;have hAt:∀g,(Pl.row sv []).has g->Cu pl bl2 b g:=λg hg=>⟨_,_,EX,rfl,hp,hg⟩
  have AY:Step pl bl2 w (upd (upd pl b (.row sv [])) nx (.row sv [])) (upd (upd bl2 b .dead) nx (.crow t e l.length (LS e l))) w:=
   Step.two hr Az (og:=Ye) (show w.grownBy w Ye from⟨rfl,rfl,rfl,Aw _,λ_ _ _=>rfl⟩) (λg h=>by cases h) (λg h=>by cases h) (λg _ hg=>.inl (hAt g hg)) (λg h=>by rw[hp]at h;cases h) (λg h=>by rw[ND]at h;cases h)
    (λAs Bf h=>by rw[hp]at h;injection h with h;injection h with h1 h2;subst h1 h2;exact⟨sv,[],rfl,KeepR.ofDead⟩) (λAs Bf h=>by rw[ND]at h;cases h)
  have hR:=RelB.two hr Az (og:=Ye) (show w.grownBy w Ye from⟨rfl,rfl,rfl,Aw _,λ_ _ _=>rfl⟩) (λg h=>by cases h) (λg h=>by cases h) (λg _ hg=>.inl (hAt g hg)) (λg h=>by cases h) AY trivial
   ⟨rfl,xs,(AaO hd).mono AY.ext,Ah⟩
  refine h _ Ek ok0 base _ w a hR (λy hy=>?_) K Q λval Ac w' k1 k2 k3=>hK val Ac w' k1 (AY.trans k2) k3;have hv:=Ad y hy;have hm:=VRep.mono (AY.ext (ok0:=ok0) (base:=base)) hv;show VRep _ (Wu b ver nx (ρ y)) _;generalize ρ y=z at hv hm⊢;unfold Wu;split
  ·rename_i b' ver'
   cases hc:(Ym b b'&&Ym ver ver')with
   |false=>exact hm
   |true=>obtain⟨c1,c2⟩:=andB hc;have c1:=At c1;have c2:=At c2;subst c1 c2;obtain⟨h1,sv2,JD,h2,h3⟩:=hv;have h2:pl b=Yd (.row sv2 JD):=h2;rw[hp]at h2;injection h2 with h2;injection h2 with h2 h4;subst h2 h4;refine⟨h1,sv,[],by simp[Ak,upd],λt' e' n' cs' _=>((h3 t e ver l EX).2 rfl)⟩
  ·exact hm
theorem AnJ{kk:K β}{nx:Yk}{x:V}{run:(Yk->Yb Blk)->(V->V)->K β->Yb β}(hk:fA bl nx x run kk=Yd r)(h:∀(bl':Yk->Yb Blk)(f:V->V)(Dl:K β),run bl' f Dl=Yd r->Sound P o (λy=>f (ρ y)) bl' Dl r):Sound P o ρ bl kk r:=by
 unfold fA at hk;split at hk
 ·rename_i b ver
  split at hk
  ·rename_i t e ver' l hb hn
   cases hv:Ym ver ver' with
   |false=>rw[hv]at hk;cases hk
   |true=>rw[hv,Ao,MZ]at hk;have hv:=At hv;subst hv;exact AnI hb hn (h _ _ _ hk)
  ·cases hk
 ·cases hk
theorem AnK{T:Yq->Yb TI}(hT:TOk P T){kk:K β}{t:Yq}{x y:Y0}(ho:o.op=.index t x y){ti:TI}(ht:T t=Yd ti){cs:Ya C}(hx:ρ x=.agg cs){k:YP}{i:Yi}(hy:ival (ρ y)=Yd (k,i))(hk:eE T ti cs i kk=Yd r):Sound P o ρ bl kk r:=by
 obtain⟨inf,d,z,f⟩:=hT.facts ht;unfold eE at hk;split at hk
 ·rename_i et n Cs Cr
  have:=fP f Cs Cr;subst this;split at hk
  ·rename_i te BR
   obtain⟨i',d',z',fe⟩:=hT.facts BR;split at hk
   ·rename_i e Ry
    split at hk
    ·rename_i l hl
     cases hs:(Ym e.size te.size&&(te.agg||Ym te.size 1))with
     |false=>rw[hs]at hk;cases hk
     |true=>
      simp only[hs,Ao]at hk;obtain⟨Bt,AP⟩:=andB hs;have Bt:=At Bt;obtain⟨hc,hk⟩:=Dc hk;obtain⟨CA,BG⟩:=andB hc;have CA:=AC CA;have BG:=AC BG;refine Sound.pure hk λbl2 _ ok0 base pl w a hr Ad=>?_;have Gu:=Ad x (by simp[ho,Yt]);have Hf:=Ad y (by simp[ho,Yt]);rw[hx]at Gu;rw[Oh hy]at Hf;have P3:a.eval y=.int k i:=Hf;obtain⟨vs,Ck,Bc⟩:=Gu;have Bc:a.eval x=.agg vs.toArray:=Bc;obtain⟨hd,N9⟩:=WD hr.blksOk (Rows.none _ _) Ck hl;obtain⟨u,p,q,cB,hp,N4⟩:=DList.get e.dflt hd (i:=i.toNat) (by omega);have DR:=N4.length
      have AlU:vs.length=n*e.size:=by have:=DList.length hd;rw[this,N9]
      have Ci:i<(n:Yi):=by omega
      have Ej:=WH fe w;cases EM:te.agg with
      |true=>
       rw[EM]at Ej;refine⟨.agg u.toArray,?_,VRep.mk ⟨u,FW N4,by simp⟩⟩
       have F5:List.take te.size (List.drop (i.toNat*te.size) vs)=u:=by rw[cB,<-Bt,<-hp,<-DR];simp
       simp[Y1,ho,Bc,P3,Instr.index,asIntOf,Yu f.under,CA,Ci,part,Ej,run_sizeOf fe,F5]
      |false=>
       rw[EM]at Ej AP;have D1:te.size=1:=At (by simpa using AP);have Eu:u.length=1:=by omega
       match u,Eu with
       |[u0],_=>
        refine⟨u0,?_,VRep.mk ⟨[u0],FW N4,by simp⟩⟩
        have Hy:vs[i.toNat*te.size]?=Yd u0:=by rw[cB,<-Bt,<-hp];simp
        simp[Y1,ho,Bc,P3,Instr.index,asIntOf,Yu f.under,CA,Ci,part,Ej,run_sizeOf fe,Hy]
    ·cases hk
   ·cases hk
  ·cases hk
 ·cases hk
end
end
end Go.Lift
namespace Go.Lift
noncomputable section
open Go.RowKit
section
variable{P:Yv}{o:Oper}{ρ:Y0->V}{bl:Yk->Yb Blk}{β:Type}{r:β}
theorem gQ{E:Env}{a:Act}:∀{xs:Ya Y0},(∀x∈xs,VRep E (ρ x) (a.eval x))->VReps E (xs.map ρ) (xs.map a.eval)
 |[],_=>rfl
 |x::xs,h=>⟨_,_,rfl,h x (by simp),gQ λy hy=>h y (by simp[hy])⟩
theorem VReps.append{E:Env}:∀{vs us ws xs},VReps E vs us->VReps E ws xs->VReps E (vs++ws) (us++xs)
 |[],us,_,_,h,k=>by have h':us=[]:=h;subst h';exact k
 |_::_,_,_,_,⟨u,Cf,e,h1,h2⟩,k=>⟨u,Cf++_,by rw[e];rfl,h1,VReps.append h2 k⟩
theorem AaP{E:Env}:∀{BI gs:Ya Yk},BI.map E.pl=gs.map (λg=>Yd (.cells g))->VReps E (BI.map λb=>.c (.ptr b 0)) (gs.map λg=>.pointer (Yd ⟨g,0,Ye⟩))
 |[],gs,h=>by cases gs with|nil=>rfl|cons g gs=>simp at h
 |b::bs,gs,h=>by
  cases gs with
  |nil=>simp at h
  |cons g gs=>simp only[CP,CK]at h;exact⟨_,_,rfl,⟨g,h.1,rfl⟩,AaP h.2⟩
theorem AnL{X:Ctx}(hΓ:ΓOk P X.Γ){kk:K β}{nx:Yk}{c:Call}(ho:o.op=.call c){x:Y0}(hc:c.callee=.value x){f:Y6}{BI:Ya Yk}(hx:ρ x=.c (.fn f BI))(hk:S2 X bl nx f (c.args.toList.map ρ++BI.map λb=>.c (.ptr b 0)) kk=Yd r):Sound P o ρ bl kk r:=by
 refine AaC hΓ hk λbl2 ok0 base pl w a hr Ad=>?_;have hv:=Ad x (by simp[ho,Yt,YF,hc]);rw[hx]at hv;obtain⟨gs,hg,hv⟩:=hv;refine⟨c.args.toList.map a.eval++gs.map λg=>.pointer (Yd ⟨g,0,Ye⟩),?_,λ⟨fn,h1,h2,h3⟩=>?_⟩
 ·exact(gQ λy hy=>Ad y (by simp only[ho,Yt,YF,Wc];exact .inr (by simpa using hy))).append (AaP hg)
 ·have he:c.args.map a.eval++(gs.map λg=>YaA (Yd ⟨g,0,Ye⟩)).toArray=(c.args.toList.map a.eval++gs.map λg=>YaA (Yd ⟨g,0,Ye⟩)).toArray:=by apply HC;simp
  simp only[Y1,ho,resolve,hc,hv,Deferred.ofValue,YA,YO,Y5,invoke,callFunc,Ybi,h1,h2,h3,Array.empty_append,G3,Cb,he]
theorem AnM{X:Ctx}(hΓ:ΓOk P X.Γ){kk:K β}{nx:Yk}{c:Call}(ho:o.op=.call c){x:Y0}(hc:c.callee=.value x){f:Y6}{b:Yk}(hx:ρ x=.c (.bfn f b))(hk:S2 X bl nx f (.c (.ptr b 0)::c.args.toList.map ρ) kk=Yd r):Sound P o ρ bl kk r:=by
 refine AaC hΓ hk λbl2 ok0 base pl w a hr Ad=>?_;have hv:=Ad x (by simp[ho,Yt,YF,hc]);rw[hx]at hv;obtain⟨g,hg,hv⟩:=hv;refine⟨.pointer (Yd ⟨g,0,Ye⟩)::c.args.toList.map a.eval,⟨_,_,rfl,⟨g,hg,rfl⟩,gQ λy hy=>Ad y (by simp only[ho,Yt,YF,Wc];exact .inr (by simpa using hy))⟩,λ⟨fn,h1,h2,h3⟩=>?_⟩
 have he:#[YaA (Yd ⟨g,0,Ye⟩)]++c.args.map a.eval=(YaA (Yd ⟨g,0,Ye⟩)::c.args.toList.map a.eval).toArray:=by apply HC;simp
 simp only[Y1,ho,resolve,hc,hv,Deferred.ofValue,YA,YO,Y5,invoke,callFunc,Ybi,h1,h2,h3,Array.append_empty,G3,Cb,he]
theorem AnN{kk:K β}{x:Y0}(ho:o.op=.nilCheck x){f:Y6}{b:Yk}(hx:ρ x=.c (.bfn f b))(hk:kk (ρ x) [] []=Yd r):Sound P o ρ bl kk r:=by refine Sound.pure hk λbl2 _ ok0 base pl w a hr Ad=>⟨a.eval x,?_,Ad x (by simp[ho,Yt])⟩;have h1:=Ad x (by simp[ho,Yt]);rw[hx]at h1;obtain⟨g,_,hv⟩:=h1;simp[Y1,ho,hv]
theorem AnO{kk:K β}{f:Y6}{first BI:YX Y0}(ho:o.op=.makeFunc (.func f) first BI){x:Y0}(hf:first.toList=[x]){b:Yk}(hx:ρ x=.c (.ptr b 0))(hc:BI.toList=[])(hk:kk (.c (.bfn f b)) [] []=Yd r):Sound P o ρ bl kk r:=by
 have N5:first=#[x]:=by apply HC;simpa using hf
 have Hw:BI=#[]:=by simpa using hc
 subst N5 Hw;refine Sound.pure hk λbl2 _ ok0 base pl w a hr Ad=>?_;have hv:=Ad x (by simp[ho,Yt]);rw[hx]at hv;obtain⟨g,hg,hv⟩:=hv;exact⟨.func (.func f) #[.pointer (Yd ⟨g,0,Ye⟩)] #[],by simp[Y1,ho,Instr.makeFunc,hv],g,hg,rfl⟩
theorem AnP{X:Ctx}(hT:TOk P X.T)(hΓ:ΓOk P X.Γ){kk:K β}{nx:Yk}(hk:Ww X o ρ bl nx kk=Yd r):Sound P o ρ bl kk r:=by
 unfold Ww at hk;split at hk
 ·rename_i x ho
  cases hS:(X.S&&zQ (ρ x))with
  |false=>rw[hS,BU]at hk;exact WE (.inl ho) hk
  |true=>rw[hS,Ao]at hk;exact Ma (xs:=[x]) (λz hz=>by simpa [ho,Yt]using hz) hk λbl' Dl h=>WE (ρ:=λx=>frzV bl (ρ x)) (.inl ho) h
 ·rename_i x ho
  cases hD:(X.D&&zP bl (ρ x))with
  |false=>rw[hD,BU]at hk;exact WE (.inr ho) hk
  |true=>rw[hD,Ao]at hk;exact Ma (xs:=[x]) (λz hz=>by simpa [ho,Yt]using hz) hk λbl' Dl h=>WE (ρ:=λx=>frzV bl (ρ x)) (.inr ho) h
 ·rename_i c a b ho
  split at hk
  ·rename_i g hc;exact Amt ho hc hk
  ·cases hk
 ·rename_i t ho
  split at hk
  ·rename_i ti ht;exact Amu hT ho ht hk
  ·cases hk
 ·rename_i t x ho
  split at hk
  ·rename_i cs hc;exact Amv ho hc hk
  ·cases hk
 ·rename_i t parts ho
  cases hD:X.D with
  |false=>rw[hD,BU]at hk;exact Aaf hT ho hk
  |true=>rw[hD,Ao]at hk;refine Ma (xs:=parts.toList.map (·.2)) (λx hx=>by simpa [ho,Yt]using hx) (by rw[PM];exact hk) λbl' Dl h=>?_;exact Aaf (ρ:=λx=>frzV bl (ρ x)) hT ho h
 ·rename_i t n parts ho
  cases hO:(zL X.O X.T t&&zM X.O X.T bl t (parts.toList.map λp=>(p.1,ρ p.2)))with
  |true=>rw[hO,Ao]at hk;exact An7 hT ho hk
  |false=>
  rw[hO,BU]at hk;refine Ma (xs:=parts.toList.map (·.2)) (λx hx=>by simpa [ho,Yt]using hx) (by rw[PM];exact hk) λbl' Dl h=>?_;exact AmU (ρ:=λx=>frzV bl (ρ x)) hT ho h
 ·rename_i t a ho
  split at hk
  ·exact AnH hT ho hk
  ·exact AnE hT ho hk
  ·exact WI hT ho hk
 ·rename_i t a x ho
  split at hk
  ·exact Ma (xs:=[a,x]) (λy hy=>by simpa [ho,Yt]using hy) hk λbl' Dl h=>Qj (ρ:=λx=>frzV bl (ρ x)) hT ho h
  ·rename_i b _ _ _ _ _
   cases hH:zI bl b with
   |true=>rw[hH,Ao]at hk;exact Qj hT ho hk
   |false=>rw[hH,BU]at hk;exact Ma (xs:=[a,x]) (λy hy=>by simpa [ho,Yt]using hy) hk λbl' Dl h=>Qj (ρ:=λx=>frzV bl (ρ x)) hT ho h
  ·cases hM:(X.M&&zS bl (ρ x))with
   |true=>rw[hM,Ao]at hk;exact AnJ hk λbl' f Dl h=>Qj (ρ:=λy=>f (ρ y)) hT ho h
   |false=>
    rw[hM,BU]at hk;cases hD:(X.D&&zR (ρ x))with
    |false=>rw[hD,BU]at hk;exact Qj hT ho hk
    |true=>rw[hD,Ao]at hk;exact Ma (xs:=[a,x]) (λy hy=>by simpa [ho,Yt]using hy) hk λbl' Dl h=>Qj (ρ:=λx=>frzV bl (ρ x)) hT ho h
 ·rename_i x ho
  split at hk
  ·rename_i b of hx;exact Qo ho (.inl ⟨b,of,hx⟩) (by rw[hx];exact hk)
  ·rename_i b ver i of hx;exact Qo ho (.inr (.inl ⟨b,ver,i,of,hx⟩)) (by rw[hx];exact hk)
  ·rename_i e y of hx;exact Qo ho (.inr (.inr (.inl ⟨e,y,of,hx⟩))) (by rw[hx];exact hk)
  ·rename_i b ver p i of hx;exact Qo ho (.inr (.inr (.inr (.inr (.inl ⟨b,ver,p,i,of,hx⟩))))) (by rw[hx];exact hk)
  ·rename_i b of hx;exact Qo ho (.inr (.inr (.inr (.inr (.inr ⟨b,of,hx⟩))))) (by rw[hx];exact hk)
  ·rename_i f BI hx;exact Qo ho (.inr (.inr (.inr (.inl ⟨f,BI,hx⟩)))) (by rw[hx];exact hk)
  ·rename_i f b hx;exact AnN ho hx (by rw[hx];exact hk)
  ·cases hk
 ·rename_i op t x y t' ho;exact AmN hT ho hk
 ·rename_i op t x ho
  split at hk
  ·rename_i b hx;exact An8 ho hx hk
  ·rename_i k n hx;exact An9 ho hx hk
  ·cases hk
 ·rename_i s t x ho
  split at hk
  ·rename_i si ti k0 n hs ht hx
   split at hk
   ·rename_i k M0;exact Ana hT ho hs ht hx M0 hk
   ·cases hk
  ·rename_i si ti l hs ht hx
   cases E4:ti.isStr with
   |false=>rw[E4]at hk;cases hk
   |true=>simp only[E4,Ao]at hk;exact Anb hT ho hs ht hx E4 hk
  ·rename_i si ti hs ht _ _;exact AmZ hT ho hs ht hk
  ·cases hk
 ·rename_i f first BI ho
  split at hk
  ·rename_i hf
   split at hk
   ·rename_i bs hb;exact Anc ho hf hb hk
   ·cases hk
  ·rename_i x hf
   split at hk
   ·rename_i b hx hc;exact AnO ho hf hx hc hk
   ·cases hk
  ·cases hk
 ·rename_i t n c ho;exact AmV hT ho hk
 ·rename_i t ho;exact Anw ho hk
 ·rename_i t x i commaOk ho
  cases hF:zK bl (ρ x)with
  |true=>rw[hF,Ao]at hk;exact AnA hT ho hk
  |false=>rw[hF,BU]at hk;exact Anx hT ho hk
 ·rename_i t x i y ho;exact AnB hT ho hk
 ·rename_i t x i y ho
  exact Ma (xs:=[x,i,y]) (λz hz=>by simpa [ho,Yt]using hz) hk λbl' Dl h=>Anz (ρ:=λx=>frzV bl (ρ x)) hT ho h
 ·rename_i t x hi ho
  cases hR:(X.R&&Wq (ρ x))with
  |true=>rw[hR,Ao]at hk;exact An2 hT ho hk
  |false=>rw[hR,BU]at hk;exact fS (lo:=Ye) hT ho hk
 ·rename_i t x lo hi _ ho
  cases hS:(X.S&&Wq (ρ x))with
  |false=>rw[hS,BU]at hk;exact fS hT ho hk
  |true=>rw[hS,Ao]at hk;exact Ma (xs:=x::(lo.toList++hi.toList)) (λz hz=>by cases lo<;>cases hi<;>simpa [ho,Yt]using hz) hk λbl' Dl h=>fS (ρ:=λx=>frzV bl (ρ x)) hT ho h
 ·rename_i t x f ho;exact AmC hT ho hk
 ·rename_i t x f ho
  split at hk
  ·rename_i ti cs ht hx
   split at hk
   ·rename_i off n g hf
    cases h1:(g||Ym n 1)with
    |false=>rw[h1]at hk;cases hk
    |true=>
     simp only[h1,Ao]at hk;split at hk
     ·rename_i rc hs;exact And hT ho ht hx hf h1 hs hk
     ·cases hk
   ·cases hk
  ·cases hk
 ·rename_i t x i ho;exact AmE hT ho hk
 ·rename_i t x i ho
  split at hk
  ·rename_i ti s k j ht hx hi
   cases E4:ti.isStr with
   |false=>rw[E4]at hk;cases hk
   |true=>simp only[E4,Ao]at hk;obtain⟨hc,hk⟩:=Dc hk;obtain⟨c1,c2⟩:=andB hc;exact Ane hT ho ht hx hi E4 (AC c1) (AC c2) hk
  ·rename_i ti cs k j ht hx hi;exact AnK hT ho ht hx hi hk
  ·cases hk
 ·rename_i x i ho
  split at hk
  ·rename_i ts hx
   split at hk
   ·rename_i t ht;exact Anf ho hx ht hk
   ·cases hk
  ·cases hk
 ·rename_i c ho
  split at hk
  ·rename_i hc
   split at hk
   ·rename_i x t hx ht
    cases Ba:c.args.toList with
    |nil=>rw[Ba]at hx;simp at hx
    |cons y ys=>
     rw[Ba]at hx;cases ys with
     |cons _ _=>simp at hx
     |nil=>simp only[CP,Il,CK,Ef]at hx;subst hx;exact AmP hT ho hc Ba ht hk
   ·cases hk
  ·rename_i hc
   split at hk
   ·rename_i v hm;exact Aaq (isMax:=Yc) ho hc hm hk
   ·cases hk
  ·rename_i hc
   split at hk
   ·rename_i v hm;exact Aaq (isMax:=Yo) ho hc hm hk
   ·cases hk
  ·rename_i hc
   split at hk
   ·rename_i x y t t' hx ht
    cases NH:Ym t t' with
    |false=>
     simp only[NH,BU]at hk;cases Ba:c.args.toList with
     |nil=>rw[Ba]at hx;simp at hx
     |cons a as=>
      rw[Ba]at hx;cases as with
      |nil=>simp at hx
      |cons b bs=>
       cases bs with
       |cons _ _=>simp at hx
       |nil=>simp only[CP,Il,CK,Ef]at hx;obtain⟨h1,h2⟩:=hx;subst h1 h2;exact An4 hT ho hc Ba ht hk
    |true=>
     have:=At NH;subst this;simp only[NH,Ao]at hk;cases Ba:c.args.toList with
     |nil=>rw[Ba]at hx;simp at hx
     |cons a as=>
      rw[Ba]at hx;cases as with
      |nil=>simp at hx
      |cons b bs=>
       cases bs with
       |cons _ _=>simp at hx
       |nil=>
        simp only[CP,Il,CK,Ef]at hx;obtain⟨h1,h2⟩:=hx;subst h1 h2;cases hO:(Wr (ρ a)||Wr (ρ b))with
        |true=>rw[hO,Ao]at hk;exact An6 hT ho hc Ba ht hk
        |false=>
        rw[hO,BU]at hk;exact AmQ hT ho hc Ba ht hk
   ·cases hk
  ·rename_i hc
   split at hk
   ·rename_i x t hx ht
    cases Ba:c.args.toList with
    |nil=>rw[Ba]at hx;simp at hx
    |cons y ys=>
     rw[Ba]at hx;cases ys with
     |cons _ _=>simp at hx
     |nil=>simp only[CP,Il,CK,Ef]at hx;subst hx;exact An0 hT ho hc Ba ht hk
   ·cases hk
  ·rename_i hc
   split at hk
   ·rename_i x t hx ht
    cases Ba:c.args.toList with
    |nil=>rw[Ba]at hx;simp at hx
    |cons y ys=>
     rw[Ba]at hx;cases ys with
     |cons _ _=>simp at hx
     |nil=>simp only[CP,Il,CK,Ef]at hx;subst hx;exact An1 hT ho hc Ba ht hk
   ·cases hk
  ·rename_i hc
   split at hk
   ·rename_i x y t t' hx ht
    cases NH:Ym t t' with
    |false=>rw[NH]at hk;cases hk
    |true=>
     have:=At NH;subst this;simp only[NH,Ao]at hk;cases Ba:c.args.toList with
     |nil=>rw[Ba]at hx;simp at hx
     |cons a as=>
      rw[Ba]at hx;cases as with
      |nil=>simp at hx
      |cons b bs=>
       cases bs with
       |cons _ _=>simp at hx
       |nil=>simp only[CP,Il,CK,Ef]at hx;obtain⟨h1,h2⟩:=hx;subst h1 h2;exact AmY hT ho hc Ba ht hk
   ·cases hk
  ·cases hk
  ·split at hk
   ·rename_i f pre BI Mw
    unfold zO at Mw;split at Mw
    ·rename_i x hc
     split at Mw
     ·rename_i f' bs hx
      simp only[Af,Bv]at Mw;obtain⟨rfl,rfl,rfl⟩:=Mw;exact AnL hΓ ho hc hx hk
     ·rename_i f' b hx
      simp only[Af,Bv]at Mw;obtain⟨rfl,rfl,rfl⟩:=Mw;exact AnM hΓ ho hc hx (by simpa using hk)
     ·cases Mw
    ·cases Mw
   ·cases hk
 ·cases hk
end
end
end Go.Lift
namespace Go.Lift
noncomputable section
open Go.RowKit
structure Rel {P:Yv} (n:Yk) (ok0:OK0 P) (base:Yk) (pl:Yk->Yb Pl) (tm:Yk->Yb V) (bl:Yk->Yb Blk) (a:Act) (w:Yx):Prop where
 defers:a.defers=ok0.ds
 size:a.tmps.size=n
 tmps:∀t v,tm t=Yd v->VRep (Ak ok0 base pl bl w) v (a.tmps.getD t undef)
 rel:RelB ok0 base pl bl w
def updD(tm:Yk->Yb V)(dst:Yb Yk)(v:V):Yk->Yb V:=
 match dst with
 |some d=>upd tm d v
 |none=>tm
theorem WS(tm:Ya (Yk×V))(dst:Yb Yk)(v:V):look (putD tm dst v)=updD (look tm) dst v:=by
 cases dst with
 |none=>rfl
 |some d=>funext j;simp only[putD,updD,So,upd]
def Qr(tm:Yk->Yb V):Y0->V
 |.tmp t=>
  match tm t with
  |some v=>v
  |none=>.junk
 |.const v=>V.ofValue v
 |.global _=>.junk
 |.func f=>.c (.fn f [])
theorem gR(tm:Ya (Yk×V)):Qc tm=Qr (look tm):=by funext x;cases x<;>rfl
theorem gS{P:Yv}{n:Yk}{ok0:OK0 P}{base:Yk}{pl:Yk->Yb Pl}{tm:Yk->Yb V}{bl:Yk->Yb Blk}{a:Act}{w:Yx}(h:Rel n ok0 base pl tm bl a w)(x:Y0):VRep (Ak ok0 base pl bl w) (Qr tm x) (a.eval x):=by
 cases x with
 |tmp t=>
  simp only[Qr,Act.eval];split
  ·rename_i v hv;exact h.tmps t v hv
  ·exact trivial
 |const v=>exact V.ofValue_rep v
 |global g=>exact trivial
 |func f=>exact⟨[],rfl,rfl⟩
section
variable{P:Yv}{ops:YX Oper}{n:Yk}
def EOk(P:Yv)(ops:YX Oper)(n:Yk)(e:LogE)(tmA:Yk->Yb V)(blA:Yk->Yb Blk):Prop:=
 ∀(tm:Yk->Yb V)(bl:Yk->Yb Blk),(∀t∈e.tin,tm t=tmA t)->(∀b∈e.rd,bl b=blA b)->
  ∀(ok0:OK0 P)(base:Yk)(pl:Yk->Yb Pl)(a:Act)(w:Yx),Rel n ok0 base pl tm bl a w->
  ∀(K:Act->Yx->Prop)(Q:Exit->Act->Yx->Prop),
   (∀Ac a' w',Rel n ok0 base Ac (updD tm e.dst e.v) (updL bl e.wr) a' w'->Step pl bl w Ac (updL bl e.wr) w'->K a' w')->wpOp P ops Q e.i K a w
def Valid(P:Yv)(ops:YX Oper)(n:Yk):Ya LogE->(Yk->Yb V)->(Yk->Yb Blk)->Prop
 |[],_,_=>True
 |e::es,tm,bl=>EOk P ops n e tm bl/\Valid P ops n es (updD tm e.dst e.v) (updL bl e.wr)
def finT:Ya LogE->(Yk->Yb V)->Yk->Yb V
 |[],tm=>tm
 |e::es,tm=>finT es (updD tm e.dst e.v)
def finB:Ya LogE->(Yk->Yb Blk)->Yk->Yb Blk
 |[],bl=>bl
 |e::es,bl=>finB es (updL bl e.wr)
theorem EOk.agree{e:LogE}{tmA tmB:Yk->Yb V}{blA blB:Yk->Yb Blk}(h:EOk P ops n e tmA blA)(ht:∀t∈e.tin,tmB t=tmA t)(hb:∀b∈e.rd,blB b=blA b):EOk P ops n e tmB blB:=
 λtm bl h1 h2=>h tm bl (λt hm=>(h1 t hm).trans (ht t hm)) (λb hm=>(h2 b hm).trans (hb b hm))
theorem AaQ{tm:Yk->Yb V}{dst:Yb Yk}{v:V}{t:Yk}(h:dst≠Yd t):updD tm dst v t=tm t:=by
 cases dst with
 |none=>rfl
 |some d=>have:t≠d:=λe=>h (by rw[e]);simp[updD,upd,this]
theorem WT{a b:Ya Yk}:meet a b=Yc↔∀x∈a,x∉b:=by
 induction a with
 |nil=>simp[meet]
 |cons y r ih=>
  simp only[meet,NS,ih,Bg,forall_eq_or_imp];constructor
  ·rintro⟨h1,h2⟩
   exact⟨λhm=>(by rw[HE.2 hm]at h1;cases h1),h2⟩
  ·rintro⟨h1,h2⟩
   refine⟨?_,h2⟩;cases hm:memB y b with
   |false=>rfl
   |true=>exact Yw (HE.1 hm) h1
structure Apart (x y:LogE):Prop where
 t1:∀t∈y.tin,x.dst≠Yd t
 t2:∀t∈x.tin,y.dst≠Yd t
 t3:∀d,x.dst=Yd d->y.dst≠Yd d
 b1:∀b∈y.rd,b∉wids x.wr
 b2:∀b∈x.rd,b∉wids y.wr
 b3:∀b∈wids x.wr,b∉wids y.wr
theorem AnQ{x y:LogE}(h:Qd x y=Yc):Apart x y:=by
 unfold Qd at h;simp only[NS]at h;obtain⟨⟨⟨h1,h2⟩,h3⟩,h4⟩:=h;have h3:=WT.1 h3;have h4:=WT.1 h4;refine⟨λt ht hd=>?_,λt ht hd=>?_,λd hd BX=>?_,λb hb hw=>?_,λb hb hw=>h4 b hw hb,λb hb hw=>?_⟩
 ·rw[hd]at h1
  simp only[NS]at h1;rw[HE.2 ht]at h1;cases h1.1
 ·rw[hd]at h2
  simp only at h2;rw[HE.2 ht]at h2;cases h2
 ·rw[hd,BX]at h1
  simp only[NS]at h1;rw[LO]at h1;cases h1.2
 ·exact h3 b hw (CI _ hb)
 ·exact h3 b hb (Da _ hw)
theorem AnR{x y:LogE}(h:Apart x y)(tm:Yk->Yb V)(bl:Yk->Yb Blk):updD (updD tm x.dst x.v) y.dst y.v=updD (updD tm y.dst y.v) x.dst x.v/\updL (updL bl x.wr) y.wr=updL (updL bl y.wr) x.wr:=by
 constructor
 ·cases hx:x.dst with
  |none=>rfl
  |some d=>
   cases hy:y.dst with
   |none=>rfl
   |some d'=>
    have Az:d≠d':=λe=>h.t3 d hx (by rw[hy,e]);funext j;simp only[updD,upd];by_cases h1:j=d'
    ·by_cases h2:j=d
     ·exact Yw (h2.symm.trans h1) Az
     ·simp[h1,Ne.symm Az]
    ·by_cases h2:j=d<;>simp[h1,h2,Az]
 ·funext b
  by_cases h1:b∈wids y.wr
  ·have h2:b∉wids x.wr:=λh2=>h.b3 b h2 h1
   rw[Om (bl':=bl) h1,Gl (bl:=updL bl y.wr) h2]
  ·rw[Gl h1]
   by_cases h2:b∈wids x.wr
   ·exact Om h2
   ·rw[Gl h2,Gl h2,Gl h1]
theorem Valid.bubble{e:LogE}{post:Ya LogE}:∀{pre:Ya LogE}{tm:Yk->Yb V}{bl:Yk->Yb Blk},Valid P ops n (pre++e::post) tm bl->(∀x∈pre,Apart x e)->EOk P ops n e tm bl/\Valid P ops n (pre++post) (updD tm e.dst e.v) (updL bl e.wr)/\finT (pre++e::post) tm=finT (pre++post) (updD tm e.dst e.v)/\finB (pre++e::post) bl=finB (pre++post) (updL bl e.wr)
 |[],tm,bl,h,_=>⟨h.1,h.2,rfl,rfl⟩
 |x::pre,tm,bl,h,ha=>by
  have hx:=ha x (by simp);obtain⟨h1,h2,h3,h4⟩:=Valid.bubble h.2 λy hy=>ha y (by simp[hy]);obtain⟨c1,c2⟩:=AnR hx tm bl;refine⟨h1.agree (λt ht=>(AaQ (hx.t1 t ht)).symm) (λb hb=>(Gl (hx.b1 b hb)).symm),⟨?_,?_⟩,?_,?_⟩
  ·exact EOk.agree h.1 (λt ht=>AaQ (hx.t2 t ht)) (λb hb=>Gl (hx.b2 b hb))
  ·show Valid P ops n (pre++post) (updD (updD tm e.dst e.v) x.dst x.v) (updL (updL bl e.wr) x.wr)
   rw[<-c1,<-c2];exact h2
  ·show finT (pre++e::post) (updD tm x.dst x.v)=finT (pre++post) (updD (updD tm e.dst e.v) x.dst x.v)
   rw[h3,c1]
  ·show finB (pre++e::post) (updL bl x.wr)=finB (pre++post) (updL (updL bl e.wr) x.wr)
   rw[h4,c2]
theorem gT{Q:Exit->Act->Yx->Prop}{ok0:OK0 P}{base:Yk}:∀{es:Ya LogE}{pl:Yk->Yb Pl}{tm:Yk->Yb V}{bl:Yk->Yb Blk}{a:Act}{w:Yx},Valid P ops n es tm bl->Rel n ok0 base pl tm bl a w->(∀Ac a' w',Rel n ok0 base Ac (finT es tm) (finB es bl) a' w'->Step pl bl w Ac (finB es bl) w'->Q .normal a' w')->wpOps P ops Q (es.map (·.i)) a w
 |[],pl,tm,bl,a,w,_,hr,hq=>hq pl a w hr (Step.refl pl bl w)
 |e::es,pl,tm,bl,a,w,hv,hr,hq=>by rw[CP,wpOps_cons];refine hv.1 tm bl (λ_ _=>rfl) (λ_ _=>rfl) ok0 base pl a w hr _ Q λAc a' w' AR B3=>?_;exact gT hv.2 AR λpl2 a2 w2 DQ AP=>hq pl2 a2 w2 DQ (B3.trans AP)
theorem AaR{ms:Ya Yk}:∀{es:Ya Edge}{i:Yk},YZ (JQ ms es) i=Yo->∃e∈es,YH .any e=Yo/\(e.on=i\/YZ (ms.getD e.on 0) i=Yo)
 |[],i,h=>by simp[JQ]at h
 |e::r,i,h=>by
  simp only[JQ]at h
  have h':YZ (JQ ms r) i=Yo\/YZ (bif YH .any e then Nat.lor (Nat.shiftLeft 1 e.on) (ms.getD e.on 0)else 0) i=Yo:=by
   have h2:YZ (JQ ms r|||(bif YH .any e then Nat.lor (Nat.shiftLeft 1 e.on) (ms.getD e.on 0)else 0)) i=Yo:=h
   rwa [Nat.testBit_or,Ik]at h2
  rcases h' with h'|h'
  ·obtain⟨e',he,hb⟩:=AaR h'
   exact⟨e',by simp[he],hb⟩
  ·cases hb:YH .any e with
   |false=>rw[hb]at h';simp at h'
   |true=>
    simp only[hb,Ao]at h';have h3:YZ (1<<<e.on|||ms.getD e.on 0) i=Yo:=h';rw[Nat.testBit_or,Ik]at h3;refine⟨e,by simp,hb,?_⟩;rcases h3 with h3|h3
    ·left
     rw[Nat.testBit_shiftLeft]at h3;simp only[CO,HB,ge_iff_le]at h3;obtain⟨h4,h5⟩:=h3
     have h6:i-e.on=0:=by have:=Nat.testBit_one_eq_true_iff_self_eq_zero.1 h5;exact this
     omega
    ·exact .inr h3
theorem AaS:∀{l:Ya Oper}{acc:Ya Yk}{j:Yk},(GQ l acc)[acc.length+j]?=(l[j]?).map λo=>JQ ((GQ l acc).take (acc.length+j)) o.after.toList
 |[],acc,j=>by simp[GQ]
 |o::r,acc,0=>by
  have h1:∀(l:Ya Oper)(a:Ya Yk),∃x,GQ l a=a++x:=by
   intro l
   induction l with
   |nil=>intro a;exact⟨[],by simp[GQ]⟩
   |cons o l ih=>intro a;obtain⟨x,hx⟩:=ih (a++[JQ a o.after.toList]);exact⟨JQ a o.after.toList::x,by simp only[GQ];rw[hx];simp⟩
  obtain⟨x,hx⟩:=h1 r (acc++[JQ acc o.after.toList]);simp only[GQ,hx];simp
 |o::r,acc,j+1=>by
  have ih:=AaS (l:=r) (acc:=acc++[JQ acc o.after.toList]) (j:=j);simp only[GQ];simp only[Bd,List.length_singleton]at ih;have e:acc.length+(j+1)=acc.length+1+j:=by omega
  rw[e,ih];simp
theorem gU{listed:YX Ys}{i:Yk}:i∈Ya1 .any ops listed↔∃o,ops[i]?=Yd o/\listed.getD i Yo=Yc/\∀e∈o.after,YH .any e=Yo->listed.getD e.on Yc=Yo:=by
 unfold Ya1;rw[Fv,Sc];constructor
 ·rintro⟨h1,h2⟩
  simp only[CO,PH]at h2;have ho:ops[i]?=Yd ops[i]:=PA h1;rw[ho]at h2;simp only[Ft,Jh,z6]at h2;refine⟨_,ho,h2.1,λe he hb=>?_⟩;have:=h2.2 e he;simpa [hb]using this
 ·rintro⟨o,ho,h1,h2⟩
  refine⟨(Fb.1 ho).1,?_⟩;simp only[CO,PH];refine⟨h1,?_⟩;rw[ho];simp only[Ft,Jh,z6];intro e he;cases hb:YH .any e with
  |false=>rfl
  |true=>simpa using h2 e he hb
def AaT(ops:YX Oper)(listed:YX Ys):Prop:=∀(j:Yk)(o:Oper),ops[j]?=Yd o->listed.getD j Yc=Yo->∀e∈o.after,YH .any e=Yo->listed.getD e.on Yc=Yo
theorem AnS{listed:YX Ys}(hc:AaT ops listed)(IY:∀(j:Yk)(o:Oper),ops[j]?=Yd o->∀e∈o.after,YH .any e=Yo->e.on<j):∀(j i:Yk)(o:Oper),ops[j]?=Yd o->YZ ((GQ ops.toList []).getD j 0) i=Yo->(∀e∈o.after,YH .any e=Yo->listed.getD e.on Yc=Yo)->listed.getD i Yc=Yo:=by
 intro j
 induction j using Nat.strongRecOn with
 |_ j ih=>
  intro i o ho vZ hl;have hm:=AaS (l:=ops.toList) (acc:=[]) (j:=j);simp only[BP,CQ]at hm;have Pr:ops.toList[j]?=Yd o:=by simpa using ho
  rw[Pr]at hm;simp only[Ft]at hm;rw[Yn,hm]at vZ;simp only[Jh]at vZ;obtain⟨e,he,hb,h⟩:=AaR vZ;have Kh:e∈o.after:=by simpa using he
  have Ae:=IY j o ho e Kh hb;have Bx:=hl e Kh hb;rcases h with h|h
  ·rw[<-h];exact Bx
  ·have AE6:e.on<ops.size:=Nat.lt_trans Ae (Fb.1 ho).1
   have I2:ops[e.on]?=Yd ops[e.on]:=PA AE6;refine ih e.on Ae i _ I2 ?_ (hc e.on _ I2 Bx);rw[Yn,HA Ae]at h;exact h
theorem AaU{Q:Exit->Act->Yx->Prop}{ok0:OK0 P}{base:Yk}(IY:∀(j:Yk)(o:Oper),ops[j]?=Yd o->∀e∈o.after,YH .any e=Yo->e.on<j):∀(k:Yk){es:Ya LogE}{listed:YX Ys}{pl:Yk->Yb Pl}{tm:Yk->Yb V}{bl:Yk->Yb Blk}{a:Act}{w:Yx},es.length=k->listed.size=ops.size->AaT ops listed->(∀i,i<ops.size->(listed.getD i Yo=Yc↔∃e∈es,e.i=i))->es.Pairwise (λx y=>x.i<y.i)->(∀e∈es,e.i<ops.size)->es.Pairwise (λx y=>Qd x y=Yc\/YZ ((GQ ops.toList []).getD y.i 0) x.i=Yo)->Valid P ops n es tm bl->Rel n ok0 base pl tm bl a w->(∀Ac a' w',Rel n ok0 base Ac (finT es tm) (finB es bl) a' w'->Step pl bl w Ac (finB es bl) w'->Q .normal a' w')->wpAny P .any ops Q k listed a w:=by
 intro k
 induction k with
 |zero=>
  intro es listed pl tm bl a w hk B4 hc hl hs Ae hf hv hr hq;have:es=[]:=FT hk;subst this;refine⟨?_,hq pl a w hr (Step.refl pl bl w)⟩;cases Ek:Ya1 .any ops listed with
  |nil=>rfl
  |cons i r=>
   have hi:i∈Ya1 .any ops listed:=by rw[Ek];simp
   obtain⟨o,ho,h1,_⟩:=gU.1 hi;obtain⟨e,he,_⟩:=(hl i (Fb.1 ho).1).1 h1;simp at he
 |succ k ih=>
  intro es listed pl tm bl a w hk B4 hc hl hs Ae hf hv hr hq;refine⟨λEk=>?_,λi hi=>?_⟩
  ·
   exfalso;cases es with
   |nil=>simp at hk
   |cons e es=>
    have UJ:=Ae e (by simp);have ho:ops[e.i]?=Yd ops[e.i]:=PA UJ
    have:e.i∈Ya1 .any ops listed:=by
     refine gU.2 ⟨_,ho,(hl e.i UJ).2 ⟨e,by simp,rfl⟩,λd hd hb=>?_⟩;have L2:=IY e.i _ ho d hd hb;have F4:d.on<ops.size:=by omega
     cases hg:listed.getD d.on Yo with
     |true=>
      have ADo:d.on<listed.size:=by omega
      simp only[EQ,PA ADo,Jh]at hg⊢;exact hg
     |false=>
      obtain⟨x,hx,R9⟩:=(hl d.on F4).1 hg;rcases Bg.1 hx with rfl|hx
      ·omega
      ·have:=(G4.1 hs).1 x hx
       omega
    rw[Ek]at this;simp at this
  ·obtain⟨o,ho,h1,h2⟩:=gU.1 hi
   have ADD:=(Fb.1 ho).1;obtain⟨e,he,UJ⟩:=(hl i ADD).1 h1;obtain⟨pre,post,rfl⟩:=List.append_of_mem he;have cA:=FU.1 hf;have Ie:=FU.1 hs
   have OR:∀x∈pre,Apart x e:=by
    intro x hx;rcases cA.2.2 x hx e (by simp)with h|h
    ·exact AnQ h
    ·exfalso
     rw[UJ]at h;have Cp:=AnS hc IY i x.i o ho h h2;have Ad:=Ae x (by simp[hx]);have y7:=(hl x.i Ad).2 ⟨x,by simp[hx],rfl⟩;have AEN:x.i<listed.size:=by omega
     simp only[EQ,PA AEN,Jh]at Cp y7;rw[Cp]at y7;cases y7
   obtain⟨b1,b2,b3,b4⟩:=Valid.bubble hv OR;subst UJ;refine b1 tm bl (λ_ _=>rfl) (λ_ _=>rfl) ok0 base pl a w hr _ Q λAc a' w' AR B3=>?_;refine ih (es:=pre++post) (by simp at hk⊢;omega) (by simpa using B4) ?_ ?_ ?_ ?_ ?_ b2 AR ?_
   ·
    intro j oj Vi hj d hd hb
    have Hy:∀q,listed.getD q Yc=Yo->(listed.setIfInBounds e.i Yo).getD q Yc=Yo:=by
     intro q hq;simp only[EQ,VS];split
     ·split<;>simp_all
     ·simpa [EQ]using hq
    refine Hy _ ?_;by_cases Alk:j=e.i
    ·subst Alk
     rw[ho]at Vi;injection Vi with Vi;subst Vi;exact h2 d hd hb
    ·refine hc j oj Vi ?_ d hd hb
     simp only[EQ,VS]at hj⊢;rw[Y4 (λh=>Alk h.symm)]at hj;exact hj
   ·intro q hq
    have AGC:q<listed.size:=by omega
    have J2:e.i<listed.size:=by omega
    by_cases xI:q=e.i
    ·subst xI
     constructor
     ·intro h
      simp[EQ,J2]at h
     ·rintro⟨x,hx,R9⟩
      exfalso;rcases BV.1 hx with hx|hx
      ·have:=Ie.2.2 x hx e (by simp);omega
      ·have:=(G4.1 Ie.2.1).1 x hx;omega
    ·have h3:(listed.setIfInBounds e.i Yo).getD q Yo=listed.getD q Yo:=by simp only[EQ,VS];rw[Y4 (λh=>xI h.symm)]
     rw[h3,hl q hq];constructor
     ·rintro⟨x,hx,R9⟩
      refine⟨x,?_,R9⟩;rcases BV.1 hx with hx|hx
      ·exact CI _ hx
      ·rcases Bg.1 hx with rfl|hx
       ·exact Yw R9.symm xI
       ·exact Da _ hx
     ·rintro⟨x,hx,R9⟩
      refine⟨x,?_,R9⟩;rcases BV.1 hx with hx|hx
      ·exact CI _ hx
      ·exact Da _ (E6 _ hx)
   ·exact FU.2 ⟨Ie.1,(G4.1 Ie.2.1).2,λx hx y hy=>Ie.2.2 x hx y (by simp[hy])⟩
   ·intro x hx
    refine Ae x ?_;rcases BV.1 hx with hx|hx
    ·exact CI _ hx
    ·exact Da _ (E6 _ hx)
   ·exact FU.2 ⟨cA.1,(G4.1 cA.2.1).2,λx hx y hy=>cA.2.2 x hx y (by simp[hy])⟩
   ·intro pl2 a2 w2 DQ AP
    rw[<-b3,<-b4]at DQ;rw[<-b4]at AP;exact hq pl2 a2 w2 DQ (B3.trans AP)
end
end
end Go.Lift
namespace Go.Lift
noncomputable section
open Go.RowKit
section
variable{P:Yv}{ops:YX Oper}{n:Yk}{β:Type}{r:β}
theorem Rel.put{ok0:OK0 P}{base:Yk}{pl Ac:Yk->Yb Pl}{tm:Yk->Yb V}{bl bl':Yk->Yb Blk}{a:Act}{w w':Yx}(h:Rel n ok0 base pl tm bl a w){dst:Yb Yk}(hd:S3 n dst=Yo){v:V}{val:Yp}(hr:RelB ok0 base Ac bl' w')(hs:Step pl bl w Ac bl' w')(hv:VRep (Ak ok0 base Ac bl' w') v val):Rel n ok0 base Ac (updD tm dst v) bl' (a.put dst val) w':=by
 have Vj:∀t v,tm t=Yd v->VRep (Ak ok0 base Ac bl' w') v (a.tmps.getD t undef):=λt v ht=>(h.tmps t v ht).mono hs.ext;cases dst with
 |none=>exact⟨h.defers,h.size,Vj,hr⟩
 |some d=>
  have IZ:d<n:=Dp hd;refine⟨h.defers,by simp[Act.put,h.size],λt v' ht=>?_,hr⟩;simp only[updD,upd]at ht;simp only[Act.put,EQ,VS];by_cases e:t=d
  ·subst e
   simp only[CR,Af]at ht;subst ht;have:t<a.tmps.size:=by rw[h.size];exact IZ
   simp[this,hv]
  ·rw[Y4 e]at ht
   rw[Y4 (λh=>e h.symm)];have:=Vj t v' ht
   rwa [EQ]at this
theorem AaV{t:Yk}:∀{l:Ya Y0},Operand.tmp t∈l->t∈JP l
 |x::l,h=>by
  rcases Bg.1 h with h|h
  ·subst h;simp[JP]
  ·have:=AaV h
   cases x<;>simp_all [JP]
theorem AnT{tm Aml:Yk->Yb V}{l:Ya Y0}(h:∀t∈JP l,tm t=Aml t){x:Y0}(hx:x∈l):Qr tm x=Qr Aml x:=by
 cases x with
 |tmp t=>simp only[Qr,h t (AaV hx)]
 |_=>rfl
theorem AnU{i:Yk}{o:Oper}(ho:ops[i]?=Yd o)(hd:S3 n o.dst=Yo){σ:St}{v:V}{rd:Ya Yk}{wr:Ya (Yk×Blk)}{tin:Ya Yk}(hg:o.guard=Ye/\tin=JP o.op.operands.toList\/∃t want,Oe ops o=Yd (t,want)/\look σ.tm t=Yd (.c (.bool want))/\tin=t::JP o.op.operands.toList)(hs:∀bl2,(∀b∈rd,bl2 b=look σ.bl b)->OpOk P o (Qc σ.tm) bl2 v wr):EOk P ops n ⟨i,o.dst,v,tin,rd,wr⟩ (look σ.tm) (look σ.bl):=by
 intro tm bl ht hb ok0 base pl a w hr K Q hk
 have Ci:∀t∈JP o.op.operands.toList,tm t=look σ.tm t:=by
  intro t cH;rcases hg with⟨_,e⟩|⟨t',want,_,_,e⟩
  ·exact ht t (by rw[e];exact cH)
  ·exact ht t (by rw[e];exact E6 _ cH)
 have hw:Ya8 o (yielded ops a.tmps)=Yo:=by
  unfold Ya8;rcases hg with⟨e,_⟩|⟨t',want,e1,e2,e3⟩
  ·rw[e]
  ·unfold Oe at e1
   split at e1
   ·cases e1
   ·rename_i j Amm Hx
    rw[Hx];cases hj:(ops[j]?).bind (·.dst)with
    |none=>rw[hj]at e1;cases e1
    |some t2=>
     rw[hj]at e1;simp only[Ft,Af,Bv]at e1;obtain⟨e4,e5⟩:=e1;subst e4 e5;have h1:=ht t2 (by rw[e3];simp);rw[e2]at h1;have h2:=hr.tmps t2 _ h1;simp only[VRep,CRep]at h2;simp only[yielded,hj,Wd];rw[EQ]at h2;cases h3:a.tmps[t2]? with
     |none=>rw[h3]at h2;simp[undef]at h2
     |some u=>rw[h3]at h2;simp only[Jh]at h2;subst h2;simp
 unfold wpOp;rw[ho];simp only[hw,CR];refine .inl (hs bl hb ok0 base pl w a hr.rel (λx hx=>?_) K Q λval Ac w' AR AY hv=>hk Ac _ w' (hr.put hd AR AY hv) AY);have DH:x∈o.op.operands.toList:=by simpa using hx
 rw[gR,<-AnT Ci DH];exact gS hr x
theorem AnV{i:Yk}{o:Oper}(ho:ops[i]?=Yd o)(hd:S3 n o.dst=Yo){tmA:Yk->Yb V}{blA:Yk->Yb Blk}{t:Yk}{want:Ys}(hg:Oe ops o=Yd (t,want)){u:V}(ht:tmA t=Yd u)(hu:u=.tup []\/u=.c (.bool (!want))):EOk P ops n ⟨i,o.dst,.tup [],[t],[],[]⟩ tmA blA:=by
 intro tm bl cH hb ok0 base pl a w hr K Q hk;have h1:=cH t (by simp);rw[ht]at h1;have h2:=hr.tmps t _ h1
 have hw:Ya8 o (yielded ops a.tmps)=Yc:=by
  unfold Ya8;unfold Oe at hg;split at hg
  ·cases hg
  ·rename_i j Amm Hx
   rw[Hx];cases hj:(ops[j]?).bind (·.dst)with
   |none=>rw[hj]at hg;cases hg
   |some t2=>
    rw[hj]at hg;simp only[Ft,Af,Bv]at hg;obtain⟨e4,e5⟩:=hg;subst e4 e5;simp only[yielded,hj,Wd];rw[EQ]at h2;cases h3:a.tmps[t2]? with
    |none=>rfl
    |some u'=>
     rw[h3]at h2;simp only[Jh]at h2;rcases hu with e|e
     ·subst e
      obtain⟨vs,h4,h5⟩:=h2;simp only[TReps]at h5;subst h5 h4;rfl
     ·subst e
      simp only[VRep,CRep]at h2;subst h2;cases Amm<;>rfl
 unfold wpOp;rw[ho];simp only[hw,G3,Cb];have AEE:VRep (Ak ok0 base pl bl w) (.tup []) undef:=⟨[],rfl,rfl⟩;exact hk pl _ w (hr.put hd hr.rel (Step.refl pl bl w) AEE) (Step.refl pl bl w)
theorem Qs{tm:Ya (Yk×V)}{t:Yk}{v:V}(h:look tm t=Yd v):look (put tm t v)=look tm:=by
 funext j;rw[So];split
 ·rename_i e;rw[e,h]
 ·rfl
theorem WU{X:Ctx}(hT:TOk P X.T)(hΓ:ΓOk P X.Γ){k:St->Ya LogE->Yb β}:∀{l:Ya (Yk×Oper)}{σ:St}{log:Ya LogE},(∀p∈l,ops[p.1]?=Yd p.2)->Lf X n ops l σ log k=Yd r->∃es σ',k σ' (es.reverse++log)=Yd r/\es.map (·.i)=l.map (·.1)/\Valid P ops n es (look σ.tm) (look σ.bl)/\look σ'.tm=finT es (look σ.tm)/\look σ'.bl=finB es (look σ.bl)
 |[],σ,log,_,h=>⟨[],σ,h,rfl,trivial,rfl,rfl⟩
 |(i,o)::B5,σ,log,hl,h=>by
  have ho:ops[i]?=Yd o:=hl (i,o) (by simp);have F8:∀p∈B5,ops[p.1]?=Yd p.2:=λp hp=>hl p (by simp[hp]);simp only[Lf]at h;cases hd:S3 n o.dst with
  |false=>rw[hd]at h;cases h
  |true=>
   rw[hd]at h;simp only[Ao]at h
   have take:∀(σ1:St)(tin:Ya Yk),look σ1.tm=look σ.tm->look σ1.bl=look σ.bl->
     (o.guard=Ye/\tin=JP o.op.operands.toList\/∃t want,Oe ops o=Yd (t,want)/\look σ1.tm t=Yd (.c (.bool want))/\tin=t::JP o.op.operands.toList)->
     (Ww X o (Qc σ1.tm) (look σ1.bl) σ1.nx λv rd wr=>Lf X n ops B5 ⟨putD σ1.tm o.dst v,puts σ1.bl wr,fC σ1.nx wr⟩ (⟨i,o.dst,v,tin,rd,wr⟩::log) k)=Yd r->
     ∃es σ',k σ' (es.reverse++log)=Yd r/\es.map (·.i)=((i,o)::B5).map (·.1)/\Valid P ops n es (look σ.tm) (look σ.bl)/\look σ'.tm=finT es (look σ.tm)/\look σ'.bl=finB es (look σ.bl):=by
    intro σ1 tin et eb hg h;obtain⟨v,rd,wr,hk,hs⟩:=AnP hT hΓ h;obtain⟨es,σ',h1,h2,h3,h4,h5⟩:=WU hT hΓ F8 hk;refine⟨⟨i,o.dst,v,tin,rd,wr⟩::es,σ',by simpa using h1,by simp[h2],⟨?_,?_⟩,?_,?_⟩
    ·rw[<-et,<-eb]
     exact AnU ho hd hg hs
    ·simp only[WS,fE,et,eb]at h3
     exact h3
    ·rw[h4];simp only[WS,et,finT]
    ·rw[h5];simp only[fE,eb,finB]
   have skip:∀(σ1:St)(t:Yk)(want:Ys)(u:V),look σ1.tm=look σ.tm->look σ1.bl=look σ.bl->Oe ops o=Yd (t,want)->look σ.tm t=Yd u->(u=.tup []\/u=.c (.bool (!want)))->
     (Lf X n ops B5 ⟨putD σ1.tm o.dst (.tup []),σ1.bl,σ1.nx⟩ (⟨i,o.dst,.tup [],[t],[],[]⟩::log) k)=Yd r->
     ∃es σ',k σ' (es.reverse++log)=Yd r/\es.map (·.i)=((i,o)::B5).map (·.1)/\Valid P ops n es (look σ.tm) (look σ.bl)/\look σ'.tm=finT es (look σ.tm)/\look σ'.bl=finB es (look σ.bl):=by
    intro σ1 t want u et eb hg ht hu h;obtain⟨es,σ',h1,h2,h3,h4,h5⟩:=WU hT hΓ F8 h;refine⟨⟨i,o.dst,.tup [],[t],[],[]⟩::es,σ',by simpa using h1,by simp[h2],⟨AnV ho hd hg ht hu,?_⟩,?_,?_⟩
    ·simp only[WS,et,eb]at h3
     exact h3
    ·rw[h4];simp only[WS,et,finT]
    ·rw[h5];simp only[eb,finB,updL]
   split at h
   ·rename_i Hx
    exact take σ _ rfl rfl (.inl ⟨Hx,rfl⟩) h
   ·split at h
    ·cases h
    ·rename_i t want hg
     split at h
     ·rename_i ht
      exact skip σ t want _ rfl rfl hg ht (.inl rfl) h
     ·rename_i g ht
      cases want<;>cases g<;>simp only[Ao,BU,Se,Bool.not_false]at h
      ·exact take ⟨put σ.tm t (.c (.bool Yc)),σ.bl,σ.nx⟩ _ (Qs ht) rfl (.inr ⟨t,Yc,hg,by rw[Qs ht,ht],rfl⟩) h
      ·exact skip ⟨put σ.tm t (.c (.bool Yo)),σ.bl,σ.nx⟩ t Yc _ (Qs ht) rfl hg ht (.inr rfl) h
      ·exact skip ⟨put σ.tm t (.c (.bool Yc)),σ.bl,σ.nx⟩ t Yo _ (Qs ht) rfl hg ht (.inr rfl) h
      ·exact take ⟨put σ.tm t (.c (.bool Yo)),σ.bl,σ.nx⟩ _ (Qs ht) rfl (.inr ⟨t,Yo,hg,by rw[Qs ht,ht],rfl⟩) h
     ·cases h
end
end
end Go.Lift
namespace Go.Lift
noncomputable section
open Go.RowKit
def AExit.toExit:AExit->Exit
 |.normal=>.normal
 |.exit id=>.exit id
 |.ret=>.ret
structure Steps where
 rel:(Yk->Yb Pl)->(Yk->Yb Blk)->Yx->(Yk->Yb Pl)->(Yk->Yb Blk)->Yx->Prop
 refl:∀pl bl w,rel pl bl w pl bl w
 trans:∀{pl pl1 pl2 bl bl1 bl2 w w1 w2},rel pl bl w pl1 bl1 w1->rel pl1 bl1 w1 pl2 bl2 w2->rel pl bl w pl2 bl2 w2
 drawn:∀{pl bl w Ac bl' w'},Step pl bl {w with drawn:=w.drawn+1} Ac bl' w'->rel pl bl w Ac bl' w'
 of:∀{pl bl w Ac bl' w'},Step pl bl w Ac bl' w'->rel pl bl w Ac bl' w'
theorem Step.undrawn{pl Ac:Yk->Yb Pl}{bl bl':Yk->Yb Blk}{w w':Yx}(h:Step pl bl {w with drawn:=w.drawn+1} Ac bl' w'):Step pl bl w Ac bl' w':=⟨h.os,h.tape,h.output,h.size,h.out,h.cells,h.rows⟩
@[reducible] def AnW(m:Yk):Steps:=⟨StepM m,StepM.refl m,StepM.trans,λh=>h.undrawn.toM,Step.toM⟩
@[reducible] def AaW:Steps:=⟨Step,Step.refl,Step.trans,Step.undrawn,id⟩
structure Fr where
 O:(Yk->Yb Blk)->(Yk->Yb Blk)
 upd:∀f wr,O (updL f wr)=updL (O f) wr
 al:Yk->Prop
 agree:∀f b,al b->O f b=f b
@[reducible] def fr0:Fr:=⟨λf=>f,λ_ _=>rfl,λ_=>True,λ_ _ _=>rfl⟩
def ov(F f:Yk->Yb Blk):Yk->Yb Blk:=λi=>
 match f i with
 |some B=>Yd B
 |none=>F i
theorem AaX(F:Yk->Yb Blk):∀(wr:Ya (Yk×Blk))(f:Yk->Yb Blk),ov F (updL f wr)=updL (ov F f) wr
 |[],_=>rfl
 |(i,x)::r,f=>by simp only[updL];rw[AaX F r];congr 1;funext j;simp only[ov,upd];by_cases h:j=i<;>simp[h]
@[reducible] def frF(ids:Ya Yk)(F:Yk->Yb Blk)(h:∀b∈ids,F b=Ye):Fr:=⟨ov F,λf wr=>AaX F wr f,λb=>b∈ids,λf b hb=>by
 simp only[ov];cases hf:f b with
 |some B=>rfl
 |none=>exact h b hb⟩
section
variable{P:Yv}{n:Yk}{R:Steps}{ι:Type}{fr:ι->Fr}{β:Type}{r:β}
theorem Valid.among{ops:YX Oper}(fr:Fr):∀{es:Ya LogE}{tm:Yk->Yb V}{bl:Yk->Yb Blk},Valid P ops n es tm bl->(∀e∈es,∀b∈e.rd,fr.al b)->Valid P ops n es tm (fr.O bl)
 |[],_,_,_,_=>trivial
 |e::es,tm,bl,⟨h1,h2⟩,ha=>⟨h1.agree (λ_ _=>rfl) (λb hb=>fr.agree bl b (ha e (by simp) b hb)),by rw[<-fr.upd];exact Valid.among fr h2 λe' Kh=>ha e' (E6 _ Kh)⟩
theorem AaY(fr:Fr):∀{es:Ya LogE}{bl:Yk->Yb Blk},finB es (fr.O bl)=fr.O (finB es bl)
 |[],_=>rfl
 |e::es,bl=>by simp only[finB];rw[<-fr.upd];exact AaY fr
def SimR(P:Yv)(n:Yk)(R:Steps){ι:Type}(fr:ι->Fr)(c:Code)(σ:St)(k:Kx β)(r:β):Prop:=
 ∃e' σ',k e' σ'=Yd r/\∀(i:ι)(ok0:OK0 P)(base:Yk)(pl:Yk->Yb Pl)(a:Act)(w:Yx),Rel n ok0 base pl (look σ.tm) ((fr i).O (look σ.bl)) a w->
  c.wp P (λe a' w'=>e=e'.toExit/\∃Ac,Rel n ok0 base Ac (look σ'.tm) ((fr i).O (look σ'.bl)) a' w'/\R.rel pl ((fr i).O (look σ.bl)) w Ac ((fr i).O (look σ'.bl)) w') a w
def AnX(P:Yv)(n:Yk)(R:Steps){ι:Type}(fr:ι->Fr)(c:Code)(cut:Cut):Prop:=
 ∀{β:Type}(σ:St)(k:Kx β)(r:β),cut.run σ k=Yd r->SimR P n R fr c σ k r
def Sim(P:Yv)(n m:Yk)(c:Code)(σ:St)(k:Kx β)(r:β):Prop:=
 ∃e' σ',k e' σ'=Yd r/\∀(ok0:OK0 P)(base:Yk)(pl:Yk->Yb Pl)(a:Act)(w:Yx),Rel n ok0 base pl (look σ.tm) (look σ.bl) a w->
  c.wp P (λe a' w'=>e=e'.toExit/\∃Ac,Rel n ok0 base Ac (look σ'.tm) (look σ'.bl) a' w'/\StepM m pl (look σ.bl) w Ac (look σ'.bl) w') a w
def On(P:Yv)(n m:Yk)(c:Code)(cut:Cut):Prop:=
 ∀{β:Type}(σ:St)(k:Kx β)(r:β),cut.run σ k=Yd r->Sim P n m c σ k r
def find(q:Yk):Yk->Code->Ya Code
 |p,c=>
  let UM:Ya Code:=bif Ym p q then [c]else []
  match c with
  |.seq a b=>UM++(find q (2*p) a++find q (2*p+1) b)
  |.cond _ a b=>UM++(find q (2*p) a++find q (2*p+1) b)
  |.block _ a=>UM++find q (2*p) a
  |.scope a=>UM++find q (2*p) a
  |_=>UM
theorem Ks(p:Yk)(c:Code):c∈find p p c:=by unfold find;cases c<;>simp
theorem SM:∀(l:Ya Oper)(s:Yk),(Hl s l).map (·.1)=List.range' s l.length
 |[],_=>rfl
 |o::l,s=>by simp[Hl,SM l,List.range'_succ]
theorem SN{ops:YX Oper}:∀(l:Ya Oper)(s:Yk),ops.toList.drop s=l->∀p∈Hl s l,ops[p.1]?=Yd p.2
 |[],_,_,p,hp=>by simp[Hl]at hp
 |o::l,s,h,p,hp=>by
  have hs:s<ops.toList.length:=by
   rcases Nat.lt_or_ge s ops.toList.length with h1|h1
   ·exact h1
   ·rw[dE h1]at h;cases h
  rw[JH hs]at h;injection h with h1 h2;simp only[Hl,Bg]at hp;rcases hp with e|hp
  ·subst e
   simp only[Array.getElem_toList]at h1;rw[<-h1];exact PA (by simpa using hs)
  ·exact SN l (s+1) h2 p hp
theorem gV:∀{l:Ya (Yk×Oper)},Lg l=Yo->∀p∈l,∀e∈p.2.after,YH .any e=Yo->e.on<p.1
 |[],_,p,hp=>by simp at hp
 |(i,o)::l,h,p,hp=>by
  simp only[Lg,CO,NW]at h;rcases Bg.1 hp with e|hp
  ·subst e
   intro e he hb;have:=h.1 e (by simpa using he);simp only[hb,Se,Ko]at this;exact Dp this
  ·exact gV h.2 p hp
theorem AaZ{m:Yk}{y:LogE}:∀{l:Ya LogE},Wx m y l=Yo->∀x∈l,Qd x y=Yc\/YZ m x.i=Yo
 |[],_,x,hx=>by simp at hx
 |z::l,h,x,hx=>by
  simp only[Wx,CO,Ik,PH]at h;rcases Bg.1 hx with e|hx
  ·subst e;exact h.1
  ·exact AaZ h.2 x hx
theorem gW{ms:Ya Yk}:∀{l:Ya LogE},fine ms l=Yo->l.Pairwise (λy x=>Qd x y=Yc\/YZ (ms.getD y.i 0) x.i=Yo)
 |[],_=>Ya5
 |y::l,h=>by simp only[fine,CO]at h;exact G4.2 ⟨λx hx=>AaZ h.1 x hx,gW h.2⟩
theorem Rel.drawn{ok0:OK0 P}{base:Yk}{pl:Yk->Yb Pl}{tm:Yk->Yb V}{bl:Yk->Yb Blk}{a:Act}{w w':Yx}(h:Rel n ok0 base pl tm bl a w)(hw:w'.heap=w.heap):Rel n ok0 base pl tm bl a w':=by
 have hk:Ext (Ak ok0 base pl bl w) (Ak ok0 base pl bl w'):=
  ⟨Aw _,λg hg _=>⟨hg,by show w'.heap[g]?=w.heap[g]?;rw[hw]⟩,λ_ _ h=>h,λ_ sv Ab h=>⟨sv,Ab,h,KeepR.refl _ _ _⟩⟩
 refine⟨h.defers,h.size,λt v ht=>(h.tmps t v ht).mono hk,by rw[hw];exact h.rel.baseLe,λi B hB=>?_,h.rel.sep,h.rel.fresh,h.rel.glob.out (by rw[hw];exact Aw _) (λg _ ho=>⟨by rw[hw],ho⟩)⟩;obtain⟨p,hp,hb⟩:=h.rel.blks i B hB;exact⟨p,hp,hb.mono hk λg _=>by show w'.heap[g]?=w.heap[g]?;rw[hw]⟩
theorem AnY(hm:P.follows .mixedOrders=Yo){X:Ctx}(hA:∀log,LU X.A log=Yo->∀e∈log,∀b∈e.rd,∀i,(fr i).al b)(hT:TOk P X.T)(hΓ:ΓOk P X.Γ){id:Yk}{ops:YX Oper}{draw:Ys}{σ:St}{k:Kx β}(h:(Lf X n ops (Hl 0 ops.toList) σ [] λσ' log=>bif LU X.A log&&(!draw||(Lg (Hl 0 ops.toList)&&fine (GQ ops.toList []) log))then k .normal σ' else Ye)=Yd r):SimR P n R fr (.region id ops draw) σ k r:=by
 obtain⟨es,σ',h1,h2,h3,h4,h5⟩:=WU hT hΓ (SN ops.toList 0 (by simp)) h;rw[SM]at h2;have DV:es.map (·.i)=List.range ops.size:=by rw[h2,dH];simp
 simp only[Gj]at h1
 have hc:LU X.A es.reverse=Yo/\(!draw||(Lg (Hl 0 ops.toList)&&fine (GQ ops.toList []) es.reverse))=Yo/\k .normal σ'=Yd r:=by
  cases hb:(LU X.A es.reverse&&(!draw||(Lg (Hl 0 ops.toList)&&fine (GQ ops.toList []) es.reverse)))with
  |false=>rw[hb]at h1;cases h1
  |true=>rw[hb]at h1;exact⟨(andB hb).1,(andB hb).2,h1⟩
 obtain⟨GE,hc⟩:=hc;refine⟨.normal,σ',hc.2,λi ok0 base pl a w hr=>?_⟩;have h3:=Valid.among (fr i) h3 λe he b hb=>hA _ GE e (List.mem_reverse.2 he) b hb i;have h5:(fr i).O (look σ'.bl)=finB es ((fr i).O (look σ.bl)):=by rw[h5,AaY]
 cases draw with
 |false=>
  refine wp_region ?_;rw[<-DV];refine gT h3 hr λAc a' w' AR B3=>⟨rfl,Ac,?_,?_⟩
  ·rw[h4,h5];exact AR
  ·rw[h5];exact R.of B3
 |true=>
  have HZ:=hc.1;simp only[Se,Ko,CO]at HZ;obtain⟨hb,hf⟩:=HZ
  have IY:∀(j:Yk)(o:Oper),ops[j]?=Yd o->∀e∈o.after,YH .any e=Yo->e.on<j:=by
   intro j o ho;have hj:j<ops.size:=(Fb.1 ho).1
   have Co:j∈(Hl 0 ops.toList).map (·.1):=by rw[SM];simp only[FV,List.mem_range'_1];omega
   obtain⟨p,hp,e⟩:=Fw.1 Co;have h6:=SN (ops:=ops) ops.toList 0 (by simp) p hp;rw[e,ho]at h6;injection h6 with h6;have:=gV hb p hp;rw[e,<-h6]at this;exact this
  have L4:∀i,(∃e∈es,e.i=i)↔i<ops.size:=by intro i;rw[<-Sc,<-DV,Fw]
  refine wp_region_any hm ?_;refine AaU IY ops.size (es:=es) ?_ (by simp) ?_ (λi hi=>?_) ?_ (λe he=>(L4 e.i).1 ⟨e,he,rfl⟩) ?_ h3 (hr.drawn (w':={w with drawn:=w.drawn+1}) rfl) λAc a' w' AR B3=>⟨rfl,Ac,?_,?_⟩
  ·have:=Ai List.length DV
   simpa using this
  ·intro j o _ hj
   exfalso;rw[EQ]at hj;rcases Nat.lt_or_ge j ops.size with h7|h7
   ·simp[h7]at hj
   ·simp[Nat.not_lt.2 h7]at hj
  ·constructor
   ·intro _;exact(L4 i).2 hi
   ·intro _;simp[EQ,hi]
  ·have:(es.map (·.i)).Pairwise (· < ·):=by rw[DV];exact List.pairwise_lt_range
   exact RU.1 this
  ·have:=gW hf
   exact List.pairwise_reverse.1 this
  ·rw[h4,h5];exact AR
  ·rw[h5]
   exact R.drawn B3
theorem Dq{c:Code}{Q Q':Exit->Act->Yx->Prop}{a:Act}{w:Yx}(h:c.wp P Q a w)(hq:∀e a w,Q e a w->Q' e a w):c.wp P Q' a w:=by intro b k cs;obtain⟨e,a',w',h1,h2⟩:=h b k cs;exact⟨e,a',w',hq _ _ _ h1,h2⟩
theorem gX(hm:P.follows .mixedOrders=Yo){X:Ctx}(hA:∀log,LU X.A log=Yo->∀e∈log,∀b∈e.rd,∀i,(fr i).al b)(hT:TOk P X.T)(hΓ:ΓOk P X.Γ):∀{c:Code}{Λ:Yk->Yb Cut}{p:Yk}{σ:St}{k:Kx β},(∀q cut,Λ q=Yd cut->∀c'∈find q p c,AnX P n R fr c' cut)->exec X n Λ p c σ k=Yd r->SimR P n R fr c σ k r:=by
 intro c
 induction c with
 |region id ops draw=>
  intro Λ p σ k hΛ h;unfold exec at h;split at h
  ·rename_i cut hc;exact hΛ p cut hc _ (Ks p _) σ k r h
  ·exact AnY hm hA hT hΓ h
 |skip=>
  intro Λ p σ k hΛ h;unfold exec at h;split at h
  ·rename_i cut hc;exact hΛ p cut hc _ (Ks p _) σ k r h
  ·exact⟨.normal,σ,h,λi ok0 base pl a w hr=>wp_skip ⟨rfl,pl,hr,R.refl _ _ _⟩⟩
 |exit id=>
  intro Λ p σ k hΛ h;unfold exec at h;split at h
  ·rename_i cut hc;exact hΛ p cut hc _ (Ks p _) σ k r h
  ·exact⟨.exit id,σ,h,λi ok0 base pl a w hr=>wp_exit ⟨rfl,pl,hr,R.refl _ _ _⟩⟩
 |ret=>
  intro Λ p σ k hΛ h;unfold exec at h;split at h
  ·rename_i cut hc;exact hΛ p cut hc _ (Ks p _) σ k r h
  ·exact⟨.ret,σ,h,λi ok0 base pl a w hr=>wp_ret ⟨rfl,pl,hr,R.refl _ _ _⟩⟩
 |seq x y ihx ihy=>
  intro Λ p σ k hΛ h;unfold exec at h;split at h
  ·rename_i cut hc;exact hΛ p cut hc _ (Ks p _) σ k r h
  ·simp only at h
   obtain⟨e1,σ1,h1,EP⟩:=ihx (λq cut hq c' Hw=>hΛ q cut hq c' (by unfold find;simp[Hw])) h;have hy:∀{k':Kx β},exec X n Λ (2*p+1) y σ1 k'=Yd r->SimR P n R fr y σ1 k' r:=ihy (λq cut hq c' Hw=>hΛ q cut hq c' (by unfold find;simp[Hw]));cases e1 with
   |normal=>simp only at h1;obtain⟨e2,σ2,h2,He⟩:=hy h1;refine⟨e2,σ2,h2,λi ok0 base pl a w hr=>wp_seq (Dq (EP i ok0 base pl a w hr) λe a' w' ⟨he,Ac,AR,B3⟩=>?_)⟩;subst he;exact Dq (He i ok0 base Ac a' w' AR) λe a2 w2 ⟨GD,pl2,DQ,AP⟩=>⟨GD,pl2,DQ,R.trans B3 AP⟩
   |exit id=>refine⟨.exit id,σ1,h1,λi ok0 base pl a w hr=>wp_seq (Dq (EP i ok0 base pl a w hr) λe a' w' hq=>?_)⟩;have he:=hq.1;subst he;exact hq
   |ret=>refine⟨.ret,σ1,h1,λi ok0 base pl a w hr=>wp_seq (Dq (EP i ok0 base pl a w hr) λe a' w' hq=>?_)⟩;have he:=hq.1;subst he;exact hq
 |cond x a b iha ihb=>
  intro Λ p σ k hΛ h;unfold exec at h;split at h
  ·rename_i cut hc;exact hΛ p cut hc _ (Ks p _) σ k r h
  ·simp only at h
   split at h
   ·rename_i g hg
    have UN:∀(i:ι)(ok0:OK0 P)(base:Yk)(pl:Yk->Yb Pl)(a:Act)(w:Yx),Rel n ok0 base pl (look σ.tm) ((fr i).O (look σ.bl)) a w->a.eval x=.bool g:=by intro i ok0 base pl a w hr;have:=gS hr x;rw[<-gR,hg]at this;exact this
    cases g with
    |true=>obtain⟨e1,σ1,h1,EP⟩:=iha (λq cut hq c' Hw=>hΛ q cut hq c' (by unfold find;simp[Hw])) h;exact⟨e1,σ1,h1,λi ok0 base pl a w hr=>wp_cond_true (UN i ok0 base pl a w hr) (EP i ok0 base pl a w hr)⟩
    |false=>obtain⟨e1,σ1,h1,EP⟩:=ihb (λq cut hq c' Hw=>hΛ q cut hq c' (by unfold find;simp[Hw])) h;exact⟨e1,σ1,h1,λi ok0 base pl a w hr=>wp_cond_false (UN i ok0 base pl a w hr) (EP i ok0 base pl a w hr)⟩
   ·cases h
 |label l=>
  intro Λ p σ k hΛ h;unfold exec at h;split at h
  ·rename_i cut hc;exact hΛ p cut hc _ (Ks p _) σ k r h
  ·exact⟨.normal,σ,h,λi ok0 base pl a w hr=>wp_label ⟨rfl,pl,hr,R.refl _ _ _⟩⟩
 |scope x ihx=>
  intro Λ p σ k hΛ h;unfold exec at h;split at h
  ·rename_i cut hc;exact hΛ p cut hc _ (Ks p _) σ k r h
  ·simp only at h
   obtain⟨e1,σ1,h1,EP⟩:=ihx (λq cut hq c' Hw=>hΛ q cut hq c' (by unfold find;simp[Hw])) h;refine⟨e1,σ1,h1,λi ok0 base pl a w hr=>wp_scope_straight (Dq (EP i ok0 base pl a w hr) λe a' w' hq=>?_)⟩;have he:=hq.1;subst he;cases e1<;>exact hq
 |block id a iha=>
  intro Λ p σ k hΛ h;unfold exec at h;split at h
  ·rename_i cut hc;exact hΛ p cut hc _ (Ks p _) σ k r h
  ·simp only at h
   obtain⟨e1,σ1,h1,EP⟩:=iha (λq cut hq c' Hw=>hΛ q cut hq c' (by unfold find;simp[Hw])) h;cases e1 with
   |normal=>refine⟨.normal,σ1,h1,λi ok0 base pl a w hr=>YaT (Dq (EP i ok0 base pl a w hr) λe a' w' hq=>?_)⟩;have he:=hq.1;subst he;exact hq
   |ret=>refine⟨.ret,σ1,h1,λi ok0 base pl a w hr=>YaT (Dq (EP i ok0 base pl a w hr) λe a' w' hq=>?_)⟩;have he:=hq.1;subst he;exact hq
   |exit Gw=>
    simp only at h1;cases hid:Ym Gw id with
    |true=>rw[hid]at h1;have hid:=At hid;refine⟨.normal,σ1,h1,λi ok0 base pl a w hr=>YaT (Dq (EP i ok0 base pl a w hr) λe a' w' hq=>?_)⟩;have he:=hq.1;subst he;simp only[AExit.toExit,Ybb,hid,CR];exact⟨trivial,hq.2⟩
    |false=>
     rw[hid]at h1;have Az:Gw≠id:=λe=>by rw[e,LO]at hid;cases hid
     refine⟨.exit Gw,σ1,h1,λi ok0 base pl a w hr=>YaT (Dq (EP i ok0 base pl a w hr) λe a' w' hq=>?_)⟩;have he:=hq.1;subst he;simp only[AExit.toExit,Ybb,Az,Cb];exact⟨trivial,hq.2⟩
 |loop a iha=>
  intro Λ p σ k hΛ h;unfold exec at h;split at h
  ·rename_i cut hc;exact hΛ p cut hc _ (Ks p _) σ k r h
  ·simp only at h
   generalize X.N=i at h
   have key:∀(i:Yk)(σ:St),Wy (λσ' k'=>exec X n (λ_=>Ye) 1 a σ' k') i σ k=Yd r->∃e' σ',k e' σ'=Yd r/\∀(j:ι)(ok0:OK0 P)(base:Yk)(pl:Yk->Yb Pl)(a':Act)(w:Yx),Rel n ok0 base pl (look σ.tm) ((fr j).O (look σ.bl)) a' w->
     Code.rounds P a (λe a' w'=>e=e'.toExit/\∃Ac,Rel n ok0 base Ac (look σ'.tm) ((fr j).O (look σ'.bl)) a' w'/\R.rel pl ((fr j).O (look σ.bl)) w Ac ((fr j).O (look σ'.bl)) w') i a' w:=by
    intro i
    induction i with
    |zero=>intro σ h;cases h
    |succ i ih=>
     intro σ h;simp only[Wy]at h;obtain⟨e1,σ1,h1,EP⟩:=iha (Λ:=λ_=>Ye) (λ_ _ h=>by cases h) h;cases e1 with
     |normal=>
      simp only at h1;obtain⟨e2,σ2,h2,He⟩:=ih σ1 h1;refine⟨e2,σ2,h2,λj ok0 base pl a' w hr=>?_⟩;rw[rounds_succ];refine Dq (EP j ok0 base pl a' w hr) λe a1 w1 ⟨he,pl1,LA,Bt⟩=>?_;subst he
      have Hb:∀(i:Yk){Q Q':Exit->Act->Yx->Prop}{a1:Act}{w:Yx},(∀e a w,Q e a w->Q' e a w)->Code.rounds P a Q i a1 w->Code.rounds P a Q' i a1 w:=by
       intro i
       induction i with
       |zero=>intro _ _ _ _ _ h;exact h
       |succ i ihj=>
        intro Q Q' a1 w hq h;rw[rounds_succ]at h⊢;refine Dq h λe a w h=>?_;cases e with
        |normal=>exact ihj hq h
        |_=>exact hq _ _ _ h
      exact Hb i (λe a2 w2 ⟨q1,pl2,q2,q3⟩=>⟨q1,pl2,q2,R.trans Bt q3⟩) (He j ok0 base pl1 a1 w1 LA)
     |exit id=>refine⟨.exit id,σ1,h1,λj ok0 base pl a' w hr=>?_⟩;rw[rounds_succ];refine Dq (EP j ok0 base pl a' w hr) λe a1 w1 hq=>?_;have he:=hq.1;subst he;exact hq
     |ret=>refine⟨.ret,σ1,h1,λj ok0 base pl a' w hr=>?_⟩;rw[rounds_succ];refine Dq (EP j ok0 base pl a' w hr) λe a1 w1 hq=>?_;have he:=hq.1;subst he;exact hq
   obtain⟨e',σ',h1,h2⟩:=key i σ h;exact⟨e',σ',h1,λj ok0 base pl a' w hr=>wp_loop_rounds i (h2 j ok0 base pl a' w hr)⟩
 |_=>
  intro Λ p σ k hΛ h;unfold exec at h;split at h
  ·rename_i cut hc;exact hΛ p cut hc _ (Ks p _) σ k r h
  ·cases h
theorem gY(hm:P.follows .mixedOrders=Yo){m:Yk}{X:Ctx}(hT:TOk P X.T)(hΓ:ΓOk P X.Γ){Λ:Yk->Yb Cut}{c:Code}{p:Yk}{σ:St}{k:Kx β}(h:∀q cut,Λ q=Yd cut->∀c'∈find q p c,On P n m c' cut)(hk:exec X n Λ p c σ k=Yd r):Sim P n m c σ k r:=by
 obtain⟨e',σ',h1,h2⟩:=gX (R:=AnW m) (fr:=λ_:Unit=>fr0) hm (λ_ _ _ _ _ _ _=>trivial) hT hΓ (λq cut hq c' Hw=>λσ k r hr=>by obtain⟨e',σ',h1,h2⟩:=h q cut hq c' Hw σ k r hr;exact⟨e',σ',h1,λ_=>h2⟩) hk
 exact⟨e',σ',h1,h2 ()⟩
end
end
end Go.Lift
namespace Go.Lift
noncomputable section
open Go.RowKit
structure View where
 m:Yk
 slots:Ya Yk
 params:Ya (Ys×Ya CT)
 ins:Ya BT
abbrev View.den(v:View):Type:=ST.dens v.params×BT.dens v.ins
def idsB(bl:Yk->Yb Blk)(nx:Yk):Ya BT->Yk->Ya (Yk×Yk)->Yb (Ya Yk)
 |[],_,_=>Yd []
 |t::r,j,ps=>
  match look ps j with
  |some i=>
   match t,bl i with
   |.cells _ l,Yd (.cells _ cs)=>
    match idsB bl nx r (j+1) (ps++JL l cs)with
    |some is=>Yd (i::is)
    |none=>Ye
   |_,_=>
    match idsB bl nx r (j+1) ps with
    |some is=>Yd (i::is)
    |none=>Ye
  |none=>
   match idsB bl (nx+1) r (j+1) ps with
   |some is=>Yd (nx::is)
   |none=>Ye
def fEq(ids:Ya Yk):Ya (Ya Yl×(Y6×Yk))->Ya (Ya Yl×(Y6×Yk))->Ys
 |[],[]=>Yo
 |x::l,y::m=>(Yf (x.1=y.1)&&(Ym x.2.1 y.2.1&&(match ids[x.2.2]? with|some i=>Ym i y.2.2|none=>Yc)))&&fEq ids l m
 |_,_=>Yc
def CS(bl:Yk->Yb Blk)(ids:Ya Yk):(l:Ya BT)->Ya Yk->Yb (BT.dens l)
 |[],[]=>Yd ()
 |.cells t l::r,i::is=>
  match bl i with
  |some (.cells t' cs)=>
   bif Ym t t' then
    match Bl bl ids l cs with
    |none=>Ye
    |some y=>
     match CS bl ids r is with
     |none=>Ye
     |some z=>Yd (y,z)
   else Ye
  |_=>Ye
 |.row t e::r,i::is=>
  match bl i with
  |some (.row t' e' _ l)=>
   bif Ym t t' then
    if h:e'=e then
     match CS bl ids r is with
     |none=>Ye
     |some z=>Yd ((h▸l:Ya e.den),z)
    else Ye
   else Ye
  |none=>
   match CS bl ids r is with
   |none=>Ye
   |some z=>Yd (([]:Ya e.den),z)
  |_=>Ye
 |.map t k v vg::r,i::is=>
  match bl i with
  |some (.map t' k' v' RM l)=>
   bif Ym t t'&&(vg==RM)then
    if h:k'=k then
     if h2:v'=v then
      match CS bl ids r is with
      |none=>Ye
      |some z=>Yd ((h▸(h2▸l:Ya (k'.den×v.den)):Ya (k.den×v.den)),z)
     else Ye
    else Ye
   else Ye
  |_=>Ye
 |.mat t et e::r,i::is=>
  match bl i with
  |some (.mat t' U5 e' _ _ Ye l)=>
   bif Ym t t'&&Ym et U5 then
    if h:e'=e then
     match CS bl ids r is with
     |none=>Ye
     |some z=>Yd ((h▸l:Ya (Ya e.den)),z)
    else Ye
   else Ye
  |none=>
   match CS bl ids r is with
   |none=>Ye
   |some z=>Yd (([]:Ya (Ya e.den)),z)
  |_=>Ye
 |.tree t e::r,i::is=>
  match bl i with
  |some (.tree t' e' _ _ Ye l)=>
   bif Ym t t' then
    if h:e'=e then
     match CS bl ids r is with
     |none=>Ye
     |some z=>Yd ((h▸l:Ya e.ty.den),z)
    else Ye
   else Ye
  |none=>
   match CS bl ids r is with
   |none=>Ye
   |some z=>Yd (([]:Ya e.ty.den),z)
  |_=>Ye
 |.fmap t l::r,i::is=>
  match bl i with
  |some (.fmap t' l')=>bif Ym t t'&&fEq ids l l' then CS bl ids r is else Ye
  |_=>Ye
 |_,_=>Ye
def FL:Ya CT->Ya C->Ya Yk
 |.data τ::l,cs=>Cx (cs.take τ.size)++FL l (cs.drop τ.size)
 |_::l,_::cs=>FL l cs
 |_,_=>[]
def FX:Ya (Ys×Ya CT)->Ya V->Ya Yk
 |t::l,v::vs=>
  match v.cells with
  |some cs=>FL t.2 cs++FX l vs
  |none=>FX l vs
 |_,_=>[]
def EH(bl:Yk->Yb Blk):Ya BT->Ya Yk->Ya Yk
 |.cells _ l::r,i::is=>
  match bl i with
  |some (.cells _ cs)=>FL l cs++EH bl r is
  |_=>EH bl r is
 |_::r,_::is=>EH bl r is
 |_,_=>[]
def Qt(tm:Ya (Yk×V)):Ya Yk->Yb (Ya V)
 |[]=>Yd []
 |t::r=>
  match look tm t with
  |some v=>
   match Qt tm r with
   |some vs=>Yd (v::vs)
   |none=>Ye
  |none=>Ye
def AnZ(m:Yk):Ya (Yk×Yk):=(AD 0 m).zip (AD 0 m)
def Oo:Ya Yk->Ya Yk->Ys
 |[],[]=>Yo
 |x::r,y::s=>Ym x y&&Oo r s
 |_,_=>Yc
def View.read(v:View)(σ:St):Yb v.den:=
 match Qt σ.tm v.slots with
 |none=>Ye
 |some vs=>
  match idsB (look σ.bl) σ.nx v.ins 0 (AnZ v.m++Sv v.params vs)with
  |none=>Ye
  |some ids=>
   match GP (look σ.bl) ids v.params vs with
   |none=>Ye
   |some x=>
    match CS (look σ.bl) ids v.ins ids with
    |none=>Ye
    |some y=>
     bif YB v.m v.ins.length&&(Oo (ids.take v.m) (AD 0 v.m)&&(JI ids&&!meet (FX v.params vs++EH (look σ.bl) v.ins ids) ids))then Yd (x,y)else Ye
def mkT(ids:Ya Yk):Ya Yk->(l:Ya (Ys×Ya CT))->ST.dens l->Ya (Yk×V)
 |s::ss,t::l,x=>(s,V.mk t.1 (mkC ids t.2 x.1))::mkT ids ss l x.2
 |_,_,_=>[]
def SO:Yk->Ya Blk->Ya (Yk×Blk)
 |_,[]=>[]
 |i,b::r=>(i,b)::SO (i+1) r
def View.mk'(v:View)(d:v.den):St:=
 ⟨mkT (AD 0 v.ins.length) v.slots v.params d.1,SO 0 (mkB (AD 0 v.ins.length) v.ins d.2),v.ins.length⟩
theorem Ab0:∀(l:Ya Blk)(s i:Yk),look (SO s l) i=if s<=i then l[i-s]? else Ye
 |[],s,i=>by simp[SO,Fx,EG]
 |b::l,s,i=>by
  simp only[SO,Fx,EG];by_cases h:s=i
  ·subst h;simp
  ·rw[IE (λe=>h e.symm),BU,Ab0]
   by_cases h2:s<=i
   ·have h3:s+1<=i:=by omega
    have h4:i-s=(i-(s+1))+1:=by omega
    simp[h2,h3,h4]
   ·have h3:¬s+1<=i:=by omega
    simp[h2,h3]
theorem Qu(v:View)(d:v.den):look (v.mk' d).bl=fnBl (mkB (AD 0 v.ins.length) v.ins d.2):=by funext i;simp[View.mk',Ab0,fnBl]
theorem gZ{bl:Yk->Yb Blk}:∀{τ:Ty}{cs:Ya C}{x:τ.den}{r:Ya C},pack bl τ cs=Yd (x,r)->∃ds,cs=ds++r/\ds.length=τ.size/\pack bl τ ds=Yd (x,[])
 |.bool,cs,x,r,h=>by
  cases cs with
  |nil=>simp[pack]at h
  |cons c cs=>
   cases c<;>simp only[pack]at h<;>try(cases h;done)
   simp only[Af,Bv]at h;obtain⟨h1,h2⟩:=h;subst h1 h2;exact⟨[_],rfl,rfl,rfl⟩
 |.int k,cs,x,r,h=>by
  cases cs with
  |nil=>simp[pack]at h
  |cons c cs=>
   cases c<;>simp only[pack]at h<;>try(cases h;done)
   split at h
   ·rename_i hk
    subst hk;simp only[Af,Bv]at h;obtain⟨h1,h2⟩:=h;subst h1 h2;exact⟨[_],rfl,rfl,by simp[pack]⟩
   ·cases h
 |.err,cs,x,r,h=>by
  cases cs with
  |nil=>simp[pack]at h
  |cons c cs=>
   cases c<;>simp only[pack]at h<;>try(cases h;done)
   simp only[Af,Bv]at h;obtain⟨h1,h2⟩:=h;subst h1 h2;exact⟨[_],rfl,rfl,rfl⟩
 |.str,cs,x,r,h=>by
  cases cs with
  |nil=>simp[pack]at h
  |cons c cs=>
   cases c<;>simp only[pack]at h<;>try(cases h;done)
   simp only[Af,Bv]at h;obtain⟨h1,h2⟩:=h;subst h1 h2;exact⟨[_],rfl,rfl,rfl⟩
 |.unit,cs,x,r,h=>by simp only[pack,Af,Bv]at h;obtain⟨_,h2⟩:=h;subst h2;exact⟨[],rfl,rfl,rfl⟩
 |.prod a b,cs,x,r,h=>by
  simp only[pack]at h;split at h
  ·cases h
  ·rename_i x1 r1 h1
   split at h
   ·cases h
   ·rename_i x2 r2 h2
    simp only[Af,Bv]at h;obtain⟨e1,e2⟩:=h;subst e1 e2;obtain⟨ds,e3,e4,e5⟩:=gZ h1;obtain⟨es,e6,e7,e8⟩:=gZ h2;refine⟨ds++es,by rw[e3,e6,C1],by simp[e4,e7,Ty.size],?_⟩;have:=pack_append e5 (s:=es);simp only[pack,this,DT,e8]
 |.slice e,cs,x,r,h=>by
  cases cs with
  |nil=>simp[pack]at h
  |cons c cs=>
   rcases MK (∃b ver p,c=.trow b ver p)with⟨b,ver,p,rfl⟩|Pq
   ·cases p with
    |cons _ _=>simp[pack]at h
    |nil=>
     simp only[pack]at h;split at h
     ·cases h
     ·rename_i l hl
      simp only[Af,Bv]at h;obtain⟨h1,h2⟩:=h;subst h1 h2;exact⟨[_],rfl,rfl,by simp[pack,hl]⟩
   cases c<;>first|exact Yw ⟨_,_,_,rfl⟩ Pq|skip
   all_goals simp only[pack]at h
   all_goals try(cases h;done)
   ·split at h
    ·rename_i e' l he
     subst he;simp only[Af,Bv]at h;obtain⟨h1,h2⟩:=h;subst h1 h2;exact⟨[_],rfl,rfl,by simp[pack]⟩
    ·cases h
   ·simp only[Af,Bv]at h
    obtain⟨h1,h2⟩:=h;subst h1 h2;exact⟨[_],rfl,rfl,rfl⟩
   ·split at h
    ·cases h
    ·rename_i l hl
     simp only[Af,Bv]at h;obtain⟨h1,h2⟩:=h;subst h1 h2;exact⟨[_],rfl,rfl,by simp[pack,hl]⟩
   ·split at h
    ·cases h
    ·rename_i l hl
     simp only[Af,Bv]at h;obtain⟨h1,h2⟩:=h;subst h1 h2;exact⟨[_],rfl,rfl,by simp[pack,hl]⟩
 where
 pack_append {bl:Yk->Yb Blk}:∀{τ:Ty}{cs:Ya C}{x:τ.den}{r s:Ya C},pack bl τ cs=Yd (x,r)->pack bl τ (cs++s)=Yd (x,r++s)
 |.bool,cs,x,r,s,h=>by
  cases cs with
  |nil=>simp[pack]at h
  |cons c cs=>cases c<;>simp only[pack,EE]at h⊢<;>first|(cases h;done)|(simp_all;done)
 |.int k,cs,x,r,s,h=>by
  cases cs with
  |nil=>simp[pack]at h
  |cons c cs=>
   cases c<;>simp only[pack,EE]at h⊢<;>try(cases h;done)
   split at h
   ·rename_i hk;subst hk;simp_all
   ·cases h
 |.err,cs,x,r,s,h=>by
  cases cs with
  |nil=>simp[pack]at h
  |cons c cs=>cases c<;>simp only[pack,EE]at h⊢<;>first|(cases h;done)|(simp_all;done)
 |.str,cs,x,r,s,h=>by
  cases cs with
  |nil=>simp[pack]at h
  |cons c cs=>cases c<;>simp only[pack,EE]at h⊢<;>first|(cases h;done)|(simp_all;done)
 |.unit,cs,x,r,s,h=>by simp only[pack]at h⊢;simp_all
 |.prod a b,cs,x,r,s,h=>by
  simp only[pack]at h⊢;split at h
  ·cases h
  ·rename_i x1 r1 h1
   split at h
   ·cases h
   ·rename_i x2 r2 h2
    rw[pack_append h1];simp only;rw[pack_append h2]
    simp_all
 |.slice e,cs,x,r,s,h=>by
  cases cs with
  |nil=>simp[pack]at h
  |cons c cs=>
   rcases MK (∃b ver p,c=.trow b ver p)with⟨b,ver,p,rfl⟩|Pq
   ·cases p with
    |cons _ _=>simp[pack]at h
    |nil=>
     simp only[pack,EE]at h⊢;split at h
     ·cases h
     ·simp_all
   cases c<;>first|exact Yw ⟨_,_,_,rfl⟩ Pq|skip
   all_goals simp only[pack,EE]at h⊢
   all_goals try(cases h;done)
   ·split at h
    ·rename_i e' l he;subst he;simp_all
    ·cases h
   ·simp_all
   ·split at h
    ·cases h
    ·simp_all
   ·split at h
    ·cases h
    ·simp_all
end
end Go.Lift
