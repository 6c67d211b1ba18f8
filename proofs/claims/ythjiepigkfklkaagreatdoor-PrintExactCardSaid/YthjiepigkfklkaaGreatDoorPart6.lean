/- Part6 -/
import Derived.MapKept
import Derived.WideKeyRuns
import Derived.LoopN
import Derived.Test.YthjiepigkfklkaaGreatDoorPart5
set_option linter.unusedVariables false
set_option linter.unusedSectionVars false
set_option linter.unusedSimpArgs false
open _root_ renaming Option → Ya, List → Ye, Int → Yh, UInt8 → Yj, Nat → Yn, Bool → Ys, if_neg → Yy, absurd → Y7, Array → YQ
open Decidable renaming decide → Yd
open Option renaming none → Yf, some → Yg
open Bool renaming false → Yi, true → Yp
open List renaming getD → Ym
open Nat renaming beq → Yo, blt → Y0, ble → YI, testBit → Yaf
open Go renaming Value → Yq, TypeId → Yr, run_underlying → Yu, Program → Yw, World → Yx, Operand → Y2, execOp → Y3, FuncId → YA, TypeDesc → YD, TypeInfo → YN, MapEntry → YS, IntKind → YT, heap_alloc_new → YaW, Calls → Ybk, run_program → Ybl
open Go.Op renaming operands → Yt
open Go.Result renaming andThen_ok → Y9, andThen → YO
open Go.Sem renaming run_bind → YC, run_pure → YY
open Go.Call renaming operands → YE
open List.Pairwise renaming nil → YF
open Go.Region renaming binds → YJ, ready → Ya3, wanted → Ya8
open Go.World renaming ownsRow_nil → YL, grownBy_alloc → Ya9
open Go.MapKept renaming run_getObj_map → YR, run_setObj_map → Ya2
open Go.Value renaming int → YW, ownBlock → Yae, string → Ya5, pointer → YaA
open Go.Oper renaming upon → Yah, wp → Yan
open Go.Instr renaming checkKey → Yam, findAsking → Ya1, mapUpdate → YaP
open Go.Lib renaming join → Yay
open Go.Program renaming cellsOf → YaJ
open Classical renaming em → YaM
namespace Go.Lift
noncomputable section
open Go.RowKit
structure Ren2 (m:Yn) (E E':Env) (ids Bk:Ye Yn):Prop where
 cells:∀b g,b<m->E.pl (ids.getD b 0)=Yg (.cells g)->E'.pl (Bk.getD b 0)=Yg (.cells g)
 row:∀b sv Ac,b<m->E.pl (ids.getD b 0)=Yg (.row sv Ac)->E'.pl (Bk.getD b 0)=Yg (.row sv Ac)/\(∀t e ver l,E'.bl (Bk.getD b 0)=Yg (.row t e ver l)->E.bl (ids.getD b 0)=Yg (.row t e ver l))/\
  (∀t et e ver Ah hole l,E'.bl (Bk.getD b 0)=Yg (.mat t et e ver Ah hole l)->E.bl (ids.getD b 0)=Yg (.mat t et e ver Ah hole l))/\
  (∀t e ver Ah hole l,E'.bl (Bk.getD b 0)=Yg (.tree t e ver Ah hole l)->E.bl (ids.getD b 0)=Yg (.tree t e ver Ah hole l))
theorem AfQ{m:Yn}{E E':Env}{ids Bk:Ye Yn}(hr:Ren2 m E E' ids Bk):∀(BS gs:Ye Yn),BS.all (λb=>Y0 b m)=Yp->(BS.map λb=>ids.getD b 0).map E.pl=gs.map (λg=>Yg (.cells g))->(BS.map λb=>Bk.getD b 0).map E'.pl=gs.map (λg=>Yg (.cells g))
 |[],gs,_,hg=>by cases gs<;>simp_all
 |b::bs,gs,hb,hg=>by
  cases gs with
  |nil=>simp at hg
  |cons g gs=>simp only[CH,Dx]at hg⊢;obtain⟨h1,h2⟩:=andB (show(Y0 b m&&bs.all (λb=>Y0 b m))=Yp from hb);exact⟨hr.cells b g (Ea h1) hg.1,AfQ hr bs gs h2 hg.2⟩
theorem Hx{m:Yn}{E E':Env}{ids Bk:Ye Yn}(hr:Ren2 m E E' ids Bk){all:Prop}(hd:∀(τ:Ty)(x:τ.den)(us:Ye Yq),(all\/τ.flat=Yp)->DRep E.w E.ok τ x us->DRep E'.w E'.ok τ x us):∀{l:Ye CT}{y:CT.dens l}{vs:Ye Yq},CT.bnd m l=Yp->(all\/CT.flat l=Yp)->CReps E (mkC ids l y) vs->CReps E' (mkC Bk l y) vs
 |[],_,_,_,_,h=>h
 |.data τ::l,y,vs,hb,hf,h=>by
  obtain⟨us,ws,e,h1,h2⟩:=CReps.split h;rw[e];have IA:all\/τ.flat=Yp:=hf.imp id λh=>by simp only[CT.flat,Dk]at h;exact h.1
  have XL:all\/CT.flat l=Yp:=hf.imp id λh=>by simp only[CT.flat,Dk]at h;exact h.2
  refine CReps.append ?_ (Hx hr hd (by simpa [CT.bnd]using hb) XL h2)
  have key:∀(τ:Ty)(x:τ.den)(us:Ye Yq),(all\/τ.flat=Yp)->CReps E (cells τ x) us->CReps E' (cells τ x) us:=by
   intro τ
   induction τ with
   |bool=>intro x us _ h;exact h
   |int k=>intro x us _ h;exact h
   |str=>intro x us _ h;exact h
   |err=>intro x us _ h;exact h
   |unit=>intro x us _ h;exact h
   |prod a b iha ihb=>
    intro x us hf h;obtain⟨p,q,e,h1,h2⟩:=CReps.split h;rw[e];have g1:all\/a.flat=Yp:=hf.imp id λh=>by simp only[Ty.flat,Dk]at h;exact h.1
    have g2:all\/b.flat=Yp:=hf.imp id λh=>by simp only[Ty.flat,Dk]at h;exact h.2
    exact(iha _ _ g1 h1).append (ihb _ _ g2 h2)
   |slice e ih=>intro x us hf h;obtain⟨v,Az,e1,h1,h2⟩:=h;exact⟨v,Az,e1,hd (.slice e) x [v] hf h1,h2⟩
  exact key τ _ _ IA h1
 |.ptr b o::l,y,vs,hb,hf,⟨v,Az,e,⟨g,hg,hv⟩,ht⟩=>by obtain⟨BE,Ai⟩:=andB (show(Y0 b m&&CT.bnd m l)=Yp from hb);exact⟨v,Az,e,⟨g,hr.cells b g (Ea BE) hg,hv⟩,Hx hr hd Ai (hf.imp id λh=>by simpa [CT.flat]using h) ht⟩
 |.rowh b::l,y,vs,hb,hf,⟨v,Az,e,⟨h1,sv,Ac,AA,Bg⟩,ht⟩=>by obtain⟨BE,Ai⟩:=andB (show(Y0 b m&&CT.bnd m l)=Yp from hb);obtain⟨h2,h3,_⟩:=hr.row b sv Ac (Ea BE) AA;exact⟨v,Az,e,⟨h1,sv,Ac,h2,λt e ver l h=>Bg t e ver l (h3 t e ver l h)⟩,Hx hr hd Ai (hf.imp id λh=>by simpa [CT.flat]using h) ht⟩
 |.math b::l,y,vs,hb,hf,⟨v,Az,e,⟨h1,sv,Ac,AA,Bg⟩,ht⟩=>by obtain⟨BE,Ai⟩:=andB (show(Y0 b m&&CT.bnd m l)=Yp from hb);obtain⟨h2,_,h3,_⟩:=hr.row b sv Ac (Ea BE) AA;exact⟨v,Az,e,⟨h1,sv,Ac,h2,λt et e ver Ah hole l h=>Bg t et e ver Ah hole l (h3 t et e ver Ah hole l h)⟩,Hx hr hd Ai (hf.imp id λh=>by simpa [CT.flat]using h) ht⟩
 |.trowh b::l,y,vs,hb,hf,⟨v,Az,e,⟨h1,sv,Ac,AA,Bg⟩,ht⟩=>by obtain⟨BE,Ai⟩:=andB (show(Y0 b m&&CT.bnd m l)=Yp from hb);obtain⟨h2,_,_,h3⟩:=hr.row b sv Ac (Ea BE) AA;exact⟨v,Az,e,⟨h1,sv,Ac,h2,λt e ver Ah hole l h=>Bg t e ver Ah hole l (h3 t e ver Ah hole l h)⟩,Hx hr hd Ai (hf.imp id λh=>by simpa [CT.flat]using h) ht⟩
 |.tptrh b ks o::l,y,vs,hb,hf,⟨v,Az,e,⟨sv,Ac,ad,AA,hv,Bg⟩,ht⟩=>by obtain⟨BE,Ai⟩:=andB (show(Y0 b m&&CT.bnd m l)=Yp from hb);obtain⟨h2,_,_,h3⟩:=hr.row b sv Ac (Ea BE) AA;exact⟨v,Az,e,⟨sv,Ac,ad,h2,hv,λt e ver Ah hole l h=>Bg t e ver Ah hole l (h3 t e ver Ah hole l h)⟩,Hx hr hd Ai (hf.imp id λh=>by simpa [CT.flat]using h) ht⟩
 |.fn f BS::l,y,vs,hb,hf,⟨v,Az,e,⟨gs,hg,hv⟩,ht⟩=>by obtain⟨BE,Ai⟩:=andB (show(BS.all (λb=>Y0 b m)&&CT.bnd m l)=Yp from hb);refine⟨v,Az,e,⟨gs,?_,hv⟩,Hx hr hd Ai (hf.imp id λh=>by simpa [CT.flat]using h) ht⟩;exact AfQ hr BS gs BE hg
 |.maph b::l,y,vs,hb,hf,⟨v,Az,e,⟨g,hg,hv⟩,ht⟩=>by obtain⟨BE,Ai⟩:=andB (show(Y0 b m&&CT.bnd m l)=Yp from hb);exact⟨v,Az,e,⟨g,hr.cells b g (Ea BE) hg,hv⟩,Hx hr hd Ai (hf.imp id λh=>by simpa [CT.flat]using h) ht⟩
 |.bfnh f b::l,y,vs,hb,hf,⟨v,Az,e,⟨g,hg,hv⟩,ht⟩=>by obtain⟨BE,Ai⟩:=andB (show(Y0 b m&&CT.bnd m l)=Yp from hb);exact⟨v,Az,e,⟨g,hr.cells b g (Ea BE) hg,hv⟩,Hx hr hd Ai (hf.imp id λh=>by simpa [CT.flat]using h) ht⟩
 |.bself b::l,y,vs,hb,hf,⟨v,Az,e,.inl hv,ht⟩=>by obtain⟨BE,Ai⟩:=andB (show(Y0 b m&&CT.bnd m l)=Yp from hb);exact⟨v,Az,e,.inl hv,Hx hr hd Ai (hf.imp id λh=>by simpa [CT.flat]using h) ht⟩
 |.bself b::l,y,vs,hb,hf,⟨v,Az,e,.inr ⟨g,hg,hv⟩,ht⟩=>by obtain⟨BE,Ai⟩:=andB (show(Y0 b m&&CT.bnd m l)=Yp from hb);exact⟨v,Az,e,.inr ⟨g,hr.cells b g (Ea BE) hg,hv⟩,Hx hr hd Ai (hf.imp id λh=>by simpa [CT.flat]using h) ht⟩
 |.nilc::l,y,vs,hb,hf,⟨v,Az,e,hv,ht⟩=>⟨v,Az,e,hv,Hx hr hd (by simpa [CT.bnd]using hb) (hf.imp id λh=>by simpa [CT.flat]using h) ht⟩
 |.nils::l,y,vs,hb,hf,⟨v,Az,e,hv,ht⟩=>⟨v,Az,e,hv,Hx hr hd (by simpa [CT.bnd]using hb) (hf.imp id λh=>by simpa [CT.flat]using h) ht⟩
 |.lsome e0::l,y,vs,hb,hf,⟨v,Az,e,hv,ht⟩=>by have ha:all:=hf.resolve_right (by simp[CT.flat]);exact⟨v,Az,e,⟨hd (.slice e0) y.1 [v] (.inl ha) hv.1,hv.2⟩,Hx hr hd (by simpa [CT.bnd]using hb) (.inl ha) ht⟩
 |.junk::l,y,vs,hb,hf,⟨v,Az,e,hv,ht⟩=>⟨v,Az,e,hv,Hx hr hd (by simpa [CT.bnd]using hb) (hf.imp id λh=>by simpa [CT.flat]using h) ht⟩
theorem rX{m:Yn}{E E':Env}{ids Bk:Ye Yn}(hr:Ren2 m E E' ids Bk){all:Prop}(hd:∀(τ:Ty)(x:τ.den)(us:Ye Yq),(all\/τ.flat=Yp)->DRep E.w E.ok τ x us->DRep E'.w E'.ok τ x us):∀{l:Ye (Ys×Ye CT)}{y:ST.dens l}{vs:Ye Yq},ST.bnd m l=Yp->(all\/ST.flat l=Yp)->TReps E (mkS ids l y) vs->TReps E' (mkS Bk l y) vs
 |[],_,_,_,_,h=>h
 |t::l,y,vs,hb,hf,⟨v,Az,e,⟨xs,hx,hv⟩,ht⟩=>by obtain⟨BE,Ai⟩:=andB (show(CT.bnd m t.2&&ST.bnd m l)=Yp from hb);have IA:all\/CT.flat t.2=Yp:=hf.imp id λh=>(andB (show(CT.flat t.2&&ST.flat l)=Yp from h)).1;have XL:all\/ST.flat l=Yp:=hf.imp id λh=>(andB (show(CT.flat t.2&&ST.flat l)=Yp from h)).2;exact⟨v,Az,e,⟨xs,Hx hr hd BE IA hx,hv⟩,rX hr hd Ai XL ht⟩
def Is:Ye Yq->Yq
 |[v]=>v
 |vs=>.tuple vs.toArray
theorem TReps.res{E:Env}:∀{ts:Ye (Ys×Ye C)}{vs:Ye Yq},TReps E ts vs->VRep E (resV ts) (Is vs)
 |[],vs,h=>by have h':vs=[]:=h;subst h';exact⟨[],rfl,h⟩
 |[t],vs,⟨v,Az,e,h1,h2⟩=>by have EU:Az=[]:=h2;subst EU e;exact VRep.mk h1
 |t::t2::ts,vs,h=>by obtain⟨v,Az,e,h1,v2,vs2,e2,h2,h3⟩:=id h;subst e e2;exact⟨_,rfl,h⟩
theorem NJ{m:Yn}{E E':Env}{ids Bk:Ye Yn}(hr:Ren2 m E E' ids Bk)(Cs:E'.base<=E.base){all:Prop}(hd:∀(τ:Ty)(x:τ.den)(us:Ye Yq),(all\/τ.flat=Yp)->DRep E.w E.ok τ x us->DRep E'.w E'.ok τ x us)(hw:E'.w=E.w):∀{l:Ye BT}{y:BT.dens l}{j:Yn}{B:Blk}{p:Pl},BT.bnd m l=Yp->(all\/BT.flat l=Yp)->(mkB ids l y)[j]?=Yg B->BRep E B p->∃B',(mkB Bk l y)[j]?=Yg B'/\BRep E' B' p/\B'.live=B.live/\(∀t e ver l,B'=.row t e ver l->B=.row t e ver l)/\(∀t et e ver Ah hole l,B'=.mat t et e ver Ah hole l->B=.mat t et e ver Ah hole l)/\(∀t e ver Ah hole l,B'=.tree t e ver Ah hole l->B=.tree t e ver Ah hole l)
 |[],_,j,_,_,_,_,h,_=>by simp[mkB]at h
 |.cells t l::r,y,0,B,p,hb,hf,h,hB=>by
  simp only[mkB,DM,Af]at h;subst h;obtain⟨BE,Ai⟩:=andB (show(CT.bnd m l&&BT.bnd m r)=Yp from hb);have IA:all\/CT.flat l=Yp:=hf.imp id λh=>(andB (show(CT.flat l&&BT.flat r)=Yp from h)).1;refine⟨_,rfl,?_,rfl,(λt e ver l h=>by cases h),(λt et e ver Ah hole l h=>by cases h),λt e ver Ah hole l h=>by cases h⟩;cases p with
  |row _ _=>exact hB.elim
  |cells g=>obtain⟨vs,hh,De⟩:=hB;exact⟨vs,by rw[hw];exact hh,Hx hr hd BE IA De⟩
 |.row t e::r,y,0,B,p,hb,hf,h,hB=>by
  simp only[mkB,DM,Af]at h;subst h;refine⟨_,rfl,?_,rfl,(λ_ _ _ _ h=>h),(λ_ _ _ _ _ _ _ h=>h),λ_ _ _ _ _ _ h=>h⟩;have IA:all\/e.flat=Yp:=hf.imp id λh=>(andB (show(e.flat&&BT.flat r)=Yp from h)).1;cases p with
  |cells _=>exact hB.elim
  |row sv Ac=>obtain⟨h0,xs,h1,h2⟩:=hB;refine⟨h0,xs,h1.mono λx u hu=>hd e x u IA hu,?_⟩;rw[hw];exact Uy h2 Cs
 |.mat t et e::r,y,0,B,p,hb,hf,h,hB=>by
  simp only[mkB,DM,Af]at h;subst h;refine⟨_,rfl,?_,rfl,(λ_ _ _ _ h=>by cases h),(λ_ _ _ _ _ _ _ h=>h),λ_ _ _ _ _ _ h=>h⟩;have IA:all\/e.flat=Yp:=hf.imp id λh=>(andB (show(e.flat&&BT.flat r)=Yp from h)).1;cases p with
  |cells _=>exact hB.elim
  |row sv Ac=>have hM:MatOk E t et e Yf _ sv Ac:=hB;obtain⟨vs,h1,h2⟩:=hM.outer;refine⟨⟨vs,by rw[hw];exact Uy h1 Cs,h2⟩,hM.len,hM.hole,λi s x hs hx=>?_,hM.sep0,hM.sep⟩;obtain⟨xs,h3,h4⟩:=hM.inner i s x hs hx;exact⟨xs,h3.mono λx u hu=>hd e x u IA hu,by rw[hw];exact Uy h4 Cs⟩
 |.tree t e::r,y,0,B,p,hb,hf,h,hB=>by
  simp only[mkB,DM,Af]at h;subst h;refine⟨_,rfl,?_,rfl,(λ_ _ _ _ h=>by cases h),(λ_ _ _ _ _ _ _ h=>by cases h),λ_ _ _ _ _ _ h=>h⟩;have ha:all\/e.flat=Yp:=hf.imp id λh=>(andB (show(e.flat&&BT.flat r)=Yp from h)).1;cases p with
  |cells _=>exact hB.elim
  |row sv Ac=>have hT:TreeOk E t e Yf _ sv Ac:=hB;obtain⟨hv,F,h1,h2,h3⟩:=hT.rep;refine⟨⟨hv,F,?_,h2,h3⟩,hT.top⟩;rw[hw];exact Owns.renF (all:=all) Cs (λτ x us hf h=>by have:=hd τ x us hf h;rw[hw]at this;exact this) (o:=.r t e) ha h1
 |.tree t e::r,y,j+1,B,p,hb,hf,h,hB=>by simp only[mkB,Er]at h⊢;exact NJ hr Cs hd hw hb (hf.imp id λh=>(andB (show(e.flat&&BT.flat r)=Yp from h)).2) h hB
 |.fmap t l::r,y,0,B,p,hb,hf,h,hB=>by
  simp only[mkB,DM,Af]at h;subst h;refine⟨_,rfl,?_,rfl,(λ_ _ _ _ h=>by cases h),(λ_ _ _ _ _ _ _ h=>by cases h),λ_ _ _ _ _ _ h=>by cases h⟩;have BE:=(andB (show(l.all (λe=>Y0 e.2.2 m)&&BT.bnd m r)=Yp from hb)).1;cases p with
  |row _ _=>exact hB.elim
  |cells g=>
   obtain⟨es,CS,hh,hm⟩:=hB;refine⟨es,CS,by rw[hw];exact hh,?_⟩
   have key:∀{l:Ye (Ye Yj×(YA×Yn))}{es:Ye YS},l.all (λe=>Y0 e.2.2 m)=Yp->FRep E (fIds ids l) es->FRep E' (fIds Bk l) es:=by
    intro l
    induction l with
    |nil=>intro es _ h;exact h
    |cons x l ih=>intro es hb ⟨e,r,g,q1,q2,q3,q4,q5⟩;obtain⟨b1,b2⟩:=andB (show(Y0 x.2.2 m&&l.all (λe=>Y0 e.2.2 m))=Yp from hb);exact⟨e,r,g,q1,q2,hr.cells x.2.2 g (Ea b1) q3,q4,ih b2 q5⟩
   exact key BE hm
 |.fmap t l::r,y,j+1,B,p,hb,hf,h,hB=>by simp only[mkB,Er]at h⊢;exact NJ hr Cs hd hw (andB (show(l.all (λe=>Y0 e.2.2 m)&&BT.bnd m r)=Yp from hb)).2 hf h hB
 |.mat t et e::r,y,j+1,B,p,hb,hf,h,hB=>by simp only[mkB,Er]at h⊢;exact NJ hr Cs hd hw hb (hf.imp id λh=>(andB (show(e.flat&&BT.flat r)=Yp from h)).2) h hB
 |.map t k v vg::r,y,0,B,p,hb,hf,h,hB=>by
  simp only[mkB,DM,Af]at h;subst h;refine⟨_,rfl,?_,rfl,(λ_ _ _ _ h=>h),(λ_ _ _ _ _ _ _ h=>h),λ_ _ _ _ _ _ h=>h⟩;have IA:all\/k.flat=Yp:=hf.imp id λh=>(andB (show(k.flat&&(v.flat&&BT.flat r))=Yp from h)).1;have XL:all\/v.flat=Yp:=hf.imp id λh=>(andB (andB (show(k.flat&&(v.flat&&BT.flat r))=Yp from h)).2).1;cases p with
  |row _ _=>exact hB.elim
  |cells g=>obtain⟨es,CS,hh,hm⟩:=hB;exact⟨es,CS,by rw[hw];exact hh,hm.mono (λx u hu=>hd k x u IA hu) (λx u hu=>hd v x u XL hu)⟩
 |.map t k v vg::r,y,j+1,B,p,hb,hf,h,hB=>by simp only[mkB,Er]at h⊢;exact NJ hr Cs hd hw hb (hf.imp id λh=>(andB (andB (show(k.flat&&(v.flat&&BT.flat r))=Yp from h)).2).2) h hB
 |.cells t l::r,y,j+1,B,p,hb,hf,h,hB=>by simp only[mkB,Er]at h⊢;exact NJ hr Cs hd hw (andB (show(CT.bnd m l&&BT.bnd m r)=Yp from hb)).2 (hf.imp id λh=>(andB (show(CT.flat l&&BT.flat r)=Yp from h)).2) h hB
 |.row t e::r,y,j+1,B,p,hb,hf,h,hB=>by simp only[mkB,Er]at h⊢;exact NJ hr Cs hd hw hb (hf.imp id λh=>(andB (show(e.flat&&BT.flat r)=Yp from h)).2) h hB
def fnBl(l:Ye Blk):Yn->Ya Blk:=λb=>l[b]?
structure SpecOk (P:Yw) (f:YA) (S:Spec):Prop where
 fn:∃fn,P.funcs[f]?=Yg fn/\(fn.name== "runtime.NumGoroutine")=Yi/\fn.body.isNone=Yi
 ok:∀{β:Type}(x:ST.dens S.params×BT.dens S.ins)(k:ST.dens S.res×BT.dens S.outs->Ya β)(r:β),S.run x k=Yg r->
  ∃y,k y=Yg r/\∀(ok0:OK0 P)(pl:Yn->Ya Pl)(w:Yx)(args:Ye Yq),
   RelB ok0 w.heap.size pl (fnBl (mkB (AP 0 S.ins.length) S.ins x.2)) w->
   TReps (At ok0 w.heap.size pl (fnBl (mkB (AP 0 S.ins.length) S.ins x.2)) w) (mkS (AP 0 S.ins.length) S.params x.1) args->
   Ybk P f args.toArray w λe w'=>∃Bw Ak,e=.returned (Is Bw)/\
    RelB ok0 w.heap.size Ak (fnBl (mkB (AP 0 S.outs.length) S.outs y.2)) w'/\
    StepM S.ins.length pl (fnBl (mkB (AP 0 S.ins.length) S.ins x.2)) w Ak (fnBl (mkB (AP 0 S.outs.length) S.outs y.2)) w'/\
    TReps (At ok0 w.heap.size Ak (fnBl (mkB (AP 0 S.outs.length) S.outs y.2)) w') (mkS (AP 0 S.outs.length) S.res y.1) Bw
structure RowOk (P:Yw) (f:YA) (F:RowF):Prop where
 fn:∃fn,P.funcs[f]?=Yg fn/\(fn.name== "runtime.NumGoroutine")=Yi/\fn.body.isNone=Yi
 flat:F.e.flat=Yp
 len:F.cut=Yi->∀l,(F.run l).length=l.length
 ok:∀(w:Yx)(base:Yn)(sv:Yq)(l:Ye F.e.den)(xs:Ye Yq),F.dom l=Yp->base<=w.heap.size->GlobR P sv.ownBlock w->DList (λx u=>DRep w (λ_=>True) F.e x u) l xs->w.ownsRow base F.t F.e.size sv l.length xs->
  Ybk P f (sv::F.extra).toArray w λe w'=>∃AS,e=.returned (bif F.cut then AS else .tuple #[])/\w.grownBy w' sv.ownBlock/\(F.cut=Yi->AS=sv)/\(AS.ownBlock=sv.ownBlock\/∀g,AS.ownBlock=Yg g->w.heap.size<=g)/\
   ∃D4,DList (λx u=>DRep w (λ_=>True) F.e x u) (F.run l) D4/\w'.ownsRow base F.t F.e.size AS (F.run l).length D4
def bU(P:Yw)(f:YA)(F:BldF)(w:Yx)(base b:Yn)(v:Yq)(l:Ye Yh):Yn->Prop
 |0=>∀s:Ye Yj,l.length+s.length<=140737488355328->Ybk P f #[.pointer (Yg ⟨b,0,Yf⟩),.string ⟨s.toArray⟩] w λe w'=>
   e=.returned (.tuple #[.int .i64 (s.length:Yh),.nilIface])/\∃w1 w2 v',w.grownBy w1 (Yg b)/\w1.heap[b]?=Yg (.cells #[.pointer (Yg ⟨b,0,Yf⟩),v] F.t (0,0))/\
    w1.grownBy w2 v.ownBlock/\(v'.ownBlock=v.ownBlock\/∀g,v'.ownBlock=Yg g->w1.heap.size<=g)/\w2.ownsRow base F.te 1 v' (l.length+s.length) ((l++Du s).map (YW .u8))/\
    w2.grownBy w' (Yg b)/\w'.heap[b]?=Yg (.cells #[.pointer (Yg ⟨b,0,Yf⟩),v'] F.t (0,0))
 |1=>NF l=Yp->Ybk P f #[.pointer (Yg ⟨b,0,Yf⟩)] w λe w'=>e=.returned (.string ⟨(Hc l).toArray⟩)/\w.grownBy w' v.ownBlock
 |_=>Ybk P f #[.pointer (Yg ⟨b,0,Yf⟩)] w λe w'=>e=.returned (.int .i64 (l.length:Yh))/\w.grownBy w' Yf
structure BldOk (P:Yw) (f:YA) (F:BldF):Prop where
 fn:∃fn,P.funcs[f]?=Yg fn/\(fn.name== "runtime.NumGoroutine")=Yi/\fn.body.isNone=Yi
 ok:F.op<3->∀(w:Yx)(base b:Yn)(p v:Yq)(l:Ye Yh),base<=w.heap.size->w.heap[b]?=Yg (.cells #[p,v] F.t (0,0))->(p=.pointer Yf\/p=.pointer (Yg ⟨b,0,Yf⟩))->
  w.ownsRow base F.te 1 v l.length (l.map (YW .u8))->v.ownBlock≠Yg b->bU P f F w base b v l F.op
 join:F.op=3->∀(w:Yx)(base:Yn)(sv:Yq)(l:Ye (Ye Yj))(sep:Ye Yj),w.ownsRow base F.t 1 sv l.length (l.map λs=>Ya5 ⟨s.toArray⟩)->l.length<=140737488355328->(Yay l sep).length<=140737488355328->
  Ybk P f #[sv,.string ⟨sep.toArray⟩] w λe w'=>e=.returned (.string ⟨(Yay l sep).toArray⟩)/\w.grownBy w' Yf
structure AbsOk (P:Yw) (f:YA) (A:AbsF):Prop where
 fn:∃fn,P.funcs[f]?=Yg fn/\(fn.name== "runtime.NumGoroutine")=Yi/\fn.body.isNone=Yi
 ok:∀{β:Type}(bl:Yn->Ya Blk)(nx:Yn)(args:Ye V)(kk:V->Ye Yn->Ye (Yn×Blk)->Ya β)(r:β),A.run bl nx args kk=Yg r->
  ∃v rd wr,kk v rd wr=Yg r/\∀Ab:Yn->Ya Blk,(∀b∈rd,Ab b=bl b)->∀(ok0:OK0 P)(base:Yn)(pl:Yn->Ya Pl)(w:Yx)(us:Ye Yq),RelB ok0 base pl Ab w->VReps (At ok0 base pl Ab w) args us->
   Ybk P f us.toArray w λe w'=>∃u Ak,e=.returned u/\RelB ok0 base Ak (updL Ab wr) w'/\Step pl Ab w Ak (updL Ab wr) w'/\VRep (At ok0 base Ak (updL Ab wr) w') v u
structure ΓOk (P:Yw) (Γ:YA->Ya Fun):Prop where
 spec:∀f S,Γ f=Yg (.spec S)->SpecOk P f S
 rows:∀f F,Γ f=Yg (.rows F)->RowOk P f F
 bld:∀f F,Γ f=Yg (.bld F)->BldOk P f F
 abs:∀f A,Γ f=Yg (.abs A)->AbsOk P f A
def place:Ye Yn->Yn->Ya Yn
 |[],_=>Yf
 |x::r,i=>if i=x then Yg 0 else(place r i).map (· +1)
theorem Hy:∀{l:Ye Yn}{i b:Yn},place l i=Yg b->l[b]?=Yg i
 |[],i,b,h=>by simp[place]at h
 |x::r,i,b,h=>by
  simp only[place]at h;split at h
  ·rename_i hx
   simp only[Af]at h;subst h hx;rfl
  ·cases hp:place r i with
   |none=>rw[hp]at h;cases h
   |some c=>rw[hp]at h;simp only[F8,Af]at h;subst h;simpa using Hy hp
theorem KT:∀{l:Ye Yn}{i b:Yn},l.Nodup->l[b]?=Yg i->place l i=Yg b
 |[],i,b,_,h=>by simp at h
 |x::r,i,0,_,h=>by simp at h;subst h;simp[place]
 |x::r,i,b+1,hn,h=>by
  have h':r[b]?=Yg i:=by simpa using h
  have AO:i≠x:=by rintro rfl;exact(NB.1 hn).1 (Dg h')
  simp[place,AO,KT (NB.1 hn).2 h']
theorem Aui{l:Ye Yn}{i:Yn}(h:i∉l):place l i=Yf:=by
 cases hp:place l i with
 |none=>rfl
 |some b=>exact Y7 (Dg (Hy hp)) h
theorem AfR{f:Yn->Ya Blk}:∀{l:Ye Yn}{xs:Ye Blk}(i:Yn),l.Nodup->l.length=xs.length->updL f (l.zip xs) i=match place l i with|some b=>xs[b]?|none=>f i:=by
 intro l
 induction l generalizing f with
 |nil=>intro xs i _ _;rfl
 |cons x r ih=>
  intro xs i hn hl;cases xs with
  |nil=>simp at hl
  |cons B xs=>
   simp only[List.zip_cons_cons,updL];rw[ih i (NB.1 hn).2 (by simpa using hl)];simp only[place];by_cases hi:i=x
   ·subst hi
    rw[Aui (NB.1 hn).1];simp[upd]
   ·simp only[hi,CN]
    cases hp:place r i with
    |none=>simp[upd,hi]
    |some b=>simp
theorem AfS{ps:Ye (Yn×Yn)}:∀{n j:Yn}{ids:Ye Yn},Ud ps j n=Yg ids->ids.length=n
 |0,j,ids,h=>by simp only[Ud,Af]at h;subst h;rfl
 |n+1,j,ids,h=>by
  simp only[Ud]at h;split at h
  ·rename_i b r _ hr
   simp only[Af]at h;subst h;simp[AfS hr]
  ·cases h
theorem rY{bl:Yn->Ya Blk}{ids:Ye Yn}:∀{l:Ye BT}{is:Ye Yn}{y:BT.dens l},GB bl ids l is=Yg y->∀i∈is,∃t cs,bl i=Yg (.cells t cs)
 |[],is,y,hp=>by
  cases is with
  |nil=>intro i h;simp at h
  |cons i is=>simp[GB]at hp
 |.row t e::r,is,y,hp=>by cases is<;>simp[GB]at hp
 |.map t k v vg::r,is,y,hp=>by cases is<;>simp[GB]at hp
 |.mat t et e::r,is,y,hp=>by cases is<;>simp[GB]at hp
 |.tree t e::r,is,y,hp=>by cases is<;>simp[GB]at hp
 |.fmap t l::r,is,y,hp=>by cases is<;>simp[GB]at hp
 |.cells t l::r,is,y,hp=>by
  cases is with
  |nil=>intro i h;simp at h
  |cons i is=>
   simp only[GB]at hp;split at hp
   ·rename_i t' cs Ap
    cases ht:Yo t t' with
    |false=>rw[ht]at hp;cases hp
    |true=>
     simp only[ht,As]at hp;split at hp
     ·cases hp
     ·split at hp
      ·cases hp
      ·rename_i z h2
       intro j hj;rcases Bl.1 hj with rfl|hj
       ·exact⟨t',cs,Ap⟩
       ·exact rY h2 j hj
   ·cases hp
theorem NK{ids ids2:Ye Yn}:∀{l:Ye BT}{y:BT.dens l}{j:Yn}{t:Yr}{e:Ty}{ver:Yn}{l':Ye e.den},(mkB ids l y)[j]?=Yg (.row t e ver l')->(mkB ids2 l y)[j]?=Yg (.row t e ver l')
 |[],_,j,_,_,_,_,h=>by simp[mkB]at h
 |.cells _ _::r,y,0,_,_,_,_,h=>by simp[mkB]at h
 |.row _ _::r,y,0,_,_,_,_,h=>by simpa [mkB]using h
 |.cells _ _::r,y,j+1,_,_,_,_,h=>by simp only[mkB,Er]at h⊢;exact NK h
 |.row _ _::r,y,j+1,_,_,_,_,h=>by simp only[mkB,Er]at h⊢;exact NK h
 |.map _ _ _ _::r,y,0,_,_,_,_,h=>by simp[mkB]at h
 |.map _ _ _ _::r,y,j+1,_,_,_,_,h=>by simp only[mkB,Er]at h⊢;exact NK h
 |.mat _ _ _::r,y,0,_,_,_,_,h=>by simp[mkB]at h
 |.mat _ _ _::r,y,j+1,_,_,_,_,h=>by simp only[mkB,Er]at h⊢;exact NK h
 |.tree _ _::r,y,0,_,_,_,_,h=>by simp[mkB]at h
 |.tree _ _::r,y,j+1,_,_,_,_,h=>by simp only[mkB,Er]at h⊢;exact NK h
 |.fmap _ _::r,y,0,_,_,_,_,h=>by simp[mkB]at h
 |.fmap _ _::r,y,j+1,_,_,_,_,h=>by simp only[mkB,Er]at h⊢;exact NK h
theorem NL{ids ids2:Ye Yn}:∀{l:Ye BT}{y:BT.dens l}{j:Yn}{t et:Yr}{e:Ty}{ver Ah:Yn}{hole:Ya Yn}{l':Ye (Ye e.den)},(mkB ids l y)[j]?=Yg (.mat t et e ver Ah hole l')->(mkB ids2 l y)[j]?=Yg (.mat t et e ver Ah hole l')
 |[],_,j,_,_,_,_,_,_,_,h=>by simp[mkB]at h
 |.cells _ _::r,y,0,_,_,_,_,_,_,_,h=>by simp[mkB]at h
 |.row _ _::r,y,0,_,_,_,_,_,_,_,h=>by simp[mkB]at h
 |.map _ _ _ _::r,y,0,_,_,_,_,_,_,_,h=>by simp[mkB]at h
 |.mat _ _ _::r,y,0,_,_,_,_,_,_,_,h=>by simpa [mkB]using h
 |.cells _ _::r,y,j+1,_,_,_,_,_,_,_,h=>by simp only[mkB,Er]at h⊢;exact NL h
 |.row _ _::r,y,j+1,_,_,_,_,_,_,_,h=>by simp only[mkB,Er]at h⊢;exact NL h
 |.map _ _ _ _::r,y,j+1,_,_,_,_,_,_,_,h=>by simp only[mkB,Er]at h⊢;exact NL h
 |.mat _ _ _::r,y,j+1,_,_,_,_,_,_,_,h=>by simp only[mkB,Er]at h⊢;exact NL h
 |.tree _ _::r,y,0,_,_,_,_,_,_,_,h=>by simp[mkB]at h
 |.tree _ _::r,y,j+1,_,_,_,_,_,_,_,h=>by simp only[mkB,Er]at h⊢;exact NL h
 |.fmap _ _::r,y,0,_,_,_,_,_,_,_,h=>by simp[mkB]at h
 |.fmap _ _::r,y,j+1,_,_,_,_,_,_,_,h=>by simp only[mkB,Er]at h⊢;exact NL h
theorem rZ{ids ids2:Ye Yn}:∀{l:Ye BT}{y:BT.dens l}{j:Yn}{t:Yr}{e:OT}{ver Ah:Yn}{hole:Ya Path}{l':Ye e.ty.den},(mkB ids l y)[j]?=Yg (.tree t e ver Ah hole l')->(mkB ids2 l y)[j]?=Yg (.tree t e ver Ah hole l')
 |[],_,j,_,_,_,_,_,_,h=>by simp[mkB]at h
 |.tree _ _::r,y,0,_,_,_,_,_,_,h=>by simpa [mkB]using h
 |.cells _ _::r,y,0,_,_,_,_,_,_,h|.row _ _::r,y,0,_,_,_,_,_,_,h|.map _ _ _ _::r,y,0,_,_,_,_,_,_,h|.mat _ _ _::r,y,0,_,_,_,_,_,_,h=>by simp[mkB]at h
 |.cells _ _::r,y,j+1,_,_,_,_,_,_,h|.row _ _::r,y,j+1,_,_,_,_,_,_,h|.map _ _ _ _::r,y,j+1,_,_,_,_,_,_,h|.mat _ _ _::r,y,j+1,_,_,_,_,_,_,h|.tree _ _::r,y,j+1,_,_,_,_,_,_,h|.fmap _ _::r,y,j+1,_,_,_,_,_,_,h=>by simp only[mkB,Er]at h⊢;exact rZ h
theorem NM{ids:Ye Yn}:∀{l:Ye BT}{y:BT.dens l}{j:Yn}{B:Blk},(mkB ids l y)[j]?=Yg B->B.live=Yp
 |[],_,j,_,h=>by simp[mkB]at h
 |.cells _ _::r,y,0,_,h=>by simp only[mkB,DM,Af]at h;subst h;rfl
 |.row _ _::r,y,0,_,h=>by simp only[mkB,DM,Af]at h;subst h;rfl
 |.cells _ _::r,y,j+1,_,h=>by simp only[mkB,Er]at h;exact NM h
 |.row _ _::r,y,j+1,_,h=>by simp only[mkB,Er]at h;exact NM h
 |.map _ _ _ _::r,y,0,_,h=>by simp only[mkB,DM,Af]at h;subst h;rfl
 |.map _ _ _ _::r,y,j+1,_,h=>by simp only[mkB,Er]at h;exact NM h
 |.mat _ _ _::r,y,0,_,h=>by simp only[mkB,DM,Af]at h;subst h;rfl
 |.mat _ _ _::r,y,j+1,_,h=>by simp only[mkB,Er]at h;exact NM h
 |.tree _ _::r,y,0,_,h=>by simp only[mkB,DM,Af]at h;subst h;rfl
 |.tree _ _::r,y,j+1,_,h=>by simp only[mkB,Er]at h;exact NM h
 |.fmap _ _::r,y,0,_,h=>by simp only[mkB,DM,Af]at h;subst h;rfl
 |.fmap _ _::r,y,j+1,_,h=>by simp only[mkB,Er]at h;exact NM h
theorem P3{n b:Yn}(h:b<n):(AP 0 n).getD b 0=b:=by have:=rR (n:=n) (s:=0) h;simp[Ym,this]
section
variable{P:Yw}{o:Oper}{ρ:Y2->V}{bl:Yn->Ya Blk}{β:Type}{r:β}
def Blk.lend:Blk->Ys
 |.row _ _ _ _=>Yp
 |.tree _ _ _ _ _ _=>Yp
 |_=>Yi
theorem Blk.lend_live{B:Blk}(h:B.lend=Yp):B.live=Yp:=by cases B<;>first|rfl|cases h
theorem s5{ok0:OK0 P}{base:Yn}{pl:Yn->Ya Pl}{bl:Yn->Ya Blk}{w:Yx}(hr:RelB ok0 base pl bl w){b:Yn}{B:Blk}{p:Pl}(hb:bl b=Yg B)(hl:B.lend=Yp)(hp:pl b=Yg p){g:Yn}(hg:p.has g):base<=g/\¬ok0.no g:=by
 refine⟨?_,λhn=>(hr.glob.no g hn).2 ⟨b,B,p,hb,Blk.lend_live hl,hp,hg⟩⟩;obtain⟨q,hq,hB⟩:=hr.blks b _ hb;rw[hp]at hq;injection hq with hq;subst hq;cases B with
 |row t e ver l=>
  cases p with
  |cells _=>exact hB.elim
  |row sv Ac=>obtain⟨rfl,xs,_,ho⟩:=hB;exact(ho.lt g (Pl.has_row hg)).1
 |tree t e ver Ah hole l=>
  cases p with
  |cells _=>exact hB.elim
  |row sv Ac=>have hT:TreeOk _ t e hole l sv Ac:=hB;obtain⟨hv,F,h1,h2,_⟩:=hT.rep;obtain⟨s,hs,hg⟩:=h2.of_has hg;exact(h1.lt s hs g hg).1
 |_=>cases hl
theorem Auj{S:Spec}{bl:Yn->Ya Blk}{rds:Ye Yn}{p:Yn×Blk}(h:p∈Rt S bl rds):p.2=.dead/\p.1∈rds/\∃B,bl p.1=Yg B/\B.lend=Yp:=by
 unfold Rt at h;cases hf:(ST.flat S.res&&BT.flat S.outs)with
 |true=>rw[hf]at h;simp at h
 |false=>
  rw[hf,C7]at h;obtain⟨b,hb,hp⟩:=List.mem_filterMap.1 h;split at hp
  ·rename_i Ap
   injection hp with hp;subst hp;exact⟨rfl,hb,_,Ap,rfl⟩
  ·rename_i Ap
   injection hp with hp;subst hp;exact⟨rfl,hb,_,Ap,rfl⟩
  ·cases hp
theorem Auk{S:Spec}{bl:Yn->Ya Blk}{rds:Ye Yn}(hf:(ST.flat S.res&&BT.flat S.outs)=Yi){b:Yn}(hb:b∈rds){B:Blk}(Ap:bl b=Yg B)(hl:B.lend=Yp):(b,Blk.dead)∈Rt S bl rds:=by unfold Rt;rw[hf,C7];refine List.mem_filterMap.2 ⟨b,hb,?_⟩;rw[Ap];cases B<;>first|rfl|cases hl
theorem U2:∀{l:Ye (Yn×Blk)}{f:Yn->Ya Blk}(i:Yn),(∀p∈l,p.2=Blk.dead)->(updL f l i=f i/\(∀p∈l,p.1≠i))\/(updL f l i=Yg .dead/\∃p∈l,p.1=i)
 |[],f,i,_=>.inl ⟨rfl,λ_ h=>by simp at h⟩
 |(j,x)::l,f,i,h=>by
  have hx:x=.dead:=h (j,x) (by simp);subst hx;simp only[updL];rcases U2 (l:=l) (f:=upd f j .dead) i (λp hp=>h p (by simp[hp]))with⟨h1,h2⟩|⟨h1,p,hp,h2⟩
  ·by_cases Dv:i=j
   ·subst Dv
    exact .inr ⟨by rw[h1];simp[upd],(i,.dead),by simp,rfl⟩
   ·refine .inl ⟨by rw[h1];simp[upd,Dv],λp hp=>?_⟩
    rcases Bl.1 hp with e|hp
    ·rw[e];exact λh=>Dv h.symm
    ·exact h2 p hp
  ·exact .inr ⟨h1,p,by simp[hp],h2⟩
theorem Aul{F:RowF}{E:Env}{args:Ye V}{us:Ye Yq}{b ver:Yn}(h:qR F args=Yg (b,ver))(CZ:VReps E args us):∃u,us=u::F.extra/\VRep E (.c (.row b ver)) u:=by
 unfold qR at h;split at h
 ·rename_i b' ver' CD
  cases h;obtain⟨u,CM,rfl,hu,hn⟩:=CZ;have hn:CM=[]:=hn;subst hn;exact⟨u,by unfold RowF.extra;rw[CD],hu⟩
 ·rename_i b' ver' g g' CD
  cases hg:Yo g g' with
  |false=>rw[hg]at h;cases h
  |true=>
   rw[hg]at h;cases h;have hg:=AB hg;subst hg;obtain⟨u,CM,rfl,hu,u2,us2,rfl,⟨gs,Adu,hv⟩,hn⟩:=CZ;have hn:us2=[]:=hn;subst hn
   have:gs=[]:=by
    cases gs with
    |nil=>rfl
    |cons _ _=>simp at Adu
   subst this;exact⟨u,by unfold RowF.extra;rw[CD,hv];rfl,hu⟩
 ·cases h
theorem Aum{F:RowF}{f:YA}(hF:RowOk P f F){kk:K β}{args:Ye V}(hk:qS F bl args kk=Yg r)(FE:∀(Ab:Yn->Ya Blk)(ok0:OK0 P)(base:Yn)(pl:Yn->Ya Pl)(w:Yx)(a:Act),RelB ok0 base pl Ab w->(∀x∈o.op.operands,VRep (At ok0 base pl Ab w) (ρ x) (a.eval x))->∃us,VReps (At ok0 base pl Ab w) args us/\((∃fn,P.funcs[f]?=Yg fn/\(fn.name== "runtime.NumGoroutine")=Yi/\fn.body.isNone=Yi)->(Y3 a.eval o).run P w=.ok (.enter f us.toArray) w)):Sound P o ρ bl kk r:=by
 unfold qS at hk;split at hk
 ·rename_i b ver AM3
  split at hk
  ·rename_i t e ver' l Ap
   cases hc:(Yo ver ver'&&Yo t F.t)with
   |false=>rw[hc]at hk;cases hk
   |true=>
    simp only[hc,As]at hk;obtain⟨h1,h2⟩:=andB hc;have h1:=AB h1;have h2:=AB h2;subst h1 h2;split at hk
    ·rename_i he
     subst he;obtain⟨XZ,hk⟩:=DN hk
     have main:∀(Ab:Yn->Ya Blk),Ab b=bl b->∀(ok0:OK0 P)(base:Yn)(pl:Yn->Ya Pl)(w:Yx)(a:Act),RelB ok0 base pl Ab w->(∀x∈o.op.operands,VRep (At ok0 base pl Ab w) (ρ x) (a.eval x))->
       ∃sv,pl b=Yg (.row sv [])/\(Y3 a.eval o).run P w=.ok (.enter f (sv::F.extra).toArray) w/\Ybk P f (sv::F.extra).toArray w λe w'=>∃AS,e=.returned (bif F.cut then AS else .tuple #[])/\w.grownBy w' sv.ownBlock/\(F.cut=Yi->AS=sv)/\
        (AS.ownBlock=sv.ownBlock\/∀g,AS.ownBlock=Yg g->w.heap.size<=g)/\∃D4,DList (λx u=>DRep w (λ_=>True) F.e x u) (F.run l) D4/\w'.ownsRow base F.t F.e.size AS (F.run l).length D4:=by
      intro Ab Ai ok0 base pl w a hr Ae;obtain⟨us,CZ,AJ⟩:=FE Ab ok0 base pl w a hr Ae;have AJ:=AJ hF.fn;obtain⟨u,rfl,_,sv,Ac,AA,Bg⟩:=Aul AM3 CZ;have Cl:Ab b=Yg (.row F.t F.e ver l):=Ai.trans Ap;have hu:=(Bg F.t F.e ver l Cl).2 rfl;subst hu;obtain⟨p,hp,hB⟩:=hr.blks b _ Cl;have:p=.row u Ac:=by have h2:pl b=Yg (.row u Ac):=AA;rw[hp]at h2;injection h2
      subst this;obtain⟨h0,xs,hd,Aq⟩:=hB;subst h0;exact⟨u,AA,AJ,hF.ok w base u l xs XZ hr.baseLe (hr.glob.row λg hg=>⟨b,_,_,Cl,rfl,hp,Or.inl hg⟩) (hd.mono λx us hx=>hx.flat hF.flat) Aq⟩
     cases Ic:F.cut with
     |false=>rw[Ic]at hk;simp only[C7]at hk;refine⟨_,_,_,hk,λAb Ai=>?_⟩;have Cl:Ab b=Yg (.row F.t F.e ver l):=(Ai b (by simp)).trans Ap;intro ok0 base pl w a hr Ae K Q hK;obtain⟨sv,AA,AJ,Fx⟩:=main Ab (Ai b (by simp)) ok0 base pl w a hr Ae;unfold Yan;rw[AJ];simp only[Yah];refine Fx.mono λe w' ⟨AS,he,HG,KK,Gm,D4,Ct,Lr⟩=>?_;have KK:=KK Ic;subst KK;rw[Ic]at he;simp only[C7]at he;subst he;simp only;have AY:ver<=ver/\(ver=ver->AS=AS/\(F.run l).length=l.length):=⟨Av _,λ_=>⟨rfl,hF.len Ic l⟩⟩;have hs:=Step.grown (l':=F.run l) hr Cl AA HG Gm AY;refine hK (.tuple #[]) (upd pl b (.row AS [])) w' (RelB.grown hr Cl AA HG Gm AY ⟨rfl,D4,Ct.mono λx u hu=>hu.flat hF.flat,Lr⟩) hs ⟨[],rfl,rfl⟩
     |true=>
      rw[Ic]at hk;simp only[As]at hk;refine⟨_,_,_,hk,λAb Ai=>?_⟩;have Cl:Ab b=Yg (.row F.t F.e ver l):=(Ai b (by simp)).trans Ap;intro ok0 base pl w a hr Ae K Q hK;obtain⟨sv,AA,AJ,Fx⟩:=main Ab (Ai b (by simp)) ok0 base pl w a hr Ae;unfold Yan;rw[AJ];simp only[Yah];refine Fx.mono λe w' ⟨AS,he,HG,KK,Gm,D4,Ct,Lr⟩=>?_;rw[Ic]at he;simp only[As]at he;subst he;simp only;have AY:ver<=ver+1/\(ver=ver+1->AS=sv/\(F.run l).length=l.length):=⟨Nat.le_succ _,λh=>by omega⟩;have hs:=Step.grown (l':=F.run l) hr Cl AA HG Gm AY;have hR:=RelB.grown hr Cl AA HG Gm AY ⟨rfl,D4,Ct.mono λx u hu=>hu.flat hF.flat,Lr⟩;refine hK AS (upd pl b (.row AS [])) w' hR hs ⟨?_,AS,[],by simp[At,upd],λt e Ju l2 hb=>?_⟩
      ·rcases Lr.2 with⟨h,_⟩|⟨g,cap,Ba,h,_⟩<;>rw[h]<;>rfl
      ·have hb:upd Ab b (.row F.t F.e (ver+1) (F.run l)) b=Yg (.row t e Ju l2):=hb
       simp only[upd]at hb;simp at hb;exact⟨by omega,λ_=>rfl⟩
    ·cases hk
  ·cases hk
 ·cases hk
theorem U3{w:Yx}{ok:Yn->Prop}{k:YT}:∀{l:Ye Yh}{xs:Ye Yq},DList (λ(x:Yh) u=>DRep w ok (.int k) x u) l xs↔xs=l.map (YW k)
 |[],xs=>by simp[DList]
 |x::l,xs=>by
  simp only[DList,CH];constructor
  ·rintro⟨u,v,rfl,hu,hv⟩
   rw[U3.1 hv];simp only[DRep]at hu;subst hu;rfl
  ·rintro rfl
   exact⟨[.int k x],_,rfl,by simp[DRep],U3.2 rfl⟩
theorem sA{w:Yx}{ok:Yn->Prop}:∀{l:Ye (Ye Yj)}{xs:Ye Yq},DList (λ(x:Ye Yj) u=>DRep w ok .str x u) l xs↔xs=l.map λs=>Ya5 ⟨s.toArray⟩
 |[],xs=>by simp[DList]
 |x::l,xs=>by
  simp only[DList,CH];constructor
  ·rintro⟨u,v,rfl,hu,hv⟩
   rw[sA.1 hv];simp only[DRep]at hu;subst hu;rfl
  ·rintro rfl
   exact⟨[.string ⟨x.toArray⟩],_,rfl,by simp[DRep],sA.2 rfl⟩
theorem R7{F:BldF}{bl:Yn->Ya Blk}{i:Yn}{q:Ya (Yn×Yn)}{l:Ye Yh}(h:Uf F bl i=Yg (q,l)):∃c1 c2,bl i=Yg (.cells F.t [c1,c2])/\Ue c1 i=Yp/\((q=Yf/\l=[]/\c2=.nils)\/∃j ver,q=Yg (j,ver)/\c2=.row j ver/\bl j=Yg (.row F.te (.int .u8) ver l)):=by
 unfold Uf at h;split at h
 ·rename_i t p q' Ap
  cases hc:(Yo t F.t&&Ue p i)with
  |false=>rw[hc]at h;cases h
  |true=>
   simp only[hc,As]at h;obtain⟨h1,h2⟩:=andB hc;have h1:=AB h1;subst h1;split at h
   ·simp only[Af,Cb]at h
    obtain⟨rfl,rfl⟩:=h;exact⟨p,_,Ap,h2,.inl ⟨rfl,rfl,rfl⟩⟩
   ·rename_i j ver
    split at h
    ·rename_i te ver' l' I8
     cases Cw:(Yo te F.te&&Yo ver ver')with
     |false=>rw[Cw]at h;cases h
     |true=>simp only[Cw,As,Af,Cb]at h;obtain⟨rfl,rfl⟩:=h;obtain⟨h3,h4⟩:=andB Cw;have h3:=AB h3;have h4:=AB h4;subst h3 h4;exact⟨p,_,Ap,h2,.inr ⟨j,ver,rfl,rfl,I8⟩⟩
    ·cases h
   ·cases h
 ·cases h
theorem R8{F:BldF}{ok0:OK0 P}{base:Yn}{pl:Yn->Ya Pl}{bl:Yn->Ya Blk}{w:Yx}(hr:RelB ok0 base pl bl w){i:Yn}{c1 c2:C}(Ap:bl i=Yg (.cells F.t [c1,c2]))(hs:Ue c1 i=Yp){u:Yq}(hu:VRep (At ok0 base pl bl w) (.c (.ptr i 0)) u):∃g p v,u=.pointer (Yg ⟨g,0,Yf⟩)/\pl i=Yg (.cells g)/\w.heap[g]?=Yg (.cells #[p,v] F.t (0,0))/\(p=.pointer Yf\/p=.pointer (Yg ⟨g,0,Yf⟩))/\CRep (At ok0 base pl bl w) c2 v:=by
 obtain⟨g,AC,rfl⟩:=hu;have AC:pl i=Yg (.cells g):=AC;obtain⟨q,hq,hB⟩:=hr.blks i _ Ap;rw[AC]at hq;injection hq with hq;subst hq;obtain⟨vs,hh,v1,vs1,rfl,FF,v2,vs2,rfl,GU,hn⟩:=hB;have hn:vs2=[]:=hn;subst hn;refine⟨g,v1,v2,rfl,AC,hh,?_,GU⟩;cases c1<;>simp only[Ue]at hs<;>try(cases hs;done)
 ·exact .inl FF
 ·rename_i b
  have:=AB hs;subst this;rcases FF with h|⟨g',CK,h⟩
  ·exact .inl h
  ·have CK:pl b=Yg (.cells g'):=CK
   rw[AC]at CK;injection CK with CK;injection CK with CK;subst CK;exact .inr h
theorem sB{F:BldF}{ok0:OK0 P}{base:Yn}{pl:Yn->Ya Pl}{bl:Yn->Ya Blk}{w:Yx}(hr:RelB ok0 base pl bl w){i j ver g:Yn}{B:Blk}(CQ:bl i=Yg B)(AdC:B.live=Yp)(AC:pl i=Yg (.cells g)){l:Ye Yh}(I8:bl j=Yg (.row F.te (.int .u8) ver l)){v:Yq}(hv:CRep (At ok0 base pl bl w) (.row j ver) v)(Dv:i≠j):pl j=Yg (.row v [])/\w.ownsRow base F.te 1 v l.length (l.map (YW .u8))/\v.ownBlock≠Yg g:=by
 obtain⟨_,sv,Ac,AA,Bg⟩:=hv;have hv:=(Bg F.te (.int .u8) ver l I8).2 rfl;subst hv;have AA:pl j=Yg (.row v Ac):=AA;obtain⟨q,hq,hB⟩:=hr.blks j _ I8;rw[AA]at hq;injection hq with hq;subst hq;obtain⟨rfl,xs,hd,Aq⟩:=hB;rw[U3.1 hd]at Aq;refine⟨AA,Aq,λh=>?_⟩;exact hr.sep i j _ _ _ _ g Dv CQ I8 AdC rfl AC AA rfl (.inl h)
theorem Step.still{pl:Yn->Ya Pl}{bl:Yn->Ya Blk}{w w':Yx}(hg:w.grownBy w' Yf):Step pl bl w pl bl w':=
 ⟨hg.os,hg.tape,hg.output,hg.size,λg Ax ho=>⟨hg.block g Ax (by simp),ho⟩,λ_ _ h=>h,λ_ sv Ac h=>⟨sv,Ac,h,KeepR.refl _ _ _⟩⟩
theorem RelB.still{ok0:OK0 P}{base:Yn}{pl:Yn->Ya Pl}{bl:Yn->Ya Blk}{w w':Yx}(hr:RelB ok0 base pl bl w)(hg:w.grownBy w' Yf):RelB ok0 base pl bl w':=by
 have hs:Step pl bl w pl bl w':=Step.still hg;refine⟨DC hr.baseLe hs.size,λi B hB=>?_,hr.sep,hr.fresh,hr.glob.out hs.size hs.out⟩;obtain⟨p,hp,hR⟩:=hr.blks i B hB;refine⟨p,hp,?_⟩;cases hl:B.live with
 |false=>cases B<;>first|exact trivial|simp[Blk.live]at hl
 |true=>exact BRep.mono hs.ext hR λg hq=>hg.block g (Own.lt hr ⟨i,B,p,hB,hl,hp,hq⟩) (by simp)
theorem AfT{α:Type}{f:Yn->Ya α}{i j:Yn}(Dv:i≠j)(x y z:α):upd (upd (upd f i x) j y) i z=upd (upd f j y) i z:=by
 funext k;simp only[upd];by_cases h1:k=i
 ·simp[h1]
 ·by_cases h2:k=j
  ·simp[h1,h2]
  ·simp[h1,h2]
theorem AfU(s:Ye Yj):(Du s).length=s.length:=by simp[Du]
theorem AfV{E:Env}(s:Ye Yj):VRep E (wrote s) (.tuple #[.int .i64 (s.length:Yh),.nilIface]):=
 ⟨[.int .i64 (s.length:Yh),.nilIface],rfl,_,_,rfl,⟨[.int .i64 (s.length:Yh)],⟨_,_,rfl,rfl,rfl⟩,rfl⟩,_,_,rfl,⟨[.nilIface],⟨_,_,rfl,rfl,rfl⟩,rfl⟩,rfl⟩
theorem sC{w:Yx}{base:Yn}{t:Yr}{size:Yn}{v:Yq}{n:Yn}{xs:Ye Yq}(h:w.ownsRow base t size v n xs):v.oneCell'=Yp:=by rcases h.2 with⟨h,_⟩|⟨g,cap,Ba,h,_⟩<;>rw[h]<;>rfl
theorem Aun{F:BldF}{f:YA}(hF:BldOk P f F){kk:K β}{nx:Yn}{args:Ye V}(hk:qT F bl nx args kk=Yg r)(FE:∀(Ab:Yn->Ya Blk)(ok0:OK0 P)(base:Yn)(pl:Yn->Ya Pl)(w:Yx)(a:Act),RelB ok0 base pl Ab w->(∀x∈o.op.operands,VRep (At ok0 base pl Ab w) (ρ x) (a.eval x))->∃us,VReps (At ok0 base pl Ab w) args us/\((∃fn,P.funcs[f]?=Yg fn/\(fn.name== "runtime.NumGoroutine")=Yi/\fn.body.isNone=Yi)->(Y3 a.eval o).run P w=.ok (.enter f us.toArray) w)):Sound P o ρ bl kk r:=by
 unfold qT at hk;split at hk
 ·
  rename_i i s hn;split at hk
  ·rename_i l0 hb
   obtain⟨GR,hk⟩:=DN hk;obtain⟨AU,hk⟩:=DN hk;have AU:=Bd AU;obtain⟨c1,c2,Ap,Lt,hq⟩:=R7 hb
   obtain⟨rfl,rfl⟩:l0=[]/\c2=.nils:=by
    rcases hq with⟨_,h1,h2⟩|⟨j,ver,hq,_⟩
    ·exact⟨h1,h2⟩
    ·cases hq
   refine⟨_,_,_,hk,λAb Ai=>?_⟩;have Cl:Ab i=Yg (.cells F.t [c1,.nils]):=(Ai i (by simp)).trans Ap
   have AdJ:Ab nx=Yf:=by
    rw[Ai nx (by simp)];unfold Af8 at GR;split at GR
    ·assumption
    ·cases GR
   have AO:i≠nx:=by rintro rfl;rw[Cl]at AdJ;cases AdJ
   intro ok0 base pl w a hr Ae K Q hK;obtain⟨us,CZ,AJ⟩:=FE Ab ok0 base pl w a hr Ae;have AJ:=AJ hF.fn;obtain⟨u,us1,rfl,hu,u2,us2,rfl,AW,DH⟩:=CZ;have DH:us2=[]:=DH;have AW:u2=.string ⟨s.toArray⟩:=AW;subst DH AW;obtain⟨g,p,v,rfl,AC,Ji,hp,hv⟩:=R8 hr Cl Lt hu;have hv:v=.slice Yf 0 0:=hv;subst hv;have EZ:=hF.ok (by rw[hn];decide) w base g p (.slice Yf 0 0) [] hr.baseLe Ji hp (YL _ _ _ _) (by simp[Yae]);rw[hn]at EZ;have Fx:=EZ s (by simpa using AU);unfold Yan;rw[AJ];simp only[Yah];refine Fx.mono λe w' ⟨he,w1,w2,v',Nl,IC,Mj,C6,DI,XN,Adw⟩=>?_;subst he;simp only
   have AdN:w2.ownsRow base F.te (Ty.size (.int .u8)) v' (Du s).length ((Du s).map (YW .u8)):=by have h:=DI;simp only[Ft,DZ,GA]at h;rw[AfU];exact h
   have AMn:∀g,v'.ownBlock=Yg g->w1.heap.size<=g:=λg hg=>by
    rcases C6 with h|h
    ·rw[h]at hg;cases hg
    ·exact h g hg
   have s1:=Step.wrote (cs':=[.bself i,.nils]) hr Cl AC Nl;have r1:=RelB.wrote (cs':=[.bself i,.nils]) hr Cl AC Nl ⟨_,IC,_,_,rfl,.inr ⟨g,by simp[At,upd],rfl⟩,_,_,rfl,rfl,rfl⟩;have Arv:upd Ab i (.cells F.t [.bself i,.nils]) nx=Yf:=by simp[upd,Ne.symm AO,AdJ]
   have Mj:w1.grownBy w2 Yf:=Mj;have Zh:∀g,(Pl.row v' []).has g->w1.heap.size<=g:=λg hg=>AMn g (Pl.has_row hg);have s2:=Step.new (B:=.row F.te (.int .u8) 0 (Du s)) r1 Arv Mj Zh;have r2:=RelB.new (B:=.row F.te (.int .u8) 0 (Du s)) r1 Arv Mj Zh ⟨rfl,_,U3.2 rfl,AdN⟩;have Jj:upd (upd Ab i (.cells F.t [.bself i,.nils])) nx (.row F.te (.int .u8) 0 (Du s)) i=Yg (.cells F.t [.bself i,.nils]):=by simp[upd,AO]
   have CY:upd (upd pl i (.cells g)) nx (.row v' []) i=Yg (.cells g):=by simp[upd,AO]
   have s3:=Step.wrote (cs':=[.bself i,.row nx 0]) r2 Jj CY XN
   have r3:=RelB.wrote (cs':=[.bself i,.row nx 0]) r2 Jj CY XN ⟨_,Adw,_,_,rfl,.inr ⟨g,by simp[At,upd],rfl⟩,_,_,rfl,⟨sC DI,v',[],by simp[At,upd,Ne.symm AO],λt e ver' l' h=>by simp[At,upd,Ne.symm AO]at h;exact⟨EA _,λ_=>rfl⟩⟩,rfl⟩
   have s4:=(s1.trans s2).trans s3;simp only[AfT AO]at r3 s4;exact hK _ _ _ r3 s4 (AfV s)
  ·rename_i j ver l hb
   obtain⟨AU,hk⟩:=DN hk;have AU:=Bd AU;obtain⟨c1,c2,Ap,Lt,hq⟩:=R7 hb;rcases hq with⟨hq,_⟩|⟨j',ver',hq,rfl,I8⟩
   ·cases hq
   simp only[Af,Cb]at hq;obtain⟨rfl,rfl⟩:=hq;refine⟨_,_,_,hk,λAb Ai=>?_⟩;have Cl:Ab i=Yg (.cells F.t [c1,.row j ver]):=(Ai i (by simp)).trans Ap;have HB:Ab j=Yg (.row F.te (.int .u8) ver l):=(Ai j (by simp)).trans I8;have AO:i≠j:=by rintro rfl;rw[Cl]at HB;cases HB
   intro ok0 base pl w a hr Ae K Q hK;obtain⟨us,CZ,AJ⟩:=FE Ab ok0 base pl w a hr Ae;have AJ:=AJ hF.fn;obtain⟨u,us1,rfl,hu,u2,us2,rfl,AW,DH⟩:=CZ;have DH:us2=[]:=DH;have AW:u2=.string ⟨s.toArray⟩:=AW;subst DH AW;obtain⟨g,p,v,rfl,AC,Ji,hp,hv⟩:=R8 hr Cl Lt hu;obtain⟨Dw,Aq,Zb⟩:=sB (F:=F) hr Cl rfl AC HB hv AO;have EZ:=hF.ok (by rw[hn];decide) w base g p v l hr.baseLe Ji hp Aq Zb;rw[hn]at EZ;have Fx:=EZ s AU;unfold Yan;rw[AJ];simp only[Yah];refine Fx.mono λe w' ⟨he,w1,w2,v',Nl,IC,Mj,C6,DI,XN,Adw⟩=>?_;subst he;simp only
   have AdN:w2.ownsRow base F.te (Ty.size (.int .u8)) v' (l++Du s).length ((l++Du s).map (YW .u8)):=by rw[AQ,AfU];exact DI
   have AdP:upd pl i (.cells g) j=Yg (.row v []):=by simp[upd,Ne.symm AO,Dw]
   have Adj:upd Ab i (.cells F.t [.bself i,.row j ver]) j=Yg (.row F.te (.int .u8) ver l):=by simp[upd,Ne.symm AO,HB]
   have s1:=Step.wrote (cs':=[.bself i,.row j ver]) hr Cl AC Nl
   have r1:=RelB.wrote (cs':=[.bself i,.row j ver]) hr Cl AC Nl ⟨_,IC,_,_,rfl,.inr ⟨g,by simp[At,upd],rfl⟩,_,_,rfl,⟨sC Aq,v,[],by simp[At,AdP],λt e ver' l' h=>by have h:upd Ab i (.cells F.t [.bself i,.row j ver]) j=Yg (.row t e ver' l'):=h;rw[Adj]at h;injection h with h;injection h with h1 h2 h3 h4;exact⟨M4 h3,λ_=>rfl⟩⟩,rfl⟩
   have AY:ver<=ver+1/\(ver=ver+1->v'=v/\(l++Du s).length=l.length):=⟨Nat.le_succ _,λh=>by omega⟩;have s2:=Step.grown (e:=.int .u8) (l':=l++Du s) r1 Adj AdP Mj C6 AY;have r2:=RelB.grown (e:=.int .u8) (l':=l++Du s) r1 Adj AdP Mj C6 AY ⟨rfl,_,U3.2 rfl,AdN⟩;have Jj:upd (upd Ab i (.cells F.t [.bself i,.row j ver])) j (.row F.te (.int .u8) (ver+1) (l++Du s)) i=Yg (.cells F.t [.bself i,.row j ver]):=by simp[upd,AO]
   have CY:upd (upd pl i (.cells g)) j (.row v' []) i=Yg (.cells g):=by simp[upd,AO]
   have s3:=Step.wrote (cs':=[.bself i,.row j (ver+1)]) r2 Jj CY XN
   have r3:=RelB.wrote (cs':=[.bself i,.row j (ver+1)]) r2 Jj CY XN ⟨_,Adw,_,_,rfl,.inr ⟨g,by simp[At,upd],rfl⟩,_,_,rfl,⟨sC DI,v',[],by simp[At,upd,Ne.symm AO],λt e ver' l' h=>by simp[At,upd,Ne.symm AO]at h;exact⟨by omega,λ_=>rfl⟩⟩,rfl⟩
   have s4:=(s1.trans s2).trans s3;simp only[AfT AO]at r3 s4;exact hK _ _ _ r3 s4 (AfV s)
  ·cases hk
 ·
  rename_i i hn;split at hk
  ·rename_i l0 hb
   obtain⟨c1,c2,Ap,Lt,hq⟩:=R7 hb
   obtain⟨rfl,rfl⟩:l0=[]/\c2=.nils:=by
    rcases hq with⟨_,h1,h2⟩|⟨j,ver,hq,_⟩
    ·exact⟨h1,h2⟩
    ·cases hq
   refine⟨_,_,_,hk,λAb Ai=>?_⟩;have Cl:Ab i=Yg (.cells F.t [c1,.nils]):=(Ai i (by simp)).trans Ap;intro ok0 base pl w a hr Ae K Q hK;obtain⟨us,CZ,AJ⟩:=FE Ab ok0 base pl w a hr Ae;have AJ:=AJ hF.fn;obtain⟨u,us1,rfl,hu,DH⟩:=CZ;have DH:us1=[]:=DH;subst DH;obtain⟨g,p,v,rfl,AC,Ji,hp,hv⟩:=R8 hr Cl Lt hu;have hv:v=.slice Yf 0 0:=hv;subst hv;have EZ:=hF.ok (by rw[hn];decide) w base g p (.slice Yf 0 0) [] hr.baseLe Ji hp (YL _ _ _ _) (by simp[Yae]);rw[hn]at EZ;have Fx:=EZ rfl;unfold Yan;rw[AJ];simp only[Yah];refine Fx.mono λe w' ⟨he,hg⟩=>?_;subst he;simp only;exact hK _ _ _ (hr.still hg) (Step.still hg) rfl
  ·rename_i j ver l hb
   obtain⟨G6,hk⟩:=DN hk;obtain⟨c1,c2,Ap,Lt,hq⟩:=R7 hb;rcases hq with⟨hq,_⟩|⟨j',ver',hq,rfl,I8⟩
   ·cases hq
   simp only[Af,Cb]at hq;obtain⟨rfl,rfl⟩:=hq;refine⟨_,_,_,hk,λAb Ai=>?_⟩;have Cl:Ab i=Yg (.cells F.t [c1,.row j ver]):=(Ai i (by simp)).trans Ap;have HB:Ab j=Yg (.row F.te (.int .u8) ver l):=(Ai j (by simp)).trans I8;have AO:i≠j:=by rintro rfl;rw[Cl]at HB;cases HB
   intro ok0 base pl w a hr Ae K Q hK;obtain⟨us,CZ,AJ⟩:=FE Ab ok0 base pl w a hr Ae;have AJ:=AJ hF.fn;obtain⟨u,us1,rfl,hu,DH⟩:=CZ;have DH:us1=[]:=DH;subst DH;obtain⟨g,p,v,rfl,AC,Ji,hp,hv⟩:=R8 hr Cl Lt hu;obtain⟨Dw,Aq,Zb⟩:=sB (F:=F) hr Cl rfl AC HB hv AO;have EZ:=hF.ok (by rw[hn];decide) w base g p v l hr.baseLe Ji hp Aq Zb;rw[hn]at EZ;have Fx:=EZ G6;unfold Yan;rw[AJ];simp only[Yah];refine Fx.mono λe w' ⟨he,hg⟩=>?_;subst he;simp only;have Tk:KeepR (Yg (.row F.te (.int .u8) ver l)) (Yg .dead) v [] v []:=⟨λ_ _ _ _ h=>(by cases h),λ_ _ _ _ _ _ _ h=>(by cases h),λ_ _ _ _ _ _ h=>(by cases h)⟩;have hs:=Step.grownP (B':=.dead) hr HB rfl Dw hg (λg h=>.inl h) (λg h=>.inl h) Tk;exact hK _ _ _ (RelB.grownP (B':=.dead) hr HB rfl Dw hg (λg h=>.inl h) (λg h=>.inl h) Tk trivial) hs rfl
  ·cases hk
 ·
  rename_i i hn;split at hk
  ·rename_i l0 hb
   obtain⟨c1,c2,Ap,Lt,hq⟩:=R7 hb
   obtain⟨rfl,rfl⟩:l0=[]/\c2=.nils:=by
    rcases hq with⟨_,h1,h2⟩|⟨j,ver,hq,_⟩
    ·exact⟨h1,h2⟩
    ·cases hq
   refine⟨_,_,_,hk,λAb Ai=>?_⟩;have Cl:Ab i=Yg (.cells F.t [c1,.nils]):=(Ai i (by simp)).trans Ap;intro ok0 base pl w a hr Ae K Q hK;obtain⟨us,CZ,AJ⟩:=FE Ab ok0 base pl w a hr Ae;have AJ:=AJ hF.fn;obtain⟨u,us1,rfl,hu,DH⟩:=CZ;have DH:us1=[]:=DH;subst DH;obtain⟨g,p,v,rfl,AC,Ji,hp,hv⟩:=R8 hr Cl Lt hu;have hv:v=.slice Yf 0 0:=hv;subst hv;have EZ:=hF.ok (by rw[hn];decide) w base g p (.slice Yf 0 0) [] hr.baseLe Ji hp (YL _ _ _ _) (by simp[Yae]);rw[hn]at EZ;have Fx:=EZ;unfold Yan;rw[AJ];simp only[Yah];refine Fx.mono λe w' ⟨he,hg⟩=>?_;subst he;simp only;exact hK _ _ _ (hr.still hg) (Step.still hg) rfl
  ·rename_i j ver l hb
   obtain⟨c1,c2,Ap,Lt,hq⟩:=R7 hb;rcases hq with⟨hq,_⟩|⟨j',ver',hq,rfl,I8⟩
   ·cases hq
   simp only[Af,Cb]at hq;obtain⟨rfl,rfl⟩:=hq;refine⟨_,_,_,hk,λAb Ai=>?_⟩;have Cl:Ab i=Yg (.cells F.t [c1,.row j ver]):=(Ai i (by simp)).trans Ap;have HB:Ab j=Yg (.row F.te (.int .u8) ver l):=(Ai j (by simp)).trans I8;have AO:i≠j:=by rintro rfl;rw[Cl]at HB;cases HB
   intro ok0 base pl w a hr Ae K Q hK;obtain⟨us,CZ,AJ⟩:=FE Ab ok0 base pl w a hr Ae;have AJ:=AJ hF.fn;obtain⟨u,us1,rfl,hu,DH⟩:=CZ;have DH:us1=[]:=DH;subst DH;obtain⟨g,p,v,rfl,AC,Ji,hp,hv⟩:=R8 hr Cl Lt hu;obtain⟨Dw,Aq,Zb⟩:=sB (F:=F) hr Cl rfl AC HB hv AO;have EZ:=hF.ok (by rw[hn];decide) w base g p v l hr.baseLe Ji hp Aq Zb;rw[hn]at EZ;have Fx:=EZ;unfold Yan;rw[AJ];simp only[Yah];refine Fx.mono λe w' ⟨he,hg⟩=>?_;subst he;simp only;exact hK _ _ _ (hr.still hg) (Step.still hg) rfl
  ·cases hk
 ·
  rename_i s hn;refine⟨_,_,_,hk,λAb Ai=>?_⟩;intro ok0 base pl w a hr Ae K Q hK;obtain⟨us,CZ,AJ⟩:=FE Ab ok0 base pl w a hr Ae;have AJ:=AJ hF.fn;obtain⟨u,us1,rfl,hu,u2,us2,rfl,AW,DH⟩:=CZ;have DH:us2=[]:=DH;have AW:u2=.string ⟨s.toArray⟩:=AW;have hu:u=.slice Yf 0 0:=hu;subst DH AW hu;have Fx:=hF.join hn w base (.slice Yf 0 0) [] s (YL _ _ _ _) (by simp) (by rw[Lib.join_nil];simp);unfold Yan;rw[AJ];simp only[Yah];refine Fx.mono λe w' ⟨he,hg⟩=>?_;subst he;simp only;exact hK _ _ _ (hr.still hg) (Step.still hg) rfl
 ·
  rename_i j ver s hn;split at hk
  ·rename_i t ver' l I8
   cases hc:(Yo t F.t&&Yo ver ver')with
   |false=>rw[hc]at hk;cases hk
   |true=>simp only[hc,As]at hk;obtain⟨h1,h2⟩:=andB hc;have h1:=AB h1;have h2:=AB h2;subst h1 h2;obtain⟨AU,hk⟩:=DN hk;obtain⟨d1,d2⟩:=andB AU;have d1:=Bd d1;have d2:=Bd d2;refine⟨_,_,_,hk,λAb Ai=>?_⟩;have HB:Ab j=Yg (.row F.t .str ver l):=(Ai j (by simp)).trans I8;intro ok0 base pl w a hr Ae K Q hK;obtain⟨us,CZ,AJ⟩:=FE Ab ok0 base pl w a hr Ae;have AJ:=AJ hF.fn;obtain⟨u,us1,rfl,hu,u2,us2,rfl,AW,DH⟩:=CZ;have DH:us2=[]:=DH;have AW:u2=.string ⟨s.toArray⟩:=AW;subst DH AW;obtain⟨_,sv,Ac,AA,Bg⟩:=hu;have hv:=(Bg F.t .str ver l HB).2 rfl;subst hv;have AA:pl j=Yg (.row u Ac):=AA;obtain⟨q,hq,hB⟩:=hr.blks j _ HB;rw[AA]at hq;injection hq with hq;subst hq;obtain⟨rfl,xs,hd,Aq⟩:=hB;rw[sA.1 hd]at Aq;have Fx:=hF.join hn w base u l s Aq d1 d2;unfold Yan;rw[AJ];simp only[Yah];refine Fx.mono λe w' ⟨he,hg⟩=>?_;subst he;simp only;exact hK _ _ _ (hr.still hg) (Step.still hg) rfl
  ·cases hk
 ·cases hk
theorem U4{bl:Yn->Ya Blk}{i:Yn}{B:Blk}(h:LH bl i=Yg B):bl i=Yg B:=by
 unfold LH at h;split at h
 ·cases h
 ·exact h
theorem Auo{bl:Yn->Ya Blk}{i:Yn}{t et:Yr}{e:Ty}{ver Ah:Yn}{hole:Ya Yn}{l:Ye (Ye e.den)}:LH bl i≠Yg (.mat t et e ver Ah hole l):=by intro h;have h2:=U4 h;unfold LH at h;rw[h2]at h;cases h
theorem AfW{bl:Yn->Ya Blk}:∀{is:Ye Yn},Kc (LH bl) is=Kc bl is
 |[]=>rfl
 |i::is=>by
  simp only[Kc,AfW (is:=is)];unfold LH;cases h:bl i with
  |none=>rfl
  |some B=>cases B<;>rfl
theorem AfX{S:Spec}{ids:Ye Yn}:∀{as:Ye Yn},Ug S ids as=Yp->(∀b∈as,(ST.flat S.res&&BT.flat S.outs)=Yp)/\∀b∈as,b∉ids
 |[],_=>⟨λ_ h=>by simp at h,λ_ h=>by simp at h⟩
 |b::r,h=>by
  obtain⟨h1,h2⟩:=andB (show((ST.flat S.res&&BT.flat S.outs)&&(!memB b ids&&Ug S ids r))=Yp from h);obtain⟨h2,h3⟩:=andB h2;obtain⟨q1,q2⟩:=AfX h3
  have EU:b∉ids:=λhm=>by rw[Ir.2 hm]at h2;cases h2
  refine⟨λc hc=>?_,λc hc=>?_⟩
  ·rcases Bl.1 hc with rfl|hc
   ·exact h1
   ·exact q1 c hc
  ·rcases Bl.1 hc with rfl|hc
   ·exact EU
   ·exact q2 c hc
theorem CReps.cut2{E:Env}:∀{n:Yn}{cs:Ye C}{vs:Ye Yq},CReps E cs vs->CReps E (cs.take n) (vs.take n)/\CReps E (cs.drop n) (vs.drop n)
 |0,_,_,h=>⟨by simp[CReps],by simpa using h⟩
 |_+1,[],_,h=>by simp only[CReps]at h;subst h;simp[CReps]
 |n+1,_::_,_,⟨v,Az,e,h,ht⟩=>by subst e;obtain⟨h1,h2⟩:=CReps.cut2 (n:=n) ht;exact⟨⟨v,_,by simp,h,h1⟩,by simpa using h2⟩
theorem CReps.app{E:Env}:∀{cs ds:Ye C}{vs us:Ye Yq},CReps E cs vs->CReps E ds us->CReps E (cs++ds) (vs++us)
 |[],_,_,_,h,k=>by simp only[CReps]at h;subst h;simpa using k
 |_::_,_,_,_,⟨v,Az,e,h,ht⟩,k=>⟨v,Az++_,by rw[e];rfl,h,CReps.app ht k⟩
theorem sD{E:Env}:∀(l:Ye CT){cs:Ye C}{vs:Ye Yq},CReps E cs vs->CReps E (NG l cs) vs
 |[],_,_,h=>by simpa [NG]using h
 |t::l,cs,vs,h=>by
  have key:(∃τ,t=.data τ)\/(∀τ,t≠.data τ):=by cases t<;>simp
  rcases key with⟨τ,rfl⟩|hn
  ·simp only[NG]
   obtain⟨h1,h2⟩:=CReps.cut2 (n:=τ.size) h;have:=CReps.app h1 (sD l h2)
   rwa [M0]at this
  ·cases cs with
   |nil=>cases t<;>first|exact Y7 rfl (hn _)|simpa [NG]using h
   |cons c cs=>
    obtain⟨v,Az,e,h1,h2⟩:=h;have ih:=sD l h2;cases t with
    |data τ=>exact Y7 rfl (hn τ)
    |junk=>exact⟨v,Az,e,CRep.oneCell h1,ih⟩
    |_=>exact⟨v,Az,e,h1,ih⟩
theorem AfY{E:Env}:∀{ts:Ye (Ys×Ye CT)}{vs:Ye V}{us:Ye Yq},VReps E vs us->VReps E (Uh ts vs) us
 |[],_,_,h=>by simpa [Uh]using h
 |_::_,[],_,h=>by simpa [Uh]using h
 |t::ts,v::vs,_,⟨u,CM,e,h1,h2⟩=>by
  refine⟨u,CM,e,?_,AfY h2⟩;cases v with
  |agg cs=>obtain⟨ws,h3,h4⟩:=h1;exact⟨ws,sD _ h3,h4⟩
  |_=>exact h1
theorem Aup{ok0:OK0 P}{base:Yn}{pl:Yn->Ya Pl}{bl Ab:Yn->Ya Blk}{w:Yx}(hr:RelB ok0 base pl Ab w){S:Spec}{args n6:Ye V}{as:Ye Yn}{us:Ye Yq}(Ade:∀i∈as,Ab i=bl i)(has:M9 args=as)(Add:Rv S bl args=n6)(CZ:VReps (At ok0 base pl Ab w) args us):∃E:Env,E.w=w/\E.bl=Ab/\E.pl=pl/\(∀g,E.ok g->((ok0 g\/(base<=g/\¬ok0.no g))/\¬Own pl Ab g)\/∃b∈as,∃t cs,Ab b=Yg (.cells t cs)/\pl b=Yg (.cells g))/\Ez E/\VReps E n6 us:=by
 let E0:=At ok0 base pl Ab w
 let E:Env:={E0 with ok:=λg=>E0.ok g\/∃b∈as,∃t cs,Ab b=Yg (.cells t cs)/\pl b=Yg (.cells g)}
 have hx:Ext E0 E:=⟨Av _,λg h _=>⟨.inl h,rfl⟩,λ_ _ h=>h,λ_ sv Ac h=>⟨sv,Ac,h,KeepR.refl _ _ _⟩⟩;refine⟨E,rfl,rfl,rfl,λg h=>h,λi B hB=>?_,?_⟩
 ·obtain⟨p,hp,hB2⟩:=hr.blks i B hB
  exact⟨p,hp,BRep.mono hx hB2 λ_ _=>rfl⟩
 ·subst Add
  refine AfY ?_;have D9:∀b∈M9 args,b∈as:=λb hb=>by rw[<-has];exact hb
  clear has
  induction args generalizing us with
  |nil=>exact CZ
  |cons v vs ih=>
   obtain⟨u,CM,e,hv,ht⟩:=CZ;refine⟨u,CM,e,?_,ih ht λb hb=>D9 b (by cases v<;>simp[M9,hb])⟩;by_cases hl:∃b o e n,v=.arr b o e n
   ·obtain⟨b,o,ty,n,rfl⟩:=hl
    have hb:b∈as:=D9 b (by simp[M9]);obtain⟨g,hg,hv⟩:=hv;show VRep E (Ru bl (.arr b o ty n)) u;simp only[Ru]
    ·split
     ·rename_i t cs Ap
      split
      ·rename_i ds Fy
       split
       ·rename_i l hl
        cases hc:(YI n 4096&&Y0 0 ty.size)with
        |false=>exact trivial
        |true=>
         obtain⟨hn,_⟩:=andB hc;have hn:n<=4096:=IP hn;have Ai:Ab b=Yg (.cells t cs):=(Ade b hb).trans Ap;obtain⟨p,hp,hB⟩:=hr.blks b _ Ai
         have Dh:p=.cells g:=by have h2:pl b=Yg (.cells g):=hg;rw[hp]at h2;injection h2
         subst Dh;obtain⟨Bw,hh,De⟩:=hB;obtain⟨s1,_,_⟩:=Pw De Fy;obtain⟨hd,AU⟩:=bM hr.blksOk (Rows.none _ _) s1 hl;show DRep w E.ok (.slice ty) l [u];simp only[DRep];refine⟨Yg ⟨g,o,Yf⟩,n,_,by rw[hv,AU],by omega,DC hn (by decide),hd.mono λx us hu=>hu.mono λg h _=>⟨.inl h,rfl⟩,λj v hj=>⟨_,rfl,.inr ⟨b,hb,t,cs,Ai,hp⟩,bR hh hj⟩⟩
       ·exact trivial
      ·exact trivial
     ·exact trivial
   ·have:Ru bl v=v:=by
     unfold Ru;split
     ·rename_i b o e n
      exact Y7 ⟨b,o,e,n,rfl⟩ hl
     ·rfl
    show VRep E (Ru bl v) u;rw[this];exact VRep.mono hx hv
theorem AfZ{X:Ctx}(hΓ:ΓOk P X.Γ){kk:K β}{nx:Yn}{f:YA}{args:Ye V}(hk:Ui X bl nx f args kk=Yg r)(FE:∀(Ab:Yn->Ya Blk)(ok0:OK0 P)(base:Yn)(pl:Yn->Ya Pl)(w:Yx)(a:Act),RelB ok0 base pl Ab w->(∀x∈o.op.operands,VRep (At ok0 base pl Ab w) (ρ x) (a.eval x))->∃us,VReps (At ok0 base pl Ab w) args us/\((∃fn,P.funcs[f]?=Yg fn/\(fn.name== "runtime.NumGoroutine")=Yi/\fn.body.isNone=Yi)->(Y3 a.eval o).run P w=.ok (.enter f us.toArray) w)):Sound P o ρ bl kk r:=by
 unfold Ui at hk;split at hk
 ·cases hk
 ·rename_i F hF
  exact Aum (hΓ.rows f F hF) hk FE
 ·rename_i F hF
  exact Aun (hΓ.bld f F hF) hk FE
 ·rename_i A hA
  obtain⟨v,rd,wr,hk,Ds⟩:=(hΓ.abs f A hA).ok _ _ _ _ _ hk;refine⟨v,rd,wr,hk,λAb Ai ok0 base pl w a hr Ae K Q hK=>?_⟩;obtain⟨us,CZ,AJ⟩:=FE Ab ok0 base pl w a hr Ae;unfold Yan;rw[AJ (hΓ.abs f A hA).fn];simp only[Yah];refine(Ds Ab Ai ok0 base pl w us hr CZ).mono λe w' EZ=>?_;obtain⟨u,Ak,rfl,h1,h2,h3⟩:=EZ;exact hK u Ak w' h1 h2 h3
 rename_i S hS;have ArJ:=hΓ.spec f S hS;split at hk
 ·cases hk
 rename_i ids QA;have AU:=AfS QA;split at hk
 ·rename_i x y hx hy
  generalize Add:Rv S bl args=n6 at hk hx QA;generalize has:M9 args=as at hk;generalize ArF:CI n6++Kc bl ids=rds at hk;generalize Jl:AP nx (S.outs.length-S.ins.length)=new at hk;generalize nM:Rt S bl rds=kills at hk;cases hc:(qQ S bl ids new&&Ug S ids as)with
  |false=>rw[hc]at hk;cases hk
  |true=>
   simp only[hc,As]at hk;obtain⟨hc,nO⟩:=andB hc;unfold qQ at hc;have nO:=AfX nO;obtain⟨c1,hc⟩:=andB hc;obtain⟨c3,hc⟩:=andB hc;obtain⟨c4,hc⟩:=andB hc;obtain⟨c5,c6⟩:=andB hc;have c1:=R6 c1;have c4:=IP c4;have c3:=rT c3;obtain⟨z,hz,Fx⟩:=ArJ.ok (x,y) _ r hk;refine⟨_,_,_,hz,λAb Ai=>?_⟩;have Are:∀i∈ids,Ab i=bl i:=λi hi=>Ai i (by simp[hi]);have o6:∀i∈rds,Ab i=bl i:=λi hi=>Ai i (by simp[hi]);have Ade:∀i∈as,Ab i=bl i:=λi hi=>Ai i (by simp[hi]);have AdH:∀i∈new,Ab i=Yf:=λi hi=>(Ai i (by simp[hi])).trans (c3 i hi);intro ok0 base pl w a hr Ae K Q hK
   have QE:∀p∈kills,p.2=Blk.dead/\p.1∈rds/\∃B,Ab p.1=Yg B/\B.lend=Yp:=λp hp=>by rw[<-nM]at hp;obtain⟨h1,h2,B,h3,h4⟩:=Auj hp;exact⟨h1,h2,B,by rw[o6 _ h2];exact h3,h4⟩
   rw[NI]at hK
   let blk:Yn->Ya Blk:=updL Ab kills
   have Q2:∀i,blk i=Ab i\/(blk i=Yg .dead/\i∈rds/\∃B,Ab i=Yg B/\B.lend=Yp):=λi=>by
    rcases U2 (l:=kills) (f:=Ab) i (λp hp=>(QE p hp).1)with⟨h1,_⟩|⟨h1,p,hp,h2⟩
    ·exact .inl h1
    ·have:=QE p hp
     rw[h2]at this;exact .inr ⟨h1,this.2⟩
   have hblkL:∀i B,blk i=Yg B->B.live=Yp->Ab i=Yg B:=λi B hB hl=>by
    rcases Q2 i with h|⟨h,_⟩
    ·rw[<-h];exact hB
    ·rw[h]at hB
     injection hB with hB;subst hB;cases hl
   obtain⟨us,CZ,AJ⟩:=FE Ab ok0 base pl w a hr Ae;have AJ:=AJ ArJ.fn;obtain⟨E,hEw,hEbl,hEpl,hEok,Ni,CZ⟩:=Aup hr Ade has Add CZ
   have Lk:∀i∈ids,∃t cs,Ab i=Yg (.cells t cs):=λi hi=>by obtain⟨t,cs,h⟩:=rY hy i hi;exact⟨t,cs,by rw[Are i hi];exact U4 h⟩
   let ok0c:OK0 P:=⟨λg=>E.ok g\/∃b∈rds,∃B p,Ab b=Yg B/\B.lend=Yp/\pl b=Yg p/\p.has g,λ_=>False⟩
   let plc:Yn->Ya Pl:=λb=>(ids[b]?).bind pl
   let blc:Yn->Ya Blk:=fnBl (mkB (AP 0 S.ins.length) S.ins y)
   let Ec:Env:=At ok0c w.heap.size plc blc w
   have nW:∀g,Own plc blc g->∃i∈ids,pl i=Yg (.cells g):=by
    rintro g ⟨j,B,p,hB,hl,hp,hg⟩;cases hj:ids[j]? with
    |none=>simp[plc,hj]at hp
    |some i=>
     have D0:pl i=Yg p:=by simpa [plc,hj]using hp
     have hi:=Dg hj;obtain⟨t,cs,Ap⟩:=Lk i hi;obtain⟨q,hq,hR⟩:=hr.blks i _ Ap;rw[D0]at hq;injection hq with hq;subst hq;cases p with
     |row _ _=>exact hR.elim
     |cells g'=>have hg:g'=g:=hg;subst hg;exact⟨i,hi,D0⟩
   have AdO:∀g,Own plc blc g->Own pl Ab g:=λg h=>by obtain⟨i,hi,hp⟩:=nW g h;obtain⟨t,cs,Ap⟩:=Lk i hi;exact⟨i,_,_,Ap,rfl,hp,rfl⟩
   have ALM:∀g,E.ok g->Ec.ok g:=λg h=>⟨.inl (.inl h),λho=>by
    rcases hEok g h with h|⟨b,hb,t,cs,Ap,hp⟩
    ·exact h.2 (AdO g ho)
    ·obtain⟨i,hi,AC⟩:=nW g ho
     obtain⟨t',cs',Q1⟩:=Lk i hi;have AO:i≠b:=by rintro rfl;exact(nO.2 i hb) hi
     exact hr.sep i b _ _ _ _ g AO Q1 Ap rfl rfl AC hp rfl rfl⟩
   have Arn:∀b∈rds,∀B p,Ab b=Yg B->B.lend=Yp->pl b=Yg p->∀g,p.has g->Ec.ok g:=λb hb B p Cl hl hp g hg=>by
    refine⟨.inl (.inr ⟨b,hb,B,p,Cl,hl,hp,hg⟩),λho=>?_⟩;obtain⟨i,hi,AC⟩:=nW g ho;obtain⟨t',cs,Q1⟩:=Lk i hi;have AO:i≠b:=by rintro rfl;rw[Cl]at Q1;injection Q1 with Q1;subst Q1;cases hl
    exact hr.sep i b _ _ _ _ g AO Q1 Cl rfl (Blk.lend_live hl) AC hp rfl hg
   have OP:∀ids0:Ye Yn,(∀b∈ids0,b∈rds)->Rows E (LH bl) Ec.ok ids0:=λids0 h0=>⟨ALM,λb hb t e ver l Ap=>by
    have Cl:Ab b=Yg (.row t e ver l):=by rw[o6 b (h0 b hb)];exact U4 Ap
    refine⟨by rw[hEbl];exact Cl,λsv g AA hg=>?_⟩;rw[hEpl]at AA;exact Arn b (h0 b hb) _ _ Cl rfl AA g (.inl hg),λb hb t et e ver Ah hole l Ap=>Y7 Ap Auo,λb hb t e ver Ah hole l Ap=>by
    have Cl:Ab b=Yg (.tree t e ver Ah hole l):=by rw[o6 b (h0 b hb)];exact U4 Ap
    refine⟨by rw[hEbl];exact Cl,λsv Ac g AA hg=>?_⟩;rw[hEpl]at AA;exact Arn b (h0 b hb) _ _ Cl rfl AA g hg⟩
   have Zj:Ren E Ec ids (AP 0 S.ins.length):=by
    have key:∀b i,ids[b]?=Yg i->Ec.pl ((AP 0 S.ins.length).getD b 0)=pl i:=by
     intro b i hi;have Ax:b<S.ins.length:=by rw[<-AU];exact(Fe.1 hi).1
     rw[P3 Ax];simp[Ec,At,plc,hi]
    refine⟨λb i g hi h=>?_,λb i sv Ac t e ver l hi _ h=>?_,λb i sv Ac t et e ver Ah hole l hi _ h=>?_,λb i sv Ac t e ver Ah l hi _ h=>?_,λb i t e ver Ah l t' e' ver' B8 h' l' hi Ap _=>?_,λb i hi h=>?_⟩
    ·rw[key b i hi,<-hEpl];exact h
    ·rw[key b i hi,<-hEpl];exact h
    ·rw[key b i hi,<-hEpl];exact h
    ·rw[key b i hi,<-hEpl];exact h
    ·obtain⟨t,cs,Cl⟩:=Lk i (Dg hi)
     rw[hEbl,Cl]at Ap;cases Ap
    ·obtain⟨t,cs,Ap⟩:=Lk i (Dg hi)
     rw[hEbl,Ap]at h;cases h
   have AqW:∀i∈ids,LH bl i=E.bl i:=λi hi=>by obtain⟨t,cs,h⟩:=rY hy i hi;rw[hEbl,Are i hi,h,U4 h]
   have Bv:=rW Ni (show Ec.w=E.w from hEw.symm) Zj AqW (OP _ λb hb=>by rw[<-ArF];exact D5 _ hb) CZ hx;obtain⟨hlB,hinB⟩:=AfP Ni (show Ec.w=E.w from hEw.symm) Zj AqW (OP _ λb hb=>by rw[<-ArF];exact DW _ (by rw[AfW]at hb;exact hb)) (λi hi=>hi) hy
   have AM6:RelB ok0c w.heap.size plc blc w:=by
    refine⟨Av _,λi B hB=>?_,λi j B C p q g Dv hB hC hlB' hlC hp hq Dh=>?_,λi hi=>?_,⟨hr.glob.g0.gen (Av _) (λg _ h1 _=>⟨rfl,λq=>h1 (AdO g q)⟩) λ_ h=>h.elim,λ_ h=>h.elim⟩⟩
    ·have Ax:i<ids.length:=by have:=(Fe.1 (show(mkB (AP 0 S.ins.length) S.ins y)[i]?=Yg B from hB)).1;rw[GD]at this;omega
     obtain⟨g,B',h1,h2,h3,_⟩:=hinB i ids[i] (Ff Ax)
     have hBB:B=B':=by have h4:(mkB (AP 0 S.ins.length) S.ins y)[i]?=Yg B:=hB;rw[h2]at h4;injection h4 with h4;exact h4.symm
     rw[hEpl]at h1;exact⟨.cells g,by simp[plc,Ff Ax,h1],by rw[hBB];exact h3⟩
    ·cases hi:ids[i]? with
     |none=>simp[plc,hi]at hp
     |some i'=>
      cases hj:ids[j]? with
      |none=>simp[plc,hj]at hq
      |some j'=>
       have D0:pl i'=Yg p:=by simpa [plc,hi]using hp
       have ArD:pl j'=Yg q:=by simpa [plc,hj]using hq
       have AO:i'≠j':=by rintro rfl;have h1:=KT c1 hi;have h2:=KT c1 hj;rw[h1]at h2;injection h2 with h2;exact Dv h2
       obtain⟨t1,cs1,BE⟩:=Lk i' (Dg hi);obtain⟨t2,cs2,Adf⟩:=Lk j' (Dg hj);exact hr.sep i' j' _ _ p q g AO BE Adf rfl rfl D0 ArD Dh
    ·have Th:ids.length<=i:=by have h1:(mkB (AP 0 S.ins.length) S.ins y)[i]?=Yf:=hi;rw[Ra,GD]at h1;omega
     simp[plc,TK Th]
   unfold Yan;rw[AJ];simp only[Yah];refine(Fx ok0c plc w us AM6 Bv).mono λe w' EZ=>?_;obtain⟨Bw,Ak,rfl,hR,hS,hT⟩:=EZ;simp only;generalize XR:ids++new=Bk at*
   have OD:Bk.length=S.outs.length:=by rw[<-XR,AQ,<-Jl,rQ,AU];omega
   have AdI:Bk.Nodup:=by rw[<-XR];refine List.nodup_append.2 ⟨c1,by rw[<-Jl];exact rS,λx hx y hy oE=>?_⟩;subst oE;obtain⟨t,cs,h⟩:=Lk x hx;rw[AdH x hy]at h;cases h
   let blo:Yn->Ya Blk:=fnBl (mkB (AP 0 S.outs.length) S.outs z.2)
   let Eo:Env:=At ok0c w.heap.size Ak blo w'
   let pl2:Yn->Ya Pl:=λi=>match place Bk i with|some b=>Ak b|none=>pl i
   have Ei:∀i,updL (updL Ab kills) (Bk.zip (mkB Bk S.outs z.2)) i=match place Bk i with|some b=>(mkB Bk S.outs z.2)[b]?|none=>blk i:=
    λi=>AfR i AdI (by rw[GD];exact OD)
   generalize AOl:updL (updL Ab kills) (Bk.zip (mkB Bk S.outs z.2))=bl3 at*;have Mn:∀i,place Bk i=Yf->pl2 i=pl i:=λi h=>by simp only[pl2,h]
   have OI:∀i b,place Bk i=Yg b->pl2 i=Ak b:=λi b h=>by simp only[pl2,h]
   have HD:∀i,place Bk i=Yf->bl3 i=blk i:=λi h=>by rw[Ei,h]
   have O7:∀i b,place Bk i=Yg b->bl3 i=(mkB Bk S.outs z.2)[b]?:=λi b h=>by rw[Ei,h]
   have HH:∀i b,place Bk i=Yg b->b<S.outs.length:=λi b h=>by rw[<-OD];exact(Fe.1 (Hy h)).1
   have KC:∀b,b<S.outs.length->∃B,blo b=Yg B/\B.live=Yp:=λb hb=>by
    have AE:b<(mkB (AP 0 S.outs.length) S.outs z.2).length:=by rw[GD];exact hb
    exact⟨_,Ff AE,NM (Ff AE)⟩
   have DI:∀g,Own pl2 bl3 g->(Own pl Ab g/\∃i B p,place Bk i=Yf/\Ab i=Yg B/\B.live=Yp/\pl i=Yg p/\p.has g)\/Own Ak blo g:=by
    rintro g ⟨i,B,p,hB,hl,hp,hg⟩;cases AC:place Bk i with
    |none=>rw[HD i AC]at hB;rw[Mn i AC]at hp;have hB:=hblkL i B hB hl;exact .inl ⟨⟨i,B,p,hB,hl,hp,hg⟩,i,B,p,AC,hB,hl,hp,hg⟩
    |some b=>rw[OI i b AC]at hp;obtain⟨B',hB',GS⟩:=KC b (HH i b AC);exact .inr ⟨b,B',p,hB',GS,hp,hg⟩
   have QD:∀i B p g,place Bk i=Yf->Ab i=Yg B->B.live=Yp->pl i=Yg p->p.has g->w'.heap[g]?=w.heap[g]?/\¬Own Ak blo g:=by
    intro i B p g AC hB hl hp hg;have Ax:g<w.heap.size:=Own.lt hr ⟨i,B,p,hB,hl,hp,hg⟩;refine hS.out g Ax λho=>?_;obtain⟨j,hj,Dw⟩:=nW g ho;obtain⟨t,cs,I8⟩:=Lk j hj
    have AO:i≠j:=by rintro rfl;obtain⟨b,hb⟩:=ZS (show i∈Bk by rw[<-XR];exact D5 _ hj);rw[KT AdI hb]at AC;cases AC
    exact hr.sep i j _ _ _ _ g AO hB I8 hl rfl hp Dw hg rfl
   have Fb:Step pl Ab w pl2 bl3 w':=by
    refine⟨hS.os,hS.tape,hS.output,hS.size,λg Ax ho=>?_,λb g hb=>?_,λb sv Ac hb=>?_⟩
    ·obtain⟨h1,h2⟩:=hS.out g Ax λh=>ho (AdO g h)
     refine⟨h1,λh=>?_⟩;rcases DI g h with h|h
     ·exact ho h.1
     ·exact h2 h
    ·cases AC:place Bk b with
     |none=>rw[Mn b AC];exact hb
     |some j=>
      rw[OI b j AC];have hj:=Hy AC;rw[<-XR]at hj;by_cases Arj:j<ids.length
      ·rw[HO Arj]at hj
       exact hS.cells j g (by omega) (by simp only[plc,hj,aD];exact hb)
      ·rw[Gy (by omega)]at hj
       have:=hr.fresh b (AdH b (Dg hj));rw[this]at hb;cases hb
    ·have AC:place Bk b=Yf:=by
      cases AC:place Bk b with
      |none=>rfl
      |some j=>
       have hj:=Dg (Hy AC);rw[<-XR]at hj;rcases C5.1 hj with hj|hj
       ·obtain⟨t,cs,h⟩:=Lk b hj
        obtain⟨q,hq,hR⟩:=hr.blks b _ h;rw[hb]at hq;injection hq with hq;subst hq;exact hR.elim
       ·have:=hr.fresh b (AdH b hj)
        rw[this]at hb;cases hb
     exact⟨sv,Ac,by rw[Mn b AC];exact hb,KeepR.of_live (λC h hC=>by rw[HD b AC]at h;exact hblkL b _ h (by cases C<;>first|rfl|exact Y7 rfl hC)) _ _⟩
   have XF:∀(τ:Ty)(x:τ.den)(us:Ye Yq),((ST.flat S.res&&BT.flat S.outs)=Yi\/τ.flat=Yp)->DRep Eo.w Eo.ok τ x us->DRep (At ok0 base pl2 bl3 w').w (At ok0 base pl2 bl3 w').ok τ x us:=by
    intro τ x us AdL hd;rcases AdL with XK|JH
    ·refine hd.mono λg hg _=>⟨?_,rfl⟩
     obtain⟨h1,h2⟩:=hg;rcases h1 with(h1|⟨b,hb,B0,p0,nB,nQ,AdR,AdZ⟩)|h1
     ·have h1:(ok0 g\/(base<=g/\¬ok0.no g))/\¬Own pl Ab g:=by
       rcases hEok g h1 with h1|⟨b,hb,_⟩
       ·exact h1
       ·rw[(nO.1 b hb)]at XK
        cases XK
      refine⟨h1.1,λho=>?_⟩;rcases DI g ho with h|h
      ·exact h1.2 h.1
      ·exact h2 h
     ·
      refine⟨.inr ?_,λho=>?_⟩
      ·exact s5 hr nB nQ AdR AdZ
      ·rcases DI g ho with⟨_,i,B,p,AC,hBi,hl,ALX,Dh⟩|h
       ·by_cases XQ:i=b
        ·subst XQ
         have D9:(i,Blk.dead)∈kills:=by rw[<-nM];exact Auk XK hb (by rw[<-o6 i hb];exact nB) nQ
         obtain⟨j,B',p',hB',GS,D0,CK⟩:=ho;cases Dw:place Bk j with
         |none=>
          rw[HD j Dw]at hB';rw[Mn j Dw]at D0;have hB2:=hblkL j B' hB' GS;by_cases XV:j=i
          ·subst XV
           rcases U2 (l:=kills) (f:=Ab) j (λp hp=>(QE p hp).1)with⟨_,h5⟩|⟨h5,_⟩
           ·exact h5 _ D9 rfl
           ·rw[show blk j=Yg .dead from h5]at hB'
            injection hB' with hB';subst hB';cases GS
          ·exact hr.sep j i B' _ p' p0 g XV hB2 nB GS (Blk.lend_live nQ) D0 AdR CK AdZ
         |some q=>rw[OI j q Dw]at D0;obtain⟨Bq,hBq,ALy⟩:=KC q (HH j q Dw);exact h2 ⟨q,Bq,p',hBq,ALy,D0,CK⟩
        ·exact hr.sep i b B _ p p0 g XQ hBi nB hl (Blk.lend_live nQ) ALX AdR Dh AdZ
       ·exact h2 h
     ·have h1:=h1.1
      refine⟨.inr ⟨DC hr.baseLe h1,λhn=>by have:=(hr.glob.no g hn).1;omega⟩,λho=>?_⟩;rcases DI g ho with h|h
      ·have:=Own.lt hr h.1;omega
      ·exact h2 h
    ·exact hd.flat JH
   have Zk:Ren2 S.outs.length Eo (At ok0 base pl2 bl3 w') (AP 0 S.outs.length) Bk:=by
    have key:∀b,b<S.outs.length->pl2 (Bk.getD b 0)=Ak b/\bl3 (Bk.getD b 0)=(mkB Bk S.outs z.2)[b]?:=by
     intro b hb;have AE:b<Bk.length:=by omega
     have Jg:Bk[b]?=Yg Bk[b]:=Ff AE;have Ln:Bk.getD b 0=Bk[b]:=by simp[Ym,Jg]
     have Zg:=KT AdI Jg;rw[Ln];exact⟨OI _ b Zg,O7 _ b Zg⟩
    refine⟨λb g hb h=>?_,λb sv Ac hb h=>?_⟩
    ·rw[P3 hb]at h
     show pl2 _=_;rw[(key b hb).1];exact h
    ·rw[P3 hb]at h⊢
     refine⟨?_,λt e ver l h2=>?_,λt et e ver Ah hole l h2=>?_,λt e ver Ah hole l h2=>?_⟩
     ·show pl2 _=_
      rw[(key b hb).1];exact h
     ·have h3:bl3 (Bk.getD b 0)=Yg (.row t e ver l):=h2
      rw[(key b hb).2]at h3;exact NK h3
     ·have h3:bl3 (Bk.getD b 0)=Yg (.mat t et e ver Ah hole l):=h2
      rw[(key b hb).2]at h3;exact NL h3
     ·have h3:bl3 (Bk.getD b 0)=Yg (.tree t e ver Ah hole l):=h2
      rw[(key b hb).2]at h3;exact rZ h3
   have Q5:(ST.flat S.res&&BT.flat S.outs)=Yi\/(ST.flat S.res=Yp/\BT.flat S.outs=Yp):=by
    cases hf:(ST.flat S.res&&BT.flat S.outs)with
    |false=>exact .inl rfl
    |true=>exact .inr (andB hf)
   refine hK (Is Bw) pl2 w' ?_ Fb ?_
   ·refine⟨DC hr.baseLe hS.size,λi B hB=>?_,λi j B C p q g Dv hB hC hlB' hlC hp hq Dh=>?_,λi hi=>?_,hr.glob.out Fb.size Fb.out⟩
    ·cases AC:place Bk i with
     |none=>
      rw[HD i AC]at hB;cases hl:B.live with
      |false=>
       have Mi:∃B0,Ab i=Yg B0:=by
        rcases Q2 i with h|⟨_,_,_,h,_⟩
        ·exact⟨B,by rw[<-h];exact hB⟩
        ·exact⟨_,h⟩
       obtain⟨B0,hB0⟩:=Mi;obtain⟨p,hp,_⟩:=hr.blks i B0 hB0;refine⟨p,by rw[Mn i AC];exact hp,?_⟩;cases B<;>first|exact trivial|simp[Blk.live]at hl
      |true=>have hB:=hblkL i B hB hl;obtain⟨p,hp,hBR⟩:=hr.blks i B hB;refine⟨p,by rw[Mn i AC];exact hp,?_⟩;exact BRep.mono Fb.ext hBR λg hg=>(QD i B p g AC hB hl hp hg).1
     |some b=>obtain⟨Bo,hBo,Ew⟩:=KC b (HH i b AC);obtain⟨p,hp,hBR⟩:=hR.blks b Bo hBo;obtain⟨B',h1,h2,_,_,_,_⟩:=NJ Zk (hr.baseLe) XF rfl c6 (Q5.imp id (·.2)) hBo hBR;rw[O7 i b AC,h1]at hB;injection hB with hB;subst hB;exact⟨p,by rw[OI i b AC];exact hp,h2⟩
    ·cases AC:place Bk i with
     |none=>
      rw[HD i AC]at hB;have hB:=hblkL i B hB hlB';rw[Mn i AC]at hp;cases Dw:place Bk j with
      |none=>rw[HD j Dw]at hC;have hC:=hblkL j C hC hlC;rw[Mn j Dw]at hq;exact hr.sep i j B C p q g Dv hB hC hlB' hlC hp hq Dh
      |some b=>rw[OI j b Dw]at hq;intro B7;obtain⟨Bo,hBo,Ew⟩:=KC b (HH j b Dw);exact(QD i B p g AC hB hlB' hp Dh).2 ⟨b,Bo,q,hBo,Ew,hq,B7⟩
     |some b=>
      rw[OI i b AC]at hp;obtain⟨Bo,hBo,Ew⟩:=KC b (HH i b AC);cases Dw:place Bk j with
      |none=>rw[HD j Dw]at hC;have hC:=hblkL j C hC hlC;rw[Mn j Dw]at hq;intro B7;exact(QD j C q g Dw hC hlC hq B7).2 ⟨b,Bo,p,hBo,Ew,hp,Dh⟩
      |some b'=>
       rw[OI j b' Dw]at hq;obtain⟨Bo',hBo',AdD⟩:=KC b' (HH j b' Dw)
       have JG:b≠b':=by rintro rfl;have h1:=Hy AC;have h2:=Hy Dw;rw[h1]at h2;injection h2 with h2;exact Dv h2
       exact hR.sep b b' _ _ p q g JG hBo hBo' Ew AdD hp hq Dh
    ·cases AC:place Bk i with
     |none=>
      rw[HD i AC]at hi;rw[Mn i AC];rcases Q2 i with h|⟨h,_⟩
      ·exact hr.fresh i (by rw[<-h];exact hi)
      ·rw[h]at hi;cases hi
     |some b=>rw[O7 i b AC]at hi;have:=HH i b AC;rw[Ra,GD]at hi;omega
   ·exact TReps.res (rX Zk XF c5 (Q5.imp id (·.1)) hT)
 ·cases hk
end
end
end Go.Lift
namespace Go.Lift
open Go.RowKit Go.MapKept
section
variable{P:Yw}{o:Oper}{ρ:Y2->V}{bl:Yn->Ya Blk}{β:Type}{r:β}
theorem Auq{t:Yr}{ti:TI}{i:YN}{d:YD}{z:Yq}(f:TFacts P t ti i d z){k:Ty}(hk:FT ti k=Yp)(hw:keyW k=Yi){w:Yx}{ok:Yn->Prop}{x:k.den}{u:Yq}(hd:DRep w ok k x [u]):IsKey d u:=by
 cases k with
 |bool=>simp only[FT,f.isBool]at hk;simp only[DRep,Dx,Fv]at hd;subst hd;cases d<;>simp[bI]at hk;trivial
 |int k=>have hk:=Bd hk;rw[f.kind]at hk;simp only[DRep,Dx,Fv]at hd;subst hd;cases d<;>simp[R2]at hk;subst hk;rfl
 |str=>simp only[FT,f.isStr]at hk;simp only[DRep,Dx,Fv]at hd;subst hd;cases d<;>simp[bH]at hk;trivial
 |unit=>simp[FT]at hk
 |err=>simp[FT]at hk
 |prod a b=>simp[keyW]at hw
 |slice e=>simp[FT]at hk
theorem Aur{ti:TI}{a b:Ty}(hk:FT ti (.prod a b)=Yp):∃i j,a=.int i/\b=.int j/\ti.eqs=Yg [.i,.i]/\ti.len=Yg 2:=by
 cases a<;>cases b<;>first|(simp[FT]at hk;done)|skip
 refine⟨_,_,rfl,rfl,?_⟩;simp only[FT]at hk;split at hk
 ·rename_i h1 h2;exact⟨h1,h2⟩
 ·cases hk
theorem Ag0{E:Env}{k:Ty}{v:V}{key:k.den}{u:Yq}(h:J2 k v=Yg key)(hv:VRep E v u):KRep E.w E.ok k key u:=by
 cases k with
 |bool=>
  cases v<;>first|(cases h;done)|skip
  rename_i c;cases c<;>first|(cases h;done)|skip
  simp only[J2]at h;injection h with h;subst h;have:u=.bool _:=hv;subst this;exact⟨_,rfl,rfl⟩
 |int k=>
  cases v<;>first|(cases h;done)|skip
  rename_i c;cases c<;>first|(cases h;done)|skip
  simp only[J2]at h;split at h
  ·rename_i hk
   subst hk;injection h with h;subst h;have:u=.int _ _:=hv;subst this;exact⟨_,rfl,rfl⟩
  ·cases h
 |str=>
  cases v<;>first|(cases h;done)|skip
  rename_i c;cases c<;>first|(cases h;done)|skip
  simp only[J2]at h;injection h with h;subst h;have:u=.string _:=hv;subst this;exact⟨_,rfl,rfl⟩
 |unit=>simp[J2]at h
 |err=>simp[J2]at h
 |prod a b=>
  cases a<;>first|(simp[J2]at h;done)|skip
  cases b<;>first|(simp[J2]at h;done)|skip
  cases v<;>first|(simp[J2]at h;done)|skip
  rename_i cs
  match cs,h,hv with
  |[.int j n,.int j2 n2],h,hv=>
   simp only[J2]at h;split at h
   ·rename_i hk
    obtain⟨rfl,rfl⟩:=hk;injection h with h;subst h;obtain⟨vs,⟨v1,r1,e1,c1,⟨v2,r2,e2,c2,e3⟩⟩,hu⟩:=hv;have c1:v1=.int _ _:=c1;have c2:v2=.int _ _:=c2;have e3:r2=[]:=e3;subst e3 e2 e1 c1 c2;exact⟨_,⟨[_],[_],rfl,rfl,rfl⟩,by simpa [keyW]using hu⟩
   ·cases h
 |slice e=>simp[J2]at h
theorem Aus{ti:TI}{k:Ty}(hk:FT ti k=Yp)(hw:keyW k=Yi){w:Yx}{ok:Yn->Prop}{a b:k.den}{x y:Yq}(ha:DRep w ok k a [x])(hb:DRep w ok k b [y]):(J1 k a b=Yp↔y=x):=by
 cases k with
 |bool=>simp only[DRep,Dx,Fv]at ha hb;subst ha hb;simp only[J1,beq_iff_eq,Value.bool.injEq];exact eq_comm
 |int k=>simp only[DRep,Dx,Fv]at ha hb;subst ha hb;simp only[J1,Jv,Value.int.injEq,true_and];exact eq_comm
 |str=>
  simp only[DRep,Dx,Fv]at ha hb;subst ha hb;simp only[J1,Jv,Value.string.injEq,ByteArray.mk.injEq];constructor
  ·intro h;rw[h]
  ·intro h;simpa using Aw Array.toList h.symm
 |unit=>simp[FT]at hk
 |err=>simp[FT]at hk
 |prod a b=>simp[keyW]at hw
 |slice e=>simp[FT]at hk
theorem KRep.one{w:Yx}{ok:Yn->Prop}{k:Ty}{x:k.den}{u:Yq}(hw:keyW k=Yi)(h:KRep w ok k x u):DRep w ok k x [u]:=by
 obtain⟨us,h1,h2⟩:=h;rw[hw]at h2;have h2:us=[u]:=by simpa using h2
 rw[<-h2];exact h1
theorem KRep.two{w:Yx}{ok:Yn->Prop}{i j:YT}{x:Yh×Yh}{u:Yq}(h:KRep w ok (.prod (.int i) (.int j)) x u):u=.agg #[.int i x.1,.int j x.2]:=by obtain⟨us,⟨v1,v2,e0,e1,e2⟩,h2⟩:=h;have e1:v1=[_]:=e1;have e2:v2=[_]:=e2;subst e1 e2 e0;simpa [keyW]using h2
theorem Aut{w:Yx}{e:Yr}{q:YT}(h:P.underlying e=Yg (.int q))(em:Ys)(k:YT)(x:Yh)(n:Yn):(Yam em (n+1) e (.int k x)).run P w=.ok () w:=by unfold Yam;simp[Yu h,YO]
theorem Auu{em:Ys}{w:Yx}{kt e:Yr}{ka kb:YT}{a b:Yh}(QN:P.underlying kt=Yg (.array 2 e))(hs:(sizeOf e).run P w=.ok 1 w)(p0:(part e #[.int ka a,.int kb b] 0).run P w=.ok (.int ka a) w)(p1:(part e #[.int ka a,.int kb b] 1).run P w=.ok (.int kb b) w)(hc:∀k x n,(Yam em (n+1) e (.int k x)).run P w=.ok () w)(n:Yn):(Yam em (n+2) kt (.agg #[.int ka a,.int kb b])).run P w=.ok () w:=by
 rw[Yam];simp[Yu QN,YO,List.range',hs,p0,p1,hc]
structure Finds (P:Yw) (w:Yx) (ok:Yn->Prop) (kt:Yr) (k:Ty) (key:k.den) (u:Yq) (Fd:Ye YS->Yn->Ya (Yn×Yq)->Prop):Prop where
 rep:KRep w ok k key u
 nil:∀i,Fd [] i Yf
 cons:∀(x:k.den)(e:YS)(es:Ye YS)(i:Yn),KRep w ok k x e.key->(J1 k x key=Yp/\e.key=u/\Fd (e::es) i (Yg (i,e.val)))\/(J1 k x key=Yi/\∀r,Fd es (i+1) r->Fd (e::es) i r)
 run:∀es r,Fd es 0 r->(Instr.findKey kt u es).run P w=.ok r w
 check:∀em,(Yam em 10000 kt u).run P w=.ok () w
 stays:(Instr.keyThatStays u u).run P w=.ok u w
theorem bV{kt:Yr}{ti:TI}{i:YN}{d:YD}{z:Yq}(f:TFacts P kt ti i d z){k:Ty}(hk:FT ti k=Yp){w:Yx}{ok:Yn->Prop}{key:k.den}{u:Yq}(hd:KRep w ok k key u):∃Fd,Finds P w ok kt k key u Fd:=by
 cases hw:keyW k with
 |false=>
  have OB:=λ(y:k.den)(u:Yq)(h:KRep w ok k y u)=>Auq f hk hw (h.one hw);refine⟨λes i r=>Instr.findNow d u es i=Yg r,hd,λ_=>rfl,λx e es i hx=>?_,λes r h=>run_findKey f.under h,λem=>run_checkKey f.under (OB key _ hd) em _,run_keyThatStays (OB key _ hd)⟩;obtain⟨q,hq,Arg⟩:=sameNow_of_keys (OB key u hd) (OB x e.key hx);have Arl:=Aus hk hw (hx.one hw) (hd.one hw);cases q with
  |true=>have Tv:u=e.key:=Arg.1 rfl;exact .inl ⟨Arl.2 Tv,Tv.symm,by simp[Instr.findNow,hq]⟩
  |false=>
   have Tv:u≠e.key:=λh=>by have:=Arg.2 h;cases this
   refine .inr ⟨?_,λr h=>by simp[Instr.findNow,hq,h]⟩;cases hh:J1 k x key with
   |false=>rfl
   |true=>exact Y7 (Arl.1 hh) Tv
 |true=>
  cases k with
  |prod a b=>
   obtain⟨ka,kb,rfl,rfl,he,hl⟩:=Aur hk;have hu:=hd.two;have Jf:=f.eqs.symm.trans he
   have AL9:∃e,P.underlying kt=Yg (.array 2 e)/\LL P e=Yg .i/\P.cellsOf e=1:=by
    have CC:=f.alen.symm.trans hl;have QN:=f.under;cases d<;>simp[lenD]at CC;subst CC;rename_i e;refine⟨e,QN,?_⟩;unfold Uo at Jf;rw[QN]at Jf;simp only at Jf;split at Jf
    ·rename_i kk OC
     cases hc:(Yo (P.cellsOf e) 1&&!P.eqGuardType P.depth kt)with
     |false=>rw[hc]at Jf;cases Jf
     |true=>rw[hc]at Jf;simp only[As,Af,List.replicate,Dx,Fv]at Jf;obtain⟨CU,_⟩:=andB hc;exact⟨by rw[OC,Jf.1],AB CU⟩
    ·cases Jf
   obtain⟨e,QN,KB,KE⟩:=AL9
   have oD:∃q,P.underlying e=Yg (.int q):=by
    unfold LL at KB;split at KB
    all_goals first|(cases KB;done)|skip
    rename_i q hq;exact⟨q,hq⟩
   obtain⟨q,oD⟩:=oD
   have XT:∃i,P.info? e=Yg i:=by
    cases hi:P.info? e with
    |some i=>exact⟨i,rfl⟩
    |none=>simp[YaJ,hi]at KE
   obtain⟨ie,XT⟩:=XT;have nX:P.plainKey e=Yp:=by simp[Program.plainKey,oD]
   refine⟨λes i r=>(Ya1 kt u es i).run P w=.ok r w,hd,λ_=>by simp[Ya1],λx en es i hx=>?_,λes r h=>?_,λem=>?_,?_⟩
   ·have Ik:=hx.two
    have hE:CReps (⟨w,ok,0,λ_=>Yf,λ_=>Yf⟩:Env) [.int ka key.1,.int kb key.2] [.int ka key.1,.int kb key.2]:=⟨_,_,rfl,rfl,_,_,rfl,rfl,rfl⟩;have hF:CReps (⟨w,ok,0,λ_=>Yf,λ_=>Yf⟩:Env) [.int ka x.1,.int kb x.2] [.int ka x.1,.int kb x.2]:=⟨_,_,rfl,rfl,_,_,rfl,rfl,rfl⟩;have hr:=(Afs Jf hE hF (q:=Yd (key.1=x.1)&&(Yd (key.2=x.2)&&Yp)) (by simp[C3]) w).1;have hr:(Op.equal kt u en.key).run P w=.ok (Yd (key.1=x.1)&&(Yd (key.2=x.2)&&Yp)) w:=by rw[hu,Ik];exact hr
    by_cases h1:key.1=x.1/\key.2=x.2
    ·refine .inl ⟨by simp[J1,h1.1,h1.2],by rw[hu,Ik,h1.1,h1.2],?_⟩
     simp[Ya1,hr,h1.1,h1.2,YO]
    ·have hq:(Yd (key.1=x.1)&&(Yd (key.2=x.2)&&Yp))=Yi:=by
      by_cases h2:key.1=x.1
      ·have h3:¬key.2=x.2:=λh=>h1 ⟨h2,h⟩
       simp[h3]
      ·simp[h2]
     rw[hq]at hr;refine .inr ⟨?_,λr h=>by simp[Ya1,hr,YO,h]⟩;by_cases h2:x.1=key.1
     ·have h3:¬x.2=key.2:=λh=>h1 ⟨h2.symm,h.symm⟩
      simp[J1,h3]
     ·simp[J1,h2]
   ·rw[run_findKey_eq w (by rw[QN])]
    exact h
   ·rw[hu]
    have p0:=run_part_plain w nX (xs:=#[.int ka key.1,.int kb key.2]) (off:=0) rfl;have p1:=run_part_plain w nX (xs:=#[.int ka key.1,.int kb key.2]) (off:=1) rfl;have hc:=λk n m=>Aut (P:=P) (w:=w) oD em k n m;have hs:=_root_.Go.run_sizeOf w XT;rw[KE]at hs;exact Auu QN hs p0 p1 hc 9998
   ·rw[hu]
    simp[Instr.keyThatStays,Instr.sameBits]
  |bool=>simp[keyW]at hw
  |int k=>simp[keyW]at hw
  |str=>simp[keyW]at hw
  |unit=>simp[keyW]at hw
  |err=>simp[keyW]at hw
  |slice e=>simp[keyW]at hw
theorem sE{kt:Yr}{w:Yx}{ok:Yn->Prop}{k v:Ty}{vg:Ys}{key:k.den}{u:Yq}{Fd:Ye YS->Yn->Ya (Yn×Yq)->Prop}(H:Finds P w ok kt k key u Fd):∀{l:Ye (k.den×v.den)}{es:Ye YS}(i:Yn),MRep w ok k v vg l es->(Fd es i Yf/\mHas k l key=Yi/\(∀z,mGet k l key z=z)/\∀(y:v.den)(us:Ye Yq)(val:Yq)(n:Yn),DRep w ok v y us->(if vg then val=.agg us.toArray else us=[val])->MRep w ok k v vg (mPut k l key y) (es++[{key:=u,val:=val,born:=n}]))\/∃j e y us,Fd es i (Yg (i+j,e.val))/\es[j]?=Yg e/\e.key=u/\mHas k l key=Yp/\(∀z,mGet k l key z=y)/\DRep w ok v y us/\(if vg then e.val=.agg us.toArray else us=[e.val])/\∀(y':v.den)(CM:Ye Yq)(val:Yq)(f:YS->YS),DRep w ok v y' CM->(if vg then val=.agg CM.toArray else CM=[val])->(∀e,(f e).key=u/\(f e).val=val)->MRep w ok k v vg (mPut k l key y') (es.modify j f)
 |[],es,i,h=>by simp only[MRep]at h;subst h;refine .inl ⟨H.nil i,rfl,λ_=>rfl,λy us val n h1 h2=>?_⟩;exact⟨_,[],rfl,H.rep,⟨us,h1,h2⟩,rfl⟩
 |x::l,es,i,⟨e,rest,h0,h1,⟨us,h2,h3⟩,h4⟩=>by
  subst h0;rcases H.cons x.1 e rest i h1 with⟨FL,Tv,nJ⟩|⟨FL,Tn⟩
  ·refine .inr ⟨0,e,x.2,us,nJ,rfl,Tv,by simp[mHas,FL],λz=>by simp[mGet,FL],h2,h3,λy' CM val f g1 g2 g3=>?_⟩
   have hp:mPut k (x::l) key y'=(key,y')::l:=by simp[mPut,FL]
   rw[hp];refine⟨f e,rest,by simp,by rw[(g3 e).1];exact H.rep,⟨CM,g1,by rw[(g3 e).2];exact g2⟩,h4⟩
  ·rcases sE H (i+1) h4 with⟨g1,g2,g3,g4⟩|⟨j,e',y,us2,g1,g2,g3,g4,g5,g6,g7,g8⟩
   ·refine .inl ⟨Tn _ g1,by simp[mHas,FL,g2],λz=>by simp[mGet,FL,g3],λy CM val n k1 k2=>?_⟩
    have hp:mPut k (x::l) key y=x::mPut k l key y:=by simp[mPut,FL]
    rw[hp];exact⟨e,rest++_,rfl,h1,⟨us,h2,h3⟩,g4 y CM val n k1 k2⟩
   ·refine .inr ⟨j+1,e',y,us2,by have:=Tn _ g1;rwa [show i+(j+1)=i+1+j by omega],by simpa using g2,g3,by simp[mHas,FL,g4],λz=>by simp[mGet,FL,g5],g6,g7,λy' CM val f k1 k2 k3=>?_⟩
    have hp:mPut k (x::l) key y'=x::mPut k l key y':=by simp[mPut,FL]
    rw[hp];exact⟨e,rest.modify j f,by simp,h1,⟨us,h2,h3⟩,g8 y' CM val f k1 k2 k3⟩
theorem sF{t:Yr}{ti:TI}{i:YN}{d:YD}{z:Yq}(f:TFacts P t ti i d z){kt vt:Yr}(h:ti.mp=Yg (kt,vt)):d=.map kt vt:=by rw[f.mp]at h;cases d<;>simp[mpD]at h;rw[h.1,h.2]
theorem Auv{T:Yr->Ya TI}{kk:K β}{nx:Yn}{t:Yr}(ho:o.op=.makeMap t Yf)(hk:qE T bl nx t kk=Yg r):Sound P o ρ bl kk r:=by
 unfold qE at hk;split at hk
 ·cases hk
 split at hk
 ·cases hk
 split at hk
 ·rename_i tk tv Tt oB
  split at hk
  ·rename_i nL FF hn
   refine⟨_,_,_,hk,λAb hb=>?_⟩;have Dq:Ab nx=Yf:=(hb nx (by simp)).trans hn;intro ok0 base pl w a hr hx K Q hK
   have h1:(Y3 a.eval o).run P w=.ok (.value (.map (Yg w.heap.size))) (w.alloc (.map #[] 0)):=by simp[Y3,ho,Instr.makeMap]
   have hg:w.grownBy (w.alloc (.map #[] 0)) Yf:=Ya9 w _ Yf;have hp:∀g,(Pl.cells w.heap.size).has g->w.heap.size<=g:=λg Ga=>M4 Ga;have hs:Step pl Ab w (upd pl nx (.cells w.heap.size)) (upd Ab nx (.fmap t [])) (w.alloc (.map #[] 0)):=Step.new hr Dq hg hp;refine HR h1 (hK _ (upd pl nx (.cells w.heap.size)) _ ?_ hs ?_)
   ·exact RelB.new hr Dq hg hp ⟨#[],0,YaW w _,rfl⟩
   ·exact⟨w.heap.size,by simp[At,upd],rfl⟩
  ·rename_i k v nL FF hn
   cases hq:FT tk k with
   |false=>rw[hq]at hk;cases hk
   |true=>
    simp only[hq,As]at hk;refine⟨_,_,_,hk,λAb hb=>?_⟩;have Dq:Ab nx=Yf:=(hb nx (by simp)).trans hn;intro ok0 base pl w a hr hx K Q hK
    have h1:(Y3 a.eval o).run P w=.ok (.value (.map (Yg w.heap.size))) (w.alloc (.map #[] 0)):=by simp[Y3,ho,Instr.makeMap]
    have hg:w.grownBy (w.alloc (.map #[] 0)) Yf:=Ya9 w _ Yf;have hp:∀g,(Pl.cells w.heap.size).has g->w.heap.size<=g:=λg Ga=>M4 Ga;have hs:Step pl Ab w (upd pl nx (.cells w.heap.size)) (upd Ab nx (.map t k v tv.agg [])) (w.alloc (.map #[] 0)):=Step.new hr Dq hg hp;refine HR h1 (hK _ (upd pl nx (.cells w.heap.size)) _ ?_ hs ?_)
    ·exact RelB.new hr Dq hg hp ⟨#[],0,YaW w _,rfl⟩
    ·exact⟨w.heap.size,by simp[At,upd],rfl⟩
  ·cases hk
 ·cases hk
theorem Ag1{E:Env}{v:Ty}{vg:Ys}{y:v.den}{us:Ye Yq}{val:Yq}(hd:DRep E.w E.ok v y us)(hv:if vg then val=.agg us.toArray else us=[val]):VRep E (V.mk vg (cells v y)) val:=
 VRep.mk ⟨us,Iq hd,hv⟩
theorem Auw{T:Yr->Ya TI}(hT:TOk P T){kk:K β}{t:Yr}{x ix:Y2}{commaOk:Ys}(ho:o.op=.lookup t x ix commaOk)(hk:qH T bl t (ρ x) (ρ ix) commaOk kk=Yg r):Sound P o ρ bl kk r:=by
 unfold qH at hk;split at hk
 ·cases hk
 rename_i ti ht;obtain⟨i,d,z,f⟩:=hT.facts ht;split at hk
 ·cases hk
 rename_i kt vt QH;have hd:=sF f QH;subst hd;split at hk
 ·rename_i tk tv Tt oB
  obtain⟨ik,dk,zk,fk⟩:=hT.facts Tt;obtain⟨iv,dv,zv,fv⟩:=hT.facts oB;split at hk
  ·rename_i b hx
   split at hk
   ·rename_i t0 k v vg l hb
    cases hq:(FT tk k&&(vg||Yo v.size 1)&&(vg==tv.agg))with
    |false=>rw[hq]at hk;cases hk
    |true=>
     simp only[hq,As]at hk;obtain⟨hq,o0⟩:=andB hq;obtain⟨AdS,JM⟩:=andB hq;have o0:vg=tv.agg:=by simpa using o0
     split at hk
     ·rename_i key zz EW Aea
      refine Sound.pure hk λAb Ai ok0 base pl w a hr Ae=>?_;have AE:Ab b=Yg (.map t0 k v vg l):=(Ai b (by simp)).trans hb;have h1:=Ae x (by simp[ho,Yt]);have h2:=Ae ix (by simp[ho,Yt]);rw[hx]at h1;obtain⟨g,hg,B6⟩:=h1;have Adz:=Ag0 EW h2;obtain⟨p,hp,hB⟩:=hr.blks b _ AE;have:p=.cells g:=by have h3:pl b=Yg (.cells g):=hg;rw[hp]at h3;injection h3
      subst this;obtain⟨es,CS,hh,hm⟩:=hB;have hh:w.heap[g]?=Yg (.map es CS):=hh;obtain⟨Fd,HF⟩:=bV fk AdS (w:=w) (ok:=(At ok0 base pl Ab w).ok) Adz;have Ae9:(zeroValue vt).run P w=.ok zv w:=by simp[zeroValue,typeInfo,fv.info,fv.zero]
      rcases sE HF 0 hm with⟨g1,g2,g3,g4⟩|⟨j,e,y,us,g1,g2,g3,g4,g5,g6,g7,g8⟩
      ·
       have hz:∃us,DRep (At ok0 base pl Ab w).w (At ok0 base pl Ab w).ok v zz us/\if vg then zv=.agg us.toArray else us=[zv]:=by
        have AMu:CReps (At ok0 base pl Ab w) tv.zero zv.cells.toList:=by rw[fv.zeroC];exact NH fv.one
        have XG:=Py hr.blksOk (Rows.none _ _) AMu Aea;refine⟨_,XG,?_⟩;rw[o0,fv.agg];have:=bQ fv w;cases EV:J3 P vt with
        |true=>simp only[D6];have Jt:=fv.zagg.trans EV;cases zv<;>simp[Up]at Jt;rfl
        |false=>
         simp only[IQ,CN];rw[o0,fv.agg,EV]at JM;have Cp:=AB (by simpa using JM:Yo v.size 1=Yp);have hl:=DRep.length XG;rw[Cp]at hl;cases zv with
         |agg cs=>exact Y7 (fv.zagg.trans EV) (by simp[Up])
         |_=>rfl
       obtain⟨us,Jt,oG⟩:=hz
       have AJ:(Y3 a.eval o).run P w=.ok (.value (if commaOk then .tuple #[zv,.bool Yi]else zv)) w:=by simp[Y3,ho,Instr.lookup,Yu f.under,B6,YR hh,HF.check,HF.run _ _ g1,Ae9,YO]
       refine⟨_,AJ,?_⟩;rw[g2,g3];cases commaOk with
       |true=>exact⟨[zv,.bool Yi],rfl,zv,[.bool Yi],rfl,⟨us,Iq Jt,oG⟩,.bool Yi,[],rfl,⟨[.bool Yi],⟨_,_,rfl,rfl,rfl⟩,by simp⟩,rfl⟩
       |false=>exact Ag1 Jt oG
      ·have AJ:(Y3 a.eval o).run P w=.ok (.value (if commaOk then .tuple #[e.val,.bool Yp]else e.val)) w:=by simp[Y3,ho,Instr.lookup,Yu f.under,B6,YR hh,HF.check,HF.run _ _ g1,YO]
       refine⟨_,AJ,?_⟩;rw[g4,g5];cases commaOk with
       |true=>exact⟨[e.val,.bool Yp],rfl,e.val,[.bool Yp],rfl,⟨us,Iq g6,g7⟩,.bool Yp,[],rfl,⟨[.bool Yp],⟨_,_,rfl,rfl,rfl⟩,by simp⟩,rfl⟩
       |false=>exact Ag1 g6 g7
     ·cases hk
   ·cases hk
  ·cases hk
 ·cases hk
theorem U5{w:Yx}{g:Yn}{o:Obj}:w.grownBy {w with heap:=w.heap.setIfInBounds g o} (Yg g):=
 ⟨rfl,rfl,rfl,by simp,λk hk AO=>by have:k≠g:=λh=>AO (by rw[h]);simp[Ne.symm this]⟩
theorem Aux{T:Yr->Ya TI}(hT:TOk P T){kk:K β}{t:Yr}{x ix y:Y2}(ho:o.op=.mapUpdate t x ix y)(hk:qI T bl t (ρ x) (ρ ix) (ρ y) kk=Yg r):Sound P o ρ bl kk r:=by
 unfold qI at hk;split at hk
 ·cases hk
 rename_i ti ht;obtain⟨i,d,z,f⟩:=hT.facts ht;split at hk
 ·cases hk
 rename_i kt vt QH;have hd:=sF f QH;subst hd;split at hk
 ·cases hk
 rename_i tk Tt;obtain⟨ik,dk,zk,fk⟩:=hT.facts Tt;split at hk
 ·rename_i b cs hx De
  split at hk
  ·rename_i t0 k v vg l hb
   cases hq:(FT tk k&&Yd (Ua (ρ y)=Yg vg))with
   |false=>rw[hq]at hk;cases hk
   |true=>
    simp only[hq,As]at hk;obtain⟨AdS,JM⟩:=andB hq;have JM:=Bd JM;split at hk
    ·rename_i key zz EW Aea
     refine⟨_,_,_,hk,λAb Ai=>?_⟩;intro ok0 base pl w a hr Ae K Q hK;have AE:Ab b=Yg (.map t0 k v vg l):=(Ai b (by simp)).trans hb;have h1:=Ae x (by simp[ho,Yt]);have h2:=Ae ix (by simp[ho,Yt]);have h3:=Ae y (by simp[ho,Yt]);rw[hx]at h1;obtain⟨g,hg,B6⟩:=h1;have Adz:=Ag0 EW h2;obtain⟨p,hp,hB⟩:=hr.blks b _ AE;have Dh:pl b=Yg (.cells g):=hg;have:p=.cells g:=by rw[hp]at Dh;injection Dh
     subst this;obtain⟨es,CS,hh,hm⟩:=hB;have hh:w.heap[g]?=Yg (.map es CS):=hh;obtain⟨Fd,HF⟩:=bV fk AdS (w:=w) (ok:=(At ok0 base pl Ab w).ok) Adz;have AMs:=VRep.cells_of De h3;have XG:=Py hr.blksOk (Rows.none _ _) AMs Aea
     have Ar8:if vg then a.eval y=.agg (a.eval y).cells.toList.toArray else(a.eval y).cells.toList=[a.eval y]:=by
      cases JO:ρ y with
      |c q=>
       rw[JO]at JM h3;simp only[Ua,Af]at JM;subst JM;have h4:=CRep.oneCell (show CRep _ q (a.eval y)from h3);simp only[IQ,CN];cases hv:a.eval y with
       |agg cs=>rw[hv]at h4;simp[Value.oneCell']at h4
       |_=>rfl
      |agg q=>rw[JO]at JM h3;simp only[Ua,Af]at JM;subst JM;obtain⟨vs,_,hv⟩:=h3;simp only[D6]at hv;rw[hv];rfl
      |_=>rw[JO]at JM;simp[Ua]at JM
     have Fb:∀(l':Ye (k.den×v.den))(o':Obj),Step pl Ab w (upd pl b (.cells g)) (upd Ab b (.map t0 k v vg l')) {w with heap:=w.heap.setIfInBounds g o'}:=
      λl' o'=>Step.wroteB hr AE rfl Dh U5
     rcases sE HF 0 hm with⟨g1,g2,g3,g4⟩|⟨j,e,y',us,g1,g2,g3,g4,g5,g6,g7,g8⟩
     ·have AJ:(Y3 a.eval o).run P w=.ok .skip {w with heap:=w.heap.setIfInBounds g (.map (es.push {key:=a.eval ix,val:=a.eval y,born:=CS}) (CS+1))}:=by simp[Y3,ho,YaP,Yu f.under,B6,YR hh,HF.check,HF.run _ _ g1,Ya2 _ hh,YO]
      refine Pv AJ (hK undef (upd pl b (.cells g)) _ (RelB.wroteB hr AE rfl Dh U5 ?_) (Fb _ _) trivial);refine⟨_,_,(heap_set hh).1,?_⟩;rw[Array.toList_push];have Ik:=(Fb (mPut k l key zz) (.map (es.push {key:=a.eval ix,val:=a.eval y,born:=CS}) (CS+1))).ext (ok0:=ok0) (base:=base);exact(g4 zz _ (a.eval y) CS XG Ar8).mono (λ_ _ h=>h.mono Ik.heap) (λ_ _ h=>h.mono Ik.heap)
     ·have hj:es[j]?=Yg e:=by simpa using g2
      have AJ:(Y3 a.eval o).run P w=.ok .skip {w with heap:=w.heap.setIfInBounds g (.map (es.modify j λe=>{e with key:=a.eval ix,val:=a.eval y}) CS)}:=by simp[Y3,ho,YaP,Yu f.under,B6,YR hh,HF.check,HF.run _ _ g1,hj,g3,HF.stays,Ya2 _ hh,YO]
      refine Pv AJ (hK undef (upd pl b (.cells g)) _ (RelB.wroteB hr AE rfl Dh U5 ?_) (Fb _ _) trivial);refine⟨_,_,(heap_set hh).1,?_⟩;rw[Array.toList_modify];have Ik:=(Fb (mPut k l key zz) (.map (es.modify j λe=>{e with key:=a.eval ix,val:=a.eval y}) CS)).ext (ok0:=ok0) (base:=base);exact(g8 zz _ (a.eval y) _ XG Ar8 (λ_=>⟨rfl,rfl⟩)).mono (λ_ _ h=>h.mono Ik.heap) (λ_ _ h=>h.mono Ik.heap)
    ·cases hk
  ·cases hk
 ·cases hk
theorem Ag2{T:Yr->Ya TI}(hT:TOk P T){t:Yr}(h:fKey T t=Yp):∃ti i z kt vt tk ik dk zk,TFacts P t ti i (.map kt vt) z/\TFacts P kt tk ik dk zk/\FT tk .str=Yp:=by
 unfold fKey at h;split at h
 ·rename_i ti ht
  obtain⟨i,d,z,f⟩:=hT.facts ht;split at h
  ·rename_i kt vt QH
   have hd:=sF f QH;subst hd;split at h
   ·rename_i tk Tt
    obtain⟨ik,dk,zk,fk⟩:=hT.facts Tt;exact⟨ti,i,z,kt,vt,tk,ik,dk,zk,f,fk,h⟩
   ·cases h
  ·cases h
 ·cases h
theorem Ag3{E:Env}{kt:Yr}{w:Yx}{ok:Yn->Prop}{s:Ye Yj}{u:Yq}{Fd:Ye YS->Yn->Ya (Yn×Yq)->Prop}(H:Finds P w ok kt .str s u Fd):∀{l:Ye (Ye Yj×(YA×Yn))}{es:Ye YS}(i:Yn),FRep E l es->fHas l s=Yi->Fd es i Yf
 |[],es,i,h,_=>by have h:es=[]:=h;subst h;exact H.nil i
 |x::l,es,i,⟨e,r,g,h1,h2,_,_,h5⟩,hn=>by
  subst h1;simp only[fHas,OZ]at hn;rcases H.cons x.1 e r i ⟨[e.key],by rw[h2];rfl,rfl⟩with⟨FL,_,_⟩|⟨_,Tn⟩
  ·have FL:Yd (x.1=s)=Yp:=FL
   rw[hn.1]at FL;cases FL
  ·exact Tn _ (Ag3 H (i+1) h5 hn.2)
theorem Ag4{E:Env}{kt:Yr}{w:Yx}{ok:Yn->Prop}{s:Ye Yj}{u:Yq}{Fd:Ye YS->Yn->Ya (Yn×Yq)->Prop}(H:Finds P w ok kt .str s u Fd){kk:YA×Yn->Ya β}{r:β}:∀{l:Ye (Ye Yj×(YA×Yn))}{es:Ye YS}(i:Yn),FRep E l es->Ps kk l s=Yg r->∃y j g,kk y=Yg r/\E.pl y.2=Yg (.cells g)/\Fd es i (Yg (i+j,.func (.func y.1) #[.pointer (Yg ⟨g,0,Yf⟩)] #[]))
 |[],es,i,h,hf=>by cases hf
 |x::l,es,i,⟨e,rest,g,h1,h2,h3,h4,h5⟩,hf=>by
  subst h1;simp only[Ps]at hf;rcases H.cons x.1 e rest i ⟨[e.key],by rw[h2];rfl,rfl⟩with⟨FL,_,nJ⟩|⟨FL,Tn⟩
  ·have FL:Yd (x.1=s)=Yp:=FL
   rw[FL,As]at hf;exact⟨x.2,0,g,hf,h3,by rw[h4]at nJ;exact nJ⟩
  ·have FL:Yd (x.1=s)=Yi:=FL
   rw[FL,C7]at hf;obtain⟨y,j,g',q1,q2,q3⟩:=Ag4 H (i+1) h5 hf;exact⟨y,j+1,g',q1,q2,by have:=Tn _ q3;rwa [show i+(j+1)=i+1+j by omega]⟩
theorem FRep.app{E:Env}{y:Ye Yj×(YA×Yn)}{e:YS}{g:Yn}(h1:e.key=.string ⟨y.1.toArray⟩)(h2:E.pl y.2.2=Yg (.cells g))(h3:e.val=.func (.func y.2.1) #[.pointer (Yg ⟨g,0,Yf⟩)] #[]):∀{l:Ye (Ye Yj×(YA×Yn))}{es:Ye YS},FRep E l es->FRep E (l++[y]) (es++[e])
 |[],es,h=>by have h:es=[]:=h;subst h;exact⟨e,[],g,rfl,h1,h2,h3,rfl⟩
 |_::_,_,⟨e',r,g',q1,q2,q3,q4,q5⟩=>⟨e',r++[e],g',by rw[q1];rfl,q2,q3,q4,FRep.app h1 h2 h3 q5⟩
theorem Auy{T:Yr->Ya TI}(hT:TOk P T){kk:K β}{t:Yr}{x ix:Y2}{commaOk:Ys}(ho:o.op=.lookup t x ix commaOk)(hk:qF T bl t (ρ x) (ρ ix) commaOk kk=Yg r):Sound P o ρ bl kk r:=by
 unfold qF at hk;cases EW:fKey T t with
 |false=>rw[EW]at hk;cases hk
 |true=>
  rw[EW,As]at hk;obtain⟨ti,i,z,kt,vt,tk,ik,dk,zk,f,fk,hq⟩:=Ag2 hT EW;split at hk
  ·rename_i b s hx XU
   split at hk
   ·rename_i t0 l hb
    have key:∀{l0:Ye (Ye Yj×(YA×Yn))},Ps (λy=>kk (.c (.bfn y.1 y.2)) [b] []) l0 s=Yg r->∃y,kk (.c (.bfn y.1 y.2)) [b] []=Yg r/\∀{β':Type}(g:YA×Yn->Ya β'),Ps g l0 s=g y:=by
     intro l0
     induction l0 with
     |nil=>intro h;cases h
     |cons x l0 ih=>
      intro h;simp only[Ps]at h⊢;cases hd:Yd (x.1=s)with
      |true=>rw[hd]at h;exact⟨x.2,h,λg=>rfl⟩
      |false=>rw[hd]at h;obtain⟨y,q1,q2⟩:=ih h;exact⟨y,q1,λg=>by simp only[C7];exact q2 g⟩
    obtain⟨y,hk,Ng⟩:=key hk;refine Sound.pure hk λAb Ai ok0 base pl w a hr Ae=>?_;have AE:Ab b=Yg (.fmap t0 l):=(Ai b (by simp)).trans hb;have h1:=Ae x (by simp[ho,Yt]);have h2:=Ae ix (by simp[ho,Yt]);rw[hx]at h1;rw[XU]at h2;obtain⟨g,hg,B6⟩:=h1;have h2:a.eval ix=.string ⟨s.toArray⟩:=h2;obtain⟨p,hp,hB⟩:=hr.blks b _ AE;have:p=.cells g:=by have h3:pl b=Yg (.cells g):=hg;rw[hp]at h3;injection h3
    subst this;obtain⟨es,CS,hh,hm⟩:=hB;have hh:w.heap[g]?=Yg (.map es CS):=hh;obtain⟨Fd,HF⟩:=bV fk hq (w:=w) (ok:=(At ok0 base pl Ab w).ok) (key:=s) (u:=a.eval ix) ⟨[_],by rw[h2];rfl,rfl⟩;obtain⟨y',j,g',q1,q2,q3⟩:=Ag4 HF (E:=At ok0 base pl Ab w) (kk:=Yg) 0 hm (Ng Yg);injection q1 with q1;subst q1
    have AJ:(Y3 a.eval o).run P w=.ok (.value (.func (.func y'.1) #[.pointer (Yg ⟨g',0,Yf⟩)] #[])) w:=by simp[Y3,ho,Instr.lookup,Yu f.under,B6,YR hh,HF.check,HF.run _ _ q3,YO]
    exact⟨_,AJ,g',q2,rfl⟩
   ·cases hk
  ·cases hk
theorem Auz{T:Yr->Ya TI}(hT:TOk P T){kk:K β}{t:Yr}{x ix y:Y2}(ho:o.op=.insert t x ix y)(hk:qG T bl t (ρ x) (ρ ix) (ρ y) kk=Yg r):Sound P o ρ bl kk r:=by
 unfold qG at hk;cases EW:fKey T t with
 |false=>rw[EW]at hk;cases hk
 |true=>
  rw[EW,As]at hk;obtain⟨ti,i,z,kt,vt,tk,ik,dk,zk,f,fk,hq⟩:=Ag2 hT EW;split at hk
  ·rename_i b s fn rb hx XU hy
   split at hk
   ·rename_i t0 l hb
    obtain⟨hn,hk⟩:=DN hk;have hn:fHas l s=Yi:=by simpa using hn
    refine⟨_,_,_,hk,λAb Ai=>?_⟩;intro ok0 base pl w a hr Ae K Q hK;have AE:Ab b=Yg (.fmap t0 l):=(Ai b (by simp)).trans hb;have h1:=Ae x (by simp[ho,Yt]);have h2:=Ae ix (by simp[ho,Yt]);have h3:=Ae y (by simp[ho,Yt]);rw[hx]at h1;rw[XU]at h2;rw[hy]at h3;obtain⟨g,hg,B6⟩:=h1;have h2:a.eval ix=.string ⟨s.toArray⟩:=h2;obtain⟨gr,Do,JO⟩:=h3;obtain⟨p,hp,hB⟩:=hr.blks b _ AE;have Dh:pl b=Yg (.cells g):=hg;have:p=.cells g:=by rw[hp]at Dh;injection Dh
    subst this;obtain⟨es,CS,hh,hm⟩:=hB;have hh:w.heap[g]?=Yg (.map es CS):=hh;obtain⟨Fd,HF⟩:=bV fk hq (w:=w) (ok:=(At ok0 base pl Ab w).ok) (key:=s) (u:=a.eval ix) ⟨[_],by rw[h2];rfl,rfl⟩;have g1:=Ag3 HF 0 hm hn
    have AJ:(Y3 a.eval o).run P w=.ok .skip {w with heap:=w.heap.setIfInBounds g (.map (es.push {key:=a.eval ix,val:=a.eval y,born:=CS}) (CS+1))}:=by simp[Y3,ho,YaP,Yu f.under,B6,YR hh,HF.check,HF.run _ _ g1,Ya2 _ hh,YO]
    have Fb:Step pl Ab w (upd pl b (.cells g)) (upd Ab b (.fmap t0 (l++[(s,(fn,rb))]))) {w with heap:=w.heap.setIfInBounds g (.map (es.push {key:=a.eval ix,val:=a.eval y,born:=CS}) (CS+1))}:=Step.wroteB hr AE rfl Dh U5;refine Pv AJ (hK undef (upd pl b (.cells g)) _ (RelB.wroteB hr AE rfl Dh U5 ?_) Fb trivial);refine⟨_,_,(heap_set hh).1,?_⟩;rw[Array.toList_push];have Ik:=Fb.ext (ok0:=ok0) (base:=base);exact(FRep.app (E:=At ok0 base pl Ab w) (y:=(s,(fn,rb))) h2 Do JO hm).mono Ik
   ·cases hk
  ·cases hk
end
end Go.Lift
namespace Go.Lift
noncomputable section
open Go.RowKit
theorem U6:∀(l:Ye (Yn×Blk))(bl:Yn->Ya Blk),Rw bl l=updL bl l
 |[],_=>rfl
 |(j,x)::r,bl=>by
  funext i;simp only[Rw,updL];rw[U6 r];congr 1;funext k;simp only[upd];by_cases h:k=j
  ·subst h;simp
  ·simp[IT h,h]
theorem sG{bl:Yn->Ya Blk}:∀{rds:Ye Yn}{p:Yn×Blk},p∈Dl bl rds->p.2=.dead/\p.1∈rds/\∃B,bl p.1=Yg B/\B.lend=Yp
 |[],p,h=>by simp[Dl]at h
 |b::r,p,h=>by
  have next:p∈Dl bl r->p.2=.dead/\p.1∈b::r/\∃B,bl p.1=Yg B/\B.lend=Yp:=λh=>by obtain⟨h1,h2,h3⟩:=sG h;exact⟨h1,DX _ h2,h3⟩
  simp only[Dl]at h;split at h
  ·rename_i hb
   rcases Bl.1 h with rfl|h
   ·exact⟨rfl,by simp,_,hb,rfl⟩
   ·exact next h
  ·rename_i hb
   rcases Bl.1 h with rfl|h
   ·exact⟨rfl,by simp,_,hb,rfl⟩
   ·exact next h
  ·exact next h
theorem Ag5{bl:Yn->Ya Blk}:∀{rds:Ye Yn}{b:Yn}{B:Blk},b∈rds->bl b=Yg B->B.lend=Yp->(b,Blk.dead)∈Dl bl rds
 |[],b,_,h,_,_=>by simp at h
 |c::r,b,B,h,hb,hl=>by
  simp only[Dl];rcases Bl.1 h with rfl|h
  ·rw[hb]
   cases B<;>first|exact Ha|cases hl
  ·have:=Ag5 (rds:=r) h hb hl
   split
   ·exact DX _ this
   ·exact DX _ this
   ·exact this
theorem Hz:∀{wr:Ye (Yn×Blk)}{bl:Yn->Ya Blk}{b:Yn},b∉wids wr->updL bl wr b=bl b
 |[],_,_,_=>rfl
 |(i,x)::r,bl,b,h=>by simp only[wids,Bl,not_or]at h;rw[updL,Hz h.2];simp[upd,h.1]
theorem R9:∀{wr:Ye (Yn×Blk)}{bl bl':Yn->Ya Blk}{b:Yn},b∈wids wr->updL bl wr b=updL bl' wr b
 |[],_,_,_,h=>by simp[wids]at h
 |(i,x)::r,bl,bl',b,h=>by
  simp only[updL];by_cases hr:b∈wids r
  ·exact R9 hr
  ·rw[Hz hr,Hz hr]
   have CQ:b=i:=by simp only[wids,Bl]at h;exact h.resolve_right hr
   simp[upd,CQ]
section
variable{P:Yw}{o:Oper}{ρ:Y2->V}{bl:Yn->Ya Blk}{β:Type}{r:β}
theorem freeze{ok0:OK0 P}{base:Yn}{pl:Yn->Ya Pl}{Ab:Yn->Ya Blk}{w:Yx}(hr:RelB ok0 base pl Ab w)(rds:Ye Yn)(EV:∀b∈rds,Ab b=bl b):RelB ok0 base pl (updL Ab (Dl bl rds)) w/\Step pl Ab w pl (updL Ab (Dl bl rds)) w/\∀(v:V)(u:Yq),(∀b∈CI [v],b∈rds)->VRep (At ok0 base pl Ab w) v u->VRep (At ok0 base pl (updL Ab (Dl bl rds)) w) (frzV bl v) u:=by
 have QE:∀p∈Dl bl rds,p.2=Blk.dead/\p.1∈rds/\∃B,Ab p.1=Yg B/\B.lend=Yp:=λp hp=>by obtain⟨h1,h2,B,h3,h4⟩:=sG hp;exact⟨h1,h2,B,by rw[EV _ h2];exact h3,h4⟩
 generalize nM:Dl bl rds=kills at*
 have Q2:∀i,updL Ab kills i=Ab i\/(updL Ab kills i=Yg .dead/\∃B,Ab i=Yg B/\B.lend=Yp):=λi=>by
  rcases U2 (l:=kills) (f:=Ab) i (λp hp=>(QE p hp).1)with⟨h1,_⟩|⟨h1,p,hp,h2⟩
  ·exact .inl h1
  ·have:=QE p hp
   rw[h2]at this;exact .inr ⟨h1,this.2.2⟩
 have hblkL:∀i B,updL Ab kills i=Yg B->B.live=Yp->Ab i=Yg B:=λi B hB hl=>by
  rcases Q2 i with h|⟨h,_⟩
  ·rw[<-h];exact hB
  ·rw[h]at hB
   injection hB with hB;subst hB;cases hl
 have Aq:∀g,Own pl (updL Ab kills) g->Own pl Ab g:=λg ⟨i,B,p,hB,hl,hp,hg⟩=>⟨i,B,p,hblkL i B hB hl,hl,hp,hg⟩
 have hs:Step pl Ab w pl (updL Ab kills) w:=⟨rfl,rfl,rfl,Av _,λg _ ho=>⟨rfl,λh=>ho (Aq g h)⟩,λ_ _ h=>h,
  λb sv Ac hb=>⟨sv,Ac,hb,KeepR.of_live (λC h hC=>hblkL b _ h (by cases C<;>first|rfl|exact Y7 rfl hC)) _ _⟩⟩
 refine⟨⟨hr.baseLe,λi B hB=>?_,λi j B C p q g Dv hB hC hlB hlC hp hq hg=>?_,λi hi=>?_,hr.glob.mono Aq⟩,hs,λv u OP hv=>?_⟩
 ·cases hl:B.live with
  |false=>
   have Mi:∃B0,Ab i=Yg B0:=by
    rcases Q2 i with h|⟨_,_,h,_⟩
    ·exact⟨B,by rw[<-h];exact hB⟩
    ·exact⟨_,h⟩
   obtain⟨B0,hB0⟩:=Mi;obtain⟨p,hp,_⟩:=hr.blks i B0 hB0;refine⟨p,hp,?_⟩;cases B<;>first|exact trivial|simp[Blk.live]at hl
  |true=>obtain⟨p,hp,hR⟩:=hr.blks i B (hblkL i B hB hl);exact⟨p,hp,BRep.mono hs.ext hR λ_ _=>rfl⟩
 ·exact hr.sep i j B C p q g Dv (hblkL i B hB hlB) (hblkL j C hC hlC) hlB hlC hp hq hg
 ·rcases Q2 i with h|⟨h,_⟩
  ·exact hr.fresh i (by rw[<-h];exact hi)
  ·rw[h]at hi;cases hi
 ·
  generalize hE:At ok0 base pl Ab w=E at hv;generalize hE':At ok0 base pl (updL Ab kills) w=E';have hx:Ext E E':=by rw[<-hE,<-hE'];exact hs.ext
  have Ni:Ez E:=by rw[<-hE];exact hr.blksOk
  have hEbl:E.bl=Ab:=by rw[<-hE];rfl
  have hEpl:E.pl=pl:=by rw[<-hE];rfl
  have hEw:E.w=w:=by rw[<-hE];rfl
  have hEw':E'.w=w:=by rw[<-hE'];rfl
  have hEok:E.ok=λg=>(ok0 g\/(base<=g/\¬ok0.no g))/\¬Own pl Ab g:=by rw[<-hE];rfl
  have hEok':E'.ok=λg=>(ok0 g\/(base<=g/\¬ok0.no g))/\¬Own pl (updL Ab kills) g:=by rw[<-hE'];rfl
  have Ds:∀g,E.ok g->E'.ok g:=λg hg=>by rw[hEok]at hg;rw[hEok'];exact⟨hg.1,λh=>hg.2 (Aq g h)⟩
  have Jh:∀(b:Yn)(B:Blk)(p:Pl),b∈rds->bl b=Yg B->B.lend=Yp->pl b=Yg p->∀g,p.has g->E'.ok g:=by
   intro b B p CV hb BF h2 g hg;have Ai:Ab b=Yg B:=by rw[EV b CV];exact hb
   rw[hEok'];refine⟨.inr (s5 hr Ai BF h2 hg),λho=>?_⟩;obtain⟨j,C,q,hC,hl,hq,B7⟩:=ho;have hC2:=hblkL j C hC hl;by_cases Jk:j=b
   ·subst Jk
    have D9:(j,Blk.dead)∈kills:=by rw[<-nM];exact Ag5 CV hb BF
    rcases U2 (l:=kills) (f:=Ab) j (λp hp=>(QE p hp).1)with⟨_,q⟩|⟨q,_⟩
    ·exact q _ D9 rfl
    ·rw[q]at hC
     injection hC with hC;subst hC;cases hl
   ·exact hr.sep j b C _ q p g Jk hC2 Ai hl (Blk.lend_live BF) hq h2 B7 hg
  have KE:∀(c:C)(u:Yq),(∀b∈CE [c],b∈rds)->CRep E c u->CRep E' (frzC bl c) u:=by
   intro c u Te hc;cases c with
   |sub b ver i j=>
    simp only[frzC];split
    ·rename_i t e ver' l hb
     cases AY:Yo ver ver' with
     |false=>exact CRep.mono hx hc
     |true=>
      simp only[As];have Zt:=AB AY;subst Zt;have CV:b∈rds:=Te b (by simp[CE]);have Ai:Ab b=Yg (.row t e ver l):=by rw[EV b CV];exact hb
      have Gb:IU Ab b ver e=Yg l:=by simp[IU,Ai]
      obtain⟨t',sv,xs,_,h1,h2,h4,h5⟩:=bK (blp:=Ab) Ni (λt e ver l h=>by rw[hEbl];exact h) Gb;obtain⟨_,sv2,L0,Gn,Bg⟩:=hc;rw[h2]at Gn;injection Gn with Gn;injection Gn with Gn _;subst Gn;obtain⟨A,c,ys,q1,q2,q3,q4,q5⟩:=r8 ((Bg _ _ _ _ h1).2 rfl) h4 h5;show DRep E'.w E'.ok (.slice e) ((l.take j).drop i) [u];rw[hEw',<-hEw];simp only[DRep];refine⟨A,c,ys,by rw[q1],q2,q3,q4.mono λx u hu=>hu.mono (λg h1 _=>⟨Ds g h1,rfl⟩),λk v hk=>?_⟩;obtain⟨ad,r1,r2,r3⟩:=q5 k v hk;exact⟨ad,r1,Jh b _ (.row sv []) CV hb rfl (by rw[<-hEpl];exact h2) _ (Or.inl r2),r3⟩
    ·exact CRep.mono hx hc
   |row b ver=>
    simp only[frzC];split
    ·rename_i t e ver' l hb
     cases AY:Yo ver ver' with
     |false=>exact CRep.mono hx hc
     |true=>
      simp only[As];have Zt:=AB AY;subst Zt;have CV:b∈rds:=Te b (by simp[CE]);have Ai:Ab b=Yg (.row t e ver l):=by rw[EV b CV];exact hb
      have Gb:IU Ab b ver e=Yg l:=by simp[IU,Ai]
      obtain⟨t',sv,xs,h1,h2,h3,h4,h5⟩:=r7 (blp:=Ab) Ni (λt e ver l h=>by rw[hEbl];exact h) Gb hc;subst h3;have:=Afe (okp:=E'.ok) Ds (λg hg=>Jh b _ (.row u []) CV hb rfl (by rw[<-hEpl];exact h2) g (Or.inl hg)) h4 h5;show DRep E'.w E'.ok (.slice e) l [u];rw[hEw',<-hEw];exact this
    ·exact CRep.mono hx hc
   |trow b ver p=>
    cases p with
    |cons _ _=>exact CRep.mono hx hc
    |nil=>
     simp only[frzC];split
     ·rename_i t e ver' Ah l hb
      cases AY:Yo ver ver' with
      |false=>exact CRep.mono hx hc
      |true=>
       simp only[As];have Zt:=AB AY;subst Zt;have CV:b∈rds:=Te b (by simp[CE]);have Ai:Ab b=Yg (.tree t e ver Ah Yf l):=by rw[EV b CV];exact hb
       have:=Aff (blp:=Ab) (okp:=E'.ok) (e:=e.ty) (l:=l) Ds Ni (b:=b) (ver:=ver) (λt e ver Ah h l h'=>⟨by rw[hEbl];exact h',λsv Ac g AA hg=>Jh b _ _ CV (by rw[<-EV b CV];exact h') rfl (by rw[<-hEpl];exact AA) g hg⟩) (by simp[TW,Ai]) hc;show DRep E'.w E'.ok (.slice e.ty) l [u];rw[hEw',<-hEw];exact this
     ·exact CRep.mono hx hc
   |_=>exact CRep.mono hx hc
  have Ng:∀(cs:Ye C)(us:Ye Yq),(∀b∈CE cs,b∈rds)->CReps E cs us->CReps E' (cs.map (frzC bl)) us:=by
   intro cs
   induction cs with
   |nil=>intro us _ h;exact h
   |cons c cs ih=>rintro us hc ⟨u,CM,e,h1,h2⟩;refine⟨u,CM,e,KE c u (λb hb=>hc b ?_) h1,ih CM (λb hb=>hc b (bJ hb)) h2⟩;have:CE (c::cs)=CE [c]++CE cs:=Ur [c] cs;rw[this];exact D5 _ hb
  cases v with
  |c x=>exact KE x u (λb hb=>OP b (by simpa [CI,V.cells]using hb)) hv
  |agg cs=>obtain⟨vs,h1,h2⟩:=hv;exact⟨vs,Ng cs vs (λb hb=>OP b (by simpa [CI,V.cells]using hb)) h1,h2⟩
  |_=>exact VRep.mono hx hv
theorem AuA{rds:Ye Yn}{ρ':Y2->V}{kk:K β}(hρ:∀x∈o.op.operands,ρ' x=ρ x\/(ρ' x=frzV bl (ρ x)/\∀b∈CI [ρ x],b∈rds))(h:Sound P o ρ' (updL bl (Dl bl rds)) (λv rd wr=>kk v (rds++rd) (Dl bl rds++wr)) r):Sound P o ρ bl kk r:=by
 obtain⟨v,rd,wr,hk,h⟩:=h;refine⟨v,rds++rd,Dl bl rds++wr,hk,λAb Ai=>?_⟩;have EV:∀b∈rds,Ab b=bl b:=λb hb=>Ai b (D5 _ hb)
 have FM:∀b∈rd,updL Ab (Dl bl rds) b=updL bl (Dl bl rds) b:=λb hb=>by
  by_cases hm:b∈wids (Dl bl rds)
  ·exact R9 hm
  ·rw[Hz hm,Hz hm]
   exact Ai b (DW _ hb)
 intro ok0 base pl w a hr hx K Q hK;obtain⟨h1,h2,h3⟩:=freeze (bl:=bl) hr rds EV;refine h _ FM ok0 base pl w a h1 (λx Zu=>?_) K Q λval Ak w' k1 k2 k3=>?_
 ·rcases hρ x Zu with e|⟨e,AX⟩
  ·rw[e];exact VRep.mono h2.ext (hx x Zu)
  ·rw[e];exact h3 _ _ AX (hx x Zu)
 ·rw[NI]at hK
  exact hK val Ak w' k1 (h2.trans k2) k3
theorem sH:∀{vs:Ye V}{v:V},v∈vs->∀b∈CI [v],b∈CI vs
 |[],_,h=>by simp at h
 |u::us,v,h=>by
  intro b hb
  have Gb:∀(u:V)(us:Ye V),CI (u::us)=CI [u]++CI us:=by intro u us;simp only[CI];split<;>simp
  rw[Gb];rcases Bl.1 h with rfl|h
  ·exact D5 _ hb
  ·exact DW _ (sH h b hb)
theorem ME{xs:Ye Y2}{kk:K β}{run:(Yn->Ya Blk)->K β->Ya β}(ALQ:∀x∈o.op.operands,x∈xs)(hk:Kd bl (CI (xs.map ρ)) run kk=Yg r)(h:∀(bl':Yn->Ya Blk)(El:K β),run bl' El=Yg r->Sound P o (λx=>frzV bl (ρ x)) bl' El r):Sound P o ρ bl kk r:=by
 unfold Kd at hk;rw[U6]at hk;exact AuA (rds:=CI (xs.map ρ)) (ρ':=λx=>frzV bl (ρ x)) (λx hx=>.inr ⟨rfl,sH (Hb.2 ⟨x,ALQ x hx,rfl⟩)⟩) (h _ _ hk)
theorem sI{E E':Env}{rds:Ye Yn}(hx:Ext E E')(h:∀(c:C)(u:Yq),(∀b∈CE [c],b∈rds)->CRep E c u->CRep E' (frzC bl c) u):∀(i:Yn)(ps:Ye Yn){cs:Ye C}{vs:Ye Yq},(∀b∈FH i ps cs,b∈rds)->CReps E cs vs->CReps E' (LI bl i ps cs) vs
 |_,_,[],_,_,hc=>hc
 |i,ps,c::cs,_,hr,⟨u,us,e,h1,h2⟩=>by
  cases hm:memB i ps with
  |true=>
   have BA:∀b∈CE [c]++FH (i+1) ps cs,b∈rds:=by simpa [FH,hm]using hr
   refine⟨u,us,e,?_,sI hx h (i+1) ps (λb hb=>BA b (DW _ hb)) h2⟩;rw[hm];exact h c u (λb hb=>BA b (D5 _ hb)) h1
  |false=>
   have BA:∀b∈FH (i+1) ps cs,b∈rds:=by simpa [FH,hm]using hr
   refine⟨u,us,e,?_,sI hx h (i+1) ps BA h2⟩;rw[hm];exact CRep.mono hx h1
theorem AuB{b:Yn}{t0:Yr}{ps:Ye Yn}{cs:Ye C}{kk:K β}(hb:bl b=Yg (.cells t0 cs))(h:Sound P o ρ (updL (updL bl (Dl bl (FH 0 ps cs))) [(b,.cells t0 (LI bl 0 ps cs))]) (λv rd wr=>kk v (FH 0 ps cs++(b::rd)) (Dl bl (FH 0 ps cs)++((b,.cells t0 (LI bl 0 ps cs))::wr))) r):Sound P o ρ bl kk r:=by
 obtain⟨v,rd,wr,hk,h⟩:=h;refine⟨v,FH 0 ps cs++(b::rd),_,hk,λAb Ai=>?_⟩;have EV:∀i∈FH 0 ps cs,Ab i=bl i:=λi hi=>Ai i (D5 _ hi);have JG:Ab b=Yg (.cells t0 cs):=(Ai b (by simp)).trans hb
 have AKR:b∉wids (Dl bl (FH 0 ps cs)):=λhm=>by
  have:∀(l:Ye (Yn×Blk)),b∈wids l->∃x,(b,x)∈l:=by
   intro l
   induction l with
   |nil=>intro h;simp[wids]at h
   |cons p l ih=>
    intro h;simp only[wids,Bl]at h;rcases h with rfl|h
    ·exact⟨p.2,by simp⟩
    ·obtain⟨x,hx⟩:=ih h
     exact⟨x,DX _ hx⟩
  obtain⟨x,hx⟩:=this _ hm;obtain⟨_,_,B,h3,h4⟩:=sG hx;rw[show bl b=_ from h3]at hb;injection hb with hb;subst hb;cases h4
 have FM:∀i∈rd,updL (updL Ab (Dl bl (FH 0 ps cs))) [(b,Blk.cells t0 (LI bl 0 ps cs))] i=updL (updL bl (Dl bl (FH 0 ps cs))) [(b,Blk.cells t0 (LI bl 0 ps cs))] i:=λi hi=>by
  simp only[updL,upd];by_cases XQ:i=b
  ·simp[XQ]
  ·simp only[XQ,CN]
   by_cases hm:i∈wids (Dl bl (FH 0 ps cs))
   ·exact R9 hm
   ·rw[Hz hm,Hz hm]
    exact Ai i (by simp[hi])
 intro ok0 base pl w a hr hx K Q hK;obtain⟨h1,h2,h3⟩:=freeze (bl:=bl) hr (FH 0 ps cs) EV;obtain⟨p,hp,hB⟩:=hr.blks b _ JG;cases p with
 |row _ _=>exact hB.elim
 |cells g=>
  obtain⟨vs,hh,De⟩:=hB;have XE:=sI (bl:=bl) h2.ext (rds:=FH 0 ps cs) (λc u hc h=>h3 (.c c) u (λb hb=>hc b (by simpa [CI,V.cells]using hb)) h) 0 ps (λ_ h=>h) De;have BE:updL Ab (Dl bl (FH 0 ps cs)) b=Yg (.cells t0 cs):=(Hz AKR).trans JG;rw[NI]at hK;generalize updL Ab (Dl bl (FH 0 ps cs))=bl1 at*
  have Bp:upd pl b (.cells g)=pl:=by
   funext j;simp only[upd];split
   ·rename_i h;rw[h];exact hp.symm
   ·rfl
  have Fb:Step pl bl1 w (upd pl b (.cells g)) (upd bl1 b (.cells t0 (LI bl 0 ps cs))) w:=by
   rw[Bp];refine⟨rfl,rfl,rfl,Av _,λg' _ ho=>⟨rfl,?_⟩,λ_ _ h=>h,λb' sv Ac AE=>⟨sv,Ac,AE,?_⟩⟩
   ·rintro⟨j,C,q,hC,hl,hq,B7⟩
    by_cases hj:j=b
    ·subst hj
     exact ho ⟨j,_,q,BE,rfl,hq,B7⟩
    ·simp only[upd,hj,CN]at hC
     exact ho ⟨j,C,q,hC,hl,hq,B7⟩
   ·have AO:b'≠b:=by rintro rfl;rw[hp]at AE;cases AE
    exact KeepR.of_eq (λC hC=>by simpa [upd,AO]using hC) _ _
  have ArB:=h1.put Fb (BRep.mono Fb.ext (B:=.cells t0 (LI bl 0 ps cs)) (p:=.cells g) ⟨vs,hh,XE⟩ λ_ _=>rfl) λj C q g' hj hC hl hq B7=>⟨rfl,λDh=>h1.sep j b C _ q _ g' hj hC BE hl rfl hq hp B7 Dh⟩;rw[Bp]at ArB Fb;refine h _ FM ok0 base pl w a ArB (λx Zu=>VRep.mono (h2.trans Fb).ext (hx x Zu)) K Q λval Ak w' k1 k2 k3=>?_;exact hK val Ak w' k1 ((h2.trans Fb).trans k2) k3
theorem AuC{T:Yr->Ya TI}(hT:TOk P T){kk:K β}{t:Yr}{ps:Ye Yn}{x:Y2}(ho:o.op=.load t x)(hk:qX T bl t ps (ρ x) kk=Yg r):Sound P o ρ bl kk r:=by
 unfold qX at hk;split at hk
 ·rename_i b of hx
  split at hk
  ·rename_i t0 cs hb
   rw[U6,U6]at hk;rw[<-hx]at hk;exact AuB hb (rD hT ho hk)
  ·cases hk
 ·exact rD hT ho hk
theorem AuD{T:Yr->Ya TI}(hT:TOk P T){kk:K β}{t:Yr}{x y:Y2}(ho:o.op=.index t x y){ti:TI}(ht:T t=Yg ti){cs:Ye C}(hx:ρ x=.agg cs){k:YT}{i:Yh}(hy:ival (ρ y)=Yg (k,i))(hk:qD T ti cs i kk=Yg r):Sound P o ρ bl kk r:=by
 obtain⟨inf,d,z,f⟩:=hT.facts ht;unfold qD at hk;split at hk
 ·rename_i et n C8 CC
  have:=rG f C8 CC;subst this;split at hk
  ·rename_i te Cg
   obtain⟨i',d',z',fe⟩:=hT.facts Cg;split at hk
   ·rename_i e Tf
    split at hk
    ·rename_i l hl
     cases hs:(Yo e.size te.size&&(te.agg||Yo te.size 1))with
     |false=>rw[hs]at hk;cases hk
     |true=>
      simp only[hs,As]at hk;obtain⟨Bx,AW⟩:=andB hs;have Bx:=AB Bx;obtain⟨hc,hk⟩:=DN hk;obtain⟨CU,Cw⟩:=andB hc;have CU:=Bd CU;have Cw:=Bd Cw;refine Sound.pure hk λAb _ ok0 base pl w a hr Ae=>?_;have Ij:=Ae x (by simp[ho,Yt]);have IE:=Ae y (by simp[ho,Yt]);rw[hx]at Ij;rw[P0 hy]at IE;have QP:a.eval y=.int k i:=IE;obtain⟨vs,DA,B6⟩:=Ij;have B6:a.eval x=.agg vs.toArray:=B6;obtain⟨hd,OE⟩:=bM hr.blksOk (Rows.none _ _) DA hl;obtain⟨u,p,q,nZ,hp,O9⟩:=DList.get e.dflt hd (i:=i.toNat) (by omega);have oC:=O9.length
      have AOJ:vs.length=n*e.size:=by have:=DList.length hd;rw[this,OE]
      have CV:i<(n:Yh):=by omega
      have EV:=bQ fe w;cases Fo:te.agg with
      |true=>
       rw[Fo]at EV;refine⟨.agg u.toArray,?_,VRep.mk ⟨u,Iq O9,by simp⟩⟩
       have GQ:List.take te.size (List.drop (i.toNat*te.size) vs)=u:=by rw[nZ,<-Bx,<-hp,<-oC];simp
       simp[Y3,ho,B6,QP,Instr.index,asIntOf,Yu f.under,CU,CV,part,EV,run_sizeOf fe,GQ]
      |false=>
       rw[Fo]at EV AW;have KE:te.size=1:=AB (by simpa using AW);have Tu:u.length=1:=by omega
       match u,Tu with
       |[u0],_=>
        refine⟨u0,?_,VRep.mk ⟨[u0],Iq O9,by simp⟩⟩
        have Jg:vs[i.toNat*te.size]?=Yg u0:=by rw[nZ,<-Bx,<-hp];simp
        simp[Y3,ho,B6,QP,Instr.index,asIntOf,Yu f.under,CU,CV,part,EV,run_sizeOf fe,Jg]
    ·cases hk
   ·cases hk
  ·cases hk
 ·cases hk
end
end
end Go.Lift
namespace Go.Lift
noncomputable section
open Go.RowKit
section
variable{P:Yw}{o:Oper}{ρ:Y2->V}{bl:Yn->Ya Blk}{β:Type}{r:β}
theorem sJ{E:Env}{a:Act}:∀{xs:Ye Y2},(∀x∈xs,VRep E (ρ x) (a.eval x))->VReps E (xs.map ρ) (xs.map a.eval)
 |[],_=>rfl
 |x::xs,h=>⟨_,_,rfl,h x (by simp),sJ λy hy=>h y (by simp[hy])⟩
theorem VReps.append{E:Env}:∀{vs us ws xs},VReps E vs us->VReps E ws xs->VReps E (vs++ws) (us++xs)
 |[],us,_,_,h,k=>by have h':us=[]:=h;subst h';exact k
 |_::_,_,_,_,⟨u,CM,e,h1,h2⟩,k=>⟨u,CM++_,by rw[e];rfl,h1,VReps.append h2 k⟩
theorem Ag6{E:Env}:∀{BS gs:Ye Yn},BS.map E.pl=gs.map (λg=>Yg (.cells g))->VReps E (BS.map λb=>.c (.ptr b 0)) (gs.map λg=>.pointer (Yg ⟨g,0,Yf⟩))
 |[],gs,h=>by cases gs with|nil=>rfl|cons g gs=>simp at h
 |b::bs,gs,h=>by
  cases gs with
  |nil=>simp at h
  |cons g gs=>simp only[CH,Dx]at h;exact⟨_,_,rfl,⟨g,h.1,rfl⟩,Ag6 h.2⟩
theorem AuE{X:Ctx}(hΓ:ΓOk P X.Γ){kk:K β}{nx:Yn}{c:Call}(ho:o.op=.call c){x:Y2}(hc:c.callee=.value x){f:YA}{BS:Ye Yn}(hx:ρ x=.c (.fn f BS))(hk:Ui X bl nx f (c.args.toList.map ρ++BS.map λb=>.c (.ptr b 0)) kk=Yg r):Sound P o ρ bl kk r:=by
 refine AfZ hΓ hk λAb ok0 base pl w a hr Ae=>?_;have hv:=Ae x (by simp[ho,Yt,YE,hc]);rw[hx]at hv;obtain⟨gs,hg,hv⟩:=hv;refine⟨c.args.toList.map a.eval++gs.map λg=>.pointer (Yg ⟨g,0,Yf⟩),?_,λ⟨fn,h1,h2,h3⟩=>?_⟩
 ·exact(sJ λy hy=>Ae y (by simp only[ho,Yt,YE,aC];exact .inr (by simpa using hy))).append (Ag6 hg)
 ·have he:c.args.map a.eval++(gs.map λg=>YaA (Yg ⟨g,0,Yf⟩)).toArray=(c.args.toList.map a.eval++gs.map λg=>YaA (Yg ⟨g,0,Yf⟩)).toArray:=by apply Io;simp
  simp only[Y3,ho,resolve,hc,hv,Deferred.ofValue,YC,YY,Y9,invoke,callFunc,Ybl,h1,h2,h3,Array.empty_append,IQ,CN,he]
theorem AuF{X:Ctx}(hΓ:ΓOk P X.Γ){kk:K β}{nx:Yn}{c:Call}(ho:o.op=.call c){x:Y2}(hc:c.callee=.value x){f:YA}{b:Yn}(hx:ρ x=.c (.bfn f b))(hk:Ui X bl nx f (.c (.ptr b 0)::c.args.toList.map ρ) kk=Yg r):Sound P o ρ bl kk r:=by
 refine AfZ hΓ hk λAb ok0 base pl w a hr Ae=>?_;have hv:=Ae x (by simp[ho,Yt,YE,hc]);rw[hx]at hv;obtain⟨g,hg,hv⟩:=hv;refine⟨.pointer (Yg ⟨g,0,Yf⟩)::c.args.toList.map a.eval,⟨_,_,rfl,⟨g,hg,rfl⟩,sJ λy hy=>Ae y (by simp only[ho,Yt,YE,aC];exact .inr (by simpa using hy))⟩,λ⟨fn,h1,h2,h3⟩=>?_⟩
 have he:#[YaA (Yg ⟨g,0,Yf⟩)]++c.args.map a.eval=(YaA (Yg ⟨g,0,Yf⟩)::c.args.toList.map a.eval).toArray:=by apply Io;simp
 simp only[Y3,ho,resolve,hc,hv,Deferred.ofValue,YC,YY,Y9,invoke,callFunc,Ybl,h1,h2,h3,Array.append_empty,IQ,CN,he]
theorem AuG{kk:K β}{x:Y2}(ho:o.op=.nilCheck x){f:YA}{b:Yn}(hx:ρ x=.c (.bfn f b))(hk:kk (ρ x) [] []=Yg r):Sound P o ρ bl kk r:=by refine Sound.pure hk λAb _ ok0 base pl w a hr Ae=>⟨a.eval x,?_,Ae x (by simp[ho,Yt])⟩;have h1:=Ae x (by simp[ho,Yt]);rw[hx]at h1;obtain⟨g,_,hv⟩:=h1;simp[Y3,ho,hv]
theorem AuH{kk:K β}{f:YA}{first BS:YQ Y2}(ho:o.op=.makeFunc (.func f) first BS){x:Y2}(hf:first.toList=[x]){b:Yn}(hx:ρ x=.c (.ptr b 0))(hc:BS.toList=[])(hk:kk (.c (.bfn f b)) [] []=Yg r):Sound P o ρ bl kk r:=by
 have OA:first=#[x]:=by apply Io;simpa using hf
 have GM:BS=#[]:=by simpa using hc
 subst OA GM;refine Sound.pure hk λAb _ ok0 base pl w a hr Ae=>?_;have hv:=Ae x (by simp[ho,Yt]);rw[hx]at hv;obtain⟨g,hg,hv⟩:=hv;exact⟨.func (.func f) #[.pointer (Yg ⟨g,0,Yf⟩)] #[],by simp[Y3,ho,Instr.makeFunc,hv],g,hg,rfl⟩
theorem AuI{X:Ctx}(hT:TOk P X.T)(hΓ:ΓOk P X.Γ){kk:K β}{nx:Yn}(hk:bB X o ρ bl nx kk=Yg r):Sound P o ρ bl kk r:=by
 unfold bB at hk;split at hk
 ·rename_i x ho
  cases hS:(X.S&&Afb (ρ x))with
  |false=>rw[hS,C7]at hk;exact bN (.inl ho) hk
  |true=>rw[hS,As]at hk;exact ME (xs:=[x]) (λz hz=>by simpa [ho,Yt]using hz) hk λbl' El h=>bN (ρ:=λx=>frzV bl (ρ x)) (.inl ho) h
 ·rename_i x ho
  cases hD:(X.D&&Afa bl (ρ x))with
  |false=>rw[hD,C7]at hk;exact bN (.inr ho) hk
  |true=>rw[hD,As]at hk;exact ME (xs:=[x]) (λz hz=>by simpa [ho,Yt]using hz) hk λbl' El h=>bN (ρ:=λx=>frzV bl (ρ x)) (.inr ho) h
 ·rename_i c a b ho
  split at hk
  ·rename_i g hc;exact Atv ho hc hk
  ·cases hk
 ·rename_i t ho
  split at hk
  ·rename_i ti ht;exact Atw hT ho ht hk
  ·cases hk
 ·rename_i t x ho
  split at hk
  ·rename_i cs hc;exact Atx ho hc hk
  ·cases hk
 ·rename_i t parts ho
  cases hD:X.D with
  |false=>rw[hD,C7]at hk;exact AfA hT ho hk
  |true=>rw[hD,As]at hk;refine ME (xs:=parts.toList.map (·.2)) (λx hx=>by simpa [ho,Yt]using hx) (by rw[Pi];exact hk) λbl' El h=>?_;exact AfA (ρ:=λx=>frzV bl (ρ x)) hT ho h
 ·rename_i t n parts ho
  cases hO:(Af6 X.O X.T t&&Af7 X.O X.T bl t (parts.toList.map λp=>(p.1,ρ p.2)))with
  |true=>rw[hO,As]at hk;exact Au9 hT ho hk
  |false=>
  rw[hO,C7]at hk;refine ME (xs:=parts.toList.map (·.2)) (λx hx=>by simpa [ho,Yt]using hx) (by rw[Pi];exact hk) λbl' El h=>?_;exact AtW (ρ:=λx=>frzV bl (ρ x)) hT ho h
 ·rename_i t a ho
  split at hk
  ·exact AuC hT ho hk
  ·exact rD hT ho hk
 ·rename_i t a x ho
  split at hk
  ·exact ME (xs:=[a,x]) (λy hy=>by simpa [ho,Yt]using hy) hk λbl' El h=>Uu (ρ:=λx=>frzV bl (ρ x)) hT ho h
  ·rename_i b _ _ _ _ _
   cases hH:Af3 bl b with
   |true=>rw[hH,As]at hk;exact Uu hT ho hk
   |false=>rw[hH,C7]at hk;exact ME (xs:=[a,x]) (λy hy=>by simpa [ho,Yt]using hy) hk λbl' El h=>Uu (ρ:=λx=>frzV bl (ρ x)) hT ho h
  ·cases hD:(X.D&&Afc (ρ x))with
   |false=>rw[hD,C7]at hk;exact Uu hT ho hk
   |true=>rw[hD,As]at hk;exact ME (xs:=[a,x]) (λy hy=>by simpa [ho,Yt]using hy) hk λbl' El h=>Uu (ρ:=λx=>frzV bl (ρ x)) hT ho h
 ·rename_i x ho
  split at hk
  ·rename_i b of hx;exact U1 ho (.inl ⟨b,of,hx⟩) (by rw[hx];exact hk)
  ·rename_i b ver i of hx;exact U1 ho (.inr (.inl ⟨b,ver,i,of,hx⟩)) (by rw[hx];exact hk)
  ·rename_i e y of hx;exact U1 ho (.inr (.inr (.inl ⟨e,y,of,hx⟩))) (by rw[hx];exact hk)
  ·rename_i b ver p i of hx;exact U1 ho (.inr (.inr (.inr (.inr ⟨b,ver,p,i,of,hx⟩)))) (by rw[hx];exact hk)
  ·rename_i f BS hx;exact U1 ho (.inr (.inr (.inr (.inl ⟨f,BS,hx⟩)))) (by rw[hx];exact hk)
  ·rename_i f b hx;exact AuG ho hx (by rw[hx];exact hk)
  ·cases hk
 ·rename_i op t x y t' ho;exact AtP hT ho hk
 ·rename_i op t x ho
  split at hk
  ·rename_i b hx;exact Aua ho hx hk
  ·rename_i k n hx;exact Aub ho hx hk
  ·cases hk
 ·rename_i s t x ho
  split at hk
  ·rename_i si ti k0 n hs ht hx
   split at hk
   ·rename_i k Nn;exact Auc hT ho hs ht hx Nn hk
   ·cases hk
  ·rename_i si ti l hs ht hx
   cases JN:ti.isStr with
   |false=>rw[JN]at hk;cases hk
   |true=>simp only[JN,As]at hk;exact Aud hT ho hs ht hx JN hk
  ·rename_i si ti hs ht _ _;exact Au1 hT ho hs ht hk
  ·cases hk
 ·rename_i f first BS ho
  split at hk
  ·rename_i hf
   split at hk
   ·rename_i bs hb;exact Aue ho hf hb hk
   ·cases hk
  ·rename_i x hf
   split at hk
   ·rename_i b hx hc;exact AuH ho hf hx hc hk
   ·cases hk
  ·cases hk
 ·rename_i t n c ho;exact AtX hT ho hk
 ·rename_i t ho;exact Auv ho hk
 ·rename_i t x i commaOk ho
  cases hF:Af5 bl (ρ x)with
  |true=>rw[hF,As]at hk;exact Auy hT ho hk
  |false=>rw[hF,C7]at hk;exact Auw hT ho hk
 ·rename_i t x i y ho;exact Auz hT ho hk
 ·rename_i t x i y ho
  exact ME (xs:=[x,i,y]) (λz hz=>by simpa [ho,Yt]using hz) hk λbl' El h=>Aux (ρ:=λx=>frzV bl (ρ x)) hT ho h
 ·rename_i t x hi ho
  cases hR:(X.R&&aX (ρ x))with
  |true=>rw[hR,As]at hk;exact Au4 hT ho hk
  |false=>rw[hR,C7]at hk;exact rJ (lo:=Yf) hT ho hk
 ·rename_i t x lo hi _ ho
  cases hS:(X.S&&aX (ρ x))with
  |false=>rw[hS,C7]at hk;exact rJ hT ho hk
  |true=>rw[hS,As]at hk;exact ME (xs:=x::(lo.toList++hi.toList)) (λz hz=>by cases lo<;>cases hi<;>simpa [ho,Yt]using hz) hk λbl' El h=>rJ (ρ:=λx=>frzV bl (ρ x)) hT ho h
 ·rename_i t x f ho;exact AtE hT ho hk
 ·rename_i t x f ho
  split at hk
  ·rename_i ti cs ht hx
   split at hk
   ·rename_i off n g hf
    cases h1:(g||Yo n 1)with
    |false=>rw[h1]at hk;cases hk
    |true=>
     simp only[h1,As]at hk;split at hk
     ·rename_i rc hs;exact Auf hT ho ht hx hf h1 hs hk
     ·cases hk
   ·cases hk
  ·cases hk
 ·rename_i t x i ho;exact AtG hT ho hk
 ·rename_i t x i ho
  split at hk
  ·rename_i ti s k j ht hx hi
   cases JN:ti.isStr with
   |false=>rw[JN]at hk;cases hk
   |true=>simp only[JN,As]at hk;obtain⟨hc,hk⟩:=DN hk;obtain⟨c1,c2⟩:=andB hc;exact Aug hT ho ht hx hi JN (Bd c1) (Bd c2) hk
  ·rename_i ti cs k j ht hx hi;exact AuD hT ho ht hx hi hk
  ·cases hk
 ·rename_i x i ho
  split at hk
  ·rename_i ts hx
   split at hk
   ·rename_i t ht;exact Auh ho hx ht hk
   ·cases hk
  ·cases hk
 ·rename_i c ho
  split at hk
  ·rename_i hc
   split at hk
   ·rename_i x t hx ht
    cases Bv:c.args.toList with
    |nil=>rw[Bv]at hx;simp at hx
    |cons y ys=>
     rw[Bv]at hx;cases ys with
     |cons _ _=>simp at hx
     |nil=>simp only[CH,M6,Dx,Fv]at hx;subst hx;exact AtR hT ho hc Bv ht hk
   ·cases hk
  ·rename_i hc
   split at hk
   ·rename_i v hm;exact AfM (isMax:=Yi) ho hc hm hk
   ·cases hk
  ·rename_i hc
   split at hk
   ·rename_i v hm;exact AfM (isMax:=Yp) ho hc hm hk
   ·cases hk
  ·rename_i hc
   split at hk
   ·rename_i x y t t' hx ht
    cases QM:Yo t t' with
    |false=>
     simp only[QM,C7]at hk;cases Bv:c.args.toList with
     |nil=>rw[Bv]at hx;simp at hx
     |cons a as=>
      rw[Bv]at hx;cases as with
      |nil=>simp at hx
      |cons b bs=>
       cases bs with
       |cons _ _=>simp at hx
       |nil=>simp only[CH,M6,Dx,Fv]at hx;obtain⟨h1,h2⟩:=hx;subst h1 h2;exact Au6 hT ho hc Bv ht hk
    |true=>
     have:=AB QM;subst this;simp only[QM,As]at hk;cases Bv:c.args.toList with
     |nil=>rw[Bv]at hx;simp at hx
     |cons a as=>
      rw[Bv]at hx;cases as with
      |nil=>simp at hx
      |cons b bs=>
       cases bs with
       |cons _ _=>simp at hx
       |nil=>
        simp only[CH,M6,Dx,Fv]at hx;obtain⟨h1,h2⟩:=hx;subst h1 h2;cases hO:(aY (ρ a)||aY (ρ b))with
        |true=>rw[hO,As]at hk;exact Au8 hT ho hc Bv ht hk
        |false=>
        rw[hO,C7]at hk;exact AtS hT ho hc Bv ht hk
   ·cases hk
  ·rename_i hc
   split at hk
   ·rename_i x t hx ht
    cases Bv:c.args.toList with
    |nil=>rw[Bv]at hx;simp at hx
    |cons y ys=>
     rw[Bv]at hx;cases ys with
     |cons _ _=>simp at hx
     |nil=>simp only[CH,M6,Dx,Fv]at hx;subst hx;exact Au2 hT ho hc Bv ht hk
   ·cases hk
  ·rename_i hc
   split at hk
   ·rename_i x t hx ht
    cases Bv:c.args.toList with
    |nil=>rw[Bv]at hx;simp at hx
    |cons y ys=>
     rw[Bv]at hx;cases ys with
     |cons _ _=>simp at hx
     |nil=>simp only[CH,M6,Dx,Fv]at hx;subst hx;exact Au3 hT ho hc Bv ht hk
   ·cases hk
  ·rename_i hc
   split at hk
   ·rename_i x y t t' hx ht
    cases QM:Yo t t' with
    |false=>rw[QM]at hk;cases hk
    |true=>
     have:=AB QM;subst this;simp only[QM,As]at hk;cases Bv:c.args.toList with
     |nil=>rw[Bv]at hx;simp at hx
     |cons a as=>
      rw[Bv]at hx;cases as with
      |nil=>simp at hx
      |cons b bs=>
       cases bs with
       |cons _ _=>simp at hx
       |nil=>simp only[CH,M6,Dx,Fv]at hx;obtain⟨h1,h2⟩:=hx;subst h1 h2;exact Au0 hT ho hc Bv ht hk
   ·cases hk
  ·cases hk
  ·split at hk
   ·rename_i f pre BS Nj
    unfold Af9 at Nj;split at Nj
    ·rename_i x hc
     split at Nj
     ·rename_i f' bs hx
      simp only[Af,Cb]at Nj;obtain⟨rfl,rfl,rfl⟩:=Nj;exact AuE hΓ ho hc hx hk
     ·rename_i f' b hx
      simp only[Af,Cb]at Nj;obtain⟨rfl,rfl,rfl⟩:=Nj;exact AuF hΓ ho hc hx (by simpa using hk)
     ·cases Nj
    ·cases Nj
   ·cases hk
 ·cases hk
end
end
end Go.Lift
namespace Go.Lift
noncomputable section
open Go.RowKit
structure Rel {P:Yw} (n:Yn) (ok0:OK0 P) (base:Yn) (pl:Yn->Ya Pl) (tm:Yn->Ya V) (bl:Yn->Ya Blk) (a:Act) (w:Yx):Prop where
 defers:a.defers=[]
 size:a.tmps.size=n
 tmps:∀t v,tm t=Yg v->VRep (At ok0 base pl bl w) v (a.tmps.getD t undef)
 rel:RelB ok0 base pl bl w
def updD(tm:Yn->Ya V)(dst:Ya Yn)(v:V):Yn->Ya V:=
 match dst with
 |some d=>upd tm d v
 |none=>tm
theorem bW(tm:Ye (Yn×V))(dst:Ya Yn)(v:V):look (putD tm dst v)=updD (look tm) dst v:=by
 cases dst with
 |none=>rfl
 |some d=>funext j;simp only[putD,updD,aR,upd]
def RA(tm:Yn->Ya V):Y2->V
 |.tmp t=>
  match tm t with
  |some v=>v
  |none=>.junk
 |.const v=>V.ofValue v
 |.global _=>.junk
 |.func f=>.c (.fn f [])
theorem Ag7(tm:Ye (Yn×V)):Uj tm=RA (look tm):=by funext x;cases x<;>rfl
theorem Ag8{P:Yw}{n:Yn}{ok0:OK0 P}{base:Yn}{pl:Yn->Ya Pl}{tm:Yn->Ya V}{bl:Yn->Ya Blk}{a:Act}{w:Yx}(h:Rel n ok0 base pl tm bl a w)(x:Y2):VRep (At ok0 base pl bl w) (RA tm x) (a.eval x):=by
 cases x with
 |tmp t=>
  simp only[RA,Act.eval];split
  ·rename_i v hv;exact h.tmps t v hv
  ·exact trivial
 |const v=>exact V.ofValue_rep v
 |global g=>exact trivial
 |func f=>exact⟨[],rfl,rfl⟩
section
variable{P:Yw}{ops:YQ Oper}{n:Yn}
def EOk(P:Yw)(ops:YQ Oper)(n:Yn)(e:LogE)(tmA:Yn->Ya V)(blA:Yn->Ya Blk):Prop:=
 ∀(tm:Yn->Ya V)(bl:Yn->Ya Blk),(∀t∈e.tin,tm t=tmA t)->(∀b∈e.rd,bl b=blA b)->
  ∀(ok0:OK0 P)(base:Yn)(pl:Yn->Ya Pl)(a:Act)(w:Yx),Rel n ok0 base pl tm bl a w->
  ∀(K:Act->Yx->Prop)(Q:Exit->Act->Yx->Prop),
   (∀Ak a' w',Rel n ok0 base Ak (updD tm e.dst e.v) (updL bl e.wr) a' w'->Step pl bl w Ak (updL bl e.wr) w'->K a' w')->wpOp P ops Q e.i K a w
def Valid(P:Yw)(ops:YQ Oper)(n:Yn):Ye LogE->(Yn->Ya V)->(Yn->Ya Blk)->Prop
 |[],_,_=>True
 |e::es,tm,bl=>EOk P ops n e tm bl/\Valid P ops n es (updD tm e.dst e.v) (updL bl e.wr)
def finT:Ye LogE->(Yn->Ya V)->Yn->Ya V
 |[],tm=>tm
 |e::es,tm=>finT es (updD tm e.dst e.v)
def finB:Ye LogE->(Yn->Ya Blk)->Yn->Ya Blk
 |[],bl=>bl
 |e::es,bl=>finB es (updL bl e.wr)
theorem EOk.agree{e:LogE}{tmA tmB:Yn->Ya V}{blA blB:Yn->Ya Blk}(h:EOk P ops n e tmA blA)(ht:∀t∈e.tin,tmB t=tmA t)(hb:∀b∈e.rd,blB b=blA b):EOk P ops n e tmB blB:=
 λtm bl h1 h2=>h tm bl (λt hm=>(h1 t hm).trans (ht t hm)) (λb hm=>(h2 b hm).trans (hb b hm))
theorem Ag9{tm:Yn->Ya V}{dst:Ya Yn}{v:V}{t:Yn}(h:dst≠Yg t):updD tm dst v t=tm t:=by
 cases dst with
 |none=>rfl
 |some d=>have:t≠d:=λe=>h (by rw[e]);simp[updD,upd,this]
theorem bX{a b:Ye Yn}:meet a b=Yi↔∀x∈a,x∉b:=by
 induction a with
 |nil=>simp[meet]
 |cons y r ih=>
  simp only[meet,OZ,ih,Bl,forall_eq_or_imp];constructor
  ·rintro⟨h1,h2⟩
   exact⟨λhm=>(by rw[Ir.2 hm]at h1;cases h1),h2⟩
  ·rintro⟨h1,h2⟩
   refine⟨?_,h2⟩;cases hm:memB y b with
   |false=>rfl
   |true=>exact Y7 (Ir.1 hm) h1
structure Apart (x y:LogE):Prop where
 t1:∀t∈y.tin,x.dst≠Yg t
 t2:∀t∈x.tin,y.dst≠Yg t
 t3:∀d,x.dst=Yg d->y.dst≠Yg d
 b1:∀b∈y.rd,b∉wids x.wr
 b2:∀b∈x.rd,b∉wids y.wr
 b3:∀b∈wids x.wr,b∉wids y.wr
theorem AuJ{x y:LogE}(h:Rz x y=Yi):Apart x y:=by
 unfold Rz at h;simp only[OZ]at h;obtain⟨⟨⟨h1,h2⟩,h3⟩,h4⟩:=h;have h3:=bX.1 h3;have h4:=bX.1 h4;refine⟨λt ht hd=>?_,λt ht hd=>?_,λd hd Ct=>?_,λb hb hw=>?_,λb hb hw=>h4 b hw hb,λb hb hw=>?_⟩
 ·rw[hd]at h1
  simp only[OZ]at h1;rw[Ir.2 ht]at h1;cases h1.1
 ·rw[hd]at h2
  simp only at h2;rw[Ir.2 ht]at h2;cases h2
 ·rw[hd,Ct]at h1
  simp only[OZ]at h1;rw[Pq]at h1;cases h1.2
 ·exact h3 b hw (D5 _ hb)
 ·exact h3 b hb (DW _ hw)
theorem AuK{x y:LogE}(h:Apart x y)(tm:Yn->Ya V)(bl:Yn->Ya Blk):updD (updD tm x.dst x.v) y.dst y.v=updD (updD tm y.dst y.v) x.dst x.v/\updL (updL bl x.wr) y.wr=updL (updL bl y.wr) x.wr:=by
 constructor
 ·cases hx:x.dst with
  |none=>rfl
  |some d=>
   cases hy:y.dst with
   |none=>rfl
   |some d'=>
    have AO:d≠d':=λe=>h.t3 d hx (by rw[hy,e]);funext j;simp only[updD,upd];by_cases h1:j=d'
    ·by_cases h2:j=d
     ·exact Y7 (h2.symm.trans h1) AO
     ·simp[h1,Ne.symm AO]
    ·by_cases h2:j=d<;>simp[h1,h2,AO]
 ·funext b
  by_cases h1:b∈wids y.wr
  ·have h2:b∉wids x.wr:=λh2=>h.b3 b h2 h1
   rw[R9 (bl':=bl) h1,Hz (bl:=updL bl y.wr) h2]
  ·rw[Hz h1]
   by_cases h2:b∈wids x.wr
   ·exact R9 h2
   ·rw[Hz h2,Hz h2,Hz h1]
theorem Valid.bubble{e:LogE}{post:Ye LogE}:∀{pre:Ye LogE}{tm:Yn->Ya V}{bl:Yn->Ya Blk},Valid P ops n (pre++e::post) tm bl->(∀x∈pre,Apart x e)->EOk P ops n e tm bl/\Valid P ops n (pre++post) (updD tm e.dst e.v) (updL bl e.wr)/\finT (pre++e::post) tm=finT (pre++post) (updD tm e.dst e.v)/\finB (pre++e::post) bl=finB (pre++post) (updL bl e.wr)
 |[],tm,bl,h,_=>⟨h.1,h.2,rfl,rfl⟩
 |x::pre,tm,bl,h,ha=>by
  have hx:=ha x (by simp);obtain⟨h1,h2,h3,h4⟩:=Valid.bubble h.2 λy hy=>ha y (by simp[hy]);obtain⟨c1,c2⟩:=AuK hx tm bl;refine⟨h1.agree (λt ht=>(Ag9 (hx.t1 t ht)).symm) (λb hb=>(Hz (hx.b1 b hb)).symm),⟨?_,?_⟩,?_,?_⟩
  ·exact EOk.agree h.1 (λt ht=>Ag9 (hx.t2 t ht)) (λb hb=>Hz (hx.b2 b hb))
  ·show Valid P ops n (pre++post) (updD (updD tm e.dst e.v) x.dst x.v) (updL (updL bl e.wr) x.wr)
   rw[<-c1,<-c2];exact h2
  ·show finT (pre++e::post) (updD tm x.dst x.v)=finT (pre++post) (updD (updD tm e.dst e.v) x.dst x.v)
   rw[h3,c1]
  ·show finB (pre++e::post) (updL bl x.wr)=finB (pre++post) (updL (updL bl e.wr) x.wr)
   rw[h4,c2]
theorem sK{Q:Exit->Act->Yx->Prop}{ok0:OK0 P}{base:Yn}:∀{es:Ye LogE}{pl:Yn->Ya Pl}{tm:Yn->Ya V}{bl:Yn->Ya Blk}{a:Act}{w:Yx},Valid P ops n es tm bl->Rel n ok0 base pl tm bl a w->(∀Ak a' w',Rel n ok0 base Ak (finT es tm) (finB es bl) a' w'->Step pl bl w Ak (finB es bl) w'->Q .normal a' w')->wpOps P ops Q (es.map (·.i)) a w
 |[],pl,tm,bl,a,w,_,hr,hq=>hq pl a w hr (Step.refl pl bl w)
 |e::es,pl,tm,bl,a,w,hv,hr,hq=>by rw[CH,wpOps_cons];refine hv.1 tm bl (λ_ _=>rfl) (λ_ _=>rfl) ok0 base pl a w hr _ Q λAk a' w' BA Cd=>?_;exact sK hv.2 BA λpl2 a2 w2 Fa AW=>hq pl2 a2 w2 Fa (Cd.trans AW)
theorem Aga{ms:Ye Yn}:∀{es:Ye Edge}{i:Yn},Yaf (Kf ms es) i=Yp->∃e∈es,YJ .any e=Yp/\(e.on=i\/Yaf (ms.getD e.on 0) i=Yp)
 |[],i,h=>by simp[Kf]at h
 |e::r,i,h=>by
  simp only[Kf]at h
  have h':Yaf (Kf ms r) i=Yp\/Yaf (bif YJ .any e then Nat.lor (Nat.shiftLeft 1 e.on) (ms.getD e.on 0)else 0) i=Yp:=by
   have h2:Yaf (Kf ms r|||(bif YJ .any e then Nat.lor (Nat.shiftLeft 1 e.on) (ms.getD e.on 0)else 0)) i=Yp:=h
   rwa [Nat.testBit_or,Pf]at h2
  rcases h' with h'|h'
  ·obtain⟨e',he,hb⟩:=Aga h'
   exact⟨e',by simp[he],hb⟩
  ·cases hb:YJ .any e with
   |false=>rw[hb]at h';simp at h'
   |true=>
    simp only[hb,As]at h';have h3:Yaf (1<<<e.on|||ms.getD e.on 0) i=Yp:=h';rw[Nat.testBit_or,Pf]at h3;refine⟨e,by simp,hb,?_⟩;rcases h3 with h3|h3
    ·left
     rw[Nat.testBit_shiftLeft]at h3;simp only[Dk,Jv,ge_iff_le]at h3;obtain⟨h4,h5⟩:=h3
     have h6:i-e.on=0:=by have:=Nat.testBit_one_eq_true_iff_self_eq_zero.1 h5;exact this
     omega
    ·exact .inr h3
theorem Agb:∀{l:Ye Oper}{acc:Ye Yn}{j:Yn},(Hd l acc)[acc.length+j]?=(l[j]?).map λo=>Kf ((Hd l acc).take (acc.length+j)) o.after.toList
 |[],acc,j=>by simp[Hd]
 |o::r,acc,0=>by
  have h1:∀(l:Ye Oper)(a:Ye Yn),∃x,Hd l a=a++x:=by
   intro l
   induction l with
   |nil=>intro a;exact⟨[],by simp[Hd]⟩
   |cons o l ih=>intro a;obtain⟨x,hx⟩:=ih (a++[Kf a o.after.toList]);exact⟨Kf a o.after.toList::x,by simp only[Hd];rw[hx];simp⟩
  obtain⟨x,hx⟩:=h1 r (acc++[Kf acc o.after.toList]);simp only[Hd,hx];simp
 |o::r,acc,j+1=>by
  have ih:=Agb (l:=r) (acc:=acc++[Kf acc o.after.toList]) (j:=j);simp only[Hd];simp only[AQ,E9]at ih;have e:acc.length+(j+1)=acc.length+1+j:=by omega
  rw[e,ih];simp
theorem sL{listed:YQ Ys}{i:Yn}:i∈Ya3 .any ops listed↔∃o,ops[i]?=Yg o/\listed.getD i Yp=Yi/\∀e∈o.after,YJ .any e=Yp->listed.getD e.on Yi=Yp:=by
 unfold Ya3;rw[List.mem_filter,Rg];constructor
 ·rintro⟨h1,h2⟩
  simp only[Dk,Re]at h2;have ho:ops[i]?=Yg ops[i]:=QZ h1;rw[ho]at h2;simp only[F8,NA,AeG]at h2;refine⟨_,ho,h2.1,λe he hb=>?_⟩;have:=h2.2 e he;simpa [hb]using this
 ·rintro⟨o,ho,h1,h2⟩
  refine⟨(IN.1 ho).1,?_⟩;simp only[Dk,Re];refine⟨h1,?_⟩;rw[ho];simp only[F8,NA,AeG];intro e he;cases hb:YJ .any e with
  |false=>rfl
  |true=>simpa using h2 e he hb
def Agc(ops:YQ Oper)(listed:YQ Ys):Prop:=∀(j:Yn)(o:Oper),ops[j]?=Yg o->listed.getD j Yi=Yp->∀e∈o.after,YJ .any e=Yp->listed.getD e.on Yi=Yp
theorem AuL{listed:YQ Ys}(hc:Agc ops listed)(Lj:∀(j:Yn)(o:Oper),ops[j]?=Yg o->∀e∈o.after,YJ .any e=Yp->e.on<j):∀(j i:Yn)(o:Oper),ops[j]?=Yg o->Yaf ((Hd ops.toList []).getD j 0) i=Yp->(∀e∈o.after,YJ .any e=Yp->listed.getD e.on Yi=Yp)->listed.getD i Yi=Yp:=by
 intro j
 induction j using Nat.strongRecOn with
 |_ j ih=>
  intro i o ho Adi hl;have hm:=Agb (l:=ops.toList) (acc:=[]) (j:=j);simp only[Ft,DZ]at hm;have Zc:ops.toList[j]?=Yg o:=by simpa using ho
  rw[Zc]at hm;simp only[F8]at hm;rw[Ym,hm]at Adi;simp only[NA]at Adi;obtain⟨e,he,hb,h⟩:=Aga Adi;have Mh:e∈o.after:=by simpa using he
  have Ax:=Lj j o ho e Mh hb;have BF:=hl e Mh hb;rcases h with h|h
  ·rw[<-h];exact BF
  ·have ALO:e.on<ops.size:=Nat.lt_trans Ax (IN.1 ho).1
   have QJ:ops[e.on]?=Yg ops[e.on]:=QZ ALO;refine ih e.on Ax i _ QJ ?_ (hc e.on _ QJ BF);rw[Ym,TH Ax]at h;exact h
theorem Agd{Q:Exit->Act->Yx->Prop}{ok0:OK0 P}{base:Yn}(Lj:∀(j:Yn)(o:Oper),ops[j]?=Yg o->∀e∈o.after,YJ .any e=Yp->e.on<j):∀(k:Yn){es:Ye LogE}{listed:YQ Ys}{pl:Yn->Ya Pl}{tm:Yn->Ya V}{bl:Yn->Ya Blk}{a:Act}{w:Yx},es.length=k->listed.size=ops.size->Agc ops listed->(∀i,i<ops.size->(listed.getD i Yp=Yi↔∃e∈es,e.i=i))->es.Pairwise (λx y=>x.i<y.i)->(∀e∈es,e.i<ops.size)->es.Pairwise (λx y=>Rz x y=Yi\/Yaf ((Hd ops.toList []).getD y.i 0) x.i=Yp)->Valid P ops n es tm bl->Rel n ok0 base pl tm bl a w->(∀Ak a' w',Rel n ok0 base Ak (finT es tm) (finB es bl) a' w'->Step pl bl w Ak (finB es bl) w'->Q .normal a' w')->wpAny P .any ops Q k listed a w:=by
 intro k
 induction k with
 |zero=>
  intro es listed pl tm bl a w hk Cp hc hl hs Ax hf hv hr hq;have:es=[]:=JV hk;subst this;refine⟨?_,hq pl a w hr (Step.refl pl bl w)⟩;cases FM:Ya3 .any ops listed with
  |nil=>rfl
  |cons i r=>
   have hi:i∈Ya3 .any ops listed:=by rw[FM];simp
   obtain⟨o,ho,h1,_⟩:=sL.1 hi;obtain⟨e,he,_⟩:=(hl i (IN.1 ho).1).1 h1;simp at he
 |succ k ih=>
  intro es listed pl tm bl a w hk Cp hc hl hs Ax hf hv hr hq;refine⟨λFM=>?_,λi hi=>?_⟩
  ·
   exfalso;cases es with
   |nil=>simp at hk
   |cons e es=>
    have XJ:=Ax e (by simp);have ho:ops[e.i]?=Yg ops[e.i]:=QZ XJ
    have:e.i∈Ya3 .any ops listed:=by
     refine sL.2 ⟨_,ho,(hl e.i XJ).2 ⟨e,by simp,rfl⟩,λd hd hb=>?_⟩;have HE:=Lj e.i _ ho d hd hb;have Fy:d.on<ops.size:=by omega
     cases hg:listed.getD d.on Yp with
     |true=>
      have AL8:d.on<listed.size:=by omega
      simp only[F6,QZ AL8,NA]at hg⊢;exact hg
     |false=>
      obtain⟨x,hx,Tx⟩:=(hl d.on Fy).1 hg;rcases Bl.1 hx with rfl|hx
      ·omega
      ·have:=(Fs.1 hs).1 x hx
       omega
    rw[FM]at this;simp at this
  ·obtain⟨o,ho,h1,h2⟩:=sL.1 hi
   have ALo:=(IN.1 ho).1;obtain⟨e,he,XJ⟩:=(hl i ALo).1 h1;obtain⟨pre,post,rfl⟩:=List.append_of_mem he;have nY:=FS.1 hf;have Jp:=FS.1 hs
   have Q0:∀x∈pre,Apart x e:=by
    intro x hx;rcases nY.2.2 x hx e (by simp)with h|h
    ·exact AuJ h
    ·exfalso
     rw[XJ]at h;have F4:=AuL hc Lj i x.i o ho h h2;have Ae:=Ax x (by simp[hx]);have Ae8:=(hl x.i Ae).2 ⟨x,by simp[hx],rfl⟩;have AMq:x.i<listed.size:=by omega
     simp only[F6,QZ AMq,NA]at F4 Ae8;rw[F4]at Ae8;cases Ae8
   obtain⟨b1,b2,b3,b4⟩:=Valid.bubble hv Q0;subst XJ;refine b1 tm bl (λ_ _=>rfl) (λ_ _=>rfl) ok0 base pl a w hr _ Q λAk a' w' BA Cd=>?_;refine ih (es:=pre++post) (by simp at hk⊢;omega) (by simpa using Cp) ?_ ?_ ?_ ?_ ?_ b2 BA ?_
   ·
    intro j oj Zd hj d hd hb
    have Jg:∀q,listed.getD q Yi=Yp->(listed.setIfInBounds e.i Yp).getD q Yi=Yp:=by
     intro q hq;simp only[F6,ZM];split
     ·split<;>simp_all
     ·simpa [F6]using hq
    refine Jg _ ?_;by_cases Arh:j=e.i
    ·subst Arh
     rw[ho]at Zd;injection Zd with Zd;subst Zd;exact h2 d hd hb
    ·refine hc j oj Zd ?_ d hd hb
     simp only[F6,ZM]at hj⊢;rw[Yy (λh=>Arh h.symm)]at hj;exact hj
   ·intro q hq
    have AOF:q<listed.size:=by omega
    have Ie:e.i<listed.size:=by omega
    by_cases AdT:q=e.i
    ·subst AdT
     constructor
     ·intro h
      simp[F6,Ie]at h
     ·rintro⟨x,hx,Tx⟩
      exfalso;rcases C5.1 hx with hx|hx
      ·have:=Jp.2.2 x hx e (by simp);omega
      ·have:=(Fs.1 Jp.2.1).1 x hx;omega
    ·have h3:(listed.setIfInBounds e.i Yp).getD q Yp=listed.getD q Yp:=by simp only[F6,ZM];rw[Yy (λh=>AdT h.symm)]
     rw[h3,hl q hq];constructor
     ·rintro⟨x,hx,Tx⟩
      refine⟨x,?_,Tx⟩;rcases C5.1 hx with hx|hx
      ·exact D5 _ hx
      ·rcases Bl.1 hx with rfl|hx
       ·exact Y7 Tx.symm AdT
       ·exact DW _ hx
     ·rintro⟨x,hx,Tx⟩
      refine⟨x,?_,Tx⟩;rcases C5.1 hx with hx|hx
      ·exact D5 _ hx
      ·exact DW _ (DX _ hx)
   ·exact FS.2 ⟨Jp.1,(Fs.1 Jp.2.1).2,λx hx y hy=>Jp.2.2 x hx y (by simp[hy])⟩
   ·intro x hx
    refine Ax x ?_;rcases C5.1 hx with hx|hx
    ·exact D5 _ hx
    ·exact DW _ (DX _ hx)
   ·exact FS.2 ⟨nY.1,(Fs.1 nY.2.1).2,λx hx y hy=>nY.2.2 x hx y (by simp[hy])⟩
   ·intro pl2 a2 w2 Fa AW
    rw[<-b3,<-b4]at Fa;rw[<-b4]at AW;exact hq pl2 a2 w2 Fa (Cd.trans AW)
end
end
end Go.Lift
namespace Go.Lift
noncomputable section
open Go.RowKit
section
variable{P:Yw}{ops:YQ Oper}{n:Yn}{β:Type}{r:β}
theorem Rel.put{ok0:OK0 P}{base:Yn}{pl Ak:Yn->Ya Pl}{tm:Yn->Ya V}{bl bl':Yn->Ya Blk}{a:Act}{w w':Yx}(h:Rel n ok0 base pl tm bl a w){dst:Ya Yn}(hd:Uk n dst=Yp){v:V}{val:Yq}(hr:RelB ok0 base Ak bl' w')(hs:Step pl bl w Ak bl' w')(hv:VRep (At ok0 base Ak bl' w') v val):Rel n ok0 base Ak (updD tm dst v) bl' (a.put dst val) w':=by
 have Ze:∀t v,tm t=Yg v->VRep (At ok0 base Ak bl' w') v (a.tmps.getD t undef):=λt v ht=>(h.tmps t v ht).mono hs.ext;cases dst with
 |none=>exact⟨h.defers,h.size,Ze,hr⟩
 |some d=>
  have I9:d<n:=Ea hd;refine⟨h.defers,by simp[Act.put,h.size],λt v' ht=>?_,hr⟩;simp only[updD,upd]at ht;simp only[Act.put,F6,ZM];by_cases e:t=d
  ·subst e
   simp only[D6,Af]at ht;subst ht;have:t<a.tmps.size:=by rw[h.size];exact I9
   simp[this,hv]
  ·rw[Yy e]at ht
   rw[Yy (λh=>e h.symm)];have:=Ze t v' ht
   rwa [F6]at this
theorem Age{t:Yn}:∀{l:Ye Y2},Operand.tmp t∈l->t∈Ke l
 |x::l,h=>by
  rcases Bl.1 h with h|h
  ·subst h;simp[Ke]
  ·have:=Age h
   cases x<;>simp_all [Ke]
theorem AuM{tm At8:Yn->Ya V}{l:Ye Y2}(h:∀t∈Ke l,tm t=At8 t){x:Y2}(hx:x∈l):RA tm x=RA At8 x:=by
 cases x with
 |tmp t=>simp only[RA,h t (Age hx)]
 |_=>rfl
theorem AuN{i:Yn}{o:Oper}(ho:ops[i]?=Yg o)(hd:Uk n o.dst=Yp){σ:St}{v:V}{rd:Ye Yn}{wr:Ye (Yn×Blk)}{tin:Ye Yn}(hg:o.guard=Yf/\tin=Ke o.op.operands.toList\/∃t want,Pu ops o=Yg (t,want)/\look σ.tm t=Yg (.c (.bool want))/\tin=t::Ke o.op.operands.toList)(hs:∀Ab,(∀b∈rd,Ab b=look σ.bl b)->OpOk P o (Uj σ.tm) Ab v wr):EOk P ops n ⟨i,o.dst,v,tin,rd,wr⟩ (look σ.tm) (look σ.bl):=by
 intro tm bl ht hb ok0 base pl a w hr K Q hk
 have CV:∀t∈Ke o.op.operands.toList,tm t=look σ.tm t:=by
  intro t oA;rcases hg with⟨_,e⟩|⟨t',want,_,_,e⟩
  ·exact ht t (by rw[e];exact oA)
  ·exact ht t (by rw[e];exact DX _ oA)
 have hw:Ya8 o (yielded ops a.tmps)=Yp:=by
  unfold Ya8;rcases hg with⟨e,_⟩|⟨t',want,e1,e2,e3⟩
  ·rw[e]
  ·unfold Pu at e1
   split at e1
   ·cases e1
   ·rename_i j At9 Ln
    rw[Ln];cases hj:(ops[j]?).bind (·.dst)with
    |none=>rw[hj]at e1;cases e1
    |some t2=>
     rw[hj]at e1;simp only[F8,Af,Cb]at e1;obtain⟨e4,e5⟩:=e1;subst e4 e5;have h1:=ht t2 (by rw[e3];simp);rw[e2]at h1;have h2:=hr.tmps t2 _ h1;simp only[VRep,CRep]at h2;simp only[yielded,hj,aD];rw[F6]at h2;cases h3:a.tmps[t2]? with
     |none=>rw[h3]at h2;simp[undef]at h2
     |some u=>rw[h3]at h2;simp only[NA]at h2;subst h2;simp
 unfold wpOp;rw[ho];simp only[hw,D6];refine .inl (hs bl hb ok0 base pl w a hr.rel (λx hx=>?_) K Q λval Ak w' BA Ce hv=>hk Ak _ w' (hr.put hd BA Ce hv) Ce);have DB:x∈o.op.operands.toList:=by simpa using hx
 rw[Ag7,<-AuM CV DB];exact Ag8 hr x
theorem AuO{i:Yn}{o:Oper}(ho:ops[i]?=Yg o)(hd:Uk n o.dst=Yp){tmA:Yn->Ya V}{blA:Yn->Ya Blk}{t:Yn}{want:Ys}(hg:Pu ops o=Yg (t,want)){u:V}(ht:tmA t=Yg u)(hu:u=.tup []\/u=.c (.bool (!want))):EOk P ops n ⟨i,o.dst,.tup [],[t],[],[]⟩ tmA blA:=by
 intro tm bl oA hb ok0 base pl a w hr K Q hk;have h1:=oA t (by simp);rw[ht]at h1;have h2:=hr.tmps t _ h1
 have hw:Ya8 o (yielded ops a.tmps)=Yi:=by
  unfold Ya8;unfold Pu at hg;split at hg
  ·cases hg
  ·rename_i j At9 Ln
   rw[Ln];cases hj:(ops[j]?).bind (·.dst)with
   |none=>rw[hj]at hg;cases hg
   |some t2=>
    rw[hj]at hg;simp only[F8,Af,Cb]at hg;obtain⟨e4,e5⟩:=hg;subst e4 e5;simp only[yielded,hj,aD];rw[F6]at h2;cases h3:a.tmps[t2]? with
    |none=>rfl
    |some u'=>
     rw[h3]at h2;simp only[NA]at h2;rcases hu with e|e
     ·subst e
      obtain⟨vs,h4,h5⟩:=h2;simp only[TReps]at h5;subst h5 h4;rfl
     ·subst e
      simp only[VRep,CRep]at h2;subst h2;cases At9<;>rfl
 unfold wpOp;rw[ho];simp only[hw,IQ,CN];have AMk:VRep (At ok0 base pl bl w) (.tup []) undef:=⟨[],rfl,rfl⟩;exact hk pl _ w (hr.put hd hr.rel (Step.refl pl bl w) AMk) (Step.refl pl bl w)
theorem RC{tm:Ye (Yn×V)}{t:Yn}{v:V}(h:look tm t=Yg v):look (put tm t v)=look tm:=by
 funext j;rw[aR];split
 ·rename_i e;rw[e,h]
 ·rfl
theorem bY{X:Ctx}(hT:TOk P X.T)(hΓ:ΓOk P X.Γ){k:St->Ye LogE->Ya β}:∀{l:Ye (Yn×Oper)}{σ:St}{log:Ye LogE},(∀p∈l,ops[p.1]?=Yg p.2)->LJ X n ops l σ log k=Yg r->∃es σ',k σ' (es.reverse++log)=Yg r/\es.map (·.i)=l.map (·.1)/\Valid P ops n es (look σ.tm) (look σ.bl)/\look σ'.tm=finT es (look σ.tm)/\look σ'.bl=finB es (look σ.bl)
 |[],σ,log,_,h=>⟨[],σ,h,rfl,trivial,rfl,rfl⟩
 |(i,o)::rest,σ,log,hl,h=>by
  have ho:ops[i]?=Yg o:=hl (i,o) (by simp);have GS:∀p∈rest,ops[p.1]?=Yg p.2:=λp hp=>hl p (by simp[hp]);simp only[LJ]at h;cases hd:Uk n o.dst with
  |false=>rw[hd]at h;cases h
  |true=>
   rw[hd]at h;simp only[As]at h
   have take:∀(σ1:St)(tin:Ye Yn),look σ1.tm=look σ.tm->look σ1.bl=look σ.bl->
     (o.guard=Yf/\tin=Ke o.op.operands.toList\/∃t want,Pu ops o=Yg (t,want)/\look σ1.tm t=Yg (.c (.bool want))/\tin=t::Ke o.op.operands.toList)->
     (bB X o (Uj σ1.tm) (look σ1.bl) σ1.nx λv rd wr=>LJ X n ops rest ⟨putD σ1.tm o.dst v,puts σ1.bl wr,qY σ1.nx wr⟩ (⟨i,o.dst,v,tin,rd,wr⟩::log) k)=Yg r->
     ∃es σ',k σ' (es.reverse++log)=Yg r/\es.map (·.i)=((i,o)::rest).map (·.1)/\Valid P ops n es (look σ.tm) (look σ.bl)/\look σ'.tm=finT es (look σ.tm)/\look σ'.bl=finB es (look σ.bl):=by
    intro σ1 tin et eb hg h;obtain⟨v,rd,wr,hk,hs⟩:=AuI hT hΓ h;obtain⟨es,σ',h1,h2,h3,h4,h5⟩:=bY hT hΓ GS hk;refine⟨⟨i,o.dst,v,tin,rd,wr⟩::es,σ',by simpa using h1,by simp[h2],⟨?_,?_⟩,?_,?_⟩
    ·rw[<-et,<-eb]
     exact AuN ho hd hg hs
    ·simp only[bW,r4,et,eb]at h3
     exact h3
    ·rw[h4];simp only[bW,et,finT]
    ·rw[h5];simp only[r4,eb,finB]
   have skip:∀(σ1:St)(t:Yn)(want:Ys)(u:V),look σ1.tm=look σ.tm->look σ1.bl=look σ.bl->Pu ops o=Yg (t,want)->look σ.tm t=Yg u->(u=.tup []\/u=.c (.bool (!want)))->
     (LJ X n ops rest ⟨putD σ1.tm o.dst (.tup []),σ1.bl,σ1.nx⟩ (⟨i,o.dst,.tup [],[t],[],[]⟩::log) k)=Yg r->
     ∃es σ',k σ' (es.reverse++log)=Yg r/\es.map (·.i)=((i,o)::rest).map (·.1)/\Valid P ops n es (look σ.tm) (look σ.bl)/\look σ'.tm=finT es (look σ.tm)/\look σ'.bl=finB es (look σ.bl):=by
    intro σ1 t want u et eb hg ht hu h;obtain⟨es,σ',h1,h2,h3,h4,h5⟩:=bY hT hΓ GS h;refine⟨⟨i,o.dst,.tup [],[t],[],[]⟩::es,σ',by simpa using h1,by simp[h2],⟨AuO ho hd hg ht hu,?_⟩,?_,?_⟩
    ·simp only[bW,et,eb]at h3
     exact h3
    ·rw[h4];simp only[bW,et,finT]
    ·rw[h5];simp only[eb,finB,updL]
   split at h
   ·rename_i Ln
    exact take σ _ rfl rfl (.inl ⟨Ln,rfl⟩) h
   ·split at h
    ·cases h
    ·rename_i t want hg
     split at h
     ·rename_i ht
      exact skip σ t want _ rfl rfl hg ht (.inl rfl) h
     ·rename_i g ht
      cases want<;>cases g<;>simp only[As,C7,aK,Bool.not_false]at h
      ·exact take ⟨put σ.tm t (.c (.bool Yi)),σ.bl,σ.nx⟩ _ (RC ht) rfl (.inr ⟨t,Yi,hg,by rw[RC ht,ht],rfl⟩) h
      ·exact skip ⟨put σ.tm t (.c (.bool Yp)),σ.bl,σ.nx⟩ t Yi _ (RC ht) rfl hg ht (.inr rfl) h
      ·exact skip ⟨put σ.tm t (.c (.bool Yi)),σ.bl,σ.nx⟩ t Yp _ (RC ht) rfl hg ht (.inr rfl) h
      ·exact take ⟨put σ.tm t (.c (.bool Yp)),σ.bl,σ.nx⟩ _ (RC ht) rfl (.inr ⟨t,Yp,hg,by rw[RC ht,ht],rfl⟩) h
     ·cases h
end
end
end Go.Lift
namespace Go.Lift
noncomputable section
open Go.RowKit
def AExit.toExit:AExit->Exit
 |.normal=>.normal
 |.exit id=>.exit id
 |.ret=>.ret
structure Steps where
 rel:(Yn->Ya Pl)->(Yn->Ya Blk)->Yx->(Yn->Ya Pl)->(Yn->Ya Blk)->Yx->Prop
 refl:∀pl bl w,rel pl bl w pl bl w
 trans:∀{pl pl1 pl2 bl bl1 Ab w w1 w2},rel pl bl w pl1 bl1 w1->rel pl1 bl1 w1 pl2 Ab w2->rel pl bl w pl2 Ab w2
 drawn:∀{pl bl w Ak bl' w'},Step pl bl {w with drawn:=w.drawn+1} Ak bl' w'->rel pl bl w Ak bl' w'
 of:∀{pl bl w Ak bl' w'},Step pl bl w Ak bl' w'->rel pl bl w Ak bl' w'
theorem Step.undrawn{pl Ak:Yn->Ya Pl}{bl bl':Yn->Ya Blk}{w w':Yx}(h:Step pl bl {w with drawn:=w.drawn+1} Ak bl' w'):Step pl bl w Ak bl' w':=⟨h.os,h.tape,h.output,h.size,h.out,h.cells,h.rows⟩
@[reducible] def AuP(m:Yn):Steps:=⟨StepM m,StepM.refl m,StepM.trans,λh=>h.undrawn.toM,Step.toM⟩
@[reducible] def Agf:Steps:=⟨Step,Step.refl,Step.trans,Step.undrawn,id⟩
structure Fr where
 O:(Yn->Ya Blk)->(Yn->Ya Blk)
 upd:∀f wr,O (updL f wr)=updL (O f) wr
 al:Yn->Prop
 agree:∀f b,al b->O f b=f b
@[reducible] def fr0:Fr:=⟨λf=>f,λ_ _=>rfl,λ_=>True,λ_ _ _=>rfl⟩
def ov(F f:Yn->Ya Blk):Yn->Ya Blk:=λi=>
 match f i with
 |some B=>Yg B
 |none=>F i
theorem Agg(F:Yn->Ya Blk):∀(wr:Ye (Yn×Blk))(f:Yn->Ya Blk),ov F (updL f wr)=updL (ov F f) wr
 |[],_=>rfl
 |(i,x)::r,f=>by simp only[updL];rw[Agg F r];congr 1;funext j;simp only[ov,upd];by_cases h:j=i<;>simp[h]
@[reducible] def frF(ids:Ye Yn)(F:Yn->Ya Blk)(h:∀b∈ids,F b=Yf):Fr:=⟨ov F,λf wr=>Agg F wr f,λb=>b∈ids,λf b hb=>by
 simp only[ov];cases hf:f b with
 |some B=>rfl
 |none=>exact h b hb⟩
section
variable{P:Yw}{n:Yn}{R:Steps}{ι:Type}{fr:ι->Fr}{β:Type}{r:β}
theorem Valid.among{ops:YQ Oper}(fr:Fr):∀{es:Ye LogE}{tm:Yn->Ya V}{bl:Yn->Ya Blk},Valid P ops n es tm bl->(∀e∈es,∀b∈e.rd,fr.al b)->Valid P ops n es tm (fr.O bl)
 |[],_,_,_,_=>trivial
 |e::es,tm,bl,⟨h1,h2⟩,ha=>⟨h1.agree (λ_ _=>rfl) (λb hb=>fr.agree bl b (ha e (by simp) b hb)),by rw[<-fr.upd];exact Valid.among fr h2 λe' Mh=>ha e' (DX _ Mh)⟩
theorem Agh(fr:Fr):∀{es:Ye LogE}{bl:Yn->Ya Blk},finB es (fr.O bl)=fr.O (finB es bl)
 |[],_=>rfl
 |e::es,bl=>by simp only[finB];rw[<-fr.upd];exact Agh fr
def SimR(P:Yw)(n:Yn)(R:Steps){ι:Type}(fr:ι->Fr)(c:Code)(σ:St)(k:Kx β)(r:β):Prop:=
 ∃e' σ',k e' σ'=Yg r/\∀(i:ι)(ok0:OK0 P)(base:Yn)(pl:Yn->Ya Pl)(a:Act)(w:Yx),Rel n ok0 base pl (look σ.tm) ((fr i).O (look σ.bl)) a w->
  c.wp P (λe a' w'=>e=e'.toExit/\∃Ak,Rel n ok0 base Ak (look σ'.tm) ((fr i).O (look σ'.bl)) a' w'/\R.rel pl ((fr i).O (look σ.bl)) w Ak ((fr i).O (look σ'.bl)) w') a w
def AuQ(P:Yw)(n:Yn)(R:Steps){ι:Type}(fr:ι->Fr)(c:Code)(cut:Cut):Prop:=
 ∀{β:Type}(σ:St)(k:Kx β)(r:β),cut.run σ k=Yg r->SimR P n R fr c σ k r
def Sim(P:Yw)(n m:Yn)(c:Code)(σ:St)(k:Kx β)(r:β):Prop:=
 ∃e' σ',k e' σ'=Yg r/\∀(ok0:OK0 P)(base:Yn)(pl:Yn->Ya Pl)(a:Act)(w:Yx),Rel n ok0 base pl (look σ.tm) (look σ.bl) a w->
  c.wp P (λe a' w'=>e=e'.toExit/\∃Ak,Rel n ok0 base Ak (look σ'.tm) (look σ'.bl) a' w'/\StepM m pl (look σ.bl) w Ak (look σ'.bl) w') a w
def RD(P:Yw)(n m:Yn)(c:Code)(cut:Cut):Prop:=
 ∀{β:Type}(σ:St)(k:Kx β)(r:β),cut.run σ k=Yg r->Sim P n m c σ k r
def find(q:Yn):Yn->Code->Ye Code
 |p,c=>
  let nG:Ye Code:=bif Yo p q then [c]else []
  match c with
  |.seq a b=>nG++(find q (2*p) a++find q (2*p+1) b)
  |.cond _ a b=>nG++(find q (2*p) a++find q (2*p+1) b)
  |.block _ a=>nG++find q (2*p) a
  |_=>nG
theorem MF(p:Yn)(c:Code):c∈find p p c:=by unfold find;cases c<;>simp
theorem U7:∀(l:Ye Oper)(s:Yn),(Hw s l).map (·.1)=List.range' s l.length
 |[],_=>rfl
 |o::l,s=>by simp[Hw,U7 l,List.range'_succ]
theorem U8{ops:YQ Oper}:∀(l:Ye Oper)(s:Yn),ops.toList.drop s=l->∀p∈Hw s l,ops[p.1]?=Yg p.2
 |[],_,_,p,hp=>by simp[Hw]at hp
 |o::l,s,h,p,hp=>by
  have hs:s<ops.toList.length:=by
   rcases TS s ops.toList.length with h1|h1
   ·exact h1
   ·rw[ZP h1]at h;cases h
  rw[JW hs]at h;injection h with h1 h2;simp only[Hw,Bl]at hp;rcases hp with e|hp
  ·subst e
   simp only[Array.getElem_toList]at h1;rw[<-h1];exact QZ (by simpa using hs)
  ·exact U8 l (s+1) h2 p hp
theorem sM:∀{l:Ye (Yn×Oper)},LK l=Yp->∀p∈l,∀e∈p.2.after,YJ .any e=Yp->e.on<p.1
 |[],_,p,hp=>by simp at hp
 |(i,o)::l,h,p,hp=>by
  simp only[LK,Dk,FG]at h;rcases Bl.1 hp with e|hp
  ·subst e
   intro e he hb;have:=h.1 e (by simpa using he);simp only[hb,aK,Ph]at this;exact Ea this
  ·exact sM h.2 p hp
theorem Agi{m:Yn}{y:LogE}:∀{l:Ye LogE},bC m y l=Yp->∀x∈l,Rz x y=Yi\/Yaf m x.i=Yp
 |[],_,x,hx=>by simp at hx
 |z::l,h,x,hx=>by
  simp only[bC,Dk,Pf,Re]at h;rcases Bl.1 hx with e|hx
  ·subst e;exact h.1
  ·exact Agi h.2 x hx
theorem sN{ms:Ye Yn}:∀{l:Ye LogE},fine ms l=Yp->l.Pairwise (λy x=>Rz x y=Yi\/Yaf (ms.getD y.i 0) x.i=Yp)
 |[],_=>YF
 |y::l,h=>by simp only[fine,Dk]at h;exact Fs.2 ⟨λx hx=>Agi h.1 x hx,sN h.2⟩
theorem Rel.drawn{ok0:OK0 P}{base:Yn}{pl:Yn->Ya Pl}{tm:Yn->Ya V}{bl:Yn->Ya Blk}{a:Act}{w w':Yx}(h:Rel n ok0 base pl tm bl a w)(hw:w'.heap=w.heap):Rel n ok0 base pl tm bl a w':=by
 have hk:Ext (At ok0 base pl bl w) (At ok0 base pl bl w'):=
  ⟨Av _,λg hg _=>⟨hg,by show w'.heap[g]?=w.heap[g]?;rw[hw]⟩,λ_ _ h=>h,λ_ sv Ac h=>⟨sv,Ac,h,KeepR.refl _ _ _⟩⟩
 refine⟨h.defers,h.size,λt v ht=>(h.tmps t v ht).mono hk,by rw[hw];exact h.rel.baseLe,λi B hB=>?_,h.rel.sep,h.rel.fresh,h.rel.glob.out (by rw[hw];exact Av _) (λg _ ho=>⟨by rw[hw],ho⟩)⟩;obtain⟨p,hp,hb⟩:=h.rel.blks i B hB;exact⟨p,hp,hb.mono hk λg _=>by show w'.heap[g]?=w.heap[g]?;rw[hw]⟩
theorem AuR(hm:P.follows .mixedOrders=Yp){X:Ctx}(hA:∀log,MB X.A log=Yp->∀e∈log,∀b∈e.rd,∀i,(fr i).al b)(hT:TOk P X.T)(hΓ:ΓOk P X.Γ){id:Yn}{ops:YQ Oper}{draw:Ys}{σ:St}{k:Kx β}(h:(LJ X n ops (Hw 0 ops.toList) σ [] λσ' log=>bif MB X.A log&&(!draw||(LK (Hw 0 ops.toList)&&fine (Hd ops.toList []) log))then k .normal σ' else Yf)=Yg r):SimR P n R fr (.region id ops draw) σ k r:=by
 obtain⟨es,σ',h1,h2,h3,h4,h5⟩:=bY hT hΓ (U8 ops.toList 0 (by simp)) h;rw[U7]at h2;have EU:es.map (·.i)=List.range ops.size:=by rw[h2,pB];simp
 simp only[In]at h1
 have hc:MB X.A es.reverse=Yp/\(!draw||(LK (Hw 0 ops.toList)&&fine (Hd ops.toList []) es.reverse))=Yp/\k .normal σ'=Yg r:=by
  cases hb:(MB X.A es.reverse&&(!draw||(LK (Hw 0 ops.toList)&&fine (Hd ops.toList []) es.reverse)))with
  |false=>rw[hb]at h1;cases h1
  |true=>rw[hb]at h1;exact⟨(andB hb).1,(andB hb).2,h1⟩
 obtain⟨Q6,hc⟩:=hc;refine⟨.normal,σ',hc.2,λi ok0 base pl a w hr=>?_⟩;have h3:=Valid.among (fr i) h3 λe he b hb=>hA _ Q6 e (List.mem_reverse.2 he) b hb i;have h5:(fr i).O (look σ'.bl)=finB es ((fr i).O (look σ.bl)):=by rw[h5,Agh]
 cases draw with
 |false=>
  refine wp_region ?_;rw[<-EU];refine sK h3 hr λAk a' w' BA Cd=>⟨rfl,Ak,?_,?_⟩
  ·rw[h4,h5];exact BA
  ·rw[h5];exact R.of Cd
 |true=>
  have Ib:=hc.1;simp only[aK,Ph,Dk]at Ib;obtain⟨hb,hf⟩:=Ib
  have Lj:∀(j:Yn)(o:Oper),ops[j]?=Yg o->∀e∈o.after,YJ .any e=Yp->e.on<j:=by
   intro j o ho;have hj:j<ops.size:=(IN.1 ho).1
   have D9:j∈(Hw 0 ops.toList).map (·.1):=by rw[U7];simp only[Hq,List.mem_range'_1];omega
   obtain⟨p,hp,e⟩:=Hb.1 D9;have h6:=U8 (ops:=ops) ops.toList 0 (by simp) p hp;rw[e,ho]at h6;injection h6 with h6;have:=sM hb p hp;rw[e,<-h6]at this;exact this
  have Ml:∀i,(∃e∈es,e.i=i)↔i<ops.size:=by intro i;rw[<-Rg,<-EU,Hb]
  refine wp_region_any hm ?_;refine Agd Lj ops.size (es:=es) ?_ (by simp) ?_ (λi hi=>?_) ?_ (λe he=>(Ml e.i).1 ⟨e,he,rfl⟩) ?_ h3 (hr.drawn (w':={w with drawn:=w.drawn+1}) rfl) λAk a' w' BA Cd=>⟨rfl,Ak,?_,?_⟩
  ·have:=Aw List.length EU
   simpa using this
  ·intro j o _ hj
   exfalso;rw[F6]at hj;rcases TS j ops.size with h7|h7
   ·simp[h7]at hj
   ·simp[Nat.not_lt.2 h7]at hj
  ·constructor
   ·intro _;exact(Ml i).2 hi
   ·intro _;simp[F6,hi]
  ·have:(es.map (·.i)).Pairwise (· < ·):=by rw[EU];exact List.pairwise_lt_range
   exact pJ.1 this
  ·have:=sN hf
   exact List.pairwise_reverse.1 this
  ·rw[h4,h5];exact BA
  ·rw[h5]
   exact R.drawn Cd
theorem F9{c:Code}{Q Q':Exit->Act->Yx->Prop}{a:Act}{w:Yx}(h:c.wp P Q a w)(hq:∀e a w,Q e a w->Q' e a w):c.wp P Q' a w:=by intro b k cs;obtain⟨e,a',w',h1,h2⟩:=h b k cs;exact⟨e,a',w',hq _ _ _ h1,h2⟩
theorem sO(hm:P.follows .mixedOrders=Yp){X:Ctx}(hA:∀log,MB X.A log=Yp->∀e∈log,∀b∈e.rd,∀i,(fr i).al b)(hT:TOk P X.T)(hΓ:ΓOk P X.Γ):∀{c:Code}{Λ:Yn->Ya Cut}{p:Yn}{σ:St}{k:Kx β},(∀q cut,Λ q=Yg cut->∀c'∈find q p c,AuQ P n R fr c' cut)->exec X n Λ p c σ k=Yg r->SimR P n R fr c σ k r:=by
 intro c
 induction c with
 |region id ops draw=>
  intro Λ p σ k hΛ h;unfold exec at h;split at h
  ·rename_i cut hc;exact hΛ p cut hc _ (MF p _) σ k r h
  ·exact AuR hm hA hT hΓ h
 |skip=>
  intro Λ p σ k hΛ h;unfold exec at h;split at h
  ·rename_i cut hc;exact hΛ p cut hc _ (MF p _) σ k r h
  ·exact⟨.normal,σ,h,λi ok0 base pl a w hr=>wp_skip ⟨rfl,pl,hr,R.refl _ _ _⟩⟩
 |exit id=>
  intro Λ p σ k hΛ h;unfold exec at h;split at h
  ·rename_i cut hc;exact hΛ p cut hc _ (MF p _) σ k r h
  ·exact⟨.exit id,σ,h,λi ok0 base pl a w hr=>wp_exit ⟨rfl,pl,hr,R.refl _ _ _⟩⟩
 |ret=>
  intro Λ p σ k hΛ h;unfold exec at h;split at h
  ·rename_i cut hc;exact hΛ p cut hc _ (MF p _) σ k r h
  ·exact⟨.ret,σ,h,λi ok0 base pl a w hr=>wp_ret ⟨rfl,pl,hr,R.refl _ _ _⟩⟩
 |seq x y ihx ihy=>
  intro Λ p σ k hΛ h;unfold exec at h;split at h
  ·rename_i cut hc;exact hΛ p cut hc _ (MF p _) σ k r h
  ·simp only at h
   obtain⟨e1,σ1,h1,Ii⟩:=ihx (λq cut hq c' GM=>hΛ q cut hq c' (by unfold find;simp[GM])) h;have hy:∀{k':Kx β},exec X n Λ (2*p+1) y σ1 k'=Yg r->SimR P n R fr y σ1 k' r:=ihy (λq cut hq c' GM=>hΛ q cut hq c' (by unfold find;simp[GM]));cases e1 with
   |normal=>simp only at h1;obtain⟨e2,σ2,h2,QO⟩:=hy h1;refine⟨e2,σ2,h2,λi ok0 base pl a w hr=>wp_seq (F9 (Ii i ok0 base pl a w hr) λe a' w' ⟨he,Ak,BA,Cd⟩=>?_)⟩;subst he;exact F9 (QO i ok0 base Ak a' w' BA) λe a2 w2 ⟨Lm,pl2,Fa,AW⟩=>⟨Lm,pl2,Fa,R.trans Cd AW⟩
   |exit id=>refine⟨.exit id,σ1,h1,λi ok0 base pl a w hr=>wp_seq (F9 (Ii i ok0 base pl a w hr) λe a' w' hq=>?_)⟩;have he:=hq.1;subst he;exact hq
   |ret=>refine⟨.ret,σ1,h1,λi ok0 base pl a w hr=>wp_seq (F9 (Ii i ok0 base pl a w hr) λe a' w' hq=>?_)⟩;have he:=hq.1;subst he;exact hq
 |cond x a b iha ihb=>
  intro Λ p σ k hΛ h;unfold exec at h;split at h
  ·rename_i cut hc;exact hΛ p cut hc _ (MF p _) σ k r h
  ·simp only at h
   split at h
   ·rename_i g hg
    have Ar5:∀(i:ι)(ok0:OK0 P)(base:Yn)(pl:Yn->Ya Pl)(a:Act)(w:Yx),Rel n ok0 base pl (look σ.tm) ((fr i).O (look σ.bl)) a w->a.eval x=.bool g:=by intro i ok0 base pl a w hr;have:=Ag8 hr x;rw[<-Ag7,hg]at this;exact this
    cases g with
    |true=>obtain⟨e1,σ1,h1,Ii⟩:=iha (λq cut hq c' GM=>hΛ q cut hq c' (by unfold find;simp[GM])) h;exact⟨e1,σ1,h1,λi ok0 base pl a w hr=>wp_cond_true (Ar5 i ok0 base pl a w hr) (Ii i ok0 base pl a w hr)⟩
    |false=>obtain⟨e1,σ1,h1,Ii⟩:=ihb (λq cut hq c' GM=>hΛ q cut hq c' (by unfold find;simp[GM])) h;exact⟨e1,σ1,h1,λi ok0 base pl a w hr=>wp_cond_false (Ar5 i ok0 base pl a w hr) (Ii i ok0 base pl a w hr)⟩
   ·cases h
 |block id a iha=>
  intro Λ p σ k hΛ h;unfold exec at h;split at h
  ·rename_i cut hc;exact hΛ p cut hc _ (MF p _) σ k r h
  ·simp only at h
   obtain⟨e1,σ1,h1,Ii⟩:=iha (λq cut hq c' GM=>hΛ q cut hq c' (by unfold find;simp[GM])) h;cases e1 with
   |normal=>refine⟨.normal,σ1,h1,λi ok0 base pl a w hr=>wp_block (F9 (Ii i ok0 base pl a w hr) λe a' w' hq=>?_)⟩;have he:=hq.1;subst he;exact hq
   |ret=>refine⟨.ret,σ1,h1,λi ok0 base pl a w hr=>wp_block (F9 (Ii i ok0 base pl a w hr) λe a' w' hq=>?_)⟩;have he:=hq.1;subst he;exact hq
   |exit Tz=>
    simp only at h1;cases hid:Yo Tz id with
    |true=>rw[hid]at h1;have hid:=AB hid;refine⟨.normal,σ1,h1,λi ok0 base pl a w hr=>wp_block (F9 (Ii i ok0 base pl a w hr) λe a' w' hq=>?_)⟩;have he:=hq.1;subst he;simp only[AExit.toExit,Exit.inBlock,hid,D6];exact⟨trivial,hq.2⟩
    |false=>
     rw[hid]at h1;have AO:Tz≠id:=λe=>by rw[e,Pq]at hid;cases hid
     refine⟨.exit Tz,σ1,h1,λi ok0 base pl a w hr=>wp_block (F9 (Ii i ok0 base pl a w hr) λe a' w' hq=>?_)⟩;have he:=hq.1;subst he;simp only[AExit.toExit,Exit.inBlock,AO,CN];exact⟨trivial,hq.2⟩
 |loop a iha=>
  intro Λ p σ k hΛ h;unfold exec at h;split at h
  ·rename_i cut hc;exact hΛ p cut hc _ (MF p _) σ k r h
  ·simp only at h
   generalize X.N=i at h
   have key:∀(i:Yn)(σ:St),bD (λσ' k'=>exec X n (λ_=>Yf) 1 a σ' k') i σ k=Yg r->∃e' σ',k e' σ'=Yg r/\∀(j:ι)(ok0:OK0 P)(base:Yn)(pl:Yn->Ya Pl)(a':Act)(w:Yx),Rel n ok0 base pl (look σ.tm) ((fr j).O (look σ.bl)) a' w->
     Code.rounds P a (λe a' w'=>e=e'.toExit/\∃Ak,Rel n ok0 base Ak (look σ'.tm) ((fr j).O (look σ'.bl)) a' w'/\R.rel pl ((fr j).O (look σ.bl)) w Ak ((fr j).O (look σ'.bl)) w') i a' w:=by
    intro i
    induction i with
    |zero=>intro σ h;cases h
    |succ i ih=>
     intro σ h;simp only[bD]at h;obtain⟨e1,σ1,h1,Ii⟩:=iha (Λ:=λ_=>Yf) (λ_ _ h=>by cases h) h;cases e1 with
     |normal=>
      simp only at h1;obtain⟨e2,σ2,h2,QO⟩:=ih σ1 h1;refine⟨e2,σ2,h2,λj ok0 base pl a' w hr=>?_⟩;rw[rounds_succ];refine F9 (Ii j ok0 base pl a' w hr) λe a1 w1 ⟨he,pl1,Nt,Bx⟩=>?_;subst he
      have Hm:∀(i:Yn){Q Q':Exit->Act->Yx->Prop}{a1:Act}{w:Yx},(∀e a w,Q e a w->Q' e a w)->Code.rounds P a Q i a1 w->Code.rounds P a Q' i a1 w:=by
       intro i
       induction i with
       |zero=>intro _ _ _ _ _ h;exact h
       |succ i ihj=>
        intro Q Q' a1 w hq h;rw[rounds_succ]at h⊢;refine F9 h λe a w h=>?_;cases e with
        |normal=>exact ihj hq h
        |_=>exact hq _ _ _ h
      exact Hm i (λe a2 w2 ⟨q1,pl2,q2,q3⟩=>⟨q1,pl2,q2,R.trans Bx q3⟩) (QO j ok0 base pl1 a1 w1 Nt)
     |exit id=>refine⟨.exit id,σ1,h1,λj ok0 base pl a' w hr=>?_⟩;rw[rounds_succ];refine F9 (Ii j ok0 base pl a' w hr) λe a1 w1 hq=>?_;have he:=hq.1;subst he;exact hq
     |ret=>refine⟨.ret,σ1,h1,λj ok0 base pl a' w hr=>?_⟩;rw[rounds_succ];refine F9 (Ii j ok0 base pl a' w hr) λe a1 w1 hq=>?_;have he:=hq.1;subst he;exact hq
   obtain⟨e',σ',h1,h2⟩:=key i σ h;exact⟨e',σ',h1,λj ok0 base pl a' w hr=>wp_loop_rounds i (h2 j ok0 base pl a' w hr)⟩
 |_=>
  intro Λ p σ k hΛ h;unfold exec at h;split at h
  ·rename_i cut hc;exact hΛ p cut hc _ (MF p _) σ k r h
  ·cases h
theorem sP(hm:P.follows .mixedOrders=Yp){m:Yn}{X:Ctx}(hT:TOk P X.T)(hΓ:ΓOk P X.Γ){Λ:Yn->Ya Cut}{c:Code}{p:Yn}{σ:St}{k:Kx β}(h:∀q cut,Λ q=Yg cut->∀c'∈find q p c,RD P n m c' cut)(hk:exec X n Λ p c σ k=Yg r):Sim P n m c σ k r:=by
 obtain⟨e',σ',h1,h2⟩:=sO (R:=AuP m) (fr:=λ_:Unit=>fr0) hm (λ_ _ _ _ _ _ _=>trivial) hT hΓ (λq cut hq c' GM=>λσ k r hr=>by obtain⟨e',σ',h1,h2⟩:=h q cut hq c' GM σ k r hr;exact⟨e',σ',h1,λ_=>h2⟩) hk
 exact⟨e',σ',h1,h2 ()⟩
end
end
end Go.Lift
namespace Go.Lift
noncomputable section
open Go.RowKit
structure View where
 m:Yn
 slots:Ye Yn
 params:Ye (Ys×Ye CT)
 ins:Ye BT
abbrev View.den(v:View):Type:=ST.dens v.params×BT.dens v.ins
def idsB(bl:Yn->Ya Blk)(nx:Yn):Ye BT->Yn->Ye (Yn×Yn)->Ya (Ye Yn)
 |[],_,_=>Yg []
 |t::r,j,ps=>
  match look ps j with
  |some i=>
   match t,bl i with
   |.cells _ l,Yg (.cells _ cs)=>
    match idsB bl nx r (j+1) (ps++Kb l cs)with
    |some is=>Yg (i::is)
    |none=>Yf
   |_,_=>
    match idsB bl nx r (j+1) ps with
    |some is=>Yg (i::is)
    |none=>Yf
  |none=>
   match idsB bl (nx+1) r (j+1) ps with
   |some is=>Yg (nx::is)
   |none=>Yf
def fEq(ids:Ye Yn):Ye (Ye Yj×(YA×Yn))->Ye (Ye Yj×(YA×Yn))->Ys
 |[],[]=>Yp
 |x::l,y::m=>(Yd (x.1=y.1)&&(Yo x.2.1 y.2.1&&(match ids[x.2.2]? with|some i=>Yo i y.2.2|none=>Yi)))&&fEq ids l m
 |_,_=>Yi
def Db(bl:Yn->Ya Blk)(ids:Ye Yn):(l:Ye BT)->Ye Yn->Ya (BT.dens l)
 |[],[]=>Yg ()
 |.cells t l::r,i::is=>
  match bl i with
  |some (.cells t' cs)=>
   bif Yo t t' then
    match Bn bl ids l cs with
    |none=>Yf
    |some y=>
     match Db bl ids r is with
     |none=>Yf
     |some z=>Yg (y,z)
   else Yf
  |_=>Yf
 |.row t e::r,i::is=>
  match bl i with
  |some (.row t' e' _ l)=>
   bif Yo t t' then
    if h:e'=e then
     match Db bl ids r is with
     |none=>Yf
     |some z=>Yg ((h▸l:Ye e.den),z)
    else Yf
   else Yf
  |none=>
   match Db bl ids r is with
   |none=>Yf
   |some z=>Yg (([]:Ye e.den),z)
  |_=>Yf
 |.map t k v vg::r,i::is=>
  match bl i with
  |some (.map t' k' v' TF l)=>
   bif Yo t t'&&(vg==TF)then
    if h:k'=k then
     if h2:v'=v then
      match Db bl ids r is with
      |none=>Yf
      |some z=>Yg ((h▸(h2▸l:Ye (k'.den×v.den)):Ye (k.den×v.den)),z)
     else Yf
    else Yf
   else Yf
  |_=>Yf
 |.mat t et e::r,i::is=>
  match bl i with
  |some (.mat t' X7 e' _ _ Yf l)=>
   bif Yo t t'&&Yo et X7 then
    if h:e'=e then
     match Db bl ids r is with
     |none=>Yf
     |some z=>Yg ((h▸l:Ye (Ye e.den)),z)
    else Yf
   else Yf
  |none=>
   match Db bl ids r is with
   |none=>Yf
   |some z=>Yg (([]:Ye (Ye e.den)),z)
  |_=>Yf
 |.tree t e::r,i::is=>
  match bl i with
  |some (.tree t' e' _ _ Yf l)=>
   bif Yo t t' then
    if h:e'=e then
     match Db bl ids r is with
     |none=>Yf
     |some z=>Yg ((h▸l:Ye e.ty.den),z)
    else Yf
   else Yf
  |none=>
   match Db bl ids r is with
   |none=>Yf
   |some z=>Yg (([]:Ye e.ty.den),z)
  |_=>Yf
 |.fmap t l::r,i::is=>
  match bl i with
  |some (.fmap t' l')=>bif Yo t t'&&fEq ids l l' then Db bl ids r is else Yf
  |_=>Yf
 |_,_=>Yf
def FU:Ye CT->Ye C->Ye Yn
 |.data τ::l,cs=>CE (cs.take τ.size)++FU l (cs.drop τ.size)
 |_::l,_::cs=>FU l cs
 |_,_=>[]
def Gg:Ye (Ys×Ye CT)->Ye V->Ye Yn
 |t::l,v::vs=>
  match v.cells with
  |some cs=>FU t.2 cs++Gg l vs
  |none=>Gg l vs
 |_,_=>[]
def Fi(bl:Yn->Ya Blk):Ye BT->Ye Yn->Ye Yn
 |.cells _ l::r,i::is=>
  match bl i with
  |some (.cells _ cs)=>FU l cs++Fi bl r is
  |_=>Fi bl r is
 |_::r,_::is=>Fi bl r is
 |_,_=>[]
def RE(tm:Ye (Yn×V)):Ye Yn->Ya (Ye V)
 |[]=>Yg []
 |t::r=>
  match look tm t with
  |some v=>
   match RE tm r with
   |some vs=>Yg (v::vs)
   |none=>Yf
  |none=>Yf
def AuS(m:Yn):Ye (Yn×Yn):=(AP 0 m).zip (AP 0 m)
def P4:Ye Yn->Ye Yn->Ys
 |[],[]=>Yp
 |x::r,y::s=>Yo x y&&P4 r s
 |_,_=>Yi
def View.read(v:View)(σ:St):Ya v.den:=
 match RE σ.tm v.slots with
 |none=>Yf
 |some vs=>
  match idsB (look σ.bl) σ.nx v.ins 0 (AuS v.m++Uc v.params vs)with
  |none=>Yf
  |some ids=>
   match Hv (look σ.bl) ids v.params vs with
   |none=>Yf
   |some x=>
    match Db (look σ.bl) ids v.ins ids with
    |none=>Yf
    |some y=>
     bif YI v.m v.ins.length&&(P4 (ids.take v.m) (AP 0 v.m)&&(JX ids&&!meet (Gg v.params vs++Fi (look σ.bl) v.ins ids) ids))then Yg (x,y)else Yf
def mkT(ids:Ye Yn):Ye Yn->(l:Ye (Ys×Ye CT))->ST.dens l->Ye (Yn×V)
 |s::ss,t::l,x=>(s,V.mk t.1 (mkC ids t.2 x.1))::mkT ids ss l x.2
 |_,_,_=>[]
def U9:Yn->Ye Blk->Ye (Yn×Blk)
 |_,[]=>[]
 |i,b::r=>(i,b)::U9 (i+1) r
def View.mk'(v:View)(d:v.den):St:=
 ⟨mkT (AP 0 v.ins.length) v.slots v.params d.1,U9 0 (mkB (AP 0 v.ins.length) v.ins d.2),v.ins.length⟩
theorem Agj:∀(l:Ye Blk)(s i:Yn),look (U9 s l) i=if s<=i then l[i-s]? else Yf
 |[],s,i=>by simp[U9,Fw,Fh]
 |b::l,s,i=>by
  simp only[U9,Fw,Fh];by_cases h:s=i
  ·subst h;simp
  ·rw[IT (λe=>h e.symm),C7,Agj]
   by_cases h2:s<=i
   ·have h3:s+1<=i:=by omega
    have h4:i-s=(i-(s+1))+1:=by omega
    simp[h2,h3,h4]
   ·have h3:¬s+1<=i:=by omega
    simp[h2,h3]
theorem P5(v:View)(d:v.den):look (v.mk' d).bl=fnBl (mkB (AP 0 v.ins.length) v.ins d.2):=by funext i;simp[View.mk',Agj,fnBl]
theorem sQ{bl:Yn->Ya Blk}:∀{τ:Ty}{cs:Ye C}{x:τ.den}{r:Ye C},pack bl τ cs=Yg (x,r)->∃ds,cs=ds++r/\ds.length=τ.size/\pack bl τ ds=Yg (x,[])
 |.bool,cs,x,r,h=>by
  cases cs with
  |nil=>simp[pack]at h
  |cons c cs=>
   cases c<;>simp only[pack]at h<;>try(cases h;done)
   simp only[Af,Cb]at h;obtain⟨h1,h2⟩:=h;subst h1 h2;exact⟨[_],rfl,rfl,rfl⟩
 |.int k,cs,x,r,h=>by
  cases cs with
  |nil=>simp[pack]at h
  |cons c cs=>
   cases c<;>simp only[pack]at h<;>try(cases h;done)
   split at h
   ·rename_i hk
    subst hk;simp only[Af,Cb]at h;obtain⟨h1,h2⟩:=h;subst h1 h2;exact⟨[_],rfl,rfl,by simp[pack]⟩
   ·cases h
 |.err,cs,x,r,h=>by
  cases cs with
  |nil=>simp[pack]at h
  |cons c cs=>
   cases c<;>simp only[pack]at h<;>try(cases h;done)
   simp only[Af,Cb]at h;obtain⟨h1,h2⟩:=h;subst h1 h2;exact⟨[_],rfl,rfl,rfl⟩
 |.str,cs,x,r,h=>by
  cases cs with
  |nil=>simp[pack]at h
  |cons c cs=>
   cases c<;>simp only[pack]at h<;>try(cases h;done)
   simp only[Af,Cb]at h;obtain⟨h1,h2⟩:=h;subst h1 h2;exact⟨[_],rfl,rfl,rfl⟩
 |.unit,cs,x,r,h=>by simp only[pack,Af,Cb]at h;obtain⟨_,h2⟩:=h;subst h2;exact⟨[],rfl,rfl,rfl⟩
 |.prod a b,cs,x,r,h=>by
  simp only[pack]at h;split at h
  ·cases h
  ·rename_i x1 r1 h1
   split at h
   ·cases h
   ·rename_i x2 r2 h2
    simp only[Af,Cb]at h;obtain⟨e1,e2⟩:=h;subst e1 e2;obtain⟨ds,e3,e4,e5⟩:=sQ h1;obtain⟨es,e6,e7,e8⟩:=sQ h2;refine⟨ds++es,by rw[e3,e6,C4],by simp[e4,e7,Ty.size],?_⟩;have:=pack_append e5 (s:=es);simp only[pack,this,GA,e8]
 |.slice e,cs,x,r,h=>by
  cases cs with
  |nil=>simp[pack]at h
  |cons c cs=>
   rcases YaM (∃b ver p,c=.trow b ver p)with⟨b,ver,p,rfl⟩|QI
   ·cases p with
    |cons _ _=>simp[pack]at h
    |nil=>
     simp only[pack]at h;split at h
     ·cases h
     ·rename_i l hl
      simp only[Af,Cb]at h;obtain⟨h1,h2⟩:=h;subst h1 h2;exact⟨[_],rfl,rfl,by simp[pack,hl]⟩
   cases c<;>first|exact Y7 ⟨_,_,_,rfl⟩ QI|skip
   all_goals simp only[pack]at h
   all_goals try(cases h;done)
   ·split at h
    ·rename_i e' l he
     subst he;simp only[Af,Cb]at h;obtain⟨h1,h2⟩:=h;subst h1 h2;exact⟨[_],rfl,rfl,by simp[pack]⟩
    ·cases h
   ·simp only[Af,Cb]at h
    obtain⟨h1,h2⟩:=h;subst h1 h2;exact⟨[_],rfl,rfl,rfl⟩
   ·split at h
    ·cases h
    ·rename_i l hl
     simp only[Af,Cb]at h;obtain⟨h1,h2⟩:=h;subst h1 h2;exact⟨[_],rfl,rfl,by simp[pack,hl]⟩
   ·split at h
    ·cases h
    ·rename_i l hl
     simp only[Af,Cb]at h;obtain⟨h1,h2⟩:=h;subst h1 h2;exact⟨[_],rfl,rfl,by simp[pack,hl]⟩
 where
 pack_append {bl:Yn->Ya Blk}:∀{τ:Ty}{cs:Ye C}{x:τ.den}{r s:Ye C},pack bl τ cs=Yg (x,r)->pack bl τ (cs++s)=Yg (x,r++s)
 |.bool,cs,x,r,s,h=>by
  cases cs with
  |nil=>simp[pack]at h
  |cons c cs=>cases c<;>simp only[pack,G0]at h⊢<;>first|(cases h;done)|(simp_all;done)
 |.int k,cs,x,r,s,h=>by
  cases cs with
  |nil=>simp[pack]at h
  |cons c cs=>
   cases c<;>simp only[pack,G0]at h⊢<;>try(cases h;done)
   split at h
   ·rename_i hk;subst hk;simp_all
   ·cases h
 |.err,cs,x,r,s,h=>by
  cases cs with
  |nil=>simp[pack]at h
  |cons c cs=>cases c<;>simp only[pack,G0]at h⊢<;>first|(cases h;done)|(simp_all;done)
 |.str,cs,x,r,s,h=>by
  cases cs with
  |nil=>simp[pack]at h
  |cons c cs=>cases c<;>simp only[pack,G0]at h⊢<;>first|(cases h;done)|(simp_all;done)
 |.unit,cs,x,r,s,h=>by simp only[pack]at h⊢;simp_all
 |.prod a b,cs,x,r,s,h=>by
  simp only[pack]at h⊢;split at h
  ·cases h
  ·rename_i x1 r1 h1
   split at h
   ·cases h
   ·rename_i x2 r2 h2
    rw[pack_append h1];simp only;rw[pack_append h2]
    simp_all
 |.slice e,cs,x,r,s,h=>by
  cases cs with
  |nil=>simp[pack]at h
  |cons c cs=>
   rcases YaM (∃b ver p,c=.trow b ver p)with⟨b,ver,p,rfl⟩|QI
   ·cases p with
    |cons _ _=>simp[pack]at h
    |nil=>
     simp only[pack,G0]at h⊢;split at h
     ·cases h
     ·simp_all
   cases c<;>first|exact Y7 ⟨_,_,_,rfl⟩ QI|skip
   all_goals simp only[pack,G0]at h⊢
   all_goals try(cases h;done)
   ·split at h
    ·rename_i e' l he;subst he;simp_all
    ·cases h
   ·simp_all
   ·split at h
    ·cases h
    ·simp_all
   ·split at h
    ·cases h
    ·simp_all
theorem GE{E E':Env}{ids Bk:Ye Yn}(hb:Ez E)(hw:E'.w=E.w)(hr:Ren E E' ids Bk):∀{l:Ye CT}{cs:Ye C}{vs:Ye Yq}{y:CT.dens l},Rows E E.bl E'.ok (FU l cs)->CReps E cs vs->Bn E.bl ids l cs=Yg y->CReps E' (mkC Bk l y) vs
 |[],cs,vs,y,AM,h,hp=>by
  cases cs with
  |nil=>exact h
  |cons c cs=>simp[Bn]at hp
 |.data τ::l,cs,vs,y,AM,h,hp=>by
  simp only[Bn]at hp;split at hp
  ·cases hp
  ·rename_i x r hx
   split at hp
   ·cases hp
   ·rename_i y' hy
    simp only[Af]at hp;subst hp;obtain⟨ds,e1,e2,e3⟩:=sQ hx;subst e1
    have hd:FU (.data τ::l) (ds++r)=CE ds++FU l r:=by simp only[FU,<-e2,aH,List.drop_left]
    rw[hd]at AM;obtain⟨us,ws,e,h1,h2⟩:=CReps.split h;subst e;obtain⟨us1,us2,e,d,c,_⟩:=Px hb (AM.sub λb DF=>D5 _ DF) h1 e3;simp only[CReps]at c;subst c;rw[In]at e;subst e;exact CReps.append (Iq (by rw[hw];exact d)) (GE hb hw hr (AM.sub λb DF=>DW _ DF) h2 hy)
 |.ptr b o::l,cs,vs,y,AM,h,hp=>by
  cases cs with
  |nil=>simp[Bn]at hp
  |cons c cs=>
   have Dr:Rows E E.bl E'.ok (FU l cs):=AM;cases c<;>simp only[Bn]at hp<;>try(cases hp;done)
   rename_i b' o';split at hp
   ·rename_i i hi
    cases hc:(Yo i b'&&Yo o o')with
    |false=>rw[hc]at hp;cases hp
    |true=>simp only[hc,As]at hp;obtain⟨h1,h2⟩:=andB hc;have h1:=AB h1;have h2:=AB h2;subst h1 h2;obtain⟨v,Az,e,⟨g,hg,hv⟩,ht⟩:=h;exact⟨v,Az,e,⟨g,hr.cells b i g hi hg,hv⟩,GE hb hw hr Dr ht hp⟩
   ·cases hp
 |.rowh b::l,cs,vs,y,AM,h,hp=>by
  cases cs with
  |nil=>simp[Bn]at hp
  |cons c cs=>
   have Dr:Rows E E.bl E'.ok (FU l cs):=AM;cases c<;>simp only[Bn]at hp<;>try(cases hp;done)
   ·split at hp
    ·rename_i i hi
     split at hp
     ·rename_i hn
      obtain⟨v,Az,e,hv,ht⟩:=h;simp only[CRep]at hv;subst hv;exact⟨_,Az,e,⟨rfl,_,_,hr.nil b i hi hn,λ_ _ _ _ _=>⟨EA _,λ_=>rfl⟩⟩,GE hb hw hr Dr ht hp⟩
     ·cases hp
    ·cases hp
   ·rename_i b' ver
    split at hp
    ·rename_i i hi
     cases hc:Yo i b' with
     |false=>rw[hc]at hp;cases hp
     |true=>
      have:=AB hc;subst this;simp only[hc,As]at hp;split at hp
      ·rename_i t e ver' l' Ap
       cases C6:Yo ver ver' with
       |false=>rw[C6]at hp;cases hp
       |true=>have:=AB C6;subst this;simp only[C6,As]at hp;obtain⟨v,Az,ev,⟨h1,sv,Ac,AA,Bg⟩,ht⟩:=h;have DA:=(Bg t e ver l' Ap).2 rfl;exact⟨v,Az,ev,⟨h1,sv,Ac,hr.row b i sv Ac t e ver l' hi Ap AA,λ_ _ _ _ _=>⟨EA _,λ_=>DA⟩⟩,GE hb hw hr Dr ht hp⟩
      ·cases hp
    ·cases hp
 |.fn f BS::l,cs,vs,y,AM,h,hp=>by
  cases cs with
  |nil=>simp[Bn]at hp
  |cons c cs=>
   have Dr:Rows E E.bl E'.ok (FU l cs):=AM;cases c<;>simp only[Bn]at hp<;>try(cases hp;done)
   rename_i f' Ia;cases hc:(Yo f f'&&Yd (BS.map (ids[·]?)=Ia.map Yg))with
   |false=>rw[hc]at hp;cases hp
   |true=>simp only[hc,As]at hp;obtain⟨h1,h2⟩:=andB hc;have h1:=AB h1;have h2:=Bd h2;subst h1;obtain⟨v,Az,e,⟨gs,hg,hv⟩,ht⟩:=h;refine⟨v,Az,e,⟨gs,?_,hv⟩,GE hb hw hr Dr ht hp⟩;exact rU hr BS Ia gs h2 hg
 |.bfnh f b::l,cs,vs,y,AM,h,hp=>by
  cases cs with
  |nil=>simp[Bn]at hp
  |cons c cs=>
   have Dr:Rows E E.bl E'.ok (FU l cs):=AM;cases c<;>simp only[Bn]at hp<;>try(cases hp;done)
   rename_i f' b';split at hp
   ·rename_i i hi
    cases hc:(Yo f f'&&Yo i b')with
    |false=>rw[hc]at hp;cases hp
    |true=>simp only[hc,As]at hp;obtain⟨h1,h2⟩:=andB hc;have h1:=AB h1;have h2:=AB h2;subst h1;subst h2;obtain⟨v,Az,e,⟨g,hg,hv⟩,ht⟩:=h;exact⟨v,Az,e,⟨g,hr.cells b i g hi hg,hv⟩,GE hb hw hr Dr ht hp⟩
   ·cases hp
 |.bself b::l,cs,vs,y,AM,h,hp=>by
  cases cs with
  |nil=>simp[Bn]at hp
  |cons c cs=>
   have Dr:Rows E E.bl E'.ok (FU l cs):=AM;cases c<;>simp only[Bn]at hp<;>try(cases hp;done)
   ·obtain⟨v,Az,e,hv,ht⟩:=h
    exact⟨v,Az,e,.inl hv,GE hb hw hr Dr ht hp⟩
   ·rename_i b'
    split at hp
    ·rename_i i hi
     cases hc:Yo i b' with
     |false=>rw[hc]at hp;cases hp
     |true=>
      simp only[hc,As]at hp;have h1:=AB hc;subst h1;obtain⟨v,Az,e,hg,ht⟩:=h;refine⟨v,Az,e,?_,GE hb hw hr Dr ht hp⟩;rcases hg with hg|⟨g,hg,hv⟩
      ·exact .inl hg
      ·exact .inr ⟨g,hr.cells b i g hi hg,hv⟩
    ·cases hp
 |.maph b::l,cs,vs,y,AM,h,hp=>by
  cases cs with
  |nil=>simp[Bn]at hp
  |cons c cs=>
   have Dr:Rows E E.bl E'.ok (FU l cs):=AM;cases c<;>simp only[Bn]at hp<;>try(cases hp;done)
   rename_i b';split at hp
   ·rename_i i hi
    cases hc:Yo i b' with
    |false=>rw[hc]at hp;cases hp
    |true=>simp only[hc,As]at hp;have h1:=AB hc;subst h1;obtain⟨v,Az,e,⟨g,hg,hv⟩,ht⟩:=h;exact⟨v,Az,e,⟨g,hr.cells b i g hi hg,hv⟩,GE hb hw hr Dr ht hp⟩
   ·cases hp
 |.math b::l,cs,vs,y,AM,h,hp=>by
  cases cs with
  |nil=>simp[Bn]at hp
  |cons c cs=>
   have Dr:Rows E E.bl E'.ok (FU l cs):=AM;cases c<;>simp only[Bn]at hp<;>try(cases hp;done)
   ·split at hp
    ·rename_i i hi
     split at hp
     ·rename_i hn
      obtain⟨v,Az,e,hv,ht⟩:=h;simp only[CRep]at hv;subst hv;exact⟨_,Az,e,⟨rfl,_,_,hr.nil b i hi hn,λ_ _ _ _ _ _ _ _=>⟨EA _,λ_=>rfl⟩⟩,GE hb hw hr Dr ht hp⟩
     ·cases hp
    ·cases hp
   ·rename_i b' ver
    split at hp
    ·rename_i i hi
     cases hc:Yo i b' with
     |false=>rw[hc]at hp;cases hp
     |true=>
      have:=AB hc;subst this;simp only[hc,As]at hp;split at hp
      ·rename_i t et e ver' Ah l' Ap
       cases C6:Yo ver ver' with
       |false=>rw[C6]at hp;cases hp
       |true=>have:=AB C6;subst this;simp only[C6,As]at hp;obtain⟨v,Az,ev,⟨h1,sv,Ac,AA,Bg⟩,ht⟩:=h;have DA:=(Bg _ _ _ _ _ _ _ Ap).2 rfl;exact⟨v,Az,ev,⟨h1,sv,Ac,hr.mat b i sv Ac _ _ _ _ _ _ _ hi Ap AA,λ_ _ _ _ _ _ _ _=>⟨EA _,λ_=>DA⟩⟩,GE hb hw hr Dr ht hp⟩
      ·cases hp
    ·cases hp
 |.tptrh b ks o::l,cs,vs,y,AM,h,hp=>by
  cases cs with
  |nil=>simp[Bn]at hp
  |cons c cs=>
   have Dr:Rows E E.bl E'.ok (FU l cs):=AM;cases c<;>simp only[Bn]at hp<;>try(cases hp;done)
   rename_i b' ver p ix o';split at hp
   ·rename_i i hi
    cases hc:(Yo i b'&&Yo o o')with
    |false=>rw[hc]at hp;cases hp
    |true=>
     rw[hc,As]at hp;obtain⟨h1,h2⟩:=andB hc;have h1:=AB h1;have h2:=AB h2;subst h1 h2;split at hp
     ·rename_i t e ver' B8 l' Ap
      cases C6:Yo ver (tv ver' B8 p)with
      |false=>rw[C6]at hp;cases hp
      |true=>
       have:=AB C6;subst this;rw[C6,As]at hp;split at hp
       ·rename_i x hx
        split at hp
        ·rename_i y' hy
         simp only[Af]at hp;subst hp;obtain⟨w1,w2⟩:=rV hx;obtain⟨v,Az,ev,⟨sv,Ac,ad,AA,Ae3,Bg⟩,ht⟩:=h;refine⟨v,Az,ev,⟨sv,Ac,ad,hr.tree b i sv Ac _ _ _ _ _ hi Ap AA,Ae3,λt2 e2 Ju T0 Ti l2 Ai=>?_⟩,GE hb hw hr Dr ht hy⟩;have:=hr.treeB b i _ _ _ _ _ _ _ _ _ _ _ hi Ap Ai;injection this with q1 q2 q3 q4 q5 q6;subst q1 q2 q3 q4 q5;simp only[Jx]at q6;subst q6;rw[w1,w2];exact⟨EA _,λ_ _=>(Bg _ _ _ _ _ _ Ap).2 rfl λ_ h=>by cases h⟩
        ·cases hp
       ·cases hp
     ·cases hp
   ·cases hp
 |.trowh b::l,cs,vs,y,AM,h,hp=>by
  cases cs with
  |nil=>simp[Bn]at hp
  |cons c cs=>
   have Dr:Rows E E.bl E'.ok (FU l cs):=AM;rcases YaM (∃b ver p,c=.trow b ver p)with⟨b',ver,p,rfl⟩|QI
   ·cases p with
    |cons _ _=>simp[Bn]at hp
    |nil=>
     simp only[Bn]at hp;split at hp
     ·rename_i i hi
      cases hc:Yo i b' with
      |false=>rw[hc]at hp;cases hp
      |true=>
       have:=AB hc;subst this;simp only[hc,As]at hp;split at hp
       ·rename_i t e ver' Ah l' Ap
        cases C6:Yo ver ver' with
        |false=>rw[C6]at hp;cases hp
        |true=>have:=AB C6;subst this;simp only[C6,As]at hp;obtain⟨v,Az,ev,hv,ht⟩:=h;obtain⟨Ac,AA,_⟩:=bL hb Ap hv;exact⟨v,Az,ev,⟨hv.1,v,Ac,hr.tree b i v Ac _ _ _ _ _ hi Ap AA,λ_ _ _ _ _ _ _=>⟨EA _,λ_ _=>⟨_,rfl,rfl⟩⟩⟩,GE hb hw hr Dr ht hp⟩
       ·cases hp
     ·cases hp
   cases c<;>first|exact Y7 ⟨_,_,_,rfl⟩ QI|skip
   all_goals simp only[Bn]at hp
   all_goals try(cases hp;done)
   split at hp
   ·rename_i i hi
    split at hp
    ·rename_i hn
     obtain⟨v,Az,e,hv,ht⟩:=h;simp only[CRep]at hv;subst hv;exact⟨_,Az,e,⟨rfl,_,_,hr.nil b i hi hn,λ_ _ _ _ _ _ _=>⟨EA _,λ_ _=>⟨_,rfl,rfl⟩⟩⟩,GE hb hw hr Dr ht hp⟩
    ·cases hp
   ·cases hp
 |.nilc::l,cs,vs,y,AM,h,hp=>by
  cases cs with
  |nil=>simp[Bn]at hp
  |cons c cs=>cases c<;>simp[Bn]at hp
 |.lsome _::l,cs,vs,y,AM,h,hp=>by
  cases cs with
  |nil=>simp[Bn]at hp
  |cons c cs=>cases c<;>simp[Bn]at hp
 |.nils::l,cs,vs,y,AM,h,hp=>by
  cases cs with
  |nil=>simp[Bn]at hp
  |cons c cs=>
   have Dr:Rows E E.bl E'.ok (FU l cs):=AM;cases c<;>simp only[Bn]at hp<;>first|(cases hp;done)|skip
   obtain⟨v,Az,e,hv,ht⟩:=h;exact⟨v,Az,e,hv,GE hb hw hr Dr ht hp⟩
 |.junk::l,cs,vs,y,AM,h,hp=>by
  cases cs with
  |nil=>simp[Bn]at hp
  |cons c cs=>have Dr:Rows E E.bl E'.ok (FU l cs):=AM;simp only[Bn]at hp;obtain⟨v,Az,e,hv,ht⟩:=h;exact⟨v,Az,e,CRep.oneCell hv,GE hb hw hr Dr ht hp⟩
theorem sR{E E':Env}{ids Bk:Ye Yn}(hb:Ez E)(hw:E'.w=E.w)(hr:Ren E E' ids Bk):∀{l:Ye (Ys×Ye CT)}{vs:Ye V}{us:Ye Yq}{y:ST.dens l},Rows E E.bl E'.ok (Gg l vs)->VReps E vs us->Hv E.bl ids l vs=Yg y->TReps E' (mkS Bk l y) us
 |[],vs,us,y,AM,h,hp=>by
  cases vs with
  |nil=>exact h
  |cons v vs=>simp[Hv]at hp
 |t::l,vs,us,y,AM,h,hp=>by
  cases vs with
  |nil=>simp[Hv]at hp
  |cons v vs=>
   obtain⟨u,CM,e,hv,ht⟩:=h;obtain⟨agg,ct⟩:=t;cases agg with
   |false=>
    cases v<;>simp only[Hv]at hp<;>try(cases hp;done)
    rename_i x;split at hp
    ·cases hp
    ·rename_i y1 h1
     split at hp
     ·cases hp
     ·rename_i z h2
      simp only[Af]at hp;subst hp;have Gb:Gg ((Yi,ct)::l) (V.c x::vs)=FU ct [x]++Gg l vs:=rfl;rw[Gb]at AM;refine⟨u,CM,e,⟨[u],?_,by simp⟩,sR hb hw hr (AM.sub λb DF=>DW _ DF) ht h2⟩;exact GE hb hw hr (AM.sub λb DF=>D5 _ DF) (show CReps E [x] [u]from⟨u,[],rfl,hv,rfl⟩) h1
   |true=>
    cases v<;>simp only[Hv]at hp<;>try(cases hp;done)
    rename_i cs;split at hp
    ·cases hp
    ·rename_i y1 h1
     split at hp
     ·cases hp
     ·rename_i z h2
      simp only[Af]at hp;subst hp;have Gb:Gg ((Yp,ct)::l) (V.agg cs::vs)=FU ct cs++Gg l vs:=rfl;rw[Gb]at AM;obtain⟨xs,Ae,hu⟩:=hv;refine⟨u,CM,e,⟨xs,?_,hu⟩,sR hb hw hr (AM.sub λb DF=>DW _ DF) ht h2⟩;exact GE hb hw hr (AM.sub λb DF=>D5 _ DF) Ae h1
def plOf(E:Env)(i:Yn):Pl:=
 match E.bl i with
 |some _=>(E.pl i).getD (.row (.slice Yf 0 0) [])
 |none=>.row (.slice Yf 0 0) []
theorem LM{E E':Env}{ids Bk:Ye Yn}(hb:Ez E)(hw:E'.w=E.w)(Cs:E'.base=E.base)(hr:Ren E E' ids Bk)(Hm:∀g,E.ok g->E'.ok g):∀{l:Ye BT}{is:Ye Yn}{y:BT.dens l},Rows E E.bl E'.ok (Fi E.bl l is)->Db E.bl ids l is=Yg y->is.length=l.length/\∀(j i:Yn),is[j]?=Yg i->∃B,(mkB Bk l y)[j]?=Yg B/\BRep E' B (plOf E i)/\(∀B0,E.bl i=Yg B0->B0.live=Yp)
 |[],is,y,AM,hp=>by
  cases is with
  |nil=>exact⟨rfl,λj i h=>by simp at h⟩
  |cons i is=>simp[Db]at hp
 |.row t e::r,is,y,AM,hp=>by
  cases is with
  |nil=>simp[Db]at hp
  |cons i is=>
   have Dr:Rows E E.bl E'.ok (Fi E.bl r is):=AM;simp only[Db]at hp;split at hp
   ·rename_i t' e' ver l Ap
    cases ht:Yo t t' with
    |false=>rw[ht]at hp;cases hp
    |true=>
     have:=AB ht;subst this;simp only[ht,As]at hp;split at hp
     ·rename_i he
      subst he;split at hp
      ·cases hp
      ·rename_i z h2
       simp only[Af]at hp;subst hp;obtain⟨hl,Ek⟩:=LM hb hw Cs hr Hm Dr h2;refine⟨by simp[hl],λj k hj=>?_⟩;cases j with
       |zero=>
        simp only[DM,Af]at hj;subst hj;refine⟨_,rfl,?_,λB0 h0=>by rw[Ap]at h0;injection h0 with h0;subst h0;rfl⟩;obtain⟨p,D0,hB⟩:=hb i _ Ap;have Bp:plOf E i=p:=by simp[plOf,Ap,D0]
        rw[Bp];cases p with
        |cells _=>exact hB.elim
        |row sv Ac=>obtain⟨h0,xs,h3,h4⟩:=hB;refine⟨h0,xs,h3.mono λx u hu=>?_,by rw[hw,Cs];exact h4⟩;rw[hw];exact hu.mono λg hg _=>⟨Hm g hg,rfl⟩
       |succ j=>obtain⟨B,h3,h4⟩:=Ek j k (by simpa using hj);exact⟨B,by simpa [mkB]using h3,h4⟩
     ·cases hp
   ·rename_i Ap
    split at hp
    ·cases hp
    ·rename_i z h2
     simp only[Af]at hp;subst hp;obtain⟨hl,Ek⟩:=LM hb hw Cs hr Hm Dr h2;refine⟨by simp[hl],λj k hj=>?_⟩;cases j with
     |zero=>
      simp only[DM,Af]at hj;subst hj;refine⟨_,rfl,?_,λB0 h0=>by rw[Ap]at h0;cases h0⟩;have Bp:plOf E i=.row (.slice Yf 0 0) []:=by simp[plOf,Ap]
      rw[Bp];exact⟨rfl,[],rfl,by simp,.inl ⟨rfl,rfl⟩⟩
     |succ j=>obtain⟨B,h3,h4⟩:=Ek j k (by simpa using hj);exact⟨B,by simpa [mkB]using h3,h4⟩
   ·cases hp
 |.mat t et e::r,is,y,AM,hp=>by
  cases is with
  |nil=>simp[Db]at hp
  |cons i is=>
   have Dr:Rows E E.bl E'.ok (Fi E.bl r is):=AM;simp only[Db]at hp;split at hp
   ·rename_i t' X7 e' ver Ah l Ap
    cases ht:(Yo t t'&&Yo et X7)with
    |false=>rw[ht]at hp;cases hp
    |true=>
     obtain⟨Zo,Zp⟩:=andB ht;have:=AB Zo;subst this;have:=AB Zp;subst this;simp only[ht,As]at hp;split at hp
     ·rename_i he
      subst he;split at hp
      ·cases hp
      ·rename_i z h2
       simp only[Af]at hp;subst hp;obtain⟨hl,Ek⟩:=LM hb hw Cs hr Hm Dr h2;refine⟨by simp[hl],λj k hj=>?_⟩;cases j with
       |zero=>
        simp only[DM,Af]at hj;subst hj;refine⟨_,rfl,?_,λB0 h0=>by rw[Ap]at h0;injection h0 with h0;subst h0;rfl⟩;obtain⟨p,D0,hB⟩:=hb i _ Ap;have Bp:plOf E i=p:=by simp[plOf,Ap,D0]
        rw[Bp];cases p with
        |cells _=>exact hB.elim
        |row sv Ac=>have hM:MatOk E t et e' Yf l sv Ac:=hB;obtain⟨vs,h3,h4⟩:=hM.outer;refine⟨⟨vs,by rw[hw,Cs];exact h3,h4⟩,hM.len,hM.hole,λi s x hs hx=>?_,hM.sep0,hM.sep⟩;obtain⟨xs,h5,h6⟩:=hM.inner i s x hs hx;refine⟨xs,h5.mono λx u hu=>?_,by rw[hw,Cs];exact h6⟩;rw[hw];exact hu.mono λg hg _=>⟨Hm g hg,rfl⟩
       |succ j=>obtain⟨B,h3,h4⟩:=Ek j k (by simpa using hj);exact⟨B,by simpa [mkB]using h3,h4⟩
     ·cases hp
   ·rename_i Ap
    split at hp
    ·cases hp
    ·rename_i z h2
     simp only[Af]at hp;subst hp;obtain⟨hl,Ek⟩:=LM hb hw Cs hr Hm Dr h2;refine⟨by simp[hl],λj k hj=>?_⟩;cases j with
     |zero=>
      simp only[DM,Af]at hj;subst hj;refine⟨_,rfl,?_,λB0 h0=>by rw[Ap]at h0;cases h0⟩;have Bp:plOf E i=.row (.slice Yf 0 0) []:=by simp[plOf,Ap]
      rw[Bp];exact MatOk.nil E' t et e
     |succ j=>obtain⟨B,h3,h4⟩:=Ek j k (by simpa using hj);exact⟨B,by simpa [mkB]using h3,h4⟩
   ·cases hp
 |.tree t e::r,is,y,AM,hp=>by
  cases is with
  |nil=>simp[Db]at hp
  |cons i is=>
   have Dr:Rows E E.bl E'.ok (Fi E.bl r is):=AM;simp only[Db]at hp;split at hp
   ·rename_i t' e' ver Ah l Ap
    cases ht:Yo t t' with
    |false=>rw[ht]at hp;cases hp
    |true=>
     have:=AB ht;subst this;simp only[ht,As]at hp;split at hp
     ·rename_i he
      subst he;split at hp
      ·cases hp
      ·rename_i z h2
       simp only[Af]at hp;subst hp;obtain⟨hl,Ek⟩:=LM hb hw Cs hr Hm Dr h2;refine⟨by simp[hl],λj k hj=>?_⟩;cases j with
       |zero=>
        simp only[DM,Af]at hj;subst hj;refine⟨_,rfl,?_,λB0 h0=>by rw[Ap]at h0;injection h0 with h0;subst h0;rfl⟩;obtain⟨p,D0,hB⟩:=hb i _ Ap;have Bp:plOf E i=p:=by simp[plOf,Ap,D0]
        rw[Bp];cases p with
        |cells _=>exact hB.elim
        |row sv Ac=>have hT:TreeOk E t e' Yf l sv Ac:=hB;obtain⟨hv,F,h3,h4,h5⟩:=hT.rep;refine⟨⟨hv,F,?_,h4,h5⟩,hT.top⟩;rw[hw];exact h3.ren (by rw[Cs];exact Av _) λτ x us hu=>hu.mono λg hg _=>⟨Hm g hg,rfl⟩
       |succ j=>obtain⟨B,h3,h4⟩:=Ek j k (by simpa using hj);exact⟨B,by simpa [mkB]using h3,h4⟩
     ·cases hp
   ·rename_i Ap
    split at hp
    ·cases hp
    ·rename_i z h2
     simp only[Af]at hp;subst hp;obtain⟨hl,Ek⟩:=LM hb hw Cs hr Hm Dr h2;refine⟨by simp[hl],λj k hj=>?_⟩;cases j with
     |zero=>
      simp only[DM,Af]at hj;subst hj;refine⟨_,rfl,?_,λB0 h0=>by rw[Ap]at h0;cases h0⟩;have Bp:plOf E i=.row (.slice Yf 0 0) []:=by simp[plOf,Ap]
      rw[Bp];exact⟨⟨.slice Yf 0 0,[],⟨_,[],[],rfl,rfl,YL _ _ _ _,rfl,rfl⟩,rfl,by simp⟩,by simp⟩
     |succ j=>obtain⟨B,h3,h4⟩:=Ek j k (by simpa using hj);exact⟨B,by simpa [mkB]using h3,h4⟩
   ·cases hp
 |.map t k v vg::r,is,y,AM,hp=>by
  cases is with
  |nil=>simp[Db]at hp
  |cons i is=>
   have Dr:Rows E E.bl E'.ok (Fi E.bl r is):=AM;simp only[Db]at hp;split at hp
   ·rename_i t' k' v' TF l Ap
    cases ht:(Yo t t'&&(vg==TF))with
    |false=>rw[ht]at hp;cases hp
    |true=>
     obtain⟨Zo,Zp⟩:=andB ht;have:=AB Zo;subst this;have:vg=TF:=by simpa using Zp
     subst this;simp only[ht,As]at hp;split at hp
     ·rename_i he
      subst he;split at hp
      ·rename_i he
       subst he;split at hp
       ·cases hp
       ·rename_i z h2
        simp only[Af]at hp;subst hp;obtain⟨hl,Ek⟩:=LM hb hw Cs hr Hm Dr h2;refine⟨by simp[hl],λj k hj=>?_⟩;cases j with
        |zero=>
         simp only[DM,Af]at hj;subst hj;refine⟨_,rfl,?_,λB0 h0=>by rw[Ap]at h0;injection h0 with h0;subst h0;rfl⟩;obtain⟨p,D0,hB⟩:=hb i _ Ap;have Bp:plOf E i=p:=by simp[plOf,Ap,D0]
         rw[Bp];cases p with
         |row _ _=>exact hB.elim
         |cells g=>
          obtain⟨es,CS,h3,h4⟩:=hB;refine⟨es,CS,by rw[hw];exact h3,h4.mono (λx u hu=>?_) (λx u hu=>?_)⟩
          ·rw[hw]
           exact hu.mono λg hg _=>⟨Hm g hg,rfl⟩
          ·rw[hw]
           exact hu.mono λg hg _=>⟨Hm g hg,rfl⟩
        |succ j=>obtain⟨B,h3,h4⟩:=Ek j k (by simpa using hj);exact⟨B,by simpa [mkB]using h3,h4⟩
      ·cases hp
     ·cases hp
   ·cases hp
 |.fmap t l::r,is,y,AM,hp=>by
  cases is with
  |nil=>simp[Db]at hp
  |cons i is=>
   have Dr:Rows E E.bl E'.ok (Fi E.bl r is):=AM;simp only[Db]at hp;split at hp
   ·rename_i t' l' Ap
    cases ht:(Yo t t'&&fEq ids l l')with
    |false=>rw[ht]at hp;cases hp
    |true=>
     rw[ht,As]at hp;obtain⟨Zo,Zp⟩:=andB ht;have:=AB Zo;subst this;obtain⟨hl,Ek⟩:=LM hb hw Cs hr Hm Dr hp;refine⟨by simp[hl],λj k hj=>?_⟩;cases j with
     |zero=>
      simp only[DM,Af]at hj;subst hj;refine⟨_,rfl,?_,λB0 h0=>by rw[Ap]at h0;injection h0 with h0;subst h0;rfl⟩;obtain⟨p,D0,hB⟩:=hb i _ Ap;have Bp:plOf E i=p:=by simp[plOf,Ap,D0]
      rw[Bp];cases p with
      |row _ _=>exact hB.elim
      |cells g=>
       obtain⟨es,CS,hh,hm⟩:=hB;refine⟨es,CS,by rw[hw];exact hh,?_⟩
       have key:∀{l l':Ye (Ye Yj×(YA×Yn))}{es:Ye YS},fEq ids l l'=Yp->FRep E l' es->FRep E' (fIds Bk l) es:=by
        intro l
        induction l with
        |nil=>intro l' es he h;cases l' with
         |nil=>exact h
         |cons _ _=>cases he
        |cons x l ih=>
         intro l' es he h;cases l' with
         |nil=>cases he
         |cons z l'=>
          obtain⟨Ar4,Lm⟩:=andB (show((Yd (x.1=z.1)&&(Yo x.2.1 z.2.1&&(match ids[x.2.2]? with|some i=>Yo i z.2.2|none=>Yi)))&&fEq ids l l')=Yp from he);obtain⟨Q4,XH⟩:=andB Ar4;obtain⟨XH,XI⟩:=andB XH;have Q4:=Bd Q4;have XH:=AB XH;split at XI
          ·rename_i i' Nm
           have XI:=AB XI;subst XI;obtain⟨e,r,g,q1,q2,q3,q4,q5⟩:=h;exact⟨e,r,g,q1,by rw[q2];show _=Ya5 ⟨x.1.toArray⟩;rw[Q4],hr.cells x.2.2 _ g Nm q3,by rw[q4];show _=Value.func (.func x.2.1) _ _;rw[XH],ih Lm q5⟩
          ·cases XI
       exact key Zp hm
     |succ j=>obtain⟨B,h3,h4⟩:=Ek j k (by simpa using hj);exact⟨B,by simpa [mkB]using h3,h4⟩
   ·cases hp
 |.cells t l::r,is,y,AM,hp=>by
  cases is with
  |nil=>simp[Db]at hp
  |cons i is=>
   simp only[Db]at hp;split at hp
   ·rename_i t' cs Ap
    cases ht:Yo t t' with
    |false=>rw[ht]at hp;cases hp
    |true=>
     have:=AB ht;subst this;simp only[ht,As]at hp;split at hp
     ·cases hp
     ·rename_i y1 h1
      split at hp
      ·cases hp
      ·rename_i z h2
       simp only[Af]at hp;subst hp;have Gb:Fi E.bl (.cells t l::r) (i::is)=FU l cs++Fi E.bl r is:=by simp[Fi,Ap]
       rw[Gb]at AM;obtain⟨hl,Ek⟩:=LM hb hw Cs hr Hm (AM.sub λb DF=>DW _ DF) h2;refine⟨by simp[hl],λj k hj=>?_⟩;cases j with
       |zero=>
        simp only[DM,Af]at hj;subst hj;refine⟨_,rfl,?_,λB0 h0=>by rw[Ap]at h0;injection h0 with h0;subst h0;rfl⟩;obtain⟨p,D0,hB⟩:=hb i _ Ap;have Bp:plOf E i=p:=by simp[plOf,Ap,D0]
        rw[Bp];cases p with
        |row _ _=>exact hB.elim
        |cells g=>obtain⟨vs,hh,De⟩:=hB;refine⟨vs,by rw[hw];exact hh,?_⟩;exact GE hb hw hr (AM.sub λb DF=>D5 _ DF) De h1
       |succ j=>obtain⟨B,h3,h4⟩:=Ek j k (by simpa using hj);exact⟨B,by simpa [mkB]using h3,h4⟩
   ·cases hp
theorem Agk{E:Env}{tm:Ye (Yn×V)}{tmps:YQ Yq}(h:∀t v,look tm t=Yg v->VRep E v (tmps.getD t undef)):∀{l:Ye Yn}{vs:Ye V},RE tm l=Yg vs->VReps E vs (l.map λt=>tmps.getD t undef)
 |[],vs,hl=>by simp only[RE,Af]at hl;subst hl;rfl
 |t::l,vs,hl=>by
  simp only[RE]at hl;split at hl
  ·rename_i v hv
   split at hl
   ·rename_i Az DA
    simp only[Af]at hl;subst hl;exact⟨_,_,rfl,h t v hv,Agk h DA⟩
   ·cases hl
  ·cases hl
theorem Agl{E:Env}{ids:Ye Yn}{tmps:YQ Yq}:∀{slots:Ye Yn}{l:Ye (Ys×Ye CT)}{x:ST.dens l},TReps E (mkS ids l x) (slots.map λt=>tmps.getD t undef)->∀t v,look (mkT ids slots l x) t=Yg v->VRep E v (tmps.getD t undef)
 |[],_,_,_,t,v,h=>by simp[mkT,Fw,Fh]at h
 |_::_,[],_,_,t,v,h=>by simp[mkT,Fw,Fh]at h
 |s::ss,p::l,x,hr,t,v,h=>by
  obtain⟨u,us,e,h1,h2⟩:=hr;simp only[CH,Dx]at e;obtain⟨e1,e2⟩:=e;subst e1 e2;simp only[mkT,Fw,Fh]at h;by_cases HJ:t=s
  ·subst HJ
   rw[Pq,As,Af]at h;subst h;exact VRep.mk h1
  ·rw[IT HJ,C7]at h
   exact Agl h2 t v h
theorem Agm:∀{a b:Ye Yn},P4 a b=Yp->a=b
 |[],[],_=>rfl
 |x::r,y::s,h=>by simp only[P4,Dk]at h;rw[AB h.1,Agm h.2]
 |[],_::_,h=>by simp[P4]at h
 |_::_,[],h=>by simp[P4]at h
def BT.stands(B:Ya Blk)(B':Blk):BT->Prop
 |.row t e=>B=Yf\/∃ver l,B=Yg (.row t e ver l)
 |.tree t e=>B=Yf\/∃ver Ah l,B=Yg (.tree t e ver Ah Yf l)/\B'=.tree t e 0 0 Yf l
 |_=>∀t e ver Ah h l,B'≠.tree t e ver Ah h l
theorem sS{bl:Yn->Ya Blk}{ids:Ye Yn}(ids2:Ye Yn){t:BT}{r:Ye BT}{i:Yn}{js:Ye Yn}{y:BT.dens (t::r)}(h:Db bl ids (t::r) (i::js)=Yg y):(∃z,Db bl ids r js=Yg z/\∃B',mkB ids2 (t::r) y=B'::mkB ids2 r z/\BT.stands (bl i) B' t)/\∀B,bl i=Yg B->B.live=Yp:=by
 cases t with
 |cells t l=>
  simp only[Db]at h;split at h
  ·rename_i t' cs hb
   cases ht:Yo t _ with
   |false=>rw[ht]at h;cases h
   |true=>
    rw[ht,As]at h;split at h
    ·cases h
    ·split at h
     ·cases h
     ·rename_i z hz
      simp only[Af]at h;subst h;exact⟨⟨z,hz,_,rfl,λ_ _ _ _ _ _ h=>by cases h⟩,λB hB=>by rw[hb]at hB;injection hB with hB;subst hB;rfl⟩
  ·cases h
 |row t e=>
  simp only[Db]at h;split at h
  ·rename_i t' e' ver l hb
   cases ht:Yo t t' with
   |false=>rw[ht]at h;cases h
   |true=>
    rw[ht,As]at h;split at h
    ·rename_i he
     subst he;have:=AB ht;subst this;split at h
     ·cases h
     ·rename_i z hz
      simp only[Af]at h;subst h;exact⟨⟨z,hz,_,rfl,.inr ⟨ver,l,hb⟩⟩,λB hB=>by rw[hb]at hB;injection hB with hB;subst hB;rfl⟩
    ·cases h
  ·rename_i hb
   split at h
   ·cases h
   ·rename_i z hz
    simp only[Af]at h;subst h;exact⟨⟨z,hz,_,rfl,.inl hb⟩,λB hB=>by rw[hb]at hB;cases hB⟩
  ·cases h
 |tree t e=>
  simp only[Db]at h;split at h
  ·rename_i t' e' ver Ah l hb
   cases ht:Yo t t' with
   |false=>rw[ht]at h;cases h
   |true=>
    rw[ht,As]at h;split at h
    ·rename_i he
     subst he;have:=AB ht;subst this;split at h
     ·cases h
     ·rename_i z hz
      simp only[Af]at h;subst h;exact⟨⟨z,hz,_,rfl,.inr ⟨ver,Ah,l,hb,rfl⟩⟩,λB hB=>by rw[hb]at hB;injection hB with hB;subst hB;rfl⟩
    ·cases h
  ·rename_i hb
   split at h
   ·cases h
   ·rename_i z hz
    simp only[Af]at h;subst h;exact⟨⟨z,hz,_,rfl,.inl hb⟩,λB hB=>by rw[hb]at hB;cases hB⟩
  ·cases h
 |map t k v vg=>
  simp only[Db]at h;split at h
  ·rename_i t' k' v' TF l hb
   cases ht:(Yo t t'&&(vg==TF))with
   |false=>rw[ht]at h;cases h
   |true=>
    rw[ht,As]at h;split at h
    ·split at h
     ·split at h
      ·cases h
      ·rename_i z hz
       simp only[Af]at h;subst h;exact⟨⟨z,hz,_,rfl,λ_ _ _ _ _ _ h=>by cases h⟩,λB hB=>by rw[hb]at hB;injection hB with hB;subst hB;rfl⟩
     ·cases h
    ·cases h
  ·cases h
 |fmap t l=>
  simp only[Db]at h;split at h
  ·rename_i t' l' hb
   cases ht:(Yo t t'&&fEq ids l l')with
   |false=>rw[ht]at h;cases h
   |true=>rw[ht,As]at h;exact⟨⟨y,h,_,rfl,λ_ _ _ _ _ _ h=>by cases h⟩,λB hB=>by rw[hb]at hB;injection hB with hB;subst hB;rfl⟩
  ·cases h
 |mat t et e=>
  simp only[Db]at h;split at h
  ·rename_i t' X7 e' ver Ah l hb
   cases ht:(Yo t t'&&Yo et X7)with
   |false=>rw[ht]at h;cases h
   |true=>
    rw[ht,As]at h;split at h
    ·split at h
     ·cases h
     ·rename_i z hz
      simp only[Af]at h;subst h;exact⟨⟨z,hz,_,rfl,λ_ _ _ _ _ _ h=>by cases h⟩,λB hB=>by rw[hb]at hB;injection hB with hB;subst hB;rfl⟩
    ·cases h
  ·rename_i hb
   split at h
   ·cases h
   ·rename_i z hz
    simp only[Af]at h;subst h;exact⟨⟨z,hz,_,rfl,λ_ _ _ _ _ _ h=>by cases h⟩,λB hB=>by rw[hb]at hB;cases hB⟩
  ·cases h
theorem sT{bl:Yn->Ya Blk}{ids ids2:Ye Yn}:∀{is:Ye BT}{js:Ye Yn}{y:BT.dens is},Db bl ids is js=Yg y->js.length=is.length/\(∀i∈js,∀B,bl i=Yg B->B.live=Yp)/\∀(j i:Yn)(t e:_)(ver Ah:Yn)(l:Ye e.ty.den)(t' e':_)(ver' B8:Yn)(h':Ya Path)(l':Ye e'.ty.den),js[j]?=Yg i->bl i=Yg (.tree t e ver Ah Yf l)->(mkB ids2 is y)[j]?=Yg (.tree t' e' ver' B8 h' l')->Blk.tree t' e' ver' B8 h' l'=.tree t e 0 0 Yf l
 |[],js,y,h=>by
  cases js with
  |nil=>exact⟨rfl,λi hi=>by simp at hi,λj i t e ver Ah l t' e' ver' B8 h' l' hj=>by simp at hj⟩
  |cons _ _=>simp[Db]at h
 |t::is,[],y,h=>by cases t<;>simp[Db]at h
 |t::is,k::js,y,h=>by
  obtain⟨⟨z,hz,B',hB',hs⟩,hl⟩:=sS ids2 h;obtain⟨i1,i2,i3⟩:=sT (ids2:=ids2) hz;refine⟨by simp[i1],λi hi B hB=>?_,λj i t0 e ver Ah l t' e' ver' B8 h' l' hj hb hm=>?_⟩
  ·rcases Bl.1 hi with rfl|hi
   ·exact hl B hB
   ·exact i2 i hi B hB
  ·rw[hB']at hm
   cases j with
   |succ j=>exact i3 j i t0 e ver Ah l t' e' ver' B8 h' l' (by simpa using hj) hb (by simpa using hm)
   |zero=>
    simp only[DM,Af]at hj hm;subst hj hm;rw[hb]at hs;cases t with
    |tree t1 e1=>
     rcases hs with hs|⟨v1,v2,l1,hs,AW⟩
     ·cases hs
     ·injection hs with hs
      injection hs with q1 q2 q3 q4 q5 q6;subst q1 q2;simp only[Jx]at q6;subst q6;exact AW
    |row t1 e1=>rcases hs with hs|⟨_,_,hs⟩<;>cases hs
    |cells _ _=>exact Y7 rfl (hs _ _ _ _ _ _)
    |map _ _ _ _=>exact Y7 rfl (hs _ _ _ _ _ _)
    |mat _ _ _=>exact Y7 rfl (hs _ _ _ _ _ _)
    |fmap _ _=>exact Y7 rfl (hs _ _ _ _ _ _)
def envR{P:Yw}(ok0:OK0 P)(base:Yn)(pl:Yn->Ya Pl)(Ab bl:Yn->Ya Blk)(w:Yx):Env:={w,ok:=λg=>(ok0 g\/(base<=g/\¬ok0.no g))/\¬Own pl Ab g,base,pl,bl}
theorem Agn{P:Yw}{is:Ye BT}{ids:Ye Yn}{y:BT.dens is}{ok0:OK0 P}{base:Yn}{pl:Yn->Ya Pl}{bl Ab:Yn->Ya Blk}{w:Yx}(hr:RelB ok0 base pl Ab w)(AX:∀i B,bl i=Yg B->Ab i=Yg B)(hy:Db bl ids is ids=Yg y){g:Yn}(ho:Own (λb=>(ids[b]?).map (plOf (envR ok0 base pl Ab bl w))) (fnBl (mkB (AP 0 is.length) is y)) g):Own pl Ab g:=by
 obtain⟨b,B,p,_,_,hp,hg⟩:=ho;cases hb:ids[b]? with
 |none=>simp[hb]at hp
 |some i=>
  simp only[hb,F8,Af]at hp;cases CQ:bl i with
  |none=>
   have:plOf (envR ok0 base pl Ab bl w) i=.row (.slice Yf 0 0) []:=by simp[plOf,envR,CQ]
   rw[this]at hp;subst hp;have hg:=Pl.has_row hg;simp[Yae]at hg
  |some B=>
   obtain⟨q,hq,_⟩:=hr.blks i B (AX i B CQ);have:plOf (envR ok0 base pl Ab bl w) i=q:=by simp[plOf,envR,CQ,hq]
   rw[this]at hp;subst hp;obtain⟨_,Ig,_⟩:=sT (ids2:=AP 0 is.length) hy;exact⟨i,B,q,AX i B CQ,Ig i (Dg hb) B CQ,hq,hg⟩
theorem Ago{P:Yw}{ps:Ye (Ys×Ye CT)}{is:Ye BT}{ids:Ye Yn}{vs:Ye V}{us:Ye Yq}{x:ST.dens ps}{y:BT.dens is}{ok0 ok1:OK0 P}{base:Yn}{pl:Yn->Ya Pl}{bl Ab:Yn->Ya Blk}{w:Yx}(hr:RelB ok0 base pl Ab w)(AX:∀i B,bl i=Yg B->Ab i=Yg B)(GR:∀i∈ids,bl i=Yf->Ab i=Yf)(hx:Hv bl ids ps vs=Yg x)(hy:Db bl ids is ids=Yg y)(c3:ids.Nodup)(c4:∀b∈Gg ps vs++Fi bl is ids,b∉ids)(DA:VReps (envR ok0 base pl Ab bl w) vs us)(k1:∀g,(ok0 g\/(base<=g/\¬ok0.no g))->¬Own pl Ab g->(ok1 g\/(base<=g/\¬ok1.no g)))(k2:Gg ps vs++Fi bl is ids=[]\/ok1=ok0)(k3:∀g,ok1.no g->g<w.heap.size/\¬Own (λb=>(ids[b]?).map (plOf (envR ok0 base pl Ab bl w))) (fnBl (mkB (AP 0 is.length) is y)) g)(k4:∀g,ok1.no g->ok0.no g\/Own pl Ab g\/w.heap.size<=g):RelB ok1 base (λb=>(ids[b]?).map (plOf (envR ok0 base pl Ab bl w))) (fnBl (mkB (AP 0 is.length) is y)) w/\TReps (At ok1 base (λb=>(ids[b]?).map (plOf (envR ok0 base pl Ab bl w))) (fnBl (mkB (AP 0 is.length) is y)) w) (mkS (AP 0 is.length) ps x) us/\ids.length=is.length/\(∀i∈ids,∀B,bl i=Yg B->B.live=Yp)/\(∀g,Own (λb=>(ids[b]?).map (plOf (envR ok0 base pl Ab bl w))) (fnBl (mkB (AP 0 is.length) is y)) g->∃i B p,i∈ids/\bl i=Yg B/\B.live=Yp/\pl i=Yg p/\p.has g):=by
 let E:Env:=(envR ok0 base pl Ab bl w)
 let plv:Yn->Ya Pl:=λb=>(ids[b]?).map (plOf E)
 let blv:Yn->Ya Blk:=fnBl (mkB (AP 0 is.length) is y)
 let Ev:Env:=At ok1 base plv blv w
 have GQ:Ext (At ok0 base pl Ab w) E:=⟨Av _,λg h _=>⟨h,rfl⟩,λ_ _ h=>h,λb sv Ac h=>⟨sv,Ac,h,KeepR.of_eq (λC hC=>AX b C hC) _ _⟩⟩
 have Ni:Ez E:=λi B hB=>by obtain⟨p,hp,hB2⟩:=hr.blks i B (AX i B hB);exact⟨p,hp,BRep.mono GQ hB2 λ_ _=>rfl⟩
 have To:∀b p g,plv b=Yg p->p.has g->∃i B,ids[b]?=Yg i/\bl i=Yg B/\pl i=Yg p:=by
  intro b p g hp hg;cases hb:ids[b]? with
  |none=>simp[plv,hb]at hp
  |some i=>
   simp only[plv,hb,F8,Af]at hp;cases CQ:bl i with
   |none=>
    have:plOf E i=.row (.slice Yf 0 0) []:=by simp[plOf,E,envR,CQ]
    rw[this]at hp;subst hp;have hg:=Pl.has_row hg;simp[Yae]at hg
   |some B=>
    obtain⟨q,hq,_⟩:=hr.blks i B (AX i B CQ);have:plOf E i=q:=by simp[plOf,E,envR,CQ,hq]
    rw[this]at hp;subst hp;exact⟨i,B,rfl,CQ,hq⟩
 obtain⟨AU,Ig,htreeB⟩:=sT (ids2:=AP 0 is.length) hy
 have Aq:∀g,Own plv blv g->∃i B p,i∈ids/\bl i=Yg B/\B.live=Yp/\pl i=Yg p/\p.has g:=by rintro g ⟨b,B,p,hB,hl,hp,hg⟩;obtain⟨i,B',h1,h2,h3⟩:=To b p g hp hg;have hi:=Dg h1;exact⟨i,B',p,hi,h2,Ig i hi B' h2,h3,hg⟩
 have Lr:∀g,Own plv blv g->Own pl Ab g:=λg h=>by obtain⟨i,B,p,_,h1,h2,h3,h4⟩:=Aq g h;exact⟨i,B,p,AX _ _ h1,h2,h3,h4⟩
 have Ds:∀g,E.ok g->Ev.ok g:=λg h=>⟨k1 g h.1 h.2,λho=>h.2 (Lr g ho)⟩
 have key1:∀g b B p,b∈Gg ps vs++Fi bl is ids->Ab b=Yg B->B.live=Yp->pl b=Yg p->p.has g->base<=g->(ok1 g\/(base<=g/\¬ok1.no g)):=λg b B p hb hB hl hp hg Th=>by
  rcases k2 with h|h
  ·rw[h]at hb;cases hb
  ·rw[h];exact .inr ⟨Th,λhn=>(hr.glob.no g hn).2 ⟨b,B,p,hB,hl,hp,hg⟩⟩
 have OP:∀l:Ye Yn,(∀b∈l,b∈Gg ps vs++Fi bl is ids)->Rows E E.bl Ev.ok l:=λl GT=>⟨Ds,λb hb t e ver l' Ei=>⟨Ei,λsv g AA hg=>by
  have Cl:Ab b=Yg (.row t e ver l'):=AX _ _ Ei;have Dt:pl b=Yg (.row sv []):=AA;refine⟨key1 g b _ _ (GT b hb) Cl rfl Dt (.inl hg) ?_,λho=>?_⟩
  ·obtain⟨p,hp,hB⟩:=hr.blks b _ Cl
   rw[Dt]at hp;injection hp with hp;subst hp;obtain⟨_,xs,_,ho⟩:=hB;rcases ho.2 with⟨h1,_⟩|⟨g',cap,Ba,h1,h2,_⟩
   ·rw[h1]at hg;simp[Yae]at hg
   ·rw[h1]at hg
    simp only[Yae,Af]at hg;subst hg;exact h2
  ·obtain⟨i,B,p,hi,h1,h2,h3,h4⟩:=Aq g ho
   have AO:i≠b:=by rintro rfl;exact c4 i (GT i hb) hi
   exact hr.sep i b _ _ p (.row sv []) g AO (AX _ _ h1) Cl h2 rfl h3 Dt h4 (.inl hg)⟩,λb hb t et e ver Ah hole l' Ei=>⟨Ei,λsv Ac g AA hg=>by
  have Cl:Ab b=Yg (.mat t et e ver Ah hole l'):=AX _ _ Ei;have Dt:pl b=Yg (.row sv Ac):=AA;refine⟨key1 g b _ _ (GT b hb) Cl rfl Dt hg ?_,λho=>?_⟩
  ·obtain⟨p,hp,hB⟩:=hr.blks b _ Cl
   rw[Dt]at hp;injection hp with hp;subst hp;have hM:MatOk (At ok0 base pl Ab w) t et e hole l' sv Ac:=hB;rcases hg with hg|⟨k,s,Arm,hg⟩
   ·obtain⟨vs,h1,_⟩:=hM.outer
    exact(h1.lt g hg).1
   ·have Ax:k<l'.length:=by rw[<-hM.len];exact(Fe.1 Arm).1
    obtain⟨xs,_,h2⟩:=hM.inner k s l'[k] Arm (Ff Ax);exact(h2.lt g hg).1
  ·obtain⟨i,B,p,hi,h1,h2,h3,h4⟩:=Aq g ho
   have AO:i≠b:=by rintro rfl;exact c4 i (GT i hb) hi
   exact hr.sep i b _ _ p (.row sv Ac) g AO (AX _ _ h1) Cl h2 rfl h3 Dt h4 hg⟩,λb hb t e ver Ah hole l' Ei=>⟨Ei,λsv Ac g AA hg=>by
  have Cl:Ab b=Yg (.tree t e ver Ah hole l'):=AX _ _ Ei;have Dt:pl b=Yg (.row sv Ac):=AA;refine⟨key1 g b _ _ (GT b hb) Cl rfl Dt hg (s5 hr Cl rfl Dt hg).1,λho=>?_⟩;obtain⟨i,B,p,hi,h1,h2,h3,h4⟩:=Aq g ho;have AO:i≠b:=by rintro rfl;exact c4 i (GT i hb) hi
  exact hr.sep i b _ _ p (.row sv Ac) g AO (AX _ _ h1) Cl h2 rfl h3 Dt h4 hg⟩⟩
 have Zj:Ren E Ev ids (AP 0 is.length):=by
  have key:∀b i,ids[b]?=Yg i->Ev.pl ((AP 0 is.length).getD b 0)=Yg (plOf E i):=by
   intro b i hi;have Ax:b<is.length:=by rw[<-AU];exact(Fe.1 hi).1
   rw[P3 Ax];simp[Ev,At,plv,hi]
  refine⟨λb i g hi h=>?_,λb i sv Ac t e ver l hi hb h=>?_,λb i sv Ac t et e ver Ah hole l hi hb h=>?_,λb i sv Ac t e ver Ah l hi hb h=>?_,λb i t e ver Ah l t' e' ver' B8 h' l' hi Ap Ei=>?_,λb i hi h=>?_⟩
  ·rw[key b i hi]
   have h':pl i=Yg (.cells g):=h;cases CQ:bl i with
   |none=>rw[hr.fresh i (GR i (Dg hi) CQ)]at h';cases h'
   |some B=>simp[plOf,E,envR,CQ,h']
  ·rw[key b i hi]
   have h':pl i=Yg (.row sv Ac):=h;have AE:bl i=Yg _:=hb;simp[plOf,E,envR,AE,h']
  ·rw[key b i hi]
   have h':pl i=Yg (.row sv Ac):=h;have AE:bl i=Yg _:=hb;simp[plOf,E,envR,AE,h']
  ·rw[key b i hi]
   have h':pl i=Yg (.row sv Ac):=h;have AE:bl i=Yg _:=hb;simp[plOf,E,envR,AE,h']
  ·have Ax:b<is.length:=by rw[<-AU];exact(Fe.1 hi).1
   rw[P3 Ax]at Ei;exact htreeB b i t e ver Ah l t' e' ver' B8 h' l' hi Ap Ei
  ·rw[key b i hi]
   have h':bl i=Yf:=h;simp[plOf,E,envR,h']
 have hS:=sR Ni (show Ev.w=E.w from rfl) Zj (OP _ λb hb=>D5 _ hb) DA hx;obtain⟨_,hB⟩:=LM Ni (show Ev.w=E.w from rfl) rfl Zj Ds (OP _ λb hb=>DW _ hb) hy;refine⟨⟨hr.baseLe,λi B hBi=>?_,λi j B C p q g Dv hBi hCj hl hlC hp hq Dh B7=>?_,λi hi=>?_,⟨hr.glob.g0.gen (Av _) (λg _ h1 _=>⟨rfl,λq=>h1 (Lr g q)⟩) k4,k3⟩⟩,hS,AU,Ig,Aq⟩
 ·have Ax:i<ids.length:=by have:=(Fe.1 (show(mkB (AP 0 is.length) is y)[i]?=Yg B from hBi)).1;rw[GD]at this;omega
  obtain⟨B',h1,h2,_⟩:=hB i ids[i] (Ff Ax);have h4:(mkB (AP 0 is.length) is y)[i]?=Yg B:=hBi;rw[h1]at h4;injection h4 with h4;subst h4;exact⟨plOf E ids[i],by simp[Ff Ax,E],h2⟩
 ·obtain⟨i',B',h1,h2,h3⟩:=To i p g hp Dh
  obtain⟨j',C',h4,h5,h6⟩:=To j q g hq B7
  have AO:i'≠j':=by rintro rfl;have q1:=KT c3 h1;have q2:=KT c3 h4;rw[q1]at q2;injection q2 with q2;exact Dv q2
  exact hr.sep i' j' B' C' p q g AO (AX _ _ h2) (AX _ _ h5) (Ig i' (Dg h1) B' h2) (Ig j' (Dg h4) C' h5) h3 h6 Dh B7
 ·have Th:ids.length<=i:=by have h1:(mkB (AP 0 is.length) is y)[i]?=Yf:=hi;rw[Ra,GD]at h1;omega
  simp[TK Th]
theorem AuT{P:Yw}{ps:Ye (Ys×Ye CT)}{is:Ye BT}{ids:Ye Yn}{vs:Ye V}{us:Ye Yq}{x:ST.dens ps}{y:BT.dens is}{ok0:OK0 P}{base:Yn}{pl:Yn->Ya Pl}{bl Ab:Yn->Ya Blk}{w:Yx}(hr:RelB ok0 base pl Ab w)(AX:∀i B,bl i=Yg B->Ab i=Yg B)(GR:∀i∈ids,bl i=Yf->Ab i=Yf)(hx:Hv bl ids ps vs=Yg x)(hy:Db bl ids is ids=Yg y)(c3:ids.Nodup)(c4:∀b∈Gg ps vs++Fi bl is ids,b∉ids)(DA:VReps (envR ok0 base pl Ab bl w) vs us):RelB ok0 base (λb=>(ids[b]?).map (plOf (envR ok0 base pl Ab bl w))) (fnBl (mkB (AP 0 is.length) is y)) w/\TReps (At ok0 base (λb=>(ids[b]?).map (plOf (envR ok0 base pl Ab bl w))) (fnBl (mkB (AP 0 is.length) is y)) w) (mkS (AP 0 is.length) ps x) us/\ids.length=is.length/\(∀i∈ids,∀B,bl i=Yg B->B.live=Yp)/\(∀g,Own (λb=>(ids[b]?).map (plOf (envR ok0 base pl Ab bl w))) (fnBl (mkB (AP 0 is.length) is y)) g->∃i B p,i∈ids/\bl i=Yg B/\B.live=Yp/\pl i=Yg p/\p.has g):=
 Ago hr AX GR hx hy c3 c4 DA (λ_ h _=>h) (.inr rfl) (λg hn=>⟨(hr.glob.no g hn).1,λho=>(hr.glob.no g hn).2 (Agn hr AX hy ho)⟩) λ_ h=>.inl h
theorem View.weaken{P:Yw}{n:Yn}{v:View}{σ:St}{d:v.den}(hd:v.read σ=Yg d){ok0:OK0 P}{base:Yn}{pl:Yn->Ya Pl}{a:Act}{w:Yx}(hr:Rel n ok0 base pl (look σ.tm) (look σ.bl) a w):∃plv,Rel n ok0 base plv (look (v.mk' d).tm) (look (v.mk' d).bl) a w/\StepM v.m pl (look σ.bl) w plv (look (v.mk' d).bl) w:=by
 unfold View.read at hd;split at hd
 ·cases hd
 rename_i vs DA;split at hd
 ·cases hd
 rename_i ids _;split at hd
 ·cases hd
 rename_i x hx;split at hd
 ·cases hd
 rename_i y hy;cases hc:(YI v.m v.ins.length&&(P4 (ids.take v.m) (AP 0 v.m)&&(JX ids&&!meet (Gg v.params vs++Fi (look σ.bl) v.ins ids) ids)))with
 |false=>rw[hc]at hd;cases hd
 |true=>
  simp only[hc,As,Af]at hd;subst hd;obtain⟨c1,hc⟩:=andB hc;obtain⟨c2,hc⟩:=andB hc;obtain⟨c3,c4⟩:=andB hc;have c2:=Agm c2;simp only[Re]at c4;obtain⟨q1,q2,_,_,q5⟩:=AuT (bl:=look σ.bl) hr.rel (λ_ _ h=>h) (λ_ _ h=>h) hx hy (R6 c3) (bX.1 c4) (Agk hr.tmps DA);rw[P5];refine⟨_,⟨hr.defers,hr.size,λt v' ht=>Agl q2 t v' ht,q1⟩,rfl,rfl,rfl,Av _,λg _ ho=>⟨rfl,λh=>?_⟩,λb g hb hp=>?_,λb sv Ac hb hp=>?_⟩
  ·obtain⟨i,B,p,_,h1,h2,h3,h4⟩:=q5 g h
   exact ho ⟨i,B,p,h1,h2,h3,h4⟩
  all_goals
   have Jg:ids[b]?=Yg b:=by
    have h1:(ids.take v.m)[b]?=Yg b:=by rw[c2];simpa using rR (n:=v.m) (s:=0) hb
    rwa [TH hb]at h1
  ·cases CQ:look σ.bl b with
   |none=>rw[hr.rel.fresh b CQ]at hp;cases hp
   |some B=>simp[Jg,plOf,envR,CQ,hp]
  ·cases CQ:look σ.bl b with
   |none=>rw[hr.rel.fresh b CQ]at hp;cases hp
   |some B=>exact⟨sv,Ac,by simp[Jg,plOf,envR,CQ,hp]⟩
end
end Go.Lift
