/- Part2: LiftM, LiftMm, LiftMf, LiftN, LiftO, LiftP, LiftQ, LiftR, LiftS. -/
import Derived.MapKept
import Derived.WideKeyRuns
import Derived.LoopN
import Derived.Test.YtadbbhhfdjjkhaaGreatDoorPart1
set_option linter.unusedVariables false
set_option linter.unusedSectionVars false
set_option linter.unusedSimpArgs false
namespace Go.Lift
noncomputable section
open Go.RowKit
structure Ren2 (m:Nat) (E E':Env) (ids Bu:List Nat):Prop where
 cells:∀b g,b<m->E.pl (ids.getD b 0)=some (.cells g)->E'.pl (Bu.getD b 0)=some (.cells g)
 row:∀b sv Ac,b<m->E.pl (ids.getD b 0)=some (.row sv Ac)->E'.pl (Bu.getD b 0)=some (.row sv Ac)/\(∀t e ver l,E'.bl (Bu.getD b 0)=some (.row t e ver l)->E.bl (ids.getD b 0)=some (.row t e ver l))/\
  (∀t et e ver Ah hole l,E'.bl (Bu.getD b 0)=some (.mat t et e ver Ah hole l)->E.bl (ids.getD b 0)=some (.mat t et e ver Ah hole l))/\
  (∀t e ver Ah hole l,E'.bl (Bu.getD b 0)=some (.tree t e ver Ah hole l)->E.bl (ids.getD b 0)=some (.tree t e ver Ah hole l))
theorem Ad2{m:Nat}{E E':Env}{ids Bu:List Nat}(hr:Ren2 m E E' ids Bu):∀(BN gs:List Nat),BN.all (λb=>Nat.blt b m)=true->(BN.map λb=>ids.getD b 0).map E.pl=gs.map (λg=>some (.cells g))->(BN.map λb=>Bu.getD b 0).map E'.pl=gs.map (λg=>some (.cells g))
 |[],gs,_,hg=>by cases gs<;>simp_all
 |b::bs,gs,hb,hg=>by
  cases gs with
  |nil=>simp at hg
  |cons g gs=>simp only[CM,D1]at hg⊢;obtain⟨h1,h2⟩:=andB (show(Nat.blt b m&&bs.all (λb=>Nat.blt b m))=true from hb);exact⟨hr.cells b g (DR h1) hg.1,Ad2 hr bs gs h2 hg.2⟩
theorem Hi{m:Nat}{E E':Env}{ids Bu:List Nat}(hr:Ren2 m E E' ids Bu){all:Prop}(hd:∀(τ:Ty)(x:τ.den)(us:List Value),(all\/τ.flat=true)->DRep E.w E.ok τ x us->DRep E'.w E'.ok τ x us):∀{l:List CT}{y:CT.dens l}{vs:List Value},CT.bnd m l=true->(all\/CT.flat l=true)->CReps E (mkC ids l y) vs->CReps E' (mkC Bu l y) vs
 |[],_,_,_,_,h=>h
 |.data τ::l,y,vs,hb,hf,h=>by
  obtain⟨us,ws,e,h1,h2⟩:=CReps.split h;rw[e];have If:all\/τ.flat=true:=hf.imp id λh=>by simp only[CT.flat,CE]at h;exact h.1
  have WB:all\/CT.flat l=true:=hf.imp id λh=>by simp only[CT.flat,CE]at h;exact h.2
  refine CReps.append ?_ (Hi hr hd (by simpa [CT.bnd]using hb) WB h2)
  have key:∀(τ:Ty)(x:τ.den)(us:List Value),(all\/τ.flat=true)->CReps E (cells τ x) us->CReps E' (cells τ x) us:=by
   intro τ
   induction τ with
   |bool=>intro x us _ h;exact h
   |int k=>intro x us _ h;exact h
   |str=>intro x us _ h;exact h
   |err=>intro x us _ h;exact h
   |unit=>intro x us _ h;exact h
   |prod a b iha ihb=>
    intro x us hf h;obtain⟨p,q,e,h1,h2⟩:=CReps.split h;rw[e];have g1:all\/a.flat=true:=hf.imp id λh=>by simp only[Ty.flat,CE]at h;exact h.1
    have g2:all\/b.flat=true:=hf.imp id λh=>by simp only[Ty.flat,CE]at h;exact h.2
    exact(iha _ _ g1 h1).append (ihb _ _ g2 h2)
   |slice e ih=>intro x us hf h;obtain⟨v,Av,e1,h1,h2⟩:=h;exact⟨v,Av,e1,hd (.slice e) x [v] hf h1,h2⟩
  exact key τ _ _ If h1
 |.ptr b o::l,y,vs,hb,hf,⟨v,Av,e,⟨g,hg,hv⟩,ht⟩=>by obtain⟨BH,Aj⟩:=andB (show(Nat.blt b m&&CT.bnd m l)=true from hb);exact⟨v,Av,e,⟨g,hr.cells b g (DR BH) hg,hv⟩,Hi hr hd Aj (hf.imp id λh=>by simpa [CT.flat]using h) ht⟩
 |.rowh b::l,y,vs,hb,hf,⟨v,Av,e,⟨h1,sv,Ac,Aw,Bt⟩,ht⟩=>by obtain⟨BH,Aj⟩:=andB (show(Nat.blt b m&&CT.bnd m l)=true from hb);obtain⟨h2,h3,_⟩:=hr.row b sv Ac (DR BH) Aw;exact⟨v,Av,e,⟨h1,sv,Ac,h2,λt e ver l h=>Bt t e ver l (h3 t e ver l h)⟩,Hi hr hd Aj (hf.imp id λh=>by simpa [CT.flat]using h) ht⟩
 |.math b::l,y,vs,hb,hf,⟨v,Av,e,⟨h1,sv,Ac,Aw,Bt⟩,ht⟩=>by obtain⟨BH,Aj⟩:=andB (show(Nat.blt b m&&CT.bnd m l)=true from hb);obtain⟨h2,_,h3,_⟩:=hr.row b sv Ac (DR BH) Aw;exact⟨v,Av,e,⟨h1,sv,Ac,h2,λt et e ver Ah hole l h=>Bt t et e ver Ah hole l (h3 t et e ver Ah hole l h)⟩,Hi hr hd Aj (hf.imp id λh=>by simpa [CT.flat]using h) ht⟩
 |.trowh b::l,y,vs,hb,hf,⟨v,Av,e,⟨h1,sv,Ac,Aw,Bt⟩,ht⟩=>by obtain⟨BH,Aj⟩:=andB (show(Nat.blt b m&&CT.bnd m l)=true from hb);obtain⟨h2,_,_,h3⟩:=hr.row b sv Ac (DR BH) Aw;exact⟨v,Av,e,⟨h1,sv,Ac,h2,λt e ver Ah hole l h=>Bt t e ver Ah hole l (h3 t e ver Ah hole l h)⟩,Hi hr hd Aj (hf.imp id λh=>by simpa [CT.flat]using h) ht⟩
 |.tptrh b ks o::l,y,vs,hb,hf,⟨v,Av,e,⟨sv,Ac,ad,Aw,hv,Bt⟩,ht⟩=>by obtain⟨BH,Aj⟩:=andB (show(Nat.blt b m&&CT.bnd m l)=true from hb);obtain⟨h2,_,_,h3⟩:=hr.row b sv Ac (DR BH) Aw;exact⟨v,Av,e,⟨sv,Ac,ad,h2,hv,λt e ver Ah hole l h=>Bt t e ver Ah hole l (h3 t e ver Ah hole l h)⟩,Hi hr hd Aj (hf.imp id λh=>by simpa [CT.flat]using h) ht⟩
 |.fn f BN::l,y,vs,hb,hf,⟨v,Av,e,⟨gs,hg,hv⟩,ht⟩=>by obtain⟨BH,Aj⟩:=andB (show(BN.all (λb=>Nat.blt b m)&&CT.bnd m l)=true from hb);refine⟨v,Av,e,⟨gs,?_,hv⟩,Hi hr hd Aj (hf.imp id λh=>by simpa [CT.flat]using h) ht⟩;exact Ad2 hr BN gs BH hg
 |.maph b::l,y,vs,hb,hf,⟨v,Av,e,⟨g,hg,hv⟩,ht⟩=>by obtain⟨BH,Aj⟩:=andB (show(Nat.blt b m&&CT.bnd m l)=true from hb);exact⟨v,Av,e,⟨g,hr.cells b g (DR BH) hg,hv⟩,Hi hr hd Aj (hf.imp id λh=>by simpa [CT.flat]using h) ht⟩
 |.bfnh f b::l,y,vs,hb,hf,⟨v,Av,e,⟨g,hg,hv⟩,ht⟩=>by obtain⟨BH,Aj⟩:=andB (show(Nat.blt b m&&CT.bnd m l)=true from hb);exact⟨v,Av,e,⟨g,hr.cells b g (DR BH) hg,hv⟩,Hi hr hd Aj (hf.imp id λh=>by simpa [CT.flat]using h) ht⟩
 |.bself b::l,y,vs,hb,hf,⟨v,Av,e,.inl hv,ht⟩=>by obtain⟨BH,Aj⟩:=andB (show(Nat.blt b m&&CT.bnd m l)=true from hb);exact⟨v,Av,e,.inl hv,Hi hr hd Aj (hf.imp id λh=>by simpa [CT.flat]using h) ht⟩
 |.bself b::l,y,vs,hb,hf,⟨v,Av,e,.inr ⟨g,hg,hv⟩,ht⟩=>by obtain⟨BH,Aj⟩:=andB (show(Nat.blt b m&&CT.bnd m l)=true from hb);exact⟨v,Av,e,.inr ⟨g,hr.cells b g (DR BH) hg,hv⟩,Hi hr hd Aj (hf.imp id λh=>by simpa [CT.flat]using h) ht⟩
 |.nilc::l,y,vs,hb,hf,⟨v,Av,e,hv,ht⟩=>⟨v,Av,e,hv,Hi hr hd (by simpa [CT.bnd]using hb) (hf.imp id λh=>by simpa [CT.flat]using h) ht⟩
 |.nils::l,y,vs,hb,hf,⟨v,Av,e,hv,ht⟩=>⟨v,Av,e,hv,Hi hr hd (by simpa [CT.bnd]using hb) (hf.imp id λh=>by simpa [CT.flat]using h) ht⟩
 |.lsome e0::l,y,vs,hb,hf,⟨v,Av,e,hv,ht⟩=>by have ha:all:=hf.resolve_right (by simp[CT.flat]);exact⟨v,Av,e,⟨hd (.slice e0) y.1 [v] (.inl ha) hv.1,hv.2⟩,Hi hr hd (by simpa [CT.bnd]using hb) (.inl ha) ht⟩
 |.junk::l,y,vs,hb,hf,⟨v,Av,e,hv,ht⟩=>⟨v,Av,e,hv,Hi hr hd (by simpa [CT.bnd]using hb) (hf.imp id λh=>by simpa [CT.flat]using h) ht⟩
theorem mM{m:Nat}{E E':Env}{ids Bu:List Nat}(hr:Ren2 m E E' ids Bu){all:Prop}(hd:∀(τ:Ty)(x:τ.den)(us:List Value),(all\/τ.flat=true)->DRep E.w E.ok τ x us->DRep E'.w E'.ok τ x us):∀{l:List (Bool×List CT)}{y:ST.dens l}{vs:List Value},ST.bnd m l=true->(all\/ST.flat l=true)->TReps E (mkS ids l y) vs->TReps E' (mkS Bu l y) vs
 |[],_,_,_,_,h=>h
 |t::l,y,vs,hb,hf,⟨v,Av,e,⟨xs,hx,hv⟩,ht⟩=>by obtain⟨BH,Aj⟩:=andB (show(CT.bnd m t.2&&ST.bnd m l)=true from hb);have If:all\/CT.flat t.2=true:=hf.imp id λh=>(andB (show(CT.flat t.2&&ST.flat l)=true from h)).1;have WB:all\/ST.flat l=true:=hf.imp id λh=>(andB (show(CT.flat t.2&&ST.flat l)=true from h)).2;exact⟨v,Av,e,⟨xs,Hi hr hd BH If hx,hv⟩,mM hr hd Aj WB ht⟩
def HU:List Value->Value
 |[v]=>v
 |vs=>.tuple vs.toArray
theorem TReps.res{E:Env}:∀{ts:List (Bool×List C)}{vs:List Value},TReps E ts vs->VRep E (resV ts) (HU vs)
 |[],vs,h=>by have h':vs=[]:=h;subst h';exact⟨[],rfl,h⟩
 |[t],vs,⟨v,Av,e,h1,h2⟩=>by have EF:Av=[]:=h2;subst EF e;exact VRep.mk h1
 |t::t2::ts,vs,h=>by obtain⟨v,Av,e,h1,v2,vs2,e2,h2,h3⟩:=id h;subst e e2;exact⟨_,rfl,h⟩
theorem MY{m:Nat}{E E':Env}{ids Bu:List Nat}(hr:Ren2 m E E' ids Bu)(Cm:E'.base<=E.base){all:Prop}(hd:∀(τ:Ty)(x:τ.den)(us:List Value),(all\/τ.flat=true)->DRep E.w E.ok τ x us->DRep E'.w E'.ok τ x us)(hw:E'.w=E.w):∀{l:List BT}{y:BT.dens l}{j:Nat}{B:Blk}{p:Pl},BT.bnd m l=true->(all\/BT.flat l=true)->(mkB ids l y)[j]?=some B->BRep E B p->∃B',(mkB Bu l y)[j]?=some B'/\BRep E' B' p/\B'.live=B.live/\(∀t e ver l,B'=.row t e ver l->B=.row t e ver l)/\(∀t et e ver Ah hole l,B'=.mat t et e ver Ah hole l->B=.mat t et e ver Ah hole l)/\(∀t e ver Ah hole l,B'=.tree t e ver Ah hole l->B=.tree t e ver Ah hole l)
 |[],_,j,_,_,_,_,h,_=>by simp[mkB]at h
 |.cells t l::r,y,0,B,p,hb,hf,h,hB=>by
  simp only[mkB,DI,Ag]at h;subst h;obtain⟨BH,Aj⟩:=andB (show(CT.bnd m l&&BT.bnd m r)=true from hb);have If:all\/CT.flat l=true:=hf.imp id λh=>(andB (show(CT.flat l&&BT.flat r)=true from h)).1;refine⟨_,rfl,?_,rfl,(λt e ver l h=>by cases h),(λt et e ver Ah hole l h=>by cases h),λt e ver Ah hole l h=>by cases h⟩;cases p with
  |row _ _=>exact hB.elim
  |cells g=>obtain⟨vs,hh,Df⟩:=hB;exact⟨vs,by rw[hw];exact hh,Hi hr hd BH If Df⟩
 |.row t e::r,y,0,B,p,hb,hf,h,hB=>by
  simp only[mkB,DI,Ag]at h;subst h;refine⟨_,rfl,?_,rfl,(λ_ _ _ _ h=>h),(λ_ _ _ _ _ _ _ h=>h),λ_ _ _ _ _ _ h=>h⟩;have If:all\/e.flat=true:=hf.imp id λh=>(andB (show(e.flat&&BT.flat r)=true from h)).1;cases p with
  |cells _=>exact hB.elim
  |row sv Ac=>obtain⟨h0,xs,h1,h2⟩:=hB;refine⟨h0,xs,h1.mono λx u hu=>hd e x u If hu,?_⟩;rw[hw];exact SZ h2 Cm
 |.mat t et e::r,y,0,B,p,hb,hf,h,hB=>by
  simp only[mkB,DI,Ag]at h;subst h;refine⟨_,rfl,?_,rfl,(λ_ _ _ _ h=>by cases h),(λ_ _ _ _ _ _ _ h=>h),λ_ _ _ _ _ _ h=>h⟩;have If:all\/e.flat=true:=hf.imp id λh=>(andB (show(e.flat&&BT.flat r)=true from h)).1;cases p with
  |cells _=>exact hB.elim
  |row sv Ac=>have hM:MatOk E t et e none _ sv Ac:=hB;obtain⟨vs,h1,h2⟩:=hM.outer;refine⟨⟨vs,by rw[hw];exact SZ h1 Cm,h2⟩,hM.len,hM.hole,λi s x hs hx=>?_,hM.sep0,hM.sep⟩;obtain⟨xs,h3,h4⟩:=hM.inner i s x hs hx;exact⟨xs,h3.mono λx u hu=>hd e x u If hu,by rw[hw];exact SZ h4 Cm⟩
 |.tree t e::r,y,0,B,p,hb,hf,h,hB=>by
  simp only[mkB,DI,Ag]at h;subst h;refine⟨_,rfl,?_,rfl,(λ_ _ _ _ h=>by cases h),(λ_ _ _ _ _ _ _ h=>by cases h),λ_ _ _ _ _ _ h=>h⟩;have ha:all\/e.flat=true:=hf.imp id λh=>(andB (show(e.flat&&BT.flat r)=true from h)).1;cases p with
  |cells _=>exact hB.elim
  |row sv Ac=>have hT:TreeOk E t e none _ sv Ac:=hB;obtain⟨hv,F,h1,h2,h3⟩:=hT.rep;refine⟨⟨hv,F,?_,h2,h3⟩,hT.top⟩;rw[hw];exact Owns.renF (all:=all) Cm (λτ x us hf h=>by have:=hd τ x us hf h;rw[hw]at this;exact this) (o:=.r t e) ha h1
 |.tree t e::r,y,j+1,B,p,hb,hf,h,hB=>by simp only[mkB,Eg]at h⊢;exact MY hr Cm hd hw hb (hf.imp id λh=>(andB (show(e.flat&&BT.flat r)=true from h)).2) h hB
 |.fmap t l::r,y,0,B,p,hb,hf,h,hB=>by
  simp only[mkB,DI,Ag]at h;subst h;refine⟨_,rfl,?_,rfl,(λ_ _ _ _ h=>by cases h),(λ_ _ _ _ _ _ _ h=>by cases h),λ_ _ _ _ _ _ h=>by cases h⟩;have BH:=(andB (show(l.all (λe=>Nat.blt e.2.2 m)&&BT.bnd m r)=true from hb)).1;cases p with
  |row _ _=>exact hB.elim
  |cells g=>
   obtain⟨es,CU,hh,hm⟩:=hB;refine⟨es,CU,by rw[hw];exact hh,?_⟩
   have key:∀{l:List (List UInt8×(FuncId×Nat))}{es:List MapEntry},l.all (λe=>Nat.blt e.2.2 m)=true->FRep E (fIds ids l) es->FRep E' (fIds Bu l) es:=by
    intro l
    induction l with
    |nil=>intro es _ h;exact h
    |cons x l ih=>intro es hb ⟨e,r,g,q1,q2,q3,q4,q5⟩;obtain⟨b1,b2⟩:=andB (show(Nat.blt x.2.2 m&&l.all (λe=>Nat.blt e.2.2 m))=true from hb);exact⟨e,r,g,q1,q2,hr.cells x.2.2 g (DR b1) q3,q4,ih b2 q5⟩
   exact key BH hm
 |.fmap t l::r,y,j+1,B,p,hb,hf,h,hB=>by simp only[mkB,Eg]at h⊢;exact MY hr Cm hd hw (andB (show(l.all (λe=>Nat.blt e.2.2 m)&&BT.bnd m r)=true from hb)).2 hf h hB
 |.mat t et e::r,y,j+1,B,p,hb,hf,h,hB=>by simp only[mkB,Eg]at h⊢;exact MY hr Cm hd hw hb (hf.imp id λh=>(andB (show(e.flat&&BT.flat r)=true from h)).2) h hB
 |.map t k v vg::r,y,0,B,p,hb,hf,h,hB=>by
  simp only[mkB,DI,Ag]at h;subst h;refine⟨_,rfl,?_,rfl,(λ_ _ _ _ h=>h),(λ_ _ _ _ _ _ _ h=>h),λ_ _ _ _ _ _ h=>h⟩;have If:all\/k.flat=true:=hf.imp id λh=>(andB (show(k.flat&&(v.flat&&BT.flat r))=true from h)).1;have WB:all\/v.flat=true:=hf.imp id λh=>(andB (andB (show(k.flat&&(v.flat&&BT.flat r))=true from h)).2).1;cases p with
  |row _ _=>exact hB.elim
  |cells g=>obtain⟨es,CU,hh,hm⟩:=hB;exact⟨es,CU,by rw[hw];exact hh,hm.mono (λx u hu=>hd k x u If hu) (λx u hu=>hd v x u WB hu)⟩
 |.map t k v vg::r,y,j+1,B,p,hb,hf,h,hB=>by simp only[mkB,Eg]at h⊢;exact MY hr Cm hd hw hb (hf.imp id λh=>(andB (andB (show(k.flat&&(v.flat&&BT.flat r))=true from h)).2).2) h hB
 |.cells t l::r,y,j+1,B,p,hb,hf,h,hB=>by simp only[mkB,Eg]at h⊢;exact MY hr Cm hd hw (andB (show(CT.bnd m l&&BT.bnd m r)=true from hb)).2 (hf.imp id λh=>(andB (show(CT.flat l&&BT.flat r)=true from h)).2) h hB
 |.row t e::r,y,j+1,B,p,hb,hf,h,hB=>by simp only[mkB,Eg]at h⊢;exact MY hr Cm hd hw hb (hf.imp id λh=>(andB (show(e.flat&&BT.flat r)=true from h)).2) h hB
def fnBl(l:List Blk):Nat->Option Blk:=λb=>l[b]?
structure SpecOk (P:Program) (f:FuncId) (S:Spec):Prop where
 fn:∃fn,P.funcs[f]?=some fn/\(fn.name== "runtime.NumGoroutine")=false/\fn.body.isNone=false
 ok:∀{β:Type}(x:ST.dens S.params×BT.dens S.ins)(k:ST.dens S.res×BT.dens S.outs->Option β)(r:β),S.run x k=some r->
  ∃y,k y=some r/\∀(ok0:OK0 P)(pl:Nat->Option Pl)(w:World)(args:List Value),
   RelB ok0 w.heap.size pl (fnBl (mkB (AY 0 S.ins.length) S.ins x.2)) w->
   TReps (Ap ok0 w.heap.size pl (fnBl (mkB (AY 0 S.ins.length) S.ins x.2)) w) (mkS (AY 0 S.ins.length) S.params x.1) args->
   Calls P f args.toArray w λe w'=>∃B4 Ak,e=.returned (HU B4)/\
    RelB ok0 w.heap.size Ak (fnBl (mkB (AY 0 S.outs.length) S.outs y.2)) w'/\
    StepM S.ins.length pl (fnBl (mkB (AY 0 S.ins.length) S.ins x.2)) w Ak (fnBl (mkB (AY 0 S.outs.length) S.outs y.2)) w'/\
    TReps (Ap ok0 w.heap.size Ak (fnBl (mkB (AY 0 S.outs.length) S.outs y.2)) w') (mkS (AY 0 S.outs.length) S.res y.1) B4
structure RowOk (P:Program) (f:FuncId) (F:RowF):Prop where
 fn:∃fn,P.funcs[f]?=some fn/\(fn.name== "runtime.NumGoroutine")=false/\fn.body.isNone=false
 flat:F.e.flat=true
 len:F.cut=false->∀l,(F.run l).length=l.length
 ok:∀(w:World)(base:Nat)(sv:Value)(l:List F.e.den)(xs:List Value),F.dom l=true->base<=w.heap.size->GlobR P sv.ownBlock w->DList (λx u=>DRep w (λ_=>True) F.e x u) l xs->w.ownsRow base F.t F.e.size sv l.length xs->
  Calls P f (sv::F.extra).toArray w λe w'=>∃Bd,e=.returned (bif F.cut then Bd else .tuple #[])/\w.grownBy w' sv.ownBlock/\(F.cut=false->Bd=sv)/\(Bd.ownBlock=sv.ownBlock\/∀g,Bd.ownBlock=some g->w.heap.size<=g)/\
   ∃D5,DList (λx u=>DRep w (λ_=>True) F.e x u) (F.run l) D5/\w'.ownsRow base F.t F.e.size Bd (F.run l).length D5
def Y8(P:Program)(f:FuncId)(F:BldF)(w:World)(base b:Nat)(v:Value)(l:List Int):Nat->Prop
 |0=>∀s:List UInt8,l.length+s.length<=140737488355328->Calls P f #[.pointer (some ⟨b,0,none⟩),.string ⟨s.toArray⟩] w λe w'=>
   e=.returned (.tuple #[.int .i64 (s.length:Int),.nilIface])/\∃w1 w2 v',w.grownBy w1 (some b)/\w1.heap[b]?=some (.cells #[.pointer (some ⟨b,0,none⟩),v] F.t (0,0))/\
    w1.grownBy w2 v.ownBlock/\(v'.ownBlock=v.ownBlock\/∀g,v'.ownBlock=some g->w1.heap.size<=g)/\w2.ownsRow base F.te 1 v' (l.length+s.length) ((l++CQ s).map (Value.int .u8))/\
    w2.grownBy w' (some b)/\w'.heap[b]?=some (.cells #[.pointer (some ⟨b,0,none⟩),v'] F.t (0,0))
 |1=>KJ l=true->Calls P f #[.pointer (some ⟨b,0,none⟩)] w λe w'=>e=.returned (.string ⟨(H8 l).toArray⟩)/\w.grownBy w' v.ownBlock
 |_=>Calls P f #[.pointer (some ⟨b,0,none⟩)] w λe w'=>e=.returned (.int .i64 (l.length:Int))/\w.grownBy w' none
structure BldOk (P:Program) (f:FuncId) (F:BldF):Prop where
 fn:∃fn,P.funcs[f]?=some fn/\(fn.name== "runtime.NumGoroutine")=false/\fn.body.isNone=false
 ok:F.op<3->∀(w:World)(base b:Nat)(p v:Value)(l:List Int),base<=w.heap.size->w.heap[b]?=some (.cells #[p,v] F.t (0,0))->(p=.pointer none\/p=.pointer (some ⟨b,0,none⟩))->
  w.ownsRow base F.te 1 v l.length (l.map (Value.int .u8))->v.ownBlock≠some b->Y8 P f F w base b v l F.op
 join:F.op=3->∀(w:World)(base:Nat)(sv:Value)(l:List (List UInt8))(sep:List UInt8),w.ownsRow base F.t 1 sv l.length (l.map λs=>Value.string ⟨s.toArray⟩)->l.length<=140737488355328->(Lib.join l sep).length<=140737488355328->
  Calls P f #[sv,.string ⟨sep.toArray⟩] w λe w'=>e=.returned (.string ⟨(Lib.join l sep).toArray⟩)/\w.grownBy w' none
structure AbsOk (P:Program) (f:FuncId) (A:AbsF):Prop where
 fn:∃fn,P.funcs[f]?=some fn/\(fn.name== "runtime.NumGoroutine")=false/\fn.body.isNone=false
 ok:∀{β:Type}(bl:Nat->Option Blk)(nx:Nat)(args:List V)(kk:V->List Nat->List (Nat×Blk)->Option β)(r:β),A.run bl nx args kk=some r->
  ∃v rd wr,kk v rd wr=some r/\∀Aa:Nat->Option Blk,(∀b∈rd,Aa b=bl b)->∀(ok0:OK0 P)(base:Nat)(pl:Nat->Option Pl)(w:World)(us:List Value),RelB ok0 base pl Aa w->VReps (Ap ok0 base pl Aa w) args us->
   Calls P f us.toArray w λe w'=>∃u Ak,e=.returned u/\RelB ok0 base Ak (updL Aa wr) w'/\Step pl Aa w Ak (updL Aa wr) w'/\VRep (Ap ok0 base Ak (updL Aa wr) w') v u
structure ΓOk (P:Program) (Γ:FuncId->Option Fun):Prop where
 spec:∀f S,Γ f=some (.spec S)->SpecOk P f S
 rows:∀f F,Γ f=some (.rows F)->RowOk P f F
 bld:∀f F,Γ f=some (.bld F)->BldOk P f F
 abs:∀f A,Γ f=some (.abs A)->AbsOk P f A
def place:List Nat->Nat->Option Nat
 |[],_=>none
 |x::r,i=>if i=x then some 0 else(place r i).map (· +1)
theorem Hj:∀{l:List Nat}{i b:Nat},place l i=some b->l[b]?=some i
 |[],i,b,h=>by simp[place]at h
 |x::r,i,b,h=>by
  simp only[place]at h;split at h
  ·rename_i hx
   simp only[Ag]at h;subst h hx;rfl
  ·cases hp:place r i with
   |none=>rw[hp]at h;cases h
   |some c=>rw[hp]at h;simp only[Fa,Ag]at h;subst h;simpa using Hj hp
theorem Kb:∀{l:List Nat}{i b:Nat},l.Nodup->l[b]?=some i->place l i=some b
 |[],i,b,_,h=>by simp at h
 |x::r,i,0,_,h=>by simp at h;subst h;simp[place]
 |x::r,i,b+1,hn,h=>by
  have h':r[b]?=some i:=by simpa using h
  have AW:i≠x:=by rintro rfl;exact(LD.1 hn).1 (Dg h')
  simp[place,AW,Kb (LD.1 hn).2 h']
theorem Aq4{l:List Nat}{i:Nat}(h:i∉l):place l i=none:=by
 cases hp:place l i with
 |none=>rfl
 |some b=>exact absurd (Dg (Hj hp)) h
theorem Ad3{f:Nat->Option Blk}:∀{l:List Nat}{xs:List Blk}(i:Nat),l.Nodup->l.length=xs.length->updL f (l.zip xs) i=match place l i with|some b=>xs[b]?|none=>f i:=by
 intro l
 induction l generalizing f with
 |nil=>intro xs i _ _;rfl
 |cons x r ih=>
  intro xs i hn hl;cases xs with
  |nil=>simp at hl
  |cons B xs=>
   simp only[List.zip_cons_cons,updL];rw[ih i (LD.1 hn).2 (by simpa using hl)];simp only[place];by_cases hi:i=x
   ·subst hi
    rw[Aq4 (LD.1 hn).1];simp[upd]
   ·simp only[hi,CF]
    cases hp:place r i with
    |none=>simp[upd,hi]
    |some b=>simp
theorem Ad4{ps:List (Nat×Nat)}:∀{n j:Nat}{ids:List Nat},SC ps j n=some ids->ids.length=n
 |0,j,ids,h=>by simp only[SC,Ag]at h;subst h;rfl
 |n+1,j,ids,h=>by
  simp only[SC]at h;split at h
  ·rename_i b r _ hr
   simp only[Ag]at h;subst h;simp[Ad4 hr]
  ·cases h
theorem mN{bl:Nat->Option Blk}{ids:List Nat}:∀{l:List BT}{is:List Nat}{y:BT.dens l},Gz bl ids l is=some y->∀i∈is,∃t cs,bl i=some (.cells t cs)
 |[],is,y,hp=>by
  cases is with
  |nil=>intro i h;simp at h
  |cons i is=>simp[Gz]at hp
 |.row t e::r,is,y,hp=>by cases is<;>simp[Gz]at hp
 |.map t k v vg::r,is,y,hp=>by cases is<;>simp[Gz]at hp
 |.mat t et e::r,is,y,hp=>by cases is<;>simp[Gz]at hp
 |.tree t e::r,is,y,hp=>by cases is<;>simp[Gz]at hp
 |.fmap t l::r,is,y,hp=>by cases is<;>simp[Gz]at hp
 |.cells t l::r,is,y,hp=>by
  cases is with
  |nil=>intro i h;simp at h
  |cons i is=>
   simp only[Gz]at hp;split at hp
   ·rename_i t' cs An
    cases ht:Nat.beq t t' with
    |false=>rw[ht]at hp;cases hp
    |true=>
     simp only[ht,Ar]at hp;split at hp
     ·cases hp
     ·split at hp
      ·cases hp
      ·rename_i z h2
       intro j hj;rcases Bw.1 hj with rfl|hj
       ·exact⟨t',cs,An⟩
       ·exact mN h2 j hj
   ·cases hp
theorem MZ{ids ids2:List Nat}:∀{l:List BT}{y:BT.dens l}{j:Nat}{t:TypeId}{e:Ty}{ver:Nat}{l':List e.den},(mkB ids l y)[j]?=some (.row t e ver l')->(mkB ids2 l y)[j]?=some (.row t e ver l')
 |[],_,j,_,_,_,_,h=>by simp[mkB]at h
 |.cells _ _::r,y,0,_,_,_,_,h=>by simp[mkB]at h
 |.row _ _::r,y,0,_,_,_,_,h=>by simpa [mkB]using h
 |.cells _ _::r,y,j+1,_,_,_,_,h=>by simp only[mkB,Eg]at h⊢;exact MZ h
 |.row _ _::r,y,j+1,_,_,_,_,h=>by simp only[mkB,Eg]at h⊢;exact MZ h
 |.map _ _ _ _::r,y,0,_,_,_,_,h=>by simp[mkB]at h
 |.map _ _ _ _::r,y,j+1,_,_,_,_,h=>by simp only[mkB,Eg]at h⊢;exact MZ h
 |.mat _ _ _::r,y,0,_,_,_,_,h=>by simp[mkB]at h
 |.mat _ _ _::r,y,j+1,_,_,_,_,h=>by simp only[mkB,Eg]at h⊢;exact MZ h
 |.tree _ _::r,y,0,_,_,_,_,h=>by simp[mkB]at h
 |.tree _ _::r,y,j+1,_,_,_,_,h=>by simp only[mkB,Eg]at h⊢;exact MZ h
 |.fmap _ _::r,y,0,_,_,_,_,h=>by simp[mkB]at h
 |.fmap _ _::r,y,j+1,_,_,_,_,h=>by simp only[mkB,Eg]at h⊢;exact MZ h
theorem Na{ids ids2:List Nat}:∀{l:List BT}{y:BT.dens l}{j:Nat}{t et:TypeId}{e:Ty}{ver Ah:Nat}{hole:Option Nat}{l':List (List e.den)},(mkB ids l y)[j]?=some (.mat t et e ver Ah hole l')->(mkB ids2 l y)[j]?=some (.mat t et e ver Ah hole l')
 |[],_,j,_,_,_,_,_,_,_,h=>by simp[mkB]at h
 |.cells _ _::r,y,0,_,_,_,_,_,_,_,h=>by simp[mkB]at h
 |.row _ _::r,y,0,_,_,_,_,_,_,_,h=>by simp[mkB]at h
 |.map _ _ _ _::r,y,0,_,_,_,_,_,_,_,h=>by simp[mkB]at h
 |.mat _ _ _::r,y,0,_,_,_,_,_,_,_,h=>by simpa [mkB]using h
 |.cells _ _::r,y,j+1,_,_,_,_,_,_,_,h=>by simp only[mkB,Eg]at h⊢;exact Na h
 |.row _ _::r,y,j+1,_,_,_,_,_,_,_,h=>by simp only[mkB,Eg]at h⊢;exact Na h
 |.map _ _ _ _::r,y,j+1,_,_,_,_,_,_,_,h=>by simp only[mkB,Eg]at h⊢;exact Na h
 |.mat _ _ _::r,y,j+1,_,_,_,_,_,_,_,h=>by simp only[mkB,Eg]at h⊢;exact Na h
 |.tree _ _::r,y,0,_,_,_,_,_,_,_,h=>by simp[mkB]at h
 |.tree _ _::r,y,j+1,_,_,_,_,_,_,_,h=>by simp only[mkB,Eg]at h⊢;exact Na h
 |.fmap _ _::r,y,0,_,_,_,_,_,_,_,h=>by simp[mkB]at h
 |.fmap _ _::r,y,j+1,_,_,_,_,_,_,_,h=>by simp only[mkB,Eg]at h⊢;exact Na h
theorem mO{ids ids2:List Nat}:∀{l:List BT}{y:BT.dens l}{j:Nat}{t:TypeId}{e:OT}{ver Ah:Nat}{hole:Option Path}{l':List e.ty.den},(mkB ids l y)[j]?=some (.tree t e ver Ah hole l')->(mkB ids2 l y)[j]?=some (.tree t e ver Ah hole l')
 |[],_,j,_,_,_,_,_,_,h=>by simp[mkB]at h
 |.tree _ _::r,y,0,_,_,_,_,_,_,h=>by simpa [mkB]using h
 |.cells _ _::r,y,0,_,_,_,_,_,_,h|.row _ _::r,y,0,_,_,_,_,_,_,h|.map _ _ _ _::r,y,0,_,_,_,_,_,_,h|.mat _ _ _::r,y,0,_,_,_,_,_,_,h=>by simp[mkB]at h
 |.cells _ _::r,y,j+1,_,_,_,_,_,_,h|.row _ _::r,y,j+1,_,_,_,_,_,_,h|.map _ _ _ _::r,y,j+1,_,_,_,_,_,_,h|.mat _ _ _::r,y,j+1,_,_,_,_,_,_,h|.tree _ _::r,y,j+1,_,_,_,_,_,_,h|.fmap _ _::r,y,j+1,_,_,_,_,_,_,h=>by simp only[mkB,Eg]at h⊢;exact mO h
theorem Nb{ids:List Nat}:∀{l:List BT}{y:BT.dens l}{j:Nat}{B:Blk},(mkB ids l y)[j]?=some B->B.live=true
 |[],_,j,_,h=>by simp[mkB]at h
 |.cells _ _::r,y,0,_,h=>by simp only[mkB,DI,Ag]at h;subst h;rfl
 |.row _ _::r,y,0,_,h=>by simp only[mkB,DI,Ag]at h;subst h;rfl
 |.cells _ _::r,y,j+1,_,h=>by simp only[mkB,Eg]at h;exact Nb h
 |.row _ _::r,y,j+1,_,h=>by simp only[mkB,Eg]at h;exact Nb h
 |.map _ _ _ _::r,y,0,_,h=>by simp only[mkB,DI,Ag]at h;subst h;rfl
 |.map _ _ _ _::r,y,j+1,_,h=>by simp only[mkB,Eg]at h;exact Nb h
 |.mat _ _ _::r,y,0,_,h=>by simp only[mkB,DI,Ag]at h;subst h;rfl
 |.mat _ _ _::r,y,j+1,_,h=>by simp only[mkB,Eg]at h;exact Nb h
 |.tree _ _::r,y,0,_,h=>by simp only[mkB,DI,Ag]at h;subst h;rfl
 |.tree _ _::r,y,j+1,_,h=>by simp only[mkB,Eg]at h;exact Nb h
 |.fmap _ _::r,y,0,_,h=>by simp only[mkB,DI,Ag]at h;subst h;rfl
 |.fmap _ _::r,y,j+1,_,h=>by simp only[mkB,Eg]at h;exact Nb h
theorem Ow{n b:Nat}(h:b<n):(AY 0 n).getD b 0=b:=by have:=mG (n:=n) (s:=0) h;simp[List.getD,this]
section
variable{P:Program}{o:Oper}{ρ:Operand->V}{bl:Nat->Option Blk}{β:Type}{r:β}
def Blk.lend:Blk->Bool
 |.row _ _ _ _=>true
 |.tree _ _ _ _ _ _=>true
 |_=>false
theorem Blk.lend_live{B:Blk}(h:B.lend=true):B.live=true:=by cases B<;>first|rfl|cases h
theorem mP{ok0:OK0 P}{base:Nat}{pl:Nat->Option Pl}{bl:Nat->Option Blk}{w:World}(hr:RelB ok0 base pl bl w){b:Nat}{B:Blk}{p:Pl}(hb:bl b=some B)(hl:B.lend=true)(hp:pl b=some p){g:Nat}(hg:p.has g):base<=g/\¬ok0.no g:=by
 refine⟨?_,λhn=>(hr.glob.no g hn).2 ⟨b,B,p,hb,Blk.lend_live hl,hp,hg⟩⟩;obtain⟨q,hq,hB⟩:=hr.blks b _ hb;rw[hp]at hq;injection hq with hq;subst hq;cases B with
 |row t e ver l=>
  cases p with
  |cells _=>exact hB.elim
  |row sv Ac=>obtain⟨rfl,xs,_,ho⟩:=hB;exact(ho.lt g (Pl.has_row hg)).1
 |tree t e ver Ah hole l=>
  cases p with
  |cells _=>exact hB.elim
  |row sv Ac=>have hT:TreeOk _ t e hole l sv Ac:=hB;obtain⟨hv,F,h1,h2,_⟩:=hT.rep;obtain⟨s,hs,hg⟩:=h2.of_has hg;exact(h1.lt s hs g hg).1
 |_=>cases hl
theorem Aq5{S:Spec}{bl:Nat->Option Blk}{rds:List Nat}{p:Nat×Blk}(h:p∈Qu S bl rds):p.2=.dead/\p.1∈rds/\∃B,bl p.1=some B/\B.lend=true:=by
 unfold Qu at h;cases hf:(ST.flat S.res&&BT.flat S.outs)with
 |true=>rw[hf]at h;simp at h
 |false=>
  rw[hf,Cd]at h;obtain⟨b,hb,hp⟩:=List.mem_filterMap.1 h;split at hp
  ·rename_i An
   injection hp with hp;subst hp;exact⟨rfl,hb,_,An,rfl⟩
  ·rename_i An
   injection hp with hp;subst hp;exact⟨rfl,hb,_,An,rfl⟩
  ·cases hp
theorem Aq6{S:Spec}{bl:Nat->Option Blk}{rds:List Nat}(hf:(ST.flat S.res&&BT.flat S.outs)=false){b:Nat}(hb:b∈rds){B:Blk}(An:bl b=some B)(hl:B.lend=true):(b,Blk.dead)∈Qu S bl rds:=by unfold Qu;rw[hf,Cd];refine List.mem_filterMap.2 ⟨b,hb,?_⟩;rw[An];cases B<;>first|rfl|cases hl
theorem Td:∀{l:List (Nat×Blk)}{f:Nat->Option Blk}(i:Nat),(∀p∈l,p.2=Blk.dead)->(updL f l i=f i/\(∀p∈l,p.1≠i))\/(updL f l i=some .dead/\∃p∈l,p.1=i)
 |[],f,i,_=>.inl ⟨rfl,λ_ h=>by simp at h⟩
 |(j,x)::l,f,i,h=>by
  have hx:x=.dead:=h (j,x) (by simp);subst hx;simp only[updL];rcases Td (l:=l) (f:=upd f j .dead) i (λp hp=>h p (by simp[hp]))with⟨h1,h2⟩|⟨h1,p,hp,h2⟩
  ·by_cases Dw:i=j
   ·subst Dw
    exact .inr ⟨by rw[h1];simp[upd],(i,.dead),by simp,rfl⟩
   ·refine .inl ⟨by rw[h1];simp[upd,Dw],λp hp=>?_⟩
    rcases Bw.1 hp with e|hp
    ·rw[e];exact λh=>Dw h.symm
    ·exact h2 p hp
  ·exact .inr ⟨h1,p,by simp[hp],h2⟩
theorem Aq7{F:RowF}{E:Env}{args:List V}{us:List Value}{b ver:Nat}(h:lB F args=some (b,ver))(Db:VReps E args us):∃u,us=u::F.extra/\VRep E (.c (.row b ver)) u:=by
 unfold lB at h;split at h
 ·rename_i b' ver' C3
  cases h;obtain⟨u,CL,rfl,hu,hn⟩:=Db;have hn:CL=[]:=hn;subst hn;exact⟨u,by unfold RowF.extra;rw[C3],hu⟩
 ·rename_i b' ver' g g' C3
  cases hg:Nat.beq g g' with
  |false=>rw[hg]at h;cases h
  |true=>
   rw[hg]at h;cases h;have hg:=Az hg;subst hg;obtain⟨u,CL,rfl,hu,u2,us2,rfl,⟨gs,AaA,hv⟩,hn⟩:=Db;have hn:us2=[]:=hn;subst hn
   have:gs=[]:=by
    cases gs with
    |nil=>rfl
    |cons _ _=>simp at AaA
   subst this;exact⟨u,by unfold RowF.extra;rw[C3,hv];rfl,hu⟩
 ·cases h
theorem Aq8{F:RowF}{f:FuncId}(hF:RowOk P f F){kk:K β}{args:List V}(hk:lC F bl args kk=some r)(Fv:∀(Aa:Nat->Option Blk)(ok0:OK0 P)(base:Nat)(pl:Nat->Option Pl)(w:World)(a:Act),RelB ok0 base pl Aa w->(∀x∈o.op.operands,VRep (Ap ok0 base pl Aa w) (ρ x) (a.eval x))->∃us,VReps (Ap ok0 base pl Aa w) args us/\((∃fn,P.funcs[f]?=some fn/\(fn.name== "runtime.NumGoroutine")=false/\fn.body.isNone=false)->(execOp a.eval o).run P w=.ok (.enter f us.toArray) w)):Sound P o ρ bl kk r:=by
 unfold lC at hk;split at hk
 ·rename_i b ver AHc
  split at hk
  ·rename_i t e ver' l An
   cases hc:(Nat.beq ver ver'&&Nat.beq t F.t)with
   |false=>rw[hc]at hk;cases hk
   |true=>
    simp only[hc,Ar]at hk;obtain⟨h1,h2⟩:=andB hc;have h1:=Az h1;have h2:=Az h2;subst h1 h2;split at hk
    ·rename_i he
     subst he;obtain⟨P5,hk⟩:=DL hk
     have main:∀(Aa:Nat->Option Blk),Aa b=bl b->∀(ok0:OK0 P)(base:Nat)(pl:Nat->Option Pl)(w:World)(a:Act),RelB ok0 base pl Aa w->(∀x∈o.op.operands,VRep (Ap ok0 base pl Aa w) (ρ x) (a.eval x))->
       ∃sv,pl b=some (.row sv [])/\(execOp a.eval o).run P w=.ok (.enter f (sv::F.extra).toArray) w/\Calls P f (sv::F.extra).toArray w λe w'=>∃Bd,e=.returned (bif F.cut then Bd else .tuple #[])/\w.grownBy w' sv.ownBlock/\(F.cut=false->Bd=sv)/\
        (Bd.ownBlock=sv.ownBlock\/∀g,Bd.ownBlock=some g->w.heap.size<=g)/\∃D5,DList (λx u=>DRep w (λ_=>True) F.e x u) (F.run l) D5/\w'.ownsRow base F.t F.e.size Bd (F.run l).length D5:=by
      intro Aa Aj ok0 base pl w a hr Af;obtain⟨us,Db,AM⟩:=Fv Aa ok0 base pl w a hr Af;have AM:=AM hF.fn;obtain⟨u,rfl,_,sv,Ac,Aw,Bt⟩:=Aq7 AHc Db;have Cb:Aa b=some (.row F.t F.e ver l):=Aj.trans An;have hu:=(Bt F.t F.e ver l Cb).2 rfl;subst hu;obtain⟨p,hp,hB⟩:=hr.blks b _ Cb;have:p=.row u Ac:=by have h2:pl b=some (.row u Ac):=Aw;rw[hp]at h2;injection h2
      subst this;obtain⟨h0,xs,hd,Ao⟩:=hB;subst h0;exact⟨u,Aw,AM,hF.ok w base u l xs P5 hr.baseLe (hr.glob.row λg hg=>⟨b,_,_,Cb,rfl,hp,Or.inl hg⟩) (hd.mono λx us hx=>hx.flat hF.flat) Ao⟩
     cases N6:F.cut with
     |false=>rw[N6]at hk;simp only[Cd]at hk;refine⟨_,_,_,hk,λAa Aj=>?_⟩;have Cb:Aa b=some (.row F.t F.e ver l):=(Aj b (by simp)).trans An;intro ok0 base pl w a hr Af K Q hK;obtain⟨sv,Aw,AM,Ff⟩:=main Aa (Aj b (by simp)) ok0 base pl w a hr Af;unfold Oper.wp;rw[AM];simp only[Oper.upon];refine Ff.mono λe w' ⟨Bd,he,Hx,JV,Gc,D5,Cv,Kz⟩=>?_;have JV:=JV N6;subst JV;rw[N6]at he;simp only[Cd]at he;subst he;simp only;have Bg:ver<=ver/\(ver=ver->Bd=Bd/\(F.run l).length=l.length):=⟨AQ _,λ_=>⟨rfl,hF.len N6 l⟩⟩;have hs:=Step.grown (l':=F.run l) hr Cb Aw Hx Gc Bg;refine hK (.tuple #[]) (upd pl b (.row Bd [])) w' (RelB.grown hr Cb Aw Hx Gc Bg ⟨rfl,D5,Cv.mono λx u hu=>hu.flat hF.flat,Kz⟩) hs ⟨[],rfl,rfl⟩
     |true=>
      rw[N6]at hk;simp only[Ar]at hk;refine⟨_,_,_,hk,λAa Aj=>?_⟩;have Cb:Aa b=some (.row F.t F.e ver l):=(Aj b (by simp)).trans An;intro ok0 base pl w a hr Af K Q hK;obtain⟨sv,Aw,AM,Ff⟩:=main Aa (Aj b (by simp)) ok0 base pl w a hr Af;unfold Oper.wp;rw[AM];simp only[Oper.upon];refine Ff.mono λe w' ⟨Bd,he,Hx,JV,Gc,D5,Cv,Kz⟩=>?_;rw[N6]at he;simp only[Ar]at he;subst he;simp only;have Bg:ver<=ver+1/\(ver=ver+1->Bd=sv/\(F.run l).length=l.length):=⟨Nat.le_succ _,λh=>by omega⟩;have hs:=Step.grown (l':=F.run l) hr Cb Aw Hx Gc Bg;have hR:=RelB.grown hr Cb Aw Hx Gc Bg ⟨rfl,D5,Cv.mono λx u hu=>hu.flat hF.flat,Kz⟩;refine hK Bd (upd pl b (.row Bd [])) w' hR hs ⟨?_,Bd,[],by simp[Ap,upd],λt e IJ l2 hb=>?_⟩
      ·rcases Kz.2 with⟨h,_⟩|⟨g,cap,AP,h,_⟩<;>rw[h]<;>rfl
      ·have hb:upd Aa b (.row F.t F.e (ver+1) (F.run l)) b=some (.row t e IJ l2):=hb
       simp only[upd]at hb;simp at hb;exact⟨by omega,λ_=>rfl⟩
    ·cases hk
  ·cases hk
 ·cases hk
theorem Te{w:World}{ok:Nat->Prop}{k:IntKind}:∀{l:List Int}{xs:List Value},DList (λ(x:Int) u=>DRep w ok (.int k) x u) l xs↔xs=l.map (Value.int k)
 |[],xs=>by simp[DList]
 |x::l,xs=>by
  simp only[DList,CM];constructor
  ·rintro⟨u,v,rfl,hu,hv⟩
   rw[Te.1 hv];simp only[DRep]at hu;subst hu;rfl
  ·rintro rfl
   exact⟨[.int k x],_,rfl,by simp[DRep],Te.2 rfl⟩
theorem mQ{w:World}{ok:Nat->Prop}:∀{l:List (List UInt8)}{xs:List Value},DList (λ(x:List UInt8) u=>DRep w ok .str x u) l xs↔xs=l.map λs=>Value.string ⟨s.toArray⟩
 |[],xs=>by simp[DList]
 |x::l,xs=>by
  simp only[DList,CM];constructor
  ·rintro⟨u,v,rfl,hu,hv⟩
   rw[mQ.1 hv];simp only[DRep]at hu;subst hu;rfl
  ·rintro rfl
   exact⟨[.string ⟨x.toArray⟩],_,rfl,by simp[DRep],mQ.2 rfl⟩
theorem Q7{F:BldF}{bl:Nat->Option Blk}{i:Nat}{q:Option (Nat×Nat)}{l:List Int}(h:SE F bl i=some (q,l)):∃c1 c2,bl i=some (.cells F.t [c1,c2])/\SD c1 i=true/\((q=none/\l=[]/\c2=.nils)\/∃j ver,q=some (j,ver)/\c2=.row j ver/\bl j=some (.row F.te (.int .u8) ver l)):=by
 unfold SE at h;split at h
 ·rename_i t p q' An
  cases hc:(Nat.beq t F.t&&SD p i)with
  |false=>rw[hc]at h;cases h
  |true=>
   simp only[hc,Ar]at h;obtain⟨h1,h2⟩:=andB hc;have h1:=Az h1;subst h1;split at h
   ·simp only[Ag,BQ]at h
    obtain⟨rfl,rfl⟩:=h;exact⟨p,_,An,h2,.inl ⟨rfl,rfl,rfl⟩⟩
   ·rename_i j ver
    split at h
    ·rename_i te ver' l' Ie
     cases Cz:(Nat.beq te F.te&&Nat.beq ver ver')with
     |false=>rw[Cz]at h;cases h
     |true=>simp only[Cz,Ar,Ag,BQ]at h;obtain⟨rfl,rfl⟩:=h;obtain⟨h3,h4⟩:=andB Cz;have h3:=Az h3;have h4:=Az h4;subst h3 h4;exact⟨p,_,An,h2,.inr ⟨j,ver,rfl,rfl,Ie⟩⟩
    ·cases h
   ·cases h
 ·cases h
theorem Q8{F:BldF}{ok0:OK0 P}{base:Nat}{pl:Nat->Option Pl}{bl:Nat->Option Blk}{w:World}(hr:RelB ok0 base pl bl w){i:Nat}{c1 c2:C}(An:bl i=some (.cells F.t [c1,c2]))(hs:SD c1 i=true){u:Value}(hu:VRep (Ap ok0 base pl bl w) (.c (.ptr i 0)) u):∃g p v,u=.pointer (some ⟨g,0,none⟩)/\pl i=some (.cells g)/\w.heap[g]?=some (.cells #[p,v] F.t (0,0))/\(p=.pointer none\/p=.pointer (some ⟨g,0,none⟩))/\CRep (Ap ok0 base pl bl w) c2 v:=by
 obtain⟨g,AC,rfl⟩:=hu;have AC:pl i=some (.cells g):=AC;obtain⟨q,hq,hB⟩:=hr.blks i _ An;rw[AC]at hq;injection hq with hq;subst hq;obtain⟨vs,hh,v1,vs1,rfl,Fw,v2,vs2,rfl,GI,hn⟩:=hB;have hn:vs2=[]:=hn;subst hn;refine⟨g,v1,v2,rfl,AC,hh,?_,GI⟩;cases c1<;>simp only[SD]at hs<;>try(cases hs;done)
 ·exact .inl Fw
 ·rename_i b
  have:=Az hs;subst this;rcases Fw with h|⟨g',CJ,h⟩
  ·exact .inl h
  ·have CJ:pl b=some (.cells g'):=CJ
   rw[AC]at CJ;injection CJ with CJ;injection CJ with CJ;subst CJ;exact .inr h
theorem mR{F:BldF}{ok0:OK0 P}{base:Nat}{pl:Nat->Option Pl}{bl:Nat->Option Blk}{w:World}(hr:RelB ok0 base pl bl w){i j ver g:Nat}{B:Blk}(CP:bl i=some B)(AaI:B.live=true)(AC:pl i=some (.cells g)){l:List Int}(Ie:bl j=some (.row F.te (.int .u8) ver l)){v:Value}(hv:CRep (Ap ok0 base pl bl w) (.row j ver) v)(Dw:i≠j):pl j=some (.row v [])/\w.ownsRow base F.te 1 v l.length (l.map (Value.int .u8))/\v.ownBlock≠some g:=by
 obtain⟨_,sv,Ac,Aw,Bt⟩:=hv;have hv:=(Bt F.te (.int .u8) ver l Ie).2 rfl;subst hv;have Aw:pl j=some (.row v Ac):=Aw;obtain⟨q,hq,hB⟩:=hr.blks j _ Ie;rw[Aw]at hq;injection hq with hq;subst hq;obtain⟨rfl,xs,hd,Ao⟩:=hB;rw[Te.1 hd]at Ao;refine⟨Aw,Ao,λh=>?_⟩;exact hr.sep i j _ _ _ _ g Dw CP Ie AaI rfl AC Aw rfl (.inl h)
theorem Step.still{pl:Nat->Option Pl}{bl:Nat->Option Blk}{w w':World}(hg:w.grownBy w' none):Step pl bl w pl bl w':=
 ⟨hg.os,hg.tape,hg.output,hg.size,λg Au ho=>⟨hg.block g Au (by simp),ho⟩,λ_ _ h=>h,λ_ sv Ac h=>⟨sv,Ac,h,KeepR.refl _ _ _⟩⟩
theorem RelB.still{ok0:OK0 P}{base:Nat}{pl:Nat->Option Pl}{bl:Nat->Option Blk}{w w':World}(hr:RelB ok0 base pl bl w)(hg:w.grownBy w' none):RelB ok0 base pl bl w':=by
 have hs:Step pl bl w pl bl w':=Step.still hg;refine⟨D2 hr.baseLe hs.size,λi B hB=>?_,hr.sep,hr.fresh,hr.glob.out hs.size hs.out⟩;obtain⟨p,hp,hR⟩:=hr.blks i B hB;refine⟨p,hp,?_⟩;cases hl:B.live with
 |false=>cases B<;>first|exact trivial|simp[Blk.live]at hl
 |true=>exact BRep.mono hs.ext hR λg hq=>hg.block g (Own.lt hr ⟨i,B,p,hB,hl,hp,hq⟩) (by simp)
theorem Ad5{α:Type}{f:Nat->Option α}{i j:Nat}(Dw:i≠j)(x y z:α):upd (upd (upd f i x) j y) i z=upd (upd f j y) i z:=by
 funext k;simp only[upd];by_cases h1:k=i
 ·simp[h1]
 ·by_cases h2:k=j
  ·simp[h1,h2]
  ·simp[h1,h2]
theorem Ad6(s:List UInt8):(CQ s).length=s.length:=by simp[CQ]
theorem Ad7{E:Env}(s:List UInt8):VRep E (wrote s) (.tuple #[.int .i64 (s.length:Int),.nilIface]):=
 ⟨[.int .i64 (s.length:Int),.nilIface],rfl,_,_,rfl,⟨[.int .i64 (s.length:Int)],⟨_,_,rfl,rfl,rfl⟩,rfl⟩,_,_,rfl,⟨[.nilIface],⟨_,_,rfl,rfl,rfl⟩,rfl⟩,rfl⟩
theorem mS{w:World}{base:Nat}{t:TypeId}{size:Nat}{v:Value}{n:Nat}{xs:List Value}(h:w.ownsRow base t size v n xs):v.oneCell'=true:=by rcases h.2 with⟨h,_⟩|⟨g,cap,AP,h,_⟩<;>rw[h]<;>rfl
theorem Aq9{F:BldF}{f:FuncId}(hF:BldOk P f F){kk:K β}{nx:Nat}{args:List V}(hk:lD F bl nx args kk=some r)(Fv:∀(Aa:Nat->Option Blk)(ok0:OK0 P)(base:Nat)(pl:Nat->Option Pl)(w:World)(a:Act),RelB ok0 base pl Aa w->(∀x∈o.op.operands,VRep (Ap ok0 base pl Aa w) (ρ x) (a.eval x))->∃us,VReps (Ap ok0 base pl Aa w) args us/\((∃fn,P.funcs[f]?=some fn/\(fn.name== "runtime.NumGoroutine")=false/\fn.body.isNone=false)->(execOp a.eval o).run P w=.ok (.enter f us.toArray) w)):Sound P o ρ bl kk r:=by
 unfold lD at hk;split at hk
 ·
  rename_i i s hn;split at hk
  ·rename_i l0 hb
   obtain⟨GF,hk⟩:=DL hk;obtain⟨Bp,hk⟩:=DL hk;have Bp:=Bv Bp;obtain⟨c1,c2,An,K3,hq⟩:=Q7 hb
   obtain⟨rfl,rfl⟩:l0=[]/\c2=.nils:=by
    rcases hq with⟨_,h1,h2⟩|⟨j,ver,hq,_⟩
    ·exact⟨h1,h2⟩
    ·cases hq
   refine⟨_,_,_,hk,λAa Aj=>?_⟩;have Cb:Aa i=some (.cells F.t [c1,.nils]):=(Aj i (by simp)).trans An
   have AaR:Aa nx=none:=by
    rw[Aj nx (by simp)];unfold Acj at GF;split at GF
    ·assumption
    ·cases GF
   have AW:i≠nx:=by rintro rfl;rw[Cb]at AaR;cases AaR
   intro ok0 base pl w a hr Af K Q hK;obtain⟨us,Db,AM⟩:=Fv Aa ok0 base pl w a hr Af;have AM:=AM hF.fn;obtain⟨u,us1,rfl,hu,u2,us2,rfl,Bm,DD⟩:=Db;have DD:us2=[]:=DD;have Bm:u2=.string ⟨s.toArray⟩:=Bm;subst DD Bm;obtain⟨g,p,v,rfl,AC,I8,hp,hv⟩:=Q8 hr Cb K3 hu;have hv:v=.slice none 0 0:=hv;subst hv;have EK:=hF.ok (by rw[hn];decide) w base g p (.slice none 0 0) [] hr.baseLe I8 hp (World.ownsRow_nil _ _ _ _) (by simp[Value.ownBlock]);rw[hn]at EK;have Ff:=EK s (by simpa using Bp);unfold Oper.wp;rw[AM];simp only[Oper.upon];refine Ff.mono λe w' ⟨he,w1,w2,v',Mv,Ig,JQ,Cw,DE,WD,AaC⟩=>?_;subst he;simp only
   have AaV:w2.ownsRow base F.te (Ty.size (.int .u8)) v' (CQ s).length ((CQ s).map (Value.int .u8)):=by have h:=DE;simp only[CX,Ei,Fl]at h;rw[Ad6];exact h
   have AHy:∀g,v'.ownBlock=some g->w1.heap.size<=g:=λg hg=>by
    rcases Cw with h|h
    ·rw[h]at hg;cases hg
    ·exact h g hg
   have s1:=Step.wrote (cs':=[.bself i,.nils]) hr Cb AC Mv;have r1:=RelB.wrote (cs':=[.bself i,.nils]) hr Cb AC Mv ⟨_,Ig,_,_,rfl,.inr ⟨g,by simp[Ap,upd],rfl⟩,_,_,rfl,rfl,rfl⟩;have AnF:upd Aa i (.cells F.t [.bself i,.nils]) nx=none:=by simp[upd,Ne.symm AW,AaR]
   have JQ:w1.grownBy w2 none:=JQ;have WT:∀g,(Pl.row v' []).has g->w1.heap.size<=g:=λg hg=>AHy g (Pl.has_row hg);have s2:=Step.new (B:=.row F.te (.int .u8) 0 (CQ s)) r1 AnF JQ WT;have r2:=RelB.new (B:=.row F.te (.int .u8) 0 (CQ s)) r1 AnF JQ WT ⟨rfl,_,Te.2 rfl,AaV⟩;have Lp:upd (upd Aa i (.cells F.t [.bself i,.nils])) nx (.row F.te (.int .u8) 0 (CQ s)) i=some (.cells F.t [.bself i,.nils]):=by simp[upd,AW]
   have CD:upd (upd pl i (.cells g)) nx (.row v' []) i=some (.cells g):=by simp[upd,AW]
   have s3:=Step.wrote (cs':=[.bself i,.row nx 0]) r2 Lp CD WD
   have r3:=RelB.wrote (cs':=[.bself i,.row nx 0]) r2 Lp CD WD ⟨_,AaC,_,_,rfl,.inr ⟨g,by simp[Ap,upd],rfl⟩,_,_,rfl,⟨mS DE,v',[],by simp[Ap,upd,Ne.symm AW],λt e ver' l' h=>by simp[Ap,upd,Ne.symm AW]at h;exact⟨Ej _,λ_=>rfl⟩⟩,rfl⟩
   have s4:=(s1.trans s2).trans s3;simp only[Ad5 AW]at r3 s4;exact hK _ _ _ r3 s4 (Ad7 s)
  ·rename_i j ver l hb
   obtain⟨Bp,hk⟩:=DL hk;have Bp:=Bv Bp;obtain⟨c1,c2,An,K3,hq⟩:=Q7 hb;rcases hq with⟨hq,_⟩|⟨j',ver',hq,rfl,Ie⟩
   ·cases hq
   simp only[Ag,BQ]at hq;obtain⟨rfl,rfl⟩:=hq;refine⟨_,_,_,hk,λAa Aj=>?_⟩;have Cb:Aa i=some (.cells F.t [c1,.row j ver]):=(Aj i (by simp)).trans An;have Hs:Aa j=some (.row F.te (.int .u8) ver l):=(Aj j (by simp)).trans Ie;have AW:i≠j:=by rintro rfl;rw[Cb]at Hs;cases Hs
   intro ok0 base pl w a hr Af K Q hK;obtain⟨us,Db,AM⟩:=Fv Aa ok0 base pl w a hr Af;have AM:=AM hF.fn;obtain⟨u,us1,rfl,hu,u2,us2,rfl,Bm,DD⟩:=Db;have DD:us2=[]:=DD;have Bm:u2=.string ⟨s.toArray⟩:=Bm;subst DD Bm;obtain⟨g,p,v,rfl,AC,I8,hp,hv⟩:=Q8 hr Cb K3 hu;obtain⟨Dy,Ao,WN⟩:=mR (F:=F) hr Cb rfl AC Hs hv AW;have EK:=hF.ok (by rw[hn];decide) w base g p v l hr.baseLe I8 hp Ao WN;rw[hn]at EK;have Ff:=EK s Bp;unfold Oper.wp;rw[AM];simp only[Oper.upon];refine Ff.mono λe w' ⟨he,w1,w2,v',Mv,Ig,JQ,Cw,DE,WD,AaC⟩=>?_;subst he;simp only
   have AaV:w2.ownsRow base F.te (Ty.size (.int .u8)) v' (l++CQ s).length ((l++CQ s).map (Value.int .u8)):=by rw[AR,Ad6];exact DE
   have AaX:upd pl i (.cells g) j=some (.row v []):=by simp[upd,Ne.symm AW,Dy]
   have Aar:upd Aa i (.cells F.t [.bself i,.row j ver]) j=some (.row F.te (.int .u8) ver l):=by simp[upd,Ne.symm AW,Hs]
   have s1:=Step.wrote (cs':=[.bself i,.row j ver]) hr Cb AC Mv
   have r1:=RelB.wrote (cs':=[.bself i,.row j ver]) hr Cb AC Mv ⟨_,Ig,_,_,rfl,.inr ⟨g,by simp[Ap,upd],rfl⟩,_,_,rfl,⟨mS Ao,v,[],by simp[Ap,AaX],λt e ver' l' h=>by have h:upd Aa i (.cells F.t [.bself i,.row j ver]) j=some (.row t e ver' l'):=h;rw[Aar]at h;injection h with h;injection h with h1 h2 h3 h4;exact⟨KE h3,λ_=>rfl⟩⟩,rfl⟩
   have Bg:ver<=ver+1/\(ver=ver+1->v'=v/\(l++CQ s).length=l.length):=⟨Nat.le_succ _,λh=>by omega⟩;have s2:=Step.grown (e:=.int .u8) (l':=l++CQ s) r1 Aar AaX JQ Cw Bg;have r2:=RelB.grown (e:=.int .u8) (l':=l++CQ s) r1 Aar AaX JQ Cw Bg ⟨rfl,_,Te.2 rfl,AaV⟩;have Lp:upd (upd Aa i (.cells F.t [.bself i,.row j ver])) j (.row F.te (.int .u8) (ver+1) (l++CQ s)) i=some (.cells F.t [.bself i,.row j ver]):=by simp[upd,AW]
   have CD:upd (upd pl i (.cells g)) j (.row v' []) i=some (.cells g):=by simp[upd,AW]
   have s3:=Step.wrote (cs':=[.bself i,.row j (ver+1)]) r2 Lp CD WD
   have r3:=RelB.wrote (cs':=[.bself i,.row j (ver+1)]) r2 Lp CD WD ⟨_,AaC,_,_,rfl,.inr ⟨g,by simp[Ap,upd],rfl⟩,_,_,rfl,⟨mS DE,v',[],by simp[Ap,upd,Ne.symm AW],λt e ver' l' h=>by simp[Ap,upd,Ne.symm AW]at h;exact⟨by omega,λ_=>rfl⟩⟩,rfl⟩
   have s4:=(s1.trans s2).trans s3;simp only[Ad5 AW]at r3 s4;exact hK _ _ _ r3 s4 (Ad7 s)
  ·cases hk
 ·
  rename_i i hn;split at hk
  ·rename_i l0 hb
   obtain⟨c1,c2,An,K3,hq⟩:=Q7 hb
   obtain⟨rfl,rfl⟩:l0=[]/\c2=.nils:=by
    rcases hq with⟨_,h1,h2⟩|⟨j,ver,hq,_⟩
    ·exact⟨h1,h2⟩
    ·cases hq
   refine⟨_,_,_,hk,λAa Aj=>?_⟩;have Cb:Aa i=some (.cells F.t [c1,.nils]):=(Aj i (by simp)).trans An;intro ok0 base pl w a hr Af K Q hK;obtain⟨us,Db,AM⟩:=Fv Aa ok0 base pl w a hr Af;have AM:=AM hF.fn;obtain⟨u,us1,rfl,hu,DD⟩:=Db;have DD:us1=[]:=DD;subst DD;obtain⟨g,p,v,rfl,AC,I8,hp,hv⟩:=Q8 hr Cb K3 hu;have hv:v=.slice none 0 0:=hv;subst hv;have EK:=hF.ok (by rw[hn];decide) w base g p (.slice none 0 0) [] hr.baseLe I8 hp (World.ownsRow_nil _ _ _ _) (by simp[Value.ownBlock]);rw[hn]at EK;have Ff:=EK rfl;unfold Oper.wp;rw[AM];simp only[Oper.upon];refine Ff.mono λe w' ⟨he,hg⟩=>?_;subst he;simp only;exact hK _ _ _ (hr.still hg) (Step.still hg) rfl
  ·rename_i j ver l hb
   obtain⟨Gr,hk⟩:=DL hk;obtain⟨c1,c2,An,K3,hq⟩:=Q7 hb;rcases hq with⟨hq,_⟩|⟨j',ver',hq,rfl,Ie⟩
   ·cases hq
   simp only[Ag,BQ]at hq;obtain⟨rfl,rfl⟩:=hq;refine⟨_,_,_,hk,λAa Aj=>?_⟩;have Cb:Aa i=some (.cells F.t [c1,.row j ver]):=(Aj i (by simp)).trans An;have Hs:Aa j=some (.row F.te (.int .u8) ver l):=(Aj j (by simp)).trans Ie;have AW:i≠j:=by rintro rfl;rw[Cb]at Hs;cases Hs
   intro ok0 base pl w a hr Af K Q hK;obtain⟨us,Db,AM⟩:=Fv Aa ok0 base pl w a hr Af;have AM:=AM hF.fn;obtain⟨u,us1,rfl,hu,DD⟩:=Db;have DD:us1=[]:=DD;subst DD;obtain⟨g,p,v,rfl,AC,I8,hp,hv⟩:=Q8 hr Cb K3 hu;obtain⟨Dy,Ao,WN⟩:=mR (F:=F) hr Cb rfl AC Hs hv AW;have EK:=hF.ok (by rw[hn];decide) w base g p v l hr.baseLe I8 hp Ao WN;rw[hn]at EK;have Ff:=EK Gr;unfold Oper.wp;rw[AM];simp only[Oper.upon];refine Ff.mono λe w' ⟨he,hg⟩=>?_;subst he;simp only;have RL:KeepR (some (.row F.te (.int .u8) ver l)) (some .dead) v [] v []:=⟨λ_ _ _ _ h=>(by cases h),λ_ _ _ _ _ _ _ h=>(by cases h),λ_ _ _ _ _ _ h=>(by cases h)⟩;have hs:=Step.grownP (B':=.dead) hr Hs rfl Dy hg (λg h=>.inl h) (λg h=>.inl h) RL;exact hK _ _ _ (RelB.grownP (B':=.dead) hr Hs rfl Dy hg (λg h=>.inl h) (λg h=>.inl h) RL trivial) hs rfl
  ·cases hk
 ·
  rename_i i hn;split at hk
  ·rename_i l0 hb
   obtain⟨c1,c2,An,K3,hq⟩:=Q7 hb
   obtain⟨rfl,rfl⟩:l0=[]/\c2=.nils:=by
    rcases hq with⟨_,h1,h2⟩|⟨j,ver,hq,_⟩
    ·exact⟨h1,h2⟩
    ·cases hq
   refine⟨_,_,_,hk,λAa Aj=>?_⟩;have Cb:Aa i=some (.cells F.t [c1,.nils]):=(Aj i (by simp)).trans An;intro ok0 base pl w a hr Af K Q hK;obtain⟨us,Db,AM⟩:=Fv Aa ok0 base pl w a hr Af;have AM:=AM hF.fn;obtain⟨u,us1,rfl,hu,DD⟩:=Db;have DD:us1=[]:=DD;subst DD;obtain⟨g,p,v,rfl,AC,I8,hp,hv⟩:=Q8 hr Cb K3 hu;have hv:v=.slice none 0 0:=hv;subst hv;have EK:=hF.ok (by rw[hn];decide) w base g p (.slice none 0 0) [] hr.baseLe I8 hp (World.ownsRow_nil _ _ _ _) (by simp[Value.ownBlock]);rw[hn]at EK;have Ff:=EK;unfold Oper.wp;rw[AM];simp only[Oper.upon];refine Ff.mono λe w' ⟨he,hg⟩=>?_;subst he;simp only;exact hK _ _ _ (hr.still hg) (Step.still hg) rfl
  ·rename_i j ver l hb
   obtain⟨c1,c2,An,K3,hq⟩:=Q7 hb;rcases hq with⟨hq,_⟩|⟨j',ver',hq,rfl,Ie⟩
   ·cases hq
   simp only[Ag,BQ]at hq;obtain⟨rfl,rfl⟩:=hq;refine⟨_,_,_,hk,λAa Aj=>?_⟩;have Cb:Aa i=some (.cells F.t [c1,.row j ver]):=(Aj i (by simp)).trans An;have Hs:Aa j=some (.row F.te (.int .u8) ver l):=(Aj j (by simp)).trans Ie;have AW:i≠j:=by rintro rfl;rw[Cb]at Hs;cases Hs
   intro ok0 base pl w a hr Af K Q hK;obtain⟨us,Db,AM⟩:=Fv Aa ok0 base pl w a hr Af;have AM:=AM hF.fn;obtain⟨u,us1,rfl,hu,DD⟩:=Db;have DD:us1=[]:=DD;subst DD;obtain⟨g,p,v,rfl,AC,I8,hp,hv⟩:=Q8 hr Cb K3 hu;obtain⟨Dy,Ao,WN⟩:=mR (F:=F) hr Cb rfl AC Hs hv AW;have EK:=hF.ok (by rw[hn];decide) w base g p v l hr.baseLe I8 hp Ao WN;rw[hn]at EK;have Ff:=EK;unfold Oper.wp;rw[AM];simp only[Oper.upon];refine Ff.mono λe w' ⟨he,hg⟩=>?_;subst he;simp only;exact hK _ _ _ (hr.still hg) (Step.still hg) rfl
  ·cases hk
 ·
  rename_i s hn;refine⟨_,_,_,hk,λAa Aj=>?_⟩;intro ok0 base pl w a hr Af K Q hK;obtain⟨us,Db,AM⟩:=Fv Aa ok0 base pl w a hr Af;have AM:=AM hF.fn;obtain⟨u,us1,rfl,hu,u2,us2,rfl,Bm,DD⟩:=Db;have DD:us2=[]:=DD;have Bm:u2=.string ⟨s.toArray⟩:=Bm;have hu:u=.slice none 0 0:=hu;subst DD Bm hu;have Ff:=hF.join hn w base (.slice none 0 0) [] s (World.ownsRow_nil _ _ _ _) (by simp) (by rw[Lib.join_nil];simp);unfold Oper.wp;rw[AM];simp only[Oper.upon];refine Ff.mono λe w' ⟨he,hg⟩=>?_;subst he;simp only;exact hK _ _ _ (hr.still hg) (Step.still hg) rfl
 ·
  rename_i j ver s hn;split at hk
  ·rename_i t ver' l Ie
   cases hc:(Nat.beq t F.t&&Nat.beq ver ver')with
   |false=>rw[hc]at hk;cases hk
   |true=>simp only[hc,Ar]at hk;obtain⟨h1,h2⟩:=andB hc;have h1:=Az h1;have h2:=Az h2;subst h1 h2;obtain⟨Bp,hk⟩:=DL hk;obtain⟨d1,d2⟩:=andB Bp;have d1:=Bv d1;have d2:=Bv d2;refine⟨_,_,_,hk,λAa Aj=>?_⟩;have Hs:Aa j=some (.row F.t .str ver l):=(Aj j (by simp)).trans Ie;intro ok0 base pl w a hr Af K Q hK;obtain⟨us,Db,AM⟩:=Fv Aa ok0 base pl w a hr Af;have AM:=AM hF.fn;obtain⟨u,us1,rfl,hu,u2,us2,rfl,Bm,DD⟩:=Db;have DD:us2=[]:=DD;have Bm:u2=.string ⟨s.toArray⟩:=Bm;subst DD Bm;obtain⟨_,sv,Ac,Aw,Bt⟩:=hu;have hv:=(Bt F.t .str ver l Hs).2 rfl;subst hv;have Aw:pl j=some (.row u Ac):=Aw;obtain⟨q,hq,hB⟩:=hr.blks j _ Hs;rw[Aw]at hq;injection hq with hq;subst hq;obtain⟨rfl,xs,hd,Ao⟩:=hB;rw[mQ.1 hd]at Ao;have Ff:=hF.join hn w base u l s Ao d1 d2;unfold Oper.wp;rw[AM];simp only[Oper.upon];refine Ff.mono λe w' ⟨he,hg⟩=>?_;subst he;simp only;exact hK _ _ _ (hr.still hg) (Step.still hg) rfl
  ·cases hk
 ·cases hk
theorem Tf{bl:Nat->Option Blk}{i:Nat}{B:Blk}(h:KK bl i=some B):bl i=some B:=by
 unfold KK at h;split at h
 ·cases h
 ·exact h
theorem Aqa{bl:Nat->Option Blk}{i:Nat}{t et:TypeId}{e:Ty}{ver Ah:Nat}{hole:Option Nat}{l:List (List e.den)}:KK bl i≠some (.mat t et e ver Ah hole l):=by intro h;have h2:=Tf h;unfold KK at h;rw[h2]at h;cases h
theorem Ad8{bl:Nat->Option Blk}:∀{is:List Nat},J3 (KK bl) is=J3 bl is
 |[]=>rfl
 |i::is=>by
  simp only[J3,Ad8 (is:=is)];unfold KK;cases h:bl i with
  |none=>rfl
  |some B=>cases B<;>rfl
theorem Ad9{S:Spec}{ids:List Nat}:∀{as:List Nat},SF S ids as=true->(∀b∈as,(ST.flat S.res&&BT.flat S.outs)=true)/\∀b∈as,b∉ids
 |[],_=>⟨λ_ h=>by simp at h,λ_ h=>by simp at h⟩
 |b::r,h=>by
  obtain⟨h1,h2⟩:=andB (show((ST.flat S.res&&BT.flat S.outs)&&(!memB b ids&&SF S ids r))=true from h);obtain⟨h2,h3⟩:=andB h2;obtain⟨q1,q2⟩:=Ad9 h3
  have EF:b∉ids:=λhm=>by rw[HT.2 hm]at h2;cases h2
  refine⟨λc hc=>?_,λc hc=>?_⟩
  ·rcases Bw.1 hc with rfl|hc
   ·exact h1
   ·exact q1 c hc
  ·rcases Bw.1 hc with rfl|hc
   ·exact EF
   ·exact q2 c hc
theorem CReps.cut2{E:Env}:∀{n:Nat}{cs:List C}{vs:List Value},CReps E cs vs->CReps E (cs.take n) (vs.take n)/\CReps E (cs.drop n) (vs.drop n)
 |0,_,_,h=>⟨by simp[CReps],by simpa using h⟩
 |_+1,[],_,h=>by simp only[CReps]at h;subst h;simp[CReps]
 |n+1,_::_,_,⟨v,Av,e,h,ht⟩=>by subst e;obtain⟨h1,h2⟩:=CReps.cut2 (n:=n) ht;exact⟨⟨v,_,by simp,h,h1⟩,by simpa using h2⟩
theorem CReps.app{E:Env}:∀{cs ds:List C}{vs us:List Value},CReps E cs vs->CReps E ds us->CReps E (cs++ds) (vs++us)
 |[],_,_,_,h,k=>by simp only[CReps]at h;subst h;simpa using k
 |_::_,_,_,_,⟨v,Av,e,h,ht⟩,k=>⟨v,Av++_,by rw[e];rfl,h,CReps.app ht k⟩
theorem mT{E:Env}:∀(l:List CT){cs:List C}{vs:List Value},CReps E cs vs->CReps E (MV l cs) vs
 |[],_,_,h=>by simpa [MV]using h
 |t::l,cs,vs,h=>by
  have key:(∃τ,t=.data τ)\/(∀τ,t≠.data τ):=by cases t<;>simp
  rcases key with⟨τ,rfl⟩|hn
  ·simp only[MV]
   obtain⟨h1,h2⟩:=CReps.cut2 (n:=τ.size) h;have:=CReps.app h1 (mT l h2)
   rwa [L8]at this
  ·cases cs with
   |nil=>cases t<;>first|exact absurd rfl (hn _)|simpa [MV]using h
   |cons c cs=>
    obtain⟨v,Av,e,h1,h2⟩:=h;have ih:=mT l h2;cases t with
    |data τ=>exact absurd rfl (hn τ)
    |junk=>exact⟨v,Av,e,CRep.oneCell h1,ih⟩
    |_=>exact⟨v,Av,e,h1,ih⟩
theorem Ada{E:Env}:∀{ts:List (Bool×List CT)}{vs:List V}{us:List Value},VReps E vs us->VReps E (SG ts vs) us
 |[],_,_,h=>by simpa [SG]using h
 |_::_,[],_,h=>by simpa [SG]using h
 |t::ts,v::vs,_,⟨u,CL,e,h1,h2⟩=>by
  refine⟨u,CL,e,?_,Ada h2⟩;cases v with
  |agg cs=>obtain⟨ws,h3,h4⟩:=h1;exact⟨ws,mT _ h3,h4⟩
  |_=>exact h1
theorem Aqb{ok0:OK0 P}{base:Nat}{pl:Nat->Option Pl}{bl Aa:Nat->Option Blk}{w:World}(hr:RelB ok0 base pl Aa w){S:Spec}{args gZ:List V}{as:List Nat}{us:List Value}(Aao:∀i∈as,Aa i=bl i)(has:LH args=as)(Aan:Qw S bl args=gZ)(Db:VReps (Ap ok0 base pl Aa w) args us):∃E:Env,E.w=w/\E.bl=Aa/\E.pl=pl/\(∀g,E.ok g->((ok0 g\/(base<=g/\¬ok0.no g))/\¬Own pl Aa g)\/∃b∈as,∃t cs,Aa b=some (.cells t cs)/\pl b=some (.cells g))/\Ek E/\VReps E gZ us:=by
 let E0:=Ap ok0 base pl Aa w
 let E:Env:={E0 with ok:=λg=>E0.ok g\/∃b∈as,∃t cs,Aa b=some (.cells t cs)/\pl b=some (.cells g)}
 have hx:Ext E0 E:=⟨AQ _,λg h _=>⟨.inl h,rfl⟩,λ_ _ h=>h,λ_ sv Ac h=>⟨sv,Ac,h,KeepR.refl _ _ _⟩⟩;refine⟨E,rfl,rfl,rfl,λg h=>h,λi B hB=>?_,?_⟩
 ·obtain⟨p,hp,hB2⟩:=hr.blks i B hB
  exact⟨p,hp,BRep.mono hx hB2 λ_ _=>rfl⟩
 ·subst Aan
  refine Ada ?_;have Ds:∀b∈LH args,b∈as:=λb hb=>by rw[<-has];exact hb
  clear has
  induction args generalizing us with
  |nil=>exact Db
  |cons v vs ih=>
   obtain⟨u,CL,e,hv,ht⟩:=Db;refine⟨u,CL,e,?_,ih ht λb hb=>Ds b (by cases v<;>simp[LH,hb])⟩;by_cases hl:∃b o e n,v=.arr b o e n
   ·obtain⟨b,o,ty,n,rfl⟩:=hl
    have hb:b∈as:=Ds b (by simp[LH]);obtain⟨g,hg,hv⟩:=hv;show VRep E (Qv bl (.arr b o ty n)) u;simp only[Qv]
    ·split
     ·rename_i t cs An
      split
      ·rename_i ds Mu
       split
       ·rename_i l hl
        cases hc:(Nat.ble n 4096&&Nat.blt 0 ty.size)with
        |false=>exact trivial
        |true=>
         obtain⟨hn,_⟩:=andB hc;have hn:n<=4096:=HQ hn;have Aj:Aa b=some (.cells t cs):=(Aao b hb).trans An;obtain⟨p,hp,hB⟩:=hr.blks b _ Aj
         have Dj:p=.cells g:=by have h2:pl b=some (.cells g):=hg;rw[hp]at h2;injection h2
         subst Dj;obtain⟨B4,hh,Df⟩:=hB;obtain⟨s1,_,_⟩:=Om Df Mu;obtain⟨hd,Bp⟩:=Y0 hr.blksOk (Rows.none _ _) s1 hl;show DRep w E.ok (.slice ty) l [u];simp only[DRep];refine⟨some ⟨g,o,none⟩,n,_,by rw[hv,Bp],by omega,D2 hn (by decide),hd.mono λx us hu=>hu.mono λg h _=>⟨.inl h,rfl⟩,λj v hj=>⟨_,rfl,.inr ⟨b,hb,t,cs,Aj,hp⟩,Y5 hh hj⟩⟩
       ·exact trivial
      ·exact trivial
     ·exact trivial
   ·have:Qv bl v=v:=by
     unfold Qv;split
     ·rename_i b o e n
      exact absurd ⟨b,o,e,n,rfl⟩ hl
     ·rfl
    show VRep E (Qv bl v) u;rw[this];exact VRep.mono hx hv
theorem Adb{X:Ctx}(hΓ:ΓOk P X.Γ){kk:K β}{nx:Nat}{f:FuncId}{args:List V}(hk:SH X bl nx f args kk=some r)(Fv:∀(Aa:Nat->Option Blk)(ok0:OK0 P)(base:Nat)(pl:Nat->Option Pl)(w:World)(a:Act),RelB ok0 base pl Aa w->(∀x∈o.op.operands,VRep (Ap ok0 base pl Aa w) (ρ x) (a.eval x))->∃us,VReps (Ap ok0 base pl Aa w) args us/\((∃fn,P.funcs[f]?=some fn/\(fn.name== "runtime.NumGoroutine")=false/\fn.body.isNone=false)->(execOp a.eval o).run P w=.ok (.enter f us.toArray) w)):Sound P o ρ bl kk r:=by
 unfold SH at hk;split at hk
 ·cases hk
 ·rename_i F hF
  exact Aq8 (hΓ.rows f F hF) hk Fv
 ·rename_i F hF
  exact Aq9 (hΓ.bld f F hF) hk Fv
 ·rename_i A hA
  obtain⟨v,rd,wr,hk,D3⟩:=(hΓ.abs f A hA).ok _ _ _ _ _ hk;refine⟨v,rd,wr,hk,λAa Aj ok0 base pl w a hr Af K Q hK=>?_⟩;obtain⟨us,Db,AM⟩:=Fv Aa ok0 base pl w a hr Af;unfold Oper.wp;rw[AM (hΓ.abs f A hA).fn];simp only[Oper.upon];refine(D3 Aa Aj ok0 base pl w us hr Db).mono λe w' EK=>?_;obtain⟨u,Ak,rfl,h1,h2,h3⟩:=EK;exact hK u Ak w' h1 h2 h3
 rename_i S hS;have AnR:=hΓ.spec f S hS;split at hk
 ·cases hk
 rename_i ids Py;have Bp:=Ad4 Py;split at hk
 ·rename_i x y hx hy
  generalize Aan:Qw S bl args=gZ at hk hx Py;generalize has:LH args=as at hk;generalize AnP:CG gZ++J3 bl ids=rds at hk;generalize I9:AY nx (S.outs.length-S.ins.length)=new at hk;generalize iG:Qu S bl rds=kills at hk;cases hc:(kZ S bl ids new&&SF S ids as)with
  |false=>rw[hc]at hk;cases hk
  |true=>
   simp only[hc,Ar]at hk;obtain⟨hc,iH⟩:=andB hc;unfold kZ at hc;have iH:=Ad9 iH;obtain⟨c1,hc⟩:=andB hc;obtain⟨c3,hc⟩:=andB hc;obtain⟨c4,hc⟩:=andB hc;obtain⟨c5,c6⟩:=andB hc;have c1:=Q6 c1;have c4:=HQ c4;have c3:=mI c3;obtain⟨z,hz,Ff⟩:=AnR.ok (x,y) _ r hk;refine⟨_,_,_,hz,λAa Aj=>?_⟩;have Ano:∀i∈ids,Aa i=bl i:=λi hi=>Aj i (by simp[hi]);have iR:∀i∈rds,Aa i=bl i:=λi hi=>Aj i (by simp[hi]);have Aao:∀i∈as,Aa i=bl i:=λi hi=>Aj i (by simp[hi]);have AaP:∀i∈new,Aa i=none:=λi hi=>(Aj i (by simp[hi])).trans (c3 i hi);intro ok0 base pl w a hr Af K Q hK
   have P4:∀p∈kills,p.2=Blk.dead/\p.1∈rds/\∃B,Aa p.1=some B/\B.lend=true:=λp hp=>by rw[<-iG]at hp;obtain⟨h1,h2,B,h3,h4⟩:=Aq5 hp;exact⟨h1,h2,B,by rw[iR _ h2];exact h3,h4⟩
   rw[MX]at hK
   let blk:Nat->Option Blk:=updL Aa kills
   have Po:∀i,blk i=Aa i\/(blk i=some .dead/\i∈rds/\∃B,Aa i=some B/\B.lend=true):=λi=>by
    rcases Td (l:=kills) (f:=Aa) i (λp hp=>(P4 p hp).1)with⟨h1,_⟩|⟨h1,p,hp,h2⟩
    ·exact .inl h1
    ·have:=P4 p hp
     rw[h2]at this;exact .inr ⟨h1,this.2⟩
   have hblkL:∀i B,blk i=some B->B.live=true->Aa i=some B:=λi B hB hl=>by
    rcases Po i with h|⟨h,_⟩
    ·rw[<-h];exact hB
    ·rw[h]at hB
     injection hB with hB;subst hB;cases hl
   obtain⟨us,Db,AM⟩:=Fv Aa ok0 base pl w a hr Af;have AM:=AM AnR.fn;obtain⟨E,hEw,hEbl,hEpl,hEok,Mq,Db⟩:=Aqb hr Aao has Aan Db
   have Kt:∀i∈ids,∃t cs,Aa i=some (.cells t cs):=λi hi=>by obtain⟨t,cs,h⟩:=mN hy i hi;exact⟨t,cs,by rw[Ano i hi];exact Tf h⟩
   let ok0c:OK0 P:=⟨λg=>E.ok g\/∃b∈rds,∃B p,Aa b=some B/\B.lend=true/\pl b=some p/\p.has g,λ_=>False⟩
   let plc:Nat->Option Pl:=λb=>(ids[b]?).bind pl
   let blc:Nat->Option Blk:=fnBl (mkB (AY 0 S.ins.length) S.ins y)
   let Ec:Env:=Ap ok0c w.heap.size plc blc w
   have iM:∀g,Own plc blc g->∃i∈ids,pl i=some (.cells g):=by
    rintro g ⟨j,B,p,hB,hl,hp,hg⟩;cases hj:ids[j]? with
    |none=>simp[plc,hj]at hp
    |some i=>
     have Di:pl i=some p:=by simpa [plc,hj]using hp
     have hi:=Dg hj;obtain⟨t,cs,An⟩:=Kt i hi;obtain⟨q,hq,hR⟩:=hr.blks i _ An;rw[Di]at hq;injection hq with hq;subst hq;cases p with
     |row _ _=>exact hR.elim
     |cells g'=>have hg:g'=g:=hg;subst hg;exact⟨i,hi,Di⟩
   have AaW:∀g,Own plc blc g->Own pl Aa g:=λg h=>by obtain⟨i,hi,hp⟩:=iM g h;obtain⟨t,cs,An⟩:=Kt i hi;exact⟨i,_,_,An,rfl,hp,rfl⟩
   have AGV:∀g,E.ok g->Ec.ok g:=λg h=>⟨.inl (.inl h),λho=>by
    rcases hEok g h with h|⟨b,hb,t,cs,An,hp⟩
    ·exact h.2 (AaW g ho)
    ·obtain⟨i,hi,AC⟩:=iM g ho
     obtain⟨t',cs',Pn⟩:=Kt i hi;have AW:i≠b:=by rintro rfl;exact(iH.2 i hb) hi
     exact hr.sep i b _ _ _ _ g AW Pn An rfl rfl AC hp rfl rfl⟩
   have Anz:∀b∈rds,∀B p,Aa b=some B->B.lend=true->pl b=some p->∀g,p.has g->Ec.ok g:=λb hb B p Cb hl hp g hg=>by
    refine⟨.inl (.inr ⟨b,hb,B,p,Cb,hl,hp,hg⟩),λho=>?_⟩;obtain⟨i,hi,AC⟩:=iM g ho;obtain⟨t',cs,Pn⟩:=Kt i hi;have AW:i≠b:=by rintro rfl;rw[Cb]at Pn;injection Pn with Pn;subst Pn;cases hl
    exact hr.sep i b _ _ _ _ g AW Pn Cb rfl (Blk.lend_live hl) AC hp rfl hg
   have NI:∀ids0:List Nat,(∀b∈ids0,b∈rds)->Rows E (KK bl) Ec.ok ids0:=λids0 h0=>⟨AGV,λb hb t e ver l An=>by
    have Cb:Aa b=some (.row t e ver l):=by rw[iR b (h0 b hb)];exact Tf An
    refine⟨by rw[hEbl];exact Cb,λsv g Aw hg=>?_⟩;rw[hEpl]at Aw;exact Anz b (h0 b hb) _ _ Cb rfl Aw g (.inl hg),λb hb t et e ver Ah hole l An=>absurd An Aqa,λb hb t e ver Ah hole l An=>by
    have Cb:Aa b=some (.tree t e ver Ah hole l):=by rw[iR b (h0 b hb)];exact Tf An
    refine⟨by rw[hEbl];exact Cb,λsv Ac g Aw hg=>?_⟩;rw[hEpl]at Aw;exact Anz b (h0 b hb) _ _ Cb rfl Aw g hg⟩
   have WV:Ren E Ec ids (AY 0 S.ins.length):=by
    have key:∀b i,ids[b]?=some i->Ec.pl ((AY 0 S.ins.length).getD b 0)=pl i:=by
     intro b i hi;have Au:b<S.ins.length:=by rw[<-Bp];exact(EN.1 hi).1
     rw[Ow Au];simp[Ec,Ap,plc,hi]
    refine⟨λb i g hi h=>?_,λb i sv Ac t e ver l hi _ h=>?_,λb i sv Ac t et e ver Ah hole l hi _ h=>?_,λb i sv Ac t e ver Ah l hi _ h=>?_,λb i t e ver Ah l t' e' ver' B9 h' l' hi An _=>?_,λb i hi h=>?_⟩
    ·rw[key b i hi,<-hEpl];exact h
    ·rw[key b i hi,<-hEpl];exact h
    ·rw[key b i hi,<-hEpl];exact h
    ·rw[key b i hi,<-hEpl];exact h
    ·obtain⟨t,cs,Cb⟩:=Kt i (Dg hi)
     rw[hEbl,Cb]at An;cases An
    ·obtain⟨t,cs,An⟩:=Kt i (Dg hi)
     rw[hEbl,An]at h;cases h
   have An7:∀i∈ids,KK bl i=E.bl i:=λi hi=>by obtain⟨t,cs,h⟩:=mN hy i hi;rw[hEbl,Ano i hi,h,Tf h]
   have B3:=mL Mq (show Ec.w=E.w from hEw.symm) WV An7 (NI _ λb hb=>by rw[<-AnP];exact D0 _ hb) Db hx;obtain⟨hlB,hinB⟩:=Ad1 Mq (show Ec.w=E.w from hEw.symm) WV An7 (NI _ λb hb=>by rw[<-AnP];exact DJ _ (by rw[Ad8]at hb;exact hb)) (λi hi=>hi) hy
   have AHf:RelB ok0c w.heap.size plc blc w:=by
    refine⟨AQ _,λi B hB=>?_,λi j B C p q g Dw hB hC hlB' hlC hp hq Dj=>?_,λi hi=>?_,⟨hr.glob.g0.gen (AQ _) (λg _ h1 _=>⟨rfl,λq=>h1 (AaW g q)⟩) λ_ h=>h.elim,λ_ h=>h.elim⟩⟩
    ·have Au:i<ids.length:=by have:=(EN.1 (show(mkB (AY 0 S.ins.length) S.ins y)[i]?=some B from hB)).1;rw[G3]at this;omega
     obtain⟨g,B',h1,h2,h3,_⟩:=hinB i ids[i] (Ef Au)
     have hBB:B=B':=by have h4:(mkB (AY 0 S.ins.length) S.ins y)[i]?=some B:=hB;rw[h2]at h4;injection h4 with h4;exact h4.symm
     rw[hEpl]at h1;exact⟨.cells g,by simp[plc,Ef Au,h1],by rw[hBB];exact h3⟩
    ·cases hi:ids[i]? with
     |none=>simp[plc,hi]at hp
     |some i'=>
      cases hj:ids[j]? with
      |none=>simp[plc,hj]at hq
      |some j'=>
       have Di:pl i'=some p:=by simpa [plc,hi]using hp
       have AnN:pl j'=some q:=by simpa [plc,hj]using hq
       have AW:i'≠j':=by rintro rfl;have h1:=Kb c1 hi;have h2:=Kb c1 hj;rw[h1]at h2;injection h2 with h2;exact Dw h2
       obtain⟨t1,cs1,BH⟩:=Kt i' (Dg hi);obtain⟨t2,cs2,Aap⟩:=Kt j' (Dg hj);exact hr.sep i' j' _ _ p q g AW BH Aap rfl rfl Di AnN Dj
    ·have RI:ids.length<=i:=by have h1:(mkB (AY 0 S.ins.length) S.ins y)[i]?=none:=hi;rw[Qf,G3]at h1;omega
     simp[plc,Sw RI]
   unfold Oper.wp;rw[AM];simp only[Oper.upon];refine(Ff ok0c plc w us AHf B3).mono λe w' EK=>?_;obtain⟨B4,Ak,rfl,hR,hS,hT⟩:=EK;simp only;generalize WH:ids++new=Bu at*
   have NB:Bu.length=S.outs.length:=by rw[<-WH,AR,<-I9,mF,Bp];omega
   have AaQ:Bu.Nodup:=by rw[<-WH];refine Sz.2 ⟨c1,by rw[<-I9];exact mH,λx hx y hy Ao0=>?_⟩;subst Ao0;obtain⟨t,cs,h⟩:=Kt x hx;rw[AaP x hy]at h;cases h
   let blo:Nat->Option Blk:=fnBl (mkB (AY 0 S.outs.length) S.outs z.2)
   let Eo:Env:=Ap ok0c w.heap.size Ak blo w'
   let pl2:Nat->Option Pl:=λi=>match place Bu i with|some b=>Ak b|none=>pl i
   have DX:∀i,updL (updL Aa kills) (Bu.zip (mkB Bu S.outs z.2)) i=match place Bu i with|some b=>(mkB Bu S.outs z.2)[b]?|none=>blk i:=
    λi=>Ad3 i AaQ (by rw[G3];exact NB)
   generalize AJO:updL (updL Aa kills) (Bu.zip (mkB Bu S.outs z.2))=bl3 at*;have Lt:∀i,place Bu i=none->pl2 i=pl i:=λi h=>by simp only[pl2,h]
   have ND:∀i b,place Bu i=some b->pl2 i=Ak b:=λi b h=>by simp only[pl2,h]
   have Ht:∀i,place Bu i=none->bl3 i=blk i:=λi h=>by rw[DX,h]
   have N4:∀i b,place Bu i=some b->bl3 i=(mkB Bu S.outs z.2)[b]?:=λi b h=>by rw[DX,h]
   have Hy:∀i b,place Bu i=some b->b<S.outs.length:=λi b h=>by rw[<-NB];exact(EN.1 (Hj h)).1
   have JP:∀b,b<S.outs.length->∃B,blo b=some B/\B.live=true:=λb hb=>by
    have AH:b<(mkB (AY 0 S.outs.length) S.outs z.2).length:=by rw[G3];exact hb
    exact⟨_,Ef AH,Nb (Ef AH)⟩
   have DE:∀g,Own pl2 bl3 g->(Own pl Aa g/\∃i B p,place Bu i=none/\Aa i=some B/\B.live=true/\pl i=some p/\p.has g)\/Own Ak blo g:=by
    rintro g ⟨i,B,p,hB,hl,hp,hg⟩;cases AC:place Bu i with
    |none=>rw[Ht i AC]at hB;rw[Lt i AC]at hp;have hB:=hblkL i B hB hl;exact .inl ⟨⟨i,B,p,hB,hl,hp,hg⟩,i,B,p,AC,hB,hl,hp,hg⟩
    |some b=>rw[ND i b AC]at hp;obtain⟨B',hB',Gt⟩:=JP b (Hy i b AC);exact .inr ⟨b,B',p,hB',Gt,hp,hg⟩
   have P2:∀i B p g,place Bu i=none->Aa i=some B->B.live=true->pl i=some p->p.has g->w'.heap[g]?=w.heap[g]?/\¬Own Ak blo g:=by
    intro i B p g AC hB hl hp hg;have Au:g<w.heap.size:=Own.lt hr ⟨i,B,p,hB,hl,hp,hg⟩;refine hS.out g Au λho=>?_;obtain⟨j,hj,Dy⟩:=iM g ho;obtain⟨t,cs,Ie⟩:=Kt j hj
    have AW:i≠j:=by rintro rfl;obtain⟨b,hb⟩:=XO (show i∈Bu by rw[<-WH];exact D0 _ hj);rw[Kb AaQ hb]at AC;cases AC
    exact hr.sep i j _ _ _ _ g AW hB Ie hl rfl hp Dy hg rfl
   have EM:Step pl Aa w pl2 bl3 w':=by
    refine⟨hS.os,hS.tape,hS.output,hS.size,λg Au ho=>?_,λb g hb=>?_,λb sv Ac hb=>?_⟩
    ·obtain⟨h1,h2⟩:=hS.out g Au λh=>ho (AaW g h)
     refine⟨h1,λh=>?_⟩;rcases DE g h with h|h
     ·exact ho h.1
     ·exact h2 h
    ·cases AC:place Bu b with
     |none=>rw[Lt b AC];exact hb
     |some j=>
      rw[ND b j AC];have hj:=Hj AC;rw[<-WH]at hj;by_cases Anu:j<ids.length
      ·rw[H5 Anu]at hj
       exact hS.cells j g (by omega) (by simp only[plc,hj,Ya];exact hb)
      ·rw[Gn (by omega)]at hj
       have:=hr.fresh b (AaP b (Dg hj));rw[this]at hb;cases hb
    ·have AC:place Bu b=none:=by
      cases AC:place Bu b with
      |none=>rfl
      |some j=>
       have hj:=Dg (Hj AC);rw[<-WH]at hj;rcases Cs.1 hj with hj|hj
       ·obtain⟨t,cs,h⟩:=Kt b hj
        obtain⟨q,hq,hR⟩:=hr.blks b _ h;rw[hb]at hq;injection hq with hq;subst hq;exact hR.elim
       ·have:=hr.fresh b (AaP b hj)
        rw[this]at hb;cases hb
     exact⟨sv,Ac,by rw[Lt b AC];exact hb,KeepR.of_live (λC h hC=>by rw[Ht b AC]at h;exact hblkL b _ h (by cases C<;>first|rfl|exact absurd rfl hC)) _ _⟩
   have W5:∀(τ:Ty)(x:τ.den)(us:List Value),((ST.flat S.res&&BT.flat S.outs)=false\/τ.flat=true)->DRep Eo.w Eo.ok τ x us->DRep (Ap ok0 base pl2 bl3 w').w (Ap ok0 base pl2 bl3 w').ok τ x us:=by
    intro τ x us AaT hd;rcases AaT with WA|Ji
    ·refine hd.mono λg hg _=>⟨?_,rfl⟩
     obtain⟨h1,h2⟩:=hg;rcases h1 with(h1|⟨b,hb,B0,p0,hZ,iI,AaZ,Ab7⟩)|h1
     ·have h1:(ok0 g\/(base<=g/\¬ok0.no g))/\¬Own pl Aa g:=by
       rcases hEok g h1 with h1|⟨b,hb,_⟩
       ·exact h1
       ·rw[(iH.1 b hb)]at WA
        cases WA
      refine⟨h1.1,λho=>?_⟩;rcases DE g ho with h|h
      ·exact h1.2 h.1
      ·exact h2 h
     ·
      refine⟨.inr ?_,λho=>?_⟩
      ·exact mP hr hZ iI AaZ Ab7
      ·rcases DE g ho with⟨_,i,B,p,AC,hBi,hl,AH6,Dj⟩|h
       ·by_cases WG:i=b
        ·subst WG
         have Ds:(i,Blk.dead)∈kills:=by rw[<-iG];exact Aq6 WA hb (by rw[<-iR i hb];exact hZ) iI
         obtain⟨j,B',p',hB',Gt,Di,CJ⟩:=ho;cases Dy:place Bu j with
         |none=>
          rw[Ht j Dy]at hB';rw[Lt j Dy]at Di;have hB2:=hblkL j B' hB' Gt;by_cases Ans:j=i
          ·subst Ans
           rcases Td (l:=kills) (f:=Aa) j (λp hp=>(P4 p hp).1)with⟨_,h5⟩|⟨h5,_⟩
           ·exact h5 _ Ds rfl
           ·rw[show blk j=some .dead from h5]at hB'
            injection hB' with hB';subst hB';cases Gt
          ·exact hr.sep j i B' _ p' p0 g Ans hB2 hZ Gt (Blk.lend_live iI) Di AaZ CJ Ab7
         |some q=>rw[ND j q Dy]at Di;obtain⟨Bq,hBq,AGG⟩:=JP q (Hy j q Dy);exact h2 ⟨q,Bq,p',hBq,AGG,Di,CJ⟩
        ·exact hr.sep i b B _ p p0 g WG hBi hZ hl (Blk.lend_live iI) AH6 AaZ Dj Ab7
       ·exact h2 h
     ·have h1:=h1.1
      refine⟨.inr ⟨D2 hr.baseLe h1,λhn=>by have:=(hr.glob.no g hn).1;omega⟩,λho=>?_⟩;rcases DE g ho with h|h
      ·have:=Own.lt hr h.1;omega
      ·exact h2 h
    ·exact hd.flat Ji
   have WW:Ren2 S.outs.length Eo (Ap ok0 base pl2 bl3 w') (AY 0 S.outs.length) Bu:=by
    have key:∀b,b<S.outs.length->pl2 (Bu.getD b 0)=Ak b/\bl3 (Bu.getD b 0)=(mkB Bu S.outs z.2)[b]?:=by
     intro b hb;have AH:b<Bu.length:=by omega
     have I6:Bu[b]?=some Bu[b]:=Ef AH;have Ku:Bu.getD b 0=Bu[b]:=by simp[List.getD,I6]
     have WS:=Kb AaQ I6;rw[Ku];exact⟨ND _ b WS,N4 _ b WS⟩
    refine⟨λb g hb h=>?_,λb sv Ac hb h=>?_⟩
    ·rw[Ow hb]at h
     show pl2 _=_;rw[(key b hb).1];exact h
    ·rw[Ow hb]at h⊢
     refine⟨?_,λt e ver l h2=>?_,λt et e ver Ah hole l h2=>?_,λt e ver Ah hole l h2=>?_⟩
     ·show pl2 _=_
      rw[(key b hb).1];exact h
     ·have h3:bl3 (Bu.getD b 0)=some (.row t e ver l):=h2
      rw[(key b hb).2]at h3;exact MZ h3
     ·have h3:bl3 (Bu.getD b 0)=some (.mat t et e ver Ah hole l):=h2
      rw[(key b hb).2]at h3;exact Na h3
     ·have h3:bl3 (Bu.getD b 0)=some (.tree t e ver Ah hole l):=h2
      rw[(key b hb).2]at h3;exact mO h3
   have Pr:(ST.flat S.res&&BT.flat S.outs)=false\/(ST.flat S.res=true/\BT.flat S.outs=true):=by
    cases hf:(ST.flat S.res&&BT.flat S.outs)with
    |false=>exact .inl rfl
    |true=>exact .inr (andB hf)
   refine hK (HU B4) pl2 w' ?_ EM ?_
   ·refine⟨D2 hr.baseLe hS.size,λi B hB=>?_,λi j B C p q g Dw hB hC hlB' hlC hp hq Dj=>?_,λi hi=>?_,hr.glob.out EM.size EM.out⟩
    ·cases AC:place Bu i with
     |none=>
      rw[Ht i AC]at hB;cases hl:B.live with
      |false=>
       have Lo:∃B0,Aa i=some B0:=by
        rcases Po i with h|⟨_,_,_,h,_⟩
        ·exact⟨B,by rw[<-h];exact hB⟩
        ·exact⟨_,h⟩
       obtain⟨B0,hB0⟩:=Lo;obtain⟨p,hp,_⟩:=hr.blks i B0 hB0;refine⟨p,by rw[Lt i AC];exact hp,?_⟩;cases B<;>first|exact trivial|simp[Blk.live]at hl
      |true=>have hB:=hblkL i B hB hl;obtain⟨p,hp,hBR⟩:=hr.blks i B hB;refine⟨p,by rw[Lt i AC];exact hp,?_⟩;exact BRep.mono EM.ext hBR λg hg=>(P2 i B p g AC hB hl hp hg).1
     |some b=>obtain⟨Bo,hBo,GH⟩:=JP b (Hy i b AC);obtain⟨p,hp,hBR⟩:=hR.blks b Bo hBo;obtain⟨B',h1,h2,_,_,_,_⟩:=MY WW (hr.baseLe) W5 rfl c6 (Pr.imp id (·.2)) hBo hBR;rw[N4 i b AC,h1]at hB;injection hB with hB;subst hB;exact⟨p,by rw[ND i b AC];exact hp,h2⟩
    ·cases AC:place Bu i with
     |none=>
      rw[Ht i AC]at hB;have hB:=hblkL i B hB hlB';rw[Lt i AC]at hp;cases Dy:place Bu j with
      |none=>rw[Ht j Dy]at hC;have hC:=hblkL j C hC hlC;rw[Lt j Dy]at hq;exact hr.sep i j B C p q g Dw hB hC hlB' hlC hp hq Dj
      |some b=>rw[ND j b Dy]at hq;intro B8;obtain⟨Bo,hBo,GH⟩:=JP b (Hy j b Dy);exact(P2 i B p g AC hB hlB' hp Dj).2 ⟨b,Bo,q,hBo,GH,hq,B8⟩
     |some b=>
      rw[ND i b AC]at hp;obtain⟨Bo,hBo,GH⟩:=JP b (Hy i b AC);cases Dy:place Bu j with
      |none=>rw[Ht j Dy]at hC;have hC:=hblkL j C hC hlC;rw[Lt j Dy]at hq;intro B8;exact(P2 j C q g Dy hC hlC hq B8).2 ⟨b,Bo,p,hBo,GH,hp,Dj⟩
      |some b'=>
       rw[ND j b' Dy]at hq;obtain⟨Bo',hBo',AaK⟩:=JP b' (Hy j b' Dy)
       have Jg:b≠b':=by rintro rfl;have h1:=Hj AC;have h2:=Hj Dy;rw[h1]at h2;injection h2 with h2;exact Dw h2
       exact hR.sep b b' _ _ p q g Jg hBo hBo' GH AaK hp hq Dj
    ·cases AC:place Bu i with
     |none=>
      rw[Ht i AC]at hi;rw[Lt i AC];rcases Po i with h|⟨h,_⟩
      ·exact hr.fresh i (by rw[<-h];exact hi)
      ·rw[h]at hi;cases hi
     |some b=>rw[N4 i b AC]at hi;have:=Hy i b AC;rw[Qf,G3]at hi;omega
   ·exact TReps.res (mM WW W5 c5 (Pr.imp id (·.1)) hT)
 ·cases hk
end
end
end Go.Lift
namespace Go.Lift
open Go.RowKit Go.MapKept
section
variable{P:Program}{o:Oper}{ρ:Operand->V}{bl:Nat->Option Blk}{β:Type}{r:β}
theorem Aqc{t:TypeId}{ti:TI}{i:TypeInfo}{d:TypeDesc}{z:Value}(f:TFacts P t ti i d z){k:Ty}(hk:FE ti k=true)(hw:keyW k=false){w:World}{ok:Nat->Prop}{x:k.den}{u:Value}(hd:DRep w ok k x [u]):IsKey d u:=by
 cases k with
 |bool=>simp only[FE,f.isBool]at hk;simp only[DRep,D1,Fb]at hd;subst hd;cases d<;>simp[Yw]at hk;trivial
 |int k=>have hk:=Bv hk;rw[f.kind]at hk;simp only[DRep,D1,Fb]at hd;subst hd;cases d<;>simp[Q2]at hk;subst hk;rfl
 |str=>simp only[FE,f.isStr]at hk;simp only[DRep,D1,Fb]at hd;subst hd;cases d<;>simp[Yv]at hk;trivial
 |unit=>simp[FE]at hk
 |err=>simp[FE]at hk
 |prod a b=>simp[keyW]at hw
 |slice e=>simp[FE]at hk
theorem Aqd{ti:TI}{a b:Ty}(hk:FE ti (.prod a b)=true):∃i j,a=.int i/\b=.int j/\ti.eqs=some [.i,.i]/\ti.len=some 2:=by
 cases a<;>cases b<;>first|(simp[FE]at hk;done)|skip
 refine⟨_,_,rfl,rfl,?_⟩;simp only[FE]at hk;split at hk
 ·rename_i h1 h2;exact⟨h1,h2⟩
 ·cases hk
theorem Adc{E:Env}{k:Ty}{v:V}{key:k.den}{u:Value}(h:IR k v=some key)(hv:VRep E v u):KRep E.w E.ok k key u:=by
 cases k with
 |bool=>
  cases v<;>first|(cases h;done)|skip
  rename_i c;cases c<;>first|(cases h;done)|skip
  simp only[IR]at h;injection h with h;subst h;have:u=.bool _:=hv;subst this;exact⟨_,rfl,rfl⟩
 |int k=>
  cases v<;>first|(cases h;done)|skip
  rename_i c;cases c<;>first|(cases h;done)|skip
  simp only[IR]at h;split at h
  ·rename_i hk
   subst hk;injection h with h;subst h;have:u=.int _ _:=hv;subst this;exact⟨_,rfl,rfl⟩
  ·cases h
 |str=>
  cases v<;>first|(cases h;done)|skip
  rename_i c;cases c<;>first|(cases h;done)|skip
  simp only[IR]at h;injection h with h;subst h;have:u=.string _:=hv;subst this;exact⟨_,rfl,rfl⟩
 |unit=>simp[IR]at h
 |err=>simp[IR]at h
 |prod a b=>
  cases a<;>first|(simp[IR]at h;done)|skip
  cases b<;>first|(simp[IR]at h;done)|skip
  cases v<;>first|(simp[IR]at h;done)|skip
  rename_i cs
  match cs,h,hv with
  |[.int j n,.int j2 n2],h,hv=>
   simp only[IR]at h;split at h
   ·rename_i hk
    obtain⟨rfl,rfl⟩:=hk;injection h with h;subst h;obtain⟨vs,⟨v1,r1,e1,c1,⟨v2,r2,e2,c2,e3⟩⟩,hu⟩:=hv;have c1:v1=.int _ _:=c1;have c2:v2=.int _ _:=c2;have e3:r2=[]:=e3;subst e3 e2 e1 c1 c2;exact⟨_,⟨[_],[_],rfl,rfl,rfl⟩,by simpa [keyW]using hu⟩
   ·cases h
 |slice e=>simp[IR]at h
theorem Aqe{ti:TI}{k:Ty}(hk:FE ti k=true)(hw:keyW k=false){w:World}{ok:Nat->Prop}{a b:k.den}{x y:Value}(ha:DRep w ok k a [x])(hb:DRep w ok k b [y]):(IQ k a b=true↔y=x):=by
 cases k with
 |bool=>simp only[DRep,D1,Fb]at ha hb;subst ha hb;simp only[IQ,beq_iff_eq,Value.bool.injEq];exact eq_comm
 |int k=>simp only[DRep,D1,Fb]at ha hb;subst ha hb;simp only[IQ,Im,Value.int.injEq,true_and];exact eq_comm
 |str=>
  simp only[DRep,D1,Fb]at ha hb;subst ha hb;simp only[IQ,Im,Value.string.injEq,ByteArray.mk.injEq];constructor
  ·intro h;rw[h]
  ·intro h;simpa using Ax Array.toList h.symm
 |unit=>simp[FE]at hk
 |err=>simp[FE]at hk
 |prod a b=>simp[keyW]at hw
 |slice e=>simp[FE]at hk
theorem KRep.one{w:World}{ok:Nat->Prop}{k:Ty}{x:k.den}{u:Value}(hw:keyW k=false)(h:KRep w ok k x u):DRep w ok k x [u]:=by
 obtain⟨us,h1,h2⟩:=h;rw[hw]at h2;have h2:us=[u]:=by simpa using h2
 rw[<-h2];exact h1
theorem KRep.two{w:World}{ok:Nat->Prop}{i j:IntKind}{x:Int×Int}{u:Value}(h:KRep w ok (.prod (.int i) (.int j)) x u):u=.agg #[.int i x.1,.int j x.2]:=by obtain⟨us,⟨v1,v2,e0,e1,e2⟩,h2⟩:=h;have e1:v1=[_]:=e1;have e2:v2=[_]:=e2;subst e1 e2 e0;simpa [keyW]using h2
theorem Aqf{w:World}{e:TypeId}{q:IntKind}(h:P.underlying e=some (.int q))(em:Bool)(k:IntKind)(x:Int)(n:Nat):(Instr.checkKey em (n+1) e (.int k x)).run P w=.ok () w:=by unfold Instr.checkKey;simp[run_underlying h,Result.andThen]
theorem Aqg{em:Bool}{w:World}{kt e:TypeId}{ka kb:IntKind}{a b:Int}(PG:P.underlying kt=some (.array 2 e))(hs:(sizeOf e).run P w=.ok 1 w)(p0:(part e #[.int ka a,.int kb b] 0).run P w=.ok (.int ka a) w)(p1:(part e #[.int ka a,.int kb b] 1).run P w=.ok (.int kb b) w)(hc:∀k x n,(Instr.checkKey em (n+1) e (.int k x)).run P w=.ok () w)(n:Nat):(Instr.checkKey em (n+2) kt (.agg #[.int ka a,.int kb b])).run P w=.ok () w:=by
 rw[Instr.checkKey];simp[run_underlying PG,Result.andThen,List.range',hs,p0,p1,hc]
structure Finds (P:Program) (w:World) (ok:Nat->Prop) (kt:TypeId) (k:Ty) (key:k.den) (u:Value) (Fd:List MapEntry->Nat->Option (Nat×Value)->Prop):Prop where
 rep:KRep w ok k key u
 nil:∀i,Fd [] i none
 cons:∀(x:k.den)(e:MapEntry)(es:List MapEntry)(i:Nat),KRep w ok k x e.key->(IQ k x key=true/\e.key=u/\Fd (e::es) i (some (i,e.val)))\/(IQ k x key=false/\∀r,Fd es (i+1) r->Fd (e::es) i r)
 run:∀es r,Fd es 0 r->(Instr.findKey kt u es).run P w=.ok r w
 check:∀em,(Instr.checkKey em 10000 kt u).run P w=.ok () w
 stays:(Instr.keyThatStays u u).run P w=.ok u w
theorem Y9{kt:TypeId}{ti:TI}{i:TypeInfo}{d:TypeDesc}{z:Value}(f:TFacts P kt ti i d z){k:Ty}(hk:FE ti k=true){w:World}{ok:Nat->Prop}{key:k.den}{u:Value}(hd:KRep w ok k key u):∃Fd,Finds P w ok kt k key u Fd:=by
 cases hw:keyW k with
 |false=>
  have P0:=λ(y:k.den)(u:Value)(h:KRep w ok k y u)=>Aqc f hk hw (h.one hw);refine⟨λes i r=>Instr.findNow d u es i=some r,hd,λ_=>rfl,λx e es i hx=>?_,λes r h=>run_findKey f.under h,λem=>run_checkKey f.under (P0 key _ hd) em _,run_keyThatStays (P0 key _ hd)⟩;obtain⟨q,hq,Anq⟩:=sameNow_of_keys (P0 key u hd) (P0 x e.key hx);have Anw:=Aqe hk hw (hx.one hw) (hd.one hw);cases q with
  |true=>have RU:u=e.key:=Anq.1 rfl;exact .inl ⟨Anw.2 RU,RU.symm,by simp[Instr.findNow,hq]⟩
  |false=>
   have RU:u≠e.key:=λh=>by have:=Anq.2 h;cases this
   refine .inr ⟨?_,λr h=>by simp[Instr.findNow,hq,h]⟩;cases hh:IQ k x key with
   |false=>rfl
   |true=>exact absurd (Anw.1 hh) RU
 |true=>
  cases k with
  |prod a b=>
   obtain⟨ka,kb,rfl,rfl,he,hl⟩:=Aqd hk;have hu:=hd.two;have I5:=f.eqs.symm.trans he
   have AGh:∃e,P.underlying kt=some (.array 2 e)/\KO P e=some .i/\P.cellsOf e=1:=by
    have C8:=f.alen.symm.trans hl;have PG:=f.under;cases d<;>simp[lenD]at C8;subst C8;rename_i e;refine⟨e,PG,?_⟩;unfold SO at I5;rw[PG]at I5;simp only at I5;split at I5
    ·rename_i kk P3
     cases hc:(Nat.beq (P.cellsOf e) 1&&!P.eqGuardType P.depth kt)with
     |false=>rw[hc]at I5;cases I5
     |true=>rw[hc]at I5;simp only[Ar,Ag,List.replicate,D1,Fb]at I5;obtain⟨Dp,_⟩:=andB hc;exact⟨by rw[P3,I5.1],Az Dp⟩
    ·cases I5
   obtain⟨e,PG,JO,JS⟩:=AGh
   have iY:∃q,P.underlying e=some (.int q):=by
    unfold KO at JO;split at JO
    all_goals first|(cases JO;done)|skip
    rename_i q hq;exact⟨q,hq⟩
   obtain⟨q,iY⟩:=iY
   have WI:∃i,P.info? e=some i:=by
    cases hi:P.info? e with
    |some i=>exact⟨i,rfl⟩
    |none=>simp[Program.cellsOf,hi]at JS
   obtain⟨ie,WI⟩:=WI;have iN:P.plainKey e=true:=by simp[Program.plainKey,iY]
   refine⟨λes i r=>(Instr.findAsking kt u es i).run P w=.ok r w,hd,λ_=>by simp[Instr.findAsking],λx en es i hx=>?_,λes r h=>?_,λem=>?_,?_⟩
   ·have HN:=hx.two
    have hE:CReps (⟨w,ok,0,λ_=>none,λ_=>none⟩:Env) [.int ka key.1,.int kb key.2] [.int ka key.1,.int kb key.2]:=⟨_,_,rfl,rfl,_,_,rfl,rfl,rfl⟩;have hF:CReps (⟨w,ok,0,λ_=>none,λ_=>none⟩:Env) [.int ka x.1,.int kb x.2] [.int ka x.1,.int kb x.2]:=⟨_,_,rfl,rfl,_,_,rfl,rfl,rfl⟩;have hr:=(AcE I5 hE hF (q:=decide (key.1=x.1)&&(decide (key.2=x.2)&&true)) (by simp[Cx]) w).1;have hr:(Op.equal kt u en.key).run P w=.ok (decide (key.1=x.1)&&(decide (key.2=x.2)&&true)) w:=by rw[hu,HN];exact hr
    by_cases h1:key.1=x.1/\key.2=x.2
    ·refine .inl ⟨by simp[IQ,h1.1,h1.2],by rw[hu,HN,h1.1,h1.2],?_⟩
     simp[Instr.findAsking,hr,h1.1,h1.2,Result.andThen]
    ·have hq:(decide (key.1=x.1)&&(decide (key.2=x.2)&&true))=false:=by
      by_cases h2:key.1=x.1
      ·have h3:¬key.2=x.2:=λh=>h1 ⟨h2,h⟩
       simp[h3]
      ·simp[h2]
     rw[hq]at hr;refine .inr ⟨?_,λr h=>by simp[Instr.findAsking,hr,Result.andThen,h]⟩;by_cases h2:x.1=key.1
     ·have h3:¬x.2=key.2:=λh=>h1 ⟨h2.symm,h.symm⟩
      simp[IQ,h3]
     ·simp[IQ,h2]
   ·rw[run_findKey_eq w (by rw[PG])]
    exact h
   ·rw[hu]
    have p0:=run_part_plain w iN (xs:=#[.int ka key.1,.int kb key.2]) (off:=0) rfl;have p1:=run_part_plain w iN (xs:=#[.int ka key.1,.int kb key.2]) (off:=1) rfl;have hc:=λk n m=>Aqf (P:=P) (w:=w) iY em k n m;have hs:=_root_.Go.run_sizeOf w WI;rw[JS]at hs;exact Aqg PG hs p0 p1 hc 9998
   ·rw[hu]
    simp[Instr.keyThatStays,Instr.sameBits]
  |bool=>simp[keyW]at hw
  |int k=>simp[keyW]at hw
  |str=>simp[keyW]at hw
  |unit=>simp[keyW]at hw
  |err=>simp[keyW]at hw
  |slice e=>simp[keyW]at hw
theorem mU{kt:TypeId}{w:World}{ok:Nat->Prop}{k v:Ty}{vg:Bool}{key:k.den}{u:Value}{Fd:List MapEntry->Nat->Option (Nat×Value)->Prop}(H:Finds P w ok kt k key u Fd):∀{l:List (k.den×v.den)}{es:List MapEntry}(i:Nat),MRep w ok k v vg l es->(Fd es i none/\mHas k l key=false/\(∀z,mGet k l key z=z)/\∀(y:v.den)(us:List Value)(val:Value)(n:Nat),DRep w ok v y us->(if vg then val=.agg us.toArray else us=[val])->MRep w ok k v vg (mPut k l key y) (es++[{key:=u,val:=val,born:=n}]))\/∃j e y us,Fd es i (some (i+j,e.val))/\es[j]?=some e/\e.key=u/\mHas k l key=true/\(∀z,mGet k l key z=y)/\DRep w ok v y us/\(if vg then e.val=.agg us.toArray else us=[e.val])/\∀(y':v.den)(CL:List Value)(val:Value)(f:MapEntry->MapEntry),DRep w ok v y' CL->(if vg then val=.agg CL.toArray else CL=[val])->(∀e,(f e).key=u/\(f e).val=val)->MRep w ok k v vg (mPut k l key y') (es.modify j f)
 |[],es,i,h=>by simp only[MRep]at h;subst h;refine .inl ⟨H.nil i,rfl,λ_=>rfl,λy us val n h1 h2=>?_⟩;exact⟨_,[],rfl,H.rep,⟨us,h1,h2⟩,rfl⟩
 |x::l,es,i,⟨e,rest,h0,h1,⟨us,h2,h3⟩,h4⟩=>by
  subst h0;rcases H.cons x.1 e rest i h1 with⟨F8,RU,iD⟩|⟨F8,RN⟩
  ·refine .inr ⟨0,e,x.2,us,iD,rfl,RU,by simp[mHas,F8],λz=>by simp[mGet,F8],h2,h3,λy' CL val f g1 g2 g3=>?_⟩
   have hp:mPut k (x::l) key y'=(key,y')::l:=by simp[mPut,F8]
   rw[hp];refine⟨f e,rest,by simp,by rw[(g3 e).1];exact H.rep,⟨CL,g1,by rw[(g3 e).2];exact g2⟩,h4⟩
  ·rcases mU H (i+1) h4 with⟨g1,g2,g3,g4⟩|⟨j,e',y,us2,g1,g2,g3,g4,g5,g6,g7,g8⟩
   ·refine .inl ⟨RN _ g1,by simp[mHas,F8,g2],λz=>by simp[mGet,F8,g3],λy CL val n k1 k2=>?_⟩
    have hp:mPut k (x::l) key y=x::mPut k l key y:=by simp[mPut,F8]
    rw[hp];exact⟨e,rest++_,rfl,h1,⟨us,h2,h3⟩,g4 y CL val n k1 k2⟩
   ·refine .inr ⟨j+1,e',y,us2,by have:=RN _ g1;rwa [show i+(j+1)=i+1+j by omega],by simpa using g2,g3,by simp[mHas,F8,g4],λz=>by simp[mGet,F8,g5],g6,g7,λy' CL val f k1 k2 k3=>?_⟩
    have hp:mPut k (x::l) key y'=x::mPut k l key y':=by simp[mPut,F8]
    rw[hp];exact⟨e,rest.modify j f,by simp,h1,⟨us,h2,h3⟩,g8 y' CL val f k1 k2 k3⟩
theorem mV{t:TypeId}{ti:TI}{i:TypeInfo}{d:TypeDesc}{z:Value}(f:TFacts P t ti i d z){kt vt:TypeId}(h:ti.mp=some (kt,vt)):d=.map kt vt:=by rw[f.mp]at h;cases d<;>simp[mpD]at h;rw[h.1,h.2]
theorem Aqh{T:TypeId->Option TI}{kk:K β}{nx:Nat}{t:TypeId}(ho:o.op=.makeMap t none)(hk:kN T bl nx t kk=some r):Sound P o ρ bl kk r:=by
 unfold kN at hk;split at hk
 ·cases hk
 split at hk
 ·cases hk
 split at hk
 ·rename_i tk tv RR iW
  split at hk
  ·rename_i iF Fw hn
   refine⟨_,_,_,hk,λAa hb=>?_⟩;have Dh:Aa nx=none:=(hb nx (by simp)).trans hn;intro ok0 base pl w a hr hx K Q hK
   have h1:(execOp a.eval o).run P w=.ok (.value (.map (some w.heap.size))) (w.alloc (.map #[] 0)):=by simp[execOp,ho,Instr.makeMap]
   have hg:w.grownBy (w.alloc (.map #[] 0)) none:=World.grownBy_alloc w _ none;have hp:∀g,(Pl.cells w.heap.size).has g->w.heap.size<=g:=λg FN=>KE FN;have hs:Step pl Aa w (upd pl nx (.cells w.heap.size)) (upd Aa nx (.fmap t [])) (w.alloc (.map #[] 0)):=Step.new hr Dh hg hp;refine H9 h1 (hK _ (upd pl nx (.cells w.heap.size)) _ ?_ hs ?_)
   ·exact RelB.new hr Dh hg hp ⟨#[],0,heap_alloc_new w _,rfl⟩
   ·exact⟨w.heap.size,by simp[Ap,upd],rfl⟩
  ·rename_i k v iF Fw hn
   cases hq:FE tk k with
   |false=>rw[hq]at hk;cases hk
   |true=>
    simp only[hq,Ar]at hk;refine⟨_,_,_,hk,λAa hb=>?_⟩;have Dh:Aa nx=none:=(hb nx (by simp)).trans hn;intro ok0 base pl w a hr hx K Q hK
    have h1:(execOp a.eval o).run P w=.ok (.value (.map (some w.heap.size))) (w.alloc (.map #[] 0)):=by simp[execOp,ho,Instr.makeMap]
    have hg:w.grownBy (w.alloc (.map #[] 0)) none:=World.grownBy_alloc w _ none;have hp:∀g,(Pl.cells w.heap.size).has g->w.heap.size<=g:=λg FN=>KE FN;have hs:Step pl Aa w (upd pl nx (.cells w.heap.size)) (upd Aa nx (.map t k v tv.agg [])) (w.alloc (.map #[] 0)):=Step.new hr Dh hg hp;refine H9 h1 (hK _ (upd pl nx (.cells w.heap.size)) _ ?_ hs ?_)
    ·exact RelB.new hr Dh hg hp ⟨#[],0,heap_alloc_new w _,rfl⟩
    ·exact⟨w.heap.size,by simp[Ap,upd],rfl⟩
  ·cases hk
 ·cases hk
theorem Add{E:Env}{v:Ty}{vg:Bool}{y:v.den}{us:List Value}{val:Value}(hd:DRep E.w E.ok v y us)(hv:if vg then val=.agg us.toArray else us=[val]):VRep E (V.mk vg (cells v y)) val:=
 VRep.mk ⟨us,HS hd,hv⟩
theorem Aqi{T:TypeId->Option TI}(hT:TOk P T){kk:K β}{t:TypeId}{x ix:Operand}{commaOk:Bool}(ho:o.op=.lookup t x ix commaOk)(hk:kQ T bl t (ρ x) (ρ ix) commaOk kk=some r):Sound P o ρ bl kk r:=by
 unfold kQ at hk;split at hk
 ·cases hk
 rename_i ti ht;obtain⟨i,d,z,f⟩:=hT.facts ht;split at hk
 ·cases hk
 rename_i kt vt P8;have hd:=mV f P8;subst hd;split at hk
 ·rename_i tk tv RR iW
  obtain⟨ik,dk,zk,fk⟩:=hT.facts RR;obtain⟨iv,dv,zv,fv⟩:=hT.facts iW;split at hk
  ·rename_i b hx
   split at hk
   ·rename_i t0 k v vg l hb
    cases hq:(FE tk k&&(vg||Nat.beq v.size 1)&&(vg==tv.agg))with
    |false=>rw[hq]at hk;cases hk
    |true=>
     simp only[hq,Ar]at hk;obtain⟨hq,iQ⟩:=andB hq;obtain⟨Ab0,Jn⟩:=andB hq;have iQ:vg=tv.agg:=by simpa using iQ
     split at hk
     ·rename_i key zz Kv Abj
      refine Sound.pure hk λAa Aj ok0 base pl w a hr Af=>?_;have AH:Aa b=some (.map t0 k v vg l):=(Aj b (by simp)).trans hb;have h1:=Af x (by simp[ho,Op.operands]);have h2:=Af ix (by simp[ho,Op.operands]);rw[hx]at h1;obtain⟨g,hg,B7⟩:=h1;have AaF:=Adc Kv h2;obtain⟨p,hp,hB⟩:=hr.blks b _ AH;have:p=.cells g:=by have h3:pl b=some (.cells g):=hg;rw[hp]at h3;injection h3
      subst this;obtain⟨es,CU,hh,hm⟩:=hB;have hh:w.heap[g]?=some (.map es CU):=hh;obtain⟨Fd,HF⟩:=Y9 fk Ab0 (w:=w) (ok:=(Ap ok0 base pl Aa w).ok) AaF;have Abi:(zeroValue vt).run P w=.ok zv w:=by simp[zeroValue,typeInfo,fv.info,fv.zero]
      rcases mU HF 0 hm with⟨g1,g2,g3,g4⟩|⟨j,e,y,us,g1,g2,g3,g4,g5,g6,g7,g8⟩
      ·
       have hz:∃us,DRep (Ap ok0 base pl Aa w).w (Ap ok0 base pl Aa w).ok v zz us/\if vg then zv=.agg us.toArray else us=[zv]:=by
        have AHF:CReps (Ap ok0 base pl Aa w) tv.zero zv.cells.toList:=by rw[fv.zeroC];exact MW fv.one
        have W6:=Oo hr.blksOk (Rows.none _ _) AHF Abj;refine⟨_,W6,?_⟩;rw[iQ,fv.agg];have:=Y4 fv w;cases EG:IS P vt with
        |true=>simp only[D6];have IH:=fv.zagg.trans EG;cases zv<;>simp[SP]at IH;rfl
        |false=>
         simp only[Il,CF];rw[iQ,fv.agg,EG]at Jn;have CK:=Az (by simpa using Jn:Nat.beq v.size 1=true);have hl:=DRep.length W6;rw[CK]at hl;cases zv with
         |agg cs=>exact absurd (fv.zagg.trans EG) (by simp[SP])
         |_=>rfl
       obtain⟨us,IH,jA⟩:=hz
       have AM:(execOp a.eval o).run P w=.ok (.value (if commaOk then .tuple #[zv,.bool false]else zv)) w:=by simp[execOp,ho,Instr.lookup,run_underlying f.under,B7,MapKept.run_getObj_map hh,HF.check,HF.run _ _ g1,Abi,Result.andThen]
       refine⟨_,AM,?_⟩;rw[g2,g3];cases commaOk with
       |true=>exact⟨[zv,.bool false],rfl,zv,[.bool false],rfl,⟨us,HS IH,jA⟩,.bool false,[],rfl,⟨[.bool false],⟨_,_,rfl,rfl,rfl⟩,by simp⟩,rfl⟩
       |false=>exact Add IH jA
      ·have AM:(execOp a.eval o).run P w=.ok (.value (if commaOk then .tuple #[e.val,.bool true]else e.val)) w:=by simp[execOp,ho,Instr.lookup,run_underlying f.under,B7,MapKept.run_getObj_map hh,HF.check,HF.run _ _ g1,Result.andThen]
       refine⟨_,AM,?_⟩;rw[g4,g5];cases commaOk with
       |true=>exact⟨[e.val,.bool true],rfl,e.val,[.bool true],rfl,⟨us,HS g6,g7⟩,.bool true,[],rfl,⟨[.bool true],⟨_,_,rfl,rfl,rfl⟩,by simp⟩,rfl⟩
       |false=>exact Add g6 g7
     ·cases hk
   ·cases hk
  ·cases hk
 ·cases hk
theorem Tg{w:World}{g:Nat}{o:Obj}:w.grownBy {w with heap:=w.heap.setIfInBounds g o} (some g):=
 ⟨rfl,rfl,rfl,by simp,λk hk AW=>by have:k≠g:=λh=>AW (by rw[h]);simp[Ne.symm this]⟩
theorem Aqj{T:TypeId->Option TI}(hT:TOk P T){kk:K β}{t:TypeId}{x ix y:Operand}(ho:o.op=.mapUpdate t x ix y)(hk:kR T bl t (ρ x) (ρ ix) (ρ y) kk=some r):Sound P o ρ bl kk r:=by
 unfold kR at hk;split at hk
 ·cases hk
 rename_i ti ht;obtain⟨i,d,z,f⟩:=hT.facts ht;split at hk
 ·cases hk
 rename_i kt vt P8;have hd:=mV f P8;subst hd;split at hk
 ·cases hk
 rename_i tk RR;obtain⟨ik,dk,zk,fk⟩:=hT.facts RR;split at hk
 ·rename_i b cs hx Df
  split at hk
  ·rename_i t0 k v vg l hb
   cases hq:(FE tk k&&decide (S9 (ρ y)=some vg))with
   |false=>rw[hq]at hk;cases hk
   |true=>
    simp only[hq,Ar]at hk;obtain⟨Ab0,Jn⟩:=andB hq;have Jn:=Bv Jn;split at hk
    ·rename_i key zz Kv Abj
     refine⟨_,_,_,hk,λAa Aj=>?_⟩;intro ok0 base pl w a hr Af K Q hK;have AH:Aa b=some (.map t0 k v vg l):=(Aj b (by simp)).trans hb;have h1:=Af x (by simp[ho,Op.operands]);have h2:=Af ix (by simp[ho,Op.operands]);have h3:=Af y (by simp[ho,Op.operands]);rw[hx]at h1;obtain⟨g,hg,B7⟩:=h1;have AaF:=Adc Kv h2;obtain⟨p,hp,hB⟩:=hr.blks b _ AH;have Dj:pl b=some (.cells g):=hg;have:p=.cells g:=by rw[hp]at Dj;injection Dj
     subst this;obtain⟨es,CU,hh,hm⟩:=hB;have hh:w.heap[g]?=some (.map es CU):=hh;obtain⟨Fd,HF⟩:=Y9 fk Ab0 (w:=w) (ok:=(Ap ok0 base pl Aa w).ok) AaF;have AHD:=VRep.cells_of Df h3;have W6:=Oo hr.blksOk (Rows.none _ _) AHD Abj
     have Anj:if vg then a.eval y=.agg (a.eval y).cells.toList.toArray else(a.eval y).cells.toList=[a.eval y]:=by
      cases Jp:ρ y with
      |c q=>
       rw[Jp]at Jn h3;simp only[S9,Ag]at Jn;subst Jn;have h4:=CRep.oneCell (show CRep _ q (a.eval y)from h3);simp only[Il,CF];cases hv:a.eval y with
       |agg cs=>rw[hv]at h4;simp[Value.oneCell']at h4
       |_=>rfl
      |agg q=>rw[Jp]at Jn h3;simp only[S9,Ag]at Jn;subst Jn;obtain⟨vs,_,hv⟩:=h3;simp only[D6]at hv;rw[hv];rfl
      |_=>rw[Jp]at Jn;simp[S9]at Jn
     have EM:∀(l':List (k.den×v.den))(o':Obj),Step pl Aa w (upd pl b (.cells g)) (upd Aa b (.map t0 k v vg l')) {w with heap:=w.heap.setIfInBounds g o'}:=
      λl' o'=>Step.wroteB hr AH rfl Dj Tg
     rcases mU HF 0 hm with⟨g1,g2,g3,g4⟩|⟨j,e,y',us,g1,g2,g3,g4,g5,g6,g7,g8⟩
     ·have AM:(execOp a.eval o).run P w=.ok .skip {w with heap:=w.heap.setIfInBounds g (.map (es.push {key:=a.eval ix,val:=a.eval y,born:=CU}) (CU+1))}:=by simp[execOp,ho,Instr.mapUpdate,run_underlying f.under,B7,MapKept.run_getObj_map hh,HF.check,HF.run _ _ g1,MapKept.run_setObj_map _ hh,Result.andThen]
      refine Ol AM (hK undef (upd pl b (.cells g)) _ (RelB.wroteB hr AH rfl Dj Tg ?_) (EM _ _) trivial);refine⟨_,_,(heap_set hh).1,?_⟩;rw[Array.toList_push];have HN:=(EM (mPut k l key zz) (.map (es.push {key:=a.eval ix,val:=a.eval y,born:=CU}) (CU+1))).ext (ok0:=ok0) (base:=base);exact(g4 zz _ (a.eval y) CU W6 Anj).mono (λ_ _ h=>h.mono HN.heap) (λ_ _ h=>h.mono HN.heap)
     ·have hj:es[j]?=some e:=by simpa using g2
      have AM:(execOp a.eval o).run P w=.ok .skip {w with heap:=w.heap.setIfInBounds g (.map (es.modify j λe=>{e with key:=a.eval ix,val:=a.eval y}) CU)}:=by simp[execOp,ho,Instr.mapUpdate,run_underlying f.under,B7,MapKept.run_getObj_map hh,HF.check,HF.run _ _ g1,hj,g3,HF.stays,MapKept.run_setObj_map _ hh,Result.andThen]
      refine Ol AM (hK undef (upd pl b (.cells g)) _ (RelB.wroteB hr AH rfl Dj Tg ?_) (EM _ _) trivial);refine⟨_,_,(heap_set hh).1,?_⟩;rw[Array.toList_modify];have HN:=(EM (mPut k l key zz) (.map (es.modify j λe=>{e with key:=a.eval ix,val:=a.eval y}) CU)).ext (ok0:=ok0) (base:=base);exact(g8 zz _ (a.eval y) _ W6 Anj (λ_=>⟨rfl,rfl⟩)).mono (λ_ _ h=>h.mono HN.heap) (λ_ _ h=>h.mono HN.heap)
    ·cases hk
  ·cases hk
 ·cases hk
theorem Ade{T:TypeId->Option TI}(hT:TOk P T){t:TypeId}(h:fKey T t=true):∃ti i z kt vt tk ik dk zk,TFacts P t ti i (.map kt vt) z/\TFacts P kt tk ik dk zk/\FE tk .str=true:=by
 unfold fKey at h;split at h
 ·rename_i ti ht
  obtain⟨i,d,z,f⟩:=hT.facts ht;split at h
  ·rename_i kt vt P8
   have hd:=mV f P8;subst hd;split at h
   ·rename_i tk RR
    obtain⟨ik,dk,zk,fk⟩:=hT.facts RR;exact⟨ti,i,z,kt,vt,tk,ik,dk,zk,f,fk,h⟩
   ·cases h
  ·cases h
 ·cases h
theorem Adf{E:Env}{kt:TypeId}{w:World}{ok:Nat->Prop}{s:List UInt8}{u:Value}{Fd:List MapEntry->Nat->Option (Nat×Value)->Prop}(H:Finds P w ok kt .str s u Fd):∀{l:List (List UInt8×(FuncId×Nat))}{es:List MapEntry}(i:Nat),FRep E l es->fHas l s=false->Fd es i none
 |[],es,i,h,_=>by have h:es=[]:=h;subst h;exact H.nil i
 |x::l,es,i,⟨e,r,g,h1,h2,_,_,h5⟩,hn=>by
  subst h1;simp only[fHas,MJ]at hn;rcases H.cons x.1 e r i ⟨[e.key],by rw[h2];rfl,rfl⟩with⟨F8,_,_⟩|⟨_,RN⟩
  ·have F8:decide (x.1=s)=true:=F8
   rw[hn.1]at F8;cases F8
  ·exact RN _ (Adf H (i+1) h5 hn.2)
theorem Adg{E:Env}{kt:TypeId}{w:World}{ok:Nat->Prop}{s:List UInt8}{u:Value}{Fd:List MapEntry->Nat->Option (Nat×Value)->Prop}(H:Finds P w ok kt .str s u Fd){kk:FuncId×Nat->Option β}{r:β}:∀{l:List (List UInt8×(FuncId×Nat))}{es:List MapEntry}(i:Nat),FRep E l es->Oh kk l s=some r->∃y j g,kk y=some r/\E.pl y.2=some (.cells g)/\Fd es i (some (i+j,.func (.func y.1) #[.pointer (some ⟨g,0,none⟩)] #[]))
 |[],es,i,h,hf=>by cases hf
 |x::l,es,i,⟨e,rest,g,h1,h2,h3,h4,h5⟩,hf=>by
  subst h1;simp only[Oh]at hf;rcases H.cons x.1 e rest i ⟨[e.key],by rw[h2];rfl,rfl⟩with⟨F8,_,iD⟩|⟨F8,RN⟩
  ·have F8:decide (x.1=s)=true:=F8
   rw[F8,Ar]at hf;exact⟨x.2,0,g,hf,h3,by rw[h4]at iD;exact iD⟩
  ·have F8:decide (x.1=s)=false:=F8
   rw[F8,Cd]at hf;obtain⟨y,j,g',q1,q2,q3⟩:=Adg H (i+1) h5 hf;exact⟨y,j+1,g',q1,q2,by have:=RN _ q3;rwa [show i+(j+1)=i+1+j by omega]⟩
theorem FRep.app{E:Env}{y:List UInt8×(FuncId×Nat)}{e:MapEntry}{g:Nat}(h1:e.key=.string ⟨y.1.toArray⟩)(h2:E.pl y.2.2=some (.cells g))(h3:e.val=.func (.func y.2.1) #[.pointer (some ⟨g,0,none⟩)] #[]):∀{l:List (List UInt8×(FuncId×Nat))}{es:List MapEntry},FRep E l es->FRep E (l++[y]) (es++[e])
 |[],es,h=>by have h:es=[]:=h;subst h;exact⟨e,[],g,rfl,h1,h2,h3,rfl⟩
 |_::_,_,⟨e',r,g',q1,q2,q3,q4,q5⟩=>⟨e',r++[e],g',by rw[q1];rfl,q2,q3,q4,FRep.app h1 h2 h3 q5⟩
theorem Aqk{T:TypeId->Option TI}(hT:TOk P T){kk:K β}{t:TypeId}{x ix:Operand}{commaOk:Bool}(ho:o.op=.lookup t x ix commaOk)(hk:kO T bl t (ρ x) (ρ ix) commaOk kk=some r):Sound P o ρ bl kk r:=by
 unfold kO at hk;cases Kv:fKey T t with
 |false=>rw[Kv]at hk;cases hk
 |true=>
  rw[Kv,Ar]at hk;obtain⟨ti,i,z,kt,vt,tk,ik,dk,zk,f,fk,hq⟩:=Ade hT Kv;split at hk
  ·rename_i b s hx WJ
   split at hk
   ·rename_i t0 l hb
    have key:∀{l0:List (List UInt8×(FuncId×Nat))},Oh (λy=>kk (.c (.bfn y.1 y.2)) [b] []) l0 s=some r->∃y,kk (.c (.bfn y.1 y.2)) [b] []=some r/\∀{β':Type}(g:FuncId×Nat->Option β'),Oh g l0 s=g y:=by
     intro l0
     induction l0 with
     |nil=>intro h;cases h
     |cons x l0 ih=>
      intro h;simp only[Oh]at h⊢;cases hd:decide (x.1=s)with
      |true=>rw[hd]at h;exact⟨x.2,h,λg=>rfl⟩
      |false=>rw[hd]at h;obtain⟨y,q1,q2⟩:=ih h;exact⟨y,q1,λg=>by simp only[Cd];exact q2 g⟩
    obtain⟨y,hk,JN⟩:=key hk;refine Sound.pure hk λAa Aj ok0 base pl w a hr Af=>?_;have AH:Aa b=some (.fmap t0 l):=(Aj b (by simp)).trans hb;have h1:=Af x (by simp[ho,Op.operands]);have h2:=Af ix (by simp[ho,Op.operands]);rw[hx]at h1;rw[WJ]at h2;obtain⟨g,hg,B7⟩:=h1;have h2:a.eval ix=.string ⟨s.toArray⟩:=h2;obtain⟨p,hp,hB⟩:=hr.blks b _ AH;have:p=.cells g:=by have h3:pl b=some (.cells g):=hg;rw[hp]at h3;injection h3
    subst this;obtain⟨es,CU,hh,hm⟩:=hB;have hh:w.heap[g]?=some (.map es CU):=hh;obtain⟨Fd,HF⟩:=Y9 fk hq (w:=w) (ok:=(Ap ok0 base pl Aa w).ok) (key:=s) (u:=a.eval ix) ⟨[_],by rw[h2];rfl,rfl⟩;obtain⟨y',j,g',q1,q2,q3⟩:=Adg HF (E:=Ap ok0 base pl Aa w) (kk:=some) 0 hm (JN some);injection q1 with q1;subst q1
    have AM:(execOp a.eval o).run P w=.ok (.value (.func (.func y'.1) #[.pointer (some ⟨g',0,none⟩)] #[])) w:=by simp[execOp,ho,Instr.lookup,run_underlying f.under,B7,MapKept.run_getObj_map hh,HF.check,HF.run _ _ q3,Result.andThen]
    exact⟨_,AM,g',q2,rfl⟩
   ·cases hk
  ·cases hk
theorem Aql{T:TypeId->Option TI}(hT:TOk P T){kk:K β}{t:TypeId}{x ix y:Operand}(ho:o.op=.insert t x ix y)(hk:kP T bl t (ρ x) (ρ ix) (ρ y) kk=some r):Sound P o ρ bl kk r:=by
 unfold kP at hk;cases Kv:fKey T t with
 |false=>rw[Kv]at hk;cases hk
 |true=>
  rw[Kv,Ar]at hk;obtain⟨ti,i,z,kt,vt,tk,ik,dk,zk,f,fk,hq⟩:=Ade hT Kv;split at hk
  ·rename_i b s fn rb hx WJ hy
   split at hk
   ·rename_i t0 l hb
    obtain⟨hn,hk⟩:=DL hk;have hn:fHas l s=false:=by simpa using hn
    refine⟨_,_,_,hk,λAa Aj=>?_⟩;intro ok0 base pl w a hr Af K Q hK;have AH:Aa b=some (.fmap t0 l):=(Aj b (by simp)).trans hb;have h1:=Af x (by simp[ho,Op.operands]);have h2:=Af ix (by simp[ho,Op.operands]);have h3:=Af y (by simp[ho,Op.operands]);rw[hx]at h1;rw[WJ]at h2;rw[hy]at h3;obtain⟨g,hg,B7⟩:=h1;have h2:a.eval ix=.string ⟨s.toArray⟩:=h2;obtain⟨gr,Dq,Jp⟩:=h3;obtain⟨p,hp,hB⟩:=hr.blks b _ AH;have Dj:pl b=some (.cells g):=hg;have:p=.cells g:=by rw[hp]at Dj;injection Dj
    subst this;obtain⟨es,CU,hh,hm⟩:=hB;have hh:w.heap[g]?=some (.map es CU):=hh;obtain⟨Fd,HF⟩:=Y9 fk hq (w:=w) (ok:=(Ap ok0 base pl Aa w).ok) (key:=s) (u:=a.eval ix) ⟨[_],by rw[h2];rfl,rfl⟩;have g1:=Adf HF 0 hm hn
    have AM:(execOp a.eval o).run P w=.ok .skip {w with heap:=w.heap.setIfInBounds g (.map (es.push {key:=a.eval ix,val:=a.eval y,born:=CU}) (CU+1))}:=by simp[execOp,ho,Instr.mapUpdate,run_underlying f.under,B7,MapKept.run_getObj_map hh,HF.check,HF.run _ _ g1,MapKept.run_setObj_map _ hh,Result.andThen]
    have EM:Step pl Aa w (upd pl b (.cells g)) (upd Aa b (.fmap t0 (l++[(s,(fn,rb))]))) {w with heap:=w.heap.setIfInBounds g (.map (es.push {key:=a.eval ix,val:=a.eval y,born:=CU}) (CU+1))}:=Step.wroteB hr AH rfl Dj Tg;refine Ol AM (hK undef (upd pl b (.cells g)) _ (RelB.wroteB hr AH rfl Dj Tg ?_) EM trivial);refine⟨_,_,(heap_set hh).1,?_⟩;rw[Array.toList_push];have HN:=EM.ext (ok0:=ok0) (base:=base);exact(FRep.app (E:=Ap ok0 base pl Aa w) (y:=(s,(fn,rb))) h2 Dq Jp hm).mono HN
   ·cases hk
  ·cases hk
end
end Go.Lift
namespace Go.Lift
noncomputable section
open Go.RowKit
theorem Th:∀(l:List (Nat×Blk))(bl:Nat->Option Blk),Qx bl l=updL bl l
 |[],_=>rfl
 |(j,x)::r,bl=>by
  funext i;simp only[Qx,updL];rw[Th r];congr 1;funext k;simp only[upd];by_cases h:k=j
  ·subst h;simp
  ·simp[Io h,h]
theorem mW{bl:Nat->Option Blk}:∀{rds:List Nat}{p:Nat×Blk},p∈Dl bl rds->p.2=.dead/\p.1∈rds/\∃B,bl p.1=some B/\B.lend=true
 |[],p,h=>by simp[Dl]at h
 |b::r,p,h=>by
  have next:p∈Dl bl r->p.2=.dead/\p.1∈b::r/\∃B,bl p.1=some B/\B.lend=true:=λh=>by obtain⟨h1,h2,h3⟩:=mW h;exact⟨h1,BY _ h2,h3⟩
  simp only[Dl]at h;split at h
  ·rename_i hb
   rcases Bw.1 h with rfl|h
   ·exact⟨rfl,by simp,_,hb,rfl⟩
   ·exact next h
  ·rename_i hb
   rcases Bw.1 h with rfl|h
   ·exact⟨rfl,by simp,_,hb,rfl⟩
   ·exact next h
  ·exact next h
theorem Adh{bl:Nat->Option Blk}:∀{rds:List Nat}{b:Nat}{B:Blk},b∈rds->bl b=some B->B.lend=true->(b,Blk.dead)∈Dl bl rds
 |[],b,_,h,_,_=>by simp at h
 |c::r,b,B,h,hb,hl=>by
  simp only[Dl];rcases Bw.1 h with rfl|h
  ·rw[hb]
   cases B<;>first|exact CW|cases hl
  ·have:=Adh (rds:=r) h hb hl
   split
   ·exact BY _ this
   ·exact BY _ this
   ·exact this
theorem Hk:∀{wr:List (Nat×Blk)}{bl:Nat->Option Blk}{b:Nat},b∉wids wr->updL bl wr b=bl b
 |[],_,_,_=>rfl
 |(i,x)::r,bl,b,h=>by simp only[wids,Bw,not_or]at h;rw[updL,Hk h.2];simp[upd,h.1]
theorem Q9:∀{wr:List (Nat×Blk)}{bl bl':Nat->Option Blk}{b:Nat},b∈wids wr->updL bl wr b=updL bl' wr b
 |[],_,_,_,h=>by simp[wids]at h
 |(i,x)::r,bl,bl',b,h=>by
  simp only[updL];by_cases hr:b∈wids r
  ·exact Q9 hr
  ·rw[Hk hr,Hk hr]
   have CP:b=i:=by simp only[wids,Bw]at h;exact h.resolve_right hr
   simp[upd,CP]
section
variable{P:Program}{o:Oper}{ρ:Operand->V}{bl:Nat->Option Blk}{β:Type}{r:β}
theorem freeze{ok0:OK0 P}{base:Nat}{pl:Nat->Option Pl}{Aa:Nat->Option Blk}{w:World}(hr:RelB ok0 base pl Aa w)(rds:List Nat)(EG:∀b∈rds,Aa b=bl b):RelB ok0 base pl (updL Aa (Dl bl rds)) w/\Step pl Aa w pl (updL Aa (Dl bl rds)) w/\∀(v:V)(u:Value),(∀b∈CG [v],b∈rds)->VRep (Ap ok0 base pl Aa w) v u->VRep (Ap ok0 base pl (updL Aa (Dl bl rds)) w) (frzV bl v) u:=by
 have P4:∀p∈Dl bl rds,p.2=Blk.dead/\p.1∈rds/\∃B,Aa p.1=some B/\B.lend=true:=λp hp=>by obtain⟨h1,h2,B,h3,h4⟩:=mW hp;exact⟨h1,h2,B,by rw[EG _ h2];exact h3,h4⟩
 generalize iG:Dl bl rds=kills at*
 have Po:∀i,updL Aa kills i=Aa i\/(updL Aa kills i=some .dead/\∃B,Aa i=some B/\B.lend=true):=λi=>by
  rcases Td (l:=kills) (f:=Aa) i (λp hp=>(P4 p hp).1)with⟨h1,_⟩|⟨h1,p,hp,h2⟩
  ·exact .inl h1
  ·have:=P4 p hp
   rw[h2]at this;exact .inr ⟨h1,this.2.2⟩
 have hblkL:∀i B,updL Aa kills i=some B->B.live=true->Aa i=some B:=λi B hB hl=>by
  rcases Po i with h|⟨h,_⟩
  ·rw[<-h];exact hB
  ·rw[h]at hB
   injection hB with hB;subst hB;cases hl
 have Ao:∀g,Own pl (updL Aa kills) g->Own pl Aa g:=λg ⟨i,B,p,hB,hl,hp,hg⟩=>⟨i,B,p,hblkL i B hB hl,hl,hp,hg⟩
 have hs:Step pl Aa w pl (updL Aa kills) w:=⟨rfl,rfl,rfl,AQ _,λg _ ho=>⟨rfl,λh=>ho (Ao g h)⟩,λ_ _ h=>h,
  λb sv Ac hb=>⟨sv,Ac,hb,KeepR.of_live (λC h hC=>hblkL b _ h (by cases C<;>first|rfl|exact absurd rfl hC)) _ _⟩⟩
 refine⟨⟨hr.baseLe,λi B hB=>?_,λi j B C p q g Dw hB hC hlB hlC hp hq hg=>?_,λi hi=>?_,hr.glob.mono Ao⟩,hs,λv u NI hv=>?_⟩
 ·cases hl:B.live with
  |false=>
   have Lo:∃B0,Aa i=some B0:=by
    rcases Po i with h|⟨_,_,h,_⟩
    ·exact⟨B,by rw[<-h];exact hB⟩
    ·exact⟨_,h⟩
   obtain⟨B0,hB0⟩:=Lo;obtain⟨p,hp,_⟩:=hr.blks i B0 hB0;refine⟨p,hp,?_⟩;cases B<;>first|exact trivial|simp[Blk.live]at hl
  |true=>obtain⟨p,hp,hR⟩:=hr.blks i B (hblkL i B hB hl);exact⟨p,hp,BRep.mono hs.ext hR λ_ _=>rfl⟩
 ·exact hr.sep i j B C p q g Dw (hblkL i B hB hlB) (hblkL j C hC hlC) hlB hlC hp hq hg
 ·rcases Po i with h|⟨h,_⟩
  ·exact hr.fresh i (by rw[<-h];exact hi)
  ·rw[h]at hi;cases hi
 ·
  generalize hE:Ap ok0 base pl Aa w=E at hv;generalize hE':Ap ok0 base pl (updL Aa kills) w=E';have hx:Ext E E':=by rw[<-hE,<-hE'];exact hs.ext
  have Mq:Ek E:=by rw[<-hE];exact hr.blksOk
  have hEbl:E.bl=Aa:=by rw[<-hE];rfl
  have hEpl:E.pl=pl:=by rw[<-hE];rfl
  have hEw:E.w=w:=by rw[<-hE];rfl
  have hEw':E'.w=w:=by rw[<-hE'];rfl
  have hEok:E.ok=λg=>(ok0 g\/(base<=g/\¬ok0.no g))/\¬Own pl Aa g:=by rw[<-hE];rfl
  have hEok':E'.ok=λg=>(ok0 g\/(base<=g/\¬ok0.no g))/\¬Own pl (updL Aa kills) g:=by rw[<-hE'];rfl
  have D3:∀g,E.ok g->E'.ok g:=λg hg=>by rw[hEok]at hg;rw[hEok'];exact⟨hg.1,λh=>hg.2 (Ao g h)⟩
  have I7:∀(b:Nat)(B:Blk)(p:Pl),b∈rds->bl b=some B->B.lend=true->pl b=some p->∀g,p.has g->E'.ok g:=by
   intro b B p CV hb BS h2 g hg;have Aj:Aa b=some B:=by rw[EG b CV];exact hb
   rw[hEok'];refine⟨.inr (mP hr Aj BS h2 hg),λho=>?_⟩;obtain⟨j,C,q,hC,hl,hq,B8⟩:=ho;have hC2:=hblkL j C hC hl;by_cases AaE:j=b
   ·subst AaE
    have Ds:(j,Blk.dead)∈kills:=by rw[<-iG];exact Adh CV hb BS
    rcases Td (l:=kills) (f:=Aa) j (λp hp=>(P4 p hp).1)with⟨_,q⟩|⟨q,_⟩
    ·exact q _ Ds rfl
    ·rw[q]at hC
     injection hC with hC;subst hC;cases hl
   ·exact hr.sep j b C _ q p g AaE hC2 Aj hl (Blk.lend_live BS) hq h2 B8 hg
  have JS:∀(c:C)(u:Value),(∀b∈CA [c],b∈rds)->CRep E c u->CRep E' (frzC bl c) u:=by
   intro c u RF hc;cases c with
   |sub b ver i j=>
    simp only[frzC];split
    ·rename_i t e ver' l hb
     cases Bg:Nat.beq ver ver' with
     |false=>exact CRep.mono hx hc
     |true=>
      simp only[Ar];have Xf:=Az Bg;subst Xf;have CV:b∈rds:=RF b (by simp[CA]);have Aj:Aa b=some (.row t e ver l):=by rw[EG b CV];exact hb
      have FP:Ip Aa b ver e=some l:=by simp[Ip,Aj]
      obtain⟨t',sv,xs,_,h1,h2,h4,h5⟩:=Yy (blp:=Aa) Mq (λt e ver l h=>by rw[hEbl];exact h) FP;obtain⟨_,sv2,K4,Gd,Bt⟩:=hc;rw[h2]at Gd;injection Gd with Gd;injection Gd with Gd _;subst Gd;obtain⟨A,c,ys,q1,q2,q3,q4,q5⟩:=lO ((Bt _ _ _ _ h1).2 rfl) h4 h5;show DRep E'.w E'.ok (.slice e) ((l.take j).drop i) [u];rw[hEw',<-hEw];simp only[DRep];refine⟨A,c,ys,by rw[q1],q2,q3,q4.mono λx u hu=>hu.mono (λg h1 _=>⟨D3 g h1,rfl⟩),λk v hk=>?_⟩;obtain⟨ad,r1,r2,r3⟩:=q5 k v hk;exact⟨ad,r1,I7 b _ (.row sv []) CV hb rfl (by rw[<-hEpl];exact h2) _ (Or.inl r2),r3⟩
    ·exact CRep.mono hx hc
   |row b ver=>
    simp only[frzC];split
    ·rename_i t e ver' l hb
     cases Bg:Nat.beq ver ver' with
     |false=>exact CRep.mono hx hc
     |true=>
      simp only[Ar];have Xf:=Az Bg;subst Xf;have CV:b∈rds:=RF b (by simp[CA]);have Aj:Aa b=some (.row t e ver l):=by rw[EG b CV];exact hb
      have FP:Ip Aa b ver e=some l:=by simp[Ip,Aj]
      obtain⟨t',sv,xs,h1,h2,h3,h4,h5⟩:=lN (blp:=Aa) Mq (λt e ver l h=>by rw[hEbl];exact h) FP hc;subst h3;have:=Acp (okp:=E'.ok) D3 (λg hg=>I7 b _ (.row u []) CV hb rfl (by rw[<-hEpl];exact h2) g (Or.inl hg)) h4 h5;show DRep E'.w E'.ok (.slice e) l [u];rw[hEw',<-hEw];exact this
    ·exact CRep.mono hx hc
   |trow b ver p=>
    cases p with
    |cons _ _=>exact CRep.mono hx hc
    |nil=>
     simp only[frzC];split
     ·rename_i t e ver' Ah l hb
      cases Bg:Nat.beq ver ver' with
      |false=>exact CRep.mono hx hc
      |true=>
       simp only[Ar];have Xf:=Az Bg;subst Xf;have CV:b∈rds:=RF b (by simp[CA]);have Aj:Aa b=some (.tree t e ver Ah none l):=by rw[EG b CV];exact hb
       have:=Acq (blp:=Aa) (okp:=E'.ok) (e:=e.ty) (l:=l) D3 Mq (b:=b) (ver:=ver) (λt e ver Ah h l h'=>⟨by rw[hEbl];exact h',λsv Ac g Aw hg=>I7 b _ _ CV (by rw[<-EG b CV];exact h') rfl (by rw[<-hEpl];exact Aw) g hg⟩) (by simp[S5,Aj]) hc;show DRep E'.w E'.ok (.slice e.ty) l [u];rw[hEw',<-hEw];exact this
     ·exact CRep.mono hx hc
   |_=>exact CRep.mono hx hc
  have JN:∀(cs:List C)(us:List Value),(∀b∈CA cs,b∈rds)->CReps E cs us->CReps E' (cs.map (frzC bl)) us:=by
   intro cs
   induction cs with
   |nil=>intro us _ h;exact h
   |cons c cs ih=>rintro us hc ⟨u,CL,e,h1,h2⟩;refine⟨u,CL,e,JS c u (λb hb=>hc b ?_) h1,ih CL (λb hb=>hc b (Yx hb)) h2⟩;have:CA (c::cs)=CA [c]++CA cs:=SR [c] cs;rw[this];exact D0 _ hb
  cases v with
  |c x=>exact JS x u (λb hb=>NI b (by simpa [CG,V.cells]using hb)) hv
  |agg cs=>obtain⟨vs,h1,h2⟩:=hv;exact⟨vs,JN cs vs (λb hb=>NI b (by simpa [CG,V.cells]using hb)) h1,h2⟩
  |_=>exact VRep.mono hx hv
theorem Aqm{rds:List Nat}{ρ':Operand->V}{kk:K β}(hρ:∀x∈o.op.operands,ρ' x=ρ x\/(ρ' x=frzV bl (ρ x)/\∀b∈CG [ρ x],b∈rds))(h:Sound P o ρ' (updL bl (Dl bl rds)) (λv rd wr=>kk v (rds++rd) (Dl bl rds++wr)) r):Sound P o ρ bl kk r:=by
 obtain⟨v,rd,wr,hk,h⟩:=h;refine⟨v,rds++rd,Dl bl rds++wr,hk,λAa Aj=>?_⟩;have EG:∀b∈rds,Aa b=bl b:=λb hb=>Aj b (D0 _ hb)
 have FA:∀b∈rd,updL Aa (Dl bl rds) b=updL bl (Dl bl rds) b:=λb hb=>by
  by_cases hm:b∈wids (Dl bl rds)
  ·exact Q9 hm
  ·rw[Hk hm,Hk hm]
   exact Aj b (DJ _ hb)
 intro ok0 base pl w a hr hx K Q hK;obtain⟨h1,h2,h3⟩:=freeze (bl:=bl) hr rds EG;refine h _ FA ok0 base pl w a h1 (λx Xh=>?_) K Q λval Ak w' k1 k2 k3=>?_
 ·rcases hρ x Xh with e|⟨e,Bf⟩
  ·rw[e];exact VRep.mono h2.ext (hx x Xh)
  ·rw[e];exact h3 _ _ Bf (hx x Xh)
 ·rw[MX]at hK
  exact hK val Ak w' k1 (h2.trans k2) k3
theorem mX:∀{vs:List V}{v:V},v∈vs->∀b∈CG [v],b∈CG vs
 |[],_,h=>by simp at h
 |u::us,v,h=>by
  intro b hb
  have FP:∀(u:V)(us:List V),CG (u::us)=CG [u]++CG us:=by intro u us;simp only[CG];split<;>simp
  rw[FP];rcases Bw.1 h with rfl|h
  ·exact D0 _ hb
  ·exact DJ _ (mX h b hb)
theorem LM{xs:List Operand}{kk:K β}{run:(Nat->Option Blk)->K β->Option β}(AGZ:∀x∈o.op.operands,x∈xs)(hk:J4 bl (CG (xs.map ρ)) run kk=some r)(h:∀(bl':Nat->Option Blk)(Ea:K β),run bl' Ea=some r->Sound P o (λx=>frzV bl (ρ x)) bl' Ea r):Sound P o ρ bl kk r:=by
 unfold J4 at hk;rw[Th]at hk;exact Aqm (rds:=CG (xs.map ρ)) (ρ':=λx=>frzV bl (ρ x)) (λx hx=>.inr ⟨rfl,mX (Gy.2 ⟨x,AGZ x hx,rfl⟩)⟩) (h _ _ hk)
theorem mY{E E':Env}{rds:List Nat}(hx:Ext E E')(h:∀(c:C)(u:Value),(∀b∈CA [c],b∈rds)->CRep E c u->CRep E' (frzC bl c) u):∀(i:Nat)(ps:List Nat){cs:List C}{vs:List Value},(∀b∈F4 i ps cs,b∈rds)->CReps E cs vs->CReps E' (KL bl i ps cs) vs
 |_,_,[],_,_,hc=>hc
 |i,ps,c::cs,_,hr,⟨u,us,e,h1,h2⟩=>by
  cases hm:memB i ps with
  |true=>
   have BD:∀b∈CA [c]++F4 (i+1) ps cs,b∈rds:=by simpa [F4,hm]using hr
   refine⟨u,us,e,?_,mY hx h (i+1) ps (λb hb=>BD b (DJ _ hb)) h2⟩;rw[hm];exact h c u (λb hb=>BD b (D0 _ hb)) h1
  |false=>
   have BD:∀b∈F4 (i+1) ps cs,b∈rds:=by simpa [F4,hm]using hr
   refine⟨u,us,e,?_,mY hx h (i+1) ps BD h2⟩;rw[hm];exact CRep.mono hx h1
theorem Aqn{b:Nat}{t0:TypeId}{ps:List Nat}{cs:List C}{kk:K β}(hb:bl b=some (.cells t0 cs))(h:Sound P o ρ (updL (updL bl (Dl bl (F4 0 ps cs))) [(b,.cells t0 (KL bl 0 ps cs))]) (λv rd wr=>kk v (F4 0 ps cs++(b::rd)) (Dl bl (F4 0 ps cs)++((b,.cells t0 (KL bl 0 ps cs))::wr))) r):Sound P o ρ bl kk r:=by
 obtain⟨v,rd,wr,hk,h⟩:=h;refine⟨v,F4 0 ps cs++(b::rd),_,hk,λAa Aj=>?_⟩;have EG:∀i∈F4 0 ps cs,Aa i=bl i:=λi hi=>Aj i (D0 _ hi);have Jg:Aa b=some (.cells t0 cs):=(Aj b (by simp)).trans hb
 have AFX:b∉wids (Dl bl (F4 0 ps cs)):=λhm=>by
  have:∀(l:List (Nat×Blk)),b∈wids l->∃x,(b,x)∈l:=by
   intro l
   induction l with
   |nil=>intro h;simp[wids]at h
   |cons p l ih=>
    intro h;simp only[wids,Bw]at h;rcases h with rfl|h
    ·exact⟨p.2,by simp⟩
    ·obtain⟨x,hx⟩:=ih h
     exact⟨x,BY _ hx⟩
  obtain⟨x,hx⟩:=this _ hm;obtain⟨_,_,B,h3,h4⟩:=mW hx;rw[show bl b=_ from h3]at hb;injection hb with hb;subst hb;cases h4
 have FA:∀i∈rd,updL (updL Aa (Dl bl (F4 0 ps cs))) [(b,Blk.cells t0 (KL bl 0 ps cs))] i=updL (updL bl (Dl bl (F4 0 ps cs))) [(b,Blk.cells t0 (KL bl 0 ps cs))] i:=λi hi=>by
  simp only[updL,upd];by_cases WG:i=b
  ·simp[WG]
  ·simp only[WG,CF]
   by_cases hm:i∈wids (Dl bl (F4 0 ps cs))
   ·exact Q9 hm
   ·rw[Hk hm,Hk hm]
    exact Aj i (by simp[hi])
 intro ok0 base pl w a hr hx K Q hK;obtain⟨h1,h2,h3⟩:=freeze (bl:=bl) hr (F4 0 ps cs) EG;obtain⟨p,hp,hB⟩:=hr.blks b _ Jg;cases p with
 |row _ _=>exact hB.elim
 |cells g=>
  obtain⟨vs,hh,Df⟩:=hB;have W4:=mY (bl:=bl) h2.ext (rds:=F4 0 ps cs) (λc u hc h=>h3 (.c c) u (λb hb=>hc b (by simpa [CG,V.cells]using hb)) h) 0 ps (λ_ h=>h) Df;have BH:updL Aa (Dl bl (F4 0 ps cs)) b=some (.cells t0 cs):=(Hk AFX).trans Jg;rw[MX]at hK;generalize updL Aa (Dl bl (F4 0 ps cs))=bl1 at*
  have Ba:upd pl b (.cells g)=pl:=by
   funext j;simp only[upd];split
   ·rename_i h;rw[h];exact hp.symm
   ·rfl
  have EM:Step pl bl1 w (upd pl b (.cells g)) (upd bl1 b (.cells t0 (KL bl 0 ps cs))) w:=by
   rw[Ba];refine⟨rfl,rfl,rfl,AQ _,λg' _ ho=>⟨rfl,?_⟩,λ_ _ h=>h,λb' sv Ac AH=>⟨sv,Ac,AH,?_⟩⟩
   ·rintro⟨j,C,q,hC,hl,hq,B8⟩
    by_cases hj:j=b
    ·subst hj
     exact ho ⟨j,_,q,BH,rfl,hq,B8⟩
    ·simp only[upd,hj,CF]at hC
     exact ho ⟨j,C,q,hC,hl,hq,B8⟩
   ·have AW:b'≠b:=by rintro rfl;rw[hp]at AH;cases AH
    exact KeepR.of_eq (λC hC=>by simpa [upd,AW]using hC) _ _
  have AnL:=h1.put EM (BRep.mono EM.ext (B:=.cells t0 (KL bl 0 ps cs)) (p:=.cells g) ⟨vs,hh,W4⟩ λ_ _=>rfl) λj C q g' hj hC hl hq B8=>⟨rfl,λDj=>h1.sep j b C _ q _ g' hj hC BH hl rfl hq hp B8 Dj⟩;rw[Ba]at AnL EM;refine h _ FA ok0 base pl w a AnL (λx Xh=>VRep.mono (h2.trans EM).ext (hx x Xh)) K Q λval Ak w' k1 k2 k3=>?_;exact hK val Ak w' k1 ((h2.trans EM).trans k2) k3
theorem Aqo{T:TypeId->Option TI}(hT:TOk P T){kk:K β}{t:TypeId}{ps:List Nat}{x:Operand}(ho:o.op=.load t x)(hk:lH T bl t ps (ρ x) kk=some r):Sound P o ρ bl kk r:=by
 unfold lH at hk;split at hk
 ·rename_i b of hx
  split at hk
  ·rename_i t0 cs hb
   rw[Th,Th]at hk;rw[<-hx]at hk;exact Aqn hb (lT hT ho hk)
  ·cases hk
 ·exact lT hT ho hk
theorem Aqp{T:TypeId->Option TI}(hT:TOk P T){kk:K β}{t:TypeId}{x y:Operand}(ho:o.op=.index t x y){ti:TI}(ht:T t=some ti){cs:List C}(hx:ρ x=.agg cs){k:IntKind}{i:Int}(hy:ival (ρ y)=some (k,i))(hk:kM T ti cs i kk=some r):Sound P o ρ bl kk r:=by
 obtain⟨inf,d,z,f⟩:=hT.facts ht;unfold kM at hk;split at hk
 ·rename_i et n C2 C8
  have:=lW f C2 C8;subst this;split at hk
  ·rename_i te BW
   obtain⟨i',d',z',fe⟩:=hT.facts BW;split at hk
   ·rename_i e RG
    split at hk
    ·rename_i l hl
     cases hs:(Nat.beq e.size te.size&&(te.agg||Nat.beq te.size 1))with
     |false=>rw[hs]at hk;cases hk
     |true=>
      simp only[hs,Ar]at hk;obtain⟨B5,Bm⟩:=andB hs;have B5:=Az B5;obtain⟨hc,hk⟩:=DL hk;obtain⟨Dp,Cz⟩:=andB hc;have Dp:=Bv Dp;have Cz:=Bv Cz;refine Sound.pure hk λAa _ ok0 base pl w a hr Af=>?_;have HM:=Af x (by simp[ho,Op.operands]);have Ih:=Af y (by simp[ho,Op.operands]);rw[hx]at HM;rw[Ot hy]at Ih;have RX:a.eval y=.int k i:=Ih;obtain⟨vs,D7,B7⟩:=HM;have B7:a.eval x=.agg vs.toArray:=B7;obtain⟨hd,GV⟩:=Y0 hr.blksOk (Rows.none _ _) D7 hl;obtain⟨u,p,q,iP,hp,N7⟩:=DList.get e.dflt hd (i:=i.toNat) (by omega);have iX:=N7.length
      have AK3:vs.length=n*e.size:=by have:=DList.length hd;rw[this,GV]
      have CV:i<(n:Int):=by omega
      have EG:=Y4 fe w;cases EV:te.agg with
      |true=>
       rw[EV]at EG;refine⟨.agg u.toArray,?_,VRep.mk ⟨u,HS N7,by simp⟩⟩
       have GE:List.take te.size (List.drop (i.toNat*te.size) vs)=u:=by rw[iP,<-B5,<-hp,<-iX];simp
       simp[execOp,ho,B7,RX,Instr.index,asIntOf,run_underlying f.under,Dp,CV,part,EG,run_sizeOf fe,GE]
      |false=>
       rw[EV]at EG Bm;have JS:te.size=1:=Az (by simpa using Bm);have RT:u.length=1:=by omega
       match u,RT with
       |[u0],_=>
        refine⟨u0,?_,VRep.mk ⟨[u0],HS N7,by simp⟩⟩
        have I6:vs[i.toNat*te.size]?=some u0:=by rw[iP,<-B5,<-hp];simp
        simp[execOp,ho,B7,RX,Instr.index,asIntOf,run_underlying f.under,Dp,CV,part,EG,run_sizeOf fe,I6]
    ·cases hk
   ·cases hk
  ·cases hk
 ·cases hk
end
end
end Go.Lift
namespace Go.Lift
noncomputable section
open Go.RowKit
section
variable{P:Program}{o:Oper}{ρ:Operand->V}{bl:Nat->Option Blk}{β:Type}{r:β}
theorem mZ{E:Env}{a:Act}:∀{xs:List Operand},(∀x∈xs,VRep E (ρ x) (a.eval x))->VReps E (xs.map ρ) (xs.map a.eval)
 |[],_=>rfl
 |x::xs,h=>⟨_,_,rfl,h x (by simp),mZ λy hy=>h y (by simp[hy])⟩
theorem VReps.append{E:Env}:∀{vs us ws xs},VReps E vs us->VReps E ws xs->VReps E (vs++ws) (us++xs)
 |[],us,_,_,h,k=>by have h':us=[]:=h;subst h';exact k
 |_::_,_,_,_,⟨u,CL,e,h1,h2⟩,k=>⟨u,CL++_,by rw[e];rfl,h1,VReps.append h2 k⟩
theorem Adi{E:Env}:∀{BN gs:List Nat},BN.map E.pl=gs.map (λg=>some (.cells g))->VReps E (BN.map λb=>.c (.ptr b 0)) (gs.map λg=>.pointer (some ⟨g,0,none⟩))
 |[],gs,h=>by cases gs with|nil=>rfl|cons g gs=>simp at h
 |b::bs,gs,h=>by
  cases gs with
  |nil=>simp at h
  |cons g gs=>simp only[CM,D1]at h;exact⟨_,_,rfl,⟨g,h.1,rfl⟩,Adi h.2⟩
theorem Aqq{X:Ctx}(hΓ:ΓOk P X.Γ){kk:K β}{nx:Nat}{c:Call}(ho:o.op=.call c){x:Operand}(hc:c.callee=.value x){f:FuncId}{BN:List Nat}(hx:ρ x=.c (.fn f BN))(hk:SH X bl nx f (c.args.toList.map ρ++BN.map λb=>.c (.ptr b 0)) kk=some r):Sound P o ρ bl kk r:=by
 refine Adb hΓ hk λAa ok0 base pl w a hr Af=>?_;have hv:=Af x (by simp[ho,Op.operands,Call.operands,hc]);rw[hx]at hv;obtain⟨gs,hg,hv⟩:=hv;refine⟨c.args.toList.map a.eval++gs.map λg=>.pointer (some ⟨g,0,none⟩),?_,λ⟨fn,h1,h2,h3⟩=>?_⟩
 ·exact(mZ λy hy=>Af y (by simp only[ho,Op.operands,Call.operands,XZ];exact .inr (by simpa using hy))).append (Adi hg)
 ·have he:c.args.map a.eval++(gs.map λg=>Value.pointer (some ⟨g,0,none⟩)).toArray=(c.args.toList.map a.eval++gs.map λg=>Value.pointer (some ⟨g,0,none⟩)).toArray:=by apply HR;simp
  simp only[execOp,ho,resolve,hc,hv,Deferred.ofValue,Sem.run_bind,Sem.run_pure,Result.andThen_ok,invoke,callFunc,run_program,h1,h2,h3,Array.empty_append,Il,CF,he]
theorem Aqr{X:Ctx}(hΓ:ΓOk P X.Γ){kk:K β}{nx:Nat}{c:Call}(ho:o.op=.call c){x:Operand}(hc:c.callee=.value x){f:FuncId}{b:Nat}(hx:ρ x=.c (.bfn f b))(hk:SH X bl nx f (.c (.ptr b 0)::c.args.toList.map ρ) kk=some r):Sound P o ρ bl kk r:=by
 refine Adb hΓ hk λAa ok0 base pl w a hr Af=>?_;have hv:=Af x (by simp[ho,Op.operands,Call.operands,hc]);rw[hx]at hv;obtain⟨g,hg,hv⟩:=hv;refine⟨.pointer (some ⟨g,0,none⟩)::c.args.toList.map a.eval,⟨_,_,rfl,⟨g,hg,rfl⟩,mZ λy hy=>Af y (by simp only[ho,Op.operands,Call.operands,XZ];exact .inr (by simpa using hy))⟩,λ⟨fn,h1,h2,h3⟩=>?_⟩
 have he:#[Value.pointer (some ⟨g,0,none⟩)]++c.args.map a.eval=(Value.pointer (some ⟨g,0,none⟩)::c.args.toList.map a.eval).toArray:=by apply HR;simp
 simp only[execOp,ho,resolve,hc,hv,Deferred.ofValue,Sem.run_bind,Sem.run_pure,Result.andThen_ok,invoke,callFunc,run_program,h1,h2,h3,Array.append_empty,Il,CF,he]
theorem Aqs{kk:K β}{x:Operand}(ho:o.op=.nilCheck x){f:FuncId}{b:Nat}(hx:ρ x=.c (.bfn f b))(hk:kk (ρ x) [] []=some r):Sound P o ρ bl kk r:=by refine Sound.pure hk λAa _ ok0 base pl w a hr Af=>⟨a.eval x,?_,Af x (by simp[ho,Op.operands])⟩;have h1:=Af x (by simp[ho,Op.operands]);rw[hx]at h1;obtain⟨g,_,hv⟩:=h1;simp[execOp,ho,hv]
theorem Aqt{kk:K β}{f:FuncId}{first BN:Array Operand}(ho:o.op=.makeFunc (.func f) first BN){x:Operand}(hf:first.toList=[x]){b:Nat}(hx:ρ x=.c (.ptr b 0))(hc:BN.toList=[])(hk:kk (.c (.bfn f b)) [] []=some r):Sound P o ρ bl kk r:=by
 have N9:first=#[x]:=by apply HR;simpa using hf
 have Gb:BN=#[]:=by simpa using hc
 subst N9 Gb;refine Sound.pure hk λAa _ ok0 base pl w a hr Af=>?_;have hv:=Af x (by simp[ho,Op.operands]);rw[hx]at hv;obtain⟨g,hg,hv⟩:=hv;exact⟨.func (.func f) #[.pointer (some ⟨g,0,none⟩)] #[],by simp[execOp,ho,Instr.makeFunc,hv],g,hg,rfl⟩
theorem Aqu{X:Ctx}(hT:TOk P X.T)(hΓ:ΓOk P X.Γ){kk:K β}{nx:Nat}(hk:Yp X o ρ bl nx kk=some r):Sound P o ρ bl kk r:=by
 unfold Yp at hk;split at hk
 ·rename_i x ho
  cases hS:(X.S&&Acm (ρ x))with
  |false=>rw[hS,Cd]at hk;exact Y1 (.inl ho) hk
  |true=>rw[hS,Ar]at hk;exact LM (xs:=[x]) (λz hz=>by simpa [ho,Op.operands]using hz) hk λbl' Ea h=>Y1 (ρ:=λx=>frzV bl (ρ x)) (.inl ho) h
 ·rename_i x ho
  cases hD:(X.D&&Acl bl (ρ x))with
  |false=>rw[hD,Cd]at hk;exact Y1 (.inr ho) hk
  |true=>rw[hD,Ar]at hk;exact LM (xs:=[x]) (λz hz=>by simpa [ho,Op.operands]using hz) hk λbl' Ea h=>Y1 (ρ:=λx=>frzV bl (ρ x)) (.inr ho) h
 ·rename_i c a b ho
  split at hk
  ·rename_i g hc;exact Aph ho hc hk
  ·cases hk
 ·rename_i t ho
  split at hk
  ·rename_i ti ht;exact Api hT ho ht hk
  ·cases hk
 ·rename_i t x ho
  split at hk
  ·rename_i cs hc;exact Apj ho hc hk
  ·cases hk
 ·rename_i t parts ho
  cases hD:X.D with
  |false=>rw[hD,Cd]at hk;exact AcM hT ho hk
  |true=>rw[hD,Ar]at hk;refine LM (xs:=parts.toList.map (·.2)) (λx hx=>by simpa [ho,Op.operands]using hx) (by rw[Qm];exact hk) λbl' Ea h=>?_;exact AcM (ρ:=λx=>frzV bl (ρ x)) hT ho h
 ·rename_i t n parts ho
  cases hO:(Ach X.O X.T t&&Aci X.O X.T bl t (parts.toList.map λp=>(p.1,ρ p.2)))with
  |true=>rw[hO,Ar]at hk;exact ApV hT ho hk
  |false=>
  rw[hO,Cd]at hk;refine LM (xs:=parts.toList.map (·.2)) (λx hx=>by simpa [ho,Op.operands]using hx) (by rw[Qm];exact hk) λbl' Ea h=>?_;exact ApI (ρ:=λx=>frzV bl (ρ x)) hT ho h
 ·rename_i t a ho
  split at hk
  ·exact Aqo hT ho hk
  ·exact lT hT ho hk
 ·rename_i t a x ho
  split at hk
  ·exact LM (xs:=[a,x]) (λy hy=>by simpa [ho,Op.operands]using hy) hk λbl' Ea h=>SV (ρ:=λx=>frzV bl (ρ x)) hT ho h
  ·rename_i b _ _ _ _ _
   cases hH:Ace bl b with
   |true=>rw[hH,Ar]at hk;exact SV hT ho hk
   |false=>rw[hH,Cd]at hk;exact LM (xs:=[a,x]) (λy hy=>by simpa [ho,Op.operands]using hy) hk λbl' Ea h=>SV (ρ:=λx=>frzV bl (ρ x)) hT ho h
  ·cases hD:(X.D&&Acn (ρ x))with
   |false=>rw[hD,Cd]at hk;exact SV hT ho hk
   |true=>rw[hD,Ar]at hk;exact LM (xs:=[a,x]) (λy hy=>by simpa [ho,Op.operands]using hy) hk λbl' Ea h=>SV (ρ:=λx=>frzV bl (ρ x)) hT ho h
 ·rename_i x ho
  split at hk
  ·rename_i b of hx;exact Tc ho (.inl ⟨b,of,hx⟩) (by rw[hx];exact hk)
  ·rename_i b ver i of hx;exact Tc ho (.inr (.inl ⟨b,ver,i,of,hx⟩)) (by rw[hx];exact hk)
  ·rename_i e y of hx;exact Tc ho (.inr (.inr (.inl ⟨e,y,of,hx⟩))) (by rw[hx];exact hk)
  ·rename_i b ver p i of hx;exact Tc ho (.inr (.inr (.inr (.inr ⟨b,ver,p,i,of,hx⟩)))) (by rw[hx];exact hk)
  ·rename_i f BN hx;exact Tc ho (.inr (.inr (.inr (.inl ⟨f,BN,hx⟩)))) (by rw[hx];exact hk)
  ·rename_i f b hx;exact Aqs ho hx (by rw[hx];exact hk)
  ·cases hk
 ·rename_i op t x y t' ho;exact ApB hT ho hk
 ·rename_i op t x ho
  split at hk
  ·rename_i b hx;exact ApW ho hx hk
  ·rename_i k n hx;exact ApX ho hx hk
  ·cases hk
 ·rename_i s t x ho
  split at hk
  ·rename_i si ti k0 n hs ht hx
   split at hk
   ·rename_i k Mw;exact ApY hT ho hs ht hx Mw hk
   ·cases hk
  ·rename_i si ti l hs ht hx
   cases Jo:ti.isStr with
   |false=>rw[Jo]at hk;cases hk
   |true=>simp only[Jo,Ar]at hk;exact ApZ hT ho hs ht hx Jo hk
  ·rename_i si ti hs ht _ _;exact ApN hT ho hs ht hk
  ·cases hk
 ·rename_i f first BN ho
  split at hk
  ·rename_i hf
   split at hk
   ·rename_i bs hb;exact Aq0 ho hf hb hk
   ·cases hk
  ·rename_i x hf
   split at hk
   ·rename_i b hx hc;exact Aqt ho hf hx hc hk
   ·cases hk
  ·cases hk
 ·rename_i t n c ho;exact ApJ hT ho hk
 ·rename_i t ho;exact Aqh ho hk
 ·rename_i t x i commaOk ho
  cases hF:Acg bl (ρ x)with
  |true=>rw[hF,Ar]at hk;exact Aqk hT ho hk
  |false=>rw[hF,Cd]at hk;exact Aqi hT ho hk
 ·rename_i t x i y ho;exact Aql hT ho hk
 ·rename_i t x i y ho
  exact LM (xs:=[x,i,y]) (λz hz=>by simpa [ho,Op.operands]using hz) hk λbl' Ea h=>Aqj (ρ:=λx=>frzV bl (ρ x)) hT ho h
 ·rename_i t x hi ho
  cases hR:(X.R&&Yl (ρ x))with
  |true=>rw[hR,Ar]at hk;exact ApQ hT ho hk
  |false=>rw[hR,Cd]at hk;exact m5 (lo:=none) hT ho hk
 ·rename_i t x lo hi _ ho
  cases hS:(X.S&&Yl (ρ x))with
  |false=>rw[hS,Cd]at hk;exact m5 hT ho hk
  |true=>rw[hS,Ar]at hk;exact LM (xs:=x::(lo.toList++hi.toList)) (λz hz=>by cases lo<;>cases hi<;>simpa [ho,Op.operands]using hz) hk λbl' Ea h=>m5 (ρ:=λx=>frzV bl (ρ x)) hT ho h
 ·rename_i t x f ho;exact Apq hT ho hk
 ·rename_i t x f ho
  split at hk
  ·rename_i ti cs ht hx
   split at hk
   ·rename_i off n g hf
    cases h1:(g||Nat.beq n 1)with
    |false=>rw[h1]at hk;cases hk
    |true=>
     simp only[h1,Ar]at hk;split at hk
     ·rename_i rc hs;exact Aq1 hT ho ht hx hf h1 hs hk
     ·cases hk
   ·cases hk
  ·cases hk
 ·rename_i t x i ho;exact Aps hT ho hk
 ·rename_i t x i ho
  split at hk
  ·rename_i ti s k j ht hx hi
   cases Jo:ti.isStr with
   |false=>rw[Jo]at hk;cases hk
   |true=>simp only[Jo,Ar]at hk;obtain⟨hc,hk⟩:=DL hk;obtain⟨c1,c2⟩:=andB hc;exact Aq2 hT ho ht hx hi Jo (Bv c1) (Bv c2) hk
  ·rename_i ti cs k j ht hx hi;exact Aqp hT ho ht hx hi hk
  ·cases hk
 ·rename_i x i ho
  split at hk
  ·rename_i ts hx
   split at hk
   ·rename_i t ht;exact Aq3 ho hx ht hk
   ·cases hk
  ·cases hk
 ·rename_i c ho
  split at hk
  ·rename_i hc
   split at hk
   ·rename_i x t hx ht
    cases B3:c.args.toList with
    |nil=>rw[B3]at hx;simp at hx
    |cons y ys=>
     rw[B3]at hx;cases ys with
     |cons _ _=>simp at hx
     |nil=>simp only[CM,MQ,D1,Fb]at hx;subst hx;exact ApD hT ho hc B3 ht hk
   ·cases hk
  ·rename_i hc
   split at hk
   ·rename_i v hm;exact AcY (isMax:=false) ho hc hm hk
   ·cases hk
  ·rename_i hc
   split at hk
   ·rename_i v hm;exact AcY (isMax:=true) ho hc hm hk
   ·cases hk
  ·rename_i hc
   split at hk
   ·rename_i x y t t' hx ht
    cases PF:Nat.beq t t' with
    |false=>
     simp only[PF,Cd]at hk;cases B3:c.args.toList with
     |nil=>rw[B3]at hx;simp at hx
     |cons a as=>
      rw[B3]at hx;cases as with
      |nil=>simp at hx
      |cons b bs=>
       cases bs with
       |cons _ _=>simp at hx
       |nil=>simp only[CM,MQ,D1,Fb]at hx;obtain⟨h1,h2⟩:=hx;subst h1 h2;exact ApS hT ho hc B3 ht hk
    |true=>
     have:=Az PF;subst this;simp only[PF,Ar]at hk;cases B3:c.args.toList with
     |nil=>rw[B3]at hx;simp at hx
     |cons a as=>
      rw[B3]at hx;cases as with
      |nil=>simp at hx
      |cons b bs=>
       cases bs with
       |cons _ _=>simp at hx
       |nil=>
        simp only[CM,MQ,D1,Fb]at hx;obtain⟨h1,h2⟩:=hx;subst h1 h2;cases hO:(Ym (ρ a)||Ym (ρ b))with
        |true=>rw[hO,Ar]at hk;exact ApU hT ho hc B3 ht hk
        |false=>
        rw[hO,Cd]at hk;exact ApE hT ho hc B3 ht hk
   ·cases hk
  ·rename_i hc
   split at hk
   ·rename_i x t hx ht
    cases B3:c.args.toList with
    |nil=>rw[B3]at hx;simp at hx
    |cons y ys=>
     rw[B3]at hx;cases ys with
     |cons _ _=>simp at hx
     |nil=>simp only[CM,MQ,D1,Fb]at hx;subst hx;exact ApO hT ho hc B3 ht hk
   ·cases hk
  ·rename_i hc
   split at hk
   ·rename_i x t hx ht
    cases B3:c.args.toList with
    |nil=>rw[B3]at hx;simp at hx
    |cons y ys=>
     rw[B3]at hx;cases ys with
     |cons _ _=>simp at hx
     |nil=>simp only[CM,MQ,D1,Fb]at hx;subst hx;exact ApP hT ho hc B3 ht hk
   ·cases hk
  ·rename_i hc
   split at hk
   ·rename_i x y t t' hx ht
    cases PF:Nat.beq t t' with
    |false=>rw[PF]at hk;cases hk
    |true=>
     have:=Az PF;subst this;simp only[PF,Ar]at hk;cases B3:c.args.toList with
     |nil=>rw[B3]at hx;simp at hx
     |cons a as=>
      rw[B3]at hx;cases as with
      |nil=>simp at hx
      |cons b bs=>
       cases bs with
       |cons _ _=>simp at hx
       |nil=>simp only[CM,MQ,D1,Fb]at hx;obtain⟨h1,h2⟩:=hx;subst h1 h2;exact ApM hT ho hc B3 ht hk
   ·cases hk
  ·cases hk
  ·split at hk
   ·rename_i f pre BN Mr
    unfold Ack at Mr;split at Mr
    ·rename_i x hc
     split at Mr
     ·rename_i f' bs hx
      simp only[Ag,BQ]at Mr;obtain⟨rfl,rfl,rfl⟩:=Mr;exact Aqq hΓ ho hc hx hk
     ·rename_i f' b hx
      simp only[Ag,BQ]at Mr;obtain⟨rfl,rfl,rfl⟩:=Mr;exact Aqr hΓ ho hc hx (by simpa using hk)
     ·cases Mr
    ·cases Mr
   ·cases hk
 ·cases hk
end
end
end Go.Lift
namespace Go.Lift
noncomputable section
open Go.RowKit
structure Rel {P:Program} (n:Nat) (ok0:OK0 P) (base:Nat) (pl:Nat->Option Pl) (tm:Nat->Option V) (bl:Nat->Option Blk) (a:Act) (w:World):Prop where
 defers:a.defers=[]
 size:a.tmps.size=n
 tmps:∀t v,tm t=some v->VRep (Ap ok0 base pl bl w) v (a.tmps.getD t undef)
 rel:RelB ok0 base pl bl w
def updD(tm:Nat->Option V)(dst:Option Nat)(v:V):Nat->Option V:=
 match dst with
 |some d=>upd tm d v
 |none=>tm
theorem YA(tm:List (Nat×V))(dst:Option Nat)(v:V):look (putD tm dst v)=updD (look tm) dst v:=by
 cases dst with
 |none=>rfl
 |some d=>funext j;simp only[putD,updD,Yg,upd]
def QA(tm:Nat->Option V):Operand->V
 |.tmp t=>
  match tm t with
  |some v=>v
  |none=>.junk
 |.const v=>V.ofValue v
 |.global _=>.junk
 |.func f=>.c (.fn f [])
theorem Adj(tm:List (Nat×V)):SI tm=QA (look tm):=by funext x;cases x<;>rfl
theorem Adk{P:Program}{n:Nat}{ok0:OK0 P}{base:Nat}{pl:Nat->Option Pl}{tm:Nat->Option V}{bl:Nat->Option Blk}{a:Act}{w:World}(h:Rel n ok0 base pl tm bl a w)(x:Operand):VRep (Ap ok0 base pl bl w) (QA tm x) (a.eval x):=by
 cases x with
 |tmp t=>
  simp only[QA,Act.eval];split
  ·rename_i v hv;exact h.tmps t v hv
  ·exact trivial
 |const v=>exact V.ofValue_rep v
 |global g=>exact trivial
 |func f=>exact⟨[],rfl,rfl⟩
section
variable{P:Program}{ops:Array Oper}{n:Nat}
def EOk(P:Program)(ops:Array Oper)(n:Nat)(e:LogE)(tmA:Nat->Option V)(blA:Nat->Option Blk):Prop:=
 ∀(tm:Nat->Option V)(bl:Nat->Option Blk),(∀t∈e.tin,tm t=tmA t)->(∀b∈e.rd,bl b=blA b)->
  ∀(ok0:OK0 P)(base:Nat)(pl:Nat->Option Pl)(a:Act)(w:World),Rel n ok0 base pl tm bl a w->
  ∀(K:Act->World->Prop)(Q:Exit->Act->World->Prop),
   (∀Ak a' w',Rel n ok0 base Ak (updD tm e.dst e.v) (updL bl e.wr) a' w'->Step pl bl w Ak (updL bl e.wr) w'->K a' w')->wpOp P ops Q e.i K a w
def Valid(P:Program)(ops:Array Oper)(n:Nat):List LogE->(Nat->Option V)->(Nat->Option Blk)->Prop
 |[],_,_=>True
 |e::es,tm,bl=>EOk P ops n e tm bl/\Valid P ops n es (updD tm e.dst e.v) (updL bl e.wr)
def finT:List LogE->(Nat->Option V)->Nat->Option V
 |[],tm=>tm
 |e::es,tm=>finT es (updD tm e.dst e.v)
def finB:List LogE->(Nat->Option Blk)->Nat->Option Blk
 |[],bl=>bl
 |e::es,bl=>finB es (updL bl e.wr)
theorem EOk.agree{e:LogE}{tmA tmB:Nat->Option V}{blA blB:Nat->Option Blk}(h:EOk P ops n e tmA blA)(ht:∀t∈e.tin,tmB t=tmA t)(hb:∀b∈e.rd,blB b=blA b):EOk P ops n e tmB blB:=
 λtm bl h1 h2=>h tm bl (λt hm=>(h1 t hm).trans (ht t hm)) (λb hm=>(h2 b hm).trans (hb b hm))
theorem Adl{tm:Nat->Option V}{dst:Option Nat}{v:V}{t:Nat}(h:dst≠some t):updD tm dst v t=tm t:=by
 cases dst with
 |none=>rfl
 |some d=>have:t≠d:=λe=>h (by rw[e]);simp[updD,upd,this]
theorem YB{a b:List Nat}:meet a b=false↔∀x∈a,x∉b:=by
 induction a with
 |nil=>simp[meet]
 |cons y r ih=>
  simp only[meet,MJ,ih,Bw,forall_eq_or_imp];constructor
  ·rintro⟨h1,h2⟩
   exact⟨λhm=>(by rw[HT.2 hm]at h1;cases h1),h2⟩
  ·rintro⟨h1,h2⟩
   refine⟨?_,h2⟩;cases hm:memB y b with
   |false=>rfl
   |true=>exact absurd (HT.1 hm) h1
structure Apart (x y:LogE):Prop where
 t1:∀t∈y.tin,x.dst≠some t
 t2:∀t∈x.tin,y.dst≠some t
 t3:∀d,x.dst=some d->y.dst≠some d
 b1:∀b∈y.rd,b∉wids x.wr
 b2:∀b∈x.rd,b∉wids y.wr
 b3:∀b∈wids x.wr,b∉wids y.wr
theorem Aqv{x y:LogE}(h:Q0 x y=false):Apart x y:=by
 unfold Q0 at h;simp only[MJ]at h;obtain⟨⟨⟨h1,h2⟩,h3⟩,h4⟩:=h;have h3:=YB.1 h3;have h4:=YB.1 h4;refine⟨λt ht hd=>?_,λt ht hd=>?_,λd hd Cv=>?_,λb hb hw=>?_,λb hb hw=>h4 b hw hb,λb hb hw=>?_⟩
 ·rw[hd]at h1
  simp only[MJ]at h1;rw[HT.2 ht]at h1;cases h1.1
 ·rw[hd]at h2
  simp only at h2;rw[HT.2 ht]at h2;cases h2
 ·rw[hd,Cv]at h1
  simp only[MJ]at h1;rw[Of]at h1;cases h1.2
 ·exact h3 b hw (D0 _ hb)
 ·exact h3 b hb (DJ _ hw)
theorem Aqw{x y:LogE}(h:Apart x y)(tm:Nat->Option V)(bl:Nat->Option Blk):updD (updD tm x.dst x.v) y.dst y.v=updD (updD tm y.dst y.v) x.dst x.v/\updL (updL bl x.wr) y.wr=updL (updL bl y.wr) x.wr:=by
 constructor
 ·cases hx:x.dst with
  |none=>rfl
  |some d=>
   cases hy:y.dst with
   |none=>rfl
   |some d'=>
    have AW:d≠d':=λe=>h.t3 d hx (by rw[hy,e]);funext j;simp only[updD,upd];by_cases h1:j=d'
    ·by_cases h2:j=d
     ·exact absurd (h2.symm.trans h1) AW
     ·simp[h1,Ne.symm AW]
    ·by_cases h2:j=d<;>simp[h1,h2,AW]
 ·funext b
  by_cases h1:b∈wids y.wr
  ·have h2:b∉wids x.wr:=λh2=>h.b3 b h2 h1
   rw[Q9 (bl':=bl) h1,Hk (bl:=updL bl y.wr) h2]
  ·rw[Hk h1]
   by_cases h2:b∈wids x.wr
   ·exact Q9 h2
   ·rw[Hk h2,Hk h2,Hk h1]
theorem Valid.bubble{e:LogE}{post:List LogE}:∀{pre:List LogE}{tm:Nat->Option V}{bl:Nat->Option Blk},Valid P ops n (pre++e::post) tm bl->(∀x∈pre,Apart x e)->EOk P ops n e tm bl/\Valid P ops n (pre++post) (updD tm e.dst e.v) (updL bl e.wr)/\finT (pre++e::post) tm=finT (pre++post) (updD tm e.dst e.v)/\finB (pre++e::post) bl=finB (pre++post) (updL bl e.wr)
 |[],tm,bl,h,_=>⟨h.1,h.2,rfl,rfl⟩
 |x::pre,tm,bl,h,ha=>by
  have hx:=ha x (by simp);obtain⟨h1,h2,h3,h4⟩:=Valid.bubble h.2 λy hy=>ha y (by simp[hy]);obtain⟨c1,c2⟩:=Aqw hx tm bl;refine⟨h1.agree (λt ht=>(Adl (hx.t1 t ht)).symm) (λb hb=>(Hk (hx.b1 b hb)).symm),⟨?_,?_⟩,?_,?_⟩
  ·exact EOk.agree h.1 (λt ht=>Adl (hx.t2 t ht)) (λb hb=>Hk (hx.b2 b hb))
  ·show Valid P ops n (pre++post) (updD (updD tm e.dst e.v) x.dst x.v) (updL (updL bl e.wr) x.wr)
   rw[<-c1,<-c2];exact h2
  ·show finT (pre++e::post) (updD tm x.dst x.v)=finT (pre++post) (updD (updD tm e.dst e.v) x.dst x.v)
   rw[h3,c1]
  ·show finB (pre++e::post) (updL bl x.wr)=finB (pre++post) (updL (updL bl e.wr) x.wr)
   rw[h4,c2]
theorem n5{Q:Exit->Act->World->Prop}{ok0:OK0 P}{base:Nat}:∀{es:List LogE}{pl:Nat->Option Pl}{tm:Nat->Option V}{bl:Nat->Option Blk}{a:Act}{w:World},Valid P ops n es tm bl->Rel n ok0 base pl tm bl a w->(∀Ak a' w',Rel n ok0 base Ak (finT es tm) (finB es bl) a' w'->Step pl bl w Ak (finB es bl) w'->Q .normal a' w')->wpOps P ops Q (es.map (·.i)) a w
 |[],pl,tm,bl,a,w,_,hr,hq=>hq pl a w hr (Step.refl pl bl w)
 |e::es,pl,tm,bl,a,w,hv,hr,hq=>by rw[CM,wpOps_cons];refine hv.1 tm bl (λ_ _=>rfl) (λ_ _=>rfl) ok0 base pl a w hr _ Q λAk a' w' BD Cc=>?_;exact n5 hv.2 BD λpl2 a2 w2 EL Bm=>hq pl2 a2 w2 EL (Cc.trans Bm)
theorem Adm{ms:List Nat}:∀{es:List Edge}{i:Nat},Nat.testBit (J6 ms es) i=true->∃e∈es,Region.binds .any e=true/\(e.on=i\/Nat.testBit (ms.getD e.on 0) i=true)
 |[],i,h=>by simp[J6]at h
 |e::r,i,h=>by
  simp only[J6]at h
  have h':Nat.testBit (J6 ms r) i=true\/Nat.testBit (bif Region.binds .any e then Nat.lor (Nat.shiftLeft 1 e.on) (ms.getD e.on 0)else 0) i=true:=by
   have h2:Nat.testBit (J6 ms r|||(bif Region.binds .any e then Nat.lor (Nat.shiftLeft 1 e.on) (ms.getD e.on 0)else 0)) i=true:=h
   rwa [Nat.testBit_or,LC]at h2
  rcases h' with h'|h'
  ·obtain⟨e',he,hb⟩:=Adm h'
   exact⟨e',by simp[he],hb⟩
  ·cases hb:Region.binds .any e with
   |false=>rw[hb]at h';simp at h'
   |true=>
    simp only[hb,Ar]at h';have h3:Nat.testBit (1<<<e.on|||ms.getD e.on 0) i=true:=h';rw[Nat.testBit_or,LC]at h3;refine⟨e,by simp,hb,?_⟩;rcases h3 with h3|h3
    ·left
     rw[Nat.testBit_shiftLeft]at h3;simp only[CE,Im,ge_iff_le]at h3;obtain⟨h4,h5⟩:=h3
     have h6:i-e.on=0:=by have:=Nat.testBit_one_eq_true_iff_self_eq_zero.1 h5;exact this
     omega
    ·exact .inr h3
theorem Adn:∀{l:List Oper}{acc:List Nat}{j:Nat},(GL l acc)[acc.length+j]?=(l[j]?).map λo=>J6 ((GL l acc).take (acc.length+j)) o.after.toList
 |[],acc,j=>by simp[GL]
 |o::r,acc,0=>by
  have h1:∀(l:List Oper)(a:List Nat),∃x,GL l a=a++x:=by
   intro l
   induction l with
   |nil=>intro a;exact⟨[],by simp[GL]⟩
   |cons o l ih=>intro a;obtain⟨x,hx⟩:=ih (a++[J6 a o.after.toList]);exact⟨J6 a o.after.toList::x,by simp only[GL];rw[hx];simp⟩
  obtain⟨x,hx⟩:=h1 r (acc++[J6 acc o.after.toList]);simp only[GL,hx];simp
 |o::r,acc,j+1=>by
  have ih:=Adn (l:=r) (acc:=acc++[J6 acc o.after.toList]) (j:=j);simp only[GL];simp only[AR,Gp]at ih;have e:acc.length+(j+1)=acc.length+1+j:=by omega
  rw[e,ih];simp
theorem n6{listed:Array Bool}{i:Nat}:i∈Region.ready .any ops listed↔∃o,ops[i]?=some o/\listed.getD i true=false/\∀e∈o.after,Region.binds .any e=true->listed.getD e.on false=true:=by
 unfold Region.ready;rw[List.mem_filter,S2];constructor
 ·rintro⟨h1,h2⟩
  simp only[CE,NW]at h2;have ho:ops[i]?=some ops[i]:=Qe h1;rw[ho]at h2;simp only[Fa,LA,Ac2]at h2;refine⟨_,ho,h2.1,λe he hb=>?_⟩;have:=h2.2 e he;simpa [hb]using this
 ·rintro⟨o,ho,h1,h2⟩
  refine⟨(Ik.1 ho).1,?_⟩;simp only[CE,NW];refine⟨h1,?_⟩;rw[ho];simp only[Fa,LA,Ac2];intro e he;cases hb:Region.binds .any e with
  |false=>rfl
  |true=>simpa using h2 e he hb
def Ado(ops:Array Oper)(listed:Array Bool):Prop:=∀(j:Nat)(o:Oper),ops[j]?=some o->listed.getD j false=true->∀e∈o.after,Region.binds .any e=true->listed.getD e.on false=true
theorem Aqx{listed:Array Bool}(hc:Ado ops listed)(Ks:∀(j:Nat)(o:Oper),ops[j]?=some o->∀e∈o.after,Region.binds .any e=true->e.on<j):∀(j i:Nat)(o:Oper),ops[j]?=some o->Nat.testBit ((GL ops.toList []).getD j 0) i=true->(∀e∈o.after,Region.binds .any e=true->listed.getD e.on false=true)->listed.getD i false=true:=by
 intro j
 induction j using Nat.strongRecOn with
 |_ j ih=>
  intro i o ho Aaq hl;have hm:=Adn (l:=ops.toList) (acc:=[]) (j:=j);simp only[CX,Ei]at hm;have WO:ops.toList[j]?=some o:=by simpa using ho
  rw[WO]at hm;simp only[Fa]at hm;rw[List.getD,hm]at Aaq;simp only[LA]at Aaq;obtain⟨e,he,hb,h⟩:=Adm Aaq;have Lm:e∈o.after:=by simpa using he
  have Au:=Ks j o ho e Lm hb;have BS:=hl e Lm hb;rcases h with h|h
  ·rw[<-h];exact BS
  ·have AGX:e.on<ops.size:=Nat.lt_trans Au (Ik.1 ho).1
   have PA:ops[e.on]?=some ops[e.on]:=Qe AGX;refine ih e.on Au i _ PA ?_ (hc e.on _ PA BS);rw[List.getD,Ss Au]at h;exact h
theorem Adp{Q:Exit->Act->World->Prop}{ok0:OK0 P}{base:Nat}(Ks:∀(j:Nat)(o:Oper),ops[j]?=some o->∀e∈o.after,Region.binds .any e=true->e.on<j):∀(k:Nat){es:List LogE}{listed:Array Bool}{pl:Nat->Option Pl}{tm:Nat->Option V}{bl:Nat->Option Blk}{a:Act}{w:World},es.length=k->listed.size=ops.size->Ado ops listed->(∀i,i<ops.size->(listed.getD i true=false↔∃e∈es,e.i=i))->es.Pairwise (λx y=>x.i<y.i)->(∀e∈es,e.i<ops.size)->es.Pairwise (λx y=>Q0 x y=false\/Nat.testBit ((GL ops.toList []).getD y.i 0) x.i=true)->Valid P ops n es tm bl->Rel n ok0 base pl tm bl a w->(∀Ak a' w',Rel n ok0 base Ak (finT es tm) (finB es bl) a' w'->Step pl bl w Ak (finB es bl) w'->Q .normal a' w')->wpAny P .any ops Q k listed a w:=by
 intro k
 induction k with
 |zero=>
  intro es listed pl tm bl a w hk CK hc hl hs Au hf hv hr hq;have:es=[]:=IK hk;subst this;refine⟨?_,hq pl a w hr (Step.refl pl bl w)⟩;cases FA:Region.ready .any ops listed with
  |nil=>rfl
  |cons i r=>
   have hi:i∈Region.ready .any ops listed:=by rw[FA];simp
   obtain⟨o,ho,h1,_⟩:=n6.1 hi;obtain⟨e,he,_⟩:=(hl i (Ik.1 ho).1).1 h1;simp at he
 |succ k ih=>
  intro es listed pl tm bl a w hk CK hc hl hs Au hf hv hr hq;refine⟨λFA=>?_,λi hi=>?_⟩
  ·
   exfalso;cases es with
   |nil=>simp at hk
   |cons e es=>
    have W9:=Au e (by simp);have ho:ops[e.i]?=some ops[e.i]:=Qe W9
    have:e.i∈Region.ready .any ops listed:=by
     refine n6.2 ⟨_,ho,(hl e.i W9).2 ⟨e,by simp,rfl⟩,λd hd hb=>?_⟩;have N8:=Ks e.i _ ho d hd hb;have Mu:d.on<ops.size:=by omega
     cases hg:listed.getD d.on true with
     |true=>
      have AGf:d.on<listed.size:=by omega
      simp only[Fk,Qe AGf,LA]at hg⊢;exact hg
     |false=>
      obtain⟨x,hx,RW⟩:=(hl d.on Mu).1 hg;rcases Bw.1 hx with rfl|hx
      ·omega
      ·have:=(H7.1 hs).1 x hx
       omega
    rw[FA]at this;simp at this
  ·obtain⟨o,ho,h1,h2⟩:=n6.1 hi
   have AGx:=(Ik.1 ho).1;obtain⟨e,he,W9⟩:=(hl i AGx).1 h1;obtain⟨pre,post,rfl⟩:=List.append_of_mem he;have iO:=H6.1 hf;have ID:=H6.1 hs
   have Pm:∀x∈pre,Apart x e:=by
    intro x hx;rcases iO.2.2 x hx e (by simp)with h|h
    ·exact Aqv h
    ·exfalso
     rw[W9]at h;have Fi:=Aqx hc Ks i x.i o ho h h2;have Af:=Au x (by simp[hx]);have Abh:=(hl x.i Af).2 ⟨x,by simp[hx],rfl⟩;have AHB:x.i<listed.size:=by omega
     simp only[Fk,Qe AHB,LA]at Fi Abh;rw[Fi]at Abh;cases Abh
   obtain⟨b1,b2,b3,b4⟩:=Valid.bubble hv Pm;subst W9;refine b1 tm bl (λ_ _=>rfl) (λ_ _=>rfl) ok0 base pl a w hr _ Q λAk a' w' BD Cc=>?_;refine ih (es:=pre++post) (by simp at hk⊢;omega) (by simpa using CK) ?_ ?_ ?_ ?_ ?_ b2 BD ?_
   ·
    intro j oj WP hj d hd hb
    have I6:∀q,listed.getD q false=true->(listed.setIfInBounds e.i true).getD q false=true:=by
     intro q hq;simp only[Fk,XI];split
     ·split<;>simp_all
     ·simpa [Fk]using hq
    refine I6 _ ?_;by_cases Anr:j=e.i
    ·subst Anr
     rw[ho]at WP;injection WP with WP;subst WP;exact h2 d hd hb
    ·refine hc j oj WP ?_ d hd hb
     simp only[Fk,XI]at hj⊢;rw[if_neg (λh=>Anr h.symm)]at hj;exact hj
   ·intro q hq
    have AK0:q<listed.size:=by omega
    have Gs:e.i<listed.size:=by omega
    by_cases Ab1:q=e.i
    ·subst Ab1
     constructor
     ·intro h
      simp[Fk,Gs]at h
     ·rintro⟨x,hx,RW⟩
      exfalso;rcases Cs.1 hx with hx|hx
      ·have:=ID.2.2 x hx e (by simp);omega
      ·have:=(H7.1 ID.2.1).1 x hx;omega
    ·have h3:(listed.setIfInBounds e.i true).getD q true=listed.getD q true:=by simp only[Fk,XI];rw[if_neg (λh=>Ab1 h.symm)]
     rw[h3,hl q hq];constructor
     ·rintro⟨x,hx,RW⟩
      refine⟨x,?_,RW⟩;rcases Cs.1 hx with hx|hx
      ·exact D0 _ hx
      ·rcases Bw.1 hx with rfl|hx
       ·exact absurd RW.symm Ab1
       ·exact DJ _ hx
     ·rintro⟨x,hx,RW⟩
      refine⟨x,?_,RW⟩;rcases Cs.1 hx with hx|hx
      ·exact D0 _ hx
      ·exact DJ _ (BY _ hx)
   ·exact H6.2 ⟨ID.1,(H7.1 ID.2.1).2,λx hx y hy=>ID.2.2 x hx y (by simp[hy])⟩
   ·intro x hx
    refine Au x ?_;rcases Cs.1 hx with hx|hx
    ·exact D0 _ hx
    ·exact DJ _ (BY _ hx)
   ·exact H6.2 ⟨iO.1,(H7.1 iO.2.1).2,λx hx y hy=>iO.2.2 x hx y (by simp[hy])⟩
   ·intro pl2 a2 w2 EL Bm
    rw[<-b3,<-b4]at EL;rw[<-b4]at Bm;exact hq pl2 a2 w2 EL (Cc.trans Bm)
end
end
end Go.Lift
namespace Go.Lift
noncomputable section
open Go.RowKit
section
variable{P:Program}{ops:Array Oper}{n:Nat}{β:Type}{r:β}
theorem Rel.put{ok0:OK0 P}{base:Nat}{pl Ak:Nat->Option Pl}{tm:Nat->Option V}{bl bl':Nat->Option Blk}{a:Act}{w w':World}(h:Rel n ok0 base pl tm bl a w){dst:Option Nat}(hd:SJ n dst=true){v:V}{val:Value}(hr:RelB ok0 base Ak bl' w')(hs:Step pl bl w Ak bl' w')(hv:VRep (Ap ok0 base Ak bl' w') v val):Rel n ok0 base Ak (updD tm dst v) bl' (a.put dst val) w':=by
 have WQ:∀t v,tm t=some v->VRep (Ap ok0 base Ak bl' w') v (a.tmps.getD t undef):=λt v ht=>(h.tmps t v ht).mono hs.ext;cases dst with
 |none=>exact⟨h.defers,h.size,WQ,hr⟩
 |some d=>
  have I4:d<n:=DR hd;refine⟨h.defers,by simp[Act.put,h.size],λt v' ht=>?_,hr⟩;simp only[updD,upd]at ht;simp only[Act.put,Fk,XI];by_cases e:t=d
  ·subst e
   simp only[D6,Ag]at ht;subst ht;have:t<a.tmps.size:=by rw[h.size];exact I4
   simp[this,hv]
  ·rw[if_neg e]at ht
   rw[if_neg (λh=>e h.symm)];have:=WQ t v' ht
   rwa [Fk]at this
theorem Adq{t:Nat}:∀{l:List Operand},Operand.tmp t∈l->t∈J5 l
 |x::l,h=>by
  rcases Bw.1 h with h|h
  ·subst h;simp[J5]
  ·have:=Adq h
   cases x<;>simp_all [J5]
theorem Aqy{tm Ap9:Nat->Option V}{l:List Operand}(h:∀t∈J5 l,tm t=Ap9 t){x:Operand}(hx:x∈l):QA tm x=QA Ap9 x:=by
 cases x with
 |tmp t=>simp only[QA,h t (Adq hx)]
 |_=>rfl
theorem Aqz{i:Nat}{o:Oper}(ho:ops[i]?=some o)(hd:SJ n o.dst=true){σ:St}{v:V}{rd:List Nat}{wr:List (Nat×Blk)}{tin:List Nat}(hg:o.guard=none/\tin=J5 o.op.operands.toList\/∃t want,Oj ops o=some (t,want)/\look σ.tm t=some (.c (.bool want))/\tin=t::J5 o.op.operands.toList)(hs:∀Aa,(∀b∈rd,Aa b=look σ.bl b)->OpOk P o (SI σ.tm) Aa v wr):EOk P ops n ⟨i,o.dst,v,tin,rd,wr⟩ (look σ.tm) (look σ.bl):=by
 intro tm bl ht hb ok0 base pl a w hr K Q hk
 have CV:∀t∈J5 o.op.operands.toList,tm t=look σ.tm t:=by
  intro t iV;rcases hg with⟨_,e⟩|⟨t',want,_,_,e⟩
  ·exact ht t (by rw[e];exact iV)
  ·exact ht t (by rw[e];exact BY _ iV)
 have hw:Region.wanted o (yielded ops a.tmps)=true:=by
  unfold Region.wanted;rcases hg with⟨e,_⟩|⟨t',want,e1,e2,e3⟩
  ·rw[e]
  ·unfold Oj at e1
   split at e1
   ·cases e1
   ·rename_i j Apa Ku
    rw[Ku];cases hj:(ops[j]?).bind (·.dst)with
    |none=>rw[hj]at e1;cases e1
    |some t2=>
     rw[hj]at e1;simp only[Fa,Ag,BQ]at e1;obtain⟨e4,e5⟩:=e1;subst e4 e5;have h1:=ht t2 (by rw[e3];simp);rw[e2]at h1;have h2:=hr.tmps t2 _ h1;simp only[VRep,CRep]at h2;simp only[yielded,hj,Ya];rw[Fk]at h2;cases h3:a.tmps[t2]? with
     |none=>rw[h3]at h2;simp[undef]at h2
     |some u=>rw[h3]at h2;simp only[LA]at h2;subst h2;simp
 unfold wpOp;rw[ho];simp only[hw,D6];refine .inl (hs bl hb ok0 base pl w a hr.rel (λx hx=>?_) K Q λval Ak w' BD BU hv=>hk Ak _ w' (hr.put hd BD BU hv) BU);have DP:x∈o.op.operands.toList:=by simpa using hx
 rw[Adj,<-Aqy CV DP];exact Adk hr x
theorem AqA{i:Nat}{o:Oper}(ho:ops[i]?=some o)(hd:SJ n o.dst=true){tmA:Nat->Option V}{blA:Nat->Option Blk}{t:Nat}{want:Bool}(hg:Oj ops o=some (t,want)){u:V}(ht:tmA t=some u)(hu:u=.tup []\/u=.c (.bool (!want))):EOk P ops n ⟨i,o.dst,.tup [],[t],[],[]⟩ tmA blA:=by
 intro tm bl iV hb ok0 base pl a w hr K Q hk;have h1:=iV t (by simp);rw[ht]at h1;have h2:=hr.tmps t _ h1
 have hw:Region.wanted o (yielded ops a.tmps)=false:=by
  unfold Region.wanted;unfold Oj at hg;split at hg
  ·cases hg
  ·rename_i j Apa Ku
   rw[Ku];cases hj:(ops[j]?).bind (·.dst)with
   |none=>rw[hj]at hg;cases hg
   |some t2=>
    rw[hj]at hg;simp only[Fa,Ag,BQ]at hg;obtain⟨e4,e5⟩:=hg;subst e4 e5;simp only[yielded,hj,Ya];rw[Fk]at h2;cases h3:a.tmps[t2]? with
    |none=>rfl
    |some u'=>
     rw[h3]at h2;simp only[LA]at h2;rcases hu with e|e
     ·subst e
      obtain⟨vs,h4,h5⟩:=h2;simp only[TReps]at h5;subst h5 h4;rfl
     ·subst e
      simp only[VRep,CRep]at h2;subst h2;cases Apa<;>rfl
 unfold wpOp;rw[ho];simp only[hw,Il,CF];have AHv:VRep (Ap ok0 base pl bl w) (.tup []) undef:=⟨[],rfl,rfl⟩;exact hk pl _ w (hr.put hd hr.rel (Step.refl pl bl w) AHv) (Step.refl pl bl w)
theorem QB{tm:List (Nat×V)}{t:Nat}{v:V}(h:look tm t=some v):look (put tm t v)=look tm:=by
 funext j;rw[Yg];split
 ·rename_i e;rw[e,h]
 ·rfl
theorem YC{X:Ctx}(hT:TOk P X.T)(hΓ:ΓOk P X.Γ){k:St->List LogE->Option β}:∀{l:List (Nat×Oper)}{σ:St}{log:List LogE},(∀p∈l,ops[p.1]?=some p.2)->KM X n ops l σ log k=some r->∃es σ',k σ' (es.reverse++log)=some r/\es.map (·.i)=l.map (·.1)/\Valid P ops n es (look σ.tm) (look σ.bl)/\look σ'.tm=finT es (look σ.tm)/\look σ'.bl=finB es (look σ.bl)
 |[],σ,log,_,h=>⟨[],σ,h,rfl,trivial,rfl,rfl⟩
 |(i,o)::rest,σ,log,hl,h=>by
  have ho:ops[i]?=some o:=hl (i,o) (by simp);have Gt:∀p∈rest,ops[p.1]?=some p.2:=λp hp=>hl p (by simp[hp]);simp only[KM]at h;cases hd:SJ n o.dst with
  |false=>rw[hd]at h;cases h
  |true=>
   rw[hd]at h;simp only[Ar]at h
   have take:∀(σ1:St)(tin:List Nat),look σ1.tm=look σ.tm->look σ1.bl=look σ.bl->
     (o.guard=none/\tin=J5 o.op.operands.toList\/∃t want,Oj ops o=some (t,want)/\look σ1.tm t=some (.c (.bool want))/\tin=t::J5 o.op.operands.toList)->
     (Yp X o (SI σ1.tm) (look σ1.bl) σ1.nx λv rd wr=>KM X n ops rest ⟨putD σ1.tm o.dst v,puts σ1.bl wr,lI σ1.nx wr⟩ (⟨i,o.dst,v,tin,rd,wr⟩::log) k)=some r->
     ∃es σ',k σ' (es.reverse++log)=some r/\es.map (·.i)=((i,o)::rest).map (·.1)/\Valid P ops n es (look σ.tm) (look σ.bl)/\look σ'.tm=finT es (look σ.tm)/\look σ'.bl=finB es (look σ.bl):=by
    intro σ1 tin et eb hg h;obtain⟨v,rd,wr,hk,hs⟩:=Aqu hT hΓ h;obtain⟨es,σ',h1,h2,h3,h4,h5⟩:=YC hT hΓ Gt hk;refine⟨⟨i,o.dst,v,tin,rd,wr⟩::es,σ',by simpa using h1,by simp[h2],⟨?_,?_⟩,?_,?_⟩
    ·rw[<-et,<-eb]
     exact Aqz ho hd hg hs
    ·simp only[YA,lK,et,eb]at h3
     exact h3
    ·rw[h4];simp only[YA,et,finT]
    ·rw[h5];simp only[lK,eb,finB]
   have skip:∀(σ1:St)(t:Nat)(want:Bool)(u:V),look σ1.tm=look σ.tm->look σ1.bl=look σ.bl->Oj ops o=some (t,want)->look σ.tm t=some u->(u=.tup []\/u=.c (.bool (!want)))->
     (KM X n ops rest ⟨putD σ1.tm o.dst (.tup []),σ1.bl,σ1.nx⟩ (⟨i,o.dst,.tup [],[t],[],[]⟩::log) k)=some r->
     ∃es σ',k σ' (es.reverse++log)=some r/\es.map (·.i)=((i,o)::rest).map (·.1)/\Valid P ops n es (look σ.tm) (look σ.bl)/\look σ'.tm=finT es (look σ.tm)/\look σ'.bl=finB es (look σ.bl):=by
    intro σ1 t want u et eb hg ht hu h;obtain⟨es,σ',h1,h2,h3,h4,h5⟩:=YC hT hΓ Gt h;refine⟨⟨i,o.dst,.tup [],[t],[],[]⟩::es,σ',by simpa using h1,by simp[h2],⟨AqA ho hd hg ht hu,?_⟩,?_,?_⟩
    ·simp only[YA,et,eb]at h3
     exact h3
    ·rw[h4];simp only[YA,et,finT]
    ·rw[h5];simp only[eb,finB,updL]
   split at h
   ·rename_i Ku
    exact take σ _ rfl rfl (.inl ⟨Ku,rfl⟩) h
   ·split at h
    ·cases h
    ·rename_i t want hg
     split at h
     ·rename_i ht
      exact skip σ t want _ rfl rfl hg ht (.inl rfl) h
     ·rename_i g ht
      cases want<;>cases g<;>simp only[Ar,Cd,MO,Bool.not_false]at h
      ·exact take ⟨put σ.tm t (.c (.bool false)),σ.bl,σ.nx⟩ _ (QB ht) rfl (.inr ⟨t,false,hg,by rw[QB ht,ht],rfl⟩) h
      ·exact skip ⟨put σ.tm t (.c (.bool true)),σ.bl,σ.nx⟩ t false _ (QB ht) rfl hg ht (.inr rfl) h
      ·exact skip ⟨put σ.tm t (.c (.bool false)),σ.bl,σ.nx⟩ t true _ (QB ht) rfl hg ht (.inr rfl) h
      ·exact take ⟨put σ.tm t (.c (.bool true)),σ.bl,σ.nx⟩ _ (QB ht) rfl (.inr ⟨t,true,hg,by rw[QB ht,ht],rfl⟩) h
     ·cases h
end
end
end Go.Lift
namespace Go.Lift
noncomputable section
open Go.RowKit
def AExit.toExit:AExit->Exit
 |.normal=>.normal
 |.exit id=>.exit id
 |.ret=>.ret
structure Steps where
 rel:(Nat->Option Pl)->(Nat->Option Blk)->World->(Nat->Option Pl)->(Nat->Option Blk)->World->Prop
 refl:∀pl bl w,rel pl bl w pl bl w
 trans:∀{pl pl1 pl2 bl bl1 Aa w w1 w2},rel pl bl w pl1 bl1 w1->rel pl1 bl1 w1 pl2 Aa w2->rel pl bl w pl2 Aa w2
 drawn:∀{pl bl w Ak bl' w'},Step pl bl {w with drawn:=w.drawn+1} Ak bl' w'->rel pl bl w Ak bl' w'
 of:∀{pl bl w Ak bl' w'},Step pl bl w Ak bl' w'->rel pl bl w Ak bl' w'
theorem Step.undrawn{pl Ak:Nat->Option Pl}{bl bl':Nat->Option Blk}{w w':World}(h:Step pl bl {w with drawn:=w.drawn+1} Ak bl' w'):Step pl bl w Ak bl' w':=⟨h.os,h.tape,h.output,h.size,h.out,h.cells,h.rows⟩
@[reducible] def AqB(m:Nat):Steps:=⟨StepM m,StepM.refl m,StepM.trans,λh=>h.undrawn.toM,Step.toM⟩
@[reducible] def Adr:Steps:=⟨Step,Step.refl,Step.trans,Step.undrawn,id⟩
structure Fr where
 O:(Nat->Option Blk)->(Nat->Option Blk)
 upd:∀f wr,O (updL f wr)=updL (O f) wr
 al:Nat->Prop
 agree:∀f b,al b->O f b=f b
@[reducible] def fr0:Fr:=⟨λf=>f,λ_ _=>rfl,λ_=>True,λ_ _ _=>rfl⟩
def ov(F f:Nat->Option Blk):Nat->Option Blk:=λi=>
 match f i with
 |some B=>some B
 |none=>F i
theorem Ads(F:Nat->Option Blk):∀(wr:List (Nat×Blk))(f:Nat->Option Blk),ov F (updL f wr)=updL (ov F f) wr
 |[],_=>rfl
 |(i,x)::r,f=>by simp only[updL];rw[Ads F r];congr 1;funext j;simp only[ov,upd];by_cases h:j=i<;>simp[h]
@[reducible] def frF(ids:List Nat)(F:Nat->Option Blk)(h:∀b∈ids,F b=none):Fr:=⟨ov F,λf wr=>Ads F wr f,λb=>b∈ids,λf b hb=>by
 simp only[ov];cases hf:f b with
 |some B=>rfl
 |none=>exact h b hb⟩
section
variable{P:Program}{n:Nat}{R:Steps}{ι:Type}{fr:ι->Fr}{β:Type}{r:β}
theorem Valid.among{ops:Array Oper}(fr:Fr):∀{es:List LogE}{tm:Nat->Option V}{bl:Nat->Option Blk},Valid P ops n es tm bl->(∀e∈es,∀b∈e.rd,fr.al b)->Valid P ops n es tm (fr.O bl)
 |[],_,_,_,_=>trivial
 |e::es,tm,bl,⟨h1,h2⟩,ha=>⟨h1.agree (λ_ _=>rfl) (λb hb=>fr.agree bl b (ha e (by simp) b hb)),by rw[<-fr.upd];exact Valid.among fr h2 λe' Lm=>ha e' (BY _ Lm)⟩
theorem Adt(fr:Fr):∀{es:List LogE}{bl:Nat->Option Blk},finB es (fr.O bl)=fr.O (finB es bl)
 |[],_=>rfl
 |e::es,bl=>by simp only[finB];rw[<-fr.upd];exact Adt fr
def SimR(P:Program)(n:Nat)(R:Steps){ι:Type}(fr:ι->Fr)(c:Code)(σ:St)(k:Kx β)(r:β):Prop:=
 ∃e' σ',k e' σ'=some r/\∀(i:ι)(ok0:OK0 P)(base:Nat)(pl:Nat->Option Pl)(a:Act)(w:World),Rel n ok0 base pl (look σ.tm) ((fr i).O (look σ.bl)) a w->
  c.wp P (λe a' w'=>e=e'.toExit/\∃Ak,Rel n ok0 base Ak (look σ'.tm) ((fr i).O (look σ'.bl)) a' w'/\R.rel pl ((fr i).O (look σ.bl)) w Ak ((fr i).O (look σ'.bl)) w') a w
def AqC(P:Program)(n:Nat)(R:Steps){ι:Type}(fr:ι->Fr)(c:Code)(cut:Cut):Prop:=
 ∀{β:Type}(σ:St)(k:Kx β)(r:β),cut.run σ k=some r->SimR P n R fr c σ k r
def Sim(P:Program)(n m:Nat)(c:Code)(σ:St)(k:Kx β)(r:β):Prop:=
 ∃e' σ',k e' σ'=some r/\∀(ok0:OK0 P)(base:Nat)(pl:Nat->Option Pl)(a:Act)(w:World),Rel n ok0 base pl (look σ.tm) (look σ.bl) a w->
  c.wp P (λe a' w'=>e=e'.toExit/\∃Ak,Rel n ok0 base Ak (look σ'.tm) (look σ'.bl) a' w'/\StepM m pl (look σ.bl) w Ak (look σ'.bl) w') a w
def QC(P:Program)(n m:Nat)(c:Code)(cut:Cut):Prop:=
 ∀{β:Type}(σ:St)(k:Kx β)(r:β),cut.run σ k=some r->Sim P n m c σ k r
def find(q:Nat):Nat->Code->List Code
 |p,c=>
  let iB:List Code:=bif Nat.beq p q then [c]else []
  match c with
  |.seq a b=>iB++(find q (2*p) a++find q (2*p+1) b)
  |.cond _ a b=>iB++(find q (2*p) a++find q (2*p+1) b)
  |.block _ a=>iB++find q (2*p) a
  |_=>iB
theorem LN(p:Nat)(c:Code):c∈find p p c:=by unfold find;cases c<;>simp
theorem Ti:∀(l:List Oper)(s:Nat),(Hh s l).map (·.1)=List.range' s l.length
 |[],_=>rfl
 |o::l,s=>by simp[Hh,Ti l,List.range'_succ]
theorem Tj{ops:Array Oper}:∀(l:List Oper)(s:Nat),ops.toList.drop s=l->∀p∈Hh s l,ops[p.1]?=some p.2
 |[],_,_,p,hp=>by simp[Hh]at hp
 |o::l,s,h,p,hp=>by
  have hs:s<ops.toList.length:=by
   rcases Ql s ops.toList.length with h1|h1
   ·exact h1
   ·rw[XM h1]at h;cases h
  rw[JY hs]at h;injection h with h1 h2;simp only[Hh,Bw]at hp;rcases hp with e|hp
  ·subst e
   simp only[Array.getElem_toList]at h1;rw[<-h1];exact Qe (by simpa using hs)
  ·exact Tj l (s+1) h2 p hp
theorem n7:∀{l:List (Nat×Oper)},KN l=true->∀p∈l,∀e∈p.2.after,Region.binds .any e=true->e.on<p.1
 |[],_,p,hp=>by simp at hp
 |(i,o)::l,h,p,hp=>by
  simp only[KN,CE,Eh]at h;rcases Bw.1 hp with e|hp
  ·subst e
   intro e he hb;have:=h.1 e (by simpa using he);simp only[hb,MO,NZ]at this;exact DR this
  ·exact n7 h.2 p hp
theorem Adu{m:Nat}{y:LogE}:∀{l:List LogE},Yq m y l=true->∀x∈l,Q0 x y=false\/Nat.testBit m x.i=true
 |[],_,x,hx=>by simp at hx
 |z::l,h,x,hx=>by
  simp only[Yq,CE,LC,NW]at h;rcases Bw.1 hx with e|hx
  ·subst e;exact h.1
  ·exact Adu h.2 x hx
theorem n8{ms:List Nat}:∀{l:List LogE},fine ms l=true->l.Pairwise (λy x=>Q0 x y=false\/Nat.testBit (ms.getD y.i 0) x.i=true)
 |[],_=>List.Pairwise.nil
 |y::l,h=>by simp only[fine,CE]at h;exact H7.2 ⟨λx hx=>Adu h.1 x hx,n8 h.2⟩
theorem Rel.drawn{ok0:OK0 P}{base:Nat}{pl:Nat->Option Pl}{tm:Nat->Option V}{bl:Nat->Option Blk}{a:Act}{w w':World}(h:Rel n ok0 base pl tm bl a w)(hw:w'.heap=w.heap):Rel n ok0 base pl tm bl a w':=by
 have hk:Ext (Ap ok0 base pl bl w) (Ap ok0 base pl bl w'):=
  ⟨AQ _,λg hg _=>⟨hg,by show w'.heap[g]?=w.heap[g]?;rw[hw]⟩,λ_ _ h=>h,λ_ sv Ac h=>⟨sv,Ac,h,KeepR.refl _ _ _⟩⟩
 refine⟨h.defers,h.size,λt v ht=>(h.tmps t v ht).mono hk,by rw[hw];exact h.rel.baseLe,λi B hB=>?_,h.rel.sep,h.rel.fresh,h.rel.glob.out (by rw[hw];exact AQ _) (λg _ ho=>⟨by rw[hw],ho⟩)⟩;obtain⟨p,hp,hb⟩:=h.rel.blks i B hB;exact⟨p,hp,hb.mono hk λg _=>by show w'.heap[g]?=w.heap[g]?;rw[hw]⟩
theorem AqD(hm:P.follows .mixedOrders=true){X:Ctx}(hA:∀log,LJ X.A log=true->∀e∈log,∀b∈e.rd,∀i,(fr i).al b)(hT:TOk P X.T)(hΓ:ΓOk P X.Γ){id:Nat}{ops:Array Oper}{draw:Bool}{σ:St}{k:Kx β}(h:(KM X n ops (Hh 0 ops.toList) σ [] λσ' log=>bif LJ X.A log&&(!draw||(KN (Hh 0 ops.toList)&&fine (GL ops.toList []) log))then k .normal σ' else none)=some r):SimR P n R fr (.region id ops draw) σ k r:=by
 obtain⟨es,σ',h1,h2,h3,h4,h5⟩:=YC hT hΓ (Tj ops.toList 0 (by simp)) h;rw[Ti]at h2;have EF:es.map (·.i)=List.range ops.size:=by rw[h2,k7];simp
 simp only[F3]at h1
 have hc:LJ X.A es.reverse=true/\(!draw||(KN (Hh 0 ops.toList)&&fine (GL ops.toList []) es.reverse))=true/\k .normal σ'=some r:=by
  cases hb:(LJ X.A es.reverse&&(!draw||(KN (Hh 0 ops.toList)&&fine (GL ops.toList []) es.reverse)))with
  |false=>rw[hb]at h1;cases h1
  |true=>rw[hb]at h1;exact⟨(andB hb).1,(andB hb).2,h1⟩
 obtain⟨Ps,hc⟩:=hc;refine⟨.normal,σ',hc.2,λi ok0 base pl a w hr=>?_⟩;have h3:=Valid.among (fr i) h3 λe he b hb=>hA _ Ps e (List.mem_reverse.2 he) b hb i;have h5:(fr i).O (look σ'.bl)=finB es ((fr i).O (look σ.bl)):=by rw[h5,Adt]
 cases draw with
 |false=>
  refine wp_region ?_;rw[<-EF];refine n5 h3 hr λAk a' w' BD Cc=>⟨rfl,Ak,?_,?_⟩
  ·rw[h4,h5];exact BD
  ·rw[h5];exact R.of Cc
 |true=>
  have HH:=hc.1;simp only[MO,NZ,CE]at HH;obtain⟨hb,hf⟩:=HH
  have Ks:∀(j:Nat)(o:Oper),ops[j]?=some o->∀e∈o.after,Region.binds .any e=true->e.on<j:=by
   intro j o ho;have hj:j<ops.size:=(Ik.1 ho).1
   have Ds:j∈(Hh 0 ops.toList).map (·.1):=by rw[Ti];simp only[Hc,List.mem_range'_1];omega
   obtain⟨p,hp,e⟩:=Gy.1 Ds;have h6:=Tj (ops:=ops) ops.toList 0 (by simp) p hp;rw[e,ho]at h6;injection h6 with h6;have:=n7 hb p hp;rw[e,<-h6]at this;exact this
  have Lr:∀i,(∃e∈es,e.i=i)↔i<ops.size:=by intro i;rw[<-S2,<-EF,Gy]
  refine wp_region_any hm ?_;refine Adp Ks ops.size (es:=es) ?_ (by simp) ?_ (λi hi=>?_) ?_ (λe he=>(Lr e.i).1 ⟨e,he,rfl⟩) ?_ h3 (hr.drawn (w':={w with drawn:=w.drawn+1}) rfl) λAk a' w' BD Cc=>⟨rfl,Ak,?_,?_⟩
  ·have:=Ax List.length EF
   simpa using this
  ·intro j o _ hj
   exfalso;rw[Fk]at hj;rcases Ql j ops.size with h7|h7
   ·simp[h7]at hj
   ·simp[Nat.not_lt.2 h7]at hj
  ·constructor
   ·intro _;exact(Lr i).2 hi
   ·intro _;simp[Fk,hi]
  ·have:(es.map (·.i)).Pairwise (· < ·):=by rw[EF];exact List.pairwise_lt_range
   exact List.pairwise_map.1 this
  ·have:=n8 hf
   exact List.pairwise_reverse.1 this
  ·rw[h4,h5];exact BD
  ·rw[h5]
   exact R.drawn Cc
theorem Fm{c:Code}{Q Q':Exit->Act->World->Prop}{a:Act}{w:World}(h:c.wp P Q a w)(hq:∀e a w,Q e a w->Q' e a w):c.wp P Q' a w:=by intro b k cs;obtain⟨e,a',w',h1,h2⟩:=h b k cs;exact⟨e,a',w',hq _ _ _ h1,h2⟩
theorem n9(hm:P.follows .mixedOrders=true){X:Ctx}(hA:∀log,LJ X.A log=true->∀e∈log,∀b∈e.rd,∀i,(fr i).al b)(hT:TOk P X.T)(hΓ:ΓOk P X.Γ):∀{c:Code}{Λ:Nat->Option Cut}{p:Nat}{σ:St}{k:Kx β},(∀q cut,Λ q=some cut->∀c'∈find q p c,AqC P n R fr c' cut)->exec X n Λ p c σ k=some r->SimR P n R fr c σ k r:=by
 intro c
 induction c with
 |region id ops draw=>
  intro Λ p σ k hΛ h;unfold exec at h;split at h
  ·rename_i cut hc;exact hΛ p cut hc _ (LN p _) σ k r h
  ·exact AqD hm hA hT hΓ h
 |skip=>
  intro Λ p σ k hΛ h;unfold exec at h;split at h
  ·rename_i cut hc;exact hΛ p cut hc _ (LN p _) σ k r h
  ·exact⟨.normal,σ,h,λi ok0 base pl a w hr=>wp_skip ⟨rfl,pl,hr,R.refl _ _ _⟩⟩
 |exit id=>
  intro Λ p σ k hΛ h;unfold exec at h;split at h
  ·rename_i cut hc;exact hΛ p cut hc _ (LN p _) σ k r h
  ·exact⟨.exit id,σ,h,λi ok0 base pl a w hr=>wp_exit ⟨rfl,pl,hr,R.refl _ _ _⟩⟩
 |ret=>
  intro Λ p σ k hΛ h;unfold exec at h;split at h
  ·rename_i cut hc;exact hΛ p cut hc _ (LN p _) σ k r h
  ·exact⟨.ret,σ,h,λi ok0 base pl a w hr=>wp_ret ⟨rfl,pl,hr,R.refl _ _ _⟩⟩
 |seq x y ihx ihy=>
  intro Λ p σ k hΛ h;unfold exec at h;split at h
  ·rename_i cut hc;exact hΛ p cut hc _ (LN p _) σ k r h
  ·simp only at h
   obtain⟨e1,σ1,h1,HL⟩:=ihx (λq cut hq c' Gb=>hΛ q cut hq c' (by unfold find;simp[Gb])) h;have hy:∀{k':Kx β},exec X n Λ (2*p+1) y σ1 k'=some r->SimR P n R fr y σ1 k' r:=ihy (λq cut hq c' Gb=>hΛ q cut hq c' (by unfold find;simp[Gb]));cases e1 with
   |normal=>simp only at h1;obtain⟨e2,σ2,h2,Xg⟩:=hy h1;refine⟨e2,σ2,h2,λi ok0 base pl a w hr=>wp_seq (Fm (HL i ok0 base pl a w hr) λe a' w' ⟨he,Ak,BD,Cc⟩=>?_)⟩;subst he;exact Fm (Xg i ok0 base Ak a' w' BD) λe a2 w2 ⟨Jh,pl2,EL,Bm⟩=>⟨Jh,pl2,EL,R.trans Cc Bm⟩
   |exit id=>refine⟨.exit id,σ1,h1,λi ok0 base pl a w hr=>wp_seq (Fm (HL i ok0 base pl a w hr) λe a' w' hq=>?_)⟩;have he:=hq.1;subst he;exact hq
   |ret=>refine⟨.ret,σ1,h1,λi ok0 base pl a w hr=>wp_seq (Fm (HL i ok0 base pl a w hr) λe a' w' hq=>?_)⟩;have he:=hq.1;subst he;exact hq
 |cond x a b iha ihb=>
  intro Λ p σ k hΛ h;unfold exec at h;split at h
  ·rename_i cut hc;exact hΛ p cut hc _ (LN p _) σ k r h
  ·simp only at h
   split at h
   ·rename_i g hg
    have Anf:∀(i:ι)(ok0:OK0 P)(base:Nat)(pl:Nat->Option Pl)(a:Act)(w:World),Rel n ok0 base pl (look σ.tm) ((fr i).O (look σ.bl)) a w->a.eval x=.bool g:=by intro i ok0 base pl a w hr;have:=Adk hr x;rw[<-Adj,hg]at this;exact this
    cases g with
    |true=>obtain⟨e1,σ1,h1,HL⟩:=iha (λq cut hq c' Gb=>hΛ q cut hq c' (by unfold find;simp[Gb])) h;exact⟨e1,σ1,h1,λi ok0 base pl a w hr=>wp_cond_true (Anf i ok0 base pl a w hr) (HL i ok0 base pl a w hr)⟩
    |false=>obtain⟨e1,σ1,h1,HL⟩:=ihb (λq cut hq c' Gb=>hΛ q cut hq c' (by unfold find;simp[Gb])) h;exact⟨e1,σ1,h1,λi ok0 base pl a w hr=>wp_cond_false (Anf i ok0 base pl a w hr) (HL i ok0 base pl a w hr)⟩
   ·cases h
 |block id a iha=>
  intro Λ p σ k hΛ h;unfold exec at h;split at h
  ·rename_i cut hc;exact hΛ p cut hc _ (LN p _) σ k r h
  ·simp only at h
   obtain⟨e1,σ1,h1,HL⟩:=iha (λq cut hq c' Gb=>hΛ q cut hq c' (by unfold find;simp[Gb])) h;cases e1 with
   |normal=>refine⟨.normal,σ1,h1,λi ok0 base pl a w hr=>wp_block (Fm (HL i ok0 base pl a w hr) λe a' w' hq=>?_)⟩;have he:=hq.1;subst he;exact hq
   |ret=>refine⟨.ret,σ1,h1,λi ok0 base pl a w hr=>wp_block (Fm (HL i ok0 base pl a w hr) λe a' w' hq=>?_)⟩;have he:=hq.1;subst he;exact hq
   |exit RY=>
    simp only at h1;cases hid:Nat.beq RY id with
    |true=>rw[hid]at h1;have hid:=Az hid;refine⟨.normal,σ1,h1,λi ok0 base pl a w hr=>wp_block (Fm (HL i ok0 base pl a w hr) λe a' w' hq=>?_)⟩;have he:=hq.1;subst he;simp only[AExit.toExit,Exit.inBlock,hid,D6];exact⟨trivial,hq.2⟩
    |false=>
     rw[hid]at h1;have AW:RY≠id:=λe=>by rw[e,Of]at hid;cases hid
     refine⟨.exit RY,σ1,h1,λi ok0 base pl a w hr=>wp_block (Fm (HL i ok0 base pl a w hr) λe a' w' hq=>?_)⟩;have he:=hq.1;subst he;simp only[AExit.toExit,Exit.inBlock,AW,CF];exact⟨trivial,hq.2⟩
 |loop a iha=>
  intro Λ p σ k hΛ h;unfold exec at h;split at h
  ·rename_i cut hc;exact hΛ p cut hc _ (LN p _) σ k r h
  ·simp only at h
   generalize X.N=i at h
   have key:∀(i:Nat)(σ:St),Yr (λσ' k'=>exec X n (λ_=>none) 1 a σ' k') i σ k=some r->∃e' σ',k e' σ'=some r/\∀(j:ι)(ok0:OK0 P)(base:Nat)(pl:Nat->Option Pl)(a':Act)(w:World),Rel n ok0 base pl (look σ.tm) ((fr j).O (look σ.bl)) a' w->
     Code.rounds P a (λe a' w'=>e=e'.toExit/\∃Ak,Rel n ok0 base Ak (look σ'.tm) ((fr j).O (look σ'.bl)) a' w'/\R.rel pl ((fr j).O (look σ.bl)) w Ak ((fr j).O (look σ'.bl)) w') i a' w:=by
    intro i
    induction i with
    |zero=>intro σ h;cases h
    |succ i ih=>
     intro σ h;simp only[Yr]at h;obtain⟨e1,σ1,h1,HL⟩:=iha (Λ:=λ_=>none) (λ_ _ h=>by cases h) h;cases e1 with
     |normal=>
      simp only at h1;obtain⟨e2,σ2,h2,Xg⟩:=ih σ1 h1;refine⟨e2,σ2,h2,λj ok0 base pl a' w hr=>?_⟩;rw[rounds_succ];refine Fm (HL j ok0 base pl a' w hr) λe a1 w1 ⟨he,pl1,M1,B5⟩=>?_;subst he
      have GW:∀(i:Nat){Q Q':Exit->Act->World->Prop}{a1:Act}{w:World},(∀e a w,Q e a w->Q' e a w)->Code.rounds P a Q i a1 w->Code.rounds P a Q' i a1 w:=by
       intro i
       induction i with
       |zero=>intro _ _ _ _ _ h;exact h
       |succ i ihj=>
        intro Q Q' a1 w hq h;rw[rounds_succ]at h⊢;refine Fm h λe a w h=>?_;cases e with
        |normal=>exact ihj hq h
        |_=>exact hq _ _ _ h
      exact GW i (λe a2 w2 ⟨q1,pl2,q2,q3⟩=>⟨q1,pl2,q2,R.trans B5 q3⟩) (Xg j ok0 base pl1 a1 w1 M1)
     |exit id=>refine⟨.exit id,σ1,h1,λj ok0 base pl a' w hr=>?_⟩;rw[rounds_succ];refine Fm (HL j ok0 base pl a' w hr) λe a1 w1 hq=>?_;have he:=hq.1;subst he;exact hq
     |ret=>refine⟨.ret,σ1,h1,λj ok0 base pl a' w hr=>?_⟩;rw[rounds_succ];refine Fm (HL j ok0 base pl a' w hr) λe a1 w1 hq=>?_;have he:=hq.1;subst he;exact hq
   obtain⟨e',σ',h1,h2⟩:=key i σ h;exact⟨e',σ',h1,λj ok0 base pl a' w hr=>wp_loop_rounds i (h2 j ok0 base pl a' w hr)⟩
 |_=>
  intro Λ p σ k hΛ h;unfold exec at h;split at h
  ·rename_i cut hc;exact hΛ p cut hc _ (LN p _) σ k r h
  ·cases h
theorem nD(hm:P.follows .mixedOrders=true){m:Nat}{X:Ctx}(hT:TOk P X.T)(hΓ:ΓOk P X.Γ){Λ:Nat->Option Cut}{c:Code}{p:Nat}{σ:St}{k:Kx β}(h:∀q cut,Λ q=some cut->∀c'∈find q p c,QC P n m c' cut)(hk:exec X n Λ p c σ k=some r):Sim P n m c σ k r:=by
 obtain⟨e',σ',h1,h2⟩:=n9 (R:=AqB m) (fr:=λ_:Unit=>fr0) hm (λ_ _ _ _ _ _ _=>trivial) hT hΓ (λq cut hq c' Gb=>λσ k r hr=>by obtain⟨e',σ',h1,h2⟩:=h q cut hq c' Gb σ k r hr;exact⟨e',σ',h1,λ_=>h2⟩) hk
 exact⟨e',σ',h1,h2 ()⟩
end
end
end Go.Lift
namespace Go.Lift
noncomputable section
open Go.RowKit
structure View where
 m:Nat
 slots:List Nat
 params:List (Bool×List CT)
 ins:List BT
abbrev View.den(v:View):Type:=ST.dens v.params×BT.dens v.ins
def idsB(bl:Nat->Option Blk)(nx:Nat):List BT->Nat->List (Nat×Nat)->Option (List Nat)
 |[],_,_=>some []
 |t::r,j,ps=>
  match look ps j with
  |some i=>
   match t,bl i with
   |.cells _ l,some (.cells _ cs)=>
    match idsB bl nx r (j+1) (ps++J2 l cs)with
    |some is=>some (i::is)
    |none=>none
   |_,_=>
    match idsB bl nx r (j+1) ps with
    |some is=>some (i::is)
    |none=>none
  |none=>
   match idsB bl (nx+1) r (j+1) ps with
   |some is=>some (nx::is)
   |none=>none
def fEq(ids:List Nat):List (List UInt8×(FuncId×Nat))->List (List UInt8×(FuncId×Nat))->Bool
 |[],[]=>true
 |x::l,y::m=>(decide (x.1=y.1)&&(Nat.beq x.2.1 y.2.1&&(match ids[x.2.2]? with|some i=>Nat.beq i y.2.2|none=>false)))&&fEq ids l m
 |_,_=>false
def Dd(bl:Nat->Option Blk)(ids:List Nat):(l:List BT)->List Nat->Option (BT.dens l)
 |[],[]=>some ()
 |.cells t l::r,i::is=>
  match bl i with
  |some (.cells t' cs)=>
   bif Nat.beq t t' then
    match Bx bl ids l cs with
    |none=>none
    |some y=>
     match Dd bl ids r is with
     |none=>none
     |some z=>some (y,z)
   else none
  |_=>none
 |.row t e::r,i::is=>
  match bl i with
  |some (.row t' e' _ l)=>
   bif Nat.beq t t' then
    if h:e'=e then
     match Dd bl ids r is with
     |none=>none
     |some z=>some ((h▸l:List e.den),z)
    else none
   else none
  |none=>
   match Dd bl ids r is with
   |none=>none
   |some z=>some (([]:List e.den),z)
  |_=>none
 |.map t k v vg::r,i::is=>
  match bl i with
  |some (.map t' k' v' Sr l)=>
   bif Nat.beq t t'&&(vg==Sr)then
    if h:k'=k then
     if h2:v'=v then
      match Dd bl ids r is with
      |none=>none
      |some z=>some ((h▸(h2▸l:List (k'.den×v.den)):List (k.den×v.den)),z)
     else none
    else none
   else none
  |_=>none
 |.mat t et e::r,i::is=>
  match bl i with
  |some (.mat t' Ws e' _ _ none l)=>
   bif Nat.beq t t'&&Nat.beq et Ws then
    if h:e'=e then
     match Dd bl ids r is with
     |none=>none
     |some z=>some ((h▸l:List (List e.den)),z)
    else none
   else none
  |none=>
   match Dd bl ids r is with
   |none=>none
   |some z=>some (([]:List (List e.den)),z)
  |_=>none
 |.tree t e::r,i::is=>
  match bl i with
  |some (.tree t' e' _ _ none l)=>
   bif Nat.beq t t' then
    if h:e'=e then
     match Dd bl ids r is with
     |none=>none
     |some z=>some ((h▸l:List e.ty.den),z)
    else none
   else none
  |none=>
   match Dd bl ids r is with
   |none=>none
   |some z=>some (([]:List e.ty.den),z)
  |_=>none
 |.fmap t l::r,i::is=>
  match bl i with
  |some (.fmap t' l')=>bif Nat.beq t t'&&fEq ids l l' then Dd bl ids r is else none
  |_=>none
 |_,_=>none
def FF:List CT->List C->List Nat
 |.data τ::l,cs=>CA (cs.take τ.size)++FF l (cs.drop τ.size)
 |_::l,_::cs=>FF l cs
 |_,_=>[]
def FU:List (Bool×List CT)->List V->List Nat
 |t::l,v::vs=>
  match v.cells with
  |some cs=>FF t.2 cs++FU l vs
  |none=>FU l vs
 |_,_=>[]
def ES(bl:Nat->Option Blk):List BT->List Nat->List Nat
 |.cells _ l::r,i::is=>
  match bl i with
  |some (.cells _ cs)=>FF l cs++ES bl r is
  |_=>ES bl r is
 |_::r,_::is=>ES bl r is
 |_,_=>[]
def QD(tm:List (Nat×V)):List Nat->Option (List V)
 |[]=>some []
 |t::r=>
  match look tm t with
  |some v=>
   match QD tm r with
   |some vs=>some (v::vs)
   |none=>none
  |none=>none
def AqE(m:Nat):List (Nat×Nat):=(AY 0 m).zip (AY 0 m)
def Ox:List Nat->List Nat->Bool
 |[],[]=>true
 |x::r,y::s=>Nat.beq x y&&Ox r s
 |_,_=>false
def View.read(v:View)(σ:St):Option v.den:=
 match QD σ.tm v.slots with
 |none=>none
 |some vs=>
  match idsB (look σ.bl) σ.nx v.ins 0 (AqE v.m++SB v.params vs)with
  |none=>none
  |some ids=>
   match Hg (look σ.bl) ids v.params vs with
   |none=>none
   |some x=>
    match Dd (look σ.bl) ids v.ins ids with
    |none=>none
    |some y=>
     bif Nat.ble v.m v.ins.length&&(Ox (ids.take v.m) (AY 0 v.m)&&(Jy ids&&!meet (FU v.params vs++ES (look σ.bl) v.ins ids) ids))then some (x,y)else none
def mkT(ids:List Nat):List Nat->(l:List (Bool×List CT))->ST.dens l->List (Nat×V)
 |s::ss,t::l,x=>(s,V.mk t.1 (mkC ids t.2 x.1))::mkT ids ss l x.2
 |_,_,_=>[]
def Tk:Nat->List Blk->List (Nat×Blk)
 |_,[]=>[]
 |i,b::r=>(i,b)::Tk (i+1) r
def View.mk'(v:View)(d:v.den):St:=
 ⟨mkT (AY 0 v.ins.length) v.slots v.params d.1,Tk 0 (mkB (AY 0 v.ins.length) v.ins d.2),v.ins.length⟩
theorem Adv:∀(l:List Blk)(s i:Nat),look (Tk s l) i=if s<=i then l[i-s]? else none
 |[],s,i=>by simp[Tk,Fc,EQ]
 |b::l,s,i=>by
  simp only[Tk,Fc,EQ];by_cases h:s=i
  ·subst h;simp
  ·rw[Io (λe=>h e.symm),Cd,Adv]
   by_cases h2:s<=i
   ·have h3:s+1<=i:=by omega
    have h4:i-s=(i-(s+1))+1:=by omega
    simp[h2,h3,h4]
   ·have h3:¬s+1<=i:=by omega
    simp[h2,h3]
theorem Oy(v:View)(d:v.den):look (v.mk' d).bl=fnBl (mkB (AY 0 v.ins.length) v.ins d.2):=by funext i;simp[View.mk',Adv,fnBl]
theorem nE{bl:Nat->Option Blk}:∀{τ:Ty}{cs:List C}{x:τ.den}{r:List C},pack bl τ cs=some (x,r)->∃ds,cs=ds++r/\ds.length=τ.size/\pack bl τ ds=some (x,[])
 |.bool,cs,x,r,h=>by
  cases cs with
  |nil=>simp[pack]at h
  |cons c cs=>
   cases c<;>simp only[pack]at h<;>try(cases h;done)
   simp only[Ag,BQ]at h;obtain⟨h1,h2⟩:=h;subst h1 h2;exact⟨[_],rfl,rfl,rfl⟩
 |.int k,cs,x,r,h=>by
  cases cs with
  |nil=>simp[pack]at h
  |cons c cs=>
   cases c<;>simp only[pack]at h<;>try(cases h;done)
   split at h
   ·rename_i hk
    subst hk;simp only[Ag,BQ]at h;obtain⟨h1,h2⟩:=h;subst h1 h2;exact⟨[_],rfl,rfl,by simp[pack]⟩
   ·cases h
 |.err,cs,x,r,h=>by
  cases cs with
  |nil=>simp[pack]at h
  |cons c cs=>
   cases c<;>simp only[pack]at h<;>try(cases h;done)
   simp only[Ag,BQ]at h;obtain⟨h1,h2⟩:=h;subst h1 h2;exact⟨[_],rfl,rfl,rfl⟩
 |.str,cs,x,r,h=>by
  cases cs with
  |nil=>simp[pack]at h
  |cons c cs=>
   cases c<;>simp only[pack]at h<;>try(cases h;done)
   simp only[Ag,BQ]at h;obtain⟨h1,h2⟩:=h;subst h1 h2;exact⟨[_],rfl,rfl,rfl⟩
 |.unit,cs,x,r,h=>by simp only[pack,Ag,BQ]at h;obtain⟨_,h2⟩:=h;subst h2;exact⟨[],rfl,rfl,rfl⟩
 |.prod a b,cs,x,r,h=>by
  simp only[pack]at h;split at h
  ·cases h
  ·rename_i x1 r1 h1
   split at h
   ·cases h
   ·rename_i x2 r2 h2
    simp only[Ag,BQ]at h;obtain⟨e1,e2⟩:=h;subst e1 e2;obtain⟨ds,e3,e4,e5⟩:=nE h1;obtain⟨es,e6,e7,e8⟩:=nE h2;refine⟨ds++es,by rw[e3,e6,Ci],by simp[e4,e7,Ty.size],?_⟩;have:=pack_append e5 (s:=es);simp only[pack,this,Fl,e8]
 |.slice e,cs,x,r,h=>by
  cases cs with
  |nil=>simp[pack]at h
  |cons c cs=>
   rcases Classical.em (∃b ver p,c=.trow b ver p)with⟨b,ver,p,rfl⟩|P9
   ·cases p with
    |cons _ _=>simp[pack]at h
    |nil=>
     simp only[pack]at h;split at h
     ·cases h
     ·rename_i l hl
      simp only[Ag,BQ]at h;obtain⟨h1,h2⟩:=h;subst h1 h2;exact⟨[_],rfl,rfl,by simp[pack,hl]⟩
   cases c<;>first|exact absurd ⟨_,_,_,rfl⟩ P9|skip
   all_goals simp only[pack]at h
   all_goals try(cases h;done)
   ·split at h
    ·rename_i e' l he
     subst he;simp only[Ag,BQ]at h;obtain⟨h1,h2⟩:=h;subst h1 h2;exact⟨[_],rfl,rfl,by simp[pack]⟩
    ·cases h
   ·simp only[Ag,BQ]at h
    obtain⟨h1,h2⟩:=h;subst h1 h2;exact⟨[_],rfl,rfl,rfl⟩
   ·split at h
    ·cases h
    ·rename_i l hl
     simp only[Ag,BQ]at h;obtain⟨h1,h2⟩:=h;subst h1 h2;exact⟨[_],rfl,rfl,by simp[pack,hl]⟩
   ·split at h
    ·cases h
    ·rename_i l hl
     simp only[Ag,BQ]at h;obtain⟨h1,h2⟩:=h;subst h1 h2;exact⟨[_],rfl,rfl,by simp[pack,hl]⟩
 where
 pack_append {bl:Nat->Option Blk}:∀{τ:Ty}{cs:List C}{x:τ.den}{r s:List C},pack bl τ cs=some (x,r)->pack bl τ (cs++s)=some (x,r++s)
 |.bool,cs,x,r,s,h=>by
  cases cs with
  |nil=>simp[pack]at h
  |cons c cs=>cases c<;>simp only[pack,Fz]at h⊢<;>first|(cases h;done)|(simp_all;done)
 |.int k,cs,x,r,s,h=>by
  cases cs with
  |nil=>simp[pack]at h
  |cons c cs=>
   cases c<;>simp only[pack,Fz]at h⊢<;>try(cases h;done)
   split at h
   ·rename_i hk;subst hk;simp_all
   ·cases h
 |.err,cs,x,r,s,h=>by
  cases cs with
  |nil=>simp[pack]at h
  |cons c cs=>cases c<;>simp only[pack,Fz]at h⊢<;>first|(cases h;done)|(simp_all;done)
 |.str,cs,x,r,s,h=>by
  cases cs with
  |nil=>simp[pack]at h
  |cons c cs=>cases c<;>simp only[pack,Fz]at h⊢<;>first|(cases h;done)|(simp_all;done)
 |.unit,cs,x,r,s,h=>by simp only[pack]at h⊢;simp_all
 |.prod a b,cs,x,r,s,h=>by
  simp only[pack]at h⊢;split at h
  ·cases h
  ·rename_i x1 r1 h1
   split at h
   ·cases h
   ·rename_i x2 r2 h2
    rw[pack_append h1];simp only;rw[pack_append h2]
    simp_all
 |.slice e,cs,x,r,s,h=>by
  cases cs with
  |nil=>simp[pack]at h
  |cons c cs=>
   rcases Classical.em (∃b ver p,c=.trow b ver p)with⟨b,ver,p,rfl⟩|P9
   ·cases p with
    |cons _ _=>simp[pack]at h
    |nil=>
     simp only[pack,Fz]at h⊢;split at h
     ·cases h
     ·simp_all
   cases c<;>first|exact absurd ⟨_,_,_,rfl⟩ P9|skip
   all_goals simp only[pack,Fz]at h⊢
   all_goals try(cases h;done)
   ·split at h
    ·rename_i e' l he;subst he;simp_all
    ·cases h
   ·simp_all
   ·split at h
    ·cases h
    ·simp_all
   ·split at h
    ·cases h
    ·simp_all
theorem G4{E E':Env}{ids Bu:List Nat}(hb:Ek E)(hw:E'.w=E.w)(hr:Ren E E' ids Bu):∀{l:List CT}{cs:List C}{vs:List Value}{y:CT.dens l},Rows E E.bl E'.ok (FF l cs)->CReps E cs vs->Bx E.bl ids l cs=some y->CReps E' (mkC Bu l y) vs
 |[],cs,vs,y,AO,h,hp=>by
  cases cs with
  |nil=>exact h
  |cons c cs=>simp[Bx]at hp
 |.data τ::l,cs,vs,y,AO,h,hp=>by
  simp only[Bx]at hp;split at hp
  ·cases hp
  ·rename_i x r hx
   split at hp
   ·cases hp
   ·rename_i y' hy
    simp only[Ag]at hp;subst hp;obtain⟨ds,e1,e2,e3⟩:=nE hx;subst e1
    have hd:FF (.data τ::l) (ds++r)=CA ds++FF l r:=by simp only[FF,<-e2,Yc,List.drop_left]
    rw[hd]at AO;obtain⟨us,ws,e,h1,h2⟩:=CReps.split h;subst e;obtain⟨us1,us2,e,d,c,_⟩:=On hb (AO.sub λb DB=>D0 _ DB) h1 e3;simp only[CReps]at c;subst c;rw[F3]at e;subst e;exact CReps.append (HS (by rw[hw];exact d)) (G4 hb hw hr (AO.sub λb DB=>DJ _ DB) h2 hy)
 |.ptr b o::l,cs,vs,y,AO,h,hp=>by
  cases cs with
  |nil=>simp[Bx]at hp
  |cons c cs=>
   have Dr:Rows E E.bl E'.ok (FF l cs):=AO;cases c<;>simp only[Bx]at hp<;>try(cases hp;done)
   rename_i b' o';split at hp
   ·rename_i i hi
    cases hc:(Nat.beq i b'&&Nat.beq o o')with
    |false=>rw[hc]at hp;cases hp
    |true=>simp only[hc,Ar]at hp;obtain⟨h1,h2⟩:=andB hc;have h1:=Az h1;have h2:=Az h2;subst h1 h2;obtain⟨v,Av,e,⟨g,hg,hv⟩,ht⟩:=h;exact⟨v,Av,e,⟨g,hr.cells b i g hi hg,hv⟩,G4 hb hw hr Dr ht hp⟩
   ·cases hp
 |.rowh b::l,cs,vs,y,AO,h,hp=>by
  cases cs with
  |nil=>simp[Bx]at hp
  |cons c cs=>
   have Dr:Rows E E.bl E'.ok (FF l cs):=AO;cases c<;>simp only[Bx]at hp<;>try(cases hp;done)
   ·split at hp
    ·rename_i i hi
     split at hp
     ·rename_i hn
      obtain⟨v,Av,e,hv,ht⟩:=h;simp only[CRep]at hv;subst hv;exact⟨_,Av,e,⟨rfl,_,_,hr.nil b i hi hn,λ_ _ _ _ _=>⟨Ej _,λ_=>rfl⟩⟩,G4 hb hw hr Dr ht hp⟩
     ·cases hp
    ·cases hp
   ·rename_i b' ver
    split at hp
    ·rename_i i hi
     cases hc:Nat.beq i b' with
     |false=>rw[hc]at hp;cases hp
     |true=>
      have:=Az hc;subst this;simp only[hc,Ar]at hp;split at hp
      ·rename_i t e ver' l' An
       cases Cw:Nat.beq ver ver' with
       |false=>rw[Cw]at hp;cases hp
       |true=>have:=Az Cw;subst this;simp only[Cw,Ar]at hp;obtain⟨v,Av,ev,⟨h1,sv,Ac,Aw,Bt⟩,ht⟩:=h;have D7:=(Bt t e ver l' An).2 rfl;exact⟨v,Av,ev,⟨h1,sv,Ac,hr.row b i sv Ac t e ver l' hi An Aw,λ_ _ _ _ _=>⟨Ej _,λ_=>D7⟩⟩,G4 hb hw hr Dr ht hp⟩
      ·cases hp
    ·cases hp
 |.fn f BN::l,cs,vs,y,AO,h,hp=>by
  cases cs with
  |nil=>simp[Bx]at hp
  |cons c cs=>
   have Dr:Rows E E.bl E'.ok (FF l cs):=AO;cases c<;>simp only[Bx]at hp<;>try(cases hp;done)
   rename_i f' HG;cases hc:(Nat.beq f f'&&decide (BN.map (ids[·]?)=HG.map some))with
   |false=>rw[hc]at hp;cases hp
   |true=>simp only[hc,Ar]at hp;obtain⟨h1,h2⟩:=andB hc;have h1:=Az h1;have h2:=Bv h2;subst h1;obtain⟨v,Av,e,⟨gs,hg,hv⟩,ht⟩:=h;refine⟨v,Av,e,⟨gs,?_,hv⟩,G4 hb hw hr Dr ht hp⟩;exact mJ hr BN HG gs h2 hg
 |.bfnh f b::l,cs,vs,y,AO,h,hp=>by
  cases cs with
  |nil=>simp[Bx]at hp
  |cons c cs=>
   have Dr:Rows E E.bl E'.ok (FF l cs):=AO;cases c<;>simp only[Bx]at hp<;>try(cases hp;done)
   rename_i f' b';split at hp
   ·rename_i i hi
    cases hc:(Nat.beq f f'&&Nat.beq i b')with
    |false=>rw[hc]at hp;cases hp
    |true=>simp only[hc,Ar]at hp;obtain⟨h1,h2⟩:=andB hc;have h1:=Az h1;have h2:=Az h2;subst h1;subst h2;obtain⟨v,Av,e,⟨g,hg,hv⟩,ht⟩:=h;exact⟨v,Av,e,⟨g,hr.cells b i g hi hg,hv⟩,G4 hb hw hr Dr ht hp⟩
   ·cases hp
 |.bself b::l,cs,vs,y,AO,h,hp=>by
  cases cs with
  |nil=>simp[Bx]at hp
  |cons c cs=>
   have Dr:Rows E E.bl E'.ok (FF l cs):=AO;cases c<;>simp only[Bx]at hp<;>try(cases hp;done)
   ·obtain⟨v,Av,e,hv,ht⟩:=h
    exact⟨v,Av,e,.inl hv,G4 hb hw hr Dr ht hp⟩
   ·rename_i b'
    split at hp
    ·rename_i i hi
     cases hc:Nat.beq i b' with
     |false=>rw[hc]at hp;cases hp
     |true=>
      simp only[hc,Ar]at hp;have h1:=Az hc;subst h1;obtain⟨v,Av,e,hg,ht⟩:=h;refine⟨v,Av,e,?_,G4 hb hw hr Dr ht hp⟩;rcases hg with hg|⟨g,hg,hv⟩
      ·exact .inl hg
      ·exact .inr ⟨g,hr.cells b i g hi hg,hv⟩
    ·cases hp
 |.maph b::l,cs,vs,y,AO,h,hp=>by
  cases cs with
  |nil=>simp[Bx]at hp
  |cons c cs=>
   have Dr:Rows E E.bl E'.ok (FF l cs):=AO;cases c<;>simp only[Bx]at hp<;>try(cases hp;done)
   rename_i b';split at hp
   ·rename_i i hi
    cases hc:Nat.beq i b' with
    |false=>rw[hc]at hp;cases hp
    |true=>simp only[hc,Ar]at hp;have h1:=Az hc;subst h1;obtain⟨v,Av,e,⟨g,hg,hv⟩,ht⟩:=h;exact⟨v,Av,e,⟨g,hr.cells b i g hi hg,hv⟩,G4 hb hw hr Dr ht hp⟩
   ·cases hp
 |.math b::l,cs,vs,y,AO,h,hp=>by
  cases cs with
  |nil=>simp[Bx]at hp
  |cons c cs=>
   have Dr:Rows E E.bl E'.ok (FF l cs):=AO;cases c<;>simp only[Bx]at hp<;>try(cases hp;done)
   ·split at hp
    ·rename_i i hi
     split at hp
     ·rename_i hn
      obtain⟨v,Av,e,hv,ht⟩:=h;simp only[CRep]at hv;subst hv;exact⟨_,Av,e,⟨rfl,_,_,hr.nil b i hi hn,λ_ _ _ _ _ _ _ _=>⟨Ej _,λ_=>rfl⟩⟩,G4 hb hw hr Dr ht hp⟩
     ·cases hp
    ·cases hp
   ·rename_i b' ver
    split at hp
    ·rename_i i hi
     cases hc:Nat.beq i b' with
     |false=>rw[hc]at hp;cases hp
     |true=>
      have:=Az hc;subst this;simp only[hc,Ar]at hp;split at hp
      ·rename_i t et e ver' Ah l' An
       cases Cw:Nat.beq ver ver' with
       |false=>rw[Cw]at hp;cases hp
       |true=>have:=Az Cw;subst this;simp only[Cw,Ar]at hp;obtain⟨v,Av,ev,⟨h1,sv,Ac,Aw,Bt⟩,ht⟩:=h;have D7:=(Bt _ _ _ _ _ _ _ An).2 rfl;exact⟨v,Av,ev,⟨h1,sv,Ac,hr.mat b i sv Ac _ _ _ _ _ _ _ hi An Aw,λ_ _ _ _ _ _ _ _=>⟨Ej _,λ_=>D7⟩⟩,G4 hb hw hr Dr ht hp⟩
      ·cases hp
    ·cases hp
 |.tptrh b ks o::l,cs,vs,y,AO,h,hp=>by
  cases cs with
  |nil=>simp[Bx]at hp
  |cons c cs=>
   have Dr:Rows E E.bl E'.ok (FF l cs):=AO;cases c<;>simp only[Bx]at hp<;>try(cases hp;done)
   rename_i b' ver p ix o';split at hp
   ·rename_i i hi
    cases hc:(Nat.beq i b'&&Nat.beq o o')with
    |false=>rw[hc]at hp;cases hp
    |true=>
     rw[hc,Ar]at hp;obtain⟨h1,h2⟩:=andB hc;have h1:=Az h1;have h2:=Az h2;subst h1 h2;split at hp
     ·rename_i t e ver' B9 l' An
      cases Cw:Nat.beq ver (tv ver' B9 p)with
      |false=>rw[Cw]at hp;cases hp
      |true=>
       have:=Az Cw;subst this;rw[Cw,Ar]at hp;split at hp
       ·rename_i x hx
        split at hp
        ·rename_i y' hy
         simp only[Ag]at hp;subst hp;obtain⟨w1,w2⟩:=mK hx;obtain⟨v,Av,ev,⟨sv,Ac,ad,Aw,Abc,Bt⟩,ht⟩:=h;refine⟨v,Av,ev,⟨sv,Ac,ad,hr.tree b i sv Ac _ _ _ _ _ hi An Aw,Abc,λt2 e2 IJ RZ RJ l2 Aj=>?_⟩,G4 hb hw hr Dr ht hy⟩;have:=hr.treeB b i _ _ _ _ _ _ _ _ _ _ _ hi An Aj;injection this with q1 q2 q3 q4 q5 q6;subst q1 q2 q3 q4 q5;simp only[IN]at q6;subst q6;rw[w1,w2];exact⟨Ej _,λ_ _=>(Bt _ _ _ _ _ _ An).2 rfl λ_ h=>by cases h⟩
        ·cases hp
       ·cases hp
     ·cases hp
   ·cases hp
 |.trowh b::l,cs,vs,y,AO,h,hp=>by
  cases cs with
  |nil=>simp[Bx]at hp
  |cons c cs=>
   have Dr:Rows E E.bl E'.ok (FF l cs):=AO;rcases Classical.em (∃b ver p,c=.trow b ver p)with⟨b',ver,p,rfl⟩|P9
   ·cases p with
    |cons _ _=>simp[Bx]at hp
    |nil=>
     simp only[Bx]at hp;split at hp
     ·rename_i i hi
      cases hc:Nat.beq i b' with
      |false=>rw[hc]at hp;cases hp
      |true=>
       have:=Az hc;subst this;simp only[hc,Ar]at hp;split at hp
       ·rename_i t e ver' Ah l' An
        cases Cw:Nat.beq ver ver' with
        |false=>rw[Cw]at hp;cases hp
        |true=>have:=Az Cw;subst this;simp only[Cw,Ar]at hp;obtain⟨v,Av,ev,hv,ht⟩:=h;obtain⟨Ac,Aw,_⟩:=Yz hb An hv;exact⟨v,Av,ev,⟨hv.1,v,Ac,hr.tree b i v Ac _ _ _ _ _ hi An Aw,λ_ _ _ _ _ _ _=>⟨Ej _,λ_ _=>⟨_,rfl,rfl⟩⟩⟩,G4 hb hw hr Dr ht hp⟩
       ·cases hp
     ·cases hp
   cases c<;>first|exact absurd ⟨_,_,_,rfl⟩ P9|skip
   all_goals simp only[Bx]at hp
   all_goals try(cases hp;done)
   split at hp
   ·rename_i i hi
    split at hp
    ·rename_i hn
     obtain⟨v,Av,e,hv,ht⟩:=h;simp only[CRep]at hv;subst hv;exact⟨_,Av,e,⟨rfl,_,_,hr.nil b i hi hn,λ_ _ _ _ _ _ _=>⟨Ej _,λ_ _=>⟨_,rfl,rfl⟩⟩⟩,G4 hb hw hr Dr ht hp⟩
    ·cases hp
   ·cases hp
 |.nilc::l,cs,vs,y,AO,h,hp=>by
  cases cs with
  |nil=>simp[Bx]at hp
  |cons c cs=>cases c<;>simp[Bx]at hp
 |.lsome _::l,cs,vs,y,AO,h,hp=>by
  cases cs with
  |nil=>simp[Bx]at hp
  |cons c cs=>cases c<;>simp[Bx]at hp
 |.nils::l,cs,vs,y,AO,h,hp=>by
  cases cs with
  |nil=>simp[Bx]at hp
  |cons c cs=>
   have Dr:Rows E E.bl E'.ok (FF l cs):=AO;cases c<;>simp only[Bx]at hp<;>first|(cases hp;done)|skip
   obtain⟨v,Av,e,hv,ht⟩:=h;exact⟨v,Av,e,hv,G4 hb hw hr Dr ht hp⟩
 |.junk::l,cs,vs,y,AO,h,hp=>by
  cases cs with
  |nil=>simp[Bx]at hp
  |cons c cs=>have Dr:Rows E E.bl E'.ok (FF l cs):=AO;simp only[Bx]at hp;obtain⟨v,Av,e,hv,ht⟩:=h;exact⟨v,Av,e,CRep.oneCell hv,G4 hb hw hr Dr ht hp⟩
theorem nF{E E':Env}{ids Bu:List Nat}(hb:Ek E)(hw:E'.w=E.w)(hr:Ren E E' ids Bu):∀{l:List (Bool×List CT)}{vs:List V}{us:List Value}{y:ST.dens l},Rows E E.bl E'.ok (FU l vs)->VReps E vs us->Hg E.bl ids l vs=some y->TReps E' (mkS Bu l y) us
 |[],vs,us,y,AO,h,hp=>by
  cases vs with
  |nil=>exact h
  |cons v vs=>simp[Hg]at hp
 |t::l,vs,us,y,AO,h,hp=>by
  cases vs with
  |nil=>simp[Hg]at hp
  |cons v vs=>
   obtain⟨u,CL,e,hv,ht⟩:=h;obtain⟨agg,ct⟩:=t;cases agg with
   |false=>
    cases v<;>simp only[Hg]at hp<;>try(cases hp;done)
    rename_i x;split at hp
    ·cases hp
    ·rename_i y1 h1
     split at hp
     ·cases hp
     ·rename_i z h2
      simp only[Ag]at hp;subst hp;have FP:FU ((false,ct)::l) (V.c x::vs)=FF ct [x]++FU l vs:=rfl;rw[FP]at AO;refine⟨u,CL,e,⟨[u],?_,by simp⟩,nF hb hw hr (AO.sub λb DB=>DJ _ DB) ht h2⟩;exact G4 hb hw hr (AO.sub λb DB=>D0 _ DB) (show CReps E [x] [u]from⟨u,[],rfl,hv,rfl⟩) h1
   |true=>
    cases v<;>simp only[Hg]at hp<;>try(cases hp;done)
    rename_i cs;split at hp
    ·cases hp
    ·rename_i y1 h1
     split at hp
     ·cases hp
     ·rename_i z h2
      simp only[Ag]at hp;subst hp;have FP:FU ((true,ct)::l) (V.agg cs::vs)=FF ct cs++FU l vs:=rfl;rw[FP]at AO;obtain⟨xs,Af,hu⟩:=hv;refine⟨u,CL,e,⟨xs,?_,hu⟩,nF hb hw hr (AO.sub λb DB=>DJ _ DB) ht h2⟩;exact G4 hb hw hr (AO.sub λb DB=>D0 _ DB) Af h1
def plOf(E:Env)(i:Nat):Pl:=
 match E.bl i with
 |some _=>(E.pl i).getD (.row (.slice none 0 0) [])
 |none=>.row (.slice none 0 0) []
theorem KP{E E':Env}{ids Bu:List Nat}(hb:Ek E)(hw:E'.w=E.w)(Cm:E'.base=E.base)(hr:Ren E E' ids Bu)(GW:∀g,E.ok g->E'.ok g):∀{l:List BT}{is:List Nat}{y:BT.dens l},Rows E E.bl E'.ok (ES E.bl l is)->Dd E.bl ids l is=some y->is.length=l.length/\∀(j i:Nat),is[j]?=some i->∃B,(mkB Bu l y)[j]?=some B/\BRep E' B (plOf E i)/\(∀B0,E.bl i=some B0->B0.live=true)
 |[],is,y,AO,hp=>by
  cases is with
  |nil=>exact⟨rfl,λj i h=>by simp at h⟩
  |cons i is=>simp[Dd]at hp
 |.row t e::r,is,y,AO,hp=>by
  cases is with
  |nil=>simp[Dd]at hp
  |cons i is=>
   have Dr:Rows E E.bl E'.ok (ES E.bl r is):=AO;simp only[Dd]at hp;split at hp
   ·rename_i t' e' ver l An
    cases ht:Nat.beq t t' with
    |false=>rw[ht]at hp;cases hp
    |true=>
     have:=Az ht;subst this;simp only[ht,Ar]at hp;split at hp
     ·rename_i he
      subst he;split at hp
      ·cases hp
      ·rename_i z h2
       simp only[Ag]at hp;subst hp;obtain⟨hl,DZ⟩:=KP hb hw Cm hr GW Dr h2;refine⟨by simp[hl],λj k hj=>?_⟩;cases j with
       |zero=>
        simp only[DI,Ag]at hj;subst hj;refine⟨_,rfl,?_,λB0 h0=>by rw[An]at h0;injection h0 with h0;subst h0;rfl⟩;obtain⟨p,Di,hB⟩:=hb i _ An;have Ba:plOf E i=p:=by simp[plOf,An,Di]
        rw[Ba];cases p with
        |cells _=>exact hB.elim
        |row sv Ac=>obtain⟨h0,xs,h3,h4⟩:=hB;refine⟨h0,xs,h3.mono λx u hu=>?_,by rw[hw,Cm];exact h4⟩;rw[hw];exact hu.mono λg hg _=>⟨GW g hg,rfl⟩
       |succ j=>obtain⟨B,h3,h4⟩:=DZ j k (by simpa using hj);exact⟨B,by simpa [mkB]using h3,h4⟩
     ·cases hp
   ·rename_i An
    split at hp
    ·cases hp
    ·rename_i z h2
     simp only[Ag]at hp;subst hp;obtain⟨hl,DZ⟩:=KP hb hw Cm hr GW Dr h2;refine⟨by simp[hl],λj k hj=>?_⟩;cases j with
     |zero=>
      simp only[DI,Ag]at hj;subst hj;refine⟨_,rfl,?_,λB0 h0=>by rw[An]at h0;cases h0⟩;have Ba:plOf E i=.row (.slice none 0 0) []:=by simp[plOf,An]
      rw[Ba];exact⟨rfl,[],rfl,by simp,.inl ⟨rfl,rfl⟩⟩
     |succ j=>obtain⟨B,h3,h4⟩:=DZ j k (by simpa using hj);exact⟨B,by simpa [mkB]using h3,h4⟩
   ·cases hp
 |.mat t et e::r,is,y,AO,hp=>by
  cases is with
  |nil=>simp[Dd]at hp
  |cons i is=>
   have Dr:Rows E E.bl E'.ok (ES E.bl r is):=AO;simp only[Dd]at hp;split at hp
   ·rename_i t' Ws e' ver Ah l An
    cases ht:(Nat.beq t t'&&Nat.beq et Ws)with
    |false=>rw[ht]at hp;cases hp
    |true=>
     obtain⟨Xa,Xb⟩:=andB ht;have:=Az Xa;subst this;have:=Az Xb;subst this;simp only[ht,Ar]at hp;split at hp
     ·rename_i he
      subst he;split at hp
      ·cases hp
      ·rename_i z h2
       simp only[Ag]at hp;subst hp;obtain⟨hl,DZ⟩:=KP hb hw Cm hr GW Dr h2;refine⟨by simp[hl],λj k hj=>?_⟩;cases j with
       |zero=>
        simp only[DI,Ag]at hj;subst hj;refine⟨_,rfl,?_,λB0 h0=>by rw[An]at h0;injection h0 with h0;subst h0;rfl⟩;obtain⟨p,Di,hB⟩:=hb i _ An;have Ba:plOf E i=p:=by simp[plOf,An,Di]
        rw[Ba];cases p with
        |cells _=>exact hB.elim
        |row sv Ac=>have hM:MatOk E t et e' none l sv Ac:=hB;obtain⟨vs,h3,h4⟩:=hM.outer;refine⟨⟨vs,by rw[hw,Cm];exact h3,h4⟩,hM.len,hM.hole,λi s x hs hx=>?_,hM.sep0,hM.sep⟩;obtain⟨xs,h5,h6⟩:=hM.inner i s x hs hx;refine⟨xs,h5.mono λx u hu=>?_,by rw[hw,Cm];exact h6⟩;rw[hw];exact hu.mono λg hg _=>⟨GW g hg,rfl⟩
       |succ j=>obtain⟨B,h3,h4⟩:=DZ j k (by simpa using hj);exact⟨B,by simpa [mkB]using h3,h4⟩
     ·cases hp
   ·rename_i An
    split at hp
    ·cases hp
    ·rename_i z h2
     simp only[Ag]at hp;subst hp;obtain⟨hl,DZ⟩:=KP hb hw Cm hr GW Dr h2;refine⟨by simp[hl],λj k hj=>?_⟩;cases j with
     |zero=>
      simp only[DI,Ag]at hj;subst hj;refine⟨_,rfl,?_,λB0 h0=>by rw[An]at h0;cases h0⟩;have Ba:plOf E i=.row (.slice none 0 0) []:=by simp[plOf,An]
      rw[Ba];exact MatOk.nil E' t et e
     |succ j=>obtain⟨B,h3,h4⟩:=DZ j k (by simpa using hj);exact⟨B,by simpa [mkB]using h3,h4⟩
   ·cases hp
 |.tree t e::r,is,y,AO,hp=>by
  cases is with
  |nil=>simp[Dd]at hp
  |cons i is=>
   have Dr:Rows E E.bl E'.ok (ES E.bl r is):=AO;simp only[Dd]at hp;split at hp
   ·rename_i t' e' ver Ah l An
    cases ht:Nat.beq t t' with
    |false=>rw[ht]at hp;cases hp
    |true=>
     have:=Az ht;subst this;simp only[ht,Ar]at hp;split at hp
     ·rename_i he
      subst he;split at hp
      ·cases hp
      ·rename_i z h2
       simp only[Ag]at hp;subst hp;obtain⟨hl,DZ⟩:=KP hb hw Cm hr GW Dr h2;refine⟨by simp[hl],λj k hj=>?_⟩;cases j with
       |zero=>
        simp only[DI,Ag]at hj;subst hj;refine⟨_,rfl,?_,λB0 h0=>by rw[An]at h0;injection h0 with h0;subst h0;rfl⟩;obtain⟨p,Di,hB⟩:=hb i _ An;have Ba:plOf E i=p:=by simp[plOf,An,Di]
        rw[Ba];cases p with
        |cells _=>exact hB.elim
        |row sv Ac=>have hT:TreeOk E t e' none l sv Ac:=hB;obtain⟨hv,F,h3,h4,h5⟩:=hT.rep;refine⟨⟨hv,F,?_,h4,h5⟩,hT.top⟩;rw[hw];exact h3.ren (by rw[Cm];exact AQ _) λτ x us hu=>hu.mono λg hg _=>⟨GW g hg,rfl⟩
       |succ j=>obtain⟨B,h3,h4⟩:=DZ j k (by simpa using hj);exact⟨B,by simpa [mkB]using h3,h4⟩
     ·cases hp
   ·rename_i An
    split at hp
    ·cases hp
    ·rename_i z h2
     simp only[Ag]at hp;subst hp;obtain⟨hl,DZ⟩:=KP hb hw Cm hr GW Dr h2;refine⟨by simp[hl],λj k hj=>?_⟩;cases j with
     |zero=>
      simp only[DI,Ag]at hj;subst hj;refine⟨_,rfl,?_,λB0 h0=>by rw[An]at h0;cases h0⟩;have Ba:plOf E i=.row (.slice none 0 0) []:=by simp[plOf,An]
      rw[Ba];exact⟨⟨.slice none 0 0,[],⟨_,[],[],rfl,rfl,World.ownsRow_nil _ _ _ _,rfl,rfl⟩,rfl,by simp⟩,by simp⟩
     |succ j=>obtain⟨B,h3,h4⟩:=DZ j k (by simpa using hj);exact⟨B,by simpa [mkB]using h3,h4⟩
   ·cases hp
 |.map t k v vg::r,is,y,AO,hp=>by
  cases is with
  |nil=>simp[Dd]at hp
  |cons i is=>
   have Dr:Rows E E.bl E'.ok (ES E.bl r is):=AO;simp only[Dd]at hp;split at hp
   ·rename_i t' k' v' Sr l An
    cases ht:(Nat.beq t t'&&(vg==Sr))with
    |false=>rw[ht]at hp;cases hp
    |true=>
     obtain⟨Xa,Xb⟩:=andB ht;have:=Az Xa;subst this;have:vg=Sr:=by simpa using Xb
     subst this;simp only[ht,Ar]at hp;split at hp
     ·rename_i he
      subst he;split at hp
      ·rename_i he
       subst he;split at hp
       ·cases hp
       ·rename_i z h2
        simp only[Ag]at hp;subst hp;obtain⟨hl,DZ⟩:=KP hb hw Cm hr GW Dr h2;refine⟨by simp[hl],λj k hj=>?_⟩;cases j with
        |zero=>
         simp only[DI,Ag]at hj;subst hj;refine⟨_,rfl,?_,λB0 h0=>by rw[An]at h0;injection h0 with h0;subst h0;rfl⟩;obtain⟨p,Di,hB⟩:=hb i _ An;have Ba:plOf E i=p:=by simp[plOf,An,Di]
         rw[Ba];cases p with
         |row _ _=>exact hB.elim
         |cells g=>
          obtain⟨es,CU,h3,h4⟩:=hB;refine⟨es,CU,by rw[hw];exact h3,h4.mono (λx u hu=>?_) (λx u hu=>?_)⟩
          ·rw[hw]
           exact hu.mono λg hg _=>⟨GW g hg,rfl⟩
          ·rw[hw]
           exact hu.mono λg hg _=>⟨GW g hg,rfl⟩
        |succ j=>obtain⟨B,h3,h4⟩:=DZ j k (by simpa using hj);exact⟨B,by simpa [mkB]using h3,h4⟩
      ·cases hp
     ·cases hp
   ·cases hp
 |.fmap t l::r,is,y,AO,hp=>by
  cases is with
  |nil=>simp[Dd]at hp
  |cons i is=>
   have Dr:Rows E E.bl E'.ok (ES E.bl r is):=AO;simp only[Dd]at hp;split at hp
   ·rename_i t' l' An
    cases ht:(Nat.beq t t'&&fEq ids l l')with
    |false=>rw[ht]at hp;cases hp
    |true=>
     rw[ht,Ar]at hp;obtain⟨Xa,Xb⟩:=andB ht;have:=Az Xa;subst this;obtain⟨hl,DZ⟩:=KP hb hw Cm hr GW Dr hp;refine⟨by simp[hl],λj k hj=>?_⟩;cases j with
     |zero=>
      simp only[DI,Ag]at hj;subst hj;refine⟨_,rfl,?_,λB0 h0=>by rw[An]at h0;injection h0 with h0;subst h0;rfl⟩;obtain⟨p,Di,hB⟩:=hb i _ An;have Ba:plOf E i=p:=by simp[plOf,An,Di]
      rw[Ba];cases p with
      |row _ _=>exact hB.elim
      |cells g=>
       obtain⟨es,CU,hh,hm⟩:=hB;refine⟨es,CU,by rw[hw];exact hh,?_⟩
       have key:∀{l l':List (List UInt8×(FuncId×Nat))}{es:List MapEntry},fEq ids l l'=true->FRep E l' es->FRep E' (fIds Bu l) es:=by
        intro l
        induction l with
        |nil=>intro l' es he h;cases l' with
         |nil=>exact h
         |cons _ _=>cases he
        |cons x l ih=>
         intro l' es he h;cases l' with
         |nil=>cases he
         |cons z l'=>
          obtain⟨Ane,Jh⟩:=andB (show((decide (x.1=z.1)&&(Nat.beq x.2.1 z.2.1&&(match ids[x.2.2]? with|some i=>Nat.beq i z.2.2|none=>false)))&&fEq ids l l')=true from he);obtain⟨Pq,W7⟩:=andB Ane;obtain⟨W7,W8⟩:=andB W7;have Pq:=Bv Pq;have W7:=Az W7;split at W8
          ·rename_i i' Px
           have W8:=Az W8;subst W8;obtain⟨e,r,g,q1,q2,q3,q4,q5⟩:=h;exact⟨e,r,g,q1,by rw[q2];show _=Value.string ⟨x.1.toArray⟩;rw[Pq],hr.cells x.2.2 _ g Px q3,by rw[q4];show _=Value.func (.func x.2.1) _ _;rw[W7],ih Jh q5⟩
          ·cases W8
       exact key Xb hm
     |succ j=>obtain⟨B,h3,h4⟩:=DZ j k (by simpa using hj);exact⟨B,by simpa [mkB]using h3,h4⟩
   ·cases hp
 |.cells t l::r,is,y,AO,hp=>by
  cases is with
  |nil=>simp[Dd]at hp
  |cons i is=>
   simp only[Dd]at hp;split at hp
   ·rename_i t' cs An
    cases ht:Nat.beq t t' with
    |false=>rw[ht]at hp;cases hp
    |true=>
     have:=Az ht;subst this;simp only[ht,Ar]at hp;split at hp
     ·cases hp
     ·rename_i y1 h1
      split at hp
      ·cases hp
      ·rename_i z h2
       simp only[Ag]at hp;subst hp;have FP:ES E.bl (.cells t l::r) (i::is)=FF l cs++ES E.bl r is:=by simp[ES,An]
       rw[FP]at AO;obtain⟨hl,DZ⟩:=KP hb hw Cm hr GW (AO.sub λb DB=>DJ _ DB) h2;refine⟨by simp[hl],λj k hj=>?_⟩;cases j with
       |zero=>
        simp only[DI,Ag]at hj;subst hj;refine⟨_,rfl,?_,λB0 h0=>by rw[An]at h0;injection h0 with h0;subst h0;rfl⟩;obtain⟨p,Di,hB⟩:=hb i _ An;have Ba:plOf E i=p:=by simp[plOf,An,Di]
        rw[Ba];cases p with
        |row _ _=>exact hB.elim
        |cells g=>obtain⟨vs,hh,Df⟩:=hB;refine⟨vs,by rw[hw];exact hh,?_⟩;exact G4 hb hw hr (AO.sub λb DB=>D0 _ DB) Df h1
       |succ j=>obtain⟨B,h3,h4⟩:=DZ j k (by simpa using hj);exact⟨B,by simpa [mkB]using h3,h4⟩
   ·cases hp
theorem Adw{E:Env}{tm:List (Nat×V)}{tmps:Array Value}(h:∀t v,look tm t=some v->VRep E v (tmps.getD t undef)):∀{l:List Nat}{vs:List V},QD tm l=some vs->VReps E vs (l.map λt=>tmps.getD t undef)
 |[],vs,hl=>by simp only[QD,Ag]at hl;subst hl;rfl
 |t::l,vs,hl=>by
  simp only[QD]at hl;split at hl
  ·rename_i v hv
   split at hl
   ·rename_i Av D7
    simp only[Ag]at hl;subst hl;exact⟨_,_,rfl,h t v hv,Adw h D7⟩
   ·cases hl
  ·cases hl
theorem Adx{E:Env}{ids:List Nat}{tmps:Array Value}:∀{slots:List Nat}{l:List (Bool×List CT)}{x:ST.dens l},TReps E (mkS ids l x) (slots.map λt=>tmps.getD t undef)->∀t v,look (mkT ids slots l x) t=some v->VRep E v (tmps.getD t undef)
 |[],_,_,_,t,v,h=>by simp[mkT,Fc,EQ]at h
 |_::_,[],_,_,t,v,h=>by simp[mkT,Fc,EQ]at h
 |s::ss,p::l,x,hr,t,v,h=>by
  obtain⟨u,us,e,h1,h2⟩:=hr;simp only[CM,D1]at e;obtain⟨e1,e2⟩:=e;subst e1 e2;simp only[mkT,Fc,EQ]at h;by_cases Gu:t=s
  ·subst Gu
   rw[Of,Ar,Ag]at h;subst h;exact VRep.mk h1
  ·rw[Io Gu,Cd]at h
   exact Adx h2 t v h
theorem Ady:∀{a b:List Nat},Ox a b=true->a=b
 |[],[],_=>rfl
 |x::r,y::s,h=>by simp only[Ox,CE]at h;rw[Az h.1,Ady h.2]
 |[],_::_,h=>by simp[Ox]at h
 |_::_,[],h=>by simp[Ox]at h
def BT.stands(B:Option Blk)(B':Blk):BT->Prop
 |.row t e=>B=none\/∃ver l,B=some (.row t e ver l)
 |.tree t e=>B=none\/∃ver Ah l,B=some (.tree t e ver Ah none l)/\B'=.tree t e 0 0 none l
 |_=>∀t e ver Ah h l,B'≠.tree t e ver Ah h l
theorem nG{bl:Nat->Option Blk}{ids:List Nat}(ids2:List Nat){t:BT}{r:List BT}{i:Nat}{js:List Nat}{y:BT.dens (t::r)}(h:Dd bl ids (t::r) (i::js)=some y):(∃z,Dd bl ids r js=some z/\∃B',mkB ids2 (t::r) y=B'::mkB ids2 r z/\BT.stands (bl i) B' t)/\∀B,bl i=some B->B.live=true:=by
 cases t with
 |cells t l=>
  simp only[Dd]at h;split at h
  ·rename_i t' cs hb
   cases ht:Nat.beq t _ with
   |false=>rw[ht]at h;cases h
   |true=>
    rw[ht,Ar]at h;split at h
    ·cases h
    ·split at h
     ·cases h
     ·rename_i z hz
      simp only[Ag]at h;subst h;exact⟨⟨z,hz,_,rfl,λ_ _ _ _ _ _ h=>by cases h⟩,λB hB=>by rw[hb]at hB;injection hB with hB;subst hB;rfl⟩
  ·cases h
 |row t e=>
  simp only[Dd]at h;split at h
  ·rename_i t' e' ver l hb
   cases ht:Nat.beq t t' with
   |false=>rw[ht]at h;cases h
   |true=>
    rw[ht,Ar]at h;split at h
    ·rename_i he
     subst he;have:=Az ht;subst this;split at h
     ·cases h
     ·rename_i z hz
      simp only[Ag]at h;subst h;exact⟨⟨z,hz,_,rfl,.inr ⟨ver,l,hb⟩⟩,λB hB=>by rw[hb]at hB;injection hB with hB;subst hB;rfl⟩
    ·cases h
  ·rename_i hb
   split at h
   ·cases h
   ·rename_i z hz
    simp only[Ag]at h;subst h;exact⟨⟨z,hz,_,rfl,.inl hb⟩,λB hB=>by rw[hb]at hB;cases hB⟩
  ·cases h
 |tree t e=>
  simp only[Dd]at h;split at h
  ·rename_i t' e' ver Ah l hb
   cases ht:Nat.beq t t' with
   |false=>rw[ht]at h;cases h
   |true=>
    rw[ht,Ar]at h;split at h
    ·rename_i he
     subst he;have:=Az ht;subst this;split at h
     ·cases h
     ·rename_i z hz
      simp only[Ag]at h;subst h;exact⟨⟨z,hz,_,rfl,.inr ⟨ver,Ah,l,hb,rfl⟩⟩,λB hB=>by rw[hb]at hB;injection hB with hB;subst hB;rfl⟩
    ·cases h
  ·rename_i hb
   split at h
   ·cases h
   ·rename_i z hz
    simp only[Ag]at h;subst h;exact⟨⟨z,hz,_,rfl,.inl hb⟩,λB hB=>by rw[hb]at hB;cases hB⟩
  ·cases h
 |map t k v vg=>
  simp only[Dd]at h;split at h
  ·rename_i t' k' v' Sr l hb
   cases ht:(Nat.beq t t'&&(vg==Sr))with
   |false=>rw[ht]at h;cases h
   |true=>
    rw[ht,Ar]at h;split at h
    ·split at h
     ·split at h
      ·cases h
      ·rename_i z hz
       simp only[Ag]at h;subst h;exact⟨⟨z,hz,_,rfl,λ_ _ _ _ _ _ h=>by cases h⟩,λB hB=>by rw[hb]at hB;injection hB with hB;subst hB;rfl⟩
     ·cases h
    ·cases h
  ·cases h
 |fmap t l=>
  simp only[Dd]at h;split at h
  ·rename_i t' l' hb
   cases ht:(Nat.beq t t'&&fEq ids l l')with
   |false=>rw[ht]at h;cases h
   |true=>rw[ht,Ar]at h;exact⟨⟨y,h,_,rfl,λ_ _ _ _ _ _ h=>by cases h⟩,λB hB=>by rw[hb]at hB;injection hB with hB;subst hB;rfl⟩
  ·cases h
 |mat t et e=>
  simp only[Dd]at h;split at h
  ·rename_i t' Ws e' ver Ah l hb
   cases ht:(Nat.beq t t'&&Nat.beq et Ws)with
   |false=>rw[ht]at h;cases h
   |true=>
    rw[ht,Ar]at h;split at h
    ·split at h
     ·cases h
     ·rename_i z hz
      simp only[Ag]at h;subst h;exact⟨⟨z,hz,_,rfl,λ_ _ _ _ _ _ h=>by cases h⟩,λB hB=>by rw[hb]at hB;injection hB with hB;subst hB;rfl⟩
    ·cases h
  ·rename_i hb
   split at h
   ·cases h
   ·rename_i z hz
    simp only[Ag]at h;subst h;exact⟨⟨z,hz,_,rfl,λ_ _ _ _ _ _ h=>by cases h⟩,λB hB=>by rw[hb]at hB;cases hB⟩
  ·cases h
theorem nH{bl:Nat->Option Blk}{ids ids2:List Nat}:∀{is:List BT}{js:List Nat}{y:BT.dens is},Dd bl ids is js=some y->js.length=is.length/\(∀i∈js,∀B,bl i=some B->B.live=true)/\∀(j i:Nat)(t e:_)(ver Ah:Nat)(l:List e.ty.den)(t' e':_)(ver' B9:Nat)(h':Option Path)(l':List e'.ty.den),js[j]?=some i->bl i=some (.tree t e ver Ah none l)->(mkB ids2 is y)[j]?=some (.tree t' e' ver' B9 h' l')->Blk.tree t' e' ver' B9 h' l'=.tree t e 0 0 none l
 |[],js,y,h=>by
  cases js with
  |nil=>exact⟨rfl,λi hi=>by simp at hi,λj i t e ver Ah l t' e' ver' B9 h' l' hj=>by simp at hj⟩
  |cons _ _=>simp[Dd]at h
 |t::is,[],y,h=>by cases t<;>simp[Dd]at h
 |t::is,k::js,y,h=>by
  obtain⟨⟨z,hz,B',hB',hs⟩,hl⟩:=nG ids2 h;obtain⟨i1,i2,i3⟩:=nH (ids2:=ids2) hz;refine⟨by simp[i1],λi hi B hB=>?_,λj i t0 e ver Ah l t' e' ver' B9 h' l' hj hb hm=>?_⟩
  ·rcases Bw.1 hi with rfl|hi
   ·exact hl B hB
   ·exact i2 i hi B hB
  ·rw[hB']at hm
   cases j with
   |succ j=>exact i3 j i t0 e ver Ah l t' e' ver' B9 h' l' (by simpa using hj) hb (by simpa using hm)
   |zero=>
    simp only[DI,Ag]at hj hm;subst hj hm;rw[hb]at hs;cases t with
    |tree t1 e1=>
     rcases hs with hs|⟨v1,v2,l1,hs,Bm⟩
     ·cases hs
     ·injection hs with hs
      injection hs with q1 q2 q3 q4 q5 q6;subst q1 q2;simp only[IN]at q6;subst q6;exact Bm
    |row t1 e1=>rcases hs with hs|⟨_,_,hs⟩<;>cases hs
    |cells _ _=>exact absurd rfl (hs _ _ _ _ _ _)
    |map _ _ _ _=>exact absurd rfl (hs _ _ _ _ _ _)
    |mat _ _ _=>exact absurd rfl (hs _ _ _ _ _ _)
    |fmap _ _=>exact absurd rfl (hs _ _ _ _ _ _)
def envR{P:Program}(ok0:OK0 P)(base:Nat)(pl:Nat->Option Pl)(Aa bl:Nat->Option Blk)(w:World):Env:={w,ok:=λg=>(ok0 g\/(base<=g/\¬ok0.no g))/\¬Own pl Aa g,base,pl,bl}
theorem Adz{P:Program}{is:List BT}{ids:List Nat}{y:BT.dens is}{ok0:OK0 P}{base:Nat}{pl:Nat->Option Pl}{bl Aa:Nat->Option Blk}{w:World}(hr:RelB ok0 base pl Aa w)(Bf:∀i B,bl i=some B->Aa i=some B)(hy:Dd bl ids is ids=some y){g:Nat}(ho:Own (λb=>(ids[b]?).map (plOf (envR ok0 base pl Aa bl w))) (fnBl (mkB (AY 0 is.length) is y)) g):Own pl Aa g:=by
 obtain⟨b,B,p,_,_,hp,hg⟩:=ho;cases hb:ids[b]? with
 |none=>simp[hb]at hp
 |some i=>
  simp only[hb,Fa,Ag]at hp;cases CP:bl i with
  |none=>
   have:plOf (envR ok0 base pl Aa bl w) i=.row (.slice none 0 0) []:=by simp[plOf,envR,CP]
   rw[this]at hp;subst hp;have hg:=Pl.has_row hg;simp[Value.ownBlock]at hg
  |some B=>
   obtain⟨q,hq,_⟩:=hr.blks i B (Bf i B CP);have:plOf (envR ok0 base pl Aa bl w) i=q:=by simp[plOf,envR,CP,hq]
   rw[this]at hp;subst hp;obtain⟨_,HJ,_⟩:=nH (ids2:=AY 0 is.length) hy;exact⟨i,B,q,Bf i B CP,HJ i (Dg hb) B CP,hq,hg⟩
theorem AdA{P:Program}{ps:List (Bool×List CT)}{is:List BT}{ids:List Nat}{vs:List V}{us:List Value}{x:ST.dens ps}{y:BT.dens is}{ok0 ok1:OK0 P}{base:Nat}{pl:Nat->Option Pl}{bl Aa:Nat->Option Blk}{w:World}(hr:RelB ok0 base pl Aa w)(Bf:∀i B,bl i=some B->Aa i=some B)(GF:∀i∈ids,bl i=none->Aa i=none)(hx:Hg bl ids ps vs=some x)(hy:Dd bl ids is ids=some y)(c3:ids.Nodup)(c4:∀b∈FU ps vs++ES bl is ids,b∉ids)(D7:VReps (envR ok0 base pl Aa bl w) vs us)(k1:∀g,(ok0 g\/(base<=g/\¬ok0.no g))->¬Own pl Aa g->(ok1 g\/(base<=g/\¬ok1.no g)))(k2:FU ps vs++ES bl is ids=[]\/ok1=ok0)(k3:∀g,ok1.no g->g<w.heap.size/\¬Own (λb=>(ids[b]?).map (plOf (envR ok0 base pl Aa bl w))) (fnBl (mkB (AY 0 is.length) is y)) g)(k4:∀g,ok1.no g->ok0.no g\/Own pl Aa g\/w.heap.size<=g):RelB ok1 base (λb=>(ids[b]?).map (plOf (envR ok0 base pl Aa bl w))) (fnBl (mkB (AY 0 is.length) is y)) w/\TReps (Ap ok1 base (λb=>(ids[b]?).map (plOf (envR ok0 base pl Aa bl w))) (fnBl (mkB (AY 0 is.length) is y)) w) (mkS (AY 0 is.length) ps x) us/\ids.length=is.length/\(∀i∈ids,∀B,bl i=some B->B.live=true)/\(∀g,Own (λb=>(ids[b]?).map (plOf (envR ok0 base pl Aa bl w))) (fnBl (mkB (AY 0 is.length) is y)) g->∃i B p,i∈ids/\bl i=some B/\B.live=true/\pl i=some p/\p.has g):=by
 let E:Env:=(envR ok0 base pl Aa bl w)
 let plv:Nat->Option Pl:=λb=>(ids[b]?).map (plOf E)
 let blv:Nat->Option Blk:=fnBl (mkB (AY 0 is.length) is y)
 let Ev:Env:=Ap ok1 base plv blv w
 have GE:Ext (Ap ok0 base pl Aa w) E:=⟨AQ _,λg h _=>⟨h,rfl⟩,λ_ _ h=>h,λb sv Ac h=>⟨sv,Ac,h,KeepR.of_eq (λC hC=>Bf b C hC) _ _⟩⟩
 have Mq:Ek E:=λi B hB=>by obtain⟨p,hp,hB2⟩:=hr.blks i B (Bf i B hB);exact⟨p,hp,BRep.mono GE hB2 λ_ _=>rfl⟩
 have RO:∀b p g,plv b=some p->p.has g->∃i B,ids[b]?=some i/\bl i=some B/\pl i=some p:=by
  intro b p g hp hg;cases hb:ids[b]? with
  |none=>simp[plv,hb]at hp
  |some i=>
   simp only[plv,hb,Fa,Ag]at hp;cases CP:bl i with
   |none=>
    have:plOf E i=.row (.slice none 0 0) []:=by simp[plOf,E,envR,CP]
    rw[this]at hp;subst hp;have hg:=Pl.has_row hg;simp[Value.ownBlock]at hg
   |some B=>
    obtain⟨q,hq,_⟩:=hr.blks i B (Bf i B CP);have:plOf E i=q:=by simp[plOf,E,envR,CP,hq]
    rw[this]at hp;subst hp;exact⟨i,B,rfl,CP,hq⟩
 obtain⟨Bp,HJ,htreeB⟩:=nH (ids2:=AY 0 is.length) hy
 have Ao:∀g,Own plv blv g->∃i B p,i∈ids/\bl i=some B/\B.live=true/\pl i=some p/\p.has g:=by rintro g ⟨b,B,p,hB,hl,hp,hg⟩;obtain⟨i,B',h1,h2,h3⟩:=RO b p g hp hg;have hi:=Dg h1;exact⟨i,B',p,hi,h2,HJ i hi B' h2,h3,hg⟩
 have Kz:∀g,Own plv blv g->Own pl Aa g:=λg h=>by obtain⟨i,B,p,_,h1,h2,h3,h4⟩:=Ao g h;exact⟨i,B,p,Bf _ _ h1,h2,h3,h4⟩
 have D3:∀g,E.ok g->Ev.ok g:=λg h=>⟨k1 g h.1 h.2,λho=>h.2 (Kz g ho)⟩
 have key1:∀g b B p,b∈FU ps vs++ES bl is ids->Aa b=some B->B.live=true->pl b=some p->p.has g->base<=g->(ok1 g\/(base<=g/\¬ok1.no g)):=λg b B p hb hB hl hp hg RI=>by
  rcases k2 with h|h
  ·rw[h]at hb;cases hb
  ·rw[h];exact .inr ⟨RI,λhn=>(hr.glob.no g hn).2 ⟨b,B,p,hB,hl,hp,hg⟩⟩
 have NI:∀l:List Nat,(∀b∈l,b∈FU ps vs++ES bl is ids)->Rows E E.bl Ev.ok l:=λl GG=>⟨D3,λb hb t e ver l' DX=>⟨DX,λsv g Aw hg=>by
  have Cb:Aa b=some (.row t e ver l'):=Bf _ _ DX;have Dt:pl b=some (.row sv []):=Aw;refine⟨key1 g b _ _ (GG b hb) Cb rfl Dt (.inl hg) ?_,λho=>?_⟩
  ·obtain⟨p,hp,hB⟩:=hr.blks b _ Cb
   rw[Dt]at hp;injection hp with hp;subst hp;obtain⟨_,xs,_,ho⟩:=hB;rcases ho.2 with⟨h1,_⟩|⟨g',cap,AP,h1,h2,_⟩
   ·rw[h1]at hg;simp[Value.ownBlock]at hg
   ·rw[h1]at hg
    simp only[Value.ownBlock,Ag]at hg;subst hg;exact h2
  ·obtain⟨i,B,p,hi,h1,h2,h3,h4⟩:=Ao g ho
   have AW:i≠b:=by rintro rfl;exact c4 i (GG i hb) hi
   exact hr.sep i b _ _ p (.row sv []) g AW (Bf _ _ h1) Cb h2 rfl h3 Dt h4 (.inl hg)⟩,λb hb t et e ver Ah hole l' DX=>⟨DX,λsv Ac g Aw hg=>by
  have Cb:Aa b=some (.mat t et e ver Ah hole l'):=Bf _ _ DX;have Dt:pl b=some (.row sv Ac):=Aw;refine⟨key1 g b _ _ (GG b hb) Cb rfl Dt hg ?_,λho=>?_⟩
  ·obtain⟨p,hp,hB⟩:=hr.blks b _ Cb
   rw[Dt]at hp;injection hp with hp;subst hp;have hM:MatOk (Ap ok0 base pl Aa w) t et e hole l' sv Ac:=hB;rcases hg with hg|⟨k,s,Anx,hg⟩
   ·obtain⟨vs,h1,_⟩:=hM.outer
    exact(h1.lt g hg).1
   ·have Au:k<l'.length:=by rw[<-hM.len];exact(EN.1 Anx).1
    obtain⟨xs,_,h2⟩:=hM.inner k s l'[k] Anx (Ef Au);exact(h2.lt g hg).1
  ·obtain⟨i,B,p,hi,h1,h2,h3,h4⟩:=Ao g ho
   have AW:i≠b:=by rintro rfl;exact c4 i (GG i hb) hi
   exact hr.sep i b _ _ p (.row sv Ac) g AW (Bf _ _ h1) Cb h2 rfl h3 Dt h4 hg⟩,λb hb t e ver Ah hole l' DX=>⟨DX,λsv Ac g Aw hg=>by
  have Cb:Aa b=some (.tree t e ver Ah hole l'):=Bf _ _ DX;have Dt:pl b=some (.row sv Ac):=Aw;refine⟨key1 g b _ _ (GG b hb) Cb rfl Dt hg (mP hr Cb rfl Dt hg).1,λho=>?_⟩;obtain⟨i,B,p,hi,h1,h2,h3,h4⟩:=Ao g ho;have AW:i≠b:=by rintro rfl;exact c4 i (GG i hb) hi
  exact hr.sep i b _ _ p (.row sv Ac) g AW (Bf _ _ h1) Cb h2 rfl h3 Dt h4 hg⟩⟩
 have WV:Ren E Ev ids (AY 0 is.length):=by
  have key:∀b i,ids[b]?=some i->Ev.pl ((AY 0 is.length).getD b 0)=some (plOf E i):=by
   intro b i hi;have Au:b<is.length:=by rw[<-Bp];exact(EN.1 hi).1
   rw[Ow Au];simp[Ev,Ap,plv,hi]
  refine⟨λb i g hi h=>?_,λb i sv Ac t e ver l hi hb h=>?_,λb i sv Ac t et e ver Ah hole l hi hb h=>?_,λb i sv Ac t e ver Ah l hi hb h=>?_,λb i t e ver Ah l t' e' ver' B9 h' l' hi An DX=>?_,λb i hi h=>?_⟩
  ·rw[key b i hi]
   have h':pl i=some (.cells g):=h;cases CP:bl i with
   |none=>rw[hr.fresh i (GF i (Dg hi) CP)]at h';cases h'
   |some B=>simp[plOf,E,envR,CP,h']
  ·rw[key b i hi]
   have h':pl i=some (.row sv Ac):=h;have AH:bl i=some _:=hb;simp[plOf,E,envR,AH,h']
  ·rw[key b i hi]
   have h':pl i=some (.row sv Ac):=h;have AH:bl i=some _:=hb;simp[plOf,E,envR,AH,h']
  ·rw[key b i hi]
   have h':pl i=some (.row sv Ac):=h;have AH:bl i=some _:=hb;simp[plOf,E,envR,AH,h']
  ·have Au:b<is.length:=by rw[<-Bp];exact(EN.1 hi).1
   rw[Ow Au]at DX;exact htreeB b i t e ver Ah l t' e' ver' B9 h' l' hi An DX
  ·rw[key b i hi]
   have h':bl i=none:=h;simp[plOf,E,envR,h']
 have hS:=nF Mq (show Ev.w=E.w from rfl) WV (NI _ λb hb=>D0 _ hb) D7 hx;obtain⟨_,hB⟩:=KP Mq (show Ev.w=E.w from rfl) rfl WV D3 (NI _ λb hb=>DJ _ hb) hy;refine⟨⟨hr.baseLe,λi B hBi=>?_,λi j B C p q g Dw hBi hCj hl hlC hp hq Dj B8=>?_,λi hi=>?_,⟨hr.glob.g0.gen (AQ _) (λg _ h1 _=>⟨rfl,λq=>h1 (Kz g q)⟩) k4,k3⟩⟩,hS,Bp,HJ,Ao⟩
 ·have Au:i<ids.length:=by have:=(EN.1 (show(mkB (AY 0 is.length) is y)[i]?=some B from hBi)).1;rw[G3]at this;omega
  obtain⟨B',h1,h2,_⟩:=hB i ids[i] (Ef Au);have h4:(mkB (AY 0 is.length) is y)[i]?=some B:=hBi;rw[h1]at h4;injection h4 with h4;subst h4;exact⟨plOf E ids[i],by simp[Ef Au,E],h2⟩
 ·obtain⟨i',B',h1,h2,h3⟩:=RO i p g hp Dj
  obtain⟨j',C',h4,h5,h6⟩:=RO j q g hq B8
  have AW:i'≠j':=by rintro rfl;have q1:=Kb c3 h1;have q2:=Kb c3 h4;rw[q1]at q2;injection q2 with q2;exact Dw q2
  exact hr.sep i' j' B' C' p q g AW (Bf _ _ h2) (Bf _ _ h5) (HJ i' (Dg h1) B' h2) (HJ j' (Dg h4) C' h5) h3 h6 Dj B8
 ·have RI:ids.length<=i:=by have h1:(mkB (AY 0 is.length) is y)[i]?=none:=hi;rw[Qf,G3]at h1;omega
  simp[Sw RI]
theorem AqF{P:Program}{ps:List (Bool×List CT)}{is:List BT}{ids:List Nat}{vs:List V}{us:List Value}{x:ST.dens ps}{y:BT.dens is}{ok0:OK0 P}{base:Nat}{pl:Nat->Option Pl}{bl Aa:Nat->Option Blk}{w:World}(hr:RelB ok0 base pl Aa w)(Bf:∀i B,bl i=some B->Aa i=some B)(GF:∀i∈ids,bl i=none->Aa i=none)(hx:Hg bl ids ps vs=some x)(hy:Dd bl ids is ids=some y)(c3:ids.Nodup)(c4:∀b∈FU ps vs++ES bl is ids,b∉ids)(D7:VReps (envR ok0 base pl Aa bl w) vs us):RelB ok0 base (λb=>(ids[b]?).map (plOf (envR ok0 base pl Aa bl w))) (fnBl (mkB (AY 0 is.length) is y)) w/\TReps (Ap ok0 base (λb=>(ids[b]?).map (plOf (envR ok0 base pl Aa bl w))) (fnBl (mkB (AY 0 is.length) is y)) w) (mkS (AY 0 is.length) ps x) us/\ids.length=is.length/\(∀i∈ids,∀B,bl i=some B->B.live=true)/\(∀g,Own (λb=>(ids[b]?).map (plOf (envR ok0 base pl Aa bl w))) (fnBl (mkB (AY 0 is.length) is y)) g->∃i B p,i∈ids/\bl i=some B/\B.live=true/\pl i=some p/\p.has g):=
 AdA hr Bf GF hx hy c3 c4 D7 (λ_ h _=>h) (.inr rfl) (λg hn=>⟨(hr.glob.no g hn).1,λho=>(hr.glob.no g hn).2 (Adz hr Bf hy ho)⟩) λ_ h=>.inl h
theorem View.weaken{P:Program}{n:Nat}{v:View}{σ:St}{d:v.den}(hd:v.read σ=some d){ok0:OK0 P}{base:Nat}{pl:Nat->Option Pl}{a:Act}{w:World}(hr:Rel n ok0 base pl (look σ.tm) (look σ.bl) a w):∃plv,Rel n ok0 base plv (look (v.mk' d).tm) (look (v.mk' d).bl) a w/\StepM v.m pl (look σ.bl) w plv (look (v.mk' d).bl) w:=by
 unfold View.read at hd;split at hd
 ·cases hd
 rename_i vs D7;split at hd
 ·cases hd
 rename_i ids _;split at hd
 ·cases hd
 rename_i x hx;split at hd
 ·cases hd
 rename_i y hy;cases hc:(Nat.ble v.m v.ins.length&&(Ox (ids.take v.m) (AY 0 v.m)&&(Jy ids&&!meet (FU v.params vs++ES (look σ.bl) v.ins ids) ids)))with
 |false=>rw[hc]at hd;cases hd
 |true=>
  simp only[hc,Ar,Ag]at hd;subst hd;obtain⟨c1,hc⟩:=andB hc;obtain⟨c2,hc⟩:=andB hc;obtain⟨c3,c4⟩:=andB hc;have c2:=Ady c2;simp only[NW]at c4;obtain⟨q1,q2,_,_,q5⟩:=AqF (bl:=look σ.bl) hr.rel (λ_ _ h=>h) (λ_ _ h=>h) hx hy (Q6 c3) (YB.1 c4) (Adw hr.tmps D7);rw[Oy];refine⟨_,⟨hr.defers,hr.size,λt v' ht=>Adx q2 t v' ht,q1⟩,rfl,rfl,rfl,AQ _,λg _ ho=>⟨rfl,λh=>?_⟩,λb g hb hp=>?_,λb sv Ac hb hp=>?_⟩
  ·obtain⟨i,B,p,_,h1,h2,h3,h4⟩:=q5 g h
   exact ho ⟨i,B,p,h1,h2,h3,h4⟩
  all_goals
   have I6:ids[b]?=some b:=by
    have h1:(ids.take v.m)[b]?=some b:=by rw[c2];simpa using mG (n:=v.m) (s:=0) hb
    rwa [Ss hb]at h1
  ·cases CP:look σ.bl b with
   |none=>rw[hr.rel.fresh b CP]at hp;cases hp
   |some B=>simp[I6,plOf,envR,CP,hp]
  ·cases CP:look σ.bl b with
   |none=>rw[hr.rel.fresh b CP]at hp;cases hp
   |some B=>exact⟨sv,Ac,by simp[I6,plOf,envR,CP,hp]⟩
end
end Go.Lift
