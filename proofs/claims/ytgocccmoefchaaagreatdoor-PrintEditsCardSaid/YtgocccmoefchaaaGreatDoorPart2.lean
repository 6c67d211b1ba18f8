/- Part2: LiftM, LiftMm, LiftMf, LiftN, LiftO, LiftP, LiftQ, LiftR, LiftS. -/
import Derived.MapKept
import Derived.WideKeyRuns
import Derived.LoopN
import Derived.Test.YtgocccmoefchaaaGreatDoorPart1
set_option linter.unusedVariables false
set_option linter.unusedSectionVars false
set_option linter.unusedSimpArgs false
namespace Go.Lift
noncomputable section
open Go.RowKit
structure Ren2 (m:Nat) (E E':Env) (ids AU:List Nat):Prop where
 cells:∀b g,b<m->E.pl (ids.getD b 0)=some (.cells g)->E'.pl (AU.getD b 0)=some (.cells g)
 row:∀b sv Ab,b<m->E.pl (ids.getD b 0)=some (.row sv Ab)->E'.pl (AU.getD b 0)=some (.row sv Ab)/\(∀t e ver l,E'.bl (AU.getD b 0)=some (.row t e ver l)->E.bl (ids.getD b 0)=some (.row t e ver l))/\
  (∀t et e ver Ag hole l,E'.bl (AU.getD b 0)=some (.mat t et e ver Ag hole l)->E.bl (ids.getD b 0)=some (.mat t et e ver Ag hole l))/\
  (∀t e ver Ag hole l,E'.bl (AU.getD b 0)=some (.tree t e ver Ag hole l)->E.bl (ids.getD b 0)=some (.tree t e ver Ag hole l))
theorem yC{m:Nat}{E E':Env}{ids AU:List Nat}(hr:Ren2 m E E' ids AU):∀(B4 gs:List Nat),B4.all (λb=>Nat.blt b m)=true->(B4.map λb=>ids.getD b 0).map E.pl=gs.map (λg=>some (.cells g))->(B4.map λb=>AU.getD b 0).map E'.pl=gs.map (λg=>some (.cells g))
 |[],gs,_,hg=>by cases gs<;>simp_all
 |b::bs,gs,hb,hg=>by
  cases gs with
  |nil=>simp at hg
  |cons g gs=>simp only[CE,De]at hg⊢;obtain⟨h1,h2⟩:=andB (show(Nat.blt b m&&bs.all (λb=>Nat.blt b m))=true from hb);exact⟨hr.cells b g (D8 h1) hg.1,yC hr bs gs h2 hg.2⟩
theorem G8{m:Nat}{E E':Env}{ids AU:List Nat}(hr:Ren2 m E E' ids AU){all:Prop}(hd:∀(τ:Ty)(x:τ.den)(us:List Value),(all\/τ.flat=true)->DRep E.w E.ok τ x us->DRep E'.w E'.ok τ x us):∀{l:List CT}{y:CT.dens l}{vs:List Value},CT.bnd m l=true->(all\/CT.flat l=true)->CReps E (mkC ids l y) vs->CReps E' (mkC AU l y) vs
 |[],_,_,_,_,h=>h
 |.data τ::l,y,vs,hb,hf,h=>by
  obtain⟨us,ws,e,h1,h2⟩:=CReps.split h;rw[e];have H7:all\/τ.flat=true:=hf.imp id λh=>by simp only[CT.flat,C5]at h;exact h.1
  have U3:all\/CT.flat l=true:=hf.imp id λh=>by simp only[CT.flat,C5]at h;exact h.2
  refine CReps.append ?_ (G8 hr hd (by simpa [CT.bnd]using hb) U3 h2)
  have key:∀(τ:Ty)(x:τ.den)(us:List Value),(all\/τ.flat=true)->CReps E (cells τ x) us->CReps E' (cells τ x) us:=by
   intro τ
   induction τ with
   |bool=>intro x us _ h;exact h
   |int k=>intro x us _ h;exact h
   |str=>intro x us _ h;exact h
   |err=>intro x us _ h;exact h
   |unit=>intro x us _ h;exact h
   |prod a b iha ihb=>
    intro x us hf h;obtain⟨p,q,e,h1,h2⟩:=CReps.split h;rw[e];have g1:all\/a.flat=true:=hf.imp id λh=>by simp only[Ty.flat,C5]at h;exact h.1
    have g2:all\/b.flat=true:=hf.imp id λh=>by simp only[Ty.flat,C5]at h;exact h.2
    exact(iha _ _ g1 h1).append (ihb _ _ g2 h2)
   |slice e ih=>intro x us hf h;obtain⟨v,Ap,e1,h1,h2⟩:=h;exact⟨v,Ap,e1,hd (.slice e) x [v] hf h1,h2⟩
  exact key τ _ _ H7 h1
 |.ptr b o::l,y,vs,hb,hf,⟨v,Ap,e,⟨g,hg,hv⟩,ht⟩=>by obtain⟨By,Ah⟩:=andB (show(Nat.blt b m&&CT.bnd m l)=true from hb);exact⟨v,Ap,e,⟨g,hr.cells b g (D8 By) hg,hv⟩,G8 hr hd Ah (hf.imp id λh=>by simpa [CT.flat]using h) ht⟩
 |.rowh b::l,y,vs,hb,hf,⟨v,Ap,e,⟨h1,sv,Ab,Aq,AT⟩,ht⟩=>by obtain⟨By,Ah⟩:=andB (show(Nat.blt b m&&CT.bnd m l)=true from hb);obtain⟨h2,h3,_⟩:=hr.row b sv Ab (D8 By) Aq;exact⟨v,Ap,e,⟨h1,sv,Ab,h2,λt e ver l h=>AT t e ver l (h3 t e ver l h)⟩,G8 hr hd Ah (hf.imp id λh=>by simpa [CT.flat]using h) ht⟩
 |.math b::l,y,vs,hb,hf,⟨v,Ap,e,⟨h1,sv,Ab,Aq,AT⟩,ht⟩=>by obtain⟨By,Ah⟩:=andB (show(Nat.blt b m&&CT.bnd m l)=true from hb);obtain⟨h2,_,h3,_⟩:=hr.row b sv Ab (D8 By) Aq;exact⟨v,Ap,e,⟨h1,sv,Ab,h2,λt et e ver Ag hole l h=>AT t et e ver Ag hole l (h3 t et e ver Ag hole l h)⟩,G8 hr hd Ah (hf.imp id λh=>by simpa [CT.flat]using h) ht⟩
 |.trowh b::l,y,vs,hb,hf,⟨v,Ap,e,⟨h1,sv,Ab,Aq,AT⟩,ht⟩=>by obtain⟨By,Ah⟩:=andB (show(Nat.blt b m&&CT.bnd m l)=true from hb);obtain⟨h2,_,_,h3⟩:=hr.row b sv Ab (D8 By) Aq;exact⟨v,Ap,e,⟨h1,sv,Ab,h2,λt e ver Ag hole l h=>AT t e ver Ag hole l (h3 t e ver Ag hole l h)⟩,G8 hr hd Ah (hf.imp id λh=>by simpa [CT.flat]using h) ht⟩
 |.tptrh b ks o::l,y,vs,hb,hf,⟨v,Ap,e,⟨sv,Ab,ad,Aq,hv,AT⟩,ht⟩=>by obtain⟨By,Ah⟩:=andB (show(Nat.blt b m&&CT.bnd m l)=true from hb);obtain⟨h2,_,_,h3⟩:=hr.row b sv Ab (D8 By) Aq;exact⟨v,Ap,e,⟨sv,Ab,ad,h2,hv,λt e ver Ag hole l h=>AT t e ver Ag hole l (h3 t e ver Ag hole l h)⟩,G8 hr hd Ah (hf.imp id λh=>by simpa [CT.flat]using h) ht⟩
 |.fn f B4::l,y,vs,hb,hf,⟨v,Ap,e,⟨gs,hg,hv⟩,ht⟩=>by obtain⟨By,Ah⟩:=andB (show(B4.all (λb=>Nat.blt b m)&&CT.bnd m l)=true from hb);refine⟨v,Ap,e,⟨gs,?_,hv⟩,G8 hr hd Ah (hf.imp id λh=>by simpa [CT.flat]using h) ht⟩;exact yC hr B4 gs By hg
 |.maph b::l,y,vs,hb,hf,⟨v,Ap,e,⟨g,hg,hv⟩,ht⟩=>by obtain⟨By,Ah⟩:=andB (show(Nat.blt b m&&CT.bnd m l)=true from hb);exact⟨v,Ap,e,⟨g,hr.cells b g (D8 By) hg,hv⟩,G8 hr hd Ah (hf.imp id λh=>by simpa [CT.flat]using h) ht⟩
 |.bfnh f b::l,y,vs,hb,hf,⟨v,Ap,e,⟨g,hg,hv⟩,ht⟩=>by obtain⟨By,Ah⟩:=andB (show(Nat.blt b m&&CT.bnd m l)=true from hb);exact⟨v,Ap,e,⟨g,hr.cells b g (D8 By) hg,hv⟩,G8 hr hd Ah (hf.imp id λh=>by simpa [CT.flat]using h) ht⟩
 |.bself b::l,y,vs,hb,hf,⟨v,Ap,e,.inl hv,ht⟩=>by obtain⟨By,Ah⟩:=andB (show(Nat.blt b m&&CT.bnd m l)=true from hb);exact⟨v,Ap,e,.inl hv,G8 hr hd Ah (hf.imp id λh=>by simpa [CT.flat]using h) ht⟩
 |.bself b::l,y,vs,hb,hf,⟨v,Ap,e,.inr ⟨g,hg,hv⟩,ht⟩=>by obtain⟨By,Ah⟩:=andB (show(Nat.blt b m&&CT.bnd m l)=true from hb);exact⟨v,Ap,e,.inr ⟨g,hr.cells b g (D8 By) hg,hv⟩,G8 hr hd Ah (hf.imp id λh=>by simpa [CT.flat]using h) ht⟩
 |.nilc::l,y,vs,hb,hf,⟨v,Ap,e,hv,ht⟩=>⟨v,Ap,e,hv,G8 hr hd (by simpa [CT.bnd]using hb) (hf.imp id λh=>by simpa [CT.flat]using h) ht⟩
 |.nils::l,y,vs,hb,hf,⟨v,Ap,e,hv,ht⟩=>⟨v,Ap,e,hv,G8 hr hd (by simpa [CT.bnd]using hb) (hf.imp id λh=>by simpa [CT.flat]using h) ht⟩
 |.lsome e0::l,y,vs,hb,hf,⟨v,Ap,e,hv,ht⟩=>by have ha:all:=hf.resolve_right (by simp[CT.flat]);exact⟨v,Ap,e,⟨hd (.slice e0) y.1 [v] (.inl ha) hv.1,hv.2⟩,G8 hr hd (by simpa [CT.bnd]using hb) (.inl ha) ht⟩
 |.junk::l,y,vs,hb,hf,⟨v,Ap,e,hv,ht⟩=>⟨v,Ap,e,hv,G8 hr hd (by simpa [CT.bnd]using hb) (hf.imp id λh=>by simpa [CT.flat]using h) ht⟩
theorem f4{m:Nat}{E E':Env}{ids AU:List Nat}(hr:Ren2 m E E' ids AU){all:Prop}(hd:∀(τ:Ty)(x:τ.den)(us:List Value),(all\/τ.flat=true)->DRep E.w E.ok τ x us->DRep E'.w E'.ok τ x us):∀{l:List (Bool×List CT)}{y:ST.dens l}{vs:List Value},ST.bnd m l=true->(all\/ST.flat l=true)->TReps E (mkS ids l y) vs->TReps E' (mkS AU l y) vs
 |[],_,_,_,_,h=>h
 |t::l,y,vs,hb,hf,⟨v,Ap,e,⟨xs,hx,hv⟩,ht⟩=>by obtain⟨By,Ah⟩:=andB (show(CT.bnd m t.2&&ST.bnd m l)=true from hb);have H7:all\/CT.flat t.2=true:=hf.imp id λh=>(andB (show(CT.flat t.2&&ST.flat l)=true from h)).1;have U3:all\/ST.flat l=true:=hf.imp id λh=>(andB (show(CT.flat t.2&&ST.flat l)=true from h)).2;exact⟨v,Ap,e,⟨xs,G8 hr hd By H7 hx,hv⟩,f4 hr hd Ah U3 ht⟩
def Hx:List Value->Value
 |[v]=>v
 |vs=>.tuple vs.toArray
theorem TReps.res{E:Env}:∀{ts:List (Bool×List C)}{vs:List Value},TReps E ts vs->VRep E (resV ts) (Hx vs)
 |[],vs,h=>by have h':vs=[]:=h;subst h';exact⟨[],rfl,h⟩
 |[t],vs,⟨v,Ap,e,h1,h2⟩=>by have Ei:Ap=[]:=h2;subst Ei e;exact VRep.mk h1
 |t::t2::ts,vs,h=>by obtain⟨v,Ap,e,h1,v2,vs2,e2,h2,h3⟩:=id h;subst e e2;exact⟨_,rfl,h⟩
theorem LR{m:Nat}{E E':Env}{ids AU:List Nat}(hr:Ren2 m E E' ids AU)(BR:E'.base<=E.base){all:Prop}(hd:∀(τ:Ty)(x:τ.den)(us:List Value),(all\/τ.flat=true)->DRep E.w E.ok τ x us->DRep E'.w E'.ok τ x us)(hw:E'.w=E.w):∀{l:List BT}{y:BT.dens l}{j:Nat}{B:Blk}{p:Pl},BT.bnd m l=true->(all\/BT.flat l=true)->(mkB ids l y)[j]?=some B->BRep E B p->∃B',(mkB AU l y)[j]?=some B'/\BRep E' B' p/\B'.live=B.live/\(∀t e ver l,B'=.row t e ver l->B=.row t e ver l)/\(∀t et e ver Ag hole l,B'=.mat t et e ver Ag hole l->B=.mat t et e ver Ag hole l)/\(∀t e ver Ag hole l,B'=.tree t e ver Ag hole l->B=.tree t e ver Ag hole l)
 |[],_,j,_,_,_,_,h,_=>by simp[mkB]at h
 |.cells t l::r,y,0,B,p,hb,hf,h,hB=>by
  simp only[mkB,D1,Af]at h;subst h;obtain⟨By,Ah⟩:=andB (show(CT.bnd m l&&BT.bnd m r)=true from hb);have H7:all\/CT.flat l=true:=hf.imp id λh=>(andB (show(CT.flat l&&BT.flat r)=true from h)).1;refine⟨_,rfl,?_,rfl,(λt e ver l h=>by cases h),(λt et e ver Ag hole l h=>by cases h),λt e ver Ag hole l h=>by cases h⟩;cases p with
  |row _ _=>exact hB.elim
  |cells g=>obtain⟨vs,hh,CH⟩:=hB;exact⟨vs,by rw[hw];exact hh,G8 hr hd By H7 CH⟩
 |.row t e::r,y,0,B,p,hb,hf,h,hB=>by
  simp only[mkB,D1,Af]at h;subst h;refine⟨_,rfl,?_,rfl,(λ_ _ _ _ h=>h),(λ_ _ _ _ _ _ _ h=>h),λ_ _ _ _ _ _ h=>h⟩;have H7:all\/e.flat=true:=hf.imp id λh=>(andB (show(e.flat&&BT.flat r)=true from h)).1;cases p with
  |cells _=>exact hB.elim
  |row sv Ab=>obtain⟨h0,xs,h1,h2⟩:=hB;refine⟨h0,xs,h1.mono λx u hu=>hd e x u H7 hu,?_⟩;rw[hw];exact R2 h2 BR
 |.mat t et e::r,y,0,B,p,hb,hf,h,hB=>by
  simp only[mkB,D1,Af]at h;subst h;refine⟨_,rfl,?_,rfl,(λ_ _ _ _ h=>by cases h),(λ_ _ _ _ _ _ _ h=>h),λ_ _ _ _ _ _ h=>h⟩;have H7:all\/e.flat=true:=hf.imp id λh=>(andB (show(e.flat&&BT.flat r)=true from h)).1;cases p with
  |cells _=>exact hB.elim
  |row sv Ab=>have hM:MatOk E t et e none _ sv Ab:=hB;obtain⟨vs,h1,h2⟩:=hM.outer;refine⟨⟨vs,by rw[hw];exact R2 h1 BR,h2⟩,hM.len,hM.hole,λi s x hs hx=>?_,hM.sep0,hM.sep⟩;obtain⟨xs,h3,h4⟩:=hM.inner i s x hs hx;exact⟨xs,h3.mono λx u hu=>hd e x u H7 hu,by rw[hw];exact R2 h4 BR⟩
 |.tree t e::r,y,0,B,p,hb,hf,h,hB=>by
  simp only[mkB,D1,Af]at h;subst h;refine⟨_,rfl,?_,rfl,(λ_ _ _ _ h=>by cases h),(λ_ _ _ _ _ _ _ h=>by cases h),λ_ _ _ _ _ _ h=>h⟩;have ha:all\/e.flat=true:=hf.imp id λh=>(andB (show(e.flat&&BT.flat r)=true from h)).1;cases p with
  |cells _=>exact hB.elim
  |row sv Ab=>have hT:TreeOk E t e none _ sv Ab:=hB;obtain⟨hv,F,h1,h2,h3⟩:=hT.rep;refine⟨⟨hv,F,?_,h2,h3⟩,hT.top⟩;rw[hw];exact Owns.renF (all:=all) BR (λτ x us hf h=>by have:=hd τ x us hf h;rw[hw]at this;exact this) (o:=.r t e) ha h1
 |.tree t e::r,y,j+1,B,p,hb,hf,h,hB=>by simp only[mkB,DI]at h⊢;exact LR hr BR hd hw hb (hf.imp id λh=>(andB (show(e.flat&&BT.flat r)=true from h)).2) h hB
 |.fmap t l::r,y,0,B,p,hb,hf,h,hB=>by
  simp only[mkB,D1,Af]at h;subst h;refine⟨_,rfl,?_,rfl,(λ_ _ _ _ h=>by cases h),(λ_ _ _ _ _ _ _ h=>by cases h),λ_ _ _ _ _ _ h=>by cases h⟩;have By:=(andB (show(l.all (λe=>Nat.blt e.2.2 m)&&BT.bnd m r)=true from hb)).1;cases p with
  |row _ _=>exact hB.elim
  |cells g=>
   obtain⟨es,C8,hh,hm⟩:=hB;refine⟨es,C8,by rw[hw];exact hh,?_⟩
   have key:∀{l:List (List UInt8×(FuncId×Nat))}{es:List MapEntry},l.all (λe=>Nat.blt e.2.2 m)=true->FRep E (fIds ids l) es->FRep E' (fIds AU l) es:=by
    intro l
    induction l with
    |nil=>intro es _ h;exact h
    |cons x l ih=>intro es hb ⟨e,r,g,q1,q2,q3,q4,q5⟩;obtain⟨b1,b2⟩:=andB (show(Nat.blt x.2.2 m&&l.all (λe=>Nat.blt e.2.2 m))=true from hb);exact⟨e,r,g,q1,q2,hr.cells x.2.2 g (D8 b1) q3,q4,ih b2 q5⟩
   exact key By hm
 |.fmap t l::r,y,j+1,B,p,hb,hf,h,hB=>by simp only[mkB,DI]at h⊢;exact LR hr BR hd hw (andB (show(l.all (λe=>Nat.blt e.2.2 m)&&BT.bnd m r)=true from hb)).2 hf h hB
 |.mat t et e::r,y,j+1,B,p,hb,hf,h,hB=>by simp only[mkB,DI]at h⊢;exact LR hr BR hd hw hb (hf.imp id λh=>(andB (show(e.flat&&BT.flat r)=true from h)).2) h hB
 |.map t k v vg::r,y,0,B,p,hb,hf,h,hB=>by
  simp only[mkB,D1,Af]at h;subst h;refine⟨_,rfl,?_,rfl,(λ_ _ _ _ h=>h),(λ_ _ _ _ _ _ _ h=>h),λ_ _ _ _ _ _ h=>h⟩;have H7:all\/k.flat=true:=hf.imp id λh=>(andB (show(k.flat&&(v.flat&&BT.flat r))=true from h)).1;have U3:all\/v.flat=true:=hf.imp id λh=>(andB (andB (show(k.flat&&(v.flat&&BT.flat r))=true from h)).2).1;cases p with
  |row _ _=>exact hB.elim
  |cells g=>obtain⟨es,C8,hh,hm⟩:=hB;exact⟨es,C8,by rw[hw];exact hh,hm.mono (λx u hu=>hd k x u H7 hu) (λx u hu=>hd v x u U3 hu)⟩
 |.map t k v vg::r,y,j+1,B,p,hb,hf,h,hB=>by simp only[mkB,DI]at h⊢;exact LR hr BR hd hw hb (hf.imp id λh=>(andB (andB (show(k.flat&&(v.flat&&BT.flat r))=true from h)).2).2) h hB
 |.cells t l::r,y,j+1,B,p,hb,hf,h,hB=>by simp only[mkB,DI]at h⊢;exact LR hr BR hd hw (andB (show(CT.bnd m l&&BT.bnd m r)=true from hb)).2 (hf.imp id λh=>(andB (show(CT.flat l&&BT.flat r)=true from h)).2) h hB
 |.row t e::r,y,j+1,B,p,hb,hf,h,hB=>by simp only[mkB,DI]at h⊢;exact LR hr BR hd hw hb (hf.imp id λh=>(andB (show(e.flat&&BT.flat r)=true from h)).2) h hB
def fnBl(l:List Blk):Nat->Option Blk:=λb=>l[b]?
structure SpecOk (P:Program) (f:FuncId) (S:Spec):Prop where
 fn:∃fn,P.funcs[f]?=some fn/\(fn.name== "runtime.NumGoroutine")=false/\fn.body.isNone=false
 ok:∀{β:Type}(x:ST.dens S.params×BT.dens S.ins)(k:ST.dens S.res×BT.dens S.outs->Option β)(r:β),S.run x k=some r->
  ∃y,k y=some r/\∀(ok0:OK0 P)(pl:Nat->Option Pl)(w:World)(args:List Value),
   RelB ok0 w.heap.size pl (fnBl (mkB (AH 0 S.ins.length) S.ins x.2)) w->
   TReps (Al ok0 w.heap.size pl (fnBl (mkB (AH 0 S.ins.length) S.ins x.2)) w) (mkS (AH 0 S.ins.length) S.params x.1) args->
   Calls P f args.toArray w λe w'=>∃Bh Ai,e=.returned (Hx Bh)/\
    RelB ok0 w.heap.size Ai (fnBl (mkB (AH 0 S.outs.length) S.outs y.2)) w'/\
    StepM S.ins.length pl (fnBl (mkB (AH 0 S.ins.length) S.ins x.2)) w Ai (fnBl (mkB (AH 0 S.outs.length) S.outs y.2)) w'/\
    TReps (Al ok0 w.heap.size Ai (fnBl (mkB (AH 0 S.outs.length) S.outs y.2)) w') (mkS (AH 0 S.outs.length) S.res y.1) Bh
structure RowOk (P:Program) (f:FuncId) (F:RowF):Prop where
 fn:∃fn,P.funcs[f]?=some fn/\(fn.name== "runtime.NumGoroutine")=false/\fn.body.isNone=false
 flat:F.e.flat=true
 len:F.cut=false->∀l,(F.run l).length=l.length
 ok:∀(w:World)(base:Nat)(sv:Value)(l:List F.e.den)(xs:List Value),F.dom l=true->base<=w.heap.size->GlobR P sv.ownBlock w->DList (λx u=>DRep w (λ_=>True) F.e x u) l xs->w.ownsRow base F.t F.e.size sv l.length xs->
  Calls P f (sv::F.extra).toArray w λe w'=>∃AM,e=.returned (bif F.cut then AM else .tuple #[])/\w.grownBy w' sv.ownBlock/\(F.cut=false->AM=sv)/\(AM.ownBlock=sv.ownBlock\/∀g,AM.ownBlock=some g->w.heap.size<=g)/\
   ∃Dk,DList (λx u=>DRep w (λ_=>True) F.e x u) (F.run l) Dk/\w'.ownsRow base F.t F.e.size AM (F.run l).length Dk
def Wt(P:Program)(f:FuncId)(F:BldF)(w:World)(base b:Nat)(v:Value)(l:List Int):Nat->Prop
 |0=>∀s:List UInt8,l.length+s.length<=140737488355328->Calls P f #[.pointer (some ⟨b,0,none⟩),.string ⟨s.toArray⟩] w λe w'=>
   e=.returned (.tuple #[.int .i64 (s.length:Int),.nilIface])/\∃w1 w2 v',w.grownBy w1 (some b)/\w1.heap[b]?=some (.cells #[.pointer (some ⟨b,0,none⟩),v] F.t (0,0))/\
    w1.grownBy w2 v.ownBlock/\(v'.ownBlock=v.ownBlock\/∀g,v'.ownBlock=some g->w1.heap.size<=g)/\w2.ownsRow base F.te 1 v' (l.length+s.length) ((l++C7 s).map (Value.int .u8))/\
    w2.grownBy w' (some b)/\w'.heap[b]?=some (.cells #[.pointer (some ⟨b,0,none⟩),v'] F.t (0,0))
 |1=>JS l=true->Calls P f #[.pointer (some ⟨b,0,none⟩)] w λe w'=>e=.returned (.string ⟨(Hu l).toArray⟩)/\w.grownBy w' v.ownBlock
 |_=>Calls P f #[.pointer (some ⟨b,0,none⟩)] w λe w'=>e=.returned (.int .i64 (l.length:Int))/\w.grownBy w' none
structure BldOk (P:Program) (f:FuncId) (F:BldF):Prop where
 fn:∃fn,P.funcs[f]?=some fn/\(fn.name== "runtime.NumGoroutine")=false/\fn.body.isNone=false
 ok:F.op<3->∀(w:World)(base b:Nat)(p v:Value)(l:List Int),base<=w.heap.size->w.heap[b]?=some (.cells #[p,v] F.t (0,0))->(p=.pointer none\/p=.pointer (some ⟨b,0,none⟩))->
  w.ownsRow base F.te 1 v l.length (l.map (Value.int .u8))->v.ownBlock≠some b->Wt P f F w base b v l F.op
 join:F.op=3->∀(w:World)(base:Nat)(sv:Value)(l:List (List UInt8))(sep:List UInt8),w.ownsRow base F.t 1 sv l.length (l.map λs=>Value.string ⟨s.toArray⟩)->l.length<=140737488355328->(Lib.join l sep).length<=140737488355328->
  Calls P f #[sv,.string ⟨sep.toArray⟩] w λe w'=>e=.returned (.string ⟨(Lib.join l sep).toArray⟩)/\w.grownBy w' none
structure AbsOk (P:Program) (f:FuncId) (A:AbsF):Prop where
 fn:∃fn,P.funcs[f]?=some fn/\(fn.name== "runtime.NumGoroutine")=false/\fn.body.isNone=false
 ok:∀{β:Type}(bl:Nat->Option Blk)(nx:Nat)(args:List V)(kk:V->List Nat->List (Nat×Blk)->Option β)(r:β),A.run bl nx args kk=some r->
  ∃v rd wr,kk v rd wr=some r/\∀Aa:Nat->Option Blk,(∀b∈rd,Aa b=bl b)->∀(ok0:OK0 P)(base:Nat)(pl:Nat->Option Pl)(w:World)(us:List Value),RelB ok0 base pl Aa w->VReps (Al ok0 base pl Aa w) args us->
   Calls P f us.toArray w λe w'=>∃u Ai,e=.returned u/\RelB ok0 base Ai (updL Aa wr) w'/\Step pl Aa w Ai (updL Aa wr) w'/\VRep (Al ok0 base Ai (updL Aa wr) w') v u
structure ΓOk (P:Program) (Γ:FuncId->Option Fun):Prop where
 spec:∀f S,Γ f=some (.spec S)->SpecOk P f S
 rows:∀f F,Γ f=some (.rows F)->RowOk P f F
 bld:∀f F,Γ f=some (.bld F)->BldOk P f F
 abs:∀f A,Γ f=some (.abs A)->AbsOk P f A
def place:List Nat->Nat->Option Nat
 |[],_=>none
 |x::r,i=>if i=x then some 0 else(place r i).map (· +1)
theorem G9:∀{l:List Nat}{i b:Nat},place l i=some b->l[b]?=some i
 |[],i,b,h=>by simp[place]at h
 |x::r,i,b,h=>by
  simp only[place]at h;split at h
  ·rename_i hx
   simp only[Af]at h;subst h hx;rfl
  ·cases hp:place r i with
   |none=>rw[hp]at h;cases h
   |some c=>rw[hp]at h;simp only[EM,Af]at h;subst h;simpa using G9 hp
theorem Jr:∀{l:List Nat}{i b:Nat},l.Nodup->l[b]?=some i->place l i=some b
 |[],i,b,_,h=>by simp at h
 |x::r,i,0,_,h=>by simp at h;subst h;simp[place]
 |x::r,i,b+1,hn,h=>by
  have h':r[b]?=some i:=by simpa using h
  have AL:i≠x:=by rintro rfl;exact(KJ.1 hn).1 (CI h')
  simp[place,AL,Jr (KJ.1 hn).2 h']
theorem Al0{l:List Nat}{i:Nat}(h:i∉l):place l i=none:=by
 cases hp:place l i with
 |none=>rfl
 |some b=>exact absurd (CI (G9 hp)) h
theorem yD{f:Nat->Option Blk}:∀{l:List Nat}{xs:List Blk}(i:Nat),l.Nodup->l.length=xs.length->updL f (l.zip xs) i=match place l i with|some b=>xs[b]?|none=>f i:=by
 intro l
 induction l generalizing f with
 |nil=>intro xs i _ _;rfl
 |cons x r ih=>
  intro xs i hn hl;cases xs with
  |nil=>simp at hl
  |cons B xs=>
   simp only[List.zip_cons_cons,updL];rw[ih i (KJ.1 hn).2 (by simpa using hl)];simp only[place];by_cases hi:i=x
   ·subst hi
    rw[Al0 (KJ.1 hn).1];simp[upd]
   ·simp only[hi,Cx]
    cases hp:place r i with
    |none=>simp[upd,hi]
    |some b=>simp
theorem yE{ps:List (Nat×Nat)}:∀{n j:Nat}{ids:List Nat},Rh ps j n=some ids->ids.length=n
 |0,j,ids,h=>by simp only[Rh,Af]at h;subst h;rfl
 |n+1,j,ids,h=>by
  simp only[Rh]at h;split at h
  ·rename_i b r _ hr
   simp only[Af]at h;subst h;simp[yE hr]
  ·cases h
theorem f6{bl:Nat->Option Blk}{ids:List Nat}:∀{l:List BT}{is:List Nat}{y:BT.dens l},FS bl ids l is=some y->∀i∈is,∃t cs,bl i=some (.cells t cs)
 |[],is,y,hp=>by
  cases is with
  |nil=>intro i h;simp at h
  |cons i is=>simp[FS]at hp
 |.row t e::r,is,y,hp=>by cases is<;>simp[FS]at hp
 |.map t k v vg::r,is,y,hp=>by cases is<;>simp[FS]at hp
 |.mat t et e::r,is,y,hp=>by cases is<;>simp[FS]at hp
 |.tree t e::r,is,y,hp=>by cases is<;>simp[FS]at hp
 |.fmap t l::r,is,y,hp=>by cases is<;>simp[FS]at hp
 |.cells t l::r,is,y,hp=>by
  cases is with
  |nil=>intro i h;simp at h
  |cons i is=>
   simp only[FS]at hp;split at hp
   ·rename_i t' cs Aj
    cases ht:Nat.beq t t' with
    |false=>rw[ht]at hp;cases hp
    |true=>
     simp only[ht,Am]at hp;split at hp
     ·cases hp
     ·split at hp
      ·cases hp
      ·rename_i z h2
       intro j hj;rcases Bf.1 hj with rfl|hj
       ·exact⟨t',cs,Aj⟩
       ·exact f6 h2 j hj
   ·cases hp
theorem LS{ids ids2:List Nat}:∀{l:List BT}{y:BT.dens l}{j:Nat}{t:TypeId}{e:Ty}{ver:Nat}{l':List e.den},(mkB ids l y)[j]?=some (.row t e ver l')->(mkB ids2 l y)[j]?=some (.row t e ver l')
 |[],_,j,_,_,_,_,h=>by simp[mkB]at h
 |.cells _ _::r,y,0,_,_,_,_,h=>by simp[mkB]at h
 |.row _ _::r,y,0,_,_,_,_,h=>by simpa [mkB]using h
 |.cells _ _::r,y,j+1,_,_,_,_,h=>by simp only[mkB,DI]at h⊢;exact LS h
 |.row _ _::r,y,j+1,_,_,_,_,h=>by simp only[mkB,DI]at h⊢;exact LS h
 |.map _ _ _ _::r,y,0,_,_,_,_,h=>by simp[mkB]at h
 |.map _ _ _ _::r,y,j+1,_,_,_,_,h=>by simp only[mkB,DI]at h⊢;exact LS h
 |.mat _ _ _::r,y,0,_,_,_,_,h=>by simp[mkB]at h
 |.mat _ _ _::r,y,j+1,_,_,_,_,h=>by simp only[mkB,DI]at h⊢;exact LS h
 |.tree _ _::r,y,0,_,_,_,_,h=>by simp[mkB]at h
 |.tree _ _::r,y,j+1,_,_,_,_,h=>by simp only[mkB,DI]at h⊢;exact LS h
 |.fmap _ _::r,y,0,_,_,_,_,h=>by simp[mkB]at h
 |.fmap _ _::r,y,j+1,_,_,_,_,h=>by simp only[mkB,DI]at h⊢;exact LS h
theorem LT{ids ids2:List Nat}:∀{l:List BT}{y:BT.dens l}{j:Nat}{t et:TypeId}{e:Ty}{ver Ag:Nat}{hole:Option Nat}{l':List (List e.den)},(mkB ids l y)[j]?=some (.mat t et e ver Ag hole l')->(mkB ids2 l y)[j]?=some (.mat t et e ver Ag hole l')
 |[],_,j,_,_,_,_,_,_,_,h=>by simp[mkB]at h
 |.cells _ _::r,y,0,_,_,_,_,_,_,_,h=>by simp[mkB]at h
 |.row _ _::r,y,0,_,_,_,_,_,_,_,h=>by simp[mkB]at h
 |.map _ _ _ _::r,y,0,_,_,_,_,_,_,_,h=>by simp[mkB]at h
 |.mat _ _ _::r,y,0,_,_,_,_,_,_,_,h=>by simpa [mkB]using h
 |.cells _ _::r,y,j+1,_,_,_,_,_,_,_,h=>by simp only[mkB,DI]at h⊢;exact LT h
 |.row _ _::r,y,j+1,_,_,_,_,_,_,_,h=>by simp only[mkB,DI]at h⊢;exact LT h
 |.map _ _ _ _::r,y,j+1,_,_,_,_,_,_,_,h=>by simp only[mkB,DI]at h⊢;exact LT h
 |.mat _ _ _::r,y,j+1,_,_,_,_,_,_,_,h=>by simp only[mkB,DI]at h⊢;exact LT h
 |.tree _ _::r,y,0,_,_,_,_,_,_,_,h=>by simp[mkB]at h
 |.tree _ _::r,y,j+1,_,_,_,_,_,_,_,h=>by simp only[mkB,DI]at h⊢;exact LT h
 |.fmap _ _::r,y,0,_,_,_,_,_,_,_,h=>by simp[mkB]at h
 |.fmap _ _::r,y,j+1,_,_,_,_,_,_,_,h=>by simp only[mkB,DI]at h⊢;exact LT h
theorem f9{ids ids2:List Nat}:∀{l:List BT}{y:BT.dens l}{j:Nat}{t:TypeId}{e:OT}{ver Ag:Nat}{hole:Option Path}{l':List e.ty.den},(mkB ids l y)[j]?=some (.tree t e ver Ag hole l')->(mkB ids2 l y)[j]?=some (.tree t e ver Ag hole l')
 |[],_,j,_,_,_,_,_,_,h=>by simp[mkB]at h
 |.tree _ _::r,y,0,_,_,_,_,_,_,h=>by simpa [mkB]using h
 |.cells _ _::r,y,0,_,_,_,_,_,_,h|.row _ _::r,y,0,_,_,_,_,_,_,h|.map _ _ _ _::r,y,0,_,_,_,_,_,_,h|.mat _ _ _::r,y,0,_,_,_,_,_,_,h=>by simp[mkB]at h
 |.cells _ _::r,y,j+1,_,_,_,_,_,_,h|.row _ _::r,y,j+1,_,_,_,_,_,_,h|.map _ _ _ _::r,y,j+1,_,_,_,_,_,_,h|.mat _ _ _::r,y,j+1,_,_,_,_,_,_,h|.tree _ _::r,y,j+1,_,_,_,_,_,_,h|.fmap _ _::r,y,j+1,_,_,_,_,_,_,h=>by simp only[mkB,DI]at h⊢;exact f9 h
theorem LU{ids:List Nat}:∀{l:List BT}{y:BT.dens l}{j:Nat}{B:Blk},(mkB ids l y)[j]?=some B->B.live=true
 |[],_,j,_,h=>by simp[mkB]at h
 |.cells _ _::r,y,0,_,h=>by simp only[mkB,D1,Af]at h;subst h;rfl
 |.row _ _::r,y,0,_,h=>by simp only[mkB,D1,Af]at h;subst h;rfl
 |.cells _ _::r,y,j+1,_,h=>by simp only[mkB,DI]at h;exact LU h
 |.row _ _::r,y,j+1,_,h=>by simp only[mkB,DI]at h;exact LU h
 |.map _ _ _ _::r,y,0,_,h=>by simp only[mkB,D1,Af]at h;subst h;rfl
 |.map _ _ _ _::r,y,j+1,_,h=>by simp only[mkB,DI]at h;exact LU h
 |.mat _ _ _::r,y,0,_,h=>by simp only[mkB,D1,Af]at h;subst h;rfl
 |.mat _ _ _::r,y,j+1,_,h=>by simp only[mkB,DI]at h;exact LU h
 |.tree _ _::r,y,0,_,h=>by simp only[mkB,D1,Af]at h;subst h;rfl
 |.tree _ _::r,y,j+1,_,h=>by simp only[mkB,DI]at h;exact LU h
 |.fmap _ _::r,y,0,_,h=>by simp only[mkB,D1,Af]at h;subst h;rfl
 |.fmap _ _::r,y,j+1,_,h=>by simp only[mkB,DI]at h;exact LU h
theorem Ng{n b:Nat}(h:b<n):(AH 0 n).getD b 0=b:=by have:=eU (n:=n) (s:=0) h;simp[List.getD,this]
section
variable{P:Program}{o:Oper}{ρ:Operand->V}{bl:Nat->Option Blk}{β:Type}{r:β}
def Blk.lend:Blk->Bool
 |.row _ _ _ _=>true
 |.tree _ _ _ _ _ _=>true
 |_=>false
theorem Blk.lend_live{B:Blk}(h:B.lend=true):B.live=true:=by cases B<;>first|rfl|cases h
theorem fE{ok0:OK0 P}{base:Nat}{pl:Nat->Option Pl}{bl:Nat->Option Blk}{w:World}(hr:RelB ok0 base pl bl w){b:Nat}{B:Blk}{p:Pl}(hb:bl b=some B)(hl:B.lend=true)(hp:pl b=some p){g:Nat}(hg:p.has g):base<=g/\¬ok0.no g:=by
 refine⟨?_,λhn=>(hr.glob.no g hn).2 ⟨b,B,p,hb,Blk.lend_live hl,hp,hg⟩⟩;obtain⟨q,hq,hB⟩:=hr.blks b _ hb;rw[hp]at hq;injection hq with hq;subst hq;cases B with
 |row t e ver l=>
  cases p with
  |cells _=>exact hB.elim
  |row sv Ab=>obtain⟨rfl,xs,_,ho⟩:=hB;exact(ho.lt g (Pl.has_row hg)).1
 |tree t e ver Ag hole l=>
  cases p with
  |cells _=>exact hB.elim
  |row sv Ab=>have hT:TreeOk _ t e hole l sv Ab:=hB;obtain⟨hv,F,h1,h2,_⟩:=hT.rep;obtain⟨s,hs,hg⟩:=h2.of_has hg;exact(h1.lt s hs g hg).1
 |_=>cases hl
theorem Al1{S:Spec}{bl:Nat->Option Blk}{rds:List Nat}{p:Nat×Blk}(h:p∈OZ S bl rds):p.2=.dead/\p.1∈rds/\∃B,bl p.1=some B/\B.lend=true:=by
 unfold OZ at h;cases hf:(ST.flat S.res&&BT.flat S.outs)with
 |true=>rw[hf]at h;simp at h
 |false=>
  rw[hf,Cj]at h;obtain⟨b,hb,hp⟩:=List.mem_filterMap.1 h;split at hp
  ·rename_i Aj
   injection hp with hp;subst hp;exact⟨rfl,hb,_,Aj,rfl⟩
  ·rename_i Aj
   injection hp with hp;subst hp;exact⟨rfl,hb,_,Aj,rfl⟩
  ·cases hp
theorem Al2{S:Spec}{bl:Nat->Option Blk}{rds:List Nat}(hf:(ST.flat S.res&&BT.flat S.outs)=false){b:Nat}(hb:b∈rds){B:Blk}(Aj:bl b=some B)(hl:B.lend=true):(b,Blk.dead)∈OZ S bl rds:=by unfold OZ;rw[hf,Cj];refine List.mem_filterMap.2 ⟨b,hb,?_⟩;rw[Aj];cases B<;>first|rfl|cases hl
theorem R6:∀{l:List (Nat×Blk)}{f:Nat->Option Blk}(i:Nat),(∀p∈l,p.2=Blk.dead)->(updL f l i=f i/\(∀p∈l,p.1≠i))\/(updL f l i=some .dead/\∃p∈l,p.1=i)
 |[],f,i,_=>.inl ⟨rfl,λ_ h=>by simp at h⟩
 |(j,x)::l,f,i,h=>by
  have hx:x=.dead:=h (j,x) (by simp);subst hx;simp only[updL];rcases R6 (l:=l) (f:=upd f j .dead) i (λp hp=>h p (by simp[hp]))with⟨h1,h2⟩|⟨h1,p,hp,h2⟩
  ·by_cases Db:i=j
   ·subst Db
    exact .inr ⟨by rw[h1];simp[upd],(i,.dead),by simp,rfl⟩
   ·refine .inl ⟨by rw[h1];simp[upd,Db],λp hp=>?_⟩
    rcases Bf.1 hp with e|hp
    ·rw[e];exact λh=>Db h.symm
    ·exact h2 p hp
  ·exact .inr ⟨h1,p,by simp[hp],h2⟩
theorem Al3{F:RowF}{E:Env}{args:List V}{us:List Value}{b ver:Nat}(h:dM F args=some (b,ver))(CC:VReps E args us):∃u,us=u::F.extra/\VRep E (.c (.row b ver)) u:=by
 unfold dM at h;split at h
 ·rename_i b' ver' Cl
  cases h;obtain⟨u,C4,rfl,hu,hn⟩:=CC;have hn:C4=[]:=hn;subst hn;exact⟨u,by unfold RowF.extra;rw[Cl],hu⟩
 ·rename_i b' ver' g g' Cl
  cases hg:Nat.beq g g' with
  |false=>rw[hg]at h;cases h
  |true=>
   rw[hg]at h;cases h;have hg:=As hg;subst hg;obtain⟨u,C4,rfl,hu,u2,us2,rfl,⟨gs,tM,hv⟩,hn⟩:=CC;have hn:us2=[]:=hn;subst hn
   have:gs=[]:=by
    cases gs with
    |nil=>rfl
    |cons _ _=>simp at tM
   subst this;exact⟨u,by unfold RowF.extra;rw[Cl,hv];rfl,hu⟩
 ·cases h
theorem Al4{F:RowF}{f:FuncId}(hF:RowOk P f F){kk:K β}{args:List V}(hk:dN F bl args kk=some r)(ET:∀(Aa:Nat->Option Blk)(ok0:OK0 P)(base:Nat)(pl:Nat->Option Pl)(w:World)(a:Act),RelB ok0 base pl Aa w->(∀x∈o.op.operands,VRep (Al ok0 base pl Aa w) (ρ x) (a.eval x))->∃us,VReps (Al ok0 base pl Aa w) args us/\((∃fn,P.funcs[f]?=some fn/\(fn.name== "runtime.NumGoroutine")=false/\fn.body.isNone=false)->(execOp a.eval o).run P w=.ok (.enter f us.toArray) w)):Sound P o ρ bl kk r:=by
 unfold dN at hk;split at hk
 ·rename_i b ver AzL
  split at hk
  ·rename_i t e ver' l Aj
   cases hc:(Nat.beq ver ver'&&Nat.beq t F.t)with
   |false=>rw[hc]at hk;cases hk
   |true=>
    simp only[hc,Am]at hk;obtain⟨h1,h2⟩:=andB hc;have h1:=As h1;have h2:=As h2;subst h1 h2;split at hk
    ·rename_i he
     subst he;obtain⟨Of,hk⟩:=D2 hk
     have main:∀(Aa:Nat->Option Blk),Aa b=bl b->∀(ok0:OK0 P)(base:Nat)(pl:Nat->Option Pl)(w:World)(a:Act),RelB ok0 base pl Aa w->(∀x∈o.op.operands,VRep (Al ok0 base pl Aa w) (ρ x) (a.eval x))->
       ∃sv,pl b=some (.row sv [])/\(execOp a.eval o).run P w=.ok (.enter f (sv::F.extra).toArray) w/\Calls P f (sv::F.extra).toArray w λe w'=>∃AM,e=.returned (bif F.cut then AM else .tuple #[])/\w.grownBy w' sv.ownBlock/\(F.cut=false->AM=sv)/\
        (AM.ownBlock=sv.ownBlock\/∀g,AM.ownBlock=some g->w.heap.size<=g)/\∃Dk,DList (λx u=>DRep w (λ_=>True) F.e x u) (F.run l) Dk/\w'.ownsRow base F.t F.e.size AM (F.run l).length Dk:=by
      intro Aa Ah ok0 base pl w a hr Ae;obtain⟨us,CC,AA⟩:=ET Aa ok0 base pl w a hr Ae;have AA:=AA hF.fn;obtain⟨u,rfl,_,sv,Ab,Aq,AT⟩:=Al3 AzL CC;have BM:Aa b=some (.row F.t F.e ver l):=Ah.trans Aj;have hu:=(AT F.t F.e ver l BM).2 rfl;subst hu;obtain⟨p,hp,hB⟩:=hr.blks b _ BM;have:p=.row u Ab:=by have h2:pl b=some (.row u Ab):=Aq;rw[hp]at h2;injection h2
      subst this;obtain⟨h0,xs,hd,Ak⟩:=hB;subst h0;exact⟨u,Aq,AA,hF.ok w base u l xs Of hr.baseLe (hr.glob.row λg hg=>⟨b,_,_,BM,rfl,hp,Or.inl hg⟩) (hd.mono λx us hx=>hx.flat hF.flat) Ak⟩
     cases Qs:F.cut with
     |false=>rw[Qs]at hk;simp only[Cj]at hk;refine⟨_,_,_,hk,λAa Ah=>?_⟩;have BM:Aa b=some (.row F.t F.e ver l):=(Ah b (by simp)).trans Aj;intro ok0 base pl w a hr Ae K Q hK;obtain⟨sv,Aq,AA,EG⟩:=main Aa (Ah b (by simp)) ok0 base pl w a hr Ae;unfold Oper.wp;rw[AA];simp only[Oper.upon];refine EG.mono λe w' ⟨AM,he,GP,Jn,F5,Dk,Cs,JE⟩=>?_;have Jn:=Jn Qs;subst Jn;rw[Qs]at he;simp only[Cj]at he;subst he;simp only;have AP:ver<=ver/\(ver=ver->AM=AM/\(F.run l).length=l.length):=⟨AC _,λ_=>⟨rfl,hF.len Qs l⟩⟩;have hs:=Step.grown (l':=F.run l) hr BM Aq GP F5 AP;refine hK (.tuple #[]) (upd pl b (.row AM [])) w' (RelB.grown hr BM Aq GP F5 AP ⟨rfl,Dk,Cs.mono λx u hu=>hu.flat hF.flat,JE⟩) hs ⟨[],rfl,rfl⟩
     |true=>
      rw[Qs]at hk;simp only[Am]at hk;refine⟨_,_,_,hk,λAa Ah=>?_⟩;have BM:Aa b=some (.row F.t F.e ver l):=(Ah b (by simp)).trans Aj;intro ok0 base pl w a hr Ae K Q hK;obtain⟨sv,Aq,AA,EG⟩:=main Aa (Ah b (by simp)) ok0 base pl w a hr Ae;unfold Oper.wp;rw[AA];simp only[Oper.upon];refine EG.mono λe w' ⟨AM,he,GP,Jn,F5,Dk,Cs,JE⟩=>?_;rw[Qs]at he;simp only[Am]at he;subst he;simp only;have AP:ver<=ver+1/\(ver=ver+1->AM=sv/\(F.run l).length=l.length):=⟨Nat.le_succ _,λh=>by omega⟩;have hs:=Step.grown (l':=F.run l) hr BM Aq GP F5 AP;have hR:=RelB.grown hr BM Aq GP F5 AP ⟨rfl,Dk,Cs.mono λx u hu=>hu.flat hF.flat,JE⟩;refine hK AM (upd pl b (.row AM [])) w' hR hs ⟨?_,AM,[],by simp[Al,upd],λt e Ij l2 hb=>?_⟩
      ·rcases JE.2 with⟨h,_⟩|⟨g,cap,AQ,h,_⟩<;>rw[h]<;>rfl
      ·have hb:upd Aa b (.row F.t F.e (ver+1) (F.run l)) b=some (.row t e Ij l2):=hb
       simp only[upd]at hb;simp at hb;exact⟨by omega,λ_=>rfl⟩
    ·cases hk
  ·cases hk
 ·cases hk
theorem R7{w:World}{ok:Nat->Prop}{k:IntKind}:∀{l:List Int}{xs:List Value},DList (λ(x:Int) u=>DRep w ok (.int k) x u) l xs↔xs=l.map (Value.int k)
 |[],xs=>by simp[DList]
 |x::l,xs=>by
  simp only[DList,CE];constructor
  ·rintro⟨u,v,rfl,hu,hv⟩
   rw[R7.1 hv];simp only[DRep]at hu;subst hu;rfl
  ·rintro rfl
   exact⟨[.int k x],_,rfl,by simp[DRep],R7.2 rfl⟩
theorem fF{w:World}{ok:Nat->Prop}:∀{l:List (List UInt8)}{xs:List Value},DList (λ(x:List UInt8) u=>DRep w ok .str x u) l xs↔xs=l.map λs=>Value.string ⟨s.toArray⟩
 |[],xs=>by simp[DList]
 |x::l,xs=>by
  simp only[DList,CE];constructor
  ·rintro⟨u,v,rfl,hu,hv⟩
   rw[fF.1 hv];simp only[DRep]at hu;subst hu;rfl
  ·rintro rfl
   exact⟨[.string ⟨x.toArray⟩],_,rfl,by simp[DRep],fF.2 rfl⟩
theorem Pp{F:BldF}{bl:Nat->Option Blk}{i:Nat}{q:Option (Nat×Nat)}{l:List Int}(h:Rj F bl i=some (q,l)):∃c1 c2,bl i=some (.cells F.t [c1,c2])/\Ri c1 i=true/\((q=none/\l=[]/\c2=.nils)\/∃j ver,q=some (j,ver)/\c2=.row j ver/\bl j=some (.row F.te (.int .u8) ver l)):=by
 unfold Rj at h;split at h
 ·rename_i t p q' Aj
  cases hc:(Nat.beq t F.t&&Ri p i)with
  |false=>rw[hc]at h;cases h
  |true=>
   simp only[hc,Am]at h;obtain⟨h1,h2⟩:=andB hc;have h1:=As h1;subst h1;split at h
   ·simp only[Af,BC]at h
    obtain⟨rfl,rfl⟩:=h;exact⟨p,_,Aj,h2,.inl ⟨rfl,rfl,rfl⟩⟩
   ·rename_i j ver
    split at h
    ·rename_i te ver' l' H6
     cases Ch:(Nat.beq te F.te&&Nat.beq ver ver')with
     |false=>rw[Ch]at h;cases h
     |true=>simp only[Ch,Am,Af,BC]at h;obtain⟨rfl,rfl⟩:=h;obtain⟨h3,h4⟩:=andB Ch;have h3:=As h3;have h4:=As h4;subst h3 h4;exact⟨p,_,Aj,h2,.inr ⟨j,ver,rfl,rfl,H6⟩⟩
    ·cases h
   ·cases h
 ·cases h
theorem Pq{F:BldF}{ok0:OK0 P}{base:Nat}{pl:Nat->Option Pl}{bl:Nat->Option Blk}{w:World}(hr:RelB ok0 base pl bl w){i:Nat}{c1 c2:C}(Aj:bl i=some (.cells F.t [c1,c2]))(hs:Ri c1 i=true){u:Value}(hu:VRep (Al ok0 base pl bl w) (.c (.ptr i 0)) u):∃g p v,u=.pointer (some ⟨g,0,none⟩)/\pl i=some (.cells g)/\w.heap[g]?=some (.cells #[p,v] F.t (0,0))/\(p=.pointer none\/p=.pointer (some ⟨g,0,none⟩))/\CRep (Al ok0 base pl bl w) c2 v:=by
 obtain⟨g,Av,rfl⟩:=hu;have Av:pl i=some (.cells g):=Av;obtain⟨q,hq,hB⟩:=hr.blks i _ Aj;rw[Av]at hq;injection hq with hq;subst hq;obtain⟨vs,hh,v1,vs1,rfl,EU,v2,vs2,rfl,Gf,hn⟩:=hB;have hn:vs2=[]:=hn;subst hn;refine⟨g,v1,v2,rfl,Av,hh,?_,Gf⟩;cases c1<;>simp only[Ri]at hs<;>try(cases hs;done)
 ·exact .inl EU
 ·rename_i b
  have:=As hs;subst this;rcases EU with h|⟨g',C2,h⟩
  ·exact .inl h
  ·have C2:pl b=some (.cells g'):=C2
   rw[Av]at C2;injection C2 with C2;injection C2 with C2;subst C2;exact .inr h
theorem fG{F:BldF}{ok0:OK0 P}{base:Nat}{pl:Nat->Option Pl}{bl:Nat->Option Blk}{w:World}(hr:RelB ok0 base pl bl w){i j ver g:Nat}{B:Blk}(C6:bl i=some B)(tT:B.live=true)(Av:pl i=some (.cells g)){l:List Int}(H6:bl j=some (.row F.te (.int .u8) ver l)){v:Value}(hv:CRep (Al ok0 base pl bl w) (.row j ver) v)(Db:i≠j):pl j=some (.row v [])/\w.ownsRow base F.te 1 v l.length (l.map (Value.int .u8))/\v.ownBlock≠some g:=by
 obtain⟨_,sv,Ab,Aq,AT⟩:=hv;have hv:=(AT F.te (.int .u8) ver l H6).2 rfl;subst hv;have Aq:pl j=some (.row v Ab):=Aq;obtain⟨q,hq,hB⟩:=hr.blks j _ H6;rw[Aq]at hq;injection hq with hq;subst hq;obtain⟨rfl,xs,hd,Ak⟩:=hB;rw[R7.1 hd]at Ak;refine⟨Aq,Ak,λh=>?_⟩;exact hr.sep i j _ _ _ _ g Db C6 H6 tT rfl Av Aq rfl (.inl h)
theorem Step.still{pl:Nat->Option Pl}{bl:Nat->Option Blk}{w w':World}(hg:w.grownBy w' none):Step pl bl w pl bl w':=
 ⟨hg.os,hg.tape,hg.output,hg.size,λg Ao ho=>⟨hg.block g Ao (by simp),ho⟩,λ_ _ h=>h,λ_ sv Ab h=>⟨sv,Ab,h,KeepR.refl _ _ _⟩⟩
theorem RelB.still{ok0:OK0 P}{base:Nat}{pl:Nat->Option Pl}{bl:Nat->Option Blk}{w w':World}(hr:RelB ok0 base pl bl w)(hg:w.grownBy w' none):RelB ok0 base pl bl w':=by
 have hs:Step pl bl w pl bl w':=Step.still hg;refine⟨Df hr.baseLe hs.size,λi B hB=>?_,hr.sep,hr.fresh,hr.glob.out hs.size hs.out⟩;obtain⟨p,hp,hR⟩:=hr.blks i B hB;refine⟨p,hp,?_⟩;cases hl:B.live with
 |false=>cases B<;>first|exact trivial|simp[Blk.live]at hl
 |true=>exact BRep.mono hs.ext hR λg hq=>hg.block g (Own.lt hr ⟨i,B,p,hB,hl,hp,hq⟩) (by simp)
theorem yF{α:Type}{f:Nat->Option α}{i j:Nat}(Db:i≠j)(x y z:α):upd (upd (upd f i x) j y) i z=upd (upd f j y) i z:=by
 funext k;simp only[upd];by_cases h1:k=i
 ·simp[h1]
 ·by_cases h2:k=j
  ·simp[h1,h2]
  ·simp[h1,h2]
theorem yG(s:List UInt8):(C7 s).length=s.length:=by simp[C7]
theorem yH{E:Env}(s:List UInt8):VRep E (wrote s) (.tuple #[.int .i64 (s.length:Int),.nilIface]):=
 ⟨[.int .i64 (s.length:Int),.nilIface],rfl,_,_,rfl,⟨[.int .i64 (s.length:Int)],⟨_,_,rfl,rfl,rfl⟩,rfl⟩,_,_,rfl,⟨[.nilIface],⟨_,_,rfl,rfl,rfl⟩,rfl⟩,rfl⟩
theorem fH{w:World}{base:Nat}{t:TypeId}{size:Nat}{v:Value}{n:Nat}{xs:List Value}(h:w.ownsRow base t size v n xs):v.oneCell'=true:=by rcases h.2 with⟨h,_⟩|⟨g,cap,AQ,h,_⟩<;>rw[h]<;>rfl
theorem Al5{F:BldF}{f:FuncId}(hF:BldOk P f F){kk:K β}{nx:Nat}{args:List V}(hk:dO F bl nx args kk=some r)(ET:∀(Aa:Nat->Option Blk)(ok0:OK0 P)(base:Nat)(pl:Nat->Option Pl)(w:World)(a:Act),RelB ok0 base pl Aa w->(∀x∈o.op.operands,VRep (Al ok0 base pl Aa w) (ρ x) (a.eval x))->∃us,VReps (Al ok0 base pl Aa w) args us/\((∃fn,P.funcs[f]?=some fn/\(fn.name== "runtime.NumGoroutine")=false/\fn.body.isNone=false)->(execOp a.eval o).run P w=.ok (.enter f us.toArray) w)):Sound P o ρ bl kk r:=by
 unfold dO at hk;split at hk
 ·
  rename_i i s hn;split at hk
  ·rename_i l0 hb
   obtain⟨Gc,hk⟩:=D2 hk;obtain⟨Bb,hk⟩:=D2 hk;have Bb:=AV Bb;obtain⟨c1,c2,Aj,JG,hq⟩:=Pp hb
   obtain⟨rfl,rfl⟩:l0=[]/\c2=.nils:=by
    rcases hq with⟨_,h1,h2⟩|⟨j,ver,hq,_⟩
    ·exact⟨h1,h2⟩
    ·cases hq
   refine⟨_,_,_,hk,λAa Ah=>?_⟩;have BM:Aa i=some (.cells F.t [c1,.nils]):=(Ah i (by simp)).trans Aj
   have u7:Aa nx=none:=by
    rw[Ah nx (by simp)];unfold wU at Gc;split at Gc
    ·assumption
    ·cases Gc
   have AL:i≠nx:=by rintro rfl;rw[BM]at u7;cases u7
   intro ok0 base pl w a hr Ae K Q hK;obtain⟨us,CC,AA⟩:=ET Aa ok0 base pl w a hr Ae;have AA:=AA hF.fn;obtain⟨u,us1,rfl,hu,u2,us2,rfl,AS,Dx⟩:=CC;have Dx:us2=[]:=Dx;have AS:u2=.string ⟨s.toArray⟩:=AS;subst Dx AS;obtain⟨g,p,v,rfl,Av,HX,hp,hv⟩:=Pq hr BM JG hu;have hv:v=.slice none 0 0:=hv;subst hv;have Ep:=hF.ok (by rw[hn];decide) w base g p (.slice none 0 0) [] hr.baseLe HX hp (World.ownsRow_nil _ _ _ _) (by simp[Value.ownBlock]);rw[hn]at Ep;have EG:=Ep s (by simpa using Bb);unfold Oper.wp;rw[AA];simp only[Oper.upon];refine EG.mono λe w' ⟨he,w1,w2,v',Lt,H8,Ji,Cc,Dy,U5,tO⟩=>?_;subst he;simp only
   have uD:w2.ownsRow base F.te (Ty.size (.int .u8)) v' (C7 s).length ((C7 s).map (Value.int .u8)):=by have h:=Dy;simp only[CJ,DL,Gi]at h;rw[yG];exact h
   have AA7:∀g,v'.ownBlock=some g->w1.heap.size<=g:=λg hg=>by
    rcases Cc with h|h
    ·rw[h]at hg;cases hg
    ·exact h g hg
   have s1:=Step.wrote (cs':=[.bself i,.nils]) hr BM Av Lt;have r1:=RelB.wrote (cs':=[.bself i,.nils]) hr BM Av Lt ⟨_,H8,_,_,rfl,.inr ⟨g,by simp[Al,upd],rfl⟩,_,_,rfl,rfl,rfl⟩;have Ais:upd Aa i (.cells F.t [.bself i,.nils]) nx=none:=by simp[upd,Ne.symm AL,u7]
   have Ji:w1.grownBy w2 none:=Ji;have aY:∀g,(Pl.row v' []).has g->w1.heap.size<=g:=λg hg=>AA7 g (Pl.has_row hg);have s2:=Step.new (B:=.row F.te (.int .u8) 0 (C7 s)) r1 Ais Ji aY;have r2:=RelB.new (B:=.row F.te (.int .u8) 0 (C7 s)) r1 Ais Ji aY ⟨rfl,_,R7.2 rfl,uD⟩;have Lu:upd (upd Aa i (.cells F.t [.bself i,.nils])) nx (.row F.te (.int .u8) 0 (C7 s)) i=some (.cells F.t [.bself i,.nils]):=by simp[upd,AL]
   have CB:upd (upd pl i (.cells g)) nx (.row v' []) i=some (.cells g):=by simp[upd,AL]
   have s3:=Step.wrote (cs':=[.bself i,.row nx 0]) r2 Lu CB U5
   have r3:=RelB.wrote (cs':=[.bself i,.row nx 0]) r2 Lu CB U5 ⟨_,tO,_,_,rfl,.inr ⟨g,by simp[Al,upd],rfl⟩,_,_,rfl,⟨fH Dy,v',[],by simp[Al,upd,Ne.symm AL],λt e ver' l' h=>by simp[Al,upd,Ne.symm AL]at h;exact⟨DM _,λ_=>rfl⟩⟩,rfl⟩
   have s4:=(s1.trans s2).trans s3;simp only[yF AL]at r3 s4;exact hK _ _ _ r3 s4 (yH s)
  ·rename_i j ver l hb
   obtain⟨Bb,hk⟩:=D2 hk;have Bb:=AV Bb;obtain⟨c1,c2,Aj,JG,hq⟩:=Pp hb;rcases hq with⟨hq,_⟩|⟨j',ver',hq,rfl,H6⟩
   ·cases hq
   simp only[Af,BC]at hq;obtain⟨rfl,rfl⟩:=hq;refine⟨_,_,_,hk,λAa Ah=>?_⟩;have BM:Aa i=some (.cells F.t [c1,.row j ver]):=(Ah i (by simp)).trans Aj;have GI:Aa j=some (.row F.te (.int .u8) ver l):=(Ah j (by simp)).trans H6;have AL:i≠j:=by rintro rfl;rw[BM]at GI;cases GI
   intro ok0 base pl w a hr Ae K Q hK;obtain⟨us,CC,AA⟩:=ET Aa ok0 base pl w a hr Ae;have AA:=AA hF.fn;obtain⟨u,us1,rfl,hu,u2,us2,rfl,AS,Dx⟩:=CC;have Dx:us2=[]:=Dx;have AS:u2=.string ⟨s.toArray⟩:=AS;subst Dx AS;obtain⟨g,p,v,rfl,Av,HX,hp,hv⟩:=Pq hr BM JG hu;obtain⟨Dd,Ak,UE⟩:=fG (F:=F) hr BM rfl Av GI hv AL;have Ep:=hF.ok (by rw[hn];decide) w base g p v l hr.baseLe HX hp Ak UE;rw[hn]at Ep;have EG:=Ep s Bb;unfold Oper.wp;rw[AA];simp only[Oper.upon];refine EG.mono λe w' ⟨he,w1,w2,v',Lt,H8,Ji,Cc,Dy,U5,tO⟩=>?_;subst he;simp only
   have uD:w2.ownsRow base F.te (Ty.size (.int .u8)) v' (l++C7 s).length ((l++C7 s).map (Value.int .u8)):=by rw[AE,yG];exact Dy
   have uF:upd pl i (.cells g) j=some (.row v []):=by simp[upd,Ne.symm AL,Dd]
   have tC:upd Aa i (.cells F.t [.bself i,.row j ver]) j=some (.row F.te (.int .u8) ver l):=by simp[upd,Ne.symm AL,GI]
   have s1:=Step.wrote (cs':=[.bself i,.row j ver]) hr BM Av Lt
   have r1:=RelB.wrote (cs':=[.bself i,.row j ver]) hr BM Av Lt ⟨_,H8,_,_,rfl,.inr ⟨g,by simp[Al,upd],rfl⟩,_,_,rfl,⟨fH Ak,v,[],by simp[Al,uF],λt e ver' l' h=>by have h:upd Aa i (.cells F.t [.bself i,.row j ver]) j=some (.row t e ver' l'):=h;rw[tC]at h;injection h with h;injection h with h1 h2 h3 h4;exact⟨JP h3,λ_=>rfl⟩⟩,rfl⟩
   have AP:ver<=ver+1/\(ver=ver+1->v'=v/\(l++C7 s).length=l.length):=⟨Nat.le_succ _,λh=>by omega⟩;have s2:=Step.grown (e:=.int .u8) (l':=l++C7 s) r1 tC uF Ji Cc AP;have r2:=RelB.grown (e:=.int .u8) (l':=l++C7 s) r1 tC uF Ji Cc AP ⟨rfl,_,R7.2 rfl,uD⟩;have Lu:upd (upd Aa i (.cells F.t [.bself i,.row j ver])) j (.row F.te (.int .u8) (ver+1) (l++C7 s)) i=some (.cells F.t [.bself i,.row j ver]):=by simp[upd,AL]
   have CB:upd (upd pl i (.cells g)) j (.row v' []) i=some (.cells g):=by simp[upd,AL]
   have s3:=Step.wrote (cs':=[.bself i,.row j (ver+1)]) r2 Lu CB U5
   have r3:=RelB.wrote (cs':=[.bself i,.row j (ver+1)]) r2 Lu CB U5 ⟨_,tO,_,_,rfl,.inr ⟨g,by simp[Al,upd],rfl⟩,_,_,rfl,⟨fH Dy,v',[],by simp[Al,upd,Ne.symm AL],λt e ver' l' h=>by simp[Al,upd,Ne.symm AL]at h;exact⟨by omega,λ_=>rfl⟩⟩,rfl⟩
   have s4:=(s1.trans s2).trans s3;simp only[yF AL]at r3 s4;exact hK _ _ _ r3 s4 (yH s)
  ·cases hk
 ·
  rename_i i hn;split at hk
  ·rename_i l0 hb
   obtain⟨c1,c2,Aj,JG,hq⟩:=Pp hb
   obtain⟨rfl,rfl⟩:l0=[]/\c2=.nils:=by
    rcases hq with⟨_,h1,h2⟩|⟨j,ver,hq,_⟩
    ·exact⟨h1,h2⟩
    ·cases hq
   refine⟨_,_,_,hk,λAa Ah=>?_⟩;have BM:Aa i=some (.cells F.t [c1,.nils]):=(Ah i (by simp)).trans Aj;intro ok0 base pl w a hr Ae K Q hK;obtain⟨us,CC,AA⟩:=ET Aa ok0 base pl w a hr Ae;have AA:=AA hF.fn;obtain⟨u,us1,rfl,hu,Dx⟩:=CC;have Dx:us1=[]:=Dx;subst Dx;obtain⟨g,p,v,rfl,Av,HX,hp,hv⟩:=Pq hr BM JG hu;have hv:v=.slice none 0 0:=hv;subst hv;have Ep:=hF.ok (by rw[hn];decide) w base g p (.slice none 0 0) [] hr.baseLe HX hp (World.ownsRow_nil _ _ _ _) (by simp[Value.ownBlock]);rw[hn]at Ep;have EG:=Ep rfl;unfold Oper.wp;rw[AA];simp only[Oper.upon];refine EG.mono λe w' ⟨he,hg⟩=>?_;subst he;simp only;exact hK _ _ _ (hr.still hg) (Step.still hg) rfl
  ·rename_i j ver l hb
   obtain⟨FM,hk⟩:=D2 hk;obtain⟨c1,c2,Aj,JG,hq⟩:=Pp hb;rcases hq with⟨hq,_⟩|⟨j',ver',hq,rfl,H6⟩
   ·cases hq
   simp only[Af,BC]at hq;obtain⟨rfl,rfl⟩:=hq;refine⟨_,_,_,hk,λAa Ah=>?_⟩;have BM:Aa i=some (.cells F.t [c1,.row j ver]):=(Ah i (by simp)).trans Aj;have GI:Aa j=some (.row F.te (.int .u8) ver l):=(Ah j (by simp)).trans H6;have AL:i≠j:=by rintro rfl;rw[BM]at GI;cases GI
   intro ok0 base pl w a hr Ae K Q hK;obtain⟨us,CC,AA⟩:=ET Aa ok0 base pl w a hr Ae;have AA:=AA hF.fn;obtain⟨u,us1,rfl,hu,Dx⟩:=CC;have Dx:us1=[]:=Dx;subst Dx;obtain⟨g,p,v,rfl,Av,HX,hp,hv⟩:=Pq hr BM JG hu;obtain⟨Dd,Ak,UE⟩:=fG (F:=F) hr BM rfl Av GI hv AL;have Ep:=hF.ok (by rw[hn];decide) w base g p v l hr.baseLe HX hp Ak UE;rw[hn]at Ep;have EG:=Ep FM;unfold Oper.wp;rw[AA];simp only[Oper.upon];refine EG.mono λe w' ⟨he,hg⟩=>?_;subst he;simp only;have Qx:KeepR (some (.row F.te (.int .u8) ver l)) (some .dead) v [] v []:=⟨λ_ _ _ _ h=>(by cases h),λ_ _ _ _ _ _ _ h=>(by cases h),λ_ _ _ _ _ _ h=>(by cases h)⟩;have hs:=Step.grownP (B':=.dead) hr GI rfl Dd hg (λg h=>.inl h) (λg h=>.inl h) Qx;exact hK _ _ _ (RelB.grownP (B':=.dead) hr GI rfl Dd hg (λg h=>.inl h) (λg h=>.inl h) Qx trivial) hs rfl
  ·cases hk
 ·
  rename_i i hn;split at hk
  ·rename_i l0 hb
   obtain⟨c1,c2,Aj,JG,hq⟩:=Pp hb
   obtain⟨rfl,rfl⟩:l0=[]/\c2=.nils:=by
    rcases hq with⟨_,h1,h2⟩|⟨j,ver,hq,_⟩
    ·exact⟨h1,h2⟩
    ·cases hq
   refine⟨_,_,_,hk,λAa Ah=>?_⟩;have BM:Aa i=some (.cells F.t [c1,.nils]):=(Ah i (by simp)).trans Aj;intro ok0 base pl w a hr Ae K Q hK;obtain⟨us,CC,AA⟩:=ET Aa ok0 base pl w a hr Ae;have AA:=AA hF.fn;obtain⟨u,us1,rfl,hu,Dx⟩:=CC;have Dx:us1=[]:=Dx;subst Dx;obtain⟨g,p,v,rfl,Av,HX,hp,hv⟩:=Pq hr BM JG hu;have hv:v=.slice none 0 0:=hv;subst hv;have Ep:=hF.ok (by rw[hn];decide) w base g p (.slice none 0 0) [] hr.baseLe HX hp (World.ownsRow_nil _ _ _ _) (by simp[Value.ownBlock]);rw[hn]at Ep;have EG:=Ep;unfold Oper.wp;rw[AA];simp only[Oper.upon];refine EG.mono λe w' ⟨he,hg⟩=>?_;subst he;simp only;exact hK _ _ _ (hr.still hg) (Step.still hg) rfl
  ·rename_i j ver l hb
   obtain⟨c1,c2,Aj,JG,hq⟩:=Pp hb;rcases hq with⟨hq,_⟩|⟨j',ver',hq,rfl,H6⟩
   ·cases hq
   simp only[Af,BC]at hq;obtain⟨rfl,rfl⟩:=hq;refine⟨_,_,_,hk,λAa Ah=>?_⟩;have BM:Aa i=some (.cells F.t [c1,.row j ver]):=(Ah i (by simp)).trans Aj;have GI:Aa j=some (.row F.te (.int .u8) ver l):=(Ah j (by simp)).trans H6;have AL:i≠j:=by rintro rfl;rw[BM]at GI;cases GI
   intro ok0 base pl w a hr Ae K Q hK;obtain⟨us,CC,AA⟩:=ET Aa ok0 base pl w a hr Ae;have AA:=AA hF.fn;obtain⟨u,us1,rfl,hu,Dx⟩:=CC;have Dx:us1=[]:=Dx;subst Dx;obtain⟨g,p,v,rfl,Av,HX,hp,hv⟩:=Pq hr BM JG hu;obtain⟨Dd,Ak,UE⟩:=fG (F:=F) hr BM rfl Av GI hv AL;have Ep:=hF.ok (by rw[hn];decide) w base g p v l hr.baseLe HX hp Ak UE;rw[hn]at Ep;have EG:=Ep;unfold Oper.wp;rw[AA];simp only[Oper.upon];refine EG.mono λe w' ⟨he,hg⟩=>?_;subst he;simp only;exact hK _ _ _ (hr.still hg) (Step.still hg) rfl
  ·cases hk
 ·
  rename_i s hn;refine⟨_,_,_,hk,λAa Ah=>?_⟩;intro ok0 base pl w a hr Ae K Q hK;obtain⟨us,CC,AA⟩:=ET Aa ok0 base pl w a hr Ae;have AA:=AA hF.fn;obtain⟨u,us1,rfl,hu,u2,us2,rfl,AS,Dx⟩:=CC;have Dx:us2=[]:=Dx;have AS:u2=.string ⟨s.toArray⟩:=AS;have hu:u=.slice none 0 0:=hu;subst Dx AS hu;have EG:=hF.join hn w base (.slice none 0 0) [] s (World.ownsRow_nil _ _ _ _) (by simp) (by rw[Lib.join_nil];simp);unfold Oper.wp;rw[AA];simp only[Oper.upon];refine EG.mono λe w' ⟨he,hg⟩=>?_;subst he;simp only;exact hK _ _ _ (hr.still hg) (Step.still hg) rfl
 ·
  rename_i j ver s hn;split at hk
  ·rename_i t ver' l H6
   cases hc:(Nat.beq t F.t&&Nat.beq ver ver')with
   |false=>rw[hc]at hk;cases hk
   |true=>simp only[hc,Am]at hk;obtain⟨h1,h2⟩:=andB hc;have h1:=As h1;have h2:=As h2;subst h1 h2;obtain⟨Bb,hk⟩:=D2 hk;obtain⟨d1,d2⟩:=andB Bb;have d1:=AV d1;have d2:=AV d2;refine⟨_,_,_,hk,λAa Ah=>?_⟩;have GI:Aa j=some (.row F.t .str ver l):=(Ah j (by simp)).trans H6;intro ok0 base pl w a hr Ae K Q hK;obtain⟨us,CC,AA⟩:=ET Aa ok0 base pl w a hr Ae;have AA:=AA hF.fn;obtain⟨u,us1,rfl,hu,u2,us2,rfl,AS,Dx⟩:=CC;have Dx:us2=[]:=Dx;have AS:u2=.string ⟨s.toArray⟩:=AS;subst Dx AS;obtain⟨_,sv,Ab,Aq,AT⟩:=hu;have hv:=(AT F.t .str ver l GI).2 rfl;subst hv;have Aq:pl j=some (.row u Ab):=Aq;obtain⟨q,hq,hB⟩:=hr.blks j _ GI;rw[Aq]at hq;injection hq with hq;subst hq;obtain⟨rfl,xs,hd,Ak⟩:=hB;rw[fF.1 hd]at Ak;have EG:=hF.join hn w base u l s Ak d1 d2;unfold Oper.wp;rw[AA];simp only[Oper.upon];refine EG.mono λe w' ⟨he,hg⟩=>?_;subst he;simp only;exact hK _ _ _ (hr.still hg) (Step.still hg) rfl
  ·cases hk
 ·cases hk
theorem R8{bl:Nat->Option Blk}{i:Nat}{B:Blk}(h:JT bl i=some B):bl i=some B:=by
 unfold JT at h;split at h
 ·cases h
 ·exact h
theorem Al6{bl:Nat->Option Blk}{i:Nat}{t et:TypeId}{e:Ty}{ver Ag:Nat}{hole:Option Nat}{l:List (List e.den)}:JT bl i≠some (.mat t et e ver Ag hole l):=by intro h;have h2:=R8 h;unfold JT at h;rw[h2]at h;cases h
theorem yI{bl:Nat->Option Blk}:∀{is:List Nat},IQ (JT bl) is=IQ bl is
 |[]=>rfl
 |i::is=>by
  simp only[IQ,yI (is:=is)];unfold JT;cases h:bl i with
  |none=>rfl
  |some B=>cases B<;>rfl
theorem yJ{S:Spec}{ids:List Nat}:∀{as:List Nat},Rk S ids as=true->(∀b∈as,(ST.flat S.res&&BT.flat S.outs)=true)/\∀b∈as,b∉ids
 |[],_=>⟨λ_ h=>by simp at h,λ_ h=>by simp at h⟩
 |b::r,h=>by
  obtain⟨h1,h2⟩:=andB (show((ST.flat S.res&&BT.flat S.outs)&&(!memB b ids&&Rk S ids r))=true from h);obtain⟨h2,h3⟩:=andB h2;obtain⟨q1,q2⟩:=yJ h3
  have Ei:b∉ids:=λhm=>by rw[Hw.2 hm]at h2;cases h2
  refine⟨λc hc=>?_,λc hc=>?_⟩
  ·rcases Bf.1 hc with rfl|hc
   ·exact h1
   ·exact q1 c hc
  ·rcases Bf.1 hc with rfl|hc
   ·exact Ei
   ·exact q2 c hc
theorem CReps.cut2{E:Env}:∀{n:Nat}{cs:List C}{vs:List Value},CReps E cs vs->CReps E (cs.take n) (vs.take n)/\CReps E (cs.drop n) (vs.drop n)
 |0,_,_,h=>⟨by simp[CReps],by simpa using h⟩
 |_+1,[],_,h=>by simp only[CReps]at h;subst h;simp[CReps]
 |n+1,_::_,_,⟨v,Ap,e,h,ht⟩=>by subst e;obtain⟨h1,h2⟩:=CReps.cut2 (n:=n) ht;exact⟨⟨v,_,by simp,h,h1⟩,by simpa using h2⟩
theorem CReps.app{E:Env}:∀{cs ds:List C}{vs us:List Value},CReps E cs vs->CReps E ds us->CReps E (cs++ds) (vs++us)
 |[],_,_,_,h,k=>by simp only[CReps]at h;subst h;simpa using k
 |_::_,_,_,_,⟨v,Ap,e,h,ht⟩,k=>⟨v,Ap++_,by rw[e];rfl,h,CReps.app ht k⟩
theorem fJ{E:Env}:∀(l:List CT){cs:List C}{vs:List Value},CReps E cs vs->CReps E (LO l cs) vs
 |[],_,_,h=>by simpa [LO]using h
 |t::l,cs,vs,h=>by
  have key:(∃τ,t=.data τ)\/(∀τ,t≠.data τ):=by cases t<;>simp
  rcases key with⟨τ,rfl⟩|hn
  ·simp only[LO]
   obtain⟨h1,h2⟩:=CReps.cut2 (n:=τ.size) h;have:=CReps.app h1 (fJ l h2)
   rwa [LE]at this
  ·cases cs with
   |nil=>cases t<;>first|exact absurd rfl (hn _)|simpa [LO]using h
   |cons c cs=>
    obtain⟨v,Ap,e,h1,h2⟩:=h;have ih:=fJ l h2;cases t with
    |data τ=>exact absurd rfl (hn τ)
    |junk=>exact⟨v,Ap,e,CRep.oneCell h1,ih⟩
    |_=>exact⟨v,Ap,e,h1,ih⟩
theorem yK{E:Env}:∀{ts:List (Bool×List CT)}{vs:List V}{us:List Value},VReps E vs us->VReps E (Rl ts vs) us
 |[],_,_,h=>by simpa [Rl]using h
 |_::_,[],_,h=>by simpa [Rl]using h
 |t::ts,v::vs,_,⟨u,C4,e,h1,h2⟩=>by
  refine⟨u,C4,e,?_,yK h2⟩;cases v with
  |agg cs=>obtain⟨ws,h3,h4⟩:=h1;exact⟨ws,fJ _ h3,h4⟩
  |_=>exact h1
theorem Al7{ok0:OK0 P}{base:Nat}{pl:Nat->Option Pl}{bl Aa:Nat->Option Blk}{w:World}(hr:RelB ok0 base pl Aa w){S:Spec}{args aA:List V}{as:List Nat}{us:List Value}(sZ:∀i∈as,Aa i=bl i)(has:KM args=as)(sY:Pd S bl args=aA)(CC:VReps (Al ok0 base pl Aa w) args us):∃E:Env,E.w=w/\E.bl=Aa/\E.pl=pl/\(∀g,E.ok g->((ok0 g\/(base<=g/\¬ok0.no g))/\¬Own pl Aa g)\/∃b∈as,∃t cs,Aa b=some (.cells t cs)/\pl b=some (.cells g))/\DN E/\VReps E aA us:=by
 let E0:=Al ok0 base pl Aa w
 let E:Env:={E0 with ok:=λg=>E0.ok g\/∃b∈as,∃t cs,Aa b=some (.cells t cs)/\pl b=some (.cells g)}
 have hx:Ext E0 E:=⟨AC _,λg h _=>⟨.inl h,rfl⟩,λ_ _ h=>h,λ_ sv Ab h=>⟨sv,Ab,h,KeepR.refl _ _ _⟩⟩;refine⟨E,rfl,rfl,rfl,λg h=>h,λi B hB=>?_,?_⟩
 ·obtain⟨p,hp,hB2⟩:=hr.blks i B hB
  exact⟨p,hp,BRep.mono hx hB2 λ_ _=>rfl⟩
 ·subst sY
  refine yK ?_;have CX:∀b∈KM args,b∈as:=λb hb=>by rw[<-has];exact hb
  clear has
  induction args generalizing us with
  |nil=>exact CC
  |cons v vs ih=>
   obtain⟨u,C4,e,hv,ht⟩:=CC;refine⟨u,C4,e,?_,ih ht λb hb=>CX b (by cases v<;>simp[KM,hb])⟩;by_cases hl:∃b o e n,v=.arr b o e n
   ·obtain⟨b,o,ty,n,rfl⟩:=hl
    have hb:b∈as:=CX b (by simp[KM]);obtain⟨g,hg,hv⟩:=hv;show VRep E (Pa bl (.arr b o ty n)) u;simp only[Pa]
    ·split
     ·rename_i t cs Aj
      split
      ·rename_i ds Ls
       split
       ·rename_i l hl
        cases hc:(Nat.ble n 4096&&Nat.blt 0 ty.size)with
        |false=>exact trivial
        |true=>
         obtain⟨hn,_⟩:=andB hc;have hn:n<=4096:=Hs hn;have Ah:Aa b=some (.cells t cs):=(sZ b hb).trans Aj;obtain⟨p,hp,hB⟩:=hr.blks b _ Ah
         have CK:p=.cells g:=by have h2:pl b=some (.cells g):=hg;rw[hp]at h2;injection h2
         subst CK;obtain⟨Bh,hh,CH⟩:=hB;obtain⟨s1,_,_⟩:=MY CH Ls;obtain⟨hd,Bb⟩:=Wl hr.blksOk (Rows.none _ _) s1 hl;show DRep w E.ok (.slice ty) l [u];simp only[DRep];refine⟨some ⟨g,o,none⟩,n,_,by rw[hv,Bb],by omega,Df hn (by decide),hd.mono λx us hu=>hu.mono λg h _=>⟨.inl h,rfl⟩,λj v hj=>⟨_,rfl,.inr ⟨b,hb,t,cs,Ah,hp⟩,Wq hh hj⟩⟩
       ·exact trivial
      ·exact trivial
     ·exact trivial
   ·have:Pa bl v=v:=by
     unfold Pa;split
     ·rename_i b o e n
      exact absurd ⟨b,o,e,n,rfl⟩ hl
     ·rfl
    show VRep E (Pa bl v) u;rw[this];exact VRep.mono hx hv
theorem yL{X:Ctx}(hΓ:ΓOk P X.Γ){kk:K β}{nx:Nat}{f:FuncId}{args:List V}(hk:Rm X bl nx f args kk=some r)(ET:∀(Aa:Nat->Option Blk)(ok0:OK0 P)(base:Nat)(pl:Nat->Option Pl)(w:World)(a:Act),RelB ok0 base pl Aa w->(∀x∈o.op.operands,VRep (Al ok0 base pl Aa w) (ρ x) (a.eval x))->∃us,VReps (Al ok0 base pl Aa w) args us/\((∃fn,P.funcs[f]?=some fn/\(fn.name== "runtime.NumGoroutine")=false/\fn.body.isNone=false)->(execOp a.eval o).run P w=.ok (.enter f us.toArray) w)):Sound P o ρ bl kk r:=by
 unfold Rm at hk;split at hk
 ·cases hk
 ·rename_i F hF
  exact Al4 (hΓ.rows f F hF) hk ET
 ·rename_i F hF
  exact Al5 (hΓ.bld f F hF) hk ET
 ·rename_i A hA
  obtain⟨v,rd,wr,hk,Dg⟩:=(hΓ.abs f A hA).ok _ _ _ _ _ hk;refine⟨v,rd,wr,hk,λAa Ah ok0 base pl w a hr Ae K Q hK=>?_⟩;obtain⟨us,CC,AA⟩:=ET Aa ok0 base pl w a hr Ae;unfold Oper.wp;rw[AA (hΓ.abs f A hA).fn];simp only[Oper.upon];refine(Dg Aa Ah ok0 base pl w us hr CC).mono λe w' Ep=>?_;obtain⟨u,Ai,rfl,h1,h2,h3⟩:=Ep;exact hK u Ai w' h1 h2 h3
 rename_i S hS;have AiG:=hΓ.spec f S hS;split at hk
 ·cases hk
 rename_i ids NW;have Bb:=yE NW;split at hk
 ·rename_i x y hx hy
  generalize sY:Pd S bl args=aA at hk hx NW;generalize has:KM args=as at hk;generalize AiC:Cy aA++IQ bl ids=rds at hk;generalize HY:AH nx (S.outs.length-S.ins.length)=new at hk;generalize aP:OZ S bl rds=kills at hk;cases hc:(dL S bl ids new&&Rk S ids as)with
  |false=>rw[hc]at hk;cases hk
  |true=>
   simp only[hc,Am]at hk;obtain⟨hc,aQ⟩:=andB hc;unfold dL at hc;have aQ:=yJ aQ;obtain⟨c1,hc⟩:=andB hc;obtain⟨c3,hc⟩:=andB hc;obtain⟨c4,hc⟩:=andB hc;obtain⟨c5,c6⟩:=andB hc;have c1:=Po c1;have c4:=Hs c4;have c3:=eW c3;obtain⟨z,hz,EG⟩:=AiG.ok (x,y) _ r hk;refine⟨_,_,_,hz,λAa Ah=>?_⟩;have Aib:∀i∈ids,Aa i=bl i:=λi hi=>Ah i (by simp[hi]);have bB:∀i∈rds,Aa i=bl i:=λi hi=>Ah i (by simp[hi]);have sZ:∀i∈as,Aa i=bl i:=λi hi=>Ah i (by simp[hi]);have tZ:∀i∈new,Aa i=none:=λi hi=>(Ah i (by simp[hi])).trans (c3 i hi);intro ok0 base pl w a hr Ae K Q hK
   have Od:∀p∈kills,p.2=Blk.dead/\p.1∈rds/\∃B,Aa p.1=some B/\B.lend=true:=λp hp=>by rw[<-aP]at hp;obtain⟨h1,h2,B,h3,h4⟩:=Al1 hp;exact⟨h1,h2,B,by rw[bB _ h2];exact h3,h4⟩
   rw[LQ]at hK
   let blk:Nat->Option Blk:=updL Aa kills
   have NO:∀i,blk i=Aa i\/(blk i=some .dead/\i∈rds/\∃B,Aa i=some B/\B.lend=true):=λi=>by
    rcases R6 (l:=kills) (f:=Aa) i (λp hp=>(Od p hp).1)with⟨h1,_⟩|⟨h1,p,hp,h2⟩
    ·exact .inl h1
    ·have:=Od p hp
     rw[h2]at this;exact .inr ⟨h1,this.2⟩
   have hblkL:∀i B,blk i=some B->B.live=true->Aa i=some B:=λi B hB hl=>by
    rcases NO i with h|⟨h,_⟩
    ·rw[<-h];exact hB
    ·rw[h]at hB
     injection hB with hB;subst hB;cases hl
   obtain⟨us,CC,AA⟩:=ET Aa ok0 base pl w a hr Ae;have AA:=AA AiG.fn;obtain⟨E,hEw,hEbl,hEpl,hEok,Lp,CC⟩:=Al7 hr sZ has sY CC
   have J9:∀i∈ids,∃t cs,Aa i=some (.cells t cs):=λi hi=>by obtain⟨t,cs,h⟩:=f6 hy i hi;exact⟨t,cs,by rw[Aib i hi];exact R8 h⟩
   let ok0c:OK0 P:=⟨λg=>E.ok g\/∃b∈rds,∃B p,Aa b=some B/\B.lend=true/\pl b=some p/\p.has g,λ_=>False⟩
   let plc:Nat->Option Pl:=λb=>(ids[b]?).bind pl
   let blc:Nat->Option Blk:=fnBl (mkB (AH 0 S.ins.length) S.ins y)
   let Ec:Env:=Al ok0c w.heap.size plc blc w
   have aV:∀g,Own plc blc g->∃i∈ids,pl i=some (.cells g):=by
    rintro g ⟨j,B,p,hB,hl,hp,hg⟩;cases hj:ids[j]? with
    |none=>simp[plc,hj]at hp
    |some i=>
     have Dh:pl i=some p:=by simpa [plc,hj]using hp
     have hi:=CI hj;obtain⟨t,cs,Aj⟩:=J9 i hi;obtain⟨q,hq,hR⟩:=hr.blks i _ Aj;rw[Dh]at hq;injection hq with hq;subst hq;cases p with
     |row _ _=>exact hR.elim
     |cells g'=>have hg:g'=g:=hg;subst hg;exact⟨i,hi,Dh⟩
   have uE:∀g,Own plc blc g->Own pl Aa g:=λg h=>by obtain⟨i,hi,hp⟩:=aV g h;obtain⟨t,cs,Aj⟩:=J9 i hi;exact⟨i,_,_,Aj,rfl,hp,rfl⟩
   have Azu:∀g,E.ok g->Ec.ok g:=λg h=>⟨.inl (.inl h),λho=>by
    rcases hEok g h with h|⟨b,hb,t,cs,Aj,hp⟩
    ·exact h.2 (uE g ho)
    ·obtain⟨i,hi,Av⟩:=aV g ho
     obtain⟨t',cs',NN⟩:=J9 i hi;have AL:i≠b:=by rintro rfl;exact(aQ.2 i hb) hi
     exact hr.sep i b _ _ _ _ g AL NN Aj rfl rfl Av hp rfl rfl⟩
   have Aim:∀b∈rds,∀B p,Aa b=some B->B.lend=true->pl b=some p->∀g,p.has g->Ec.ok g:=λb hb B p BM hl hp g hg=>by
    refine⟨.inl (.inr ⟨b,hb,B,p,BM,hl,hp,hg⟩),λho=>?_⟩;obtain⟨i,hi,Av⟩:=aV g ho;obtain⟨t',cs,NN⟩:=J9 i hi;have AL:i≠b:=by rintro rfl;rw[BM]at NN;injection NN with NN;subst NN;cases hl
    exact hr.sep i b _ _ _ _ g AL NN BM rfl (Blk.lend_live hl) Av hp rfl hg
   have M7:∀ids0:List Nat,(∀b∈ids0,b∈rds)->Rows E (JT bl) Ec.ok ids0:=λids0 h0=>⟨Azu,λb hb t e ver l Aj=>by
    have BM:Aa b=some (.row t e ver l):=by rw[bB b (h0 b hb)];exact R8 Aj
    refine⟨by rw[hEbl];exact BM,λsv g Aq hg=>?_⟩;rw[hEpl]at Aq;exact Aim b (h0 b hb) _ _ BM rfl Aq g (.inl hg),λb hb t et e ver Ag hole l Aj=>absurd Aj Al6,λb hb t e ver Ag hole l Aj=>by
    have BM:Aa b=some (.tree t e ver Ag hole l):=by rw[bB b (h0 b hb)];exact R8 Aj
    refine⟨by rw[hEbl];exact BM,λsv Ab g Aq hg=>?_⟩;rw[hEpl]at Aq;exact Aim b (h0 b hb) _ _ BM rfl Aq g hg⟩
   have UM:Ren E Ec ids (AH 0 S.ins.length):=by
    have key:∀b i,ids[b]?=some i->Ec.pl ((AH 0 S.ins.length).getD b 0)=pl i:=by
     intro b i hi;have Ao:b<S.ins.length:=by rw[<-Bb];exact(Eu.1 hi).1
     rw[Ng Ao];simp[Ec,Al,plc,hi]
    refine⟨λb i g hi h=>?_,λb i sv Ab t e ver l hi _ h=>?_,λb i sv Ab t et e ver Ag hole l hi _ h=>?_,λb i sv Ab t e ver Ag l hi _ h=>?_,λb i t e ver Ag l t' e' ver' Bp h' l' hi Aj _=>?_,λb i hi h=>?_⟩
    ·rw[key b i hi,<-hEpl];exact h
    ·rw[key b i hi,<-hEpl];exact h
    ·rw[key b i hi,<-hEpl];exact h
    ·rw[key b i hi,<-hEpl];exact h
    ·obtain⟨t,cs,BM⟩:=J9 i (CI hi)
     rw[hEbl,BM]at Aj;cases Aj
    ·obtain⟨t,cs,Aj⟩:=J9 i (CI hi)
     rw[hEbl,Aj]at h;cases h
   have AhR:∀i∈ids,JT bl i=E.bl i:=λi hi=>by obtain⟨t,cs,h⟩:=f6 hy i hi;rw[hEbl,Aib i hi,h,R8 h]
   have Bg:=eZ Lp (show Ec.w=E.w from hEw.symm) UM AhR (M7 _ λb hb=>by rw[<-AiC];exact Dl _ hb) CC hx;obtain⟨hlB,hinB⟩:=yB Lp (show Ec.w=E.w from hEw.symm) UM AhR (M7 _ λb hb=>by rw[<-AiC];exact D7 _ (by rw[yI]at hb;exact hb)) (λi hi=>hi) hy
   have AzO:RelB ok0c w.heap.size plc blc w:=by
    refine⟨AC _,λi B hB=>?_,λi j B C p q g Db hB hC hlB' hlC hp hq CK=>?_,λi hi=>?_,⟨hr.glob.g0.gen (AC _) (λg _ h1 _=>⟨rfl,λq=>h1 (uE g q)⟩) λ_ h=>h.elim,λ_ h=>h.elim⟩⟩
    ·have Ao:i<ids.length:=by have:=(Eu.1 (show(mkB (AH 0 S.ins.length) S.ins y)[i]?=some B from hB)).1;rw[FU]at this;omega
     obtain⟨g,B',h1,h2,h3,_⟩:=hinB i ids[i] (DK Ao)
     have hBB:B=B':=by have h4:(mkB (AH 0 S.ins.length) S.ins y)[i]?=some B:=hB;rw[h2]at h4;injection h4 with h4;exact h4.symm
     rw[hEpl]at h1;exact⟨.cells g,by simp[plc,DK Ao,h1],by rw[hBB];exact h3⟩
    ·cases hi:ids[i]? with
     |none=>simp[plc,hi]at hp
     |some i'=>
      cases hj:ids[j]? with
      |none=>simp[plc,hj]at hq
      |some j'=>
       have Dh:pl i'=some p:=by simpa [plc,hi]using hp
       have AiA:pl j'=some q:=by simpa [plc,hj]using hq
       have AL:i'≠j':=by rintro rfl;have h1:=Jr c1 hi;have h2:=Jr c1 hj;rw[h1]at h2;injection h2 with h2;exact Db h2
       obtain⟨t1,cs1,By⟩:=J9 i' (CI hi);obtain⟨t2,cs2,tA⟩:=J9 j' (CI hj);exact hr.sep i' j' _ _ p q g AL By tA rfl rfl Dh AiA CK
    ·have Qu:ids.length<=i:=by have h1:(mkB (AH 0 S.ins.length) S.ins y)[i]?=none:=hi;rw[OE,FU]at h1;omega
     simp[plc,QS Qu]
   unfold Oper.wp;rw[AA];simp only[Oper.upon];refine(EG ok0c plc w us AzO Bg).mono λe w' Ep=>?_;obtain⟨Bh,Ai,rfl,hR,hS,hT⟩:=Ep;simp only;generalize U9:ids++new=AU at*
   have M0:AU.length=S.outs.length:=by rw[<-U9,AE,<-HY,eT,Bb];omega
   have u6:AU.Nodup:=by rw[<-U9];refine VD.2 ⟨c1,by rw[<-HY];exact eV,λx hx y hy AiR=>?_⟩;subst AiR;obtain⟨t,cs,h⟩:=J9 x hx;rw[tZ x hy]at h;cases h
   let blo:Nat->Option Blk:=fnBl (mkB (AH 0 S.outs.length) S.outs z.2)
   let Eo:Env:=Al ok0c w.heap.size Ai blo w'
   let pl2:Nat->Option Pl:=λi=>match place AU i with|some b=>Ai b|none=>pl i
   have DC:∀i,updL (updL Aa kills) (AU.zip (mkB AU S.outs z.2)) i=match place AU i with|some b=>(mkB AU S.outs z.2)[b]?|none=>blk i:=
    λi=>yD i u6 (by rw[FU];exact M0)
   generalize ABT:updL (updL Aa kills) (AU.zip (mkB AU S.outs z.2))=bl3 at*;have K2:∀i,place AU i=none->pl2 i=pl i:=λi h=>by simp only[pl2,h]
   have M2:∀i b,place AU i=some b->pl2 i=Ai b:=λi b h=>by simp only[pl2,h]
   have GJ:∀i,place AU i=none->bl3 i=blk i:=λi h=>by rw[DC,h]
   have Mt:∀i b,place AU i=some b->bl3 i=(mkB AU S.outs z.2)[b]?:=λi b h=>by rw[DC,h]
   have GQ:∀i b,place AU i=some b->b<S.outs.length:=λi b h=>by rw[<-M0];exact(Eu.1 (G9 h)).1
   have Jh:∀b,b<S.outs.length->∃B,blo b=some B/\B.live=true:=λb hb=>by
    have Aw:b<(mkB (AH 0 S.outs.length) S.outs z.2).length:=by rw[FU];exact hb
    exact⟨_,DK Aw,LU (DK Aw)⟩
   have Dy:∀g,Own pl2 bl3 g->(Own pl Aa g/\∃i B p,place AU i=none/\Aa i=some B/\B.live=true/\pl i=some p/\p.has g)\/Own Ai blo g:=by
    rintro g ⟨i,B,p,hB,hl,hp,hg⟩;cases Av:place AU i with
    |none=>rw[GJ i Av]at hB;rw[K2 i Av]at hp;have hB:=hblkL i B hB hl;exact .inl ⟨⟨i,B,p,hB,hl,hp,hg⟩,i,B,p,Av,hB,hl,hp,hg⟩
    |some b=>rw[M2 i b Av]at hp;obtain⟨B',hB',Gt⟩:=Jh b (GQ i b Av);exact .inr ⟨b,B',p,hB',Gt,hp,hg⟩
   have Oa:∀i B p g,place AU i=none->Aa i=some B->B.live=true->pl i=some p->p.has g->w'.heap[g]?=w.heap[g]?/\¬Own Ai blo g:=by
    intro i B p g Av hB hl hp hg;have Ao:g<w.heap.size:=Own.lt hr ⟨i,B,p,hB,hl,hp,hg⟩;refine hS.out g Ao λho=>?_;obtain⟨j,hj,Dd⟩:=aV g ho;obtain⟨t,cs,H6⟩:=J9 j hj
    have AL:i≠j:=by rintro rfl;obtain⟨b,hb⟩:=V5 (show i∈AU by rw[<-U9];exact Dl _ hj);rw[Jr u6 hb]at Av;cases Av
    exact hr.sep i j _ _ _ _ g AL hB H6 hl rfl hp Dd hg rfl
   have Es:Step pl Aa w pl2 bl3 w':=by
    refine⟨hS.os,hS.tape,hS.output,hS.size,λg Ao ho=>?_,λb g hb=>?_,λb sv Ab hb=>?_⟩
    ·obtain⟨h1,h2⟩:=hS.out g Ao λh=>ho (uE g h)
     refine⟨h1,λh=>?_⟩;rcases Dy g h with h|h
     ·exact ho h.1
     ·exact h2 h
    ·cases Av:place AU b with
     |none=>rw[K2 b Av];exact hb
     |some j=>
      rw[M2 b j Av];have hj:=G9 Av;rw[<-U9]at hj;by_cases Aih:j<ids.length
      ·rw[GX Aih]at hj
       exact hS.cells j g (by omega) (by simp only[plc,hj,VH];exact hb)
      ·rw[FG (by omega)]at hj
       have:=hr.fresh b (tZ b (CI hj));rw[this]at hb;cases hb
    ·have Av:place AU b=none:=by
      cases Av:place AU b with
      |none=>rfl
      |some j=>
       have hj:=CI (G9 Av);rw[<-U9]at hj;rcases Ci.1 hj with hj|hj
       ·obtain⟨t,cs,h⟩:=J9 b hj
        obtain⟨q,hq,hR⟩:=hr.blks b _ h;rw[hb]at hq;injection hq with hq;subst hq;exact hR.elim
       ·have:=hr.fresh b (tZ b hj)
        rw[this]at hb;cases hb
     exact⟨sv,Ab,by rw[K2 b Av];exact hb,KeepR.of_live (λC h hC=>by rw[GJ b Av]at h;exact hblkL b _ h (by cases C<;>first|rfl|exact absurd rfl hC)) _ _⟩
   have Ux:∀(τ:Ty)(x:τ.den)(us:List Value),((ST.flat S.res&&BT.flat S.outs)=false\/τ.flat=true)->DRep Eo.w Eo.ok τ x us->DRep (Al ok0 base pl2 bl3 w').w (Al ok0 base pl2 bl3 w').ok τ x us:=by
    intro τ x us uB hd;rcases uB with U2|I2
    ·refine hd.mono λg hg _=>⟨?_,rfl⟩
     obtain⟨h1,h2⟩:=hg;rcases h1 with(h1|⟨b,hb,B0,p0,aD,aR,uH,uP⟩)|h1
     ·have h1:(ok0 g\/(base<=g/\¬ok0.no g))/\¬Own pl Aa g:=by
       rcases hEok g h1 with h1|⟨b,hb,_⟩
       ·exact h1
       ·rw[(aQ.1 b hb)]at U2
        cases U2
      refine⟨h1.1,λho=>?_⟩;rcases Dy g ho with h|h
      ·exact h1.2 h.1
      ·exact h2 h
     ·
      refine⟨.inr ?_,λho=>?_⟩
      ·exact fE hr aD aR uH uP
      ·rcases Dy g ho with⟨_,i,B,p,Av,hBi,hl,AzF,CK⟩|h
       ·by_cases U8:i=b
        ·subst U8
         have CX:(i,Blk.dead)∈kills:=by rw[<-aP];exact Al2 U2 hb (by rw[<-bB i hb];exact aD) aR
         obtain⟨j,B',p',hB',Gt,Dh,C2⟩:=ho;cases Dd:place AU j with
         |none=>
          rw[GJ j Dd]at hB';rw[K2 j Dd]at Dh;have hB2:=hblkL j B' hB' Gt;by_cases Aif:j=i
          ·subst Aif
           rcases R6 (l:=kills) (f:=Aa) j (λp hp=>(Od p hp).1)with⟨_,h5⟩|⟨h5,_⟩
           ·exact h5 _ CX rfl
           ·rw[show blk j=some .dead from h5]at hB'
            injection hB' with hB';subst hB';cases Gt
          ·exact hr.sep j i B' _ p' p0 g Aif hB2 aD Gt (Blk.lend_live aR) Dh uH C2 uP
         |some q=>rw[M2 j q Dd]at Dh;obtain⟨Bq,hBq,Azf⟩:=Jh q (GQ j q Dd);exact h2 ⟨q,Bq,p',hBq,Azf,Dh,C2⟩
        ·exact hr.sep i b B _ p p0 g U8 hBi aD hl (Blk.lend_live aR) AzF uH CK uP
       ·exact h2 h
     ·have h1:=h1.1
      refine⟨.inr ⟨Df hr.baseLe h1,λhn=>by have:=(hr.glob.no g hn).1;omega⟩,λho=>?_⟩;rcases Dy g ho with h|h
      ·have:=Own.lt hr h.1;omega
      ·exact h2 h
    ·exact hd.flat I2
   have UN:Ren2 S.outs.length Eo (Al ok0 base pl2 bl3 w') (AH 0 S.outs.length) AU:=by
    have key:∀b,b<S.outs.length->pl2 (AU.getD b 0)=Ai b/\bl3 (AU.getD b 0)=(mkB AU S.outs z.2)[b]?:=by
     intro b hb;have Aw:b<AU.length:=by omega
     have HV:AU[b]?=some AU[b]:=DK Aw;have JA:AU.getD b 0=AU[b]:=by simp[List.getD,HV]
     have UK:=Jr u6 HV;rw[JA];exact⟨M2 _ b UK,Mt _ b UK⟩
    refine⟨λb g hb h=>?_,λb sv Ab hb h=>?_⟩
    ·rw[Ng hb]at h
     show pl2 _=_;rw[(key b hb).1];exact h
    ·rw[Ng hb]at h⊢
     refine⟨?_,λt e ver l h2=>?_,λt et e ver Ag hole l h2=>?_,λt e ver Ag hole l h2=>?_⟩
     ·show pl2 _=_
      rw[(key b hb).1];exact h
     ·have h3:bl3 (AU.getD b 0)=some (.row t e ver l):=h2
      rw[(key b hb).2]at h3;exact LS h3
     ·have h3:bl3 (AU.getD b 0)=some (.mat t et e ver Ag hole l):=h2
      rw[(key b hb).2]at h3;exact LT h3
     ·have h3:bl3 (AU.getD b 0)=some (.tree t e ver Ag hole l):=h2
      rw[(key b hb).2]at h3;exact f9 h3
   have NP:(ST.flat S.res&&BT.flat S.outs)=false\/(ST.flat S.res=true/\BT.flat S.outs=true):=by
    cases hf:(ST.flat S.res&&BT.flat S.outs)with
    |false=>exact .inl rfl
    |true=>exact .inr (andB hf)
   refine hK (Hx Bh) pl2 w' ?_ Es ?_
   ·refine⟨Df hr.baseLe hS.size,λi B hB=>?_,λi j B C p q g Db hB hC hlB' hlC hp hq CK=>?_,λi hi=>?_,hr.glob.out Es.size Es.out⟩
    ·cases Av:place AU i with
     |none=>
      rw[GJ i Av]at hB;cases hl:B.live with
      |false=>
       have Ky:∃B0,Aa i=some B0:=by
        rcases NO i with h|⟨_,_,_,h,_⟩
        ·exact⟨B,by rw[<-h];exact hB⟩
        ·exact⟨_,h⟩
       obtain⟨B0,hB0⟩:=Ky;obtain⟨p,hp,_⟩:=hr.blks i B0 hB0;refine⟨p,by rw[K2 i Av];exact hp,?_⟩;cases B<;>first|exact trivial|simp[Blk.live]at hl
      |true=>have hB:=hblkL i B hB hl;obtain⟨p,hp,hBR⟩:=hr.blks i B hB;refine⟨p,by rw[K2 i Av];exact hp,?_⟩;exact BRep.mono Es.ext hBR λg hg=>(Oa i B p g Av hB hl hp hg).1
     |some b=>obtain⟨Bo,hBo,Ge⟩:=Jh b (GQ i b Av);obtain⟨p,hp,hBR⟩:=hR.blks b Bo hBo;obtain⟨B',h1,h2,_,_,_,_⟩:=LR UN (hr.baseLe) Ux rfl c6 (NP.imp id (·.2)) hBo hBR;rw[Mt i b Av,h1]at hB;injection hB with hB;subst hB;exact⟨p,by rw[M2 i b Av];exact hp,h2⟩
    ·cases Av:place AU i with
     |none=>
      rw[GJ i Av]at hB;have hB:=hblkL i B hB hlB';rw[K2 i Av]at hp;cases Dd:place AU j with
      |none=>rw[GJ j Dd]at hC;have hC:=hblkL j C hC hlC;rw[K2 j Dd]at hq;exact hr.sep i j B C p q g Db hB hC hlB' hlC hp hq CK
      |some b=>rw[M2 j b Dd]at hq;intro Bn;obtain⟨Bo,hBo,Ge⟩:=Jh b (GQ j b Dd);exact(Oa i B p g Av hB hlB' hp CK).2 ⟨b,Bo,q,hBo,Ge,hq,Bn⟩
     |some b=>
      rw[M2 i b Av]at hp;obtain⟨Bo,hBo,Ge⟩:=Jh b (GQ i b Av);cases Dd:place AU j with
      |none=>rw[GJ j Dd]at hC;have hC:=hblkL j C hC hlC;rw[K2 j Dd]at hq;intro Bn;exact(Oa j C q g Dd hC hlC hq Bn).2 ⟨b,Bo,p,hBo,Ge,hp,CK⟩
      |some b'=>
       rw[M2 j b' Dd]at hq;obtain⟨Bo',hBo',tU⟩:=Jh b' (GQ j b' Dd)
       have I0:b≠b':=by rintro rfl;have h1:=G9 Av;have h2:=G9 Dd;rw[h1]at h2;injection h2 with h2;exact Db h2
       exact hR.sep b b' _ _ p q g I0 hBo hBo' Ge tU hp hq CK
    ·cases Av:place AU i with
     |none=>
      rw[GJ i Av]at hi;rw[K2 i Av];rcases NO i with h|⟨h,_⟩
      ·exact hr.fresh i (by rw[<-h];exact hi)
      ·rw[h]at hi;cases hi
     |some b=>rw[Mt i b Av]at hi;have:=GQ i b Av;rw[OE,FU]at hi;omega
   ·exact TReps.res (f4 UN Ux c5 (NP.imp id (·.1)) hT)
 ·cases hk
end
end
end Go.Lift
namespace Go.Lift
open Go.RowKit Go.MapKept
section
variable{P:Program}{o:Oper}{ρ:Operand->V}{bl:Nat->Option Blk}{β:Type}{r:β}
theorem Al8{t:TypeId}{ti:TI}{i:TypeInfo}{d:TypeDesc}{z:Value}(f:TFacts P t ti i d z){k:Ty}(hk:Fg ti k=true)(hw:keyW k=false){w:World}{ok:Nat->Prop}{x:k.den}{u:Value}(hd:DRep w ok k x [u]):IsKey d u:=by
 cases k with
 |bool=>simp only[Fg,f.isBool]at hk;simp only[DRep,De,EA]at hd;subst hd;cases d<;>simp[Wh]at hk;trivial
 |int k=>have hk:=AV hk;rw[f.kind]at hk;simp only[DRep,De,EA]at hd;subst hd;cases d<;>simp[Pj]at hk;subst hk;rfl
 |str=>simp only[Fg,f.isStr]at hk;simp only[DRep,De,EA]at hd;subst hd;cases d<;>simp[Wg]at hk;trivial
 |unit=>simp[Fg]at hk
 |err=>simp[Fg]at hk
 |prod a b=>simp[keyW]at hw
 |slice e=>simp[Fg]at hk
theorem Al9{ti:TI}{a b:Ty}(hk:Fg ti (.prod a b)=true):∃i j,a=.int i/\b=.int j/\ti.eqs=some [.i,.i]/\ti.len=some 2:=by
 cases a<;>cases b<;>first|(simp[Fg]at hk;done)|skip
 refine⟨_,_,rfl,rfl,?_⟩;simp only[Fg]at hk;split at hk
 ·rename_i h1 h2;exact⟨h1,h2⟩
 ·cases hk
theorem yM{E:Env}{k:Ty}{v:V}{key:k.den}{u:Value}(h:Iq k v=some key)(hv:VRep E v u):KRep E.w E.ok k key u:=by
 cases k with
 |bool=>
  cases v<;>first|(cases h;done)|skip
  rename_i c;cases c<;>first|(cases h;done)|skip
  simp only[Iq]at h;injection h with h;subst h;have:u=.bool _:=hv;subst this;exact⟨_,rfl,rfl⟩
 |int k=>
  cases v<;>first|(cases h;done)|skip
  rename_i c;cases c<;>first|(cases h;done)|skip
  simp only[Iq]at h;split at h
  ·rename_i hk
   subst hk;injection h with h;subst h;have:u=.int _ _:=hv;subst this;exact⟨_,rfl,rfl⟩
  ·cases h
 |str=>
  cases v<;>first|(cases h;done)|skip
  rename_i c;cases c<;>first|(cases h;done)|skip
  simp only[Iq]at h;injection h with h;subst h;have:u=.string _:=hv;subst this;exact⟨_,rfl,rfl⟩
 |unit=>simp[Iq]at h
 |err=>simp[Iq]at h
 |prod a b=>
  cases a<;>first|(simp[Iq]at h;done)|skip
  cases b<;>first|(simp[Iq]at h;done)|skip
  cases v<;>first|(simp[Iq]at h;done)|skip
  rename_i cs
  match cs,h,hv with
  |[.int j n,.int j2 n2],h,hv=>
   simp only[Iq]at h;split at h
   ·rename_i hk
    obtain⟨rfl,rfl⟩:=hk;injection h with h;subst h;obtain⟨vs,⟨v1,r1,e1,c1,⟨v2,r2,e2,c2,e3⟩⟩,hu⟩:=hv;have c1:v1=.int _ _:=c1;have c2:v2=.int _ _:=c2;have e3:r2=[]:=e3;subst e3 e2 e1 c1 c2;exact⟨_,⟨[_],[_],rfl,rfl,rfl⟩,by simpa [keyW]using hu⟩
   ·cases h
 |slice e=>simp[Iq]at h
theorem Ala{ti:TI}{k:Ty}(hk:Fg ti k=true)(hw:keyW k=false){w:World}{ok:Nat->Prop}{a b:k.den}{x y:Value}(ha:DRep w ok k a [x])(hb:DRep w ok k b [y]):(Ip k a b=true↔y=x):=by
 cases k with
 |bool=>simp only[DRep,De,EA]at ha hb;subst ha hb;simp only[Ip,beq_iff_eq,Value.bool.injEq];exact eq_comm
 |int k=>simp only[DRep,De,EA]at ha hb;subst ha hb;simp only[Ip,IH,Value.int.injEq,true_and];exact eq_comm
 |str=>
  simp only[DRep,De,EA]at ha hb;subst ha hb;simp only[Ip,IH,Value.string.injEq,ByteArray.mk.injEq];constructor
  ·intro h;rw[h]
  ·intro h;simpa using At Array.toList h.symm
 |unit=>simp[Fg]at hk
 |err=>simp[Fg]at hk
 |prod a b=>simp[keyW]at hw
 |slice e=>simp[Fg]at hk
theorem KRep.one{w:World}{ok:Nat->Prop}{k:Ty}{x:k.den}{u:Value}(hw:keyW k=false)(h:KRep w ok k x u):DRep w ok k x [u]:=by
 obtain⟨us,h1,h2⟩:=h;rw[hw]at h2;have h2:us=[u]:=by simpa using h2
 rw[<-h2];exact h1
theorem KRep.two{w:World}{ok:Nat->Prop}{i j:IntKind}{x:Int×Int}{u:Value}(h:KRep w ok (.prod (.int i) (.int j)) x u):u=.agg #[.int i x.1,.int j x.2]:=by obtain⟨us,⟨v1,v2,e0,e1,e2⟩,h2⟩:=h;have e1:v1=[_]:=e1;have e2:v2=[_]:=e2;subst e1 e2 e0;simpa [keyW]using h2
theorem Alb{w:World}{e:TypeId}{q:IntKind}(h:P.underlying e=some (.int q))(em:Bool)(k:IntKind)(x:Int)(n:Nat):(Instr.checkKey em (n+1) e (.int k x)).run P w=.ok () w:=by unfold Instr.checkKey;simp[run_underlying h,Result.andThen]
theorem Alc{em:Bool}{w:World}{kt e:TypeId}{ka kb:IntKind}{a b:Int}(Ot:P.underlying kt=some (.array 2 e))(hs:(sizeOf e).run P w=.ok 1 w)(p0:(part e #[.int ka a,.int kb b] 0).run P w=.ok (.int ka a) w)(p1:(part e #[.int ka a,.int kb b] 1).run P w=.ok (.int kb b) w)(hc:∀k x n,(Instr.checkKey em (n+1) e (.int k x)).run P w=.ok () w)(n:Nat):(Instr.checkKey em (n+2) kt (.agg #[.int ka a,.int kb b])).run P w=.ok () w:=by
 rw[Instr.checkKey];simp[run_underlying Ot,Result.andThen,List.range',hs,p0,p1,hc]
structure Finds (P:Program) (w:World) (ok:Nat->Prop) (kt:TypeId) (k:Ty) (key:k.den) (u:Value) (Fd:List MapEntry->Nat->Option (Nat×Value)->Prop):Prop where
 rep:KRep w ok k key u
 nil:∀i,Fd [] i none
 cons:∀(x:k.den)(e:MapEntry)(es:List MapEntry)(i:Nat),KRep w ok k x e.key->(Ip k x key=true/\e.key=u/\Fd (e::es) i (some (i,e.val)))\/(Ip k x key=false/\∀r,Fd es (i+1) r->Fd (e::es) i r)
 run:∀es r,Fd es 0 r->(Instr.findKey kt u es).run P w=.ok r w
 check:∀em,(Instr.checkKey em 10000 kt u).run P w=.ok () w
 stays:(Instr.keyThatStays u u).run P w=.ok u w
theorem Wu{kt:TypeId}{ti:TI}{i:TypeInfo}{d:TypeDesc}{z:Value}(f:TFacts P kt ti i d z){k:Ty}(hk:Fg ti k=true){w:World}{ok:Nat->Prop}{key:k.den}{u:Value}(hd:KRep w ok k key u):∃Fd,Finds P w ok kt k key u Fd:=by
 cases hw:keyW k with
 |false=>
  have NY:=λ(y:k.den)(u:Value)(h:KRep w ok k y u)=>Al8 f hk hw (h.one hw);refine⟨λes i r=>Instr.findNow d u es i=some r,hd,λ_=>rfl,λx e es i hx=>?_,λes r h=>run_findKey f.under h,λem=>run_checkKey f.under (NY key _ hd) em _,run_keyThatStays (NY key _ hd)⟩;obtain⟨q,hq,Aid⟩:=sameNow_of_keys (NY key u hd) (NY x e.key hx);have Aij:=Ala hk hw (hx.one hw) (hd.one hw);cases q with
  |true=>have Q5:u=e.key:=Aid.1 rfl;exact .inl ⟨Aij.2 Q5,Q5.symm,by simp[Instr.findNow,hq]⟩
  |false=>
   have Q5:u≠e.key:=λh=>by have:=Aid.2 h;cases this
   refine .inr ⟨?_,λr h=>by simp[Instr.findNow,hq,h]⟩;cases hh:Ip k x key with
   |false=>rfl
   |true=>exact absurd (Aij.1 hh) Q5
 |true=>
  cases k with
  |prod a b=>
   obtain⟨ka,kb,rfl,rfl,he,hl⟩:=Al9 hk;have hu:=hd.two;have HU:=f.eqs.symm.trans he
   have AyP:∃e,P.underlying kt=some (.array 2 e)/\JX P e=some .i/\P.cellsOf e=1:=by
    have Cr:=f.alen.symm.trans hl;have Ot:=f.under;cases d<;>simp[lenD]at Cr;subst Cr;rename_i e;refine⟨e,Ot,?_⟩;unfold Rs at HU;rw[Ot]at HU;simp only at HU;split at HU
    ·rename_i kk Ob
     cases hc:(Nat.beq (P.cellsOf e) 1&&!P.eqGuardType P.depth kt)with
     |false=>rw[hc]at HU;cases HU
     |true=>rw[hc]at HU;simp only[Am,Af,List.replicate,De,EA]at HU;obtain⟨CQ,_⟩:=andB hc;exact⟨by rw[Ob,HU.1],As CQ⟩
    ·cases HU
   obtain⟨e,Ot,Jg,Jk⟩:=AyP
   have bH:∃q,P.underlying e=some (.int q):=by
    unfold JX at Jg;split at Jg
    all_goals first|(cases Jg;done)|skip
    rename_i q hq;exact⟨q,hq⟩
   obtain⟨q,bH⟩:=bH
   have UA:∃i,P.info? e=some i:=by
    cases hi:P.info? e with
    |some i=>exact⟨i,rfl⟩
    |none=>simp[Program.cellsOf,hi]at Jk
   obtain⟨ie,UA⟩:=UA;have aW:P.plainKey e=true:=by simp[Program.plainKey,bH]
   refine⟨λes i r=>(Instr.findAsking kt u es i).run P w=.ok r w,hd,λ_=>by simp[Instr.findAsking],λx en es i hx=>?_,λes r h=>?_,λem=>?_,?_⟩
   ·have Hq:=hx.two
    have hE:CReps (⟨w,ok,0,λ_=>none,λ_=>none⟩:Env) [.int ka key.1,.int kb key.2] [.int ka key.1,.int kb key.2]:=⟨_,_,rfl,rfl,_,_,rfl,rfl,rfl⟩;have hF:CReps (⟨w,ok,0,λ_=>none,λ_=>none⟩:Env) [.int ka x.1,.int kb x.2] [.int ka x.1,.int kb x.2]:=⟨_,_,rfl,rfl,_,_,rfl,rfl,rfl⟩;have hr:=(xJ HU hE hF (q:=decide (key.1=x.1)&&(decide (key.2=x.2)&&true)) (by simp[Ce]) w).1;have hr:(Op.equal kt u en.key).run P w=.ok (decide (key.1=x.1)&&(decide (key.2=x.2)&&true)) w:=by rw[hu,Hq];exact hr
    by_cases h1:key.1=x.1/\key.2=x.2
    ·refine .inl ⟨by simp[Ip,h1.1,h1.2],by rw[hu,Hq,h1.1,h1.2],?_⟩
     simp[Instr.findAsking,hr,h1.1,h1.2,Result.andThen]
    ·have hq:(decide (key.1=x.1)&&(decide (key.2=x.2)&&true))=false:=by
      by_cases h2:key.1=x.1
      ·have h3:¬key.2=x.2:=λh=>h1 ⟨h2,h⟩
       simp[h3]
      ·simp[h2]
     rw[hq]at hr;refine .inr ⟨?_,λr h=>by simp[Instr.findAsking,hr,Result.andThen,h]⟩;by_cases h2:x.1=key.1
     ·have h3:¬x.2=key.2:=λh=>h1 ⟨h2.symm,h.symm⟩
      simp[Ip,h3]
     ·simp[Ip,h2]
   ·rw[run_findKey_eq w (by rw[Ot])]
    exact h
   ·rw[hu]
    have p0:=run_part_plain w aW (xs:=#[.int ka key.1,.int kb key.2]) (off:=0) rfl;have p1:=run_part_plain w aW (xs:=#[.int ka key.1,.int kb key.2]) (off:=1) rfl;have hc:=λk n m=>Alb (P:=P) (w:=w) bH em k n m;have hs:=_root_.Go.run_sizeOf w UA;rw[Jk]at hs;exact Alc Ot hs p0 p1 hc 9998
   ·rw[hu]
    simp[Instr.keyThatStays,Instr.sameBits]
  |bool=>simp[keyW]at hw
  |int k=>simp[keyW]at hw
  |str=>simp[keyW]at hw
  |unit=>simp[keyW]at hw
  |err=>simp[keyW]at hw
  |slice e=>simp[keyW]at hw
theorem fK{kt:TypeId}{w:World}{ok:Nat->Prop}{k v:Ty}{vg:Bool}{key:k.den}{u:Value}{Fd:List MapEntry->Nat->Option (Nat×Value)->Prop}(H:Finds P w ok kt k key u Fd):∀{l:List (k.den×v.den)}{es:List MapEntry}(i:Nat),MRep w ok k v vg l es->(Fd es i none/\mHas k l key=false/\(∀z,mGet k l key z=z)/\∀(y:v.den)(us:List Value)(val:Value)(n:Nat),DRep w ok v y us->(if vg then val=.agg us.toArray else us=[val])->MRep w ok k v vg (mPut k l key y) (es++[{key:=u,val:=val,born:=n}]))\/∃j e y us,Fd es i (some (i+j,e.val))/\es[j]?=some e/\e.key=u/\mHas k l key=true/\(∀z,mGet k l key z=y)/\DRep w ok v y us/\(if vg then e.val=.agg us.toArray else us=[e.val])/\∀(y':v.den)(C4:List Value)(val:Value)(f:MapEntry->MapEntry),DRep w ok v y' C4->(if vg then val=.agg C4.toArray else C4=[val])->(∀e,(f e).key=u/\(f e).val=val)->MRep w ok k v vg (mPut k l key y') (es.modify j f)
 |[],es,i,h=>by simp only[MRep]at h;subst h;refine .inl ⟨H.nil i,rfl,λ_=>rfl,λy us val n h1 h2=>?_⟩;exact⟨_,[],rfl,H.rep,⟨us,h1,h2⟩,rfl⟩
 |x::l,es,i,⟨e,BA,h0,h1,⟨us,h2,h3⟩,h4⟩=>by
  subst h0;rcases H.cons x.1 e BA i h1 with⟨Fb,Q5,aM⟩|⟨Fb,Qz⟩
  ·refine .inr ⟨0,e,x.2,us,aM,rfl,Q5,by simp[mHas,Fb],λz=>by simp[mGet,Fb],h2,h3,λy' C4 val f g1 g2 g3=>?_⟩
   have hp:mPut k (x::l) key y'=(key,y')::l:=by simp[mPut,Fb]
   rw[hp];refine⟨f e,BA,by simp,by rw[(g3 e).1];exact H.rep,⟨C4,g1,by rw[(g3 e).2];exact g2⟩,h4⟩
  ·rcases fK H (i+1) h4 with⟨g1,g2,g3,g4⟩|⟨j,e',y,us2,g1,g2,g3,g4,g5,g6,g7,g8⟩
   ·refine .inl ⟨Qz _ g1,by simp[mHas,Fb,g2],λz=>by simp[mGet,Fb,g3],λy C4 val n k1 k2=>?_⟩
    have hp:mPut k (x::l) key y=x::mPut k l key y:=by simp[mPut,Fb]
    rw[hp];exact⟨e,BA++_,rfl,h1,⟨us,h2,h3⟩,g4 y C4 val n k1 k2⟩
   ·refine .inr ⟨j+1,e',y,us2,by have:=Qz _ g1;rwa [show i+(j+1)=i+1+j by omega],by simpa using g2,g3,by simp[mHas,Fb,g4],λz=>by simp[mGet,Fb,g5],g6,g7,λy' C4 val f k1 k2 k3=>?_⟩
    have hp:mPut k (x::l) key y'=x::mPut k l key y':=by simp[mPut,Fb]
    rw[hp];exact⟨e,BA.modify j f,by simp,h1,⟨us,h2,h3⟩,g8 y' C4 val f k1 k2 k3⟩
theorem fL{t:TypeId}{ti:TI}{i:TypeInfo}{d:TypeDesc}{z:Value}(f:TFacts P t ti i d z){kt vt:TypeId}(h:ti.mp=some (kt,vt)):d=.map kt vt:=by rw[f.mp]at h;cases d<;>simp[mpD]at h;rw[h.1,h.2]
theorem Ald{T:TypeId->Option TI}{kk:K β}{nx:Nat}{t:TypeId}(ho:o.op=.makeMap t none)(hk:cZ T bl nx t kk=some r):Sound P o ρ bl kk r:=by
 unfold cZ at hk;split at hk
 ·cases hk
 split at hk
 ·cases hk
 split at hk
 ·rename_i tk tv Q3 bF
  split at hk
  ·rename_i aO EU hn
   refine⟨_,_,_,hk,λAa hb=>?_⟩;have CS:Aa nx=none:=(hb nx (by simp)).trans hn;intro ok0 base pl w a hr hx K Q hK
   have h1:(execOp a.eval o).run P w=.ok (.value (.map (some w.heap.size))) (w.alloc (.map #[] 0)):=by simp[execOp,ho,Instr.makeMap]
   have hg:w.grownBy (w.alloc (.map #[] 0)) none:=World.grownBy_alloc w _ none;have hp:∀g,(Pl.cells w.heap.size).has g->w.heap.size<=g:=λg Fm=>JP Fm;have hs:Step pl Aa w (upd pl nx (.cells w.heap.size)) (upd Aa nx (.fmap t [])) (w.alloc (.map #[] 0)):=Step.new hr CS hg hp;refine Hc h1 (hK _ (upd pl nx (.cells w.heap.size)) _ ?_ hs ?_)
   ·exact RelB.new hr CS hg hp ⟨#[],0,heap_alloc_new w _,rfl⟩
   ·exact⟨w.heap.size,by simp[Al,upd],rfl⟩
  ·rename_i k v aO EU hn
   cases hq:Fg tk k with
   |false=>rw[hq]at hk;cases hk
   |true=>
    simp only[hq,Am]at hk;refine⟨_,_,_,hk,λAa hb=>?_⟩;have CS:Aa nx=none:=(hb nx (by simp)).trans hn;intro ok0 base pl w a hr hx K Q hK
    have h1:(execOp a.eval o).run P w=.ok (.value (.map (some w.heap.size))) (w.alloc (.map #[] 0)):=by simp[execOp,ho,Instr.makeMap]
    have hg:w.grownBy (w.alloc (.map #[] 0)) none:=World.grownBy_alloc w _ none;have hp:∀g,(Pl.cells w.heap.size).has g->w.heap.size<=g:=λg Fm=>JP Fm;have hs:Step pl Aa w (upd pl nx (.cells w.heap.size)) (upd Aa nx (.map t k v tv.agg [])) (w.alloc (.map #[] 0)):=Step.new hr CS hg hp;refine Hc h1 (hK _ (upd pl nx (.cells w.heap.size)) _ ?_ hs ?_)
    ·exact RelB.new hr CS hg hp ⟨#[],0,heap_alloc_new w _,rfl⟩
    ·exact⟨w.heap.size,by simp[Al,upd],rfl⟩
  ·cases hk
 ·cases hk
theorem yN{E:Env}{v:Ty}{vg:Bool}{y:v.den}{us:List Value}{val:Value}(hd:DRep E.w E.ok v y us)(hv:if vg then val=.agg us.toArray else us=[val]):VRep E (V.mk vg (cells v y)) val:=
 VRep.mk ⟨us,Hv hd,hv⟩
theorem Ale{T:TypeId->Option TI}(hT:TOk P T){kk:K β}{t:TypeId}{x ix:Operand}{commaOk:Bool}(ho:o.op=.lookup t x ix commaOk)(hk:dC T bl t (ρ x) (ρ ix) commaOk kk=some r):Sound P o ρ bl kk r:=by
 unfold dC at hk;split at hk
 ·cases hk
 rename_i ti ht;obtain⟨i,d,z,f⟩:=hT.facts ht;split at hk
 ·cases hk
 rename_i kt vt Oi;have hd:=fL f Oi;subst hd;split at hk
 ·rename_i tk tv Q3 bF
  obtain⟨ik,dk,zk,fk⟩:=hT.facts Q3;obtain⟨iv,dv,zv,fv⟩:=hT.facts bF;split at hk
  ·rename_i b hx
   split at hk
   ·rename_i t0 k v vg l hb
    cases hq:(Fg tk k&&(vg||Nat.beq v.size 1)&&(vg==tv.agg))with
    |false=>rw[hq]at hk;cases hk
    |true=>
     simp only[hq,Am]at hk;obtain⟨hq,bA⟩:=andB hq;obtain⟨uI,I6⟩:=andB hq;have bA:vg=tv.agg:=by simpa using bA
     split at hk
     ·rename_i key zz JB v7
      refine Sound.pure hk λAa Ah ok0 base pl w a hr Ae=>?_;have Aw:Aa b=some (.map t0 k v vg l):=(Ah b (by simp)).trans hb;have h1:=Ae x (by simp[ho,Op.operands]);have h2:=Ae ix (by simp[ho,Op.operands]);rw[hx]at h1;obtain⟨g,hg,Bm⟩:=h1;have tR:=yM JB h2;obtain⟨p,hp,hB⟩:=hr.blks b _ Aw;have:p=.cells g:=by have h3:pl b=some (.cells g):=hg;rw[hp]at h3;injection h3
      subst this;obtain⟨es,C8,hh,hm⟩:=hB;have hh:w.heap[g]?=some (.map es C8):=hh;obtain⟨Fd,HF⟩:=Wu fk uI (w:=w) (ok:=(Al ok0 base pl Aa w).ok) tR;have v6:(zeroValue vt).run P w=.ok zv w:=by simp[zeroValue,typeInfo,fv.info,fv.zero]
      rcases fK HF 0 hm with⟨g1,g2,g3,g4⟩|⟨j,e,y,us,g1,g2,g3,g4,g5,g6,g7,g8⟩
      ·
       have hz:∃us,DRep (Al ok0 base pl Aa w).w (Al ok0 base pl Aa w).ok v zz us/\if vg then zv=.agg us.toArray else us=[zv]:=by
        have AAe:CReps (Al ok0 base pl Aa w) tv.zero zv.cells.toList:=by rw[fv.zeroC];exact LP fv.one
        have Uy:=Na hr.blksOk (Rows.none _ _) AAe v7;refine⟨_,Uy,?_⟩;rw[bA,fv.agg];have:=Wp fv w;cases Ej:Ir P vt with
        |true=>simp only[Dn];have Ih:=fv.zagg.trans Ej;cases zv<;>simp[Rt]at Ih;rfl
        |false=>
         simp only[HE,Cx];rw[bA,fv.agg,Ej]at I6;have C3:=As (by simpa using I6:Nat.beq v.size 1=true);have hl:=DRep.length Uy;rw[C3]at hl;cases zv with
         |agg cs=>exact absurd (fv.zagg.trans Ej) (by simp[Rt])
         |_=>rfl
       obtain⟨us,Ih,bJ⟩:=hz
       have AA:(execOp a.eval o).run P w=.ok (.value (if commaOk then .tuple #[zv,.bool false]else zv)) w:=by simp[execOp,ho,Instr.lookup,run_underlying f.under,Bm,MapKept.run_getObj_map hh,HF.check,HF.run _ _ g1,v6,Result.andThen]
       refine⟨_,AA,?_⟩;rw[g2,g3];cases commaOk with
       |true=>exact⟨[zv,.bool false],rfl,zv,[.bool false],rfl,⟨us,Hv Ih,bJ⟩,.bool false,[],rfl,⟨[.bool false],⟨_,_,rfl,rfl,rfl⟩,by simp⟩,rfl⟩
       |false=>exact yN Ih bJ
      ·have AA:(execOp a.eval o).run P w=.ok (.value (if commaOk then .tuple #[e.val,.bool true]else e.val)) w:=by simp[execOp,ho,Instr.lookup,run_underlying f.under,Bm,MapKept.run_getObj_map hh,HF.check,HF.run _ _ g1,Result.andThen]
       refine⟨_,AA,?_⟩;rw[g4,g5];cases commaOk with
       |true=>exact⟨[e.val,.bool true],rfl,e.val,[.bool true],rfl,⟨us,Hv g6,g7⟩,.bool true,[],rfl,⟨[.bool true],⟨_,_,rfl,rfl,rfl⟩,by simp⟩,rfl⟩
       |false=>exact yN g6 g7
     ·cases hk
   ·cases hk
  ·cases hk
 ·cases hk
theorem R9{w:World}{g:Nat}{o:Obj}:w.grownBy {w with heap:=w.heap.setIfInBounds g o} (some g):=
 ⟨rfl,rfl,rfl,by simp,λk hk AL=>by have:k≠g:=λh=>AL (by rw[h]);simp[Ne.symm this]⟩
theorem Alf{T:TypeId->Option TI}(hT:TOk P T){kk:K β}{t:TypeId}{x ix y:Operand}(ho:o.op=.mapUpdate t x ix y)(hk:dD T bl t (ρ x) (ρ ix) (ρ y) kk=some r):Sound P o ρ bl kk r:=by
 unfold dD at hk;split at hk
 ·cases hk
 rename_i ti ht;obtain⟨i,d,z,f⟩:=hT.facts ht;split at hk
 ·cases hk
 rename_i kt vt Oi;have hd:=fL f Oi;subst hd;split at hk
 ·cases hk
 rename_i tk Q3;obtain⟨ik,dk,zk,fk⟩:=hT.facts Q3;split at hk
 ·rename_i b cs hx CH
  split at hk
  ·rename_i t0 k v vg l hb
   cases hq:(Fg tk k&&decide (Re (ρ y)=some vg))with
   |false=>rw[hq]at hk;cases hk
   |true=>
    simp only[hq,Am]at hk;obtain⟨uI,I6⟩:=andB hq;have I6:=AV I6;split at hk
    ·rename_i key zz JB v7
     refine⟨_,_,_,hk,λAa Ah=>?_⟩;intro ok0 base pl w a hr Ae K Q hK;have Aw:Aa b=some (.map t0 k v vg l):=(Ah b (by simp)).trans hb;have h1:=Ae x (by simp[ho,Op.operands]);have h2:=Ae ix (by simp[ho,Op.operands]);have h3:=Ae y (by simp[ho,Op.operands]);rw[hx]at h1;obtain⟨g,hg,Bm⟩:=h1;have tR:=yM JB h2;obtain⟨p,hp,hB⟩:=hr.blks b _ Aw;have CK:pl b=some (.cells g):=hg;have:p=.cells g:=by rw[hp]at CK;injection CK
     subst this;obtain⟨es,C8,hh,hm⟩:=hB;have hh:w.heap[g]?=some (.map es C8):=hh;obtain⟨Fd,HF⟩:=Wu fk uI (w:=w) (ok:=(Al ok0 base pl Aa w).ok) tR;have AAc:=VRep.cells_of CH h3;have Uy:=Na hr.blksOk (Rows.none _ _) AAc v7
     have Ai6:if vg then a.eval y=.agg (a.eval y).cells.toList.toArray else(a.eval y).cells.toList=[a.eval y]:=by
      cases I8:ρ y with
      |c q=>
       rw[I8]at I6 h3;simp only[Re,Af]at I6;subst I6;have h4:=CRep.oneCell (show CRep _ q (a.eval y)from h3);simp only[HE,Cx];cases hv:a.eval y with
       |agg cs=>rw[hv]at h4;simp[Value.oneCell']at h4
       |_=>rfl
      |agg q=>rw[I8]at I6 h3;simp only[Re,Af]at I6;subst I6;obtain⟨vs,_,hv⟩:=h3;simp only[Dn]at hv;rw[hv];rfl
      |_=>rw[I8]at I6;simp[Re]at I6
     have Es:∀(l':List (k.den×v.den))(o':Obj),Step pl Aa w (upd pl b (.cells g)) (upd Aa b (.map t0 k v vg l')) {w with heap:=w.heap.setIfInBounds g o'}:=
      λl' o'=>Step.wroteB hr Aw rfl CK R9
     rcases fK HF 0 hm with⟨g1,g2,g3,g4⟩|⟨j,e,y',us,g1,g2,g3,g4,g5,g6,g7,g8⟩
     ·have AA:(execOp a.eval o).run P w=.ok .skip {w with heap:=w.heap.setIfInBounds g (.map (es.push {key:=a.eval ix,val:=a.eval y,born:=C8}) (C8+1))}:=by simp[execOp,ho,Instr.mapUpdate,run_underlying f.under,Bm,MapKept.run_getObj_map hh,HF.check,HF.run _ _ g1,MapKept.run_setObj_map _ hh,Result.andThen]
      refine MX AA (hK undef (upd pl b (.cells g)) _ (RelB.wroteB hr Aw rfl CK R9 ?_) (Es _ _) trivial);refine⟨_,_,(heap_set hh).1,?_⟩;rw[Array.toList_push];have Hq:=(Es (mPut k l key zz) (.map (es.push {key:=a.eval ix,val:=a.eval y,born:=C8}) (C8+1))).ext (ok0:=ok0) (base:=base);exact(g4 zz _ (a.eval y) C8 Uy Ai6).mono (λ_ _ h=>h.mono Hq.heap) (λ_ _ h=>h.mono Hq.heap)
     ·have hj:es[j]?=some e:=by simpa using g2
      have AA:(execOp a.eval o).run P w=.ok .skip {w with heap:=w.heap.setIfInBounds g (.map (es.modify j λe=>{e with key:=a.eval ix,val:=a.eval y}) C8)}:=by simp[execOp,ho,Instr.mapUpdate,run_underlying f.under,Bm,MapKept.run_getObj_map hh,HF.check,HF.run _ _ g1,hj,g3,HF.stays,MapKept.run_setObj_map _ hh,Result.andThen]
      refine MX AA (hK undef (upd pl b (.cells g)) _ (RelB.wroteB hr Aw rfl CK R9 ?_) (Es _ _) trivial);refine⟨_,_,(heap_set hh).1,?_⟩;rw[Array.toList_modify];have Hq:=(Es (mPut k l key zz) (.map (es.modify j λe=>{e with key:=a.eval ix,val:=a.eval y}) C8)).ext (ok0:=ok0) (base:=base);exact(g8 zz _ (a.eval y) _ Uy Ai6 (λ_=>⟨rfl,rfl⟩)).mono (λ_ _ h=>h.mono Hq.heap) (λ_ _ h=>h.mono Hq.heap)
    ·cases hk
  ·cases hk
 ·cases hk
theorem yO{T:TypeId->Option TI}(hT:TOk P T){t:TypeId}(h:fKey T t=true):∃ti i z kt vt tk ik dk zk,TFacts P t ti i (.map kt vt) z/\TFacts P kt tk ik dk zk/\Fg tk .str=true:=by
 unfold fKey at h;split at h
 ·rename_i ti ht
  obtain⟨i,d,z,f⟩:=hT.facts ht;split at h
  ·rename_i kt vt Oi
   have hd:=fL f Oi;subst hd;split at h
   ·rename_i tk Q3
    obtain⟨ik,dk,zk,fk⟩:=hT.facts Q3;exact⟨ti,i,z,kt,vt,tk,ik,dk,zk,f,fk,h⟩
   ·cases h
  ·cases h
 ·cases h
theorem yP{E:Env}{kt:TypeId}{w:World}{ok:Nat->Prop}{s:List UInt8}{u:Value}{Fd:List MapEntry->Nat->Option (Nat×Value)->Prop}(H:Finds P w ok kt .str s u Fd):∀{l:List (List UInt8×(FuncId×Nat))}{es:List MapEntry}(i:Nat),FRep E l es->fHas l s=false->Fd es i none
 |[],es,i,h,_=>by have h:es=[]:=h;subst h;exact H.nil i
 |x::l,es,i,⟨e,r,g,h1,h2,_,_,h5⟩,hn=>by
  subst h1;simp only[fHas,MI]at hn;rcases H.cons x.1 e r i ⟨[e.key],by rw[h2];rfl,rfl⟩with⟨Fb,_,_⟩|⟨_,Qz⟩
  ·have Fb:decide (x.1=s)=true:=Fb
   rw[hn.1]at Fb;cases Fb
  ·exact Qz _ (yP H (i+1) h5 hn.2)
theorem yQ{E:Env}{kt:TypeId}{w:World}{ok:Nat->Prop}{s:List UInt8}{u:Value}{Fd:List MapEntry->Nat->Option (Nat×Value)->Prop}(H:Finds P w ok kt .str s u Fd){kk:FuncId×Nat->Option β}{r:β}:∀{l:List (List UInt8×(FuncId×Nat))}{es:List MapEntry}(i:Nat),FRep E l es->MU kk l s=some r->∃y j g,kk y=some r/\E.pl y.2=some (.cells g)/\Fd es i (some (i+j,.func (.func y.1) #[.pointer (some ⟨g,0,none⟩)] #[]))
 |[],es,i,h,hf=>by cases hf
 |x::l,es,i,⟨e,BA,g,h1,h2,h3,h4,h5⟩,hf=>by
  subst h1;simp only[MU]at hf;rcases H.cons x.1 e BA i ⟨[e.key],by rw[h2];rfl,rfl⟩with⟨Fb,_,aM⟩|⟨Fb,Qz⟩
  ·have Fb:decide (x.1=s)=true:=Fb
   rw[Fb,Am]at hf;exact⟨x.2,0,g,hf,h3,by rw[h4]at aM;exact aM⟩
  ·have Fb:decide (x.1=s)=false:=Fb
   rw[Fb,Cj]at hf;obtain⟨y,j,g',q1,q2,q3⟩:=yQ H (i+1) h5 hf;exact⟨y,j+1,g',q1,q2,by have:=Qz _ q3;rwa [show i+(j+1)=i+1+j by omega]⟩
theorem FRep.app{E:Env}{y:List UInt8×(FuncId×Nat)}{e:MapEntry}{g:Nat}(h1:e.key=.string ⟨y.1.toArray⟩)(h2:E.pl y.2.2=some (.cells g))(h3:e.val=.func (.func y.2.1) #[.pointer (some ⟨g,0,none⟩)] #[]):∀{l:List (List UInt8×(FuncId×Nat))}{es:List MapEntry},FRep E l es->FRep E (l++[y]) (es++[e])
 |[],es,h=>by have h:es=[]:=h;subst h;exact⟨e,[],g,rfl,h1,h2,h3,rfl⟩
 |_::_,_,⟨e',r,g',q1,q2,q3,q4,q5⟩=>⟨e',r++[e],g',by rw[q1];rfl,q2,q3,q4,FRep.app h1 h2 h3 q5⟩
theorem Alg{T:TypeId->Option TI}(hT:TOk P T){kk:K β}{t:TypeId}{x ix:Operand}{commaOk:Bool}(ho:o.op=.lookup t x ix commaOk)(hk:dA T bl t (ρ x) (ρ ix) commaOk kk=some r):Sound P o ρ bl kk r:=by
 unfold dA at hk;cases JB:fKey T t with
 |false=>rw[JB]at hk;cases hk
 |true=>
  rw[JB,Am]at hk;obtain⟨ti,i,z,kt,vt,tk,ik,dk,zk,f,fk,hq⟩:=yO hT JB;split at hk
  ·rename_i b s hx UB
   split at hk
   ·rename_i t0 l hb
    have key:∀{l0:List (List UInt8×(FuncId×Nat))},MU (λy=>kk (.c (.bfn y.1 y.2)) [b] []) l0 s=some r->∃y,kk (.c (.bfn y.1 y.2)) [b] []=some r/\∀{β':Type}(g:FuncId×Nat->Option β'),MU g l0 s=g y:=by
     intro l0
     induction l0 with
     |nil=>intro h;cases h
     |cons x l0 ih=>
      intro h;simp only[MU]at h⊢;cases hd:decide (x.1=s)with
      |true=>rw[hd]at h;exact⟨x.2,h,λg=>rfl⟩
      |false=>rw[hd]at h;obtain⟨y,q1,q2⟩:=ih h;exact⟨y,q1,λg=>by simp only[Cj];exact q2 g⟩
    obtain⟨y,hk,Ln⟩:=key hk;refine Sound.pure hk λAa Ah ok0 base pl w a hr Ae=>?_;have Aw:Aa b=some (.fmap t0 l):=(Ah b (by simp)).trans hb;have h1:=Ae x (by simp[ho,Op.operands]);have h2:=Ae ix (by simp[ho,Op.operands]);rw[hx]at h1;rw[UB]at h2;obtain⟨g,hg,Bm⟩:=h1;have h2:a.eval ix=.string ⟨s.toArray⟩:=h2;obtain⟨p,hp,hB⟩:=hr.blks b _ Aw;have:p=.cells g:=by have h3:pl b=some (.cells g):=hg;rw[hp]at h3;injection h3
    subst this;obtain⟨es,C8,hh,hm⟩:=hB;have hh:w.heap[g]?=some (.map es C8):=hh;obtain⟨Fd,HF⟩:=Wu fk hq (w:=w) (ok:=(Al ok0 base pl Aa w).ok) (key:=s) (u:=a.eval ix) ⟨[_],by rw[h2];rfl,rfl⟩;obtain⟨y',j,g',q1,q2,q3⟩:=yQ HF (E:=Al ok0 base pl Aa w) (kk:=some) 0 hm (Ln some);injection q1 with q1;subst q1
    have AA:(execOp a.eval o).run P w=.ok (.value (.func (.func y'.1) #[.pointer (some ⟨g',0,none⟩)] #[])) w:=by simp[execOp,ho,Instr.lookup,run_underlying f.under,Bm,MapKept.run_getObj_map hh,HF.check,HF.run _ _ q3,Result.andThen]
    exact⟨_,AA,g',q2,rfl⟩
   ·cases hk
  ·cases hk
theorem Alh{T:TypeId->Option TI}(hT:TOk P T){kk:K β}{t:TypeId}{x ix y:Operand}(ho:o.op=.insert t x ix y)(hk:dB T bl t (ρ x) (ρ ix) (ρ y) kk=some r):Sound P o ρ bl kk r:=by
 unfold dB at hk;cases JB:fKey T t with
 |false=>rw[JB]at hk;cases hk
 |true=>
  rw[JB,Am]at hk;obtain⟨ti,i,z,kt,vt,tk,ik,dk,zk,f,fk,hq⟩:=yO hT JB;split at hk
  ·rename_i b s fn rb hx UB hy
   split at hk
   ·rename_i t0 l hb
    obtain⟨hn,hk⟩:=D2 hk;have hn:fHas l s=false:=by simpa using hn
    refine⟨_,_,_,hk,λAa Ah=>?_⟩;intro ok0 base pl w a hr Ae K Q hK;have Aw:Aa b=some (.fmap t0 l):=(Ah b (by simp)).trans hb;have h1:=Ae x (by simp[ho,Op.operands]);have h2:=Ae ix (by simp[ho,Op.operands]);have h3:=Ae y (by simp[ho,Op.operands]);rw[hx]at h1;rw[UB]at h2;rw[hy]at h3;obtain⟨g,hg,Bm⟩:=h1;have h2:a.eval ix=.string ⟨s.toArray⟩:=h2;obtain⟨gr,CR,I8⟩:=h3;obtain⟨p,hp,hB⟩:=hr.blks b _ Aw;have CK:pl b=some (.cells g):=hg;have:p=.cells g:=by rw[hp]at CK;injection CK
    subst this;obtain⟨es,C8,hh,hm⟩:=hB;have hh:w.heap[g]?=some (.map es C8):=hh;obtain⟨Fd,HF⟩:=Wu fk hq (w:=w) (ok:=(Al ok0 base pl Aa w).ok) (key:=s) (u:=a.eval ix) ⟨[_],by rw[h2];rfl,rfl⟩;have g1:=yP HF 0 hm hn
    have AA:(execOp a.eval o).run P w=.ok .skip {w with heap:=w.heap.setIfInBounds g (.map (es.push {key:=a.eval ix,val:=a.eval y,born:=C8}) (C8+1))}:=by simp[execOp,ho,Instr.mapUpdate,run_underlying f.under,Bm,MapKept.run_getObj_map hh,HF.check,HF.run _ _ g1,MapKept.run_setObj_map _ hh,Result.andThen]
    have Es:Step pl Aa w (upd pl b (.cells g)) (upd Aa b (.fmap t0 (l++[(s,(fn,rb))]))) {w with heap:=w.heap.setIfInBounds g (.map (es.push {key:=a.eval ix,val:=a.eval y,born:=C8}) (C8+1))}:=Step.wroteB hr Aw rfl CK R9;refine MX AA (hK undef (upd pl b (.cells g)) _ (RelB.wroteB hr Aw rfl CK R9 ?_) Es trivial);refine⟨_,_,(heap_set hh).1,?_⟩;rw[Array.toList_push];have Hq:=Es.ext (ok0:=ok0) (base:=base);exact(FRep.app (E:=Al ok0 base pl Aa w) (y:=(s,(fn,rb))) h2 CR I8 hm).mono Hq
   ·cases hk
  ·cases hk
end
end Go.Lift
namespace Go.Lift
noncomputable section
open Go.RowKit
theorem RA:∀(l:List (Nat×Blk))(bl:Nat->Option Blk),Pe bl l=updL bl l
 |[],_=>rfl
 |(j,x)::r,bl=>by
  funext i;simp only[Pe,updL];rw[RA r];congr 1;funext k;simp only[upd];by_cases h:k=j
  ·subst h;simp
  ·simp[HH h,h]
theorem fN{bl:Nat->Option Blk}:∀{rds:List Nat}{p:Nat×Blk},p∈CM bl rds->p.2=.dead/\p.1∈rds/\∃B,bl p.1=some B/\B.lend=true
 |[],p,h=>by simp[CM]at h
 |b::r,p,h=>by
  have next:p∈CM bl r->p.2=.dead/\p.1∈b::r/\∃B,bl p.1=some B/\B.lend=true:=λh=>by obtain⟨h1,h2,h3⟩:=fN h;exact⟨h1,Dm _ h2,h3⟩
  simp only[CM]at h;split at h
  ·rename_i hb
   rcases Bf.1 h with rfl|h
   ·exact⟨rfl,by simp,_,hb,rfl⟩
   ·exact next h
  ·rename_i hb
   rcases Bf.1 h with rfl|h
   ·exact⟨rfl,by simp,_,hb,rfl⟩
   ·exact next h
  ·exact next h
theorem yR{bl:Nat->Option Blk}:∀{rds:List Nat}{b:Nat}{B:Blk},b∈rds->bl b=some B->B.lend=true->(b,Blk.dead)∈CM bl rds
 |[],b,_,h,_,_=>by simp at h
 |c::r,b,B,h,hb,hl=>by
  simp only[CM];rcases Bf.1 h with rfl|h
  ·rw[hb]
   cases B<;>first|exact Gh|cases hl
  ·have:=yR (rds:=r) h hb hl
   split
   ·exact Dm _ this
   ·exact Dm _ this
   ·exact this
theorem GA:∀{wr:List (Nat×Blk)}{bl:Nat->Option Blk}{b:Nat},b∉wids wr->updL bl wr b=bl b
 |[],_,_,_=>rfl
 |(i,x)::r,bl,b,h=>by simp only[wids,Bf,not_or]at h;rw[updL,GA h.2];simp[upd,h.1]
theorem Pr:∀{wr:List (Nat×Blk)}{bl bl':Nat->Option Blk}{b:Nat},b∈wids wr->updL bl wr b=updL bl' wr b
 |[],_,_,_,h=>by simp[wids]at h
 |(i,x)::r,bl,bl',b,h=>by
  simp only[updL];by_cases hr:b∈wids r
  ·exact Pr hr
  ·rw[GA hr,GA hr]
   have C6:b=i:=by simp only[wids,Bf]at h;exact h.resolve_right hr
   simp[upd,C6]
section
variable{P:Program}{o:Oper}{ρ:Operand->V}{bl:Nat->Option Blk}{β:Type}{r:β}
theorem freeze{ok0:OK0 P}{base:Nat}{pl:Nat->Option Pl}{Aa:Nat->Option Blk}{w:World}(hr:RelB ok0 base pl Aa w)(rds:List Nat)(Ej:∀b∈rds,Aa b=bl b):RelB ok0 base pl (updL Aa (CM bl rds)) w/\Step pl Aa w pl (updL Aa (CM bl rds)) w/\∀(v:V)(u:Value),(∀b∈Cy [v],b∈rds)->VRep (Al ok0 base pl Aa w) v u->VRep (Al ok0 base pl (updL Aa (CM bl rds)) w) (frzV bl v) u:=by
 have Od:∀p∈CM bl rds,p.2=Blk.dead/\p.1∈rds/\∃B,Aa p.1=some B/\B.lend=true:=λp hp=>by obtain⟨h1,h2,B,h3,h4⟩:=fN hp;exact⟨h1,h2,B,by rw[Ej _ h2];exact h3,h4⟩
 generalize aP:CM bl rds=kills at*
 have NO:∀i,updL Aa kills i=Aa i\/(updL Aa kills i=some .dead/\∃B,Aa i=some B/\B.lend=true):=λi=>by
  rcases R6 (l:=kills) (f:=Aa) i (λp hp=>(Od p hp).1)with⟨h1,_⟩|⟨h1,p,hp,h2⟩
  ·exact .inl h1
  ·have:=Od p hp
   rw[h2]at this;exact .inr ⟨h1,this.2.2⟩
 have hblkL:∀i B,updL Aa kills i=some B->B.live=true->Aa i=some B:=λi B hB hl=>by
  rcases NO i with h|⟨h,_⟩
  ·rw[<-h];exact hB
  ·rw[h]at hB
   injection hB with hB;subst hB;cases hl
 have Ak:∀g,Own pl (updL Aa kills) g->Own pl Aa g:=λg ⟨i,B,p,hB,hl,hp,hg⟩=>⟨i,B,p,hblkL i B hB hl,hl,hp,hg⟩
 have hs:Step pl Aa w pl (updL Aa kills) w:=⟨rfl,rfl,rfl,AC _,λg _ ho=>⟨rfl,λh=>ho (Ak g h)⟩,λ_ _ h=>h,
  λb sv Ab hb=>⟨sv,Ab,hb,KeepR.of_live (λC h hC=>hblkL b _ h (by cases C<;>first|rfl|exact absurd rfl hC)) _ _⟩⟩
 refine⟨⟨hr.baseLe,λi B hB=>?_,λi j B C p q g Db hB hC hlB hlC hp hq hg=>?_,λi hi=>?_,hr.glob.mono Ak⟩,hs,λv u M7 hv=>?_⟩
 ·cases hl:B.live with
  |false=>
   have Ky:∃B0,Aa i=some B0:=by
    rcases NO i with h|⟨_,_,h,_⟩
    ·exact⟨B,by rw[<-h];exact hB⟩
    ·exact⟨_,h⟩
   obtain⟨B0,hB0⟩:=Ky;obtain⟨p,hp,_⟩:=hr.blks i B0 hB0;refine⟨p,hp,?_⟩;cases B<;>first|exact trivial|simp[Blk.live]at hl
  |true=>obtain⟨p,hp,hR⟩:=hr.blks i B (hblkL i B hB hl);exact⟨p,hp,BRep.mono hs.ext hR λ_ _=>rfl⟩
 ·exact hr.sep i j B C p q g Db (hblkL i B hB hlB) (hblkL j C hC hlC) hlB hlC hp hq hg
 ·rcases NO i with h|⟨h,_⟩
  ·exact hr.fresh i (by rw[<-h];exact hi)
  ·rw[h]at hi;cases hi
 ·
  generalize hE:Al ok0 base pl Aa w=E at hv;generalize hE':Al ok0 base pl (updL Aa kills) w=E';have hx:Ext E E':=by rw[<-hE,<-hE'];exact hs.ext
  have Lp:DN E:=by rw[<-hE];exact hr.blksOk
  have hEbl:E.bl=Aa:=by rw[<-hE];rfl
  have hEpl:E.pl=pl:=by rw[<-hE];rfl
  have hEw:E.w=w:=by rw[<-hE];rfl
  have hEw':E'.w=w:=by rw[<-hE'];rfl
  have hEok:E.ok=λg=>(ok0 g\/(base<=g/\¬ok0.no g))/\¬Own pl Aa g:=by rw[<-hE];rfl
  have hEok':E'.ok=λg=>(ok0 g\/(base<=g/\¬ok0.no g))/\¬Own pl (updL Aa kills) g:=by rw[<-hE'];rfl
  have Dg:∀g,E.ok g->E'.ok g:=λg hg=>by rw[hEok]at hg;rw[hEok'];exact⟨hg.1,λh=>hg.2 (Ak g h)⟩
  have HW:∀(b:Nat)(B:Blk)(p:Pl),b∈rds->bl b=some B->B.lend=true->pl b=some p->∀g,p.has g->E'.ok g:=by
   intro b B p C9 hb BD h2 g hg;have Ah:Aa b=some B:=by rw[Ej b C9];exact hb
   rw[hEok'];refine⟨.inr (fE hr Ah BD h2 hg),λho=>?_⟩;obtain⟨j,C,q,hC,hl,hq,Bn⟩:=ho;have hC2:=hblkL j C hC hl;by_cases tQ:j=b
   ·subst tQ
    have CX:(j,Blk.dead)∈kills:=by rw[<-aP];exact yR C9 hb BD
    rcases R6 (l:=kills) (f:=Aa) j (λp hp=>(Od p hp).1)with⟨_,q⟩|⟨q,_⟩
    ·exact q _ CX rfl
    ·rw[q]at hC
     injection hC with hC;subst hC;cases hl
   ·exact hr.sep j b C _ q p g tQ hC2 Ah hl (Blk.lend_live BD) hq h2 Bn hg
  have Jk:∀(c:C)(u:Value),(∀b∈Ct [c],b∈rds)->CRep E c u->CRep E' (frzC bl c) u:=by
   intro c u Qr hc;cases c with
   |sub b ver i j=>
    simp only[frzC];split
    ·rename_i t e ver' l hb
     cases AP:Nat.beq ver ver' with
     |false=>exact CRep.mono hx hc
     |true=>
      simp only[Am];have UW:=As AP;subst UW;have C9:b∈rds:=Qr b (by simp[Ct]);have Ah:Aa b=some (.row t e ver l):=by rw[Ej b C9];exact hb
      have Fs:HI Aa b ver e=some l:=by simp[HI,Ah]
      obtain⟨t',sv,xs,_,h1,h2,h4,h5⟩:=Wj (blp:=Aa) Lp (λt e ver l h=>by rw[hEbl];exact h) Fs;obtain⟨_,sv2,JH,F6,AT⟩:=hc;rw[h2]at F6;injection F6 with F6;injection F6 with F6 _;subst F6;obtain⟨A,c,ys,q1,q2,q3,q4,q5⟩:=dZ ((AT _ _ _ _ h1).2 rfl) h4 h5;show DRep E'.w E'.ok (.slice e) ((l.take j).drop i) [u];rw[hEw',<-hEw];simp only[DRep];refine⟨A,c,ys,by rw[q1],q2,q3,q4.mono λx u hu=>hu.mono (λg h1 _=>⟨Dg g h1,rfl⟩),λk v hk=>?_⟩;obtain⟨ad,r1,r2,r3⟩:=q5 k v hk;exact⟨ad,r1,HW b _ (.row sv []) C9 hb rfl (by rw[<-hEpl];exact h2) _ (Or.inl r2),r3⟩
    ·exact CRep.mono hx hc
   |row b ver=>
    simp only[frzC];split
    ·rename_i t e ver' l hb
     cases AP:Nat.beq ver ver' with
     |false=>exact CRep.mono hx hc
     |true=>
      simp only[Am];have UW:=As AP;subst UW;have C9:b∈rds:=Qr b (by simp[Ct]);have Ah:Aa b=some (.row t e ver l):=by rw[Ej b C9];exact hb
      have Fs:HI Aa b ver e=some l:=by simp[HI,Ah]
      obtain⟨t',sv,xs,h1,h2,h3,h4,h5⟩:=dY (blp:=Aa) Lp (λt e ver l h=>by rw[hEbl];exact h) Fs hc;subst h3;have:=x5 (okp:=E'.ok) Dg (λg hg=>HW b _ (.row u []) C9 hb rfl (by rw[<-hEpl];exact h2) g (Or.inl hg)) h4 h5;show DRep E'.w E'.ok (.slice e) l [u];rw[hEw',<-hEw];exact this
    ·exact CRep.mono hx hc
   |trow b ver p=>
    cases p with
    |cons _ _=>exact CRep.mono hx hc
    |nil=>
     simp only[frzC];split
     ·rename_i t e ver' Ag l hb
      cases AP:Nat.beq ver ver' with
      |false=>exact CRep.mono hx hc
      |true=>
       simp only[Am];have UW:=As AP;subst UW;have C9:b∈rds:=Qr b (by simp[Ct]);have Ah:Aa b=some (.tree t e ver Ag none l):=by rw[Ej b C9];exact hb
       have:=x6 (blp:=Aa) (okp:=E'.ok) (e:=e.ty) (l:=l) Dg Lp (b:=b) (ver:=ver) (λt e ver Ag h l h'=>⟨by rw[hEbl];exact h',λsv Ab g Aq hg=>HW b _ _ C9 (by rw[<-Ej b C9];exact h') rfl (by rw[<-hEpl];exact Aq) g hg⟩) (by simp[Ra,Ah]) hc;show DRep E'.w E'.ok (.slice e.ty) l [u];rw[hEw',<-hEw];exact this
     ·exact CRep.mono hx hc
   |_=>exact CRep.mono hx hc
  have Ln:∀(cs:List C)(us:List Value),(∀b∈Ct cs,b∈rds)->CReps E cs us->CReps E' (cs.map (frzC bl)) us:=by
   intro cs
   induction cs with
   |nil=>intro us _ h;exact h
   |cons c cs ih=>rintro us hc ⟨u,C4,e,h1,h2⟩;refine⟨u,C4,e,Jk c u (λb hb=>hc b ?_) h1,ih C4 (λb hb=>hc b (Wi hb)) h2⟩;have:Ct (c::cs)=Ct [c]++Ct cs:=Rv [c] cs;rw[this];exact Dl _ hb
  cases v with
  |c x=>exact Jk x u (λb hb=>M7 b (by simpa [Cy,V.cells]using hb)) hv
  |agg cs=>obtain⟨vs,h1,h2⟩:=hv;exact⟨vs,Ln cs vs (λb hb=>M7 b (by simpa [Cy,V.cells]using hb)) h1,h2⟩
  |_=>exact VRep.mono hx hv
theorem Ali{rds:List Nat}{ρ':Operand->V}{kk:K β}(hρ:∀x∈o.op.operands,ρ' x=ρ x\/(ρ' x=frzV bl (ρ x)/\∀b∈Cy [ρ x],b∈rds))(h:Sound P o ρ' (updL bl (CM bl rds)) (λv rd wr=>kk v (rds++rd) (CM bl rds++wr)) r):Sound P o ρ bl kk r:=by
 obtain⟨v,rd,wr,hk,h⟩:=h;refine⟨v,rds++rd,CM bl rds++wr,hk,λAa Ah=>?_⟩;have Ej:∀b∈rds,Aa b=bl b:=λb hb=>Ah b (Dl _ hb)
 have Fc:∀b∈rd,updL Aa (CM bl rds) b=updL bl (CM bl rds) b:=λb hb=>by
  by_cases hm:b∈wids (CM bl rds)
  ·exact Pr hm
  ·rw[GA hm,GA hm]
   exact Ah b (D7 _ hb)
 intro ok0 base pl w a hr hx K Q hK;obtain⟨h1,h2,h3⟩:=freeze (bl:=bl) hr rds Ej;refine h _ Fc ok0 base pl w a h1 (λx UY=>?_) K Q λval Ai w' k1 k2 k3=>?_
 ·rcases hρ x UY with e|⟨e,AO⟩
  ·rw[e];exact VRep.mono h2.ext (hx x UY)
  ·rw[e];exact h3 _ _ AO (hx x UY)
 ·rw[LQ]at hK
  exact hK val Ai w' k1 (h2.trans k2) k3
theorem fO:∀{vs:List V}{v:V},v∈vs->∀b∈Cy [v],b∈Cy vs
 |[],_,h=>by simp at h
 |u::us,v,h=>by
  intro b hb
  have Fs:∀(u:V)(us:List V),Cy (u::us)=Cy [u]++Cy us:=by intro u us;simp only[Cy];split<;>simp
  rw[Fs];rcases Bf.1 h with rfl|h
  ·exact Dl _ hb
  ·exact D7 _ (fO h b hb)
theorem KR{xs:List Operand}{kk:K β}{run:(Nat->Option Blk)->K β->Option β}(Azy:∀x∈o.op.operands,x∈xs)(hk:IR bl (Cy (xs.map ρ)) run kk=some r)(h:∀(bl':Nat->Option Blk)(DF:K β),run bl' DF=some r->Sound P o (λx=>frzV bl (ρ x)) bl' DF r):Sound P o ρ bl kk r:=by
 unfold IR at hk;rw[RA]at hk;exact Ali (rds:=Cy (xs.map ρ)) (ρ':=λx=>frzV bl (ρ x)) (λx hx=>.inr ⟨rfl,fO (Hb.2 ⟨x,Azy x hx,rfl⟩)⟩) (h _ _ hk)
theorem fP{E E':Env}{rds:List Nat}(hx:Ext E E')(h:∀(c:C)(u:Value),(∀b∈Ct [c],b∈rds)->CRep E c u->CRep E' (frzC bl c) u):∀(i:Nat)(ps:List Nat){cs:List C}{vs:List Value},(∀b∈EY i ps cs,b∈rds)->CReps E cs vs->CReps E' (JU bl i ps cs) vs
 |_,_,[],_,_,hc=>hc
 |i,ps,c::cs,_,hr,⟨u,us,e,h1,h2⟩=>by
  cases hm:memB i ps with
  |true=>
   have Bv:∀b∈Ct [c]++EY (i+1) ps cs,b∈rds:=by simpa [EY,hm]using hr
   refine⟨u,us,e,?_,fP hx h (i+1) ps (λb hb=>Bv b (D7 _ hb)) h2⟩;rw[hm];exact h c u (λb hb=>Bv b (Dl _ hb)) h1
  |false=>
   have Bv:∀b∈EY (i+1) ps cs,b∈rds:=by simpa [EY,hm]using hr
   refine⟨u,us,e,?_,fP hx h (i+1) ps Bv h2⟩;rw[hm];exact CRep.mono hx h1
theorem Alj{b:Nat}{t0:TypeId}{ps:List Nat}{cs:List C}{kk:K β}(hb:bl b=some (.cells t0 cs))(h:Sound P o ρ (updL (updL bl (CM bl (EY 0 ps cs))) [(b,.cells t0 (JU bl 0 ps cs))]) (λv rd wr=>kk v (EY 0 ps cs++(b::rd)) (CM bl (EY 0 ps cs)++((b,.cells t0 (JU bl 0 ps cs))::wr))) r):Sound P o ρ bl kk r:=by
 obtain⟨v,rd,wr,hk,h⟩:=h;refine⟨v,EY 0 ps cs++(b::rd),_,hk,λAa Ah=>?_⟩;have Ej:∀i∈EY 0 ps cs,Aa i=bl i:=λi hi=>Ah i (Dl _ hi);have I0:Aa b=some (.cells t0 cs):=(Ah b (by simp)).trans hb
 have Ayv:b∉wids (CM bl (EY 0 ps cs)):=λhm=>by
  have:∀(l:List (Nat×Blk)),b∈wids l->∃x,(b,x)∈l:=by
   intro l
   induction l with
   |nil=>intro h;simp[wids]at h
   |cons p l ih=>
    intro h;simp only[wids,Bf]at h;rcases h with rfl|h
    ·exact⟨p.2,by simp⟩
    ·obtain⟨x,hx⟩:=ih h
     exact⟨x,Dm _ hx⟩
  obtain⟨x,hx⟩:=this _ hm;obtain⟨_,_,B,h3,h4⟩:=fN hx;rw[show bl b=_ from h3]at hb;injection hb with hb;subst hb;cases h4
 have Fc:∀i∈rd,updL (updL Aa (CM bl (EY 0 ps cs))) [(b,Blk.cells t0 (JU bl 0 ps cs))] i=updL (updL bl (CM bl (EY 0 ps cs))) [(b,Blk.cells t0 (JU bl 0 ps cs))] i:=λi hi=>by
  simp only[updL,upd];by_cases U8:i=b
  ·simp[U8]
  ·simp only[U8,Cx]
   by_cases hm:i∈wids (CM bl (EY 0 ps cs))
   ·exact Pr hm
   ·rw[GA hm,GA hm]
    exact Ah i (by simp[hi])
 intro ok0 base pl w a hr hx K Q hK;obtain⟨h1,h2,h3⟩:=freeze (bl:=bl) hr (EY 0 ps cs) Ej;obtain⟨p,hp,hB⟩:=hr.blks b _ I0;cases p with
 |row _ _=>exact hB.elim
 |cells g=>
  obtain⟨vs,hh,CH⟩:=hB;have Uw:=fP (bl:=bl) h2.ext (rds:=EY 0 ps cs) (λc u hc h=>h3 (.c c) u (λb hb=>hc b (by simpa [Cy,V.cells]using hb)) h) 0 ps (λ_ h=>h) CH;have By:updL Aa (CM bl (EY 0 ps cs)) b=some (.cells t0 cs):=(GA Ayv).trans I0;rw[LQ]at hK;generalize updL Aa (CM bl (EY 0 ps cs))=bl1 at*
  have Be:upd pl b (.cells g)=pl:=by
   funext j;simp only[upd];split
   ·rename_i h;rw[h];exact hp.symm
   ·rfl
  have Es:Step pl bl1 w (upd pl b (.cells g)) (upd bl1 b (.cells t0 (JU bl 0 ps cs))) w:=by
   rw[Be];refine⟨rfl,rfl,rfl,AC _,λg' _ ho=>⟨rfl,?_⟩,λ_ _ h=>h,λb' sv Ab Aw=>⟨sv,Ab,Aw,?_⟩⟩
   ·rintro⟨j,C,q,hC,hl,hq,Bn⟩
    by_cases hj:j=b
    ·subst hj
     exact ho ⟨j,_,q,By,rfl,hq,Bn⟩
    ·simp only[upd,hj,Cx]at hC
     exact ho ⟨j,C,q,hC,hl,hq,Bn⟩
   ·have AL:b'≠b:=by rintro rfl;rw[hp]at Aw;cases Aw
    exact KeepR.of_eq (λC hC=>by simpa [upd,AL]using hC) _ _
  have Aiy:=h1.put Es (BRep.mono Es.ext (B:=.cells t0 (JU bl 0 ps cs)) (p:=.cells g) ⟨vs,hh,Uw⟩ λ_ _=>rfl) λj C q g' hj hC hl hq Bn=>⟨rfl,λCK=>h1.sep j b C _ q _ g' hj hC By hl rfl hq hp Bn CK⟩;rw[Be]at Aiy Es;refine h _ Fc ok0 base pl w a Aiy (λx UY=>VRep.mono (h2.trans Es).ext (hx x UY)) K Q λval Ai w' k1 k2 k3=>?_;exact hK val Ai w' k1 ((h2.trans Es).trans k2) k3
theorem Alk{T:TypeId->Option TI}(hT:TOk P T){kk:K β}{t:TypeId}{ps:List Nat}{x:Operand}(ho:o.op=.load t x)(hk:dS T bl t ps (ρ x) kk=some r):Sound P o ρ bl kk r:=by
 unfold dS at hk;split at hk
 ·rename_i b of hx
  split at hk
  ·rename_i t0 cs hb
   rw[RA,RA]at hk;rw[<-hx]at hk;exact Alj hb (eG hT ho hk)
  ·cases hk
 ·exact eG hT ho hk
theorem All{T:TypeId->Option TI}(hT:TOk P T){kk:K β}{t:TypeId}{x y:Operand}(ho:o.op=.index t x y){ti:TI}(ht:T t=some ti){cs:List C}(hx:ρ x=.agg cs){k:IntKind}{i:Int}(hy:ival (ρ y)=some (k,i))(hk:cY T ti cs i kk=some r):Sound P o ρ bl kk r:=by
 obtain⟨inf,d,z,f⟩:=hT.facts ht;unfold cY at hk;split at hk
 ·rename_i et n Ck Cr
  have:=eJ f Ck Cr;subst this;split at hk
  ·rename_i te BE
   obtain⟨i',d',z',fe⟩:=hT.facts BE;split at hk
   ·rename_i e Qt
    split at hk
    ·rename_i l hl
     cases hs:(Nat.beq e.size te.size&&(te.agg||Nat.beq te.size 1))with
     |false=>rw[hs]at hk;cases hk
     |true=>
      simp only[hs,Am]at hk;obtain⟨Bk,AS⟩:=andB hs;have Bk:=As Bk;obtain⟨hc,hk⟩:=D2 hk;obtain⟨CQ,Ch⟩:=andB hc;have CQ:=AV CQ;have Ch:=AV Ch;refine Sound.pure hk λAa _ ok0 base pl w a hr Ae=>?_;have Hp:=Ae x (by simp[ho,Op.operands]);have H9:=Ae y (by simp[ho,Op.operands]);rw[hx]at Hp;rw[Nc hy]at H9;have Q8:a.eval y=.int k i:=H9;obtain⟨vs,Dp,Bm⟩:=Hp;have Bm:a.eval x=.agg vs.toArray:=Bm;obtain⟨hd,Gu⟩:=Wl hr.blksOk (Rows.none _ _) Dp hl;obtain⟨u,p,q,aZ,hp,Mw⟩:=DList.get e.dflt hd (i:=i.toNat) (by omega);have bG:=Mw.length
      have ACa:vs.length=n*e.size:=by have:=DList.length hd;rw[this,Gu]
      have C9:i<(n:Int):=by omega
      have Ej:=Wp fe w;cases E5:te.agg with
      |true=>
       rw[E5]at Ej;refine⟨.agg u.toArray,?_,VRep.mk ⟨u,Hv Mw,by simp⟩⟩
       have Gb:List.take te.size (List.drop (i.toNat*te.size) vs)=u:=by rw[aZ,<-Bk,<-hp,<-bG];simp
       simp[execOp,ho,Bm,Q8,Instr.index,asIntOf,run_underlying f.under,CQ,C9,part,Ej,run_sizeOf fe,Gb]
      |false=>
       rw[E5]at Ej AS;have Jk:te.size=1:=As (by simpa using AS);have Q4:u.length=1:=by omega
       match u,Q4 with
       |[u0],_=>
        refine⟨u0,?_,VRep.mk ⟨[u0],Hv Mw,by simp⟩⟩
        have HV:vs[i.toNat*te.size]?=some u0:=by rw[aZ,<-Bk,<-hp];simp
        simp[execOp,ho,Bm,Q8,Instr.index,asIntOf,run_underlying f.under,CQ,C9,part,Ej,run_sizeOf fe,HV]
    ·cases hk
   ·cases hk
  ·cases hk
 ·cases hk
end
end
end Go.Lift
namespace Go.Lift
noncomputable section
open Go.RowKit
section
variable{P:Program}{o:Oper}{ρ:Operand->V}{bl:Nat->Option Blk}{β:Type}{r:β}
theorem fQ{E:Env}{a:Act}:∀{xs:List Operand},(∀x∈xs,VRep E (ρ x) (a.eval x))->VReps E (xs.map ρ) (xs.map a.eval)
 |[],_=>rfl
 |x::xs,h=>⟨_,_,rfl,h x (by simp),fQ λy hy=>h y (by simp[hy])⟩
theorem VReps.append{E:Env}:∀{vs us ws xs},VReps E vs us->VReps E ws xs->VReps E (vs++ws) (us++xs)
 |[],us,_,_,h,k=>by have h':us=[]:=h;subst h';exact k
 |_::_,_,_,_,⟨u,C4,e,h1,h2⟩,k=>⟨u,C4++_,by rw[e];rfl,h1,VReps.append h2 k⟩
theorem yS{E:Env}:∀{B4 gs:List Nat},B4.map E.pl=gs.map (λg=>some (.cells g))->VReps E (B4.map λb=>.c (.ptr b 0)) (gs.map λg=>.pointer (some ⟨g,0,none⟩))
 |[],gs,h=>by cases gs with|nil=>rfl|cons g gs=>simp at h
 |b::bs,gs,h=>by
  cases gs with
  |nil=>simp at h
  |cons g gs=>simp only[CE,De]at h;exact⟨_,_,rfl,⟨g,h.1,rfl⟩,yS h.2⟩
theorem Alm{X:Ctx}(hΓ:ΓOk P X.Γ){kk:K β}{nx:Nat}{c:Call}(ho:o.op=.call c){x:Operand}(hc:c.callee=.value x){f:FuncId}{B4:List Nat}(hx:ρ x=.c (.fn f B4))(hk:Rm X bl nx f (c.args.toList.map ρ++B4.map λb=>.c (.ptr b 0)) kk=some r):Sound P o ρ bl kk r:=by
 refine yL hΓ hk λAa ok0 base pl w a hr Ae=>?_;have hv:=Ae x (by simp[ho,Op.operands,Call.operands,hc]);rw[hx]at hv;obtain⟨gs,hg,hv⟩:=hv;refine⟨c.args.toList.map a.eval++gs.map λg=>.pointer (some ⟨g,0,none⟩),?_,λ⟨fn,h1,h2,h3⟩=>?_⟩
 ·exact(fQ λy hy=>Ae y (by simp only[ho,Op.operands,Call.operands,VG];exact .inr (by simpa using hy))).append (yS hg)
 ·have he:c.args.map a.eval++(gs.map λg=>Value.pointer (some ⟨g,0,none⟩)).toArray=(c.args.toList.map a.eval++gs.map λg=>Value.pointer (some ⟨g,0,none⟩)).toArray:=by apply Ht;simp
  simp only[execOp,ho,resolve,hc,hv,Deferred.ofValue,Sem.run_bind,Sem.run_pure,Result.andThen_ok,invoke,callFunc,run_program,h1,h2,h3,Array.empty_append,HE,Cx,he]
theorem Aln{X:Ctx}(hΓ:ΓOk P X.Γ){kk:K β}{nx:Nat}{c:Call}(ho:o.op=.call c){x:Operand}(hc:c.callee=.value x){f:FuncId}{b:Nat}(hx:ρ x=.c (.bfn f b))(hk:Rm X bl nx f (.c (.ptr b 0)::c.args.toList.map ρ) kk=some r):Sound P o ρ bl kk r:=by
 refine yL hΓ hk λAa ok0 base pl w a hr Ae=>?_;have hv:=Ae x (by simp[ho,Op.operands,Call.operands,hc]);rw[hx]at hv;obtain⟨g,hg,hv⟩:=hv;refine⟨.pointer (some ⟨g,0,none⟩)::c.args.toList.map a.eval,⟨_,_,rfl,⟨g,hg,rfl⟩,fQ λy hy=>Ae y (by simp only[ho,Op.operands,Call.operands,VG];exact .inr (by simpa using hy))⟩,λ⟨fn,h1,h2,h3⟩=>?_⟩
 have he:#[Value.pointer (some ⟨g,0,none⟩)]++c.args.map a.eval=(Value.pointer (some ⟨g,0,none⟩)::c.args.toList.map a.eval).toArray:=by apply Ht;simp
 simp only[execOp,ho,resolve,hc,hv,Deferred.ofValue,Sem.run_bind,Sem.run_pure,Result.andThen_ok,invoke,callFunc,run_program,h1,h2,h3,Array.append_empty,HE,Cx,he]
theorem Alo{kk:K β}{x:Operand}(ho:o.op=.nilCheck x){f:FuncId}{b:Nat}(hx:ρ x=.c (.bfn f b))(hk:kk (ρ x) [] []=some r):Sound P o ρ bl kk r:=by refine Sound.pure hk λAa _ ok0 base pl w a hr Ae=>⟨a.eval x,?_,Ae x (by simp[ho,Op.operands])⟩;have h1:=Ae x (by simp[ho,Op.operands]);rw[hx]at h1;obtain⟨g,_,hv⟩:=h1;simp[execOp,ho,hv]
theorem Alp{kk:K β}{f:FuncId}{first B4:Array Operand}(ho:o.op=.makeFunc (.func f) first B4){x:Operand}(hf:first.toList=[x]){b:Nat}(hx:ρ x=.c (.ptr b 0))(hc:B4.toList=[])(hk:kk (.c (.bfn f b)) [] []=some r):Sound P o ρ bl kk r:=by
 have Mz:first=#[x]:=by apply Ht;simpa using hf
 have Gr:B4=#[]:=by simpa using hc
 subst Mz Gr;refine Sound.pure hk λAa _ ok0 base pl w a hr Ae=>?_;have hv:=Ae x (by simp[ho,Op.operands]);rw[hx]at hv;obtain⟨g,hg,hv⟩:=hv;exact⟨.func (.func f) #[.pointer (some ⟨g,0,none⟩)] #[],by simp[execOp,ho,Instr.makeFunc,hv],g,hg,rfl⟩
theorem Alq{X:Ctx}(hT:TOk P X.T)(hΓ:ΓOk P X.Γ){kk:K β}{nx:Nat}(hk:VZ X o ρ bl nx kk=some r):Sound P o ρ bl kk r:=by
 unfold VZ at hk;split at hk
 ·rename_i x ho
  cases hS:(X.S&&wX (ρ x))with
  |false=>rw[hS,Cj]at hk;exact Wm (.inl ho) hk
  |true=>rw[hS,Am]at hk;exact KR (xs:=[x]) (λz hz=>by simpa [ho,Op.operands]using hz) hk λbl' DF h=>Wm (ρ:=λx=>frzV bl (ρ x)) (.inl ho) h
 ·rename_i x ho
  cases hD:(X.D&&wW bl (ρ x))with
  |false=>rw[hD,Cj]at hk;exact Wm (.inr ho) hk
  |true=>rw[hD,Am]at hk;exact KR (xs:=[x]) (λz hz=>by simpa [ho,Op.operands]using hz) hk λbl' DF h=>Wm (ρ:=λx=>frzV bl (ρ x)) (.inr ho) h
 ·rename_i c a b ho
  split at hk
  ·rename_i g hc;exact Akd ho hc hk
  ·cases hk
 ·rename_i t ho
  split at hk
  ·rename_i ti ht;exact Ake hT ho ht hk
  ·cases hk
 ·rename_i t x ho
  split at hk
  ·rename_i cs hc;exact Akf ho hc hk
  ·cases hk
 ·rename_i t parts ho
  cases hD:X.D with
  |false=>rw[hD,Cj]at hk;exact xR hT ho hk
  |true=>rw[hD,Am]at hk;refine KR (xs:=parts.toList.map (·.2)) (λx hx=>by simpa [ho,Op.operands]using hx) (by rw[OP];exact hk) λbl' DF h=>?_;exact xR (ρ:=λx=>frzV bl (ρ x)) hT ho h
 ·rename_i t n parts ho
  cases hO:(wS X.O X.T t&&wT X.O X.T bl t (parts.toList.map λp=>(p.1,ρ p.2)))with
  |true=>rw[hO,Am]at hk;exact AkR hT ho hk
  |false=>
  rw[hO,Cj]at hk;refine KR (xs:=parts.toList.map (·.2)) (λx hx=>by simpa [ho,Op.operands]using hx) (by rw[OP];exact hk) λbl' DF h=>?_;exact AkE (ρ:=λx=>frzV bl (ρ x)) hT ho h
 ·rename_i t a ho
  split at hk
  ·exact Alk hT ho hk
  ·exact eG hT ho hk
 ·rename_i t a x ho
  split at hk
  ·exact KR (xs:=[a,x]) (λy hy=>by simpa [ho,Op.operands]using hy) hk λbl' DF h=>Ry (ρ:=λx=>frzV bl (ρ x)) hT ho h
  ·rename_i b _ _ _ _ _
   cases hH:wP bl b with
   |true=>rw[hH,Am]at hk;exact Ry hT ho hk
   |false=>rw[hH,Cj]at hk;exact KR (xs:=[a,x]) (λy hy=>by simpa [ho,Op.operands]using hy) hk λbl' DF h=>Ry (ρ:=λx=>frzV bl (ρ x)) hT ho h
  ·cases hD:(X.D&&wY (ρ x))with
   |false=>rw[hD,Cj]at hk;exact Ry hT ho hk
   |true=>rw[hD,Am]at hk;exact KR (xs:=[a,x]) (λy hy=>by simpa [ho,Op.operands]using hy) hk λbl' DF h=>Ry (ρ:=λx=>frzV bl (ρ x)) hT ho h
 ·rename_i x ho
  split at hk
  ·rename_i b of hx;exact R5 ho (.inl ⟨b,of,hx⟩) (by rw[hx];exact hk)
  ·rename_i b ver i of hx;exact R5 ho (.inr (.inl ⟨b,ver,i,of,hx⟩)) (by rw[hx];exact hk)
  ·rename_i e y of hx;exact R5 ho (.inr (.inr (.inl ⟨e,y,of,hx⟩))) (by rw[hx];exact hk)
  ·rename_i b ver p i of hx;exact R5 ho (.inr (.inr (.inr (.inr ⟨b,ver,p,i,of,hx⟩)))) (by rw[hx];exact hk)
  ·rename_i f B4 hx;exact R5 ho (.inr (.inr (.inr (.inl ⟨f,B4,hx⟩)))) (by rw[hx];exact hk)
  ·rename_i f b hx;exact Alo ho hx (by rw[hx];exact hk)
  ·cases hk
 ·rename_i op t x y t' ho;exact Akx hT ho hk
 ·rename_i op t x ho
  split at hk
  ·rename_i b hx;exact AkS ho hx hk
  ·rename_i k n hx;exact AkT ho hx hk
  ·cases hk
 ·rename_i s t x ho
  split at hk
  ·rename_i si ti k0 n hs ht hx
   split at hk
   ·rename_i k Lv;exact AkU hT ho hs ht hx Lv hk
   ·cases hk
  ·rename_i si ti l hs ht hx
   cases I7:ti.isStr with
   |false=>rw[I7]at hk;cases hk
   |true=>simp only[I7,Am]at hk;exact AkV hT ho hs ht hx I7 hk
  ·rename_i si ti hs ht _ _;exact AkJ hT ho hs ht hk
  ·cases hk
 ·rename_i f first B4 ho
  split at hk
  ·rename_i hf
   split at hk
   ·rename_i bs hb;exact AkW ho hf hb hk
   ·cases hk
  ·rename_i x hf
   split at hk
   ·rename_i b hx hc;exact Alp ho hf hx hc hk
   ·cases hk
  ·cases hk
 ·rename_i t n c ho;exact AkF hT ho hk
 ·rename_i t ho;exact Ald ho hk
 ·rename_i t x i commaOk ho
  cases hF:wR bl (ρ x)with
  |true=>rw[hF,Am]at hk;exact Alg hT ho hk
  |false=>rw[hF,Cj]at hk;exact Ale hT ho hk
 ·rename_i t x i y ho;exact Alh hT ho hk
 ·rename_i t x i y ho
  exact KR (xs:=[x,i,y]) (λz hz=>by simpa [ho,Op.operands]using hz) hk λbl' DF h=>Alf (ρ:=λx=>frzV bl (ρ x)) hT ho h
 ·rename_i t x hi ho
  cases hR:(X.R&&VV (ρ x))with
  |true=>rw[hR,Am]at hk;exact AkM hT ho hk
  |false=>rw[hR,Cj]at hk;exact eM (lo:=none) hT ho hk
 ·rename_i t x lo hi _ ho
  cases hS:(X.S&&VV (ρ x))with
  |false=>rw[hS,Cj]at hk;exact eM hT ho hk
  |true=>rw[hS,Am]at hk;exact KR (xs:=x::(lo.toList++hi.toList)) (λz hz=>by cases lo<;>cases hi<;>simpa [ho,Op.operands]using hz) hk λbl' DF h=>eM (ρ:=λx=>frzV bl (ρ x)) hT ho h
 ·rename_i t x f ho;exact Akm hT ho hk
 ·rename_i t x f ho
  split at hk
  ·rename_i ti cs ht hx
   split at hk
   ·rename_i off n g hf
    cases h1:(g||Nat.beq n 1)with
    |false=>rw[h1]at hk;cases hk
    |true=>
     simp only[h1,Am]at hk;split at hk
     ·rename_i rc hs;exact AkX hT ho ht hx hf h1 hs hk
     ·cases hk
   ·cases hk
  ·cases hk
 ·rename_i t x i ho;exact Ako hT ho hk
 ·rename_i t x i ho
  split at hk
  ·rename_i ti s k j ht hx hi
   cases I7:ti.isStr with
   |false=>rw[I7]at hk;cases hk
   |true=>simp only[I7,Am]at hk;obtain⟨hc,hk⟩:=D2 hk;obtain⟨c1,c2⟩:=andB hc;exact AkY hT ho ht hx hi I7 (AV c1) (AV c2) hk
  ·rename_i ti cs k j ht hx hi;exact All hT ho ht hx hi hk
  ·cases hk
 ·rename_i x i ho
  split at hk
  ·rename_i ts hx
   split at hk
   ·rename_i t ht;exact AkZ ho hx ht hk
   ·cases hk
  ·cases hk
 ·rename_i c ho
  split at hk
  ·rename_i hc
   split at hk
   ·rename_i x t hx ht
    cases Bg:c.args.toList with
    |nil=>rw[Bg]at hx;simp at hx
    |cons y ys=>
     rw[Bg]at hx;cases ys with
     |cons _ _=>simp at hx
     |nil=>simp only[CE,LL,De,EA]at hx;subst hx;exact Akz hT ho hc Bg ht hk
   ·cases hk
  ·rename_i hc
   split at hk
   ·rename_i v hm;exact y8 (isMax:=false) ho hc hm hk
   ·cases hk
  ·rename_i hc
   split at hk
   ·rename_i v hm;exact y8 (isMax:=true) ho hc hm hk
   ·cases hk
  ·rename_i hc
   split at hk
   ·rename_i x y t t' hx ht
    cases Oq:Nat.beq t t' with
    |false=>
     simp only[Oq,Cj]at hk;cases Bg:c.args.toList with
     |nil=>rw[Bg]at hx;simp at hx
     |cons a as=>
      rw[Bg]at hx;cases as with
      |nil=>simp at hx
      |cons b bs=>
       cases bs with
       |cons _ _=>simp at hx
       |nil=>simp only[CE,LL,De,EA]at hx;obtain⟨h1,h2⟩:=hx;subst h1 h2;exact AkO hT ho hc Bg ht hk
    |true=>
     have:=As Oq;subst this;simp only[Oq,Am]at hk;cases Bg:c.args.toList with
     |nil=>rw[Bg]at hx;simp at hx
     |cons a as=>
      rw[Bg]at hx;cases as with
      |nil=>simp at hx
      |cons b bs=>
       cases bs with
       |cons _ _=>simp at hx
       |nil=>
        simp only[CE,LL,De,EA]at hx;obtain⟨h1,h2⟩:=hx;subst h1 h2;cases hO:(VW (ρ a)||VW (ρ b))with
        |true=>rw[hO,Am]at hk;exact AkQ hT ho hc Bg ht hk
        |false=>
        rw[hO,Cj]at hk;exact AkA hT ho hc Bg ht hk
   ·cases hk
  ·rename_i hc
   split at hk
   ·rename_i x t hx ht
    cases Bg:c.args.toList with
    |nil=>rw[Bg]at hx;simp at hx
    |cons y ys=>
     rw[Bg]at hx;cases ys with
     |cons _ _=>simp at hx
     |nil=>simp only[CE,LL,De,EA]at hx;subst hx;exact AkK hT ho hc Bg ht hk
   ·cases hk
  ·rename_i hc
   split at hk
   ·rename_i x t hx ht
    cases Bg:c.args.toList with
    |nil=>rw[Bg]at hx;simp at hx
    |cons y ys=>
     rw[Bg]at hx;cases ys with
     |cons _ _=>simp at hx
     |nil=>simp only[CE,LL,De,EA]at hx;subst hx;exact AkL hT ho hc Bg ht hk
   ·cases hk
  ·rename_i hc
   split at hk
   ·rename_i x y t t' hx ht
    cases Oq:Nat.beq t t' with
    |false=>rw[Oq]at hk;cases hk
    |true=>
     have:=As Oq;subst this;simp only[Oq,Am]at hk;cases Bg:c.args.toList with
     |nil=>rw[Bg]at hx;simp at hx
     |cons a as=>
      rw[Bg]at hx;cases as with
      |nil=>simp at hx
      |cons b bs=>
       cases bs with
       |cons _ _=>simp at hx
       |nil=>simp only[CE,LL,De,EA]at hx;obtain⟨h1,h2⟩:=hx;subst h1 h2;exact AkI hT ho hc Bg ht hk
   ·cases hk
  ·cases hk
  ·split at hk
   ·rename_i f pre B4 Lq
    unfold wV at Lq;split at Lq
    ·rename_i x hc
     split at Lq
     ·rename_i f' bs hx
      simp only[Af,BC]at Lq;obtain⟨rfl,rfl,rfl⟩:=Lq;exact Alm hΓ ho hc hx hk
     ·rename_i f' b hx
      simp only[Af,BC]at Lq;obtain⟨rfl,rfl,rfl⟩:=Lq;exact Aln hΓ ho hc hx (by simpa using hk)
     ·cases Lq
    ·cases Lq
   ·cases hk
 ·cases hk
end
end
end Go.Lift
namespace Go.Lift
noncomputable section
open Go.RowKit
structure Rel {P:Program} (n:Nat) (ok0:OK0 P) (base:Nat) (pl:Nat->Option Pl) (tm:Nat->Option V) (bl:Nat->Option Blk) (a:Act) (w:World):Prop where
 defers:a.defers=[]
 size:a.tmps.size=n
 tmps:∀t v,tm t=some v->VRep (Al ok0 base pl bl w) v (a.tmps.getD t undef)
 rel:RelB ok0 base pl bl w
def updD(tm:Nat->Option V)(dst:Option Nat)(v:V):Nat->Option V:=
 match dst with
 |some d=>upd tm d v
 |none=>tm
theorem Wv(tm:List (Nat×V))(dst:Option Nat)(v:V):look (putD tm dst v)=updD (look tm) dst v:=by
 cases dst with
 |none=>rfl
 |some d=>funext j;simp only[putD,updD,VQ,upd]
def Ps(tm:Nat->Option V):Operand->V
 |.tmp t=>
  match tm t with
  |some v=>v
  |none=>.junk
 |.const v=>V.ofValue v
 |.global _=>.junk
 |.func f=>.c (.fn f [])
theorem yT(tm:List (Nat×V)):Rn tm=Ps (look tm):=by funext x;cases x<;>rfl
theorem yU{P:Program}{n:Nat}{ok0:OK0 P}{base:Nat}{pl:Nat->Option Pl}{tm:Nat->Option V}{bl:Nat->Option Blk}{a:Act}{w:World}(h:Rel n ok0 base pl tm bl a w)(x:Operand):VRep (Al ok0 base pl bl w) (Ps tm x) (a.eval x):=by
 cases x with
 |tmp t=>
  simp only[Ps,Act.eval];split
  ·rename_i v hv;exact h.tmps t v hv
  ·exact trivial
 |const v=>exact V.ofValue_rep v
 |global g=>exact trivial
 |func f=>exact⟨[],rfl,rfl⟩
section
variable{P:Program}{ops:Array Oper}{n:Nat}
def EOk(P:Program)(ops:Array Oper)(n:Nat)(e:LogE)(tmA:Nat->Option V)(blA:Nat->Option Blk):Prop:=
 ∀(tm:Nat->Option V)(bl:Nat->Option Blk),(∀t∈e.tin,tm t=tmA t)->(∀b∈e.rd,bl b=blA b)->
  ∀(ok0:OK0 P)(base:Nat)(pl:Nat->Option Pl)(a:Act)(w:World),Rel n ok0 base pl tm bl a w->
  ∀(K:Act->World->Prop)(Q:Exit->Act->World->Prop),
   (∀Ai a' w',Rel n ok0 base Ai (updD tm e.dst e.v) (updL bl e.wr) a' w'->Step pl bl w Ai (updL bl e.wr) w'->K a' w')->wpOp P ops Q e.i K a w
def Valid(P:Program)(ops:Array Oper)(n:Nat):List LogE->(Nat->Option V)->(Nat->Option Blk)->Prop
 |[],_,_=>True
 |e::es,tm,bl=>EOk P ops n e tm bl/\Valid P ops n es (updD tm e.dst e.v) (updL bl e.wr)
def finT:List LogE->(Nat->Option V)->Nat->Option V
 |[],tm=>tm
 |e::es,tm=>finT es (updD tm e.dst e.v)
def finB:List LogE->(Nat->Option Blk)->Nat->Option Blk
 |[],bl=>bl
 |e::es,bl=>finB es (updL bl e.wr)
theorem EOk.agree{e:LogE}{tmA tmB:Nat->Option V}{blA blB:Nat->Option Blk}(h:EOk P ops n e tmA blA)(ht:∀t∈e.tin,tmB t=tmA t)(hb:∀b∈e.rd,blB b=blA b):EOk P ops n e tmB blB:=
 λtm bl h1 h2=>h tm bl (λt hm=>(h1 t hm).trans (ht t hm)) (λb hm=>(h2 b hm).trans (hb b hm))
theorem yV{tm:Nat->Option V}{dst:Option Nat}{v:V}{t:Nat}(h:dst≠some t):updD tm dst v t=tm t:=by
 cases dst with
 |none=>rfl
 |some d=>have:t≠d:=λe=>h (by rw[e]);simp[updD,upd,this]
theorem Ww{a b:List Nat}:meet a b=false↔∀x∈a,x∉b:=by
 induction a with
 |nil=>simp[meet]
 |cons y r ih=>
  simp only[meet,MI,ih,Bf,forall_eq_or_imp];constructor
  ·rintro⟨h1,h2⟩
   exact⟨λhm=>(by rw[Hw.2 hm]at h1;cases h1),h2⟩
  ·rintro⟨h1,h2⟩
   refine⟨?_,h2⟩;cases hm:memB y b with
   |false=>rfl
   |true=>exact absurd (Hw.1 hm) h1
structure Apart (x y:LogE):Prop where
 t1:∀t∈y.tin,x.dst≠some t
 t2:∀t∈x.tin,y.dst≠some t
 t3:∀d,x.dst=some d->y.dst≠some d
 b1:∀b∈y.rd,b∉wids x.wr
 b2:∀b∈x.rd,b∉wids y.wr
 b3:∀b∈wids x.wr,b∉wids y.wr
theorem Alr{x y:LogE}(h:Ph x y=false):Apart x y:=by
 unfold Ph at h;simp only[MI]at h;obtain⟨⟨⟨h1,h2⟩,h3⟩,h4⟩:=h;have h3:=Ww.1 h3;have h4:=Ww.1 h4;refine⟨λt ht hd=>?_,λt ht hd=>?_,λd hd Cs=>?_,λb hb hw=>?_,λb hb hw=>h4 b hw hb,λb hb hw=>?_⟩
 ·rw[hd]at h1
  simp only[MI]at h1;rw[Hw.2 ht]at h1;cases h1.1
 ·rw[hd]at h2
  simp only at h2;rw[Hw.2 ht]at h2;cases h2
 ·rw[hd,Cs]at h1
  simp only[MI]at h1;rw[MS]at h1;cases h1.2
 ·exact h3 b hw (Dl _ hb)
 ·exact h3 b hb (D7 _ hw)
theorem Als{x y:LogE}(h:Apart x y)(tm:Nat->Option V)(bl:Nat->Option Blk):updD (updD tm x.dst x.v) y.dst y.v=updD (updD tm y.dst y.v) x.dst x.v/\updL (updL bl x.wr) y.wr=updL (updL bl y.wr) x.wr:=by
 constructor
 ·cases hx:x.dst with
  |none=>rfl
  |some d=>
   cases hy:y.dst with
   |none=>rfl
   |some d'=>
    have AL:d≠d':=λe=>h.t3 d hx (by rw[hy,e]);funext j;simp only[updD,upd];by_cases h1:j=d'
    ·by_cases h2:j=d
     ·exact absurd (h2.symm.trans h1) AL
     ·simp[h1,Ne.symm AL]
    ·by_cases h2:j=d<;>simp[h1,h2,AL]
 ·funext b
  by_cases h1:b∈wids y.wr
  ·have h2:b∉wids x.wr:=λh2=>h.b3 b h2 h1
   rw[Pr (bl':=bl) h1,GA (bl:=updL bl y.wr) h2]
  ·rw[GA h1]
   by_cases h2:b∈wids x.wr
   ·exact Pr h2
   ·rw[GA h2,GA h2,GA h1]
theorem Valid.bubble{e:LogE}{post:List LogE}:∀{pre:List LogE}{tm:Nat->Option V}{bl:Nat->Option Blk},Valid P ops n (pre++e::post) tm bl->(∀x∈pre,Apart x e)->EOk P ops n e tm bl/\Valid P ops n (pre++post) (updD tm e.dst e.v) (updL bl e.wr)/\finT (pre++e::post) tm=finT (pre++post) (updD tm e.dst e.v)/\finB (pre++e::post) bl=finB (pre++post) (updL bl e.wr)
 |[],tm,bl,h,_=>⟨h.1,h.2,rfl,rfl⟩
 |x::pre,tm,bl,h,ha=>by
  have hx:=ha x (by simp);obtain⟨h1,h2,h3,h4⟩:=Valid.bubble h.2 λy hy=>ha y (by simp[hy]);obtain⟨c1,c2⟩:=Als hx tm bl;refine⟨h1.agree (λt ht=>(yV (hx.t1 t ht)).symm) (λb hb=>(GA (hx.b1 b hb)).symm),⟨?_,?_⟩,?_,?_⟩
  ·exact EOk.agree h.1 (λt ht=>yV (hx.t2 t ht)) (λb hb=>GA (hx.b2 b hb))
  ·show Valid P ops n (pre++post) (updD (updD tm e.dst e.v) x.dst x.v) (updL (updL bl e.wr) x.wr)
   rw[<-c1,<-c2];exact h2
  ·show finT (pre++e::post) (updD tm x.dst x.v)=finT (pre++post) (updD (updD tm e.dst e.v) x.dst x.v)
   rw[h3,c1]
  ·show finB (pre++e::post) (updL bl x.wr)=finB (pre++post) (updL (updL bl e.wr) x.wr)
   rw[h4,c2]
theorem fR{Q:Exit->Act->World->Prop}{ok0:OK0 P}{base:Nat}:∀{es:List LogE}{pl:Nat->Option Pl}{tm:Nat->Option V}{bl:Nat->Option Blk}{a:Act}{w:World},Valid P ops n es tm bl->Rel n ok0 base pl tm bl a w->(∀Ai a' w',Rel n ok0 base Ai (finT es tm) (finB es bl) a' w'->Step pl bl w Ai (finB es bl) w'->Q .normal a' w')->wpOps P ops Q (es.map (·.i)) a w
 |[],pl,tm,bl,a,w,_,hr,hq=>hq pl a w hr (Step.refl pl bl w)
 |e::es,pl,tm,bl,a,w,hv,hr,hq=>by rw[CE,wpOps_cons];refine hv.1 tm bl (λ_ _=>rfl) (λ_ _=>rfl) ok0 base pl a w hr _ Q λAi a' w' Bv BN=>?_;exact fR hv.2 Bv λpl2 a2 w2 Er AS=>hq pl2 a2 w2 Er (BN.trans AS)
theorem yW{ms:List Nat}:∀{es:List Edge}{i:Nat},Nat.testBit (IT ms es) i=true->∃e∈es,Region.binds .any e=true/\(e.on=i\/Nat.testBit (ms.getD e.on 0) i=true)
 |[],i,h=>by simp[IT]at h
 |e::r,i,h=>by
  simp only[IT]at h
  have h':Nat.testBit (IT ms r) i=true\/Nat.testBit (bif Region.binds .any e then Nat.lor (Nat.shiftLeft 1 e.on) (ms.getD e.on 0)else 0) i=true:=by
   have h2:Nat.testBit (IT ms r|||(bif Region.binds .any e then Nat.lor (Nat.shiftLeft 1 e.on) (ms.getD e.on 0)else 0)) i=true:=h
   rwa [Nat.testBit_or,KI]at h2
  rcases h' with h'|h'
  ·obtain⟨e',he,hb⟩:=yW h'
   exact⟨e',by simp[he],hb⟩
  ·cases hb:Region.binds .any e with
   |false=>rw[hb]at h';simp at h'
   |true=>
    simp only[hb,Am]at h';have h3:Nat.testBit (1<<<e.on|||ms.getD e.on 0) i=true:=h';rw[Nat.testBit_or,KI]at h3;refine⟨e,by simp,hb,?_⟩;rcases h3 with h3|h3
    ·left
     rw[Nat.testBit_shiftLeft]at h3;simp only[C5,IH,ge_iff_le]at h3;obtain⟨h4,h5⟩:=h3
     have h6:i-e.on=0:=by have:=Nat.testBit_one_eq_true_iff_self_eq_zero.1 h5;exact this
     omega
    ·exact .inr h3
theorem yX:∀{l:List Oper}{acc:List Nat}{j:Nat},(Gj l acc)[acc.length+j]?=(l[j]?).map λo=>IT ((Gj l acc).take (acc.length+j)) o.after.toList
 |[],acc,j=>by simp[Gj]
 |o::r,acc,0=>by
  have h1:∀(l:List Oper)(a:List Nat),∃x,Gj l a=a++x:=by
   intro l
   induction l with
   |nil=>intro a;exact⟨[],by simp[Gj]⟩
   |cons o l ih=>intro a;obtain⟨x,hx⟩:=ih (a++[IT a o.after.toList]);exact⟨IT a o.after.toList::x,by simp only[Gj];rw[hx];simp⟩
  obtain⟨x,hx⟩:=h1 r (acc++[IT acc o.after.toList]);simp only[Gj,hx];simp
 |o::r,acc,j+1=>by
  have ih:=yX (l:=r) (acc:=acc++[IT acc o.after.toList]) (j:=j);simp only[Gj];simp only[AE,GY]at ih;have e:acc.length+(j+1)=acc.length+1+j:=by omega
  rw[e,ih];simp
theorem fS{listed:Array Bool}{i:Nat}:i∈Region.ready .any ops listed↔∃o,ops[i]?=some o/\listed.getD i true=false/\∀e∈o.after,Region.binds .any e=true->listed.getD e.on false=true:=by
 unfold Region.ready;rw[List.mem_filter,VL];constructor
 ·rintro⟨h1,h2⟩
  simp only[C5,MK]at h2;have ho:ops[i]?=some ops[i]:=OD h1;rw[ho]at h2;simp only[EM,KH,wD]at h2;refine⟨_,ho,h2.1,λe he hb=>?_⟩;have:=h2.2 e he;simpa [hb]using this
 ·rintro⟨o,ho,h1,h2⟩
  refine⟨(HD.1 ho).1,?_⟩;simp only[C5,MK];refine⟨h1,?_⟩;rw[ho];simp only[EM,KH,wD];intro e he;cases hb:Region.binds .any e with
  |false=>rfl
  |true=>simpa using h2 e he hb
def yY(ops:Array Oper)(listed:Array Bool):Prop:=∀(j:Nat)(o:Oper),ops[j]?=some o->listed.getD j false=true->∀e∈o.after,Region.binds .any e=true->listed.getD e.on false=true
theorem Alt{listed:Array Bool}(hc:yY ops listed)(J8:∀(j:Nat)(o:Oper),ops[j]?=some o->∀e∈o.after,Region.binds .any e=true->e.on<j):∀(j i:Nat)(o:Oper),ops[j]?=some o->Nat.testBit ((Gj ops.toList []).getD j 0) i=true->(∀e∈o.after,Region.binds .any e=true->listed.getD e.on false=true)->listed.getD i false=true:=by
 intro j
 induction j using Nat.strongRecOn with
 |_ j ih=>
  intro i o ho tB hl;have hm:=yX (l:=ops.toList) (acc:=[]) (j:=j);simp only[CJ,DL]at hm;have UG:ops.toList[j]?=some o:=by simpa using ho
  rw[UG]at hm;simp only[EM]at hm;rw[List.getD,hm]at tB;simp only[KH]at tB;obtain⟨e,he,hb,h⟩:=yW tB;have Kw:e∈o.after:=by simpa using he
  have Ao:=J8 j o ho e Kw hb;have BD:=hl e Kw hb;rcases h with h|h
  ·rw[<-h];exact BD
  ·have Azw:e.on<ops.size:=Nat.lt_trans Ao (HD.1 ho).1
   have Ol:ops[e.on]?=some ops[e.on]:=OD Azw;refine ih e.on Ao i _ Ol ?_ (hc e.on _ Ol BD);rw[List.getD,QP Ao]at h;exact h
theorem yZ{Q:Exit->Act->World->Prop}{ok0:OK0 P}{base:Nat}(J8:∀(j:Nat)(o:Oper),ops[j]?=some o->∀e∈o.after,Region.binds .any e=true->e.on<j):∀(k:Nat){es:List LogE}{listed:Array Bool}{pl:Nat->Option Pl}{tm:Nat->Option V}{bl:Nat->Option Blk}{a:Act}{w:World},es.length=k->listed.size=ops.size->yY ops listed->(∀i,i<ops.size->(listed.getD i true=false↔∃e∈es,e.i=i))->es.Pairwise (λx y=>x.i<y.i)->(∀e∈es,e.i<ops.size)->es.Pairwise (λx y=>Ph x y=false\/Nat.testBit ((Gj ops.toList []).getD y.i 0) x.i=true)->Valid P ops n es tm bl->Rel n ok0 base pl tm bl a w->(∀Ai a' w',Rel n ok0 base Ai (finT es tm) (finB es bl) a' w'->Step pl bl w Ai (finB es bl) w'->Q .normal a' w')->wpAny P .any ops Q k listed a w:=by
 intro k
 induction k with
 |zero=>
  intro es listed pl tm bl a w hk C3 hc hl hs Ao hf hv hr hq;have:es=[]:=Ik hk;subst this;refine⟨?_,hq pl a w hr (Step.refl pl bl w)⟩;cases Fc:Region.ready .any ops listed with
  |nil=>rfl
  |cons i r=>
   have hi:i∈Region.ready .any ops listed:=by rw[Fc];simp
   obtain⟨o,ho,h1,_⟩:=fS.1 hi;obtain⟨e,he,_⟩:=(hl i (HD.1 ho).1).1 h1;simp at he
 |succ k ih=>
  intro es listed pl tm bl a w hk C3 hc hl hs Ao hf hv hr hq;refine⟨λFc=>?_,λi hi=>?_⟩
  ·
   exfalso;cases es with
   |nil=>simp at hk
   |cons e es=>
    have U1:=Ao e (by simp);have ho:ops[e.i]?=some ops[e.i]:=OD U1
    have:e.i∈Region.ready .any ops listed:=by
     refine fS.2 ⟨_,ho,(hl e.i U1).2 ⟨e,by simp,rfl⟩,λd hd hb=>?_⟩;have Mx:=J8 e.i _ ho d hd hb;have Ls:d.on<ops.size:=by omega
     cases hg:listed.getD d.on true with
     |true=>
      have AyN:d.on<listed.size:=by omega
      simp only[EL,OD AyN,KH]at hg⊢;exact hg
     |false=>
      obtain⟨x,hx,Q7⟩:=(hl d.on Ls).1 hg;rcases Bf.1 hx with rfl|hx
      ·omega
      ·have:=(Ha.1 hs).1 x hx
       omega
    rw[Fc]at this;simp at this
  ·obtain⟨o,ho,h1,h2⟩:=fS.1 hi
   have Az5:=(HD.1 ho).1;obtain⟨e,he,U1⟩:=(hl i Az5).1 h1;obtain⟨pre,post,rfl⟩:=List.append_of_mem he;have aX:=GZ.1 hf;have Ic:=GZ.1 hs
   have NM:∀x∈pre,Apart x e:=by
    intro x hx;rcases aX.2.2 x hx e (by simp)with h|h
    ·exact Alr h
    ·exfalso
     rw[U1]at h;have EJ:=Alt hc J8 i x.i o ho h h2;have Ae:=Ao x (by simp[hx]);have uZ:=(hl x.i Ae).2 ⟨x,by simp[hx],rfl⟩;have AAa:x.i<listed.size:=by omega
     simp only[EL,OD AAa,KH]at EJ uZ;rw[EJ]at uZ;cases uZ
   obtain⟨b1,b2,b3,b4⟩:=Valid.bubble hv NM;subst U1;refine b1 tm bl (λ_ _=>rfl) (λ_ _=>rfl) ok0 base pl a w hr _ Q λAi a' w' Bv BN=>?_;refine ih (es:=pre++post) (by simp at hk⊢;omega) (by simpa using C3) ?_ ?_ ?_ ?_ ?_ b2 Bv ?_
   ·
    intro j oj UH hj d hd hb
    have HV:∀q,listed.getD q false=true->(listed.setIfInBounds e.i true).getD q false=true:=by
     intro q hq;simp only[EL,V0];split
     ·split<;>simp_all
     ·simpa [EL]using hq
    refine HV _ ?_;by_cases Aie:j=e.i
    ·subst Aie
     rw[ho]at UH;injection UH with UH;subst UH;exact h2 d hd hb
    ·refine hc j oj UH ?_ d hd hb
     simp only[EL,V0]at hj⊢;rw[if_neg (λh=>Aie h.symm)]at hj;exact hj
   ·intro q hq
    have AC6:q<listed.size:=by omega
    have GM:e.i<listed.size:=by omega
    by_cases uJ:q=e.i
    ·subst uJ
     constructor
     ·intro h
      simp[EL,GM]at h
     ·rintro⟨x,hx,Q7⟩
      exfalso;rcases Ci.1 hx with hx|hx
      ·have:=Ic.2.2 x hx e (by simp);omega
      ·have:=(Ha.1 Ic.2.1).1 x hx;omega
    ·have h3:(listed.setIfInBounds e.i true).getD q true=listed.getD q true:=by simp only[EL,V0];rw[if_neg (λh=>uJ h.symm)]
     rw[h3,hl q hq];constructor
     ·rintro⟨x,hx,Q7⟩
      refine⟨x,?_,Q7⟩;rcases Ci.1 hx with hx|hx
      ·exact Dl _ hx
      ·rcases Bf.1 hx with rfl|hx
       ·exact absurd Q7.symm uJ
       ·exact D7 _ hx
     ·rintro⟨x,hx,Q7⟩
      refine⟨x,?_,Q7⟩;rcases Ci.1 hx with hx|hx
      ·exact Dl _ hx
      ·exact D7 _ (Dm _ hx)
   ·exact GZ.2 ⟨Ic.1,(Ha.1 Ic.2.1).2,λx hx y hy=>Ic.2.2 x hx y (by simp[hy])⟩
   ·intro x hx
    refine Ao x ?_;rcases Ci.1 hx with hx|hx
    ·exact Dl _ hx
    ·exact D7 _ (Dm _ hx)
   ·exact GZ.2 ⟨aX.1,(Ha.1 aX.2.1).2,λx hx y hy=>aX.2.2 x hx y (by simp[hy])⟩
   ·intro pl2 a2 w2 Er AS
    rw[<-b3,<-b4]at Er;rw[<-b4]at AS;exact hq pl2 a2 w2 Er (BN.trans AS)
end
end
end Go.Lift
namespace Go.Lift
noncomputable section
open Go.RowKit
section
variable{P:Program}{ops:Array Oper}{n:Nat}{β:Type}{r:β}
theorem Rel.put{ok0:OK0 P}{base:Nat}{pl Ai:Nat->Option Pl}{tm:Nat->Option V}{bl bl':Nat->Option Blk}{a:Act}{w w':World}(h:Rel n ok0 base pl tm bl a w){dst:Option Nat}(hd:Ro n dst=true){v:V}{val:Value}(hr:RelB ok0 base Ai bl' w')(hs:Step pl bl w Ai bl' w')(hv:VRep (Al ok0 base Ai bl' w') v val):Rel n ok0 base Ai (updD tm dst v) bl' (a.put dst val) w':=by
 have UI:∀t v,tm t=some v->VRep (Al ok0 base Ai bl' w') v (a.tmps.getD t undef):=λt v ht=>(h.tmps t v ht).mono hs.ext;cases dst with
 |none=>exact⟨h.defers,h.size,UI,hr⟩
 |some d=>
  have HT:d<n:=D8 hd;refine⟨h.defers,by simp[Act.put,h.size],λt v' ht=>?_,hr⟩;simp only[updD,upd]at ht;simp only[Act.put,EL,V0];by_cases e:t=d
  ·subst e
   simp only[Dn,Af]at ht;subst ht;have:t<a.tmps.size:=by rw[h.size];exact HT
   simp[this,hv]
  ·rw[if_neg e]at ht
   rw[if_neg (λh=>e h.symm)];have:=UI t v' ht
   rwa [EL]at this
theorem z6{t:Nat}:∀{l:List Operand},Operand.tmp t∈l->t∈IS l
 |x::l,h=>by
  rcases Bf.1 h with h|h
  ·subst h;simp[IS]
  ·have:=z6 h
   cases x<;>simp_all [IS]
theorem Alu{tm Ak5:Nat->Option V}{l:List Operand}(h:∀t∈IS l,tm t=Ak5 t){x:Operand}(hx:x∈l):Ps tm x=Ps Ak5 x:=by
 cases x with
 |tmp t=>simp only[Ps,h t (z6 hx)]
 |_=>rfl
theorem Alv{i:Nat}{o:Oper}(ho:ops[i]?=some o)(hd:Ro n o.dst=true){σ:St}{v:V}{rd:List Nat}{wr:List (Nat×Blk)}{tin:List Nat}(hg:o.guard=none/\tin=IS o.op.operands.toList\/∃t want,MW ops o=some (t,want)/\look σ.tm t=some (.c (.bool want))/\tin=t::IS o.op.operands.toList)(hs:∀Aa,(∀b∈rd,Aa b=look σ.bl b)->OpOk P o (Rn σ.tm) Aa v wr):EOk P ops n ⟨i,o.dst,v,tin,rd,wr⟩ (look σ.tm) (look σ.bl):=by
 intro tm bl ht hb ok0 base pl a w hr K Q hk
 have C9:∀t∈IS o.op.operands.toList,tm t=look σ.tm t:=by
  intro t bE;rcases hg with⟨_,e⟩|⟨t',want,_,_,e⟩
  ·exact ht t (by rw[e];exact bE)
  ·exact ht t (by rw[e];exact Dm _ bE)
 have hw:Region.wanted o (yielded ops a.tmps)=true:=by
  unfold Region.wanted;rcases hg with⟨e,_⟩|⟨t',want,e1,e2,e3⟩
  ·rw[e]
  ·unfold MW at e1
   split at e1
   ·cases e1
   ·rename_i j Ak6 JA
    rw[JA];cases hj:(ops[j]?).bind (·.dst)with
    |none=>rw[hj]at e1;cases e1
    |some t2=>
     rw[hj]at e1;simp only[EM,Af,BC]at e1;obtain⟨e4,e5⟩:=e1;subst e4 e5;have h1:=ht t2 (by rw[e3];simp);rw[e2]at h1;have h2:=hr.tmps t2 _ h1;simp only[VRep,CRep]at h2;simp only[yielded,hj,VH];rw[EL]at h2;cases h3:a.tmps[t2]? with
     |none=>rw[h3]at h2;simp[undef]at h2
     |some u=>rw[h3]at h2;simp only[KH]at h2;subst h2;simp
 unfold wpOp;rw[ho];simp only[hw,Dn];refine .inl (hs bl hb ok0 base pl w a hr.rel (λx hx=>?_) K Q λval Ai w' Bv B5 hv=>hk Ai _ w' (hr.put hd Bv B5 hv) B5);have D6:x∈o.op.operands.toList:=by simpa using hx
 rw[yT,<-Alu C9 D6];exact yU hr x
theorem Alw{i:Nat}{o:Oper}(ho:ops[i]?=some o)(hd:Ro n o.dst=true){tmA:Nat->Option V}{blA:Nat->Option Blk}{t:Nat}{want:Bool}(hg:MW ops o=some (t,want)){u:V}(ht:tmA t=some u)(hu:u=.tup []\/u=.c (.bool (!want))):EOk P ops n ⟨i,o.dst,.tup [],[t],[],[]⟩ tmA blA:=by
 intro tm bl bE hb ok0 base pl a w hr K Q hk;have h1:=bE t (by simp);rw[ht]at h1;have h2:=hr.tmps t _ h1
 have hw:Region.wanted o (yielded ops a.tmps)=false:=by
  unfold Region.wanted;unfold MW at hg;split at hg
  ·cases hg
  ·rename_i j Ak6 JA
   rw[JA];cases hj:(ops[j]?).bind (·.dst)with
   |none=>rw[hj]at hg;cases hg
   |some t2=>
    rw[hj]at hg;simp only[EM,Af,BC]at hg;obtain⟨e4,e5⟩:=hg;subst e4 e5;simp only[yielded,hj,VH];rw[EL]at h2;cases h3:a.tmps[t2]? with
    |none=>rfl
    |some u'=>
     rw[h3]at h2;simp only[KH]at h2;rcases hu with e|e
     ·subst e
      obtain⟨vs,h4,h5⟩:=h2;simp only[TReps]at h5;subst h5 h4;rfl
     ·subst e
      simp only[VRep,CRep]at h2;subst h2;cases Ak6<;>rfl
 unfold wpOp;rw[ho];simp only[hw,HE,Cx];have AA4:VRep (Al ok0 base pl bl w) (.tup []) undef:=⟨[],rfl,rfl⟩;exact hk pl _ w (hr.put hd hr.rel (Step.refl pl bl w) AA4) (Step.refl pl bl w)
theorem Pt{tm:List (Nat×V)}{t:Nat}{v:V}(h:look tm t=some v):look (put tm t v)=look tm:=by
 funext j;rw[VQ];split
 ·rename_i e;rw[e,h]
 ·rfl
theorem Wx{X:Ctx}(hT:TOk P X.T)(hΓ:ΓOk P X.Γ){k:St->List LogE->Option β}:∀{l:List (Nat×Oper)}{σ:St}{log:List LogE},(∀p∈l,ops[p.1]?=some p.2)->JV X n ops l σ log k=some r->∃es σ',k σ' (es.reverse++log)=some r/\es.map (·.i)=l.map (·.1)/\Valid P ops n es (look σ.tm) (look σ.bl)/\look σ'.tm=finT es (look σ.tm)/\look σ'.bl=finB es (look σ.bl)
 |[],σ,log,_,h=>⟨[],σ,h,rfl,trivial,rfl,rfl⟩
 |(i,o)::BA,σ,log,hl,h=>by
  have ho:ops[i]?=some o:=hl (i,o) (by simp);have Gt:∀p∈BA,ops[p.1]?=some p.2:=λp hp=>hl p (by simp[hp]);simp only[JV]at h;cases hd:Ro n o.dst with
  |false=>rw[hd]at h;cases h
  |true=>
   rw[hd]at h;simp only[Am]at h
   have take:∀(σ1:St)(tin:List Nat),look σ1.tm=look σ.tm->look σ1.bl=look σ.bl->
     (o.guard=none/\tin=IS o.op.operands.toList\/∃t want,MW ops o=some (t,want)/\look σ1.tm t=some (.c (.bool want))/\tin=t::IS o.op.operands.toList)->
     (VZ X o (Rn σ1.tm) (look σ1.bl) σ1.nx λv rd wr=>JV X n ops BA ⟨putD σ1.tm o.dst v,puts σ1.bl wr,dT σ1.nx wr⟩ (⟨i,o.dst,v,tin,rd,wr⟩::log) k)=some r->
     ∃es σ',k σ' (es.reverse++log)=some r/\es.map (·.i)=((i,o)::BA).map (·.1)/\Valid P ops n es (look σ.tm) (look σ.bl)/\look σ'.tm=finT es (look σ.tm)/\look σ'.bl=finB es (look σ.bl):=by
    intro σ1 tin et eb hg h;obtain⟨v,rd,wr,hk,hs⟩:=Alq hT hΓ h;obtain⟨es,σ',h1,h2,h3,h4,h5⟩:=Wx hT hΓ Gt hk;refine⟨⟨i,o.dst,v,tin,rd,wr⟩::es,σ',by simpa using h1,by simp[h2],⟨?_,?_⟩,?_,?_⟩
    ·rw[<-et,<-eb]
     exact Alv ho hd hg hs
    ·simp only[Wv,dV,et,eb]at h3
     exact h3
    ·rw[h4];simp only[Wv,et,finT]
    ·rw[h5];simp only[dV,eb,finB]
   have skip:∀(σ1:St)(t:Nat)(want:Bool)(u:V),look σ1.tm=look σ.tm->look σ1.bl=look σ.bl->MW ops o=some (t,want)->look σ.tm t=some u->(u=.tup []\/u=.c (.bool (!want)))->
     (JV X n ops BA ⟨putD σ1.tm o.dst (.tup []),σ1.bl,σ1.nx⟩ (⟨i,o.dst,.tup [],[t],[],[]⟩::log) k)=some r->
     ∃es σ',k σ' (es.reverse++log)=some r/\es.map (·.i)=((i,o)::BA).map (·.1)/\Valid P ops n es (look σ.tm) (look σ.bl)/\look σ'.tm=finT es (look σ.tm)/\look σ'.bl=finB es (look σ.bl):=by
    intro σ1 t want u et eb hg ht hu h;obtain⟨es,σ',h1,h2,h3,h4,h5⟩:=Wx hT hΓ Gt h;refine⟨⟨i,o.dst,.tup [],[t],[],[]⟩::es,σ',by simpa using h1,by simp[h2],⟨Alw ho hd hg ht hu,?_⟩,?_,?_⟩
    ·simp only[Wv,et,eb]at h3
     exact h3
    ·rw[h4];simp only[Wv,et,finT]
    ·rw[h5];simp only[eb,finB,updL]
   split at h
   ·rename_i JA
    exact take σ _ rfl rfl (.inl ⟨JA,rfl⟩) h
   ·split at h
    ·cases h
    ·rename_i t want hg
     split at h
     ·rename_i ht
      exact skip σ t want _ rfl rfl hg ht (.inl rfl) h
     ·rename_i g ht
      cases want<;>cases g<;>simp only[Am,Cj,VN,Bool.not_false]at h
      ·exact take ⟨put σ.tm t (.c (.bool false)),σ.bl,σ.nx⟩ _ (Pt ht) rfl (.inr ⟨t,false,hg,by rw[Pt ht,ht],rfl⟩) h
      ·exact skip ⟨put σ.tm t (.c (.bool true)),σ.bl,σ.nx⟩ t false _ (Pt ht) rfl hg ht (.inr rfl) h
      ·exact skip ⟨put σ.tm t (.c (.bool false)),σ.bl,σ.nx⟩ t true _ (Pt ht) rfl hg ht (.inr rfl) h
      ·exact take ⟨put σ.tm t (.c (.bool true)),σ.bl,σ.nx⟩ _ (Pt ht) rfl (.inr ⟨t,true,hg,by rw[Pt ht,ht],rfl⟩) h
     ·cases h
end
end
end Go.Lift
namespace Go.Lift
noncomputable section
open Go.RowKit
def AExit.toExit:AExit->Exit
 |.normal=>.normal
 |.exit id=>.exit id
 |.ret=>.ret
structure Steps where
 rel:(Nat->Option Pl)->(Nat->Option Blk)->World->(Nat->Option Pl)->(Nat->Option Blk)->World->Prop
 refl:∀pl bl w,rel pl bl w pl bl w
 trans:∀{pl pl1 pl2 bl bl1 Aa w w1 w2},rel pl bl w pl1 bl1 w1->rel pl1 bl1 w1 pl2 Aa w2->rel pl bl w pl2 Aa w2
 drawn:∀{pl bl w Ai bl' w'},Step pl bl {w with drawn:=w.drawn+1} Ai bl' w'->rel pl bl w Ai bl' w'
 of:∀{pl bl w Ai bl' w'},Step pl bl w Ai bl' w'->rel pl bl w Ai bl' w'
theorem Step.undrawn{pl Ai:Nat->Option Pl}{bl bl':Nat->Option Blk}{w w':World}(h:Step pl bl {w with drawn:=w.drawn+1} Ai bl' w'):Step pl bl w Ai bl' w':=⟨h.os,h.tape,h.output,h.size,h.out,h.cells,h.rows⟩
@[reducible] def Alx(m:Nat):Steps:=⟨StepM m,StepM.refl m,StepM.trans,λh=>h.undrawn.toM,Step.toM⟩
@[reducible] def z7:Steps:=⟨Step,Step.refl,Step.trans,Step.undrawn,id⟩
structure Fr where
 O:(Nat->Option Blk)->(Nat->Option Blk)
 upd:∀f wr,O (updL f wr)=updL (O f) wr
 al:Nat->Prop
 agree:∀f b,al b->O f b=f b
@[reducible] def fr0:Fr:=⟨λf=>f,λ_ _=>rfl,λ_=>True,λ_ _ _=>rfl⟩
def ov(F f:Nat->Option Blk):Nat->Option Blk:=λi=>
 match f i with
 |some B=>some B
 |none=>F i
theorem z8(F:Nat->Option Blk):∀(wr:List (Nat×Blk))(f:Nat->Option Blk),ov F (updL f wr)=updL (ov F f) wr
 |[],_=>rfl
 |(i,x)::r,f=>by simp only[updL];rw[z8 F r];congr 1;funext j;simp only[ov,upd];by_cases h:j=i<;>simp[h]
@[reducible] def frF(ids:List Nat)(F:Nat->Option Blk)(h:∀b∈ids,F b=none):Fr:=⟨ov F,λf wr=>z8 F wr f,λb=>b∈ids,λf b hb=>by
 simp only[ov];cases hf:f b with
 |some B=>rfl
 |none=>exact h b hb⟩
section
variable{P:Program}{n:Nat}{R:Steps}{ι:Type}{fr:ι->Fr}{β:Type}{r:β}
theorem Valid.among{ops:Array Oper}(fr:Fr):∀{es:List LogE}{tm:Nat->Option V}{bl:Nat->Option Blk},Valid P ops n es tm bl->(∀e∈es,∀b∈e.rd,fr.al b)->Valid P ops n es tm (fr.O bl)
 |[],_,_,_,_=>trivial
 |e::es,tm,bl,⟨h1,h2⟩,ha=>⟨h1.agree (λ_ _=>rfl) (λb hb=>fr.agree bl b (ha e (by simp) b hb)),by rw[<-fr.upd];exact Valid.among fr h2 λe' Kw=>ha e' (Dm _ Kw)⟩
theorem zA(fr:Fr):∀{es:List LogE}{bl:Nat->Option Blk},finB es (fr.O bl)=fr.O (finB es bl)
 |[],_=>rfl
 |e::es,bl=>by simp only[finB];rw[<-fr.upd];exact zA fr
def SimR(P:Program)(n:Nat)(R:Steps){ι:Type}(fr:ι->Fr)(c:Code)(σ:St)(k:Kx β)(r:β):Prop:=
 ∃e' σ',k e' σ'=some r/\∀(i:ι)(ok0:OK0 P)(base:Nat)(pl:Nat->Option Pl)(a:Act)(w:World),Rel n ok0 base pl (look σ.tm) ((fr i).O (look σ.bl)) a w->
  c.wp P (λe a' w'=>e=e'.toExit/\∃Ai,Rel n ok0 base Ai (look σ'.tm) ((fr i).O (look σ'.bl)) a' w'/\R.rel pl ((fr i).O (look σ.bl)) w Ai ((fr i).O (look σ'.bl)) w') a w
def Aly(P:Program)(n:Nat)(R:Steps){ι:Type}(fr:ι->Fr)(c:Code)(cut:Cut):Prop:=
 ∀{β:Type}(σ:St)(k:Kx β)(r:β),cut.run σ k=some r->SimR P n R fr c σ k r
def Sim(P:Program)(n m:Nat)(c:Code)(σ:St)(k:Kx β)(r:β):Prop:=
 ∃e' σ',k e' σ'=some r/\∀(ok0:OK0 P)(base:Nat)(pl:Nat->Option Pl)(a:Act)(w:World),Rel n ok0 base pl (look σ.tm) (look σ.bl) a w->
  c.wp P (λe a' w'=>e=e'.toExit/\∃Ai,Rel n ok0 base Ai (look σ'.tm) (look σ'.bl) a' w'/\StepM m pl (look σ.bl) w Ai (look σ'.bl) w') a w
def Pu(P:Program)(n m:Nat)(c:Code)(cut:Cut):Prop:=
 ∀{β:Type}(σ:St)(k:Kx β)(r:β),cut.run σ k=some r->Sim P n m c σ k r
def find(q:Nat):Nat->Code->List Code
 |p,c=>
  let aJ:List Code:=bif Nat.beq p q then [c]else []
  match c with
  |.seq a b=>aJ++(find q (2*p) a++find q (2*p+1) b)
  |.cond _ a b=>aJ++(find q (2*p) a++find q (2*p+1) b)
  |.block _ a=>aJ++find q (2*p) a
  |_=>aJ
theorem KS(p:Nat)(c:Code):c∈find p p c:=by unfold find;cases c<;>simp
theorem RC:∀(l:List Oper)(s:Nat),(G7 s l).map (·.1)=List.range' s l.length
 |[],_=>rfl
 |o::l,s=>by simp[G7,RC l,List.range'_succ]
theorem RD{ops:Array Oper}:∀(l:List Oper)(s:Nat),ops.toList.drop s=l->∀p∈G7 s l,ops[p.1]?=some p.2
 |[],_,_,p,hp=>by simp[G7]at hp
 |o::l,s,h,p,hp=>by
  have hs:s<ops.toList.length:=by
   rcases QX s ops.toList.length with h1|h1
   ·exact h1
   ·rw[V3 h1]at h;cases h
  rw[JN hs]at h;injection h with h1 h2;simp only[G7,Bf]at hp;rcases hp with e|hp
  ·subst e
   simp only[Array.getElem_toList]at h1;rw[<-h1];exact OD (by simpa using hs)
  ·exact RD l (s+1) h2 p hp
theorem fT:∀{l:List (Nat×Oper)},JW l=true->∀p∈l,∀e∈p.2.after,Region.binds .any e=true->e.on<p.1
 |[],_,p,hp=>by simp at hp
 |(i,o)::l,h,p,hp=>by
  simp only[JW,C5,Ef]at h;rcases Bf.1 hp with e|hp
  ·subst e
   intro e he hb;have:=h.1 e (by simpa using he);simp only[hb,VN,MO]at this;exact D8 this
  ·exact fT h.2 p hp
theorem zB{m:Nat}{y:LogE}:∀{l:List LogE},Wa m y l=true->∀x∈l,Ph x y=false\/Nat.testBit m x.i=true
 |[],_,x,hx=>by simp at hx
 |z::l,h,x,hx=>by
  simp only[Wa,C5,KI,MK]at h;rcases Bf.1 hx with e|hx
  ·subst e;exact h.1
  ·exact zB h.2 x hx
theorem fU{ms:List Nat}:∀{l:List LogE},fine ms l=true->l.Pairwise (λy x=>Ph x y=false\/Nat.testBit (ms.getD y.i 0) x.i=true)
 |[],_=>List.Pairwise.nil
 |y::l,h=>by simp only[fine,C5]at h;exact Ha.2 ⟨λx hx=>zB h.1 x hx,fU h.2⟩
theorem Rel.drawn{ok0:OK0 P}{base:Nat}{pl:Nat->Option Pl}{tm:Nat->Option V}{bl:Nat->Option Blk}{a:Act}{w w':World}(h:Rel n ok0 base pl tm bl a w)(hw:w'.heap=w.heap):Rel n ok0 base pl tm bl a w':=by
 have hk:Ext (Al ok0 base pl bl w) (Al ok0 base pl bl w'):=
  ⟨AC _,λg hg _=>⟨hg,by show w'.heap[g]?=w.heap[g]?;rw[hw]⟩,λ_ _ h=>h,λ_ sv Ab h=>⟨sv,Ab,h,KeepR.refl _ _ _⟩⟩
 refine⟨h.defers,h.size,λt v ht=>(h.tmps t v ht).mono hk,by rw[hw];exact h.rel.baseLe,λi B hB=>?_,h.rel.sep,h.rel.fresh,h.rel.glob.out (by rw[hw];exact AC _) (λg _ ho=>⟨by rw[hw],ho⟩)⟩;obtain⟨p,hp,hb⟩:=h.rel.blks i B hB;exact⟨p,hp,hb.mono hk λg _=>by show w'.heap[g]?=w.heap[g]?;rw[hw]⟩
theorem Alz(hm:P.follows .mixedOrders=true){X:Ctx}(hA:∀log,KO X.A log=true->∀e∈log,∀b∈e.rd,∀i,(fr i).al b)(hT:TOk P X.T)(hΓ:ΓOk P X.Γ){id:Nat}{ops:Array Oper}{draw:Bool}{σ:St}{k:Kx β}(h:(JV X n ops (G7 0 ops.toList) σ [] λσ' log=>bif KO X.A log&&(!draw||(JW (G7 0 ops.toList)&&fine (Gj ops.toList []) log))then k .normal σ' else none)=some r):SimR P n R fr (.region id ops draw) σ k r:=by
 obtain⟨es,σ',h1,h2,h3,h4,h5⟩:=Wx hT hΓ (RD ops.toList 0 (by simp)) h;rw[RC]at h2;have Ei:es.map (·.i)=List.range ops.size:=by rw[h2,cI];simp
 simp only[II]at h1
 have hc:KO X.A es.reverse=true/\(!draw||(JW (G7 0 ops.toList)&&fine (Gj ops.toList []) es.reverse))=true/\k .normal σ'=some r:=by
  cases hb:(KO X.A es.reverse&&(!draw||(JW (G7 0 ops.toList)&&fine (Gj ops.toList []) es.reverse)))with
  |false=>rw[hb]at h1;cases h1
  |true=>rw[hb]at h1;exact⟨(andB hb).1,(andB hb).2,h1⟩
 obtain⟨NQ,hc⟩:=hc;refine⟨.normal,σ',hc.2,λi ok0 base pl a w hr=>?_⟩;have h3:=Valid.among (fr i) h3 λe he b hb=>hA _ NQ e (List.mem_reverse.2 he) b hb i;have h5:(fr i).O (look σ'.bl)=finB es ((fr i).O (look σ.bl)):=by rw[h5,zA]
 cases draw with
 |false=>
  refine wp_region ?_;rw[<-Ei];refine fR h3 hr λAi a' w' Bv BN=>⟨rfl,Ai,?_,?_⟩
  ·rw[h4,h5];exact Bv
  ·rw[h5];exact R.of BN
 |true=>
  have Hl:=hc.1;simp only[VN,MO,C5]at Hl;obtain⟨hb,hf⟩:=Hl
  have J8:∀(j:Nat)(o:Oper),ops[j]?=some o->∀e∈o.after,Region.binds .any e=true->e.on<j:=by
   intro j o ho;have hj:j<ops.size:=(HD.1 ho).1
   have CX:j∈(G7 0 ops.toList).map (·.1):=by rw[RC];simp only[G3,List.mem_range'_1];omega
   obtain⟨p,hp,e⟩:=Hb.1 CX;have h6:=RD (ops:=ops) ops.toList 0 (by simp) p hp;rw[e,ho]at h6;injection h6 with h6;have:=fT hb p hp;rw[e,<-h6]at this;exact this
  have K0:∀i,(∃e∈es,e.i=i)↔i<ops.size:=by intro i;rw[<-VL,<-Ei,Hb]
  refine wp_region_any hm ?_;refine yZ J8 ops.size (es:=es) ?_ (by simp) ?_ (λi hi=>?_) ?_ (λe he=>(K0 e.i).1 ⟨e,he,rfl⟩) ?_ h3 (hr.drawn (w':={w with drawn:=w.drawn+1}) rfl) λAi a' w' Bv BN=>⟨rfl,Ai,?_,?_⟩
  ·have:=At List.length Ei
   simpa using this
  ·intro j o _ hj
   exfalso;rw[EL]at hj;rcases QX j ops.size with h7|h7
   ·simp[h7]at hj
   ·simp[Nat.not_lt.2 h7]at hj
  ·constructor
   ·intro _;exact(K0 i).2 hi
   ·intro _;simp[EL,hi]
  ·have:(es.map (·.i)).Pairwise (· < ·):=by rw[Ei];exact List.pairwise_lt_range
   exact List.pairwise_map.1 this
  ·have:=fU hf
   exact List.pairwise_reverse.1 this
  ·rw[h4,h5];exact Bv
  ·rw[h5]
   exact R.drawn BN
theorem EN{c:Code}{Q Q':Exit->Act->World->Prop}{a:Act}{w:World}(h:c.wp P Q a w)(hq:∀e a w,Q e a w->Q' e a w):c.wp P Q' a w:=by intro b k cs;obtain⟨e,a',w',h1,h2⟩:=h b k cs;exact⟨e,a',w',hq _ _ _ h1,h2⟩
theorem fV(hm:P.follows .mixedOrders=true){X:Ctx}(hA:∀log,KO X.A log=true->∀e∈log,∀b∈e.rd,∀i,(fr i).al b)(hT:TOk P X.T)(hΓ:ΓOk P X.Γ):∀{c:Code}{Λ:Nat->Option Cut}{p:Nat}{σ:St}{k:Kx β},(∀q cut,Λ q=some cut->∀c'∈find q p c,Aly P n R fr c' cut)->exec X n Λ p c σ k=some r->SimR P n R fr c σ k r:=by
 intro c
 induction c with
 |region id ops draw=>
  intro Λ p σ k hΛ h;unfold exec at h;split at h
  ·rename_i cut hc;exact hΛ p cut hc _ (KS p _) σ k r h
  ·exact Alz hm hA hT hΓ h
 |skip=>
  intro Λ p σ k hΛ h;unfold exec at h;split at h
  ·rename_i cut hc;exact hΛ p cut hc _ (KS p _) σ k r h
  ·exact⟨.normal,σ,h,λi ok0 base pl a w hr=>wp_skip ⟨rfl,pl,hr,R.refl _ _ _⟩⟩
 |exit id=>
  intro Λ p σ k hΛ h;unfold exec at h;split at h
  ·rename_i cut hc;exact hΛ p cut hc _ (KS p _) σ k r h
  ·exact⟨.exit id,σ,h,λi ok0 base pl a w hr=>wp_exit ⟨rfl,pl,hr,R.refl _ _ _⟩⟩
 |ret=>
  intro Λ p σ k hΛ h;unfold exec at h;split at h
  ·rename_i cut hc;exact hΛ p cut hc _ (KS p _) σ k r h
  ·exact⟨.ret,σ,h,λi ok0 base pl a w hr=>wp_ret ⟨rfl,pl,hr,R.refl _ _ _⟩⟩
 |seq x y ihx ihy=>
  intro Λ p σ k hΛ h;unfold exec at h;split at h
  ·rename_i cut hc;exact hΛ p cut hc _ (KS p _) σ k r h
  ·simp only at h
   obtain⟨e1,σ1,h1,Ho⟩:=ihx (λq cut hq c' Gr=>hΛ q cut hq c' (by unfold find;simp[Gr])) h;have hy:∀{k':Kx β},exec X n Λ (2*p+1) y σ1 k'=some r->SimR P n R fr y σ1 k' r:=ihy (λq cut hq c' Gr=>hΛ q cut hq c' (by unfold find;simp[Gr]));cases e1 with
   |normal=>simp only at h1;obtain⟨e2,σ2,h2,UX⟩:=hy h1;refine⟨e2,σ2,h2,λi ok0 base pl a w hr=>wp_seq (EN (Ho i ok0 base pl a w hr) λe a' w' ⟨he,Ai,Bv,BN⟩=>?_)⟩;subst he;exact EN (UX i ok0 base Ai a' w' Bv) λe a2 w2 ⟨I1,pl2,Er,AS⟩=>⟨I1,pl2,Er,R.trans BN AS⟩
   |exit id=>refine⟨.exit id,σ1,h1,λi ok0 base pl a w hr=>wp_seq (EN (Ho i ok0 base pl a w hr) λe a' w' hq=>?_)⟩;have he:=hq.1;subst he;exact hq
   |ret=>refine⟨.ret,σ1,h1,λi ok0 base pl a w hr=>wp_seq (EN (Ho i ok0 base pl a w hr) λe a' w' hq=>?_)⟩;have he:=hq.1;subst he;exact hq
 |cond x a b iha ihb=>
  intro Λ p σ k hΛ h;unfold exec at h;split at h
  ·rename_i cut hc;exact hΛ p cut hc _ (KS p _) σ k r h
  ·simp only at h
   split at h
   ·rename_i g hg
    have Ai2:∀(i:ι)(ok0:OK0 P)(base:Nat)(pl:Nat->Option Pl)(a:Act)(w:World),Rel n ok0 base pl (look σ.tm) ((fr i).O (look σ.bl)) a w->a.eval x=.bool g:=by intro i ok0 base pl a w hr;have:=yU hr x;rw[<-yT,hg]at this;exact this
    cases g with
    |true=>obtain⟨e1,σ1,h1,Ho⟩:=iha (λq cut hq c' Gr=>hΛ q cut hq c' (by unfold find;simp[Gr])) h;exact⟨e1,σ1,h1,λi ok0 base pl a w hr=>wp_cond_true (Ai2 i ok0 base pl a w hr) (Ho i ok0 base pl a w hr)⟩
    |false=>obtain⟨e1,σ1,h1,Ho⟩:=ihb (λq cut hq c' Gr=>hΛ q cut hq c' (by unfold find;simp[Gr])) h;exact⟨e1,σ1,h1,λi ok0 base pl a w hr=>wp_cond_false (Ai2 i ok0 base pl a w hr) (Ho i ok0 base pl a w hr)⟩
   ·cases h
 |block id a iha=>
  intro Λ p σ k hΛ h;unfold exec at h;split at h
  ·rename_i cut hc;exact hΛ p cut hc _ (KS p _) σ k r h
  ·simp only at h
   obtain⟨e1,σ1,h1,Ho⟩:=iha (λq cut hq c' Gr=>hΛ q cut hq c' (by unfold find;simp[Gr])) h;cases e1 with
   |normal=>refine⟨.normal,σ1,h1,λi ok0 base pl a w hr=>wp_block (EN (Ho i ok0 base pl a w hr) λe a' w' hq=>?_)⟩;have he:=hq.1;subst he;exact hq
   |ret=>refine⟨.ret,σ1,h1,λi ok0 base pl a w hr=>wp_block (EN (Ho i ok0 base pl a w hr) λe a' w' hq=>?_)⟩;have he:=hq.1;subst he;exact hq
   |exit Q9=>
    simp only at h1;cases hid:Nat.beq Q9 id with
    |true=>rw[hid]at h1;have hid:=As hid;refine⟨.normal,σ1,h1,λi ok0 base pl a w hr=>wp_block (EN (Ho i ok0 base pl a w hr) λe a' w' hq=>?_)⟩;have he:=hq.1;subst he;simp only[AExit.toExit,Exit.inBlock,hid,Dn];exact⟨trivial,hq.2⟩
    |false=>
     rw[hid]at h1;have AL:Q9≠id:=λe=>by rw[e,MS]at hid;cases hid
     refine⟨.exit Q9,σ1,h1,λi ok0 base pl a w hr=>wp_block (EN (Ho i ok0 base pl a w hr) λe a' w' hq=>?_)⟩;have he:=hq.1;subst he;simp only[AExit.toExit,Exit.inBlock,AL,Cx];exact⟨trivial,hq.2⟩
 |loop a iha=>
  intro Λ p σ k hΛ h;unfold exec at h;split at h
  ·rename_i cut hc;exact hΛ p cut hc _ (KS p _) σ k r h
  ·simp only at h
   generalize X.N=i at h
   have key:∀(i:Nat)(σ:St),Wb (λσ' k'=>exec X n (λ_=>none) 1 a σ' k') i σ k=some r->∃e' σ',k e' σ'=some r/\∀(j:ι)(ok0:OK0 P)(base:Nat)(pl:Nat->Option Pl)(a':Act)(w:World),Rel n ok0 base pl (look σ.tm) ((fr j).O (look σ.bl)) a' w->
     Code.rounds P a (λe a' w'=>e=e'.toExit/\∃Ai,Rel n ok0 base Ai (look σ'.tm) ((fr j).O (look σ'.bl)) a' w'/\R.rel pl ((fr j).O (look σ.bl)) w Ai ((fr j).O (look σ'.bl)) w') i a' w:=by
    intro i
    induction i with
    |zero=>intro σ h;cases h
    |succ i ih=>
     intro σ h;simp only[Wb]at h;obtain⟨e1,σ1,h1,Ho⟩:=iha (Λ:=λ_=>none) (λ_ _ h=>by cases h) h;cases e1 with
     |normal=>
      simp only at h1;obtain⟨e2,σ2,h2,UX⟩:=ih σ1 h1;refine⟨e2,σ2,h2,λj ok0 base pl a' w hr=>?_⟩;rw[rounds_succ];refine EN (Ho j ok0 base pl a' w hr) λe a1 w1 ⟨he,pl1,L0,Bk⟩=>?_;subst he
      have Gv:∀(i:Nat){Q Q':Exit->Act->World->Prop}{a1:Act}{w:World},(∀e a w,Q e a w->Q' e a w)->Code.rounds P a Q i a1 w->Code.rounds P a Q' i a1 w:=by
       intro i
       induction i with
       |zero=>intro _ _ _ _ _ h;exact h
       |succ i ihj=>
        intro Q Q' a1 w hq h;rw[rounds_succ]at h⊢;refine EN h λe a w h=>?_;cases e with
        |normal=>exact ihj hq h
        |_=>exact hq _ _ _ h
      exact Gv i (λe a2 w2 ⟨q1,pl2,q2,q3⟩=>⟨q1,pl2,q2,R.trans Bk q3⟩) (UX j ok0 base pl1 a1 w1 L0)
     |exit id=>refine⟨.exit id,σ1,h1,λj ok0 base pl a' w hr=>?_⟩;rw[rounds_succ];refine EN (Ho j ok0 base pl a' w hr) λe a1 w1 hq=>?_;have he:=hq.1;subst he;exact hq
     |ret=>refine⟨.ret,σ1,h1,λj ok0 base pl a' w hr=>?_⟩;rw[rounds_succ];refine EN (Ho j ok0 base pl a' w hr) λe a1 w1 hq=>?_;have he:=hq.1;subst he;exact hq
   obtain⟨e',σ',h1,h2⟩:=key i σ h;exact⟨e',σ',h1,λj ok0 base pl a' w hr=>wp_loop_rounds i (h2 j ok0 base pl a' w hr)⟩
 |_=>
  intro Λ p σ k hΛ h;unfold exec at h;split at h
  ·rename_i cut hc;exact hΛ p cut hc _ (KS p _) σ k r h
  ·cases h
theorem fW(hm:P.follows .mixedOrders=true){m:Nat}{X:Ctx}(hT:TOk P X.T)(hΓ:ΓOk P X.Γ){Λ:Nat->Option Cut}{c:Code}{p:Nat}{σ:St}{k:Kx β}(h:∀q cut,Λ q=some cut->∀c'∈find q p c,Pu P n m c' cut)(hk:exec X n Λ p c σ k=some r):Sim P n m c σ k r:=by
 obtain⟨e',σ',h1,h2⟩:=fV (R:=Alx m) (fr:=λ_:Unit=>fr0) hm (λ_ _ _ _ _ _ _=>trivial) hT hΓ (λq cut hq c' Gr=>λσ k r hr=>by obtain⟨e',σ',h1,h2⟩:=h q cut hq c' Gr σ k r hr;exact⟨e',σ',h1,λ_=>h2⟩) hk
 exact⟨e',σ',h1,h2 ()⟩
end
end
end Go.Lift
namespace Go.Lift
noncomputable section
open Go.RowKit
structure View where
 m:Nat
 slots:List Nat
 params:List (Bool×List CT)
 ins:List BT
abbrev View.den(v:View):Type:=ST.dens v.params×BT.dens v.ins
def idsB(bl:Nat->Option Blk)(nx:Nat):List BT->Nat->List (Nat×Nat)->Option (List Nat)
 |[],_,_=>some []
 |t::r,j,ps=>
  match look ps j with
  |some i=>
   match t,bl i with
   |.cells _ l,some (.cells _ cs)=>
    match idsB bl nx r (j+1) (ps++IP l cs)with
    |some is=>some (i::is)
    |none=>none
   |_,_=>
    match idsB bl nx r (j+1) ps with
    |some is=>some (i::is)
    |none=>none
  |none=>
   match idsB bl (nx+1) r (j+1) ps with
   |some is=>some (nx::is)
   |none=>none
def fEq(ids:List Nat):List (List UInt8×(FuncId×Nat))->List (List UInt8×(FuncId×Nat))->Bool
 |[],[]=>true
 |x::l,y::m=>(decide (x.1=y.1)&&(Nat.beq x.2.1 y.2.1&&(match ids[x.2.2]? with|some i=>Nat.beq i y.2.2|none=>false)))&&fEq ids l m
 |_,_=>false
def CF(bl:Nat->Option Blk)(ids:List Nat):(l:List BT)->List Nat->Option (BT.dens l)
 |[],[]=>some ()
 |.cells t l::r,i::is=>
  match bl i with
  |some (.cells t' cs)=>
   bif Nat.beq t t' then
    match Bc bl ids l cs with
    |none=>none
    |some y=>
     match CF bl ids r is with
     |none=>none
     |some z=>some (y,z)
   else none
  |_=>none
 |.row t e::r,i::is=>
  match bl i with
  |some (.row t' e' _ l)=>
   bif Nat.beq t t' then
    if h:e'=e then
     match CF bl ids r is with
     |none=>none
     |some z=>some ((h▸l:List e.den),z)
    else none
   else none
  |none=>
   match CF bl ids r is with
   |none=>none
   |some z=>some (([]:List e.den),z)
  |_=>none
 |.map t k v vg::r,i::is=>
  match bl i with
  |some (.map t' k' v' QO l)=>
   bif Nat.beq t t'&&(vg==QO)then
    if h:k'=k then
     if h2:v'=v then
      match CF bl ids r is with
      |none=>none
      |some z=>some ((h▸(h2▸l:List (k'.den×v.den)):List (k.den×v.den)),z)
     else none
    else none
   else none
  |_=>none
 |.mat t et e::r,i::is=>
  match bl i with
  |some (.mat t' Un e' _ _ none l)=>
   bif Nat.beq t t'&&Nat.beq et Un then
    if h:e'=e then
     match CF bl ids r is with
     |none=>none
     |some z=>some ((h▸l:List (List e.den)),z)
    else none
   else none
  |none=>
   match CF bl ids r is with
   |none=>none
   |some z=>some (([]:List (List e.den)),z)
  |_=>none
 |.tree t e::r,i::is=>
  match bl i with
  |some (.tree t' e' _ _ none l)=>
   bif Nat.beq t t' then
    if h:e'=e then
     match CF bl ids r is with
     |none=>none
     |some z=>some ((h▸l:List e.ty.den),z)
    else none
   else none
  |none=>
   match CF bl ids r is with
   |none=>none
   |some z=>some (([]:List e.ty.den),z)
  |_=>none
 |.fmap t l::r,i::is=>
  match bl i with
  |some (.fmap t' l')=>bif Nat.beq t t'&&fEq ids l l' then CF bl ids r is else none
  |_=>none
 |_,_=>none
def Fh:List CT->List C->List Nat
 |.data τ::l,cs=>Ct (cs.take τ.size)++Fh l (cs.drop τ.size)
 |_::l,_::cs=>Fh l cs
 |_,_=>[]
def Fx:List (Bool×List CT)->List V->List Nat
 |t::l,v::vs=>
  match v.cells with
  |some cs=>Fh t.2 cs++Fx l vs
  |none=>Fx l vs
 |_,_=>[]
def Ey(bl:Nat->Option Blk):List BT->List Nat->List Nat
 |.cells _ l::r,i::is=>
  match bl i with
  |some (.cells _ cs)=>Fh l cs++Ey bl r is
  |_=>Ey bl r is
 |_::r,_::is=>Ey bl r is
 |_,_=>[]
def Pv(tm:List (Nat×V)):List Nat->Option (List V)
 |[]=>some []
 |t::r=>
  match look tm t with
  |some v=>
   match Pv tm r with
   |some vs=>some (v::vs)
   |none=>none
  |none=>none
def AlA(m:Nat):List (Nat×Nat):=(AH 0 m).zip (AH 0 m)
def Nh:List Nat->List Nat->Bool
 |[],[]=>true
 |x::r,y::s=>Nat.beq x y&&Nh r s
 |_,_=>false
def View.read(v:View)(σ:St):Option v.den:=
 match Pv σ.tm v.slots with
 |none=>none
 |some vs=>
  match idsB (look σ.bl) σ.nx v.ins 0 (AlA v.m++Rg v.params vs)with
  |none=>none
  |some ids=>
   match G6 (look σ.bl) ids v.params vs with
   |none=>none
   |some x=>
    match CF (look σ.bl) ids v.ins ids with
    |none=>none
    |some y=>
     bif Nat.ble v.m v.ins.length&&(Nh (ids.take v.m) (AH 0 v.m)&&(IK ids&&!meet (Fx v.params vs++Ey (look σ.bl) v.ins ids) ids))then some (x,y)else none
def mkT(ids:List Nat):List Nat->(l:List (Bool×List CT))->ST.dens l->List (Nat×V)
 |s::ss,t::l,x=>(s,V.mk t.1 (mkC ids t.2 x.1))::mkT ids ss l x.2
 |_,_,_=>[]
def RE:Nat->List Blk->List (Nat×Blk)
 |_,[]=>[]
 |i,b::r=>(i,b)::RE (i+1) r
def View.mk'(v:View)(d:v.den):St:=
 ⟨mkT (AH 0 v.ins.length) v.slots v.params d.1,RE 0 (mkB (AH 0 v.ins.length) v.ins d.2),v.ins.length⟩
theorem zC:∀(l:List Blk)(s i:Nat),look (RE s l) i=if s<=i then l[i-s]? else none
 |[],s,i=>by simp[RE,EB,Ex]
 |b::l,s,i=>by
  simp only[RE,EB,Ex];by_cases h:s=i
  ·subst h;simp
  ·rw[HH (λe=>h e.symm),Cj,zC]
   by_cases h2:s<=i
   ·have h3:s+1<=i:=by omega
    have h4:i-s=(i-(s+1))+1:=by omega
    simp[h2,h3,h4]
   ·have h3:¬s+1<=i:=by omega
    simp[h2,h3]
theorem Ni(v:View)(d:v.den):look (v.mk' d).bl=fnBl (mkB (AH 0 v.ins.length) v.ins d.2):=by funext i;simp[View.mk',zC,fnBl]
theorem fX{bl:Nat->Option Blk}:∀{τ:Ty}{cs:List C}{x:τ.den}{r:List C},pack bl τ cs=some (x,r)->∃ds,cs=ds++r/\ds.length=τ.size/\pack bl τ ds=some (x,[])
 |.bool,cs,x,r,h=>by
  cases cs with
  |nil=>simp[pack]at h
  |cons c cs=>
   cases c<;>simp only[pack]at h<;>try(cases h;done)
   simp only[Af,BC]at h;obtain⟨h1,h2⟩:=h;subst h1 h2;exact⟨[_],rfl,rfl,rfl⟩
 |.int k,cs,x,r,h=>by
  cases cs with
  |nil=>simp[pack]at h
  |cons c cs=>
   cases c<;>simp only[pack]at h<;>try(cases h;done)
   split at h
   ·rename_i hk
    subst hk;simp only[Af,BC]at h;obtain⟨h1,h2⟩:=h;subst h1 h2;exact⟨[_],rfl,rfl,by simp[pack]⟩
   ·cases h
 |.err,cs,x,r,h=>by
  cases cs with
  |nil=>simp[pack]at h
  |cons c cs=>
   cases c<;>simp only[pack]at h<;>try(cases h;done)
   simp only[Af,BC]at h;obtain⟨h1,h2⟩:=h;subst h1 h2;exact⟨[_],rfl,rfl,rfl⟩
 |.str,cs,x,r,h=>by
  cases cs with
  |nil=>simp[pack]at h
  |cons c cs=>
   cases c<;>simp only[pack]at h<;>try(cases h;done)
   simp only[Af,BC]at h;obtain⟨h1,h2⟩:=h;subst h1 h2;exact⟨[_],rfl,rfl,rfl⟩
 |.unit,cs,x,r,h=>by simp only[pack,Af,BC]at h;obtain⟨_,h2⟩:=h;subst h2;exact⟨[],rfl,rfl,rfl⟩
 |.prod a b,cs,x,r,h=>by
  simp only[pack]at h;split at h
  ·cases h
  ·rename_i x1 r1 h1
   split at h
   ·cases h
   ·rename_i x2 r2 h2
    simp only[Af,BC]at h;obtain⟨e1,e2⟩:=h;subst e1 e2;obtain⟨ds,e3,e4,e5⟩:=fX h1;obtain⟨es,e6,e7,e8⟩:=fX h2;refine⟨ds++es,by rw[e3,e6,Cw],by simp[e4,e7,Ty.size],?_⟩;have:=pack_append e5 (s:=es);simp only[pack,this,Gi,e8]
 |.slice e,cs,x,r,h=>by
  cases cs with
  |nil=>simp[pack]at h
  |cons c cs=>
   rcases Classical.em (∃b ver p,c=.trow b ver p)with⟨b,ver,p,rfl⟩|Oj
   ·cases p with
    |cons _ _=>simp[pack]at h
    |nil=>
     simp only[pack]at h;split at h
     ·cases h
     ·rename_i l hl
      simp only[Af,BC]at h;obtain⟨h1,h2⟩:=h;subst h1 h2;exact⟨[_],rfl,rfl,by simp[pack,hl]⟩
   cases c<;>first|exact absurd ⟨_,_,_,rfl⟩ Oj|skip
   all_goals simp only[pack]at h
   all_goals try(cases h;done)
   ·split at h
    ·rename_i e' l he
     subst he;simp only[Af,BC]at h;obtain⟨h1,h2⟩:=h;subst h1 h2;exact⟨[_],rfl,rfl,by simp[pack]⟩
    ·cases h
   ·simp only[Af,BC]at h
    obtain⟨h1,h2⟩:=h;subst h1 h2;exact⟨[_],rfl,rfl,rfl⟩
   ·split at h
    ·cases h
    ·rename_i l hl
     simp only[Af,BC]at h;obtain⟨h1,h2⟩:=h;subst h1 h2;exact⟨[_],rfl,rfl,by simp[pack,hl]⟩
   ·split at h
    ·cases h
    ·rename_i l hl
     simp only[Af,BC]at h;obtain⟨h1,h2⟩:=h;subst h1 h2;exact⟨[_],rfl,rfl,by simp[pack,hl]⟩
 where
 pack_append {bl:Nat->Option Blk}:∀{τ:Ty}{cs:List C}{x:τ.den}{r s:List C},pack bl τ cs=some (x,r)->pack bl τ (cs++s)=some (x,r++s)
 |.bool,cs,x,r,s,h=>by
  cases cs with
  |nil=>simp[pack]at h
  |cons c cs=>cases c<;>simp only[pack,Fw]at h⊢<;>first|(cases h;done)|(simp_all;done)
 |.int k,cs,x,r,s,h=>by
  cases cs with
  |nil=>simp[pack]at h
  |cons c cs=>
   cases c<;>simp only[pack,Fw]at h⊢<;>try(cases h;done)
   split at h
   ·rename_i hk;subst hk;simp_all
   ·cases h
 |.err,cs,x,r,s,h=>by
  cases cs with
  |nil=>simp[pack]at h
  |cons c cs=>cases c<;>simp only[pack,Fw]at h⊢<;>first|(cases h;done)|(simp_all;done)
 |.str,cs,x,r,s,h=>by
  cases cs with
  |nil=>simp[pack]at h
  |cons c cs=>cases c<;>simp only[pack,Fw]at h⊢<;>first|(cases h;done)|(simp_all;done)
 |.unit,cs,x,r,s,h=>by simp only[pack]at h⊢;simp_all
 |.prod a b,cs,x,r,s,h=>by
  simp only[pack]at h⊢;split at h
  ·cases h
  ·rename_i x1 r1 h1
   split at h
   ·cases h
   ·rename_i x2 r2 h2
    rw[pack_append h1];simp only;rw[pack_append h2]
    simp_all
 |.slice e,cs,x,r,s,h=>by
  cases cs with
  |nil=>simp[pack]at h
  |cons c cs=>
   rcases Classical.em (∃b ver p,c=.trow b ver p)with⟨b,ver,p,rfl⟩|Oj
   ·cases p with
    |cons _ _=>simp[pack]at h
    |nil=>
     simp only[pack,Fw]at h⊢;split at h
     ·cases h
     ·simp_all
   cases c<;>first|exact absurd ⟨_,_,_,rfl⟩ Oj|skip
   all_goals simp only[pack,Fw]at h⊢
   all_goals try(cases h;done)
   ·split at h
    ·rename_i e' l he;subst he;simp_all
    ·cases h
   ·simp_all
   ·split at h
    ·cases h
    ·simp_all
   ·split at h
    ·cases h
    ·simp_all
theorem FV{E E':Env}{ids AU:List Nat}(hb:DN E)(hw:E'.w=E.w)(hr:Ren E E' ids AU):∀{l:List CT}{cs:List C}{vs:List Value}{y:CT.dens l},Rows E E.bl E'.ok (Fh l cs)->CReps E cs vs->Bc E.bl ids l cs=some y->CReps E' (mkC AU l y) vs
 |[],cs,vs,y,AB,h,hp=>by
  cases cs with
  |nil=>exact h
  |cons c cs=>simp[Bc]at hp
 |.data τ::l,cs,vs,y,AB,h,hp=>by
  simp only[Bc]at hp;split at hp
  ·cases hp
  ·rename_i x r hx
   split at hp
   ·cases hp
   ·rename_i y' hy
    simp only[Af]at hp;subst hp;obtain⟨ds,e1,e2,e3⟩:=fX hx;subst e1
    have hd:Fh (.data τ::l) (ds++r)=Ct ds++Fh l r:=by simp only[Fh,<-e2,VJ,List.drop_left]
    rw[hd]at AB;obtain⟨us,ws,e,h1,h2⟩:=CReps.split h;subst e;obtain⟨us1,us2,e,d,c,_⟩:=MZ hb (AB.sub λb Dv=>Dl _ Dv) h1 e3;simp only[CReps]at c;subst c;rw[II]at e;subst e;exact CReps.append (Hv (by rw[hw];exact d)) (FV hb hw hr (AB.sub λb Dv=>D7 _ Dv) h2 hy)
 |.ptr b o::l,cs,vs,y,AB,h,hp=>by
  cases cs with
  |nil=>simp[Bc]at hp
  |cons c cs=>
   have CU:Rows E E.bl E'.ok (Fh l cs):=AB;cases c<;>simp only[Bc]at hp<;>try(cases hp;done)
   rename_i b' o';split at hp
   ·rename_i i hi
    cases hc:(Nat.beq i b'&&Nat.beq o o')with
    |false=>rw[hc]at hp;cases hp
    |true=>simp only[hc,Am]at hp;obtain⟨h1,h2⟩:=andB hc;have h1:=As h1;have h2:=As h2;subst h1 h2;obtain⟨v,Ap,e,⟨g,hg,hv⟩,ht⟩:=h;exact⟨v,Ap,e,⟨g,hr.cells b i g hi hg,hv⟩,FV hb hw hr CU ht hp⟩
   ·cases hp
 |.rowh b::l,cs,vs,y,AB,h,hp=>by
  cases cs with
  |nil=>simp[Bc]at hp
  |cons c cs=>
   have CU:Rows E E.bl E'.ok (Fh l cs):=AB;cases c<;>simp only[Bc]at hp<;>try(cases hp;done)
   ·split at hp
    ·rename_i i hi
     split at hp
     ·rename_i hn
      obtain⟨v,Ap,e,hv,ht⟩:=h;simp only[CRep]at hv;subst hv;exact⟨_,Ap,e,⟨rfl,_,_,hr.nil b i hi hn,λ_ _ _ _ _=>⟨DM _,λ_=>rfl⟩⟩,FV hb hw hr CU ht hp⟩
     ·cases hp
    ·cases hp
   ·rename_i b' ver
    split at hp
    ·rename_i i hi
     cases hc:Nat.beq i b' with
     |false=>rw[hc]at hp;cases hp
     |true=>
      have:=As hc;subst this;simp only[hc,Am]at hp;split at hp
      ·rename_i t e ver' l' Aj
       cases Cc:Nat.beq ver ver' with
       |false=>rw[Cc]at hp;cases hp
       |true=>have:=As Cc;subst this;simp only[Cc,Am]at hp;obtain⟨v,Ap,ev,⟨h1,sv,Ab,Aq,AT⟩,ht⟩:=h;have Dp:=(AT t e ver l' Aj).2 rfl;exact⟨v,Ap,ev,⟨h1,sv,Ab,hr.row b i sv Ab t e ver l' hi Aj Aq,λ_ _ _ _ _=>⟨DM _,λ_=>Dp⟩⟩,FV hb hw hr CU ht hp⟩
      ·cases hp
    ·cases hp
 |.fn f B4::l,cs,vs,y,AB,h,hp=>by
  cases cs with
  |nil=>simp[Bc]at hp
  |cons c cs=>
   have CU:Rows E E.bl E'.ok (Fh l cs):=AB;cases c<;>simp only[Bc]at hp<;>try(cases hp;done)
   rename_i f' Hk;cases hc:(Nat.beq f f'&&decide (B4.map (ids[·]?)=Hk.map some))with
   |false=>rw[hc]at hp;cases hp
   |true=>simp only[hc,Am]at hp;obtain⟨h1,h2⟩:=andB hc;have h1:=As h1;have h2:=AV h2;subst h1;obtain⟨v,Ap,e,⟨gs,hg,hv⟩,ht⟩:=h;refine⟨v,Ap,e,⟨gs,?_,hv⟩,FV hb hw hr CU ht hp⟩;exact eX hr B4 Hk gs h2 hg
 |.bfnh f b::l,cs,vs,y,AB,h,hp=>by
  cases cs with
  |nil=>simp[Bc]at hp
  |cons c cs=>
   have CU:Rows E E.bl E'.ok (Fh l cs):=AB;cases c<;>simp only[Bc]at hp<;>try(cases hp;done)
   rename_i f' b';split at hp
   ·rename_i i hi
    cases hc:(Nat.beq f f'&&Nat.beq i b')with
    |false=>rw[hc]at hp;cases hp
    |true=>simp only[hc,Am]at hp;obtain⟨h1,h2⟩:=andB hc;have h1:=As h1;have h2:=As h2;subst h1;subst h2;obtain⟨v,Ap,e,⟨g,hg,hv⟩,ht⟩:=h;exact⟨v,Ap,e,⟨g,hr.cells b i g hi hg,hv⟩,FV hb hw hr CU ht hp⟩
   ·cases hp
 |.bself b::l,cs,vs,y,AB,h,hp=>by
  cases cs with
  |nil=>simp[Bc]at hp
  |cons c cs=>
   have CU:Rows E E.bl E'.ok (Fh l cs):=AB;cases c<;>simp only[Bc]at hp<;>try(cases hp;done)
   ·obtain⟨v,Ap,e,hv,ht⟩:=h
    exact⟨v,Ap,e,.inl hv,FV hb hw hr CU ht hp⟩
   ·rename_i b'
    split at hp
    ·rename_i i hi
     cases hc:Nat.beq i b' with
     |false=>rw[hc]at hp;cases hp
     |true=>
      simp only[hc,Am]at hp;have h1:=As hc;subst h1;obtain⟨v,Ap,e,hg,ht⟩:=h;refine⟨v,Ap,e,?_,FV hb hw hr CU ht hp⟩;rcases hg with hg|⟨g,hg,hv⟩
      ·exact .inl hg
      ·exact .inr ⟨g,hr.cells b i g hi hg,hv⟩
    ·cases hp
 |.maph b::l,cs,vs,y,AB,h,hp=>by
  cases cs with
  |nil=>simp[Bc]at hp
  |cons c cs=>
   have CU:Rows E E.bl E'.ok (Fh l cs):=AB;cases c<;>simp only[Bc]at hp<;>try(cases hp;done)
   rename_i b';split at hp
   ·rename_i i hi
    cases hc:Nat.beq i b' with
    |false=>rw[hc]at hp;cases hp
    |true=>simp only[hc,Am]at hp;have h1:=As hc;subst h1;obtain⟨v,Ap,e,⟨g,hg,hv⟩,ht⟩:=h;exact⟨v,Ap,e,⟨g,hr.cells b i g hi hg,hv⟩,FV hb hw hr CU ht hp⟩
   ·cases hp
 |.math b::l,cs,vs,y,AB,h,hp=>by
  cases cs with
  |nil=>simp[Bc]at hp
  |cons c cs=>
   have CU:Rows E E.bl E'.ok (Fh l cs):=AB;cases c<;>simp only[Bc]at hp<;>try(cases hp;done)
   ·split at hp
    ·rename_i i hi
     split at hp
     ·rename_i hn
      obtain⟨v,Ap,e,hv,ht⟩:=h;simp only[CRep]at hv;subst hv;exact⟨_,Ap,e,⟨rfl,_,_,hr.nil b i hi hn,λ_ _ _ _ _ _ _ _=>⟨DM _,λ_=>rfl⟩⟩,FV hb hw hr CU ht hp⟩
     ·cases hp
    ·cases hp
   ·rename_i b' ver
    split at hp
    ·rename_i i hi
     cases hc:Nat.beq i b' with
     |false=>rw[hc]at hp;cases hp
     |true=>
      have:=As hc;subst this;simp only[hc,Am]at hp;split at hp
      ·rename_i t et e ver' Ag l' Aj
       cases Cc:Nat.beq ver ver' with
       |false=>rw[Cc]at hp;cases hp
       |true=>have:=As Cc;subst this;simp only[Cc,Am]at hp;obtain⟨v,Ap,ev,⟨h1,sv,Ab,Aq,AT⟩,ht⟩:=h;have Dp:=(AT _ _ _ _ _ _ _ Aj).2 rfl;exact⟨v,Ap,ev,⟨h1,sv,Ab,hr.mat b i sv Ab _ _ _ _ _ _ _ hi Aj Aq,λ_ _ _ _ _ _ _ _=>⟨DM _,λ_=>Dp⟩⟩,FV hb hw hr CU ht hp⟩
      ·cases hp
    ·cases hp
 |.tptrh b ks o::l,cs,vs,y,AB,h,hp=>by
  cases cs with
  |nil=>simp[Bc]at hp
  |cons c cs=>
   have CU:Rows E E.bl E'.ok (Fh l cs):=AB;cases c<;>simp only[Bc]at hp<;>try(cases hp;done)
   rename_i b' ver p ix o';split at hp
   ·rename_i i hi
    cases hc:(Nat.beq i b'&&Nat.beq o o')with
    |false=>rw[hc]at hp;cases hp
    |true=>
     rw[hc,Am]at hp;obtain⟨h1,h2⟩:=andB hc;have h1:=As h1;have h2:=As h2;subst h1 h2;split at hp
     ·rename_i t e ver' Bp l' Aj
      cases Cc:Nat.beq ver (tv ver' Bp p)with
      |false=>rw[Cc]at hp;cases hp
      |true=>
       have:=As Cc;subst this;rw[Cc,Am]at hp;split at hp
       ·rename_i x hx
        split at hp
        ·rename_i y' hy
         simp only[Af]at hp;subst hp;obtain⟨w1,w2⟩:=eY hx;obtain⟨v,Ap,ev,⟨sv,Ab,ad,Aq,uU,AT⟩,ht⟩:=h;refine⟨v,Ap,ev,⟨sv,Ab,ad,hr.tree b i sv Ab _ _ _ _ _ hi Aj Aq,uU,λt2 e2 Ij QA Qv l2 Ah=>?_⟩,FV hb hw hr CU ht hy⟩;have:=hr.treeB b i _ _ _ _ _ _ _ _ _ _ _ hi Aj Ah;injection this with q1 q2 q3 q4 q5 q6;subst q1 q2 q3 q4 q5;simp only[In]at q6;subst q6;rw[w1,w2];exact⟨DM _,λ_ _=>(AT _ _ _ _ _ _ Aj).2 rfl λ_ h=>by cases h⟩
        ·cases hp
       ·cases hp
     ·cases hp
   ·cases hp
 |.trowh b::l,cs,vs,y,AB,h,hp=>by
  cases cs with
  |nil=>simp[Bc]at hp
  |cons c cs=>
   have CU:Rows E E.bl E'.ok (Fh l cs):=AB;rcases Classical.em (∃b ver p,c=.trow b ver p)with⟨b',ver,p,rfl⟩|Oj
   ·cases p with
    |cons _ _=>simp[Bc]at hp
    |nil=>
     simp only[Bc]at hp;split at hp
     ·rename_i i hi
      cases hc:Nat.beq i b' with
      |false=>rw[hc]at hp;cases hp
      |true=>
       have:=As hc;subst this;simp only[hc,Am]at hp;split at hp
       ·rename_i t e ver' Ag l' Aj
        cases Cc:Nat.beq ver ver' with
        |false=>rw[Cc]at hp;cases hp
        |true=>have:=As Cc;subst this;simp only[Cc,Am]at hp;obtain⟨v,Ap,ev,hv,ht⟩:=h;obtain⟨Ab,Aq,_⟩:=Wk hb Aj hv;exact⟨v,Ap,ev,⟨hv.1,v,Ab,hr.tree b i v Ab _ _ _ _ _ hi Aj Aq,λ_ _ _ _ _ _ _=>⟨DM _,λ_ _=>⟨_,rfl,rfl⟩⟩⟩,FV hb hw hr CU ht hp⟩
       ·cases hp
     ·cases hp
   cases c<;>first|exact absurd ⟨_,_,_,rfl⟩ Oj|skip
   all_goals simp only[Bc]at hp
   all_goals try(cases hp;done)
   split at hp
   ·rename_i i hi
    split at hp
    ·rename_i hn
     obtain⟨v,Ap,e,hv,ht⟩:=h;simp only[CRep]at hv;subst hv;exact⟨_,Ap,e,⟨rfl,_,_,hr.nil b i hi hn,λ_ _ _ _ _ _ _=>⟨DM _,λ_ _=>⟨_,rfl,rfl⟩⟩⟩,FV hb hw hr CU ht hp⟩
    ·cases hp
   ·cases hp
 |.nilc::l,cs,vs,y,AB,h,hp=>by
  cases cs with
  |nil=>simp[Bc]at hp
  |cons c cs=>cases c<;>simp[Bc]at hp
 |.lsome _::l,cs,vs,y,AB,h,hp=>by
  cases cs with
  |nil=>simp[Bc]at hp
  |cons c cs=>cases c<;>simp[Bc]at hp
 |.nils::l,cs,vs,y,AB,h,hp=>by
  cases cs with
  |nil=>simp[Bc]at hp
  |cons c cs=>
   have CU:Rows E E.bl E'.ok (Fh l cs):=AB;cases c<;>simp only[Bc]at hp<;>first|(cases hp;done)|skip
   obtain⟨v,Ap,e,hv,ht⟩:=h;exact⟨v,Ap,e,hv,FV hb hw hr CU ht hp⟩
 |.junk::l,cs,vs,y,AB,h,hp=>by
  cases cs with
  |nil=>simp[Bc]at hp
  |cons c cs=>have CU:Rows E E.bl E'.ok (Fh l cs):=AB;simp only[Bc]at hp;obtain⟨v,Ap,e,hv,ht⟩:=h;exact⟨v,Ap,e,CRep.oneCell hv,FV hb hw hr CU ht hp⟩
theorem fZ{E E':Env}{ids AU:List Nat}(hb:DN E)(hw:E'.w=E.w)(hr:Ren E E' ids AU):∀{l:List (Bool×List CT)}{vs:List V}{us:List Value}{y:ST.dens l},Rows E E.bl E'.ok (Fx l vs)->VReps E vs us->G6 E.bl ids l vs=some y->TReps E' (mkS AU l y) us
 |[],vs,us,y,AB,h,hp=>by
  cases vs with
  |nil=>exact h
  |cons v vs=>simp[G6]at hp
 |t::l,vs,us,y,AB,h,hp=>by
  cases vs with
  |nil=>simp[G6]at hp
  |cons v vs=>
   obtain⟨u,C4,e,hv,ht⟩:=h;obtain⟨agg,ct⟩:=t;cases agg with
   |false=>
    cases v<;>simp only[G6]at hp<;>try(cases hp;done)
    rename_i x;split at hp
    ·cases hp
    ·rename_i y1 h1
     split at hp
     ·cases hp
     ·rename_i z h2
      simp only[Af]at hp;subst hp;have Fs:Fx ((false,ct)::l) (V.c x::vs)=Fh ct [x]++Fx l vs:=rfl;rw[Fs]at AB;refine⟨u,C4,e,⟨[u],?_,by simp⟩,fZ hb hw hr (AB.sub λb Dv=>D7 _ Dv) ht h2⟩;exact FV hb hw hr (AB.sub λb Dv=>Dl _ Dv) (show CReps E [x] [u]from⟨u,[],rfl,hv,rfl⟩) h1
   |true=>
    cases v<;>simp only[G6]at hp<;>try(cases hp;done)
    rename_i cs;split at hp
    ·cases hp
    ·rename_i y1 h1
     split at hp
     ·cases hp
     ·rename_i z h2
      simp only[Af]at hp;subst hp;have Fs:Fx ((true,ct)::l) (V.agg cs::vs)=Fh ct cs++Fx l vs:=rfl;rw[Fs]at AB;obtain⟨xs,Ae,hu⟩:=hv;refine⟨u,C4,e,⟨xs,?_,hu⟩,fZ hb hw hr (AB.sub λb Dv=>D7 _ Dv) ht h2⟩;exact FV hb hw hr (AB.sub λb Dv=>Dl _ Dv) Ae h1
def plOf(E:Env)(i:Nat):Pl:=
 match E.bl i with
 |some _=>(E.pl i).getD (.row (.slice none 0 0) [])
 |none=>.row (.slice none 0 0) []
theorem JY{E E':Env}{ids AU:List Nat}(hb:DN E)(hw:E'.w=E.w)(BR:E'.base=E.base)(hr:Ren E E' ids AU)(Gv:∀g,E.ok g->E'.ok g):∀{l:List BT}{is:List Nat}{y:BT.dens l},Rows E E.bl E'.ok (Ey E.bl l is)->CF E.bl ids l is=some y->is.length=l.length/\∀(j i:Nat),is[j]?=some i->∃B,(mkB AU l y)[j]?=some B/\BRep E' B (plOf E i)/\(∀B0,E.bl i=some B0->B0.live=true)
 |[],is,y,AB,hp=>by
  cases is with
  |nil=>exact⟨rfl,λj i h=>by simp at h⟩
  |cons i is=>simp[CF]at hp
 |.row t e::r,is,y,AB,hp=>by
  cases is with
  |nil=>simp[CF]at hp
  |cons i is=>
   have CU:Rows E E.bl E'.ok (Ey E.bl r is):=AB;simp only[CF]at hp;split at hp
   ·rename_i t' e' ver l Aj
    cases ht:Nat.beq t t' with
    |false=>rw[ht]at hp;cases hp
    |true=>
     have:=As ht;subst this;simp only[ht,Am]at hp;split at hp
     ·rename_i he
      subst he;split at hp
      ·cases hp
      ·rename_i z h2
       simp only[Af]at hp;subst hp;obtain⟨hl,DE⟩:=JY hb hw BR hr Gv CU h2;refine⟨by simp[hl],λj k hj=>?_⟩;cases j with
       |zero=>
        simp only[D1,Af]at hj;subst hj;refine⟨_,rfl,?_,λB0 h0=>by rw[Aj]at h0;injection h0 with h0;subst h0;rfl⟩;obtain⟨p,Dh,hB⟩:=hb i _ Aj;have Be:plOf E i=p:=by simp[plOf,Aj,Dh]
        rw[Be];cases p with
        |cells _=>exact hB.elim
        |row sv Ab=>obtain⟨h0,xs,h3,h4⟩:=hB;refine⟨h0,xs,h3.mono λx u hu=>?_,by rw[hw,BR];exact h4⟩;rw[hw];exact hu.mono λg hg _=>⟨Gv g hg,rfl⟩
       |succ j=>obtain⟨B,h3,h4⟩:=DE j k (by simpa using hj);exact⟨B,by simpa [mkB]using h3,h4⟩
     ·cases hp
   ·rename_i Aj
    split at hp
    ·cases hp
    ·rename_i z h2
     simp only[Af]at hp;subst hp;obtain⟨hl,DE⟩:=JY hb hw BR hr Gv CU h2;refine⟨by simp[hl],λj k hj=>?_⟩;cases j with
     |zero=>
      simp only[D1,Af]at hj;subst hj;refine⟨_,rfl,?_,λB0 h0=>by rw[Aj]at h0;cases h0⟩;have Be:plOf E i=.row (.slice none 0 0) []:=by simp[plOf,Aj]
      rw[Be];exact⟨rfl,[],rfl,by simp,.inl ⟨rfl,rfl⟩⟩
     |succ j=>obtain⟨B,h3,h4⟩:=DE j k (by simpa using hj);exact⟨B,by simpa [mkB]using h3,h4⟩
   ·cases hp
 |.mat t et e::r,is,y,AB,hp=>by
  cases is with
  |nil=>simp[CF]at hp
  |cons i is=>
   have CU:Rows E E.bl E'.ok (Ey E.bl r is):=AB;simp only[CF]at hp;split at hp
   ·rename_i t' Un e' ver Ag l Aj
    cases ht:(Nat.beq t t'&&Nat.beq et Un)with
    |false=>rw[ht]at hp;cases hp
    |true=>
     obtain⟨UR,US⟩:=andB ht;have:=As UR;subst this;have:=As US;subst this;simp only[ht,Am]at hp;split at hp
     ·rename_i he
      subst he;split at hp
      ·cases hp
      ·rename_i z h2
       simp only[Af]at hp;subst hp;obtain⟨hl,DE⟩:=JY hb hw BR hr Gv CU h2;refine⟨by simp[hl],λj k hj=>?_⟩;cases j with
       |zero=>
        simp only[D1,Af]at hj;subst hj;refine⟨_,rfl,?_,λB0 h0=>by rw[Aj]at h0;injection h0 with h0;subst h0;rfl⟩;obtain⟨p,Dh,hB⟩:=hb i _ Aj;have Be:plOf E i=p:=by simp[plOf,Aj,Dh]
        rw[Be];cases p with
        |cells _=>exact hB.elim
        |row sv Ab=>have hM:MatOk E t et e' none l sv Ab:=hB;obtain⟨vs,h3,h4⟩:=hM.outer;refine⟨⟨vs,by rw[hw,BR];exact h3,h4⟩,hM.len,hM.hole,λi s x hs hx=>?_,hM.sep0,hM.sep⟩;obtain⟨xs,h5,h6⟩:=hM.inner i s x hs hx;refine⟨xs,h5.mono λx u hu=>?_,by rw[hw,BR];exact h6⟩;rw[hw];exact hu.mono λg hg _=>⟨Gv g hg,rfl⟩
       |succ j=>obtain⟨B,h3,h4⟩:=DE j k (by simpa using hj);exact⟨B,by simpa [mkB]using h3,h4⟩
     ·cases hp
   ·rename_i Aj
    split at hp
    ·cases hp
    ·rename_i z h2
     simp only[Af]at hp;subst hp;obtain⟨hl,DE⟩:=JY hb hw BR hr Gv CU h2;refine⟨by simp[hl],λj k hj=>?_⟩;cases j with
     |zero=>
      simp only[D1,Af]at hj;subst hj;refine⟨_,rfl,?_,λB0 h0=>by rw[Aj]at h0;cases h0⟩;have Be:plOf E i=.row (.slice none 0 0) []:=by simp[plOf,Aj]
      rw[Be];exact MatOk.nil E' t et e
     |succ j=>obtain⟨B,h3,h4⟩:=DE j k (by simpa using hj);exact⟨B,by simpa [mkB]using h3,h4⟩
   ·cases hp
 |.tree t e::r,is,y,AB,hp=>by
  cases is with
  |nil=>simp[CF]at hp
  |cons i is=>
   have CU:Rows E E.bl E'.ok (Ey E.bl r is):=AB;simp only[CF]at hp;split at hp
   ·rename_i t' e' ver Ag l Aj
    cases ht:Nat.beq t t' with
    |false=>rw[ht]at hp;cases hp
    |true=>
     have:=As ht;subst this;simp only[ht,Am]at hp;split at hp
     ·rename_i he
      subst he;split at hp
      ·cases hp
      ·rename_i z h2
       simp only[Af]at hp;subst hp;obtain⟨hl,DE⟩:=JY hb hw BR hr Gv CU h2;refine⟨by simp[hl],λj k hj=>?_⟩;cases j with
       |zero=>
        simp only[D1,Af]at hj;subst hj;refine⟨_,rfl,?_,λB0 h0=>by rw[Aj]at h0;injection h0 with h0;subst h0;rfl⟩;obtain⟨p,Dh,hB⟩:=hb i _ Aj;have Be:plOf E i=p:=by simp[plOf,Aj,Dh]
        rw[Be];cases p with
        |cells _=>exact hB.elim
        |row sv Ab=>have hT:TreeOk E t e' none l sv Ab:=hB;obtain⟨hv,F,h3,h4,h5⟩:=hT.rep;refine⟨⟨hv,F,?_,h4,h5⟩,hT.top⟩;rw[hw];exact h3.ren (by rw[BR];exact AC _) λτ x us hu=>hu.mono λg hg _=>⟨Gv g hg,rfl⟩
       |succ j=>obtain⟨B,h3,h4⟩:=DE j k (by simpa using hj);exact⟨B,by simpa [mkB]using h3,h4⟩
     ·cases hp
   ·rename_i Aj
    split at hp
    ·cases hp
    ·rename_i z h2
     simp only[Af]at hp;subst hp;obtain⟨hl,DE⟩:=JY hb hw BR hr Gv CU h2;refine⟨by simp[hl],λj k hj=>?_⟩;cases j with
     |zero=>
      simp only[D1,Af]at hj;subst hj;refine⟨_,rfl,?_,λB0 h0=>by rw[Aj]at h0;cases h0⟩;have Be:plOf E i=.row (.slice none 0 0) []:=by simp[plOf,Aj]
      rw[Be];exact⟨⟨.slice none 0 0,[],⟨_,[],[],rfl,rfl,World.ownsRow_nil _ _ _ _,rfl,rfl⟩,rfl,by simp⟩,by simp⟩
     |succ j=>obtain⟨B,h3,h4⟩:=DE j k (by simpa using hj);exact⟨B,by simpa [mkB]using h3,h4⟩
   ·cases hp
 |.map t k v vg::r,is,y,AB,hp=>by
  cases is with
  |nil=>simp[CF]at hp
  |cons i is=>
   have CU:Rows E E.bl E'.ok (Ey E.bl r is):=AB;simp only[CF]at hp;split at hp
   ·rename_i t' k' v' QO l Aj
    cases ht:(Nat.beq t t'&&(vg==QO))with
    |false=>rw[ht]at hp;cases hp
    |true=>
     obtain⟨UR,US⟩:=andB ht;have:=As UR;subst this;have:vg=QO:=by simpa using US
     subst this;simp only[ht,Am]at hp;split at hp
     ·rename_i he
      subst he;split at hp
      ·rename_i he
       subst he;split at hp
       ·cases hp
       ·rename_i z h2
        simp only[Af]at hp;subst hp;obtain⟨hl,DE⟩:=JY hb hw BR hr Gv CU h2;refine⟨by simp[hl],λj k hj=>?_⟩;cases j with
        |zero=>
         simp only[D1,Af]at hj;subst hj;refine⟨_,rfl,?_,λB0 h0=>by rw[Aj]at h0;injection h0 with h0;subst h0;rfl⟩;obtain⟨p,Dh,hB⟩:=hb i _ Aj;have Be:plOf E i=p:=by simp[plOf,Aj,Dh]
         rw[Be];cases p with
         |row _ _=>exact hB.elim
         |cells g=>
          obtain⟨es,C8,h3,h4⟩:=hB;refine⟨es,C8,by rw[hw];exact h3,h4.mono (λx u hu=>?_) (λx u hu=>?_)⟩
          ·rw[hw]
           exact hu.mono λg hg _=>⟨Gv g hg,rfl⟩
          ·rw[hw]
           exact hu.mono λg hg _=>⟨Gv g hg,rfl⟩
        |succ j=>obtain⟨B,h3,h4⟩:=DE j k (by simpa using hj);exact⟨B,by simpa [mkB]using h3,h4⟩
      ·cases hp
     ·cases hp
   ·cases hp
 |.fmap t l::r,is,y,AB,hp=>by
  cases is with
  |nil=>simp[CF]at hp
  |cons i is=>
   have CU:Rows E E.bl E'.ok (Ey E.bl r is):=AB;simp only[CF]at hp;split at hp
   ·rename_i t' l' Aj
    cases ht:(Nat.beq t t'&&fEq ids l l')with
    |false=>rw[ht]at hp;cases hp
    |true=>
     rw[ht,Am]at hp;obtain⟨UR,US⟩:=andB ht;have:=As UR;subst this;obtain⟨hl,DE⟩:=JY hb hw BR hr Gv CU hp;refine⟨by simp[hl],λj k hj=>?_⟩;cases j with
     |zero=>
      simp only[D1,Af]at hj;subst hj;refine⟨_,rfl,?_,λB0 h0=>by rw[Aj]at h0;injection h0 with h0;subst h0;rfl⟩;obtain⟨p,Dh,hB⟩:=hb i _ Aj;have Be:plOf E i=p:=by simp[plOf,Aj,Dh]
      rw[Be];cases p with
      |row _ _=>exact hB.elim
      |cells g=>
       obtain⟨es,C8,hh,hm⟩:=hB;refine⟨es,C8,by rw[hw];exact hh,?_⟩
       have key:∀{l l':List (List UInt8×(FuncId×Nat))}{es:List MapEntry},fEq ids l l'=true->FRep E l' es->FRep E' (fIds AU l) es:=by
        intro l
        induction l with
        |nil=>intro l' es he h;cases l' with
         |nil=>exact h
         |cons _ _=>cases he
        |cons x l ih=>
         intro l' es he h;cases l' with
         |nil=>cases he
         |cons z l'=>
          obtain⟨AhZ,I1⟩:=andB (show((decide (x.1=z.1)&&(Nat.beq x.2.1 z.2.1&&(match ids[x.2.2]? with|some i=>Nat.beq i z.2.2|none=>false)))&&fEq ids l l')=true from he);obtain⟨My,Uz⟩:=andB AhZ;obtain⟨Uz,U0⟩:=andB Uz;have My:=AV My;have Uz:=As Uz;split at U0
          ·rename_i i' NV
           have U0:=As U0;subst U0;obtain⟨e,r,g,q1,q2,q3,q4,q5⟩:=h;exact⟨e,r,g,q1,by rw[q2];show _=Value.string ⟨x.1.toArray⟩;rw[My],hr.cells x.2.2 _ g NV q3,by rw[q4];show _=Value.func (.func x.2.1) _ _;rw[Uz],ih I1 q5⟩
          ·cases U0
       exact key US hm
     |succ j=>obtain⟨B,h3,h4⟩:=DE j k (by simpa using hj);exact⟨B,by simpa [mkB]using h3,h4⟩
   ·cases hp
 |.cells t l::r,is,y,AB,hp=>by
  cases is with
  |nil=>simp[CF]at hp
  |cons i is=>
   simp only[CF]at hp;split at hp
   ·rename_i t' cs Aj
    cases ht:Nat.beq t t' with
    |false=>rw[ht]at hp;cases hp
    |true=>
     have:=As ht;subst this;simp only[ht,Am]at hp;split at hp
     ·cases hp
     ·rename_i y1 h1
      split at hp
      ·cases hp
      ·rename_i z h2
       simp only[Af]at hp;subst hp;have Fs:Ey E.bl (.cells t l::r) (i::is)=Fh l cs++Ey E.bl r is:=by simp[Ey,Aj]
       rw[Fs]at AB;obtain⟨hl,DE⟩:=JY hb hw BR hr Gv (AB.sub λb Dv=>D7 _ Dv) h2;refine⟨by simp[hl],λj k hj=>?_⟩;cases j with
       |zero=>
        simp only[D1,Af]at hj;subst hj;refine⟨_,rfl,?_,λB0 h0=>by rw[Aj]at h0;injection h0 with h0;subst h0;rfl⟩;obtain⟨p,Dh,hB⟩:=hb i _ Aj;have Be:plOf E i=p:=by simp[plOf,Aj,Dh]
        rw[Be];cases p with
        |row _ _=>exact hB.elim
        |cells g=>obtain⟨vs,hh,CH⟩:=hB;refine⟨vs,by rw[hw];exact hh,?_⟩;exact FV hb hw hr (AB.sub λb Dv=>Dl _ Dv) CH h1
       |succ j=>obtain⟨B,h3,h4⟩:=DE j k (by simpa using hj);exact⟨B,by simpa [mkB]using h3,h4⟩
   ·cases hp
theorem zD{E:Env}{tm:List (Nat×V)}{tmps:Array Value}(h:∀t v,look tm t=some v->VRep E v (tmps.getD t undef)):∀{l:List Nat}{vs:List V},Pv tm l=some vs->VReps E vs (l.map λt=>tmps.getD t undef)
 |[],vs,hl=>by simp only[Pv,Af]at hl;subst hl;rfl
 |t::l,vs,hl=>by
  simp only[Pv]at hl;split at hl
  ·rename_i v hv
   split at hl
   ·rename_i Ap Dp
    simp only[Af]at hl;subst hl;exact⟨_,_,rfl,h t v hv,zD h Dp⟩
   ·cases hl
  ·cases hl
theorem zF{E:Env}{ids:List Nat}{tmps:Array Value}:∀{slots:List Nat}{l:List (Bool×List CT)}{x:ST.dens l},TReps E (mkS ids l x) (slots.map λt=>tmps.getD t undef)->∀t v,look (mkT ids slots l x) t=some v->VRep E v (tmps.getD t undef)
 |[],_,_,_,t,v,h=>by simp[mkT,EB,Ex]at h
 |_::_,[],_,_,t,v,h=>by simp[mkT,EB,Ex]at h
 |s::ss,p::l,x,hr,t,v,h=>by
  obtain⟨u,us,e,h1,h2⟩:=hr;simp only[CE,De]at e;obtain⟨e1,e2⟩:=e;subst e1 e2;simp only[mkT,EB,Ex]at h;by_cases FN:t=s
  ·subst FN
   rw[MS,Am,Af]at h;subst h;exact VRep.mk h1
  ·rw[HH FN,Cj]at h
   exact zF h2 t v h
theorem zG:∀{a b:List Nat},Nh a b=true->a=b
 |[],[],_=>rfl
 |x::r,y::s,h=>by simp only[Nh,C5]at h;rw[As h.1,zG h.2]
 |[],_::_,h=>by simp[Nh]at h
 |_::_,[],h=>by simp[Nh]at h
def BT.stands(B:Option Blk)(B':Blk):BT->Prop
 |.row t e=>B=none\/∃ver l,B=some (.row t e ver l)
 |.tree t e=>B=none\/∃ver Ag l,B=some (.tree t e ver Ag none l)/\B'=.tree t e 0 0 none l
 |_=>∀t e ver Ag h l,B'≠.tree t e ver Ag h l
theorem gA{bl:Nat->Option Blk}{ids:List Nat}(ids2:List Nat){t:BT}{r:List BT}{i:Nat}{js:List Nat}{y:BT.dens (t::r)}(h:CF bl ids (t::r) (i::js)=some y):(∃z,CF bl ids r js=some z/\∃B',mkB ids2 (t::r) y=B'::mkB ids2 r z/\BT.stands (bl i) B' t)/\∀B,bl i=some B->B.live=true:=by
 cases t with
 |cells t l=>
  simp only[CF]at h;split at h
  ·rename_i t' cs hb
   cases ht:Nat.beq t _ with
   |false=>rw[ht]at h;cases h
   |true=>
    rw[ht,Am]at h;split at h
    ·cases h
    ·split at h
     ·cases h
     ·rename_i z hz
      simp only[Af]at h;subst h;exact⟨⟨z,hz,_,rfl,λ_ _ _ _ _ _ h=>by cases h⟩,λB hB=>by rw[hb]at hB;injection hB with hB;subst hB;rfl⟩
  ·cases h
 |row t e=>
  simp only[CF]at h;split at h
  ·rename_i t' e' ver l hb
   cases ht:Nat.beq t t' with
   |false=>rw[ht]at h;cases h
   |true=>
    rw[ht,Am]at h;split at h
    ·rename_i he
     subst he;have:=As ht;subst this;split at h
     ·cases h
     ·rename_i z hz
      simp only[Af]at h;subst h;exact⟨⟨z,hz,_,rfl,.inr ⟨ver,l,hb⟩⟩,λB hB=>by rw[hb]at hB;injection hB with hB;subst hB;rfl⟩
    ·cases h
  ·rename_i hb
   split at h
   ·cases h
   ·rename_i z hz
    simp only[Af]at h;subst h;exact⟨⟨z,hz,_,rfl,.inl hb⟩,λB hB=>by rw[hb]at hB;cases hB⟩
  ·cases h
 |tree t e=>
  simp only[CF]at h;split at h
  ·rename_i t' e' ver Ag l hb
   cases ht:Nat.beq t t' with
   |false=>rw[ht]at h;cases h
   |true=>
    rw[ht,Am]at h;split at h
    ·rename_i he
     subst he;have:=As ht;subst this;split at h
     ·cases h
     ·rename_i z hz
      simp only[Af]at h;subst h;exact⟨⟨z,hz,_,rfl,.inr ⟨ver,Ag,l,hb,rfl⟩⟩,λB hB=>by rw[hb]at hB;injection hB with hB;subst hB;rfl⟩
    ·cases h
  ·rename_i hb
   split at h
   ·cases h
   ·rename_i z hz
    simp only[Af]at h;subst h;exact⟨⟨z,hz,_,rfl,.inl hb⟩,λB hB=>by rw[hb]at hB;cases hB⟩
  ·cases h
 |map t k v vg=>
  simp only[CF]at h;split at h
  ·rename_i t' k' v' QO l hb
   cases ht:(Nat.beq t t'&&(vg==QO))with
   |false=>rw[ht]at h;cases h
   |true=>
    rw[ht,Am]at h;split at h
    ·split at h
     ·split at h
      ·cases h
      ·rename_i z hz
       simp only[Af]at h;subst h;exact⟨⟨z,hz,_,rfl,λ_ _ _ _ _ _ h=>by cases h⟩,λB hB=>by rw[hb]at hB;injection hB with hB;subst hB;rfl⟩
     ·cases h
    ·cases h
  ·cases h
 |fmap t l=>
  simp only[CF]at h;split at h
  ·rename_i t' l' hb
   cases ht:(Nat.beq t t'&&fEq ids l l')with
   |false=>rw[ht]at h;cases h
   |true=>rw[ht,Am]at h;exact⟨⟨y,h,_,rfl,λ_ _ _ _ _ _ h=>by cases h⟩,λB hB=>by rw[hb]at hB;injection hB with hB;subst hB;rfl⟩
  ·cases h
 |mat t et e=>
  simp only[CF]at h;split at h
  ·rename_i t' Un e' ver Ag l hb
   cases ht:(Nat.beq t t'&&Nat.beq et Un)with
   |false=>rw[ht]at h;cases h
   |true=>
    rw[ht,Am]at h;split at h
    ·split at h
     ·cases h
     ·rename_i z hz
      simp only[Af]at h;subst h;exact⟨⟨z,hz,_,rfl,λ_ _ _ _ _ _ h=>by cases h⟩,λB hB=>by rw[hb]at hB;injection hB with hB;subst hB;rfl⟩
    ·cases h
  ·rename_i hb
   split at h
   ·cases h
   ·rename_i z hz
    simp only[Af]at h;subst h;exact⟨⟨z,hz,_,rfl,λ_ _ _ _ _ _ h=>by cases h⟩,λB hB=>by rw[hb]at hB;cases hB⟩
  ·cases h
theorem gB{bl:Nat->Option Blk}{ids ids2:List Nat}:∀{is:List BT}{js:List Nat}{y:BT.dens is},CF bl ids is js=some y->js.length=is.length/\(∀i∈js,∀B,bl i=some B->B.live=true)/\∀(j i:Nat)(t e:_)(ver Ag:Nat)(l:List e.ty.den)(t' e':_)(ver' Bp:Nat)(h':Option Path)(l':List e'.ty.den),js[j]?=some i->bl i=some (.tree t e ver Ag none l)->(mkB ids2 is y)[j]?=some (.tree t' e' ver' Bp h' l')->Blk.tree t' e' ver' Bp h' l'=.tree t e 0 0 none l
 |[],js,y,h=>by
  cases js with
  |nil=>exact⟨rfl,λi hi=>by simp at hi,λj i t e ver Ag l t' e' ver' Bp h' l' hj=>by simp at hj⟩
  |cons _ _=>simp[CF]at h
 |t::is,[],y,h=>by cases t<;>simp[CF]at h
 |t::is,k::js,y,h=>by
  obtain⟨⟨z,hz,B',hB',hs⟩,hl⟩:=gA ids2 h;obtain⟨i1,i2,i3⟩:=gB (ids2:=ids2) hz;refine⟨by simp[i1],λi hi B hB=>?_,λj i t0 e ver Ag l t' e' ver' Bp h' l' hj hb hm=>?_⟩
  ·rcases Bf.1 hi with rfl|hi
   ·exact hl B hB
   ·exact i2 i hi B hB
  ·rw[hB']at hm
   cases j with
   |succ j=>exact i3 j i t0 e ver Ag l t' e' ver' Bp h' l' (by simpa using hj) hb (by simpa using hm)
   |zero=>
    simp only[D1,Af]at hj hm;subst hj hm;rw[hb]at hs;cases t with
    |tree t1 e1=>
     rcases hs with hs|⟨v1,v2,l1,hs,AS⟩
     ·cases hs
     ·injection hs with hs
      injection hs with q1 q2 q3 q4 q5 q6;subst q1 q2;simp only[In]at q6;subst q6;exact AS
    |row t1 e1=>rcases hs with hs|⟨_,_,hs⟩<;>cases hs
    |cells _ _=>exact absurd rfl (hs _ _ _ _ _ _)
    |map _ _ _ _=>exact absurd rfl (hs _ _ _ _ _ _)
    |mat _ _ _=>exact absurd rfl (hs _ _ _ _ _ _)
    |fmap _ _=>exact absurd rfl (hs _ _ _ _ _ _)
def envR{P:Program}(ok0:OK0 P)(base:Nat)(pl:Nat->Option Pl)(Aa bl:Nat->Option Blk)(w:World):Env:={w,ok:=λg=>(ok0 g\/(base<=g/\¬ok0.no g))/\¬Own pl Aa g,base,pl,bl}
theorem zH{P:Program}{is:List BT}{ids:List Nat}{y:BT.dens is}{ok0:OK0 P}{base:Nat}{pl:Nat->Option Pl}{bl Aa:Nat->Option Blk}{w:World}(hr:RelB ok0 base pl Aa w)(AO:∀i B,bl i=some B->Aa i=some B)(hy:CF bl ids is ids=some y){g:Nat}(ho:Own (λb=>(ids[b]?).map (plOf (envR ok0 base pl Aa bl w))) (fnBl (mkB (AH 0 is.length) is y)) g):Own pl Aa g:=by
 obtain⟨b,B,p,_,_,hp,hg⟩:=ho;cases hb:ids[b]? with
 |none=>simp[hb]at hp
 |some i=>
  simp only[hb,EM,Af]at hp;cases C6:bl i with
  |none=>
   have:plOf (envR ok0 base pl Aa bl w) i=.row (.slice none 0 0) []:=by simp[plOf,envR,C6]
   rw[this]at hp;subst hp;have hg:=Pl.has_row hg;simp[Value.ownBlock]at hg
  |some B=>
   obtain⟨q,hq,_⟩:=hr.blks i B (AO i B C6);have:plOf (envR ok0 base pl Aa bl w) i=q:=by simp[plOf,envR,C6,hq]
   rw[this]at hp;subst hp;obtain⟨_,Hm,_⟩:=gB (ids2:=AH 0 is.length) hy;exact⟨i,B,q,AO i B C6,Hm i (CI hb) B C6,hq,hg⟩
theorem zI{P:Program}{ps:List (Bool×List CT)}{is:List BT}{ids:List Nat}{vs:List V}{us:List Value}{x:ST.dens ps}{y:BT.dens is}{ok0 ok1:OK0 P}{base:Nat}{pl:Nat->Option Pl}{bl Aa:Nat->Option Blk}{w:World}(hr:RelB ok0 base pl Aa w)(AO:∀i B,bl i=some B->Aa i=some B)(Gc:∀i∈ids,bl i=none->Aa i=none)(hx:G6 bl ids ps vs=some x)(hy:CF bl ids is ids=some y)(c3:ids.Nodup)(c4:∀b∈Fx ps vs++Ey bl is ids,b∉ids)(Dp:VReps (envR ok0 base pl Aa bl w) vs us)(k1:∀g,(ok0 g\/(base<=g/\¬ok0.no g))->¬Own pl Aa g->(ok1 g\/(base<=g/\¬ok1.no g)))(k2:Fx ps vs++Ey bl is ids=[]\/ok1=ok0)(k3:∀g,ok1.no g->g<w.heap.size/\¬Own (λb=>(ids[b]?).map (plOf (envR ok0 base pl Aa bl w))) (fnBl (mkB (AH 0 is.length) is y)) g)(k4:∀g,ok1.no g->ok0.no g\/Own pl Aa g\/w.heap.size<=g):RelB ok1 base (λb=>(ids[b]?).map (plOf (envR ok0 base pl Aa bl w))) (fnBl (mkB (AH 0 is.length) is y)) w/\TReps (Al ok1 base (λb=>(ids[b]?).map (plOf (envR ok0 base pl Aa bl w))) (fnBl (mkB (AH 0 is.length) is y)) w) (mkS (AH 0 is.length) ps x) us/\ids.length=is.length/\(∀i∈ids,∀B,bl i=some B->B.live=true)/\(∀g,Own (λb=>(ids[b]?).map (plOf (envR ok0 base pl Aa bl w))) (fnBl (mkB (AH 0 is.length) is y)) g->∃i B p,i∈ids/\bl i=some B/\B.live=true/\pl i=some p/\p.has g):=by
 let E:Env:=(envR ok0 base pl Aa bl w)
 let plv:Nat->Option Pl:=λb=>(ids[b]?).map (plOf E)
 let blv:Nat->Option Blk:=fnBl (mkB (AH 0 is.length) is y)
 let Ev:Env:=Al ok1 base plv blv w
 have Gb:Ext (Al ok0 base pl Aa w) E:=⟨AC _,λg h _=>⟨h,rfl⟩,λ_ _ h=>h,λb sv Ab h=>⟨sv,Ab,h,KeepR.of_eq (λC hC=>AO b C hC) _ _⟩⟩
 have Lp:DN E:=λi B hB=>by obtain⟨p,hp,hB2⟩:=hr.blks i B (AO i B hB);exact⟨p,hp,BRep.mono Gb hB2 λ_ _=>rfl⟩
 have Q0:∀b p g,plv b=some p->p.has g->∃i B,ids[b]?=some i/\bl i=some B/\pl i=some p:=by
  intro b p g hp hg;cases hb:ids[b]? with
  |none=>simp[plv,hb]at hp
  |some i=>
   simp only[plv,hb,EM,Af]at hp;cases C6:bl i with
   |none=>
    have:plOf E i=.row (.slice none 0 0) []:=by simp[plOf,E,envR,C6]
    rw[this]at hp;subst hp;have hg:=Pl.has_row hg;simp[Value.ownBlock]at hg
   |some B=>
    obtain⟨q,hq,_⟩:=hr.blks i B (AO i B C6);have:plOf E i=q:=by simp[plOf,E,envR,C6,hq]
    rw[this]at hp;subst hp;exact⟨i,B,rfl,C6,hq⟩
 obtain⟨Bb,Hm,htreeB⟩:=gB (ids2:=AH 0 is.length) hy
 have Ak:∀g,Own plv blv g->∃i B p,i∈ids/\bl i=some B/\B.live=true/\pl i=some p/\p.has g:=by rintro g ⟨b,B,p,hB,hl,hp,hg⟩;obtain⟨i,B',h1,h2,h3⟩:=Q0 b p g hp hg;have hi:=CI h1;exact⟨i,B',p,hi,h2,Hm i hi B' h2,h3,hg⟩
 have JE:∀g,Own plv blv g->Own pl Aa g:=λg h=>by obtain⟨i,B,p,_,h1,h2,h3,h4⟩:=Ak g h;exact⟨i,B,p,AO _ _ h1,h2,h3,h4⟩
 have Dg:∀g,E.ok g->Ev.ok g:=λg h=>⟨k1 g h.1 h.2,λho=>h.2 (JE g ho)⟩
 have key1:∀g b B p,b∈Fx ps vs++Ey bl is ids->Aa b=some B->B.live=true->pl b=some p->p.has g->base<=g->(ok1 g\/(base<=g/\¬ok1.no g)):=λg b B p hb hB hl hp hg Qu=>by
  rcases k2 with h|h
  ·rw[h]at hb;cases hb
  ·rw[h];exact .inr ⟨Qu,λhn=>(hr.glob.no g hn).2 ⟨b,B,p,hB,hl,hp,hg⟩⟩
 have M7:∀l:List Nat,(∀b∈l,b∈Fx ps vs++Ey bl is ids)->Rows E E.bl Ev.ok l:=λl Gd=>⟨Dg,λb hb t e ver l' DC=>⟨DC,λsv g Aq hg=>by
  have BM:Aa b=some (.row t e ver l'):=AO _ _ DC;have CY:pl b=some (.row sv []):=Aq;refine⟨key1 g b _ _ (Gd b hb) BM rfl CY (.inl hg) ?_,λho=>?_⟩
  ·obtain⟨p,hp,hB⟩:=hr.blks b _ BM
   rw[CY]at hp;injection hp with hp;subst hp;obtain⟨_,xs,_,ho⟩:=hB;rcases ho.2 with⟨h1,_⟩|⟨g',cap,AQ,h1,h2,_⟩
   ·rw[h1]at hg;simp[Value.ownBlock]at hg
   ·rw[h1]at hg
    simp only[Value.ownBlock,Af]at hg;subst hg;exact h2
  ·obtain⟨i,B,p,hi,h1,h2,h3,h4⟩:=Ak g ho
   have AL:i≠b:=by rintro rfl;exact c4 i (Gd i hb) hi
   exact hr.sep i b _ _ p (.row sv []) g AL (AO _ _ h1) BM h2 rfl h3 CY h4 (.inl hg)⟩,λb hb t et e ver Ag hole l' DC=>⟨DC,λsv Ab g Aq hg=>by
  have BM:Aa b=some (.mat t et e ver Ag hole l'):=AO _ _ DC;have CY:pl b=some (.row sv Ab):=Aq;refine⟨key1 g b _ _ (Gd b hb) BM rfl CY hg ?_,λho=>?_⟩
  ·obtain⟨p,hp,hB⟩:=hr.blks b _ BM
   rw[CY]at hp;injection hp with hp;subst hp;have hM:MatOk (Al ok0 base pl Aa w) t et e hole l' sv Ab:=hB;rcases hg with hg|⟨k,s,Aik,hg⟩
   ·obtain⟨vs,h1,_⟩:=hM.outer
    exact(h1.lt g hg).1
   ·have Ao:k<l'.length:=by rw[<-hM.len];exact(Eu.1 Aik).1
    obtain⟨xs,_,h2⟩:=hM.inner k s l'[k] Aik (DK Ao);exact(h2.lt g hg).1
  ·obtain⟨i,B,p,hi,h1,h2,h3,h4⟩:=Ak g ho
   have AL:i≠b:=by rintro rfl;exact c4 i (Gd i hb) hi
   exact hr.sep i b _ _ p (.row sv Ab) g AL (AO _ _ h1) BM h2 rfl h3 CY h4 hg⟩,λb hb t e ver Ag hole l' DC=>⟨DC,λsv Ab g Aq hg=>by
  have BM:Aa b=some (.tree t e ver Ag hole l'):=AO _ _ DC;have CY:pl b=some (.row sv Ab):=Aq;refine⟨key1 g b _ _ (Gd b hb) BM rfl CY hg (fE hr BM rfl CY hg).1,λho=>?_⟩;obtain⟨i,B,p,hi,h1,h2,h3,h4⟩:=Ak g ho;have AL:i≠b:=by rintro rfl;exact c4 i (Gd i hb) hi
  exact hr.sep i b _ _ p (.row sv Ab) g AL (AO _ _ h1) BM h2 rfl h3 CY h4 hg⟩⟩
 have UM:Ren E Ev ids (AH 0 is.length):=by
  have key:∀b i,ids[b]?=some i->Ev.pl ((AH 0 is.length).getD b 0)=some (plOf E i):=by
   intro b i hi;have Ao:b<is.length:=by rw[<-Bb];exact(Eu.1 hi).1
   rw[Ng Ao];simp[Ev,Al,plv,hi]
  refine⟨λb i g hi h=>?_,λb i sv Ab t e ver l hi hb h=>?_,λb i sv Ab t et e ver Ag hole l hi hb h=>?_,λb i sv Ab t e ver Ag l hi hb h=>?_,λb i t e ver Ag l t' e' ver' Bp h' l' hi Aj DC=>?_,λb i hi h=>?_⟩
  ·rw[key b i hi]
   have h':pl i=some (.cells g):=h;cases C6:bl i with
   |none=>rw[hr.fresh i (Gc i (CI hi) C6)]at h';cases h'
   |some B=>simp[plOf,E,envR,C6,h']
  ·rw[key b i hi]
   have h':pl i=some (.row sv Ab):=h;have Aw:bl i=some _:=hb;simp[plOf,E,envR,Aw,h']
  ·rw[key b i hi]
   have h':pl i=some (.row sv Ab):=h;have Aw:bl i=some _:=hb;simp[plOf,E,envR,Aw,h']
  ·rw[key b i hi]
   have h':pl i=some (.row sv Ab):=h;have Aw:bl i=some _:=hb;simp[plOf,E,envR,Aw,h']
  ·have Ao:b<is.length:=by rw[<-Bb];exact(Eu.1 hi).1
   rw[Ng Ao]at DC;exact htreeB b i t e ver Ag l t' e' ver' Bp h' l' hi Aj DC
  ·rw[key b i hi]
   have h':bl i=none:=h;simp[plOf,E,envR,h']
 have hS:=fZ Lp (show Ev.w=E.w from rfl) UM (M7 _ λb hb=>Dl _ hb) Dp hx;obtain⟨_,hB⟩:=JY Lp (show Ev.w=E.w from rfl) rfl UM Dg (M7 _ λb hb=>D7 _ hb) hy;refine⟨⟨hr.baseLe,λi B hBi=>?_,λi j B C p q g Db hBi hCj hl hlC hp hq CK Bn=>?_,λi hi=>?_,⟨hr.glob.g0.gen (AC _) (λg _ h1 _=>⟨rfl,λq=>h1 (JE g q)⟩) k4,k3⟩⟩,hS,Bb,Hm,Ak⟩
 ·have Ao:i<ids.length:=by have:=(Eu.1 (show(mkB (AH 0 is.length) is y)[i]?=some B from hBi)).1;rw[FU]at this;omega
  obtain⟨B',h1,h2,_⟩:=hB i ids[i] (DK Ao);have h4:(mkB (AH 0 is.length) is y)[i]?=some B:=hBi;rw[h1]at h4;injection h4 with h4;subst h4;exact⟨plOf E ids[i],by simp[DK Ao,E],h2⟩
 ·obtain⟨i',B',h1,h2,h3⟩:=Q0 i p g hp CK
  obtain⟨j',C',h4,h5,h6⟩:=Q0 j q g hq Bn
  have AL:i'≠j':=by rintro rfl;have q1:=Jr c3 h1;have q2:=Jr c3 h4;rw[q1]at q2;injection q2 with q2;exact Db q2
  exact hr.sep i' j' B' C' p q g AL (AO _ _ h2) (AO _ _ h5) (Hm i' (CI h1) B' h2) (Hm j' (CI h4) C' h5) h3 h6 CK Bn
 ·have Qu:ids.length<=i:=by have h1:(mkB (AH 0 is.length) is y)[i]?=none:=hi;rw[OE,FU]at h1;omega
  simp[QS Qu]
theorem AlB{P:Program}{ps:List (Bool×List CT)}{is:List BT}{ids:List Nat}{vs:List V}{us:List Value}{x:ST.dens ps}{y:BT.dens is}{ok0:OK0 P}{base:Nat}{pl:Nat->Option Pl}{bl Aa:Nat->Option Blk}{w:World}(hr:RelB ok0 base pl Aa w)(AO:∀i B,bl i=some B->Aa i=some B)(Gc:∀i∈ids,bl i=none->Aa i=none)(hx:G6 bl ids ps vs=some x)(hy:CF bl ids is ids=some y)(c3:ids.Nodup)(c4:∀b∈Fx ps vs++Ey bl is ids,b∉ids)(Dp:VReps (envR ok0 base pl Aa bl w) vs us):RelB ok0 base (λb=>(ids[b]?).map (plOf (envR ok0 base pl Aa bl w))) (fnBl (mkB (AH 0 is.length) is y)) w/\TReps (Al ok0 base (λb=>(ids[b]?).map (plOf (envR ok0 base pl Aa bl w))) (fnBl (mkB (AH 0 is.length) is y)) w) (mkS (AH 0 is.length) ps x) us/\ids.length=is.length/\(∀i∈ids,∀B,bl i=some B->B.live=true)/\(∀g,Own (λb=>(ids[b]?).map (plOf (envR ok0 base pl Aa bl w))) (fnBl (mkB (AH 0 is.length) is y)) g->∃i B p,i∈ids/\bl i=some B/\B.live=true/\pl i=some p/\p.has g):=
 zI hr AO Gc hx hy c3 c4 Dp (λ_ h _=>h) (.inr rfl) (λg hn=>⟨(hr.glob.no g hn).1,λho=>(hr.glob.no g hn).2 (zH hr AO hy ho)⟩) λ_ h=>.inl h
theorem View.weaken{P:Program}{n:Nat}{v:View}{σ:St}{d:v.den}(hd:v.read σ=some d){ok0:OK0 P}{base:Nat}{pl:Nat->Option Pl}{a:Act}{w:World}(hr:Rel n ok0 base pl (look σ.tm) (look σ.bl) a w):∃plv,Rel n ok0 base plv (look (v.mk' d).tm) (look (v.mk' d).bl) a w/\StepM v.m pl (look σ.bl) w plv (look (v.mk' d).bl) w:=by
 unfold View.read at hd;split at hd
 ·cases hd
 rename_i vs Dp;split at hd
 ·cases hd
 rename_i ids _;split at hd
 ·cases hd
 rename_i x hx;split at hd
 ·cases hd
 rename_i y hy;cases hc:(Nat.ble v.m v.ins.length&&(Nh (ids.take v.m) (AH 0 v.m)&&(IK ids&&!meet (Fx v.params vs++Ey (look σ.bl) v.ins ids) ids)))with
 |false=>rw[hc]at hd;cases hd
 |true=>
  simp only[hc,Am,Af]at hd;subst hd;obtain⟨c1,hc⟩:=andB hc;obtain⟨c2,hc⟩:=andB hc;obtain⟨c3,c4⟩:=andB hc;have c2:=zG c2;simp only[MK]at c4;obtain⟨q1,q2,_,_,q5⟩:=AlB (bl:=look σ.bl) hr.rel (λ_ _ h=>h) (λ_ _ h=>h) hx hy (Po c3) (Ww.1 c4) (zD hr.tmps Dp);rw[Ni];refine⟨_,⟨hr.defers,hr.size,λt v' ht=>zF q2 t v' ht,q1⟩,rfl,rfl,rfl,AC _,λg _ ho=>⟨rfl,λh=>?_⟩,λb g hb hp=>?_,λb sv Ab hb hp=>?_⟩
  ·obtain⟨i,B,p,_,h1,h2,h3,h4⟩:=q5 g h
   exact ho ⟨i,B,p,h1,h2,h3,h4⟩
  all_goals
   have HV:ids[b]?=some b:=by
    have h1:(ids.take v.m)[b]?=some b:=by rw[c2];simpa using eU (n:=v.m) (s:=0) hb
    rwa [QP hb]at h1
  ·cases C6:look σ.bl b with
   |none=>rw[hr.rel.fresh b C6]at hp;cases hp
   |some B=>simp[HV,plOf,envR,C6,hp]
  ·cases C6:look σ.bl b with
   |none=>rw[hr.rel.fresh b C6]at hp;cases hp
   |some B=>exact⟨sv,Ab,by simp[HV,plOf,envR,C6,hp]⟩
end
end Go.Lift
